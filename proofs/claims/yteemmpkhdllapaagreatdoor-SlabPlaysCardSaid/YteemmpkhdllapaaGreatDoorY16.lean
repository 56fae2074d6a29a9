/- Texts of this proof, some in one. No condition. -/
import Derived.Test.YteemmpkhdllapaaGreatDoorY15
set_option linter.unusedSimpArgs false
set_option linter.unusedVariables false
namespace Go.Proofs.YteemmpkhdllapaaGreatDoor
open Go.V Classical
theorem fset_fset {α:Type} (f:Nat→α) (k:Nat) (a b:α):fset (fset f k a) k b=fset f k b:=by
 funext i
 by_cases e:i=k
 ·subst e;rw [fset_same,fset_same]
 ·rw [fset_ne _ _ e,fset_ne _ _ e,fset_ne _ _ e]
section
variable {w₀:World} {h h' h0 hx:Heap} {c:Cfg} {M:RW7} {O P n m:Nat} {K:Value→Heap→Prop} {E:Res} {rs:List Res} {Y':RW5} {b0 b1:Nat}
theorem d7_put (B:(lR b0 (d7v c M O P n m)).P h) (Y':RW5) (P' n':Nat):WrN h ((⟨b0,0,none⟩ : Addr).add 3) 4 ∧
  Stp h (setCs h ((⟨b0,0,none⟩ : Addr).add 3) 0 [.int .i64 (O:Int),.int .i64 (P':Int),.slice Y'.fp (O+1) Y'.fc,.slice Y'.vp n' Y'.vc]) (lR b0 (d7v c M O P n m)) (lR b0 (d7v c { M with Y:=Y' } O P' n' m)):=by
 rw [add_mk,Nat.zero_add]
 have B:Blk h b0 9 (lF (d7v c M O P n m)):=B
 refine ⟨fun j hj=>by rw [add_mk];exact B.wr (by omega),Stp.sets B [.int .i64 (O:Int),.int .i64 (P':Int),.slice Y'.fp (O+1) Y'.fc,.slice Y'.vp n' Y'.vc] 3 0 (g:=lF (d7v c { M with Y:=Y' } O P' n' m)) fun j hj=>?_⟩
 have:j=0∨j=1∨j=2∨j=3∨j=4∨j=5∨j=6∨j=7∨j=8:=by omega
 rcases this with rfl | rfl | rfl | rfl | rfl | rfl | rfl | rfl | rfl<;>rfl
theorem out7 {l1:List Value} (I:Go.V.Own h0 hx E (lR b1 l1::lR b0 (d7v c M O P n m)::rs)) (hl:l1.length=9) (X:List Value→Heap→Prop) (hX:∀h',Go.V.Own h0 h' E (lR b1 (d7v c M O P n m)::lR b0 (d7v c M O P n m)::rs)→X (d7v c M O P n m) h') :
  L_uiiiissss hx ⟨b0,0,none⟩ fun l=>WrN hx ⟨b1,0,none⟩ 9∧L_uiiiissss (setCs hx ⟨b1,0,none⟩ 0 l) ⟨b1,0,none⟩ fun z=>X z (setCs hx ⟨b1,0,none⟩ 0 l):=by
 have B:=I.at 1
 refine ⟨_,cell_l0 B,_,cell_l B 1,_,cell_l B 2,_,cell_l B 3,_,cell_l B 4,_,_,_,cell_l B 5,_,_,_,cell_l B 6,_,_,_,cell_l B 7,_,_,_,cell_l B 8,?_⟩
 obtain ⟨w5,S5⟩:=assign_l (I.at 0) (d7v c M O P n m) (by rw [hl];rfl)
 have I3:=I.step 0 S5
 rw [hl] at w5
 refine ⟨w5,?_⟩
 have B:=I3.at 0
 exact ⟨_,cell_l0 B,_,cell_l B 1,_,cell_l B 2,_,cell_l B 3,_,cell_l B 4,_,_,_,cell_l B 5,_,_,_,cell_l B 6,_,_,_,cell_l B 7,_,_,_,cell_l B 8,hX _ I3⟩
theorem Need7_ok {S:Nat→Prop} {x:BU} {fl:Nat→List Nat} {V:List PBk} {z:Int} {deny:Bool} (W:WS S c x fl V) (H:(rfR M.Y x.m.o fl V).P h)
  (hb:(z<0∨z>x.m.o)→∀h',Upd NoB h h'→K (.tuple #[pv7 c M x.m.o x.m.n V.length m,.int .i64 0,.bool false,.int .i64 1]) h')
  (hm:∀on:Nat,z=on→on≤x.m.o→(∀j,on≤j→j≤x.m.o→fl j=[])→(deny=true∨(x.st.n:Int)≥c.limit)→∀h',Upd NoB h h'→K (.tuple #[pv7 c M x.m.o x.m.n V.length m,.int .i64 0,.bool false,.int .i64 2]) h')
  (h0:∀on:Nat,z=on→on≤x.m.o→∀j p l,on≤j→j≤x.m.o→fl j=p::l→(∀i,on≤i→i<j→fl i=[])→∀h' Y',Stp h h' (rfR M.Y x.m.o fl V) (rfR Y' x.m.o (aCut p on (fset fl j l) (j-on)) (V++[(p,on)])) →
   K (.tuple #[pv7 c { M with Y:=Y' } x.m.o x.m.n (V++[(p,on)]).length m,.int .i64 (p:Int),.bool false,.int .i64 0]) h')
  (h1:∀on:Nat,z=on→on≤x.m.o→(∀j,on≤j→j≤x.m.o→fl j=[])→deny=false→(x.st.n:Int)<c.limit→∀h' Y',Stp h h' (rfR M.Y x.m.o fl V) (rfR Y' x.m.o (aCut x.m.n on (fset fl x.m.o []) (x.m.o-on)) (V++[(x.m.n,on)])) →
   K (.tuple #[pv7 c { M with Y:=Y' } x.m.o (x.m.n+2 ^ x.m.o) (V++[(x.m.n,on)]).length m,.int .i64 (x.m.n:Int),.bool true,.int .i64 0]) h') :
  CallV Tryz.prog w₀ F.croftref7_Need [pv7 c M x.m.o x.m.n V.length m,.int .i64 z,.bool deny] h K:=by
 have o8:=W.ok.m.o8
 have n1:=W.ok.m.n1
 have eo:=W.ok.o
 have lV:=W.lenV
 have p2:=Nat.two_pow_pos x.m.o
 have N0:=box_l h (d7v c M x.m.o x.m.n V.length m) T.T_croftref7_Slab
 refine croftref7_Need.call ?_
 try dsimp only
 generalize Array.push h (.cells (List.toArray (d7v c M x.m.o x.m.n V.length m)) T.T_croftref7_Slab)=h1' at N0 ⊢
 have N1:=box_l h1' z7 T.T_croftref7_Slab
 generalize Array.push h1' (.cells (List.toArray z7) T.T_croftref7_Slab)=h2 at N1 ⊢
 obtain ⟨b0,e0⟩ : ∃b,b=h.size:=⟨_,rfl⟩
 obtain ⟨b1,e1⟩ : ∃b,b=h1'.size:=⟨_,rfl⟩
 rw [←e0] at N0 ⊢
 rw [←e1] at N1 ⊢
 have I0:=((Go.V.Own.of H).new N0).new N1
 have u2:Upd NoB h h2:=N0.u.nx N1.u fun _ e _=>e
 have B:=I0.at 1
 refine ⟨_,cell_l B 3,_,cell_l B 4,_,_,_,cell_l B 5,_,_,_,cell_l B 6,?_⟩
 have put:∀(h17:Heap) (Y1:RW5) (P1 n1:Nat) (b17:Nat) (rs:List Res) (X:List Value→Heap→Prop) (E':Res),Go.V.Own h h17 E' (lR b17 [.int .i64 (x.m.o:Int),.int .i64 (P1:Int),.slice Y1.fp (x.m.o+1) Y1.fc,.slice Y1.vp n1 Y1.vc]::lR b1 z7::lR b0 (d7v c M x.m.o x.m.n V.length m)::rs) →
   (∀h',Go.V.Own h h' E' (lR b1 (d7v c { M with Y:=Y1 } x.m.o P1 n1 m)::lR b0 (d7v c { M with Y:=Y1 } x.m.o P1 n1 m)::rs)→X (d7v c { M with Y:=Y1 } x.m.o P1 n1 m) h') →
   L_iiss h17 ⟨b17,0,none⟩ fun n23=>(WrN h17 ((⟨b0,0,none⟩ : Addr).add 3) 4∧(L_uiiiissss (setCs h17 ((⟨b0,0,none⟩ : Addr).add 3) 0 n23) ⟨b0,0,none⟩ fun n25=>(WrN (setCs h17 ((⟨b0,0,none⟩ : Addr).add 3) 0 n23) ⟨b1,0,none⟩ 9∧(L_uiiiissss (setCs (setCs h17 ((⟨b0,0,none⟩ : Addr).add 3) 0 n23) ⟨b1,0,none⟩ 0 n25) ⟨b1,0,none⟩ fun z0=>X z0 (setCs (setCs h17 ((⟨b0,0,none⟩ : Addr).add 3) 0 n23) ⟨b1,0,none⟩ 0 n25))))):=by
  intro h17 Y1 P1 n1 b17 rs X E' I hX
  have B:=I.at 0
  obtain ⟨w4,S4⟩:=d7_put (I.at 2) Y1 P1 n1
  refine ⟨_,cell_l0 B,_,cell_l B 1,_,_,_,cell_l B 2,_,_,_,cell_l B 3,w4,?_⟩
  have I2:=(I.step 2 S4).drop
  exact out7 I2 rfl X hX
 refine ref5_Take_ok (Y:=M.Y) (fl:=fl) (L:=V) o8 W.flOk (by omega) (I0.at 2) (fun hz h3 u3=>⟨_,_,_,_,_,_,_,_,_,_,rfl,?_⟩) (fun on ez ho he h3 u3=>⟨_,_,_,_,_,_,_,_,_,_,rfl,?_⟩) fun on ez ho j p l j1 j2 hF hi h3 Y' S3=>⟨_,_,_,_,_,_,_,_,_,_,rfl,?_⟩
 ·
  have N3:=box_l h3 [.int .i64 0,.int .i64 0,.slice none 0 0,.slice none 0 0] T.T_croftref5_Buddy
  generalize Array.push h3 (.cells (List.toArray [.int .i64 0,.int .i64 0,.slice none 0 0,.slice none 0 0]) T.T_croftref5_Buddy)=h4 at N3 ⊢
  have J0:Go.V.Own h h2 noR [lR b1 z7,lR b0 (d7v c M x.m.o x.m.n V.length m)]:=(((Go.V.Own.of (E:=noR) trivial).drop.new N0).new N1)
  have J4:=(J0.quiet u3).new N3
  obtain ⟨w4,S4⟩:=assign_l (J4.at 0) [.int .i64 (x.m.o:Int),.int .i64 (x.m.n:Int),.slice M.Y.fp (x.m.o+1) M.Y.fc,.slice M.Y.vp V.length M.Y.vc]
  have J5:=J4.step 0 S4
  refine ⟨w4,iT rfl ?_⟩
  exact put _ M.Y x.m.n V.length _ _ (fun z0 hh=>K (.tuple #[.agg z0.toArray,.int .i64 0,.bool false,.int .i64 1]) hh) noR J5 fun h' J=>hb hz h' J.u
 ·
  have N3:=box_l h3 [.int .i64 0,.int .i64 0,.slice none 0 0,.slice none 0 0] T.T_croftref5_Buddy
  generalize Array.push h3 (.cells (List.toArray [.int .i64 0,.int .i64 0,.slice none 0 0,.slice none 0 0]) T.T_croftref5_Buddy)=h4 at N3 ⊢
  obtain ⟨b3,e3⟩ : ∃b,b=h3.size:=⟨_,rfl⟩
  rw [←e3] at N3 ⊢
  have I4:=(I0.quiet u3).new N3
  have J0:Go.V.Own h h2 noR [lR b1 z7,lR b0 (d7v c M x.m.o x.m.n V.length m)]:=(((Go.V.Own.of (E:=noR) trivial).drop.new N0).new N1)
  have J4:=(J0.quiet u3).new N3
  obtain ⟨w4,S4⟩:=assign_l (I4.at 0) [.int .i64 (x.m.o:Int),.int .i64 (x.m.n:Int),.slice M.Y.fp (x.m.o+1) M.Y.fc,.slice M.Y.vp V.length M.Y.vc]
  have I5:=I4.step 0 S4
  have J5:=J4.step 0 S4
  refine ⟨w4,iF rfl ?_⟩
  generalize setCs h4 ⟨b3,0,none⟩ 0 [.int .i64 (x.m.o:Int),.int .i64 (x.m.n:Int),.slice M.Y.fp (x.m.o+1) M.Y.fc,.slice M.Y.vp V.length M.Y.vc]=h5 at I5 J5 ⊢
  have I5:Go.V.Own h h5 (rfR M.Y x.m.o fl V) [lR b3 [.int .i64 (x.m.o:Int),.int .i64 (x.m.n:Int),.slice M.Y.fp (x.m.o+1) M.Y.fc,.slice M.Y.vp V.length M.Y.vc],lR b1 z7,lR b0 (d7v c M x.m.o x.m.n V.length m),rfR M.Y x.m.o fl V]:=I5
  have J5:Go.V.Own h h5 noR [lR b3 [.int .i64 (x.m.o:Int),.int .i64 (x.m.n:Int),.slice M.Y.fp (x.m.o+1) M.Y.fc,.slice M.Y.vp V.length M.Y.vc],lR b1 z7,lR b0 (d7v c M x.m.o x.m.n V.length m)]:=J5
  intro J8 hJ8
  have no:(deny=true∨(x.st.n:Int)≥c.limit)→J8 true h5:=fun hd=>hJ8 _ _ (iT rfl (out7 J5.drop rfl (fun z0 hh=>K (.tuple #[.agg z0.toArray,.int .i64 0,.bool false,.int .i64 2]) hh) fun h' J=>hm on ez ho he hd h' J.u))
  cases deny with
  | true=>exact pT rfl (no (.inl rfl))
  | false =>
   have B5:=I5.at 2
   have e8:min (Int.toNat (IntKind.wrap .u64 c.order)) (IntKind.bits .i64)=x.m.o:=by
    rw [←eo,IntKind.wrap_u64]
    show min _ 64=_
    omega
   refine pF rfl ⟨_,cell_l B5 4,_,cell_l B5 2,(by rw [IntKind.wrap_u64];omega),_,cell_l B5 1,?_⟩
   have e9:IntKind.wrap .u64 (x.m.o:Int)=(x.m.o:Int):=wU (by unfold U64;omega)
   have ef:Int.fdiv (x.m.n:Int) (2 ^ min (Int.toNat (IntKind.wrap .u64 (x.m.o:Int))) (IntKind.bits .i64))=(x.st.n:Int):=by
    rw [e9,Int.toNat_natCast]
    have:min x.m.o (IntKind.bits .i64)=x.m.o:=by show min _ 64=_;omega
    rw [this,Int.fdiv_eq_ediv_of_nonneg _ (by exact_mod_cast Nat.zero_le _),W.e,Int.natCast_mul]
    have h2:((2 ^ x.m.o:Nat):Int)=(2:Int) ^ x.m.o:=by norm_cast
    rw [←h2]
    exact Int.mul_ediv_cancel _ (by omega)
   rw [ef]
   by_cases hlim:(x.st.n:Int)≥c.limit
   ·rw [decide_eq_true hlim];exact no (.inr hlim)
   rw [decide_eq_false hlim]
   refine hJ8 _ _ (iF rfl ⟨_,cell_l B5 3,_,cell_l B5 4,_,_,_,cell_l B5 5,_,_,_,cell_l B5 6,?_⟩)
   refine come5_ok (Y:=M.Y) (fl:=fl) (L:=V) o8 n1 (by omega) (I5.at 3) fun h6 Y1 S6=>⟨_,_,_,_,_,_,_,_,rfl,?_⟩
   have I6:=I5.step 3 S6
   have room:=room W (by omega)
   have al5:∀b∈V++[(x.m.n,x.m.o)],b.1≤2000∧b.2≤x.m.o∧b.1 % 2 ^ b.2=0:=fun b hb=>by
    rcases List.mem_append.1 hb with hb | hb
    ·exact W.al5 b hb
    ·have hb:b=(x.m.n,x.m.o):=by simpa using hb
     subst hb
     exact ⟨by omega,Nat.le_refl _,by simp only [];rw [W.e];exact Nat.mul_mod_left _ _⟩
   have hPs:x.m.n+2 ^ x.m.o-2 ^ x.m.o=x.m.n:=Nat.add_sub_cancel _ _
   refine ref5_Feed_ok (Y:=Y1) (fl:=fl) (L:=V++[(x.m.n,x.m.o)]) (P:=x.m.n+2 ^ x.m.o) o8 room (fun _=>Nat.le_add_left _ _) W.fl5 (by simp;omega) al5 (I6.at 3) (fun hn=>absurd ⟨by omega,by rw [hPs];simp⟩ hn) fun _ _ h7 Y2 S7=>⟨_,_,_,_,_,_,_,_,_,rfl,?_⟩
   rw [hPs] at S7 ⊢
   have eV:(V++[(x.m.n,x.m.o)]).filter (·.1≠x.m.n)=V:=by
    rw [List.filter_append]
    have h1:V.filter (·.1≠x.m.n)=V:=List.filter_eq_self.2 fun b hb=>by
     have al:=W.alb hb
     have h0:=Nat.two_pow_pos b.2
     simp;omega
    rw [h1];simp
   rw [eV] at S7 ⊢
   have I7:=I6.step 3 S7
   obtain ⟨w8,S8⟩:=assign_l (I7.at 0) [.int .i64 (x.m.o:Int),.int .i64 ((x.m.n+2 ^ x.m.o:Nat):Int),.slice Y2.fp (x.m.o+1) Y2.fc,.slice Y2.vp V.length Y2.vc]
   have I8:=I7.step 0 S8
   refine ⟨w8,?_⟩
   generalize setCs h7 ⟨b3,0,none⟩ 0 [.int .i64 (x.m.o:Int),.int .i64 ((x.m.n+2 ^ x.m.o:Nat):Int),.slice Y2.fp (x.m.o+1) Y2.fc,.slice Y2.vp V.length Y2.vc]=h8 at I8 ⊢
   have B8:=I8.at 0
   refine ⟨_,cell_l0 B8,_,cell_l B8 1,_,_,_,cell_l B8 2,_,_,_,cell_l B8 3,?_⟩
   have fl0:fl x.m.o=[]:=he _ ho (Nat.le_refl _)
   rw [fl0] at I8
   have fOk:FlOk x.m.o (fset fl x.m.o [x.m.n]):=by
    have f:=W.flOk
    refine ⟨fun k hk=>?_,fun k hk=>?_,fun k hk=>?_⟩
    ·by_cases e:k=x.m.o
     ·rw [e,fset_same];simp
     ·rw [fset_ne _ _ e];exact f.len k hk
    ·by_cases e:k=x.m.o
     ·rw [e,fset_same];simp
     ·rw [fset_ne _ _ e];exact f.nd k hk
    ·by_cases e:k=x.m.o
     ·rw [e,fset_same];intro p hp;have:p=x.m.n:=by simpa using hp
      omega
     ·rw [fset_ne _ _ e];exact f.bd k hk
   refine ref5_Take_ok (Y:=Y2) (fl:=fset fl x.m.o [x.m.n]) (L:=V) (P:=x.m.n+2 ^ x.m.o) o8 fOk (by omega) (I8.at 3) (fun hz=>absurd hz (by omega)) (fun on' ez' ho' he'=>by
    have:=he' x.m.o (by omega) (Nat.le_refl _)
    rw [fset_same] at this;cases this) fun on' ez' ho' j p l j1 j2 hF hi h9 Y3 S9=>⟨_,_,_,_,_,_,_,_,_,_,rfl,?_⟩
   obtain rfl:on'=on:=by omega
   have ej:j=x.m.o:=by
    refine Classical.byContradiction fun e=>?_
    rw [fset_ne _ _ e,he j j1 j2] at hF
    cases hF
   subst ej
   rw [fset_same] at hF
   obtain ⟨rfl,rfl⟩:=List.cons.inj hF
   rw [fset_fset] at S9
   have I9:=I8.step 3 S9
   obtain ⟨w10,S10⟩:=assign_l (I9.at 0) [.int .i64 (x.m.o:Int),.int .i64 ((x.m.n+2 ^ x.m.o:Nat):Int),.slice Y3.fp (x.m.o+1) Y3.fc,.slice Y3.vp (V++[(x.m.n,on')]).length Y3.vc]
   have I10:=I9.step 0 S10
   refine ⟨w10,?_⟩
   exact put _ Y3 (x.m.n+2 ^ x.m.o) (V++[(x.m.n,on')]).length _ _ (fun z0 hh=>K (.tuple #[.agg z0.toArray,.int .i64 (x.m.n:Int),.bool true,.int .i64 0]) hh) _ I10 fun h' J=>h1 on' ez ho he rfl (by omega) h' Y3 (J.one 2)
 ·
  have I3:=I0.step 2 S3
  have N3:=box_l h3 [.int .i64 0,.int .i64 0,.slice none 0 0,.slice none 0 0] T.T_croftref5_Buddy
  generalize Array.push h3 (.cells (List.toArray [.int .i64 0,.int .i64 0,.slice none 0 0,.slice none 0 0]) T.T_croftref5_Buddy)=h4 at N3 ⊢
  have I4:=I3.new N3
  obtain ⟨w4,S4⟩:=assign_l (I4.at 0) [.int .i64 (x.m.o:Int),.int .i64 (x.m.n:Int),.slice Y'.fp (x.m.o+1) Y'.fc,.slice Y'.vp (V++[(p,on)]).length Y'.vc]
  have I5:=I4.step 0 S4
  refine ⟨w4,iT rfl ?_⟩
  exact put _ Y' x.m.n (V++[(p,on)]).length _ _ (fun z0 hh=>K (.tuple #[.agg z0.toArray,.int .i64 (p:Int),.bool false,.int .i64 0]) hh) _ I5 fun h' J=>h0 on ez ho j p l j1 j2 hF hi h' Y' (J.one 2)
end
end Go.Proofs.YteemmpkhdllapaaGreatDoor
namespace Go.Proofs.YteemmpkhdllapaaGreatDoor
open Go.V Classical
section
variable {h h' h0 hx:Heap} {c:Cfg} {M:RW7} {O:Nat} {fl:Nat→List Nat} {V:List PBk} {cl:Nat→Nat} {fr pl:Nat→List Nat} {ps ps':List Nat} {E:Res} {rs:List Res} {A B C D:Res}
theorem stp_new {R R':Res} (N:New h h' R'):Stp h h' R R':=⟨N.u.mono fun _ e=>e.elim,N.p,fun b e=>.inr (N.g b e)⟩
theorem ow_open (I:Go.V.Own h0 h E (andR A (andR B (andR C D))::rs)):Go.V.Own h0 h E (A::B::C::D::rs):=by
 have I1:=I.split
 have I2:=(I1.perm (rs':=andR B (andR C D)::A::rs) (.swap _ _ _)).split
 have I3:=(I2.perm (rs':=andR C D::B::A::rs) (.swap _ _ _)).split
 have p:(A::B::C::D::rs).Perm (C::D::B::A::rs):=by
  have h1:([A,B]++([C,D]++rs)).Perm ([C,D]++([B,A]++rs)):=by
   rw [←List.append_assoc,←List.append_assoc]
   refine List.Perm.append_right rs ?_
   exact (List.perm_append_comm (l₁:=[A,B]) (l₂:=[C,D])).trans (List.Perm.append_left [C,D] (.swap _ _ _))
  exact h1
 exact I3.perm p
theorem ow_close (I:Go.V.Own h0 h E (A::B::C::D::rs)):Go.V.Own h0 h E (andR A (andR B (andR C D))::rs):=by
 have p:(C::D::B::A::rs).Perm (A::B::C::D::rs):=by
  have h1:([C,D]++([B,A]++rs)).Perm ([A,B]++([C,D]++rs)):=by
   rw [←List.append_assoc,←List.append_assoc]
   refine List.Perm.append_right rs ?_
   exact (List.Perm.append_left [C,D] (.swap _ _ _)).trans (List.perm_append_comm (l₁:=[C,D]) (l₂:=[A,B]))
  exact h1
 have I3:=(I.perm p).join
 have I2:=(I3.perm (rs':=B::andR C D::A::rs) (.swap _ _ _)).join
 exact (I2.perm (rs':=A::andR B (andR C D)::rs) (.swap _ _ _)).join
noncomputable abbrev frE (M:RW7) (fr:Nat→List Nat) (ps:List Nat) (p:Nat):Res:=if p∈ps then roR (M.qf p) (fr p).length (M.cf p) (nV (fr p)) else noR
theorem frE_ne {p z:Nat} {q:Option Addr} {cq pc:Nat} {pp:Option Addr} {f:List Nat} (hz:z≠p) (hs:z∈ps'↔z∈ps):frE (M.set p q cq pp pc) (fset fr p f) ps' z=frE M fr ps z:=by
 show (if z∈ps' then roR (fset M.qf p q z) (fset fr p f z).length (fset M.cf p cq z) (nV (fset fr p f z)) else noR)=if z∈ps then roR (M.qf z) (fr z).length (M.cf z) (nV (fr z)) else noR
 rw [fset_ne _ _ hz,fset_ne _ _ hz,fset_ne _ _ hz]
 by_cases h:z∈ps
 ·rw [if_pos (hs.2 h),if_pos h]
 ·rw [if_neg (fun e=>h (hs.1 e)),if_neg h]
theorem frE_at {p:Nat} {q:Option Addr} {cq pc:Nat} {pp:Option Addr} {f:List Nat} (hp:p∈ps'):frE (M.set p q cq pp pc) (fset fr p f) ps' p=roR q f.length cq (nV f):=by
 show (if p∈ps' then roR (fset M.qf p q p) (fset fr p f p).length (fset M.cf p cq p) (nV (fset fr p f p)) else noR)=_
 rw [fset_same,fset_same,fset_same,if_pos hp]
theorem own_fr7 {p:Nat} {q:Option Addr} {cq pc:Nat} {pp:Option Addr} {f:List Nat} (hp:p<1024) (hm:p∈ps') (hs:∀z,z≠p→(z∈ps'↔z∈ps)) (I:Go.V.Own h0 h E (slR q f.length cq 1 (nV f)::frR7 M fr ps::rs)) :
  Go.V.Own h0 h E (frR7 (M.set p q cq pp pc) (fset fr p f) ps'::rs):=by
 have I1:=I.join
 have HS0:(slR q f.length cq 1 (nV f)).P h:=I.at 0
 refine I1.as 0 (R:=andR (slR q f.length cq 1 (nV f)) (frR7 M fr ps)) (R':=frR7 (M.set p q cq pp pc) (fset fr p f) ps') (fun H=>?_) fun b e=>?_
 ·obtain ⟨HS,HF,HD⟩:=H
  have fpo:∀z,z≠p→∀b,(frE (M.set p q cq pp pc) (fset fr p f) ps' z).fp b→(frE M fr ps z).fp b:=fun z hz b e=>by rw [frE_ne hz (hs z hz)] at e;exact e
  have fpp:∀b,(frE (M.set p q cq pp pc) (fset fr p f) ps' p).fp b→(slR q f.length cq 1 (nV f)).fp b:=fun b e=>by rw [frE_at hm] at e;exact ro_sl_fp HS b e
  refine ⟨fun z hz=>?_,fun i hi j hj hij b e1 e2=>?_⟩
  ·show (frE (M.set p q cq pp pc) (fset fr p f) ps' z).P h
   by_cases e:z=p
   ·subst e
    rw [frE_at hm]
    exact ro_of_sl HS
   ·rw [frE_ne e (hs z e)]
    exact HF.1 z hz
  ·have e1:(frE (M.set p q cq pp pc) (fset fr p f) ps' i).fp b:=e1
   have e2:(frE (M.set p q cq pp pc) (fset fr p f) ps' j).fp b:=e2
   by_cases ei:i=p
   ·have ej:j≠p:=fun e=>hij (ei.trans e.symm)
    rw [ei] at e1
    exact HD b (fpp b e1) ⟨j,hj,fpo j ej b e2⟩
   ·by_cases ej:j=p
    ·rw [ej] at e2
     exact HD b (fpp b e2) ⟨i,hi,fpo i ei b e1⟩
    ·exact HF.2 i hi j hj hij b (fpo i ei b e1) (fpo j ej b e2)
 ·obtain ⟨z,hz,e⟩:=e
  have e:(frE (M.set p q cq pp pc) (fset fr p f) ps' z).fp b:=e
  by_cases ez:z=p
  ·subst ez
   rw [frE_at hm] at e
   exact .inl (ro_sl_fp HS0 b e)
  ·rw [frE_ne ez (hs z ez)] at e
   exact .inr ⟨z,hz,e⟩
theorem own_fr7' {p:Nat} {q:Option Addr} {cq pc:Nat} {pp:Option Addr} {f:List Nat} (hp:p<1024) (hs:∀z,z≠p→(z∈ps'↔z∈ps)) (I:Go.V.Own h0 h E (frR7 M fr ps::rs))
  (hc:p∈ps'→(frE M fr ps p).P h→(roR q f.length cq (nV f)).P h) (hf:p∈ps'→(frE M fr ps p).P h→∀b,(roR q f.length cq (nV f)).fp b→(frE M fr ps p).fp b) :
  Go.V.Own h0 h E (frR7 (M.set p q cq pp pc) (fset fr p f) ps'::rs):=by
 have HF:(frR7 M fr ps).P h:=I.at 0
 have HE:(frE M fr ps p).P h:=HF.1 p hp
 have fpo:∀z b,(frE (M.set p q cq pp pc) (fset fr p f) ps' z).fp b→(frE M fr ps z).fp b:=fun z b e=>by
  by_cases ez:z=p
  ·subst ez
   by_cases hm:z∈ps'
   ·rw [frE_at hm] at e;exact hf hm HE b e
   ·rw [show frE (M.set z q cq pp pc) (fset fr z f) ps' z=noR from if_neg hm] at e;exact e.elim
  ·rw [frE_ne ez (hs z ez)] at e;exact e
 refine I.as 0 (R:=frR7 M fr ps) (R':=frR7 (M.set p q cq pp pc) (fset fr p f) ps') (fun _=>⟨fun z hz=>?_,fun i hi j hj hij b e1 e2=>HF.2 i hi j hj hij b (fpo i b e1) (fpo j b e2)⟩) fun b ⟨z,hz,e⟩=>⟨z,hz,fpo z b e⟩
 show (frE (M.set p q cq pp pc) (fset fr p f) ps' z).P h
 by_cases ez:z=p
 ·subst ez
  by_cases hm:z∈ps'
  ·rw [frE_at hm];exact hc hm HE
  ·rw [show frE (M.set z q cq pp pc) (fset fr z f) ps' z=noR from if_neg hm];exact trivial
 ·rw [frE_ne ez (hs z ez)]
  exact HF.1 z hz
theorem ro_tail {q:Option Addr} {cq j:Nat} {f:List Nat} (H:(roR q (j::f).length cq (nV (j::f))).P h) :
  (roR (if cq=Int.toNat (1:Int) then q else Option.map (fun b=>Addr.add b (Int.toNat (1:Int)*1)) q) f.length (cq-Int.toNat (1:Int)) (nV f)).P h ∧
  ∀b,(roR (if cq=Int.toNat (1:Int) then q else Option.map (fun b=>Addr.add b (Int.toNat (1:Int)*1)) q) f.length (cq-Int.toNat (1:Int)) (nV f)).fp b→(roR q (j::f).length cq (nV (j::f))).fp b:=by
 obtain ⟨hc,H⟩:=H
 have hl:(j::f).length=f.length+1:=rfl
 rw [hl] at hc
 show _∧_
 rw [show Int.toNat (1:Int)=1 from rfl]
 rcases H with ⟨_,e⟩ | ⟨b,o,e,hb,hcell⟩
 ·rw [hl] at e;omega
 by_cases h1:cq=1
 ·rw [if_pos h1]
  refine ⟨⟨by omega,.inr ⟨b,o,e,hb,fun i hi=>by omega⟩⟩,fun b' e'=>e'⟩
 ·rw [if_neg h1]
  refine ⟨⟨by omega,.inr ⟨b,o+1,by rw [e];rfl,hb,fun i hi=>?_⟩⟩,fun b' ⟨o',e'⟩=>?_⟩
  ·have:=hcell (i+1) (by omega)
   rw [show o+1+i=o+(i+1) by omega,this]
   show some (Value.int .i64 (((j::f).getD (i+1) 0:Nat):Int))=some (.int .i64 ((f.getD i 0:Nat):Int))
   rfl
  ·rw [e] at e'
   have e':some (⟨b,o+1*1,none⟩ : Addr)=some ⟨b',o',none⟩:=e'
   injection e' with e'
   injection e' with e1 e2
   subst e1
   exact ⟨o,e⟩
end
end Go.Proofs.YteemmpkhdllapaaGreatDoor
namespace Go.Proofs.YteemmpkhdllapaaGreatDoor
open Go.V Classical
theorem fset_slf {α:Type} (f:Nat→α) (k:Nat) (v:α) (h:f k=v):fset f k v=f:=by
 funext i
 by_cases e:i=k
 ·rw [e,fset_same,h]
 ·rw [fset_ne _ _ e]
theorem putPs_in {ps:List Nat} {x:Nat} (h:x∈ps):putPs ps x false=ps:=by unfold putPs;rw [if_neg (by decide),if_pos h]
theorem putPs_new {ps:List Nat} {x:Nat} (h:x∉ps):putPs ps x false=ps++[x]:=by unfold putPs;rw [if_neg (by decide),if_neg h]
section
variable {w₀:World} {h h' h0:Heap} {c:Cfg} {O P k q j:Nat} {K:Value→Heap→Prop} {E:Res} {x:BU}
theorem take_tail {M:RW7} {fl:Nat→List Nat} {V:List PBk} {cl:Nat→Nat} {fr pl:Nat→List Nat} {ps:List Nat} {grew:Bool} {l' f:List Nat} {b0 b1:Nat} {hx:Heap}
  (g:c.Good) (hm:x.m.Ok) (hO:O≤8) (hk:k<8) (hq:q∈ps) (hq2:q<1024) (hps:ps.length≤2000) (hcl:cl q=k) (hpl:pl k=q::l') (hfr:fr q=j::f) (hnd:(q::l').Nodup) (hjc:j<cnt k) (hl8:∀i,i<8→(pl i).length≤2000)
  (I:Go.V.Own h0 hx E (lR b1 z7::lR b0 (d7v c M O P V.length ps.length)::rfR M.Y O fl V::frR M.Z 7 pl::outR7 M cl fr ps::frR7 M fr ps::[]))
  (hK:∀h' M2,M2.Y=M.Y→Go.V.Own h0 h' E [rf7R M2 O fl V cl (fset fr q f) (fset pl k (if f=[] then l' else q::l')) ps]→K (.tuple #[pv7 c M2 O P V.length ps.length,.int .u64 (adr c q+((j*wdt k:Nat):Int)),.bool grew,.int .i64 0]) h')
  {J6:List Value→Heap→Prop}
  (hJ6:∀(x1:Int) (x3 x6:Addr) (x10:Bool) (x17:Addr) (hJ6:Heap),(∃n81p n81n n81c,cellAt hJ6 (x17.add 2)=some (.slice n81p n81n n81c)∧(∃a82,n81p=some a82∧0≤(0:Int)∧(0:Int)<n81n∧(∃n83,cellAt hJ6 (a82.add (Int.toNat (0:Int)*1))=some (I6 n83)∧(L_uiiiissss hJ6 x3 fun n84=>(∃n86,cellAt hJ6 x17=some (I6 n86)∧(∃n89p n89n n89c,cellAt hJ6 (x17.add 2)=some (.slice n89p n89n n89c)∧(0≤(1:Int)∧(1:Int)≤(n89n:Int)∧(n89n:Int)≤(n89c:Nat)∧(CV w₀ F.croftref7_put [(.agg n84.toArray),(.agg #[(I6 n86),(I6 x1),(.slice (if n89c=Int.toNat (1:Int) then n89p else Option.map (fun b=>Addr.add b (Int.toNat (1:Int)*1)) n89p) (Int.toNat (n89n:Int)-Int.toNat (1:Int)) (n89c-Int.toNat (1:Int)))]),(.bool false)] hJ6 fun v92 h92=>E_uiiiissss fun r92=>v92=(.agg r92.toArray)∧(WrN h92 x3 9∧(∀J9:LP,(∀(x1:Int) (x3 x6:Addr) (x10:Bool) (x17:Addr) (x18:Int) (hJ9:Heap),(L_uiiiissss hJ9 x3 fun n102=>(L_uiiiissss hJ9 x3 fun n103=>(∃n105,cellAt hJ9 x17=some (I6 n105)∧(CV w₀ F.croftref7_At [(.agg n103.toArray),(I6 n105)] hJ9 fun v106 h106=>∃r106,v106=(U6 r106)∧(C_uiiiissss h106 x3 n102 ((CV w₀ F.croftref7_Width [(I6 x1)] h106 fun v109 h109=>∃r109,v109=(I6 r109)∧(C_uiiiissss h109 x3 n102 ((WrN h109 x6 9∧(L_uiiiissss (setCs h109 x6 0 n102) x6 fun z0=>K (.tuple #[(.agg z0.toArray),(U6 (IntKind.wrap .u64 (r106+(IntKind.wrap .u64 (IntKind.wrap .i64 (x18*r109)))))),(.bool x10),(I6 0)]) (setCs h109 x6 0 n102))))))))))))→J9 [(I6 x1),(PS x3),(PS x6),(.bool x10),(PS x17),(I6 x18)] hJ9)→(∃n94p n94n n94c,cellAt (setCs h92 x3 0 r92) (x17.add 2)=some (.slice n94p n94n n94c)∧((((n94n:Int) == (1:Int))=true→(L_uiiiissss (setCs h92 x3 0 r92) x3 fun n97=>(∃n100,cellAt (setCs h92 x3 0 r92) x17=some (I6 n100)∧(CV w₀ F.croftref7_partial [(.agg n97.toArray),(I6 x1),(I6 n100),(.bool false)] (setCs h92 x3 0 r92) fun v101 h101=>E_uiiiissss fun r101=>v101=(.agg r101.toArray)∧(WrN h101 x3 9∧J9 [(I6 x1),(PS x3),(PS x6),(.bool x10),(PS x17),(I6 n83)] (setCs h101 x3 0 r101))))))∧(((n94n:Int) == (1:Int))=false→J9 [(I6 x1),(PS x3),(PS x6),(.bool x10),(PS x17),(I6 n83)] (setCs h92 x3 0 r92))))))))))))))→J6 [(I6 x1),(PS x3),(PS x6),(.bool x10),(PS x17)] hJ6) :
  ∃n68p n68n n68c,cellAt hx ((⟨b0,0,none⟩ : Addr).add 7)=some (.slice n68p n68n n68c)∧(L_uiiiissss hx ⟨b0,0,none⟩ fun n69=>(∃n71p n71n n71c,cellAt hx ((⟨b0,0,none⟩ : Addr).add 8)=some (.slice n71p n71n n71c)∧(∃a73,n71p=some a73∧0≤(k:Int)∧(k:Int)<n71n∧(∃n74p n74n n74c,cellAt hx (a73.add (Int.toNat (k:Int)*1))=some (.slice n74p n74n n74c)∧(∃a75,n74p=some a75∧0≤(0:Int)∧(0:Int)<n74n∧(∃n76,cellAt hx (a75.add (Int.toNat (0:Int)*1))=some (I6 n76)∧((CV w₀ F.croftref7_Find [(.agg n69.toArray),(I6 n76)] hx fun v77 h77=>∃r77,v77=(I6 r77)∧(cellAt h77 ((⟨b0,0,none⟩ : Addr).add 7)=some (.slice n68p n68n n68c)∧(∃a78,n68p=some a78∧0≤r77∧r77<n68n∧(L_iis h77 (a78.add (Int.toNat r77*3)) fun n79=>(C_iis (Array.push h77 (.cells #[(I6 0),(I6 0),(.slice none 0 0)] T.T_croftref7_Cells)) (a78.add (Int.toNat r77*3)) n79 (cellAt (Array.push h77 (.cells #[(I6 0),(I6 0),(.slice none 0 0)] T.T_croftref7_Cells)) (a75.add (Int.toNat (0:Int)*1))=some (I6 n76)∧cellAt (Array.push h77 (.cells #[(I6 0),(I6 0),(.slice none 0 0)] T.T_croftref7_Cells)) (a73.add (Int.toNat (k:Int)*1))=some (.slice n74p n74n n74c)∧cellAt (Array.push h77 (.cells #[(I6 0),(I6 0),(.slice none 0 0)] T.T_croftref7_Cells)) ((⟨b0,0,none⟩ : Addr).add 8)=some (.slice n71p n71n n71c)∧C_uiiiissss (Array.push h77 (.cells #[(I6 0),(I6 0),(.slice none 0 0)] T.T_croftref7_Cells)) ⟨b0,0,none⟩ n69 (cellAt (Array.push h77 (.cells #[(I6 0),(I6 0),(.slice none 0 0)] T.T_croftref7_Cells)) ((⟨b0,0,none⟩ : Addr).add 7)=some (.slice n68p n68n n68c)∧(WrN (Array.push h77 (.cells #[(I6 0),(I6 0),(.slice none 0 0)] T.T_croftref7_Cells)) ⟨h77.size,0,none⟩ 3∧J6 [(I6 k),(PS ⟨b0,0,none⟩),(PS ⟨b1,0,none⟩),(.bool grew),(PS ⟨h77.size,0,none⟩)] (setCs (Array.push h77 (.cells #[(I6 0),(I6 0),(.slice none 0 0)] T.T_croftref7_Cells)) ⟨h77.size,0,none⟩ 0 n79)))))))) ) ∧
   (cellAt (Array.push hx (.cells #[(I6 0),(I6 0),(.slice none 0 0)] T.T_croftref7_Cells)) (a75.add (Int.toNat (0:Int)*1))=some (I6 n76)∧cellAt (Array.push hx (.cells #[(I6 0),(I6 0),(.slice none 0 0)] T.T_croftref7_Cells)) (a73.add (Int.toNat (k:Int)*1))=some (.slice n74p n74n n74c)∧cellAt (Array.push hx (.cells #[(I6 0),(I6 0),(.slice none 0 0)] T.T_croftref7_Cells)) ((⟨b0,0,none⟩ : Addr).add 8)=some (.slice n71p n71n n71c)∧C_uiiiissss (Array.push hx (.cells #[(I6 0),(I6 0),(.slice none 0 0)] T.T_croftref7_Cells)) ⟨b0,0,none⟩ n69 (cellAt (Array.push hx (.cells #[(I6 0),(I6 0),(.slice none 0 0)] T.T_croftref7_Cells)) ((⟨b0,0,none⟩ : Addr).add 7)=some (.slice n68p n68n n68c)∧(CV w₀ F.croftref7_Find [(.agg n69.toArray),(I6 n76)] (Array.push hx (.cells #[(I6 0),(I6 0),(.slice none 0 0)] T.T_croftref7_Cells)) fun v77 h77=>∃r77,v77=(I6 r77)∧(cellAt h77 ((⟨b0,0,none⟩ : Addr).add 7)=some (.slice n68p n68n n68c)∧(∃a78,n68p=some a78∧0≤r77∧r77<n68n∧(L_iis h77 (a78.add (Int.toNat r77*3)) fun n79=>(WrN h77 ⟨hx.size,0,none⟩ 3∧J6 [(I6 k),(PS ⟨b0,0,none⟩),(PS ⟨b1,0,none⟩),(.bool grew),(PS ⟨hx.size,0,none⟩)] (setCs h77 ⟨hx.size,0,none⟩ 0 n79))))))))))))))):=by
 have after:∀(b9:Nat) (hy:Heap),Go.V.Own h0 hy E (lR b9 (ceL M cl fr q)::lR b1 z7::lR b0 (d7v c M O P V.length ps.length)::rfR M.Y O fl V::frR M.Z 7 pl::outR7 M cl fr ps::frR7 M fr ps::[]) →
   J6 [(I6 k),(PS ⟨b0,0,none⟩),(PS ⟨b1,0,none⟩),(.bool grew),(PS ⟨b9,0,none⟩)] hy:=by
  intro b9 hy I
  have R:=fr7_at (I.at 6) hq hq2
  obtain ⟨a,ea,qa⟩:=ro_cell R (i:=0) (by rw [hfr];simp)
  have qa:cellAt hy (a.add (Int.toNat (0:Int)*1))=some (.int .i64 (j:Int)):=by have:=qa;rw [hfr] at this;exact this
  have hc:=R.1
  have el:Int.toNat (((fr q).length:Nat):Int)-Int.toNat (1:Int)=f.length:=by rw [hfr,Int.toNat_natCast];rfl
  have hln:(fr q).length=f.length+1:=by rw [hfr];rfl
  refine hJ6 _ _ _ _ _ _ ⟨_,_,_,cell_l (I.at 0) 2,a,ea,by omega,by omega,_,qa,_,cell_l0 (I.at 2),_,cell_l (I.at 2) 1,_,cell_l (I.at 2) 2,_,cell_l (I.at 2) 3,_,cell_l (I.at 2) 4,_,_,_,cell_l (I.at 2) 5,_,_,_,cell_l (I.at 2) 6,_,_,_,cell_l (I.at 2) 7,_,_,_,cell_l (I.at 2) 8,_,cell_l0 (I.at 0),_,_,_,cell_l (I.at 0) 2,by omega,by omega,by omega,?_⟩
  rw [el]
  refine put7_ok (n:=V.length) (O:=O) (P:=P) (x:=q) (k:=k) (f:=f) hps (I.at 5) fun h92 pp pc N=>⟨_,_,_,_,_,_,_,_,_,_,_,_,_,_,_,_,_,rfl,?_⟩
  rw [putPs_in hq,fset_slf cl q k hcl] at N
  rw [putPs_in hq]
  obtain ⟨q',hq'⟩ : ∃q',(if M.cf q=Int.toNat (1:Int) then M.qf q else Option.map (fun b=>Addr.add b (Int.toNat (1:Int)*1)) (M.qf q))=q':=⟨_,rfl⟩
  obtain ⟨c',hc'⟩ : ∃c',M.cf q-Int.toNat (1:Int)=c':=⟨_,rfl⟩
  rw [hq',hc'] at N ⊢
  let M1:RW7:=M.set q q' c' pp pc
  have I2:=I.step 5 (stp_new N)
  have I2:Go.V.Own h0 h92 E (lR b9 (ceL M cl fr q)::lR b1 z7::lR b0 (d7v c M O P V.length ps.length)::rfR M.Y O fl V::frR M.Z 7 pl::outR7 M1 cl (fset fr q f) ps::frR7 M fr ps::[]):=I2
  have I3:=(I2.perm (rs':=frR7 M fr ps::lR b9 (ceL M cl fr q)::lR b1 z7::lR b0 (d7v c M O P V.length ps.length)::rfR M.Y O fl V::frR M.Z 7 pl::outR7 M1 cl (fset fr q f) ps::[]) (List.perm_append_comm (l₁:=[_]) (l₂:=[_,_,_,_,_,_])))
  have I4:=own_fr7' (ps':=ps) (q:=q') (cq:=c') (pc:=pc) (pp:=pp) (f:=f) hq2 (fun z hz=>Iff.rfl) I3 (fun _ HE=>by
   rw [show frE M fr ps q=roR (M.qf q) (fr q).length (M.cf q) (nV (fr q)) from if_pos hq,hfr] at HE
   have:=(ro_tail HE).1
   rwa [hq',hc'] at this) (fun _ HE b e=>by
   rw [show frE M fr ps q=roR (M.qf q) (fr q).length (M.cf q) (nV (fr q)) from if_pos hq,hfr] at HE ⊢
   have:=(ro_tail HE).2 b
   rw [hq',hc'] at this
   exact this e)
  have I5:Go.V.Own h0 h92 E (lR b9 (ceL M cl fr q)::lR b1 z7::lR b0 (d7v c M O P V.length ps.length)::rfR M.Y O fl V::frR M.Z 7 pl::outR7 M1 cl (fset fr q f) ps::frR7 M1 (fset fr q f) ps::[]):=I4.perm (List.perm_append_comm (l₁:=[_,_,_,_,_,_]) (l₂:=[_]))
  obtain ⟨w6,S6⟩:=assign_l (I5.at 2) (d7v c M1 O P V.length ps.length)
  have Q6:=I5.step 2 S6
  refine ⟨w6,fun J9 hJ9=>?_⟩
  generalize setCs h92 ⟨b0,0,none⟩ 0 (d7v c M1 O P V.length ps.length)=h93 at Q6 ⊢
  have Q6:Go.V.Own h0 h93 E (lR b9 (ceL M cl fr q)::lR b1 z7::lR b0 (d7v c M1 O P V.length ps.length)::rfR M.Y O fl V::frR M.Z 7 pl::outR7 M1 cl (fset fr q f) ps::frR7 M1 (fset fr q f) ps::[]):=Q6
  have last:∀(hz:Heap) (M2:RW7),M2.Y=M.Y→Go.V.Own h0 hz E (lR b9 (ceL M cl fr q)::lR b1 z7::lR b0 (d7v c M2 O P V.length ps.length)::rfR M2.Y O fl V::frR M2.Z 7 (fset pl k (if f=[] then l' else q::l'))::outR7 M2 cl (fset fr q f) ps::frR7 M2 (fset fr q f) ps::[]) →
    J9 [(I6 k),(PS ⟨b0,0,none⟩),(PS ⟨b1,0,none⟩),(.bool grew),(PS ⟨b9,0,none⟩),(I6 j)] hz:=by
   intro hz M2 hY I
   refine hJ9 _ _ _ _ _ _ _ ⟨_,cell_l0 (I.at 2),_,cell_l (I.at 2) 1,_,cell_l (I.at 2) 2,_,cell_l (I.at 2) 3,_,cell_l (I.at 2) 4,_,_,_,cell_l (I.at 2) 5,_,_,_,cell_l (I.at 2) 6,_,_,_,cell_l (I.at 2) 7,_,_,_,cell_l (I.at 2) 8,_,cell_l0 (I.at 2),_,cell_l (I.at 2) 1,_,cell_l (I.at 2) 2,_,cell_l (I.at 2) 3,_,cell_l (I.at 2) 4,_,_,_,cell_l (I.at 2) 5,_,_,_,cell_l (I.at 2) 6,_,_,_,cell_l (I.at 2) 7,_,_,_,cell_l (I.at 2) 8,_,cell_l0 (I.at 0),at7_ok g hm (by omega) fun h3 u3=>⟨_,rfl,?_⟩⟩
   have J:=I.quiet u3
   refine ⟨cell_l0 (J.at 2),cell_l (J.at 2) 1,cell_l (J.at 2) 2,cell_l (J.at 2) 3,cell_l (J.at 2) 4,cell_l (J.at 2) 5,cell_l (J.at 2) 6,cell_l (J.at 2) 7,cell_l (J.at 2) 8,width7_ok hk ⟨_,rfl,cell_l0 (J.at 2),cell_l (J.at 2) 1,cell_l (J.at 2) 2,cell_l (J.at 2) 3,cell_l (J.at 2) 4,cell_l (J.at 2) 5,cell_l (J.at 2) 6,cell_l (J.at 2) 7,cell_l (J.at 2) 8,?_⟩⟩
   obtain ⟨w8,S8⟩:=assign_l (J.at 1) (d7v c M2 O P V.length ps.length)
   have J2:=J.step 1 S8
   refine ⟨w8,_,cell_l0 (J2.at 1),_,cell_l (J2.at 1) 1,_,cell_l (J2.at 1) 2,_,cell_l (J2.at 1) 3,_,cell_l (J2.at 1) 4,_,_,_,cell_l (J2.at 1) 5,_,_,_,cell_l (J2.at 1) 6,_,_,_,cell_l (J2.at 1) 7,_,_,_,cell_l (J2.at 1) 8,?_⟩
   have hb:=bu_bounds g hm
   have hci:=(cell_in hk hjc).1
   have hw:=wdt_pos k
   have ev:IntKind.wrap .u64 (adr c q+IntKind.wrap .u64 (IntKind.wrap .i64 ((j:Int)*(wdt k:Int))))=adr c q+((j*wdt k:Nat):Int):=by
    obtain ⟨z,hz⟩ : ∃z:Nat,j*wdt k=z:=⟨_,rfl⟩
    rw [←Int.natCast_mul,hz]
    rw [hz] at hci
    rw [wI (z:=(z:Int)) (by unfold bd63;omega),wU (z:=(z:Int)) (by unfold U64;omega)]
    refine wU ?_
    unfold U64 adr
    omega
   rw [ev]
   refine hK _ M2 hY ?_
   exact ow_close (J2.drop.drop.drop)
  refine ⟨_,_,_,cell_l (Q6.at 0) 2,?_⟩
  by_cases h1:f=[]
  ·refine iT (by rw [hln,h1];rfl) ⟨_,cell_l0 (Q6.at 2),_,cell_l (Q6.at 2) 1,_,cell_l (Q6.at 2) 2,_,cell_l (Q6.at 2) 3,_,cell_l (Q6.at 2) 4,_,_,_,cell_l (Q6.at 2) 5,_,_,_,cell_l (Q6.at 2) 6,_,_,_,cell_l (Q6.at 2) 7,_,_,_,cell_l (Q6.at 2) 8,_,cell_l0 (Q6.at 0),?_⟩
   refine partial7_ok (M:=M1) (pl:=pl) hk hl8 (Q6.at 4) fun h101 Z' S101=>⟨_,_,_,_,_,_,_,_,_,_,_,_,_,_,_,_,_,rfl,?_⟩
   have I7:=Q6.step 4 S101
   obtain ⟨w9,S9⟩:=assign_l (I7.at 2) (d7v c (M1.part Z') O P V.length ps.length)
   have I8:=I7.step 2 S9
   refine ⟨w9,last _ (M1.part Z') rfl ?_⟩
   have ep:partL (pl k) q false=(if f=[] then l' else q::l'):=by
    rw [if_pos h1,hpl]
    exact filter_head hnd
   have I8:Go.V.Own h0 (setCs h101 ⟨b0,0,none⟩ 0 (d7v c (M1.part Z') O P V.length ps.length)) E (lR b9 (ceL M cl fr q)::lR b1 z7::lR b0 (d7v c (M1.part Z') O P V.length ps.length)::rfR M.Y O fl V::frR Z' 7 (fset pl k (partL (pl k) q false))::outR7 M1 cl (fset fr q f) ps::frR7 M1 (fset fr q f) ps::[]):=I8
   rw [ep] at I8
   exact I8
  ·refine iF (beq_eq_false_iff_ne.2 fun e=>h1 (List.length_eq_zero_iff.1 (by omega))) (last _ M1 rfl ?_)
   rw [if_neg h1,fset_slf pl k (q::l') hpl]
   exact Q6
 have eqi:∀i,ps.getD i 0=q→ceL M cl fr (ps.getD i 0)=ceL M cl fr q:=fun i e=>by rw [e]
 obtain ⟨b2,e2,q2⟩:=fr_cell (I.at 3) (k:=k) (by omega)
 have q2':cellAt hx ((⟨b2,0,none⟩ : Addr).add (Int.toNat (k:Int)*1))=some (.slice (M.Z.lp k) (pl k).length (M.Z.lc k)):=by rw [at1];exact q2
 obtain ⟨b3,e3,q3⟩:=sl_cell (fr_row (I.at 3) (k:=k) (by omega)) (i:=0) (by rw [hpl];simp)
 have q3':cellAt hx ((⟨b3,0,none⟩ : Addr).add (Int.toNat (0:Int)*1))=some (.int .i64 (q:Int)):=by have:=q3;rw [hpl] at this;exact this
 refine ⟨_,_,_,cell_l (I.at 1) 7,_,cell_l0 (I.at 1),_,cell_l (I.at 1) 1,_,cell_l (I.at 1) 2,_,cell_l (I.at 1) 3,_,cell_l (I.at 1) 4,_,_,_,cell_l (I.at 1) 5,_,_,_,cell_l (I.at 1) 6,_,_,_,cell_l (I.at 1) 7,_,_,_,cell_l (I.at 1) 8,_,_,_,cell_l (I.at 1) 8,_,e2,by omega,by omega,_,_,_,q2',_,e3,by omega,by rw [hpl];simp,_,q3',?_,?_⟩
 ·refine find7_ok (n:=V.length) (O:=O) (P:=P) (c:=c) (by omega) (I.at 4) (fun hn=>absurd hq hn) fun i hi ei h3 u3=>⟨_,rfl,?_⟩
  have J:=I.quiet u3
  obtain ⟨b,eb,c0,c1,c2⟩:=ce_cells (J.at 4) hi
  rw [ei] at c0 c1 c2
  refine ⟨cell_l (J.at 1) 7,_,eb,by omega,by omega,_,c0,_,c1,_,_,_,c2,?_⟩
  have N:=box_l h3 [.int .i64 0,.int .i64 0,.slice none 0 0] T.T_croftref7_Cells
  generalize Array.push h3 (.cells (List.toArray [.int .i64 0,.int .i64 0,.slice none 0 0]) T.T_croftref7_Cells)=h4 at N ⊢
  have J4:=J.new N
  obtain ⟨b',eb',c0',c1',c2'⟩:=ce_cells (J4.at 5) hi
  obtain rfl:b'=b:=by rw [eb] at eb';simpa using eb'.symm
  rw [ei] at c0' c1' c2'
  obtain ⟨w4,S4⟩:=assign_l (J4.at 0) (ceL M cl fr q)
  have up:∀{a:Addr} {v:Value},cellAt hx a=some v→(∃u:Upd NoB hx h4,True)→cellAt h4 a=some v:=fun hc ⟨u,_⟩=>cellAt_upd hc u id
  have u4:Upd NoB hx h4:=u3.nx N.u fun _ e _=>e
  exact ⟨c0',c1',c2',up q3' ⟨u4,trivial⟩,up q2' ⟨u4,trivial⟩,cell_l (J4.at 2) 8,cell_l0 (J4.at 2),cell_l (J4.at 2) 1,cell_l (J4.at 2) 2,cell_l (J4.at 2) 3,cell_l (J4.at 2) 4,cell_l (J4.at 2) 5,cell_l (J4.at 2) 6,cell_l (J4.at 2) 7,cell_l (J4.at 2) 8,cell_l (J4.at 2) 7,w4,after _ _ (J4.step 0 S4)⟩
 ·have N:=box_l hx [.int .i64 0,.int .i64 0,.slice none 0 0] T.T_croftref7_Cells
  generalize Array.push hx (.cells (List.toArray [.int .i64 0,.int .i64 0,.slice none 0 0]) T.T_croftref7_Cells)=h4 at N ⊢
  have J4:=I.new N
  have up:∀{a:Addr} {v:Value},cellAt hx a=some v→cellAt h4 a=some v:=fun hc=>cellAt_upd hc N.u id
  refine ⟨up q3',up q2',cell_l (J4.at 2) 8,cell_l0 (J4.at 2),cell_l (J4.at 2) 1,cell_l (J4.at 2) 2,cell_l (J4.at 2) 3,cell_l (J4.at 2) 4,cell_l (J4.at 2) 5,cell_l (J4.at 2) 6,cell_l (J4.at 2) 7,cell_l (J4.at 2) 8,cell_l (J4.at 2) 7,?_⟩
  refine find7_ok (n:=V.length) (O:=O) (P:=P) (c:=c) (by omega) (J4.at 5) (fun hn=>absurd hq hn) fun i hi ei h3 u3=>⟨_,rfl,?_⟩
  have J:=J4.quiet u3
  obtain ⟨b,eb,c0,c1,c2⟩:=ce_cells (J.at 5) hi
  rw [ei] at c0 c1 c2
  obtain ⟨w4,S4⟩:=assign_l (J.at 0) (ceL M cl fr q)
  exact ⟨cell_l (J.at 2) 7,_,eb,by omega,by omega,_,c0,_,c1,_,_,_,c2,w4,after _ _ (J.step 0 S4)⟩
end
end Go.Proofs.YteemmpkhdllapaaGreatDoor
namespace Go.Proofs.YteemmpkhdllapaaGreatDoor
open Go.V Classical
theorem range_cells {k:Nat} (hk:k<8):List.range (cnt k)=0::List.range' 1 (cnt k-1)∧List.range' 1 (cnt k-1)≠[]:=by
 have:=(cnt_wdt hk).2.2.1
 obtain ⟨m,e⟩ : ∃m,cnt k=m+2:=⟨cnt k-2,by omega⟩
 rw [e,List.range_eq_range']
 exact ⟨rfl,by simp [List.range'_succ]⟩
section
variable {w₀:World} {h h':Heap} {c:Cfg} {M:RW7} {K:Value→Heap→Prop} {S:Nat→Prop} {x:BU} {fl:Nat→List Nat} {V:List PBk} {cl:Nat→Nat} {fr pl:Nat→List Nat} {ps:List Nat} {z:Int} {deny:Bool}
def L8 (cl:Nat→Nat) (fr pl:Nat→List Nat) (ps:List Nat):Prop:=∀k,k<8→(pl k).Nodup∧(pl k).length≤1024∧∀p∈pl k,p∈ps∧cl p=k∧fr p≠[]
def NeedD (c:Cfg) (x:BU) (fl:Nat→List Nat) (V:List PBk) (z:Int) (deny:Bool) (fl':Nat→List Nat) (V':List PBk) (P' q:Nat) (b:Bool) (e:Int):Prop :=
 ((z<0∨z>x.m.o)∧fl'=fl∧V'=V∧P'=x.m.n∧q=0∧b=false∧e=1) ∨
 (∃on:Nat,z=on∧on≤x.m.o∧(∀j,on≤j→j≤x.m.o→fl j=[])∧(deny=true∨(x.st.n:Int)≥c.limit)∧fl'=fl∧V'=V∧P'=x.m.n∧q=0∧b=false∧e=2) ∨
 (∃on:Nat,z=on∧on≤x.m.o∧V'=V++[(q,on)]∧e=0∧((b=false∧∃j l,on≤j∧j≤x.m.o∧fl j=q::l∧(∀i,on≤i→i<j→fl i=[])∧fl'=aCut q on (fset fl j l) (j-on)∧P'=x.m.n) ∨
  (b=true∧(∀j,on≤j→j≤x.m.o→fl j=[])∧deny=false∧(x.st.n:Int)<c.limit∧q=x.m.n∧fl'=aCut x.m.n on (fset fl x.m.o []) (x.m.o-on)∧P'=x.m.n+2 ^ x.m.o)))
theorem Need7_any {m:Nat} (W:WS S c x fl V) (H:(rfR M.Y x.m.o fl V).P h) (hK:∀h' Y' fl' V' P' q b e,NeedD c x fl V z deny fl' V' P' q b e→(e≠0→Y'=M.Y∧Upd NoB h h')→Stp h h' (rfR M.Y x.m.o fl V) (rfR Y' x.m.o fl' V') →
   K (.tuple #[pv7 c { M with Y:=Y' } x.m.o P' V'.length m,.int .i64 (q:Int),.bool b,.int .i64 e]) h') :
  CallV Tryz.prog w₀ F.croftref7_Need [pv7 c M x.m.o x.m.n V.length m,.int .i64 z,.bool deny] h K :=
 Need7_ok W H (fun hz h' u=>hK h' M.Y fl V x.m.n 0 false 1 (.inl ⟨hz,rfl,rfl,rfl,rfl,rfl,rfl⟩) (fun _=>⟨rfl,u⟩) (Stp.quiet H u))
  (fun on ez ho he hd h' u=>hK h' M.Y fl V x.m.n 0 false 2 (.inr (.inl ⟨on,ez,ho,he,hd,rfl,rfl,rfl,rfl,rfl,rfl⟩)) (fun _=>⟨rfl,u⟩) (Stp.quiet H u))
  (fun on ez ho j p l j1 j2 hF hi h' Y' Sp=>hK h' Y' _ _ x.m.n p false 0 (.inr (.inr ⟨on,ez,ho,rfl,rfl,.inl ⟨rfl,j,l,j1,j2,hF,hi,rfl,rfl⟩⟩)) (fun he=>absurd rfl he) Sp)
  (fun on ez ho he hd hl h' Y' Sp=>hK h' Y' _ _ (x.m.n+2 ^ x.m.o) x.m.n true 0 (.inr (.inr ⟨on,ez,ho,rfl,rfl,.inr ⟨rfl,he,hd,hl,rfl,rfl,rfl⟩⟩)) (fun he=>absurd rfl he) Sp)
theorem Take7_ok (W:WS S c x fl V) (D:P7 x.m.n cl fr ps) (L:L8 cl fr pl ps) (hfl:∀k,k≤x.m.o→∀p∈fl k,p∉ps) (H:(rf7R M x.m.o fl V cl fr pl ps).P h)
  (hb:(z<0∨z>7)→∀h',Upd NoB h h'→K (.tuple #[pv7 c M x.m.o x.m.n V.length ps.length,.int .u64 0,.bool false,.int .i64 1]) h')
  (h1:∀k:Nat,z=k→k<8→∀q l' j f,pl k=q::l'→fr q=j::f→∀h' M',Stp h h' (rf7R M x.m.o fl V cl fr pl ps) (rf7R M' x.m.o fl V cl (fset fr q f) (fset pl k (if f=[] then l' else q::l')) ps) →
   K (.tuple #[pv7 c M' x.m.o x.m.n V.length ps.length,.int .u64 (adr c q+((j*wdt k:Nat):Int)),.bool false,.int .i64 0]) h')
  (h2:∀k:Nat,z=k→k<8→pl k=[]→(∀j,j≤x.m.o→fl j=[])→(deny=true∨(x.st.n:Int)≥c.limit)→∀h',Upd NoB h h'→K (.tuple #[pv7 c M x.m.o x.m.n V.length ps.length,.int .u64 0,.bool false,.int .i64 2]) h')
  (h3:∀k:Nat,z=k→k<8→pl k=[]→∀(q:Nat) (b:Bool) (fl':Nat→List Nat) (P':Nat),
   ((b=false∧∃j l,j≤x.m.o∧fl j=q::l∧(∀i,i<j→fl i=[])∧fl'=aCut q 0 (fset fl j l) (j-0)∧P'=x.m.n) ∨
    (b=true∧(∀j,j≤x.m.o→fl j=[])∧deny=false∧(x.st.n:Int)<c.limit∧q=x.m.n∧fl'=aCut x.m.n 0 (fset fl x.m.o []) (x.m.o-0)∧P'=x.m.n+2 ^ x.m.o)) →
   ∀h' M',Stp h h' (rf7R M x.m.o fl V cl fr pl ps) (rf7R M' x.m.o fl' (V++[(q,0)]) (fset cl q k) (fset fr q (List.range' 1 (cnt k-1))) (fset pl k [q]) (ps++[q])) →
   K (.tuple #[pv7 c M' x.m.o P' (V++[(q,0)]).length (ps++[q]).length,.int .u64 (adr c q),.bool b,.int .i64 0]) h') :
  CallV Tryz.prog w₀ F.croftref7_Take [pv7 c M x.m.o x.m.n V.length ps.length,.int .i64 z,.bool deny] h K:=by
 have o8:=W.ok.m.o8
 have n1:=W.ok.m.n1
 have pslen:=D.len
 have N0:=box_l h (d7v c M x.m.o x.m.n V.length ps.length) T.T_croftref7_Slab
 refine croftref7_Take.call ?_
 try dsimp only
 generalize Array.push h (.cells (List.toArray (d7v c M x.m.o x.m.n V.length ps.length)) T.T_croftref7_Slab)=g1 at N0 ⊢
 have N1:=box_l g1 z7 T.T_croftref7_Slab
 generalize Array.push g1 (.cells (List.toArray z7) T.T_croftref7_Slab)=g2 at N1 ⊢
 obtain ⟨b0,e0⟩ : ∃b,b=h.size:=⟨_,rfl⟩
 obtain ⟨b1,e1⟩ : ∃b,b=g1.size:=⟨_,rfl⟩
 rw [←e0] at N0 ⊢
 rw [←e1] at N1 ⊢
 have I0:=((Go.V.Own.of H).new N0).new N1
 have J0:Go.V.Own h g2 noR [lR b1 z7,lR b0 (d7v c M x.m.o x.m.n V.length ps.length)]:=((Go.V.Own.of (E:=noR) trivial).drop.new N0).new N1
 intro J3 hJ3
 have bad:(z<0∨z>7)→J3 true g2:=fun hz=>hJ3 _ _ (iT rfl (out7 J0 rfl (fun z0 hh=>K (.tuple #[.agg z0.toArray,.int .u64 0,.bool false,.int .i64 1]) hh) fun h' J=>hb hz h' J.u))
 by_cases z0:z<0
 ·exact pT (decide_eq_true z0) (bad (.inl z0))
 refine pF (decide_eq_false z0) ?_
 by_cases z7':z>7
 ·rw [decide_eq_true z7'];exact bad (.inr z7')
 rw [decide_eq_false z7']
 obtain ⟨k,rfl⟩ : ∃k:Nat,z=k:=⟨z.toNat,by omega⟩
 have hk:k<8:=by omega
 have cw:=cnt_wdt hk
 have h1:=h1 k rfl hk
 have h2:=h2 k rfl hk
 have h3:=h3 k rfl hk
 refine hJ3 _ _ (iF rfl fun J5 hJ5=>?_)
 have I1:Go.V.Own h g2 (rf7R M x.m.o fl V cl fr pl ps) (lR b1 z7::lR b0 (d7v c M x.m.o x.m.n V.length ps.length)::rfR M.Y x.m.o fl V::frR M.Z 7 pl::outR7 M cl fr ps::frR7 M fr ps::[]) :=
  (ow_open (I0.perm (rs':=[rf7R M x.m.o fl V cl fr pl ps,lR b1 z7,lR b0 (d7v c M x.m.o x.m.n V.length ps.length)]) (List.perm_append_comm (l₁:=[_]) (l₂:=[_,_])))).perm (List.perm_append_comm (l₁:=[_,_]) (l₂:=[_,_,_,_]))
 obtain ⟨b2,e2,q2⟩:=fr_cell (I1.at 3) (k:=k) (by omega)
 have q2':cellAt g2 ((⟨b2,0,none⟩ : Addr).add (Int.toNat (k:Int)*1))=some (.slice (M.Z.lp k) (pl k).length (M.Z.lc k)):=by rw [at1];exact q2
 refine ⟨_,_,_,cell_l (I1.at 1) 8,_,e2,by omega,by omega,_,_,_,q2',?_⟩
 cases hpl:pl k with
 | cons q l' =>
  obtain ⟨nd,_,hin⟩:=L k hk
  obtain ⟨hq,hcl,hne⟩:=hin q (by rw [hpl];exact List.mem_cons_self ..)
  have hlt:=D.lt q hq
  cases hfr:fr q with
  | nil=>exact absurd hfr hne
  | cons j f =>
   refine iF (beq_eq_false_iff_ne.2 (by simp only [List.length_cons];omega)) (hJ5 _ _ _ _ _ fun J6 hJ6=>?_)
   have hj:=D.fb q hq j (by rw [hfr];exact List.mem_cons_self ..)
   rw [hcl] at hj
   exact take_tail (M:=M) (fl:=fl) (V:=V) (cl:=cl) (fr:=fr) (pl:=pl) (ps:=ps) (P:=x.m.n) W.g W.ok.m o8 hk hq (by omega) (by omega) hcl hpl hfr (by rw [←hpl];exact nd) hj (fun i hi=>by have:=(L i hi).2.1;omega) I1 (fun h' M2 _ I=>h1 q l' j f hpl hfr h' M2 I.stp) hJ6
 | nil =>
  refine iT rfl ⟨_,cell_l0 (I1.at 1),_,cell_l (I1.at 1) 1,_,cell_l (I1.at 1) 2,_,cell_l (I1.at 1) 3,_,cell_l (I1.at 1) 4,_,_,_,cell_l (I1.at 1) 5,_,_,_,cell_l (I1.at 1) 6,_,_,_,cell_l (I1.at 1) 7,_,_,_,cell_l (I1.at 1) 8,?_⟩
  refine Need7_any (z:=0) W (I1.at 2) fun g3 Y' fl' V' P' q b e G hu Sp=>⟨_,_,_,_,_,_,_,_,_,_,_,_,_,_,_,_,_,_,_,_,rfl,?_⟩
  have N3:=box_l g3 z7 T.T_croftref7_Slab
  generalize Array.push g3 (.cells (List.toArray z7) T.T_croftref7_Slab)=g4 at N3 ⊢
  obtain ⟨b3,e3⟩ : ∃b,b=g3.size:=⟨_,rfl⟩
  rw [←e3] at N3 ⊢
  let M1:RW7:={ M with Y:=Y' }
  have I4:=(I1.step 2 Sp).new N3
  obtain ⟨w4,S4⟩:=assign_l (I4.at 0) (d7v c M1 x.m.o P' V'.length ps.length)
  have I5:=I4.step 0 S4
  refine ⟨w4,?_⟩
  by_cases he:e=0
  case neg =>
   obtain ⟨eY,u3⟩:=hu he
   have J4:=(J0.quiet u3).new N3
   have J5':=(J4.step 0 S4).drop
   have eh:(.int .i64 e:Value)=.int .i64 e:=rfl
   refine iT (bne_iff_ne.2 he) (out7 J5' rfl (fun z0 hh=>K (.tuple #[.agg z0.toArray,.int .u64 0,.bool false,.int .i64 e]) hh) fun h' J=>?_)
   rcases G with ⟨hz,_⟩ | ⟨on,ez,ho,hem,hd,_,_,_,_,_,rfl⟩ | ⟨_,_,_,_,he',_⟩
   ·omega
   ·exact h2 hpl (fun j hj=>hem j (by omega) hj) hd h' J.u
   ·exact absurd he' he
  subst he
  refine iF rfl ?_
  generalize setCs g4 ⟨b3,0,none⟩ 0 (d7v c M1 x.m.o P' V'.length ps.length)=g5 at I5 ⊢
  obtain ⟨hV',hcase⟩ : V'=V++[(q,0)]∧((b=false∧∃j l,j≤x.m.o∧fl j=q::l∧(∀i,i<j→fl i=[])∧fl'=aCut q 0 (fset fl j l) (j-0)∧P'=x.m.n) ∨
    (b=true∧(∀j,j≤x.m.o→fl j=[])∧deny=false∧(x.st.n:Int)<c.limit∧q=x.m.n∧fl'=aCut x.m.n 0 (fset fl x.m.o []) (x.m.o-0)∧P'=x.m.n+2 ^ x.m.o)):=by
   rcases G with ⟨_,_,_,_,_,_,he'⟩ | ⟨_,_,_,_,_,_,_,_,_,_,he'⟩ | ⟨on,ez,ho,eV,_,hc⟩
   ·omega
   ·omega
   ·have:on=0:=by omega
    subst this
    refine ⟨eV,hc.imp (fun ⟨a,j,l,_,j2,hF,hi,e1,e2⟩=>⟨a,j,l,j2,hF,fun i hij=>hi i (Nat.zero_le _) hij,e1,e2⟩) fun ⟨a,hem,r⟩=>⟨a,fun j hj=>hem j (Nat.zero_le _) hj,r⟩⟩
  have hqn:q∉ps∧q<1024:=by
   rcases hcase with ⟨_,j,l,j2,hF,_⟩ | ⟨_,_,_,hlim,rfl,_⟩
   ·have hm:q∈fl j:=by rw [hF];exact List.mem_cons_self ..
    exact ⟨hfl j j2 q hm,by have:=(W.rep.al j2 hm).2.2;omega⟩
   ·refine ⟨fun hm=>?_,?_⟩
    ·have:=D.lt _ hm;omega
    ·have:=room W hlim
     have:=Nat.two_pow_pos x.m.o
     omega
  have N6:=box_l g5 [.int .i64 0,.int .i64 0,.slice none 0 0] T.T_croftref7_Cells
  generalize Array.push g5 (.cells (List.toArray [.int .i64 0,.int .i64 0,.slice none 0 0]) T.T_croftref7_Cells)=g6 at N6 ⊢
  obtain ⟨b4,e4⟩ : ∃b,b=g5.size:=⟨_,rfl⟩
  have e4':b4=Array.size g5:=e4
  rw [←e4'] at N6 ⊢
  have Q6:=I5.new N6
  obtain ⟨w7,S7⟩:=assign_l (Q6.at 0) [.int .i64 (q:Int),.int .i64 (k:Int),.slice none 0 0]
  have Q7:=Q6.step 0 S7
  refine ⟨w7,fun J27 hJ27 L31 hL31=>?_⟩
  generalize setCs g6 ⟨b4,0,none⟩ 0 [.int .i64 (q:Int),.int .i64 (k:Int),.slice none 0 0]=g7 at Q7 ⊢
  have cw4:=cw.2.2.2.1
  have loop:∀(d i:Nat) (np:Option Addr) (nc:Nat) (hx:Heap),i+d=cnt k→Go.V.Own h hx (rf7R M x.m.o fl V cl fr pl ps) (slR np (List.range i).length nc 1 (nV (List.range i))::lR b4 [.int .i64 (q:Int),.int .i64 (k:Int),.slice np (List.range i).length nc]::lR b3 (d7v c M1 x.m.o P' V'.length ps.length)::lR b1 z7::lR b0 (d7v c M x.m.o x.m.n V.length ps.length)::rfR Y' x.m.o fl' V'::frR M.Z 7 pl::outR7 M cl fr ps::frR7 M fr ps::[]) →
    L31 [.int .i64 (k:Int),.pointer (some ⟨b0,0,none⟩),.pointer (some ⟨b1,0,none⟩),.pointer (some ⟨b3,0,none⟩),.int .i64 (q:Int),.bool b,.pointer (some ⟨b4,0,none⟩),.int .i64 (i:Int)] hx:=by
   intro d
   induction d with
   | succ d ih =>
    intro i np nc hx hi I
    refine hL31 _ _ _ _ _ _ _ _ _ (count7_ok hk ⟨_,rfl,iT (decide_eq_true (by omega)) ⟨_,_,_,cell_l (I.at 1) 2,?_⟩⟩)
    have ll:(List.range i).length=i:=List.length_range
    obtain ⟨os,r1,r2⟩:=sl_app1 (zs:=[.int .i64 0]) (v:=.int .i64 (i:Int)) (b:=8) (e:=T.T_int) (T:=T.T_int) (I.at 0) rfl rfl (by omega)
    refine ⟨os,_,r1,fun p' c' h9 res=>?_⟩
    have er:(List.range (i+1)).length=(List.range i).length+1:=by simp
    have Q2:=I.step 0 (R':=slR p' (List.range (i+1)).length c' 1 (nV (List.range (i+1)))) ((r2 p' c' h9 res).conv (fun A=>by
     rw [er,List.range_succ]
     exact sl_congr A fun j hj=>nV_snoc _ _ hj) fun _ e=>e)
    have Q3:=Q2.step 1 (set_l (Q2.at 1) 2 (.slice p' ((List.range i).length+1) c'))
    refine ⟨wr_l (Q2.at 1) 2,?_⟩
    rw [show IntKind.wrap .i64 ((i:Int)+1)=((i+1:Nat):Int) by rw [IntKind.wrap_i64];omega]
    refine ih (i+1) p' c' _ (by omega) ?_
    rw [er] at Q3 ⊢
    exact Q3
   | zero =>
    intro i np nc hx hi I
    have hi:i=cnt k:=by omega
    subst hi
    obtain ⟨rc1,rc2⟩:=range_cells hk
    obtain ⟨R,hR⟩ : ∃R,List.range (cnt k)=R:=⟨_,rfl⟩
    rw [hR] at I rc1
    refine hL31 _ _ _ _ _ _ _ _ _ (count7_ok hk ⟨_,rfl,iF (decide_eq_false (by omega)) (hJ27 _ _ _ _ _ _ _ _ ⟨_,cell_l0 (I.at 2),_,cell_l (I.at 2) 1,_,cell_l (I.at 2) 2,_,cell_l (I.at 2) 3,_,cell_l (I.at 2) 4,_,_,_,cell_l (I.at 2) 5,_,_,_,cell_l (I.at 2) 6,_,_,_,cell_l (I.at 2) 7,_,_,_,cell_l (I.at 2) 8,_,cell_l0 (I.at 1),_,cell_l (I.at 1) 1,_,_,_,cell_l (I.at 1) 2,?_⟩)⟩)
    refine put7_ok (M:=M1) (c:=c) (n:=V'.length) (O:=x.m.o) (P:=P') (x:=q) (k:=k) (f:=R) (q:=np) (cq:=nc) (gone:=false) (by omega) (I.at 7) fun g8 pp pc N8=>⟨_,_,_,_,_,_,_,_,_,_,_,_,_,_,_,_,_,rfl,?_⟩
    rw [putPs_new hqn.1] at N8
    rw [putPs_new hqn.1]
    let M2:RW7:=M1.set q np nc pp pc
    have Q8:=I.step 7 (stp_new N8)
    have Q8:Go.V.Own h g8 (rf7R M x.m.o fl V cl fr pl ps) (slR np R.length nc 1 (nV R)::lR b4 [.int .i64 (q:Int),.int .i64 (k:Int),.slice np R.length nc]::lR b3 (d7v c M1 x.m.o P' V'.length ps.length)::lR b1 z7::lR b0 (d7v c M x.m.o x.m.n V.length ps.length)::rfR Y' x.m.o fl' V'::frR M.Z 7 pl::outR7 M2 (fset cl q k) (fset fr q R) (ps++[q])::frR7 M fr ps::[]):=Q8
    refine partial7_ok (M:=M2) (c:=c) (O:=x.m.o) (P:=P') (n:=V'.length) (m:=(ps++[q]).length) (pl:=pl) (k:=k) (p:=q) (ahead:=true) hk (fun i hi=>by have:=(L i hi).2.1;omega) (Q8.at 6) fun g9 Z' S9=>⟨_,_,_,_,_,_,_,_,_,_,_,_,_,_,_,_,_,rfl,?_⟩
    have ep:partL (pl k) q true=[q]:=by rw [hpl];rfl
    rw [ep] at S9
    have Q9:=Q8.step 6 S9
    let M3:RW7:=M2.part Z'
    obtain ⟨w10,S10⟩:=assign_l (Q9.at 4) (d7v c M3 x.m.o P' V'.length (ps++[q]).length)
    have Q10:=Q9.step 4 S10
    refine ⟨w10,hJ5 _ _ _ _ _ fun J6 hJ6=>?_⟩
    generalize setCs g9 ⟨b0,0,none⟩ 0 (d7v c M3 x.m.o P' V'.length (ps++[q]).length)=g10 at Q10 ⊢
    have Q11:Go.V.Own h g10 (rf7R M x.m.o fl V cl fr pl ps) (slR np R.length nc 1 (nV R)::lR b4 [.int .i64 (q:Int),.int .i64 (k:Int),.slice np R.length nc]::lR b3 (d7v c M1 x.m.o P' V'.length ps.length)::lR b1 z7::lR b0 (d7v c M3 x.m.o P' V'.length (ps++[q]).length)::rfR Y' x.m.o fl' V'::frR Z' 7 (fset pl k [q])::outR7 M2 (fset cl q k) (fset fr q R) (ps++[q])::frR7 M fr ps::[]):=Q10
    have Q12:=Q11.perm (rs':=slR np R.length nc 1 (nV R)::frR7 M fr ps::lR b4 [.int .i64 (q:Int),.int .i64 (k:Int),.slice np R.length nc]::lR b3 (d7v c M1 x.m.o P' V'.length ps.length)::lR b1 z7::lR b0 (d7v c M3 x.m.o P' V'.length (ps++[q]).length)::rfR Y' x.m.o fl' V'::frR Z' 7 (fset pl k [q])::outR7 M2 (fset cl q k) (fset fr q R) (ps++[q])::[]) (.cons _ (List.perm_append_comm (l₁:=[_]) (l₂:=[_,_,_,_,_,_,_])))
    have Q13:=own_fr7 (M:=M) (ps':=ps++[q]) (pc:=pc) (pp:=pp) hqn.2 (by simp) (fun z hz=>by simp [hz]) Q12
    have Q14:=Q13.perm (rs':=lR b4 [.int .i64 (q:Int),.int .i64 (k:Int),.slice np R.length nc]::lR b3 (d7v c M1 x.m.o P' V'.length ps.length)::lR b1 z7::lR b0 (d7v c M3 x.m.o P' V'.length (ps++[q]).length)::rfR Y' x.m.o fl' V'::frR Z' 7 (fset pl k [q])::outR7 M2 (fset cl q k) (fset fr q R) (ps++[q])::frR7 M2 (fset fr q R) (ps++[q])::[]) (List.perm_append_comm (l₁:=[_,_,_,_,_,_,_]) (l₂:=[_]))
    have Q15:Go.V.Own h g10 (rf7R M x.m.o fl V cl fr pl ps) (lR b1 z7::lR b0 (d7v c M3 x.m.o P' V'.length (ps++[q]).length)::rfR M3.Y x.m.o fl' V'::frR M3.Z 7 (fset pl k [q])::outR7 M3 (fset cl q k) (fset fr q R) (ps++[q])::frR7 M3 (fset fr q R) (ps++[q])::[]):=Q14.drop.drop
    refine take_tail (M:=M3) (fl:=fl') (V:=V') (cl:=fset cl q k) (fr:=fset fr q R) (pl:=fset pl k [q]) (ps:=ps++[q]) (P:=P') (q:=q) (j:=0) (l':=[]) (f:=List.range' 1 (cnt k-1)) W.g W.ok.m o8 hk (by simp) hqn.2 (by simp;omega) (fset_same ..) (fset_same ..) (by rw [fset_same];exact rc1) (by simp) (by omega) (fun i hi=>?_) Q15 (fun h' M4 _ I=>?_) hJ6
    ·by_cases e:i=k
     ·rw [e,fset_same];simp
     ·rw [fset_ne _ _ e];have:=(L i hi).2.1;omega
    ·subst hV'
     have:=h3 hpl q b fl' P' hcase h' M4 (by
      have:=I.stp
      rw [fset_fset,if_neg rc2,fset_fset] at this
      exact this)
     have e0:adr c q+((0*wdt k:Nat):Int)=adr c q:=by simp
     rw [e0]
     exact this
  refine loop (cnt k) 0 none 0 g7 (by omega) ?_
  exact Q7.new (R:=slR none (List.range 0).length 0 1 (nV (List.range 0))) ⟨Upd.refl _ _,sl_nil _ _ _,fun b e=>absurd e (sl_nil_fp b)⟩
end
end Go.Proofs.YteemmpkhdllapaaGreatDoor
namespace Go.Proofs.YteemmpkhdllapaaGreatDoor
open Go.V Classical
theorem ceV_out {M:RW7} {cl:Nat→Nat} {fr:Nat→List Nat} {ps:List Nat} {x k:Nat} {q:Option Addr} {cq pc:Nat} {pp:Option Addr} {f:List Nat} (hx:x∉ps) {i:Nat} (hi:i<ps.length*3):ceV (M.set x q cq pp pc) (fset cl x k) (fset fr x f) ps i=ceV M cl fr ps i:=by
 have hm:ps.getD (i / 3) 0≠x:=fun e=>hx (e▸getD_mem (by omega))
 unfold ceV
 show (if i % 3=0 then _ else if i % 3=1 then Value.int .i64 ((fset cl x k (ps.getD (i / 3) 0):Nat):Int) else .slice (fset M.qf x q (ps.getD (i / 3) 0)) (fset fr x f (ps.getD (i / 3) 0)).length (fset M.cf x cq (ps.getD (i / 3) 0)))=_
 rw [fset_ne _ _ hm,fset_ne _ _ hm,fset_ne _ _ hm,fset_ne _ _ hm]
theorem m4_ok {h:Heap} {c:Cfg} {M:RW7} {O P n m b0:Nat} (B:(lR b0 (d7v c M O P n m)).P h) {X:List Value→Prop} (hX:X [.int .i64 (O:Int),.int .i64 (P:Int),.slice M.Y.fp (O+1) M.Y.fc,.slice M.Y.vp n M.Y.vc]):M_iiss h ⟨b0,0,none⟩ 3 X:=by
 have c3:cellAt h ((⟨b0,0,none⟩ : Addr).add 3)=some (.int .i64 (O:Int)):=cell_l B 3
 have c4:cellAt h ((⟨b0,0,none⟩ : Addr).add (3+1))=some (.int .i64 (P:Int)):=cell_l B 4
 have c5:cellAt h ((⟨b0,0,none⟩ : Addr).add (3+2))=some (.slice M.Y.fp (O+1) M.Y.fc):=cell_l B 5
 have c6:cellAt h ((⟨b0,0,none⟩ : Addr).add (3+3))=some (.slice M.Y.vp n M.Y.vc):=cell_l B 6
 exact ⟨_,c3,_,c4,_,_,_,c5,_,_,_,c6,hX⟩
section
variable {w₀:World} {h h':Heap} {c:Cfg} {M:RW7} {K:Value→Heap→Prop} {S:Nat→Prop} {x:BU} {fl:Nat→List Nat} {V:List PBk} {cl:Nat→Nat} {fr pl:Nat→List Nat} {ps:List Nat} {a:Int}
theorem Give7_ok (ha:U64 a) (W:WS S c x fl V) (D:P7 x.m.n cl fr ps) (L:L8 cl fr pl ps) (hV:∀p∈ps,(p,0)∈V) (H:(rf7R M x.m.o fl V cl fr pl ps).P h)
  (hn:(∀p j,¬At7 c cl fr ps a p j)→∀h',Upd NoB h h'→K (.tuple #[pv7 c M x.m.o x.m.n V.length ps.length,.int .i64 1]) h')
  (hc:∀q j,At7 c cl fr ps a q j→(fr q).length+1≠cnt (cl q)→∀h' M',Stp h h' (rf7R M x.m.o fl V cl fr pl ps) (rf7R M' x.m.o fl V cl (fset fr q (j::fr q)) (fset pl (cl q) (if fr q=[] then q::pl (cl q) else pl (cl q))) ps) →
   K (.tuple #[pv7 c M' x.m.o x.m.n V.length ps.length,.int .i64 0]) h')
  (hl:∀q j,At7 c cl fr ps a q j→(fr q).length+1=cnt (cl q)→∀h' M',Stp h h' (rf7R M x.m.o fl V cl fr pl ps) (rf7R M' x.m.o (aUp fl q 0 (x.m.o-0)) (V.filter (·.1≠q)) cl (fset fr q []) (fset pl (cl q) ((pl (cl q)).filter (·≠q))) (ps.filter (·≠q))) →
   K (.tuple #[pv7 c M' x.m.o x.m.n (V.filter (·.1≠q)).length (ps.filter (·≠q)).length,.int .i64 0]) h') :
  CallV Tryz.prog w₀ F.croftref7_Give [pv7 c M x.m.o x.m.n V.length ps.length,.int .u64 a] h K:=by
 have o8:=W.ok.m.o8
 have n1:=W.ok.m.n1
 have pslen:=D.len
 have lV:=W.lenV
 have N0:=box_l h (d7v c M x.m.o x.m.n V.length ps.length) T.T_croftref7_Slab
 refine croftref7_Give.call ?_
 try dsimp only
 generalize Array.push h (.cells (List.toArray (d7v c M x.m.o x.m.n V.length ps.length)) T.T_croftref7_Slab)=g1 at N0 ⊢
 have N1:=box_l g1 z7 T.T_croftref7_Slab
 generalize Array.push g1 (.cells (List.toArray z7) T.T_croftref7_Slab)=g2 at N1 ⊢
 obtain ⟨b0,e0⟩ : ∃b,b=h.size:=⟨_,rfl⟩
 obtain ⟨b1,e1⟩ : ∃b,b=g1.size:=⟨_,rfl⟩
 rw [←e0] at N0 ⊢
 rw [←e1] at N1 ⊢
 have I0:=((Go.V.Own.of H).new N0).new N1
 have J0:Go.V.Own h g2 noR [lR b1 z7,lR b0 (d7v c M x.m.o x.m.n V.length ps.length)]:=((Go.V.Own.of (E:=noR) trivial).drop.new N0).new N1
 have I1:Go.V.Own h g2 (rf7R M x.m.o fl V cl fr pl ps) (lR b1 z7::lR b0 (d7v c M x.m.o x.m.n V.length ps.length)::rfR M.Y x.m.o fl V::frR M.Z 7 pl::outR7 M cl fr ps::frR7 M fr ps::[]) :=
  (ow_open (I0.perm (rs':=[rf7R M x.m.o fl V cl fr pl ps,lR b1 z7,lR b0 (d7v c M x.m.o x.m.n V.length ps.length)]) (List.perm_append_comm (l₁:=[_]) (l₂:=[_,_])))).perm (List.perm_append_comm (l₁:=[_,_]) (l₂:=[_,_,_,_]))
 refine ⟨_,cell_l0 (I1.at 1),_,cell_l (I1.at 1) 1,_,cell_l (I1.at 1) 2,_,cell_l (I1.at 1) 3,_,cell_l (I1.at 1) 4,_,_,_,cell_l (I1.at 1) 5,_,_,_,cell_l (I1.at 1) 6,_,_,_,cell_l (I1.at 1) 7,_,_,_,cell_l (I1.at 1) 8,?_⟩
 refine Cell7_ok (n:=V.length) (O:=x.m.o) ha W.g D (I1.at 4) (I1.at 5) (fun hno g3 u3=>⟨_,_,rfl,?_⟩) fun i j hi hA g3 u3=>⟨_,_,rfl,iF (decide_eq_false (by omega)) ?_⟩
 ·exact iT rfl (out7 (J0.quiet u3) rfl (fun z0 hh=>K (.tuple #[.agg z0.toArray,.int .i64 1]) hh) fun h' J=>hn hno h' J.u)
 have I3:=I1.quiet u3
 obtain ⟨b,eb,c0,c1,c2⟩:=ce_cells (I3.at 4) hi
 obtain ⟨q,hq'⟩ : ∃q,ps.getD i 0=q:=⟨_,rfl⟩
 rw [hq'] at hA c0 c1 c2
 have hq:=hA.1
 have hk:=D.k8 q hq
 have hlt:=D.lt q hq
 have hln:=D.ln q hq
 have cw:=cnt_wdt hk
 refine ⟨_,_,_,cell_l (I3.at 1) 7,_,eb,by omega,by omega,_,c0,_,c1,_,_,_,c2,?_⟩
 have N4:=box_l g3 [.int .i64 0,.int .i64 0,.slice none 0 0] T.T_croftref7_Cells
 generalize Array.push g3 (.cells (List.toArray [.int .i64 0,.int .i64 0,.slice none 0 0]) T.T_croftref7_Cells)=g4 at N4 ⊢
 obtain ⟨b4,e4⟩ : ∃b,b=g3.size:=⟨_,rfl⟩
 rw [←e4] at N4 ⊢
 have I4:=I3.new N4
 obtain ⟨w5,S5⟩:=assign_l (I4.at 0) (ceL M cl fr q)
 have I5:=I4.step 0 S5
 refine ⟨w5,fun J8 hJ8=>?_⟩
 generalize setCs g4 ⟨b4,0,none⟩ 0 (ceL M cl fr q)=g5 at I5 ⊢
 have N6:=sl_lit g5 #[.int .i64 (j:Int)] T.T_int 1 1 rfl
 generalize Array.push g5 (.cells #[.int .i64 (j:Int)] T.T_int)=g6 at N6 ⊢
 obtain ⟨p6,e6⟩ : ∃p,p=(some (⟨Array.size g5,0,none⟩ : Addr):Option Addr):=⟨_,rfl⟩
 rw [←e6] at N6 ⊢
 have N6:New g5 g6 (slR p6 [j].length 1 1 (nV [j])):=N6.conv (fun A=>sl_congr A fun i hi=>by
  have:i=0:=by simp at hi;omega
  subst this;rfl) fun _ e=>e
 have Q6:=I5.new N6
 have after:∀(y:Option Addr) (cy:Nat) (hx:Heap),Go.V.Own h hx (rf7R M x.m.o fl V cl fr pl ps) (slR y (j::fr q).length cy 1 (nV (j::fr q))::lR b4 (ceL M cl fr q)::lR b1 z7::lR b0 (d7v c M x.m.o x.m.n V.length ps.length)::rfR M.Y x.m.o fl V::frR M.Z 7 pl::outR7 M cl fr ps::frR7 M fr ps::[]) →
   J8 [.pointer (some ⟨b0,0,none⟩),.pointer (some ⟨b1,0,none⟩),.pointer (some ⟨b4,0,none⟩),.slice y (j::fr q).length cy] hx:=by
  intro y cy hx I
  refine hJ8 _ _ _ _ _ _ _ ⟨_,cell_l (I.at 1) 1,count7_ok hk ⟨_,rfl,?_⟩⟩
  have hll:(j::fr q).length=(fr q).length+1:=rfl
  by_cases hlast:(fr q).length+1=cnt (cl q)
  ·
   refine iT (by rw [hll,hlast];simp) ⟨_,cell_l0 (I.at 3),_,cell_l (I.at 3) 1,_,cell_l (I.at 3) 2,_,cell_l (I.at 3) 3,_,cell_l (I.at 3) 4,_,_,_,cell_l (I.at 3) 5,_,_,_,cell_l (I.at 3) 6,_,_,_,cell_l (I.at 3) 7,_,_,_,cell_l (I.at 3) 8,_,cell_l0 (I.at 1),_,cell_l (I.at 1) 1,_,_,_,cell_l (I.at 1) 2,_,cell_l (I.at 1) 1,_,cell_l0 (I.at 1),?_⟩
   refine put7_ok (M:=M) (c:=c) (n:=V.length) (O:=x.m.o) (P:=x.m.n) (x:=q) (k:=cl q) (f:=fr q) (gone:=true) (by omega) (I.at 6) fun g8 pp pc N8=>⟨_,_,_,_,_,_,_,_,_,_,_,_,_,_,_,_,_,rfl,?_⟩
   have ep:putPs ps q true=ps.filter (·≠q):=rfl
   rw [ep] at N8 ⊢
   have hqo:q∉ps.filter (·≠q):=by simp
   let M1:RW7:=M.set q none 0 pp pc
   have N8':New hx g8 (outR7 M1 cl (fset fr q []) (ps.filter (·≠q))):=N8.conv (fun A=>sl_congr A fun i hi=>by
    have h1:=ceV_out (M:=M) (cl:=cl) (fr:=fr) (x:=q) (k:=cl q) (q:=M.qf q) (cq:=M.cf q) (pp:=pp) (pc:=pc) (f:=fr q) hqo hi
    have h2:=ceV_out (M:=M) (cl:=cl) (fr:=fr) (x:=q) (k:=cl q) (q:=none) (cq:=0) (pp:=pp) (pc:=pc) (f:=[]) hqo hi
    rw [fset_slf cl q (cl q) rfl] at h1 h2
    rw [fset_slf cl q (cl q) rfl]
    exact h1.trans h2.symm) fun _ e=>e
   have Q8:=I.step 6 (stp_new N8')
   have Q8:Go.V.Own h g8 (rf7R M x.m.o fl V cl fr pl ps) (slR y (j::fr q).length cy 1 (nV (j::fr q))::lR b4 (ceL M cl fr q)::lR b1 z7::lR b0 (d7v c M x.m.o x.m.n V.length ps.length)::rfR M.Y x.m.o fl V::frR M.Z 7 pl::outR7 M1 cl (fset fr q []) (ps.filter (·≠q))::frR7 M fr ps::[]):=Q8
   refine ⟨cell_l0 (Q8.at 1),cell_l (Q8.at 1) 1,?_⟩
   refine partial7_ok (M:=M.set q (M.qf q) (M.cf q) pp pc) (c:=c) (O:=x.m.o) (P:=x.m.n) (n:=V.length) (m:=(ps.filter (·≠q)).length) (pl:=pl) (k:=cl q) (p:=q) (ahead:=false) hk (fun i hi=>by have:=(L i hi).2.1;omega) (Q8.at 5) fun g9 Z' S9=>⟨_,_,_,_,_,_,_,_,_,_,_,_,_,_,_,_,_,rfl,?_⟩
   have Q9:=Q8.step 5 S9
   let M3:RW7:=M1.part Z'
   obtain ⟨w10,S10⟩:=assign_l (Q9.at 3) (d7v c ((M.set q (M.qf q) (M.cf q) pp pc).part Z') x.m.o x.m.n V.length (ps.filter (·≠q)).length)
   have Q10:=Q9.step 3 S10
   refine ⟨w10,?_⟩
   generalize setCs g9 ⟨b0,0,none⟩ 0 (d7v c ((M.set q (M.qf q) (M.cf q) pp pc).part Z') x.m.o x.m.n V.length (ps.filter (·≠q)).length)=g10 at Q10 ⊢
   have Q11:Go.V.Own h g10 (rf7R M x.m.o fl V cl fr pl ps) (slR y (j::fr q).length cy 1 (nV (j::fr q))::lR b4 (ceL M cl fr q)::lR b1 z7::lR b0 (d7v c M3 x.m.o x.m.n V.length (ps.filter (·≠q)).length)::rfR M.Y x.m.o fl V::frR Z' 7 (fset pl (cl q) (partL (pl (cl q)) q false))::outR7 M1 cl (fset fr q []) (ps.filter (·≠q))::frR7 M fr ps::[]):=Q10
   refine m4_ok (M:=M3) (c:=c) (O:=x.m.o) (P:=x.m.n) (n:=V.length) (m:=(ps.filter (·≠q)).length) (Q11.at 3) ⟨_,cell_l0 (Q11.at 1),?_⟩
   have hVq:=hV q hq
   refine ref5_Give_ok (Y:=M.Y) (fl:=fl) (L:=V) (O:=x.m.o) (P:=x.m.n) (pz:=(q:Int)) (z:=0) o8 W.fl5 (by omega) W.al5 (Q11.at 4) (fun hno=>absurd (mem_prL.2 hVq) hno) fun p on ep' eo _ g12 Y' S12=>⟨_,_,_,_,_,_,_,_,_,rfl,?_⟩
   obtain rfl:p=q:=by omega
   obtain rfl:on=0:=by omega
   have Q12:=Q11.step 4 S12
   have N13:=box_l g12 [.int .i64 0,.int .i64 0,.slice none 0 0,.slice none 0 0] T.T_croftref5_Buddy
   generalize Array.push g12 (.cells (List.toArray [.int .i64 0,.int .i64 0,.slice none 0 0,.slice none 0 0]) T.T_croftref5_Buddy)=g13 at N13 ⊢
   have Q13:=Q12.new N13
   obtain ⟨w14,S14⟩:=assign_l (Q13.at 0) [.int .i64 (x.m.o:Int),.int .i64 (x.m.n:Int),.slice Y'.fp (x.m.o+1) Y'.fc,.slice Y'.vp (V.filter (·.1≠p)).length Y'.vc]
   have Q14:=Q13.step 0 S14
   refine ⟨w14,?_⟩
   have B14:=Q14.at 0
   obtain ⟨w15,S15⟩:=d7_put (Q14.at 4) Y' x.m.n (V.filter (·.1≠p)).length
   refine ⟨_,cell_l0 B14,_,cell_l B14 1,_,_,_,cell_l B14 2,_,_,_,cell_l B14 3,w15,?_⟩
   have Q15:=Q14.step 4 S15
   let M4:RW7:={ M3 with Y:=Y' }
   have Q16:=Q15.drop.drop.drop
   refine out7 (M:=M4) Q16 rfl (fun z0 hh=>K (.tuple #[.agg z0.toArray,.int .i64 0]) hh) fun h' J=>?_
   refine hl p j hA hlast h' M4 ?_
   have J2:=(J.drop.drop).perm (rs':=frR7 M fr ps::rfR Y' x.m.o (aUp fl p 0 (x.m.o-0)) (V.filter (·.1≠p))::frR Z' 7 (fset pl (cl p) (partL (pl (cl p)) p false))::outR7 M1 cl (fset fr p []) (ps.filter (·≠p))::[]) (List.perm_append_comm (l₁:=[_]) (l₂:=[_,_,_]))
   have J3:=own_fr7' (ps':=ps.filter (·≠p)) (q:=none) (cq:=0) (pc:=pc) (pp:=pp) (f:=[]) (by omega:p<1024) (fun z hz=>by simp [hz]) J2 (fun hm=>absurd hm hqo) (fun hm=>absurd hm hqo)
   have J4:Go.V.Own h h' (rf7R M x.m.o fl V cl fr pl ps) (rfR M4.Y x.m.o (aUp fl p 0 (x.m.o-0)) (V.filter (·.1≠p))::frR M4.Z 7 (fset pl (cl p) ((pl (cl p)).filter (·≠p)))::outR7 M4 cl (fset fr p []) (ps.filter (·≠p))::frR7 M4 (fset fr p []) (ps.filter (·≠p))::[]):=J3.perm (List.perm_append_comm (l₁:=[_,_,_]) (l₂:=[_]))
   exact (ow_close J4).stp
  ·
   refine iF (beq_eq_false_iff_ne.2 fun e=>hlast (by rw [hll] at e;omega)) ⟨_,cell_l0 (I.at 3),_,cell_l (I.at 3) 1,_,cell_l (I.at 3) 2,_,cell_l (I.at 3) 3,_,cell_l (I.at 3) 4,_,_,_,cell_l (I.at 3) 5,_,_,_,cell_l (I.at 3) 6,_,_,_,cell_l (I.at 3) 7,_,_,_,cell_l (I.at 3) 8,_,cell_l0 (I.at 1),_,cell_l (I.at 1) 1,?_⟩
   refine put7_ok (M:=M) (c:=c) (n:=V.length) (O:=x.m.o) (P:=x.m.n) (x:=q) (k:=cl q) (f:=j::fr q) (gone:=false) (by omega) (I.at 6) fun g8 pp pc N8=>⟨_,_,_,_,_,_,_,_,_,_,_,_,_,_,_,_,_,rfl,?_⟩
   rw [putPs_in hq,fset_slf cl q (cl q) rfl] at N8
   rw [putPs_in hq]
   let M1:RW7:=M.set q y cy pp pc
   have Q8:=I.step 6 (stp_new N8)
   have Q8:Go.V.Own h g8 (rf7R M x.m.o fl V cl fr pl ps) (slR y (j::fr q).length cy 1 (nV (j::fr q))::lR b4 (ceL M cl fr q)::lR b1 z7::lR b0 (d7v c M x.m.o x.m.n V.length ps.length)::rfR M.Y x.m.o fl V::frR M.Z 7 pl::outR7 M1 cl (fset fr q (j::fr q)) ps::frR7 M fr ps::[]):=Q8
   have Q9:=Q8.perm (rs':=slR y (j::fr q).length cy 1 (nV (j::fr q))::frR7 M fr ps::lR b4 (ceL M cl fr q)::lR b1 z7::lR b0 (d7v c M x.m.o x.m.n V.length ps.length)::rfR M.Y x.m.o fl V::frR M.Z 7 pl::outR7 M1 cl (fset fr q (j::fr q)) ps::[]) (.cons _ (List.perm_append_comm (l₁:=[_]) (l₂:=[_,_,_,_,_,_])))
   have Q10:=own_fr7 (M:=M) (ps':=ps) (pc:=pc) (pp:=pp) (by omega:q<1024) hq (fun z hz=>Iff.rfl) Q9
   have Q11:Go.V.Own h g8 (rf7R M x.m.o fl V cl fr pl ps) (lR b4 (ceL M cl fr q)::lR b1 z7::lR b0 (d7v c M x.m.o x.m.n V.length ps.length)::rfR M.Y x.m.o fl V::frR M.Z 7 pl::outR7 M1 cl (fset fr q (j::fr q)) ps::frR7 M1 (fset fr q (j::fr q)) ps::[]):=Q10.perm (List.perm_append_comm (l₁:=[_,_,_,_,_,_]) (l₂:=[_]))
   obtain ⟨w12,S12⟩:=assign_l (Q11.at 2) (d7v c M1 x.m.o x.m.n V.length ps.length)
   have Q12:=Q11.step 2 S12
   refine ⟨w12,fun J20 hJ20=>?_⟩
   generalize setCs g8 ⟨b0,0,none⟩ 0 (d7v c M1 x.m.o x.m.n V.length ps.length)=g12 at Q12 ⊢
   have Q12:Go.V.Own h g12 (rf7R M x.m.o fl V cl fr pl ps) (lR b4 (ceL M cl fr q)::lR b1 z7::lR b0 (d7v c M1 x.m.o x.m.n V.length ps.length)::rfR M.Y x.m.o fl V::frR M.Z 7 pl::outR7 M1 cl (fset fr q (j::fr q)) ps::frR7 M1 (fset fr q (j::fr q)) ps::[]):=Q12
   have fin:∀(hz:Heap) (M2:RW7),M2.Y=M.Y→Go.V.Own h hz (rf7R M x.m.o fl V cl fr pl ps) (lR b4 (ceL M cl fr q)::lR b1 z7::lR b0 (d7v c M2 x.m.o x.m.n V.length ps.length)::rfR M2.Y x.m.o fl V::frR M2.Z 7 (fset pl (cl q) (if fr q=[] then q::pl (cl q) else pl (cl q)))::outR7 M2 cl (fset fr q (j::fr q)) ps::frR7 M2 (fset fr q (j::fr q)) ps::[]) →
     J20 [.pointer (some ⟨b0,0,none⟩),.pointer (some ⟨b1,0,none⟩)] hz:=fun hz M2 hY I=>by
    refine hJ20 _ _ _ (out7 (M:=M2) I.drop rfl (fun z0 hh=>K (.tuple #[.agg z0.toArray,.int .i64 0]) hh) fun h' J=>hc q j hA hlast h' M2 ?_)
    exact (ow_close J.drop.drop).stp
   by_cases hf:fr q=[]
   ·refine iT (by rw [hll,hf];rfl) ⟨_,cell_l0 (Q12.at 2),_,cell_l (Q12.at 2) 1,_,cell_l (Q12.at 2) 2,_,cell_l (Q12.at 2) 3,_,cell_l (Q12.at 2) 4,_,_,_,cell_l (Q12.at 2) 5,_,_,_,cell_l (Q12.at 2) 6,_,_,_,cell_l (Q12.at 2) 7,_,_,_,cell_l (Q12.at 2) 8,_,cell_l (Q12.at 0) 1,_,cell_l0 (Q12.at 0),?_⟩
    refine partial7_ok (M:=M1) (c:=c) (O:=x.m.o) (P:=x.m.n) (n:=V.length) (m:=ps.length) (pl:=pl) (k:=cl q) (p:=q) (ahead:=true) hk (fun i hi=>by have:=(L i hi).2.1;omega) (Q12.at 4) fun g13 Z' S13=>⟨_,_,_,_,_,_,_,_,_,_,_,_,_,_,_,_,_,rfl,?_⟩
    have Q13:=Q12.step 4 S13
    obtain ⟨w14,S14⟩:=assign_l (Q13.at 2) (d7v c (M1.part Z') x.m.o x.m.n V.length ps.length)
    have Q14:=Q13.step 2 S14
    refine ⟨w14,fin _ (M1.part Z') rfl ?_⟩
    have ep:partL (pl (cl q)) q true=(if fr q=[] then q::pl (cl q) else pl (cl q)):=by
     rw [if_pos hf]
     show q::(pl (cl q)).filter (·≠q)=_
     congr 1
     refine List.filter_eq_self.2 fun p hp=>?_
     have:=((L _ hk).2.2 p hp).2.2
     have:p≠q:=fun e=>this (e▸hf)
     simpa using this
    have Q14:Go.V.Own h (setCs g13 ⟨b0,0,none⟩ 0 (d7v c (M1.part Z') x.m.o x.m.n V.length ps.length)) (rf7R M x.m.o fl V cl fr pl ps) (lR b4 (ceL M cl fr q)::lR b1 z7::lR b0 (d7v c (M1.part Z') x.m.o x.m.n V.length ps.length)::rfR M.Y x.m.o fl V::frR Z' 7 (fset pl (cl q) (partL (pl (cl q)) q true))::outR7 M1 cl (fset fr q (j::fr q)) ps::frR7 M1 (fset fr q (j::fr q)) ps::[]):=Q14
    rw [ep] at Q14
    exact Q14
   ·refine iF (beq_eq_false_iff_ne.2 fun e=>hf (List.length_eq_zero_iff.1 (by rw [hll] at e;omega))) (fin _ M1 rfl ?_)
    rw [if_neg hf,fset_slf pl (cl q) (pl (cl q)) rfl]
    exact Q12
 intro L24 hL24
 have loop:∀(d i:Nat) (y:Option Addr) (cy:Nat) (hx:Heap),i+d=(fr q).length→Go.V.Own h hx (rf7R M x.m.o fl V cl fr pl ps) (slR y (j::(fr q).take i).length cy 1 (nV (j::(fr q).take i))::lR b4 (ceL M cl fr q)::lR b1 z7::lR b0 (d7v c M x.m.o x.m.n V.length ps.length)::rfR M.Y x.m.o fl V::frR M.Z 7 pl::outR7 M cl fr ps::frR7 M fr ps::[]) →
   L24 [.pointer (some ⟨b0,0,none⟩),.pointer (some ⟨b1,0,none⟩),.pointer (some ⟨b4,0,none⟩),.slice y (j::(fr q).take i).length cy,.int .i64 (i:Int)] hx:=by
  intro d
  induction d with
  | zero =>
   intro i y cy hx hi I
   have hi:i=(fr q).length:=by omega
   subst hi
   rw [List.take_length] at I ⊢
   exact hL24 _ _ _ _ _ _ _ _ ⟨_,_,_,cell_l (I.at 1) 2,iF (decide_eq_false (by omega)) (after y cy hx I)⟩
  | succ d ih =>
   intro i y cy hx hi I
   obtain ⟨a',ea,qa⟩:=ro_cell (fr7_at (I.at 7) hq (by omega)) (i:=i) (by omega)
   have lt:(j::(fr q).take i).length≤300:=by rw [List.length_cons,List.length_take];omega
   obtain ⟨os,r1,r2⟩:=sl_app1 (zs:=[.int .i64 0]) (v:=.int .i64 (((fr q).getD i 0:Nat):Int)) (b:=8) (e:=T.T_int) (T:=T.T_int) (I.at 0) rfl rfl (by omega)
   refine hL24 _ _ _ _ _ _ _ _ ⟨_,_,_,cell_l (I.at 1) 2,iT (decide_eq_true (by omega)) ⟨_,_,_,cell_l (I.at 1) 2,_,ea,by omega,by omega,_,qa,os,_,r1,fun p' c' h9 res=>?_⟩⟩
   have et:j::(fr q).take (i+1)=(j::(fr q).take i)++[(fr q).getD i 0]:=by rw [take_ge (fr q) i 0 (by omega)];rfl
   have er:(j::(fr q).take (i+1)).length=(j::(fr q).take i).length+1:=by rw [et,List.length_append];rfl
   have Q2:=I.step 0 (R':=slR p' (j::(fr q).take (i+1)).length c' 1 (nV (j::(fr q).take (i+1)))) ((r2 p' c' h9 res).conv (fun A=>by
    rw [er,et]
    exact sl_congr A fun z hz=>nV_snoc _ _ hz) fun _ e=>e)
   rw [show IntKind.wrap .i64 ((i:Int)+1)=((i+1:Nat):Int) by rw [IntKind.wrap_i64];omega]
   have:=ih (i+1) p' c' h9 (by omega) Q2
   rw [er] at this
   exact this
 exact loop (fr q).length 0 p6 1 g6 (by omega) Q6
end
end Go.Proofs.YteemmpkhdllapaaGreatDoor
namespace Go.Proofs.YteemmpkhdllapaaGreatDoor
open Go.V Classical
section
variable {w₀:World} {h h':Heap} {c:Cfg} {M:RW7} {K:Value→Heap→Prop} {S:Nat→Prop} {x:BU} {fl:Nat→List Nat} {V:List PBk} {m:Nat}
theorem WS.apartF (W:WS S c x fl V) {k p:Nat} (hk:k≤x.m.o) (hp:p∈fl k):∀b∈V,b.1≠p:=fun b hb e=>by
 have nd:=W.rep.til.nodup
 have h1:=W.rep.mem hk hp
 have h2:b∈[]++(V++blks x.m.o fl):=List.mem_append_right _ (List.mem_append_left _ hb)
 have h0:=Nat.two_pow_pos b.2
 have:=W.rep.til.uniq h1 h2 (q:=p) cov_self ⟨by omega,by omega⟩
 subst this
 exact (List.nodup_append.1 (List.nodup_append.1 nd).2.1).2.2 _ hb (p,k) (mem_blks.2 ⟨hk,hp⟩) rfl
theorem Trim7_ok (W:WS S c x fl V) (H:(rfR M.Y x.m.o fl V).P h)
  (hK:∀h' Y' fl' r,trimF x.m.o x.st.n fl=(r,fl')→Stp h h' (rfR M.Y x.m.o fl V) (rfR Y' x.m.o fl' V)→K (.tuple #[pv7 c { M with Y:=Y' } x.m.o (r*2 ^ x.m.o) V.length m,.int .i64 ((x.st.n-r:Nat):Int)]) h') :
  CallV Tryz.prog w₀ F.croftref7_Trim [pv7 c M x.m.o x.m.n V.length m] h K:=by
 have o8:=W.ok.m.o8
 have n1:=W.ok.m.n1
 have lV:=W.lenV
 have nr:=W.nr
 have p2:=Nat.two_pow_pos x.m.o
 have N0:=box_l h (d7v c M x.m.o x.m.n V.length m) T.T_croftref7_Slab
 refine croftref7_Trim.call ?_
 try dsimp only
 generalize Array.push h (.cells (List.toArray (d7v c M x.m.o x.m.n V.length m)) T.T_croftref7_Slab)=g1 at N0 ⊢
 have N1:=box_l g1 z7 T.T_croftref7_Slab
 generalize Array.push g1 (.cells (List.toArray z7) T.T_croftref7_Slab)=g2 at N1 ⊢
 obtain ⟨b0,e0⟩ : ∃b,b=h.size:=⟨_,rfl⟩
 obtain ⟨b1,e1⟩ : ∃b,b=g1.size:=⟨_,rfl⟩
 rw [←e0] at N0 ⊢
 rw [←e1] at N1 ⊢
 have I0:=((Go.V.Own.of H).new N0).new N1
 intro L3 hL3
 have loop:∀(r:Nat) (F:Nat→List Nat) (Y1:RW5) (hx:Heap),r≤x.st.n→r*2 ^ x.m.o≤x.m.n→(∀k,k≤x.m.o→(F k).length≤2000)→(∀p∈F x.m.o,∀b∈V,b.1≠p)→trimF x.m.o r F=trimF x.m.o x.st.n fl →
   Go.V.Own h hx (rfR M.Y x.m.o fl V) (lR b1 z7::lR b0 (d7v c { M with Y:=Y1 } x.m.o (r*2 ^ x.m.o) V.length m)::rfR Y1 x.m.o F V::[]) →
   L3 [.pointer (some ⟨b0,0,none⟩),.pointer (some ⟨b1,0,none⟩),.int .i64 ((x.st.n-r:Nat):Int)] hx:=by
  intro r
  induction r with
  | zero =>
   intro F Y1 hx hr hP fl5 hdis et I
   refine hL3 _ _ _ _ (m4_ok (M:={ M with Y:=Y1 }) (c:=c) (n:=V.length) (m:=m) (I.at 1) ?_)
   refine ref5_Pull_ok (Y:=Y1) (fl:=F) (L:=V) (O:=x.m.o) (P:=0*2 ^ x.m.o) o8 (by omega) (fun hne=>absurd (Nat.zero_mul _) hne) fl5 (by omega) (I.at 2) (fun _ h3 u3=>⟨_,_,_,_,_,_,_,_,_,rfl,?_⟩) fun hne=>absurd (Nat.zero_mul _) hne
   have J:=I.quiet u3
   have N4:=box_l h3 [.int .i64 0,.int .i64 0,.slice none 0 0,.slice none 0 0] T.T_croftref5_Buddy
   generalize Array.push h3 (.cells (List.toArray [.int .i64 0,.int .i64 0,.slice none 0 0,.slice none 0 0]) T.T_croftref5_Buddy)=h4 at N4 ⊢
   have J4:=J.new N4
   obtain ⟨w5,S5⟩:=assign_l (J4.at 0) [.int .i64 (x.m.o:Int),.int .i64 ((0*2 ^ x.m.o:Nat):Int),.slice Y1.fp (x.m.o+1) Y1.fc,.slice Y1.vp V.length Y1.vc]
   have J5:=(J4.step 0 S5).drop
   refine ⟨w5,iT rfl (out7 (M:={ M with Y:=Y1 }) J5 rfl (fun z0 hh=>K (.tuple #[.agg z0.toArray,.int .i64 ((x.st.n-0:Nat):Int)]) hh) fun h' J=>?_)⟩
   exact hK h' Y1 F 0 (by rw [←et];rfl) J.drop.drop.stp
  | succ r ih =>
   intro F Y1 hx hr hP fl5 hdis et I
   have eP:(r+1)*2 ^ x.m.o-2 ^ x.m.o=r*2 ^ x.m.o:=by rw [Nat.succ_mul,Nat.add_sub_cancel]
   have hP2:2 ^ x.m.o≤(r+1)*2 ^ x.m.o:=by rw [Nat.succ_mul];exact Nat.le_add_left _ _
   refine hL3 _ _ _ _ (m4_ok (M:={ M with Y:=Y1 }) (c:=c) (n:=V.length) (m:=m) (I.at 1) ?_)
   refine ref5_Pull_ok (Y:=Y1) (fl:=F) (L:=V) (O:=x.m.o) (P:=(r+1)*2 ^ x.m.o) o8 (by omega) (fun _=>hP2) fl5 (by omega) (I.at 2) (fun hno h3 u3=>⟨_,_,_,_,_,_,_,_,_,rfl,?_⟩) fun hne hin h3 Y2 S3=>⟨_,_,_,_,_,_,_,_,_,rfl,?_⟩
   ·rw [eP] at hno
    have J:=I.quiet u3
    have N4:=box_l h3 [.int .i64 0,.int .i64 0,.slice none 0 0,.slice none 0 0] T.T_croftref5_Buddy
    generalize Array.push h3 (.cells (List.toArray [.int .i64 0,.int .i64 0,.slice none 0 0,.slice none 0 0]) T.T_croftref5_Buddy)=h4 at N4 ⊢
    have J4:=J.new N4
    obtain ⟨w5,S5⟩:=assign_l (J4.at 0) [.int .i64 (x.m.o:Int),.int .i64 (((r+1)*2 ^ x.m.o:Nat):Int),.slice Y1.fp (x.m.o+1) Y1.fc,.slice Y1.vp V.length Y1.vc]
    have J5:=(J4.step 0 S5).drop
    refine ⟨w5,iT rfl (out7 (M:={ M with Y:=Y1 }) J5 rfl (fun z0 hh=>K (.tuple #[.agg z0.toArray,.int .i64 ((x.st.n-(r+1):Nat):Int)]) hh) fun h' J=>?_)⟩
    have hni:r*2 ^ x.m.o∉F x.m.o:=fun hm=>hno ⟨by omega,hm⟩
    refine hK h' Y1 F (r+1) ?_ J.drop.drop.stp
    rw [←et]
    show (if r*2 ^ x.m.o∈F x.m.o then _ else _)=_
    rw [if_neg hni]
   ·rw [eP] at hin S3
    have I3:=I.step 2 S3
    have N4:=box_l h3 [.int .i64 0,.int .i64 0,.slice none 0 0,.slice none 0 0] T.T_croftref5_Buddy
    rw [eP]
    generalize Array.push h3 (.cells (List.toArray [.int .i64 0,.int .i64 0,.slice none 0 0,.slice none 0 0]) T.T_croftref5_Buddy)=h4 at N4 ⊢
    obtain ⟨b4,e4⟩ : ∃b,b=h3.size:=⟨_,rfl⟩
    rw [←e4] at N4 ⊢
    have I4:=I3.new N4
    obtain ⟨V2,hV2⟩ : ∃V2,V++[(r*2 ^ x.m.o,x.m.o)]=V2:=⟨_,rfl⟩
    have hV3:V2.filter (·.1≠r*2 ^ x.m.o)=V:=by
     rw [←hV2,List.filter_append]
     have h1:V.filter (·.1≠r*2 ^ x.m.o)=V:=List.filter_eq_self.2 fun b hb=>by simpa using hdis _ hin b hb
     rw [h1];simp
    have hV4:V2.length≤2000:=by rw [←hV2];simp;omega
    rw [hV2] at I4 ⊢
    obtain ⟨w5,S5⟩:=assign_l (I4.at 0) [.int .i64 (x.m.o:Int),.int .i64 (((r+1)*2 ^ x.m.o:Nat):Int),.slice Y2.fp (x.m.o+1) Y2.fc,.slice Y2.vp V2.length Y2.vc]
    have I5:=I4.step 0 S5
    refine ⟨w5,iF rfl ?_⟩
    generalize setCs h4 ⟨b4,0,none⟩ 0 [.int .i64 (x.m.o:Int),.int .i64 (((r+1)*2 ^ x.m.o:Nat):Int),.slice Y2.fp (x.m.o+1) Y2.fc,.slice Y2.vp V2.length Y2.vc]=h5 at I5 ⊢
    have B5:=I5.at 0
    refine ⟨_,cell_l0 B5,_,cell_l B5 1,_,_,_,cell_l B5 2,_,_,_,cell_l B5 3,?_⟩
    refine go5_ok (Y:=Y2) (fl:=fset F x.m.o ((F x.m.o).filter (·≠r*2 ^ x.m.o))) (L:=V2) (O:=x.m.o) (P:=(r+1)*2 ^ x.m.o) o8 (by omega) hP2 (by omega) (I5.at 3) fun h6 Y3 S6=>⟨_,_,_,_,_,_,_,_,rfl,?_⟩
    rw [eP,hV3] at S6 ⊢
    have Q6:=I5.step 3 S6
    obtain ⟨w7,S7⟩:=d7_put (Q6.at 2) Y3 (r*2 ^ x.m.o) V.length
    refine ⟨w7,?_⟩
    have Q7:=(Q6.step 2 S7).drop
    have ew:IntKind.wrap .i64 (((x.st.n-(r+1):Nat):Int)+1)=((x.st.n-r:Nat):Int):=by rw [IntKind.wrap_i64];omega
    rw [ew]
    refine ih (fset F x.m.o ((F x.m.o).filter (·≠r*2 ^ x.m.o))) Y3 _ (by omega) (by omega) (fun k hk=>?_) (fun p hp b hb=>?_) ?_ Q7
    ·by_cases e:k=x.m.o
     ·rw [e,fset_same];exact Nat.le_trans (List.length_filter_le _ _) (fl5 _ (Nat.le_refl _))
     ·rw [fset_ne _ _ e];exact fl5 k hk
    ·rw [fset_same] at hp
     exact hdis p ((List.mem_filter.1 hp).1) b hb
    ·rw [←et]
     show trimF x.m.o r _=(if r*2 ^ x.m.o∈F x.m.o then trimF x.m.o r (fset F x.m.o ((F x.m.o).filter (·≠r*2 ^ x.m.o))) else _)
     rw [if_pos hin]
 have:=loop x.st.n fl M.Y g2 (Nat.le_refl _) (by rw [W.e];exact Nat.le_refl _) W.fl5 (fun p hp=>W.apartF (Nat.le_refl _) hp) rfl (by rw [←W.e];exact I0)
 simpa using this
end
end Go.Proofs.YteemmpkhdllapaaGreatDoor
namespace Go.Proofs.YteemmpkhdllapaaGreatDoor
open Go.V Classical
def upT (f:Nat→Bool) (t i:Nat):Bool:=decide (i<t) && f i
theorem up_or {f:Nat→Bool} {t:Nat} (h:f t=true):wd (upT f (t+1)) (t / 64)=wd (upT f t) (t / 64) ||| 2 ^ (t % 64):=by
 have hlt:=wd_lt (upT f t) (t / 64)
 have h2:2 ^ (t % 64)<18446744073709551616:=by
  have:=Nat.pow_lt_pow_right (show 1<2 by omega) (show t % 64<64 by omega)
  omega
 refine (wd_eq (Nat.or_lt_two_pow (n:=64) hlt h2) fun i hi=>?_).symm
 rw [Nat.testBit_or,wd_bit,Nat.testBit_two_pow,decide_eq_true hi,Bool.true_and]
 unfold upT
 by_cases e:t % 64=i
 ·have et:64*(t / 64)+i=t:=by omega
  rw [et,h]
  simp [e]
 ·rw [decide_eq_false e,Bool.or_false]
  congr 1
  exact decide_eq_decide.2 (by omega)
theorem up_no {f:Nat→Bool} {t j:Nat} (h:f t=false∨j≠t / 64):wd (upT f (t+1)) j=wd (upT f t) j:=wd_congr fun i hi=>by
 unfold upT
 by_cases h1:64*j+i=t
 ·rcases h with hf | hf
  ·rw [h1,hf];simp
  ·omega
 ·have h2:decide (64*j+i<t+1)=decide (64*j+i<t):=by rw [decide_eq_decide];omega
  rw [h2]
theorem up_zero {f:Nat→Bool} {j:Nat}:wd (upT f 0) j=0:=(wd_eq (by omega) fun i hi=>by simp [upT]).symm
abbrev pgE (k l:Nat) (N Q F:Int) (f:Nat→Bool):List Value:=[.int .i64 4,.int .i64 0,.int .i64 (k:Int),.int .i64 ((cnt k:Int)-(l:Int)),.int .i64 N,.int .i64 Q,.int .i64 F,.int .u64 (wd f 0:Int),.int .u64 (wd f 1:Int),.int .u64 (wd f 2:Int),.int .u64 (wd f 3:Int)]
section
variable {k l t:Nat} {N Q F:Int} {f:Nat→Bool}
theorem pgE_bit (ht:t<256) (h:f t=true):(pgE k l N Q F (upT f t)).set (7+t / 64) (.int .u64 ((wd (upT f t) (t / 64) ||| 2 ^ (t % 64):Nat):Int))=pgE k l N Q F (upT f (t+1)):=by
 rw [←up_or h]
 have:t / 64=0∨t / 64=1∨t / 64=2∨t / 64=3:=by omega
 unfold pgE
 rcases this with e | e | e | e<;>rw [e]
 ·rw [up_no (j:=1) (.inr (by omega)),up_no (j:=2) (.inr (by omega)),up_no (j:=3) (.inr (by omega))];rfl
 ·rw [up_no (j:=0) (.inr (by omega)),up_no (j:=2) (.inr (by omega)),up_no (j:=3) (.inr (by omega))];rfl
 ·rw [up_no (j:=0) (.inr (by omega)),up_no (j:=1) (.inr (by omega)),up_no (j:=3) (.inr (by omega))];rfl
 ·rw [up_no (j:=0) (.inr (by omega)),up_no (j:=1) (.inr (by omega)),up_no (j:=2) (.inr (by omega))];rfl
theorem pgE_no (h:f t=false):pgE k l N Q F (upT f (t+1))=pgE k l N Q F (upT f t):=by
 unfold pgE
 rw [up_no (j:=0) (.inl h),up_no (j:=1) (.inl h),up_no (j:=2) (.inl h),up_no (j:=3) (.inl h)]
theorem pgE_word (ht:t<256):(pgE k l N Q F f)[7+t / 64]? = some (.int .u64 (wd f (t / 64):Int)):=by
 have:t / 64=0∨t / 64=1∨t / 64=2∨t / 64=3:=by omega
 rcases this with e | e | e | e<;>rw [e]<;>rfl
end
structure Mp (G:Nat→Nat→Int) (cl:Nat→Nat) (fr pl:Nat→List Nat) (p:Nat):Prop where
 pi:PgI (G p) (cl p) (fr p)
 u:∀j,j<11→7≤j→0≤G p j∧G p j<18446744073709551616
 at_:∀i,i<(pl (cl p)).length→(pl (cl p)).getD i 0=p→G p 5=(if 0<i then (((pl (cl p)).getD (i-1) 0:Nat):Int) else -1)∧G p 4=if i+1<(pl (cl p)).length then (((pl (cl p)).getD (i+1) 0:Nat):Int) else -1
 no:p∉pl (cl p)→G p 4=-1∧G p 5=-1
 nd:(pl (cl p)).Nodup
 ln:(pl (cl p)).length≤2000
section
variable {G:Nat→Nat→Int} {cl:Nat→Nat} {fr pl:Nat→List Nat} {p:Nat}
abbrev inF (f:List Nat) (i:Nat):Bool:=!decide (i∈f)
theorem Mp.page (A:Mp G cl fr pl p) {j:Nat} (hj:j<11):(pgE (cl p) (fr p).length (G p 4) (G p 5) (hdE (fr p) (-1)) (upT (inF (fr p)) (cnt (cl p))))[j]? = some (pcl j (G p j)):=by
 have I:=A.pi
 have w:∀w,w<4→G p (7+w)=((wd (upT (inF (fr p)) (cnt (cl p))) w:Nat):Int):=fun w hw=>by
  obtain ⟨u1,u2⟩:=A.u (7+w) (by omega) (by omega)
  have:=wd_eq (f:=upT (inF (fr p)) (cnt (cl p))) (j:=w) (x:=(G p (7+w)).toNat) (by omega) fun i hi=>by
   have:=I.bit (64*w+i) (by omega)
   unfold pbit at this
   rw [show (64*w+i) / 64=w by omega,show (64*w+i) % 64=i by omega] at this
   rw [this]
   unfold upT inF
   congr 1
  omega
 have:j=0∨j=1∨j=2∨j=3∨j=4∨j=5∨j=6∨j=7∨j=8∨j=9∨j=10:=by omega
 rcases this with rfl | rfl | rfl | rfl | rfl | rfl | rfl | rfl | rfl | rfl | rfl
 ·rw [I.k0];rfl
 ·rw [I.k1];rfl
 ·rw [I.k2];rfl
 ·rw [I.k3];rfl
 ·rfl
 ·rfl
 ·rw [I.k6];rfl
 ·rw [show (7:Nat)=7+0 from rfl,w 0 (by omega)];rfl
 ·rw [show (8:Nat)=7+1 from rfl,w 1 (by omega)];rfl
 ·rw [show (9:Nat)=7+2 from rfl,w 2 (by omega)];rfl
 ·rw [show (10:Nat)=7+3 from rfl,w 3 (by omega)];rfl
noncomputable def nbN (l:List Nat) (p j:Nat) (v:Int):Int:=if p∈l.take j then v else -1
theorem nb_zero {l:List Nat} {v:Int}:nbN l p 0 v=-1:=by unfold nbN;rw [if_neg (by simp)]
theorem nb_miss {l:List Nat} {v:Int} {j:Nat} (hj:j<l.length) (h:l.getD j 0≠p):nbN l p (j+1) v=nbN l p j v:=by
 unfold nbN
 rw [take_ge l j 0 hj]
 have:(p∈l.take j++[l.getD j 0])↔p∈l.take j:=by
  rw [List.mem_append,List.mem_singleton]
  exact ⟨fun h'=>h'.resolve_right fun e=>h e.symm,.inl⟩
 simp only [this]
theorem nb_hit {l:List Nat} {v:Int} {j:Nat} (nd:l.Nodup) (hj:j<l.length) (h:l.getD j 0=p):nbN l p j v=-1∧nbN l p (j+1) v=v:=by
 have hs:=take_ge l j 0 hj
 have n2:(l.take (j+1)).Nodup:=List.Nodup.sublist (List.take_sublist _ _) nd
 unfold nbN
 rw [hs] at n2 ⊢
 rw [h] at n2 ⊢
 refine ⟨if_neg fun hm=>(List.nodup_append.1 n2).2.2 _ hm p (List.mem_singleton.2 rfl) rfl,if_pos (List.mem_append_right _ (List.mem_singleton.2 rfl))⟩
theorem Mp.done (A:Mp G cl fr pl p):nbN (pl (cl p)) p (pl (cl p)).length (G p 4)=G p 4∧nbN (pl (cl p)) p (pl (cl p)).length (G p 5)=G p 5:=by
 unfold nbN
 rw [List.take_length]
 by_cases h:p∈pl (cl p)
 ·rw [if_pos h,if_pos h];exact ⟨rfl,rfl⟩
 ·rw [if_neg h,if_neg h,(A.no h).1,(A.no h).2];exact ⟨rfl,rfl⟩
theorem CS_at {pg:Nat→Nat→Int}:∀{l:List Nat} {a b:Int},CS pg l a b→∀i,i<l.length→pg (l.getD i 0) 5=(if 0<i then ((l.getD (i-1) 0:Nat):Int) else a)∧pg (l.getD i 0) 4=if i+1<l.length then ((l.getD (i+1) 0:Nat):Int) else b
 | [],_,_,_,i,hi=>absurd hi (by simp)
 | p::l,a,b,H,0,_=>by
  refine ⟨by rw [if_neg (by omega)];exact H.1,?_⟩
  show pg p 4=_
  rw [H.2.1]
  cases l with
  | nil=>rw [if_neg (by simp)];rfl
  | cons q l=>rw [if_pos (by simp)];rfl
 | p::l,a,b,H,i+1,hi=>by
  have hi:i<l.length:=by simpa using hi
  obtain ⟨h1,h2⟩:=CS_at H.2.2 i hi
  have e1:(p::l).getD (i+1) 0=l.getD i 0:=rfl
  have e2:(p::l).getD (i+1+1) 0=l.getD (i+1) 0:=rfl
  rw [e1,e2,h1,h2,if_pos (show 0<i+1 by omega),List.length_cons]
  refine ⟨?_,by simp only [Nat.add_lt_add_iff_right]⟩
  cases i with
  | zero=>rw [if_neg (by omega)];rfl
  | succ i=>rw [if_pos (by omega)];rfl
end
theorem SI.mp {c:Cfg} {x:BU} {hp:Nat→Int} {S:Nat→Prop} {fl:Nat→List Nat} {L:List PBk} {cl:Nat→Nat} {fr pl:Nat→List Nat} (I:SI c x hp S fl L cl fr pl) {p:Nat} (h:S p) (hl:∀j,j<8→(pl j).length≤2000):Mp x.m.pg cl fr pl p:=by
 have hk:=I.k8 p h
 refine ⟨I.pg p h,(I.w.ok.m.pg p (I.w.rep.sn h)).u,fun i hi e=>?_,fun hn=>?_,(I.pn _ hk).1,hl _ hk⟩
 ·have:=CS_at (I.ch _ hk) i hi
  rw [e] at this
  exact this
 ·exact I.no p h (Classical.byContradiction fun hf=>hn (((I.pn _ hk).2 p).2 ⟨h,rfl,hf⟩))
end Go.Proofs.YteemmpkhdllapaaGreatDoor
