/- Texts of this proof, some in one. No condition. -/
import Derived.Test.YteemmpkhdllapaaGreatDoorY16
import Derived.Test.YteemmpkhdllapaaGreatDoorY15
import Derived.Test.YteemmpkhdllapaaGreatDoorY12
set_option linter.unusedSimpArgs false
set_option linter.unusedVariables false
namespace Go.Proofs.YteemmpkhdllapaaGreatDoor
open Go.V Classical
noncomputable def mG (G G0:Nat→Nat→Int) (l:List Nat):Nat→Nat→Int:=fun q=>if q∈l then G q else G0 q
section
variable {w₀:World} {h h' hx:Heap} {c:Cfg} {M:RW7} {O P:Nat} {fl:Nat→List Nat} {V:List PBk} {G:Nat→Nat→Int} {cl:Nat→Nat} {fr pl:Nat→List Nat} {ps:List Nat} {K:Value→Heap→Prop}
theorem Map7_ok (hO:O≤8) (f:FlOk O fl) (hL:V.length≤100000) (al:∀b∈V,b.1≤2000∧b.2≤O) (D:P7 P cl fr ps) (A:∀p∈ps,Mp G cl fr pl p) (H:(rf7R M O fl V cl fr pl ps).P h)
  (hK:∀h' b,New h h' (slR (some ⟨b,0,none⟩) P P 11 (pgsV (mG G (paintLv (paintO fl (O+1)) V) ps)))→K (.slice (some ⟨b,0,none⟩) P P) h') :
  CallV Tryz.prog w₀ F.croftref7_Map [pv7 c M O P V.length ps.length] h K:=by
 have tl:=D.len
 have n1:=D.n1
 have N0:=box_l h (d7v c M O P V.length ps.length) T.T_croftref7_Slab
 refine croftref7_Map.call ?_
 try dsimp only
 generalize Array.push h (.cells (List.toArray (d7v c M O P V.length ps.length)) T.T_croftref7_Slab)=h1 at N0 ⊢
 obtain ⟨b0,e0⟩ : ∃b,b=h.size:=⟨_,rfl⟩
 rw [←e0] at N0 ⊢
 have I0:=(Hold.nil h).new N0
 have H1:(rfR M.Y O fl V).P h1:=(rfR M.Y O fl V).st H.1 N0.u fun _ _=>id
 refine ⟨_,cell_l N0.p 3,_,cell_l N0.p 4,_,_,_,cell_l N0.p 5,_,_,_,cell_l N0.p 6,?_⟩
 refine ref5_Pages_ok (Y:=M.Y) hO (by omega) f hL al H1 fun h2 bp N2=>⟨_,_,_,rfl,fun J3 hJ3 L4 hL4=>?_⟩
 have I2:=I0.new N2
 generalize paintLv (paintO fl (O+1)) V=G0 at I2 hK
 have loop:∀(d i:Nat) (hx:Heap),i+d=ps.length→Hold h hx [slR (some ⟨bp,0,none⟩) P P 11 (pgsV (mG G G0 (ps.take i))),lR b0 (d7v c M O P V.length ps.length)]→L4 [.pointer (some ⟨b0,0,none⟩),.slice (some ⟨bp,0,none⟩) P P,.int .i64 (i:Int)] hx:=by
  intro d
  induction d with
  | zero =>
   intro i hx hi I
   have hi:i=ps.length:=by omega
   subst hi
   rw [List.take_length] at I
   exact hL4 _ _ _ _ _ _ ⟨_,_,_,cell_l (I.at 1) 7,iF (decide_eq_false (by omega)) (hJ3 _ _ _ _ (hK hx bp (I.sub (rs':=[slR (some ⟨bp,0,none⟩) P P 11 (pgsV (mG G G0 ps))]) (.cons_cons _ (.cons _ .slnil))).toNew))⟩
  | succ d ih =>
   intro i hx hi I
   have Ho:=(outR7 M cl fr ps).st H.2.1.2.1.1 I.u fun _ _=>id
   obtain ⟨b,eb,q0,q1,q2⟩:=ce_cells Ho (i:=i) (by omega)
   have hm:=getD_in (l:=ps) (i:=i) (by omega)
   have htk:=take_ge ps i 0 (by omega)
   refine hL4 _ _ _ _ _ _ ⟨_,_,_,cell_l (I.at 1) 7,iT (decide_eq_true (by omega)) fun J5 hJ5=>⟨_,_,_,cell_l (I.at 1) 7,_,eb,by omega,by omega,_,q0,_,q1,_,_,_,q2,?_⟩⟩
   clear q0 q1 q2
   obtain ⟨p,ep⟩ : ∃p,ps.getD i 0=p:=⟨_,rfl⟩
   rw [ep] at hm htk ⊢
   have hk:=D.k8 p hm
   have hlt:=D.lt p hm
   have hln:=D.ln p hm
   have Ap:=A p hm
   obtain ⟨k,ek⟩ : ∃k,cl p=k:=⟨_,rfl⟩
   have hc:=(cnt_wdt hk).2.2.2.1
   have N3:=box_l hx [.int .i64 0,.int .i64 0,.slice none 0 0] T.T_croftref7_Cells
   generalize Array.push hx (.cells (List.toArray [.int .i64 0,.int .i64 0,.slice none 0 0]) T.T_croftref7_Cells)=h3 at N3 ⊢
   obtain ⟨b5,e5⟩ : ∃b,b=hx.size:=⟨_,rfl⟩
   rw [←e5] at N3 ⊢
   have I3:=I.new N3
   obtain ⟨w4,S4⟩:=assign_l (I3.at 0) (ceL M cl fr p)
   have I4:=I3.step 0 S4
   refine ⟨w4,fun J8 hJ8=>?_⟩
   generalize setCs h3 ⟨b5,0,none⟩ 0 [.int .i64 (p:Int),.int .i64 (cl p:Int),.slice (M.qf p) (fr p).length (M.cf p)]=h4 at I4 ⊢
   have I4:Hold h h4 [lR b5 (ceL M cl fr p),slR (some ⟨bp,0,none⟩) P P 11 (pgsV (mG G G0 (ps.take i))),lR b0 (d7v c M O P V.length ps.length)]:=I4
   have ew:IntKind.wrap .i64 ((cnt (cl p):Int)-((fr p).length:Int))=(cnt (cl p):Int)-((fr p).length:Int):=wI (by unfold bd63;omega)
   have R4:∀hy,Upd NoB h hy→(roR (M.qf p) (fr p).length (M.cf p) (nV (fr p))).P hy:=fun hy uy=>fr7_at ((frR7 M fr ps).st H.2.1.2.1.2.1 uy fun _ _=>id) hm (by omega)
   have go:∀b6 h7,Hold h h7 [lR b6 (pgE (cl p) (fr p).length (-1) (-1) (-1) (upT (inF (fr p)) 0)),lR b5 (ceL M cl fr p),slR (some ⟨bp,0,none⟩) P P 11 (pgsV (mG G G0 (ps.take i))),lR b0 (d7v c M O P V.length ps.length)] →
     J8 [.pointer (some ⟨b0,0,none⟩),.slice (some ⟨bp,0,none⟩) P P,.int .i64 (i:Int),.pointer (some ⟨b5,0,none⟩),.pointer (some ⟨b6,0,none⟩)] h7:=by
    intro b6 h7 I7
    refine hJ8 _ _ _ _ _ _ _ _ fun J9 hJ9=>⟨_,_,_,cell_l (I7.at 1) 2,?_⟩
    have fin:∀h7,Hold h h7 [lR b6 (pgE (cl p) (fr p).length (G p 4) (G p 5) (hdE (fr p) (-1)) (upT (inF (fr p)) (cnt (cl p)))),lR b5 (ceL M cl fr p),slR (some ⟨bp,0,none⟩) P P 11 (pgsV (mG G G0 (ps.take i))),lR b0 (d7v c M O P V.length ps.length)] →
      ∃n:Int,cellAt h7 ⟨b5,0,none⟩=some (.int .i64 n)∧LD_api_Page h7 ⟨b6,0,none⟩ fun n0 n1 n2 n3 n4 n5 n6 n7 n8 n9 n10=>∃a:Addr,some (⟨bp,0,none⟩ : Addr)=some a∧0≤n∧n<(P:Nat)∧WrN h7 (a.add (Int.toNat n*11)) 11 ∧
       J5 [.pointer (some ⟨b0,0,none⟩),.slice (some ⟨bp,0,none⟩) P P,.int .i64 (i:Int)] (setCs h7 (a.add (Int.toNat n*11)) 0 [.int .i64 n0,.int .i64 n1,.int .i64 n2,.int .i64 n3,.int .i64 n4,.int .i64 n5,.int .i64 n6,.int .u64 n7,.int .u64 n8,.int .u64 n9,.int .u64 n10]):=by
     intro h7 I7
     refine ⟨_,cell_l0 (I7.at 1),ld_page (P:=G p) (fun j hj=>?_) ⟨_,rfl,by omega,by omega,?_⟩⟩
     ·have:=cell_l (I7.at 0) j (Ap.page hj)
      rw [add_mk] at this
      exact this
     have ea:(⟨bp,0,none⟩ : Addr).add (Int.toNat (p:Int)*11)=⟨bp,p*11,none⟩:=by rw [add_mk,Int.toNat_natCast,Nat.zero_add]
     rw [ea]
     obtain ⟨b',e',w,S⟩:=sl_sets (I7.at 2) (p*11) [.int .i64 (G p 0),.int .i64 (G p 1),.int .i64 (G p 2),.int .i64 (G p 3),.int .i64 (G p 4),.int .i64 (G p 5),.int .i64 (G p 6),.int .u64 (G p 7),.int .u64 (G p 8),.int .u64 (G p 9),.int .u64 (G p 10)] (by simp;omega) (by simp)
     cases e'
     refine ⟨w,hJ5 _ _ _ _ _ _ ?_⟩
     rw [show IntKind.wrap .i64 ((i:Int)+1)=((i+1:Nat):Int) by rw [IntKind.wrap_i64];omega]
     have I8:=(I7.step 2 (S.conv (R2:=slR (some ⟨bp,0,none⟩) P P 11 (pgsV (mG G G0 (ps.take (i+1))))) (fun Q=>sl_congr Q fun y hy=>pgsV_set (n:=P) rfl (fun j hj=>?_) (fun q hq=>?_) y) fun _ e=>e)).drop.drop
     ·exact ih (i+1) _ (by omega) I8
     ·have e:mG G G0 (ps.take (i+1)) p=G p:=by unfold mG;rw [htk,if_pos (List.mem_append_right _ (List.mem_singleton.2 rfl))]
      rw [e]
      have:j=0∨j=1∨j=2∨j=3∨j=4∨j=5∨j=6∨j=7∨j=8∨j=9∨j=10:=by omega
      rcases this with rfl | rfl | rfl | rfl | rfl | rfl | rfl | rfl | rfl | rfl | rfl<;>rfl
     ·unfold mG
      rw [htk]
      have:(q∈ps.take i++[p])↔q∈ps.take i:=by
       rw [List.mem_append,List.mem_singleton]
       exact ⟨fun h'=>h'.resolve_right hq,.inl⟩
      simp only [this]
    have first:∀h8,Hold h h8 [lR b6 (pgE (cl p) (fr p).length (-1) (-1) (hdE (fr p) (-1)) (upT (inF (fr p)) 0)),lR b5 (ceL M cl fr p),slR (some ⟨bp,0,none⟩) P P 11 (pgsV (mG G G0 (ps.take i))),lR b0 (d7v c M O P V.length ps.length)] →
      J9 [.pointer (some ⟨b0,0,none⟩),.slice (some ⟨bp,0,none⟩) P P,.int .i64 (i:Int),.pointer (some ⟨b5,0,none⟩),.pointer (some ⟨b6,0,none⟩)] h8:=by
     intro h8 I8
     refine hJ9 _ _ _ _ _ _ _ _ fun J10 hJ10 L20 hL20=>?_
     have near:∀h9,Hold h h9 [lR b6 (pgE (cl p) (fr p).length (-1) (-1) (hdE (fr p) (-1)) (upT (inF (fr p)) (cnt (cl p)))),lR b5 (ceL M cl fr p),slR (some ⟨bp,0,none⟩) P P 11 (pgsV (mG G G0 (ps.take i))),lR b0 (d7v c M O P V.length ps.length)] →
       J10 [.pointer (some ⟨b0,0,none⟩),.slice (some ⟨bp,0,none⟩) P P,.int .i64 (i:Int),.pointer (some ⟨b5,0,none⟩),.pointer (some ⟨b6,0,none⟩)] h9:=by
      intro h9 I9
      have Hz:∀hy,Upd NoB h hy→(frR M.Z 7 pl).P hy:=fun hy uy=>(frR M.Z 7 pl).st H.2.1.1 uy fun _ _=>id
      obtain ⟨bz,ez,qz⟩:=fr_cell (Hz h9 I9.u) (k:=cl p) (by omega)
      have qz':cellAt h9 ((⟨bz,0,none⟩ : Addr).add (Int.toNat (cl p:Int)*1))=some (.slice (M.Z.lp (cl p)) (pl (cl p)).length (M.Z.lc (cl p))):=by rw [at1];exact qz
      refine hJ10 _ _ _ _ _ _ _ _ ⟨_,_,_,cell_l (I9.at 3) 8,_,cell_l (I9.at 1) 1,_,ez,by omega,by omega,_,_,_,qz',fun J11 hJ11 L13 hL13=>?_⟩
      have nd:=Ap.nd
      have hQ:=Ap.ln
      have lp2:∀(d j:Nat) (hx:Heap),j+d=(pl (cl p)).length→Hold h hx [lR b6 (pgE (cl p) (fr p).length (nbN (pl (cl p)) p j (G p 4)) (nbN (pl (cl p)) p j (G p 5)) (hdE (fr p) (-1)) (upT (inF (fr p)) (cnt (cl p)))),lR b5 (ceL M cl fr p),slR (some ⟨bp,0,none⟩) P P 11 (pgsV (mG G G0 (ps.take i))),lR b0 (d7v c M O P V.length ps.length)] →
        L13 [.pointer (some ⟨b0,0,none⟩),.slice (some ⟨bp,0,none⟩) P P,.int .i64 (i:Int),.pointer (some ⟨b5,0,none⟩),.pointer (some ⟨b6,0,none⟩),.slice (M.Z.lp (cl p)) (pl (cl p)).length (M.Z.lc (cl p)),.int .i64 (j:Int)] hx:=by
       intro d
       induction d with
       | zero =>
        intro j hx hj I
        have hj:j=(pl (cl p)).length:=by omega
        subst hj
        rw [Ap.done.1,Ap.done.2] at I
        exact hL13 _ _ _ _ _ _ _ _ _ _ _ _ (iF (decide_eq_false (by omega)) (hJ11 _ _ _ _ _ _ _ _ (fin _ I)))
       | succ d ih2 =>
        intro j hx hj I
        refine hL13 _ _ _ _ _ _ _ _ _ _ _ _ (iT (decide_eq_true (by omega)) fun J14 hJ14 J15 hJ15=>?_)
        have cells:∀hy,Upd NoB h hy→∀t,t<(pl (cl p)).length→∃a:Addr,M.Z.lp (cl p)=some a∧cellAt hy (a.add (Int.toNat (t:Int)*1))=some (.int .i64 (((pl (cl p)).getD t 0:Nat):Int)):=fun hy uy t ht=>by
         obtain ⟨b9,e9,q9⟩:=sl_cell (fr_row (Hz hy uy) (k:=cl p) (by omega)) (i:=t) (by omega)
         exact ⟨_,e9,by rw [at1];exact q9⟩
        have nx:∀hy,Hold h hy [lR b6 (pgE (cl p) (fr p).length (nbN (pl (cl p)) p (j+1) (G p 4)) (nbN (pl (cl p)) p (j+1) (G p 5)) (hdE (fr p) (-1)) (upT (inF (fr p)) (cnt (cl p)))),lR b5 (ceL M cl fr p),slR (some ⟨bp,0,none⟩) P P 11 (pgsV (mG G G0 (ps.take i))),lR b0 (d7v c M O P V.length ps.length)] →
          J14 [.pointer (some ⟨b0,0,none⟩),.slice (some ⟨bp,0,none⟩) P P,.int .i64 (i:Int),.pointer (some ⟨b5,0,none⟩),.pointer (some ⟨b6,0,none⟩),.slice (M.Z.lp (cl p)) (pl (cl p)).length (M.Z.lc (cl p)),.int .i64 (j:Int)] hy:=fun hy I=>by
         refine hJ14 _ _ _ _ _ _ _ _ _ _ _ _ ?_
         rw [show IntKind.wrap .i64 ((j:Int)+1)=((j+1:Nat):Int) by rw [IntKind.wrap_i64];omega]
         exact ih2 (j+1) hy (by omega) I
        have ew1:IntKind.wrap .i64 ((j:Int)+1)=((j+1:Nat):Int):=by rw [IntKind.wrap_i64];omega
        obtain ⟨a,ea,qa⟩:=cells hx I.u j (by omega)
        refine ⟨a,ea,by omega,by omega,_,qa,_,cell_l0 (I.at 1),fun J18 hJ18=>?_⟩
        by_cases hit:(pl (cl p)).getD j 0=p
        ·obtain ⟨t5,t4⟩:=Ap.at_ j (by omega) hit
         have z4:=nb_hit (v:=G p 4) nd (by omega) hit
         have z5:=nb_hit (v:=G p 5) nd (by omega) hit
         rw [z4.1,z5.1] at I
         rw [z4.2,z5.2] at nx
         have mid:∀hy,Hold h hy [lR b6 (pgE (cl p) (fr p).length (-1) (G p 5) (hdE (fr p) (-1)) (upT (inF (fr p)) (cnt (cl p)))),lR b5 (ceL M cl fr p),slR (some ⟨bp,0,none⟩) P P 11 (pgsV (mG G G0 (ps.take i))),lR b0 (d7v c M O P V.length ps.length)] →
           J15 [.pointer (some ⟨b0,0,none⟩),.slice (some ⟨bp,0,none⟩) P P,.int .i64 (i:Int),.pointer (some ⟨b5,0,none⟩),.pointer (some ⟨b6,0,none⟩),.slice (M.Z.lp (cl p)) (pl (cl p)).length (M.Z.lc (cl p)),.int .i64 (j:Int)] hy:=fun hy I=>by
          obtain ⟨a,ea,qa⟩:=cells hy I.u j (by omega)
          refine hJ15 _ _ _ _ _ _ _ _ _ _ _ _ ⟨a,ea,by omega,by omega,_,qa,_,cell_l0 (I.at 1),fun J16 hJ16=>qT (by rw [hit];simp) (hJ16 _ _ ?_)⟩
          rw [ew1]
          by_cases hl:j+1<(pl (cl p)).length
          ·rw [if_pos hl] at t4
           obtain ⟨a2,ea2,qa2⟩:=cells hy I.u (j+1) hl
           refine iT (decide_eq_true (by omega)) ⟨a2,ea2,by omega,by omega,_,qa2,wr_l (I.at 0) 4,nx _ ?_⟩
           have:=I.step 0 (set_l (I.at 0) 4 (.int .i64 (((pl (cl p)).getD (j+1) 0:Nat):Int)))
           rw [t4]
           exact this
          ·rw [if_neg hl] at t4
           exact iF (decide_eq_false (by omega)) (nx _ (by rw [t4];exact I))
         refine qT (by rw [hit];simp) (hJ18 _ _ ?_)
         by_cases hl:0<j
         ·rw [if_pos hl] at t5
          obtain ⟨a2,ea2,qa2⟩:=cells hx I.u (j-1) (by omega)
          have ew2:IntKind.wrap .i64 ((j:Int)-1)=((j-1:Nat):Int):=by rw [IntKind.wrap_i64];omega
          rw [ew2]
          refine iT (decide_eq_true (by omega)) ⟨a2,ea2,by omega,by omega,_,qa2,wr_l (I.at 0) 5,mid _ ?_⟩
          have:=I.step 0 (set_l (I.at 0) 5 (.int .i64 (((pl (cl p)).getD (j-1) 0:Nat):Int)))
          rw [t5]
          exact this
         ·rw [if_neg hl] at t5
          exact iF (decide_eq_false (by omega)) (mid _ (by rw [t5];exact I))
        ·have hne:((((pl (cl p)).getD j 0:Nat):Int) == (p:Int))=false:=beq_eq_false_iff_ne.2 fun e=>hit (by omega)
         refine qF' hne (hJ18 _ _ (iF rfl (hJ15 _ _ _ _ _ _ _ _ _ _ _ _ ⟨a,ea,by omega,by omega,_,qa,_,cell_l0 (I.at 1),fun J16 hJ16=>qF' hne (hJ16 _ _ (iF rfl (nx _ ?_)))⟩)))
         rw [nb_miss (by omega) hit,nb_miss (by omega) hit]
         exact I
      exact lp2 _ 0 h9 (Nat.zero_add _) (by rw [nb_zero,nb_zero];exact I9)
     have lp1:∀(d j:Nat) (hx:Heap),j+d=cnt (cl p)→Hold h hx [lR b6 (pgE (cl p) (fr p).length (-1) (-1) (hdE (fr p) (-1)) (upT (inF (fr p)) j)),lR b5 (ceL M cl fr p),slR (some ⟨bp,0,none⟩) P P 11 (pgsV (mG G G0 (ps.take i))),lR b0 (d7v c M O P V.length ps.length)] →
       L20 [.pointer (some ⟨b0,0,none⟩),.slice (some ⟨bp,0,none⟩) P P,.int .i64 (i:Int),.pointer (some ⟨b5,0,none⟩),.pointer (some ⟨b6,0,none⟩),.int .i64 (j:Int)] hx:=by
      intro d
      induction d with
      | zero =>
       intro j hx hj I
       have hj:j=cnt (cl p):=by omega
       subst hj
       exact hL20 _ _ _ _ _ _ _ _ _ ⟨_,cell_l (I.at 1) 1,count7_ok hk ⟨_,rfl,iF (decide_eq_false (by omega)) (near _ I)⟩⟩
      | succ d ih2 =>
       intro j hx hj I
       refine hL20 _ _ _ _ _ _ _ _ _ ⟨_,cell_l (I.at 1) 1,count7_ok hk ⟨_,rfl,iT (decide_eq_true (by omega)) fun J22 hJ22=>⟨_,cell_l0 (I.at 1),_,cell_l (I.at 1) 1,_,_,_,cell_l (I.at 1) 2,?_⟩⟩⟩
       have nx:∀hy,Hold h hy [lR b6 (pgE (cl p) (fr p).length (-1) (-1) (hdE (fr p) (-1)) (upT (inF (fr p)) (j+1))),lR b5 (ceL M cl fr p),slR (some ⟨bp,0,none⟩) P P 11 (pgsV (mG G G0 (ps.take i))),lR b0 (d7v c M O P V.length ps.length)] →
         J22 [.pointer (some ⟨b0,0,none⟩),.slice (some ⟨bp,0,none⟩) P P,.int .i64 (i:Int),.pointer (some ⟨b5,0,none⟩),.pointer (some ⟨b6,0,none⟩),.int .i64 (j:Int)] hy:=fun hy I=>by
        refine hJ22 _ _ _ _ _ _ _ _ _ ?_
        rw [show IntKind.wrap .i64 ((j:Int)+1)=((j+1:Nat):Int) by rw [IntKind.wrap_i64];omega]
        exact ih2 (j+1) hy (by omega) I
       refine free7_ok (by omega) (R4 hx I.u) fun h9 u9=>⟨_,rfl,?_⟩
       have I9:=I.quiet u9
       by_cases hf:j∈fr p
       ·refine iF (by rw [decide_eq_true hf];rfl) (nx _ ?_)
        rw [pgE_no (by unfold inF;rw [decide_eq_true hf];rfl)]
        exact I9
       ·have hb:inF (fr p) j=true:=by unfold inF;rw [decide_eq_false hf];rfl
        have ed:IntKind.wrap .i64 (Int.tdiv (j:Int) 64)=((j / 64:Nat):Int):=by rw [show Int.tdiv (j:Int) 64=((j / 64:Nat):Int) from rfl,IntKind.wrap_i64];omega
        have em2:IntKind.wrap .u64 (Int.tmod (j:Int) 64)=((j % 64:Nat):Int):=by rw [show Int.tmod (j:Int) 64=((j % 64:Nat):Int) from rfl,IntKind.wrap_u64];omega
        have ea:((⟨b6,0,none⟩ : Addr).add 7).add (Int.toNat ((j / 64:Nat):Int)*1)=(⟨b6,0,none⟩ : Addr).add (7+j / 64):=by rw [add_mk,add_mk,add_mk,Int.toNat_natCast,Nat.mul_one];simp
        have hw:=pgE_word (k:=cl p) (l:=(fr p).length) (N:=-1) (Q:=-1) (F:=hdE (fr p) (-1)) (f:=upT (inF (fr p)) j) (t:=j) (by omega)
        rw [ed,em2,shl_one (Nat.mod_lt _ (by omega))]
        refine iT (by rw [decide_eq_false hf];rfl) ⟨by decide,by decide,by omega,by omega,_,by rw [ea];exact cell_l (I9.at 0) (7+j / 64) hw,by decide,by omega,by omega,by omega,?_⟩
        rw [ea,or_pow (wd_lt _ _) (Nat.mod_lt _ (by omega))]
        refine ⟨wr_l (I9.at 0) (7+j / 64) (by show _<11;omega),nx _ ?_⟩
        have:=I9.step 0 (set_l (I9.at 0) (7+j / 64) (.int .u64 ((wd (upT (inF (fr p)) j) (j / 64) ||| 2 ^ (j % 64):Nat):Int)))
        rw [pgE_bit (by omega) hb] at this
        exact this
     exact lp1 _ 0 h8 (Nat.zero_add _) I8
    cases hf:fr p with
    | nil =>
     refine iF (by simp) (first _ ?_)
     rw [hf] at I7 ⊢
     exact I7
    | cons a t =>
     obtain ⟨a9,e9,q9⟩:=ro_cell (R4 h7 I7.u) (i:=0) (by rw [hf];simp)
     have e9':=e9
     refine iT (by simp) ⟨_,_,_,cell_l (I7.at 1) 2,_,e9,by omega,by rw [hf];simp,_,q9,wr_l (I7.at 0) 6,first _ ?_⟩
     have:=I7.step 0 (set_l (I7.at 0) 6 (.int .i64 (((fr p).getD 0 0:Nat):Int)))
     have eh:hdE (fr p) (-1)=(((fr p).getD 0 0:Nat):Int):=by rw [hf];rfl
     rw [eh]
     exact this
   have ez:pgE (cl p) (fr p).length (-1) (-1) (-1) (upT (inF (fr p)) 0)=[.int .i64 4,.int .i64 0,.int .i64 (cl p:Int),.int .i64 ((cnt (cl p):Int)-((fr p).length:Int)),.int .i64 (-1),.int .i64 (-1),.int .i64 (-1),.int .u64 0,.int .u64 0,.int .u64 0,.int .u64 0]:=by
    unfold pgE
    rw [up_zero,up_zero,up_zero,up_zero];rfl
   rw [ez] at go
   have N6:=box_l h4 [.int .i64 0,.int .i64 0,.int .i64 0,.int .i64 0,.int .i64 0,.int .i64 0,.int .i64 0,.int .u64 0,.int .u64 0,.int .u64 0,.int .u64 0] T.T_api_Page
   refine ⟨_,cell_l (I4.at 0) 1,_,cell_l (I4.at 0) 1,_,_,_,cell_l (I4.at 0) 2,?_,?_⟩
   ·refine count7_ok hk ⟨_,rfl,cell_l (I4.at 0) 2,cell_l (I4.at 0) 1,?_⟩
    try dsimp only
    generalize Array.push h4 (.cells (List.toArray [.int .i64 0,.int .i64 0,.int .i64 0,.int .i64 0,.int .i64 0,.int .i64 0,.int .i64 0,.int .u64 0,.int .u64 0,.int .u64 0,.int .u64 0]) T.T_api_Page)=h6 at N6 ⊢
    have Q6:=I4.new N6
    rw [ew]
    obtain ⟨w7,S7⟩:=assign_l (Q6.at 0) [.int .i64 4,.int .i64 0,.int .i64 (cl p:Int),.int .i64 ((cnt (cl p):Int)-((fr p).length:Int)),.int .i64 (-1),.int .i64 (-1),.int .i64 (-1),.int .u64 0,.int .u64 0,.int .u64 0,.int .u64 0]
    exact ⟨cell_l (Q6.at 1) 2,cell_l (Q6.at 1) 1,cell_l (Q6.at 1) 1,w7,go _ _ (Q6.step 0 S7)⟩
   ·try dsimp only
    generalize Array.push h4 (.cells (List.toArray [.int .i64 0,.int .i64 0,.int .i64 0,.int .i64 0,.int .i64 0,.int .i64 0,.int .i64 0,.int .u64 0,.int .u64 0,.int .u64 0,.int .u64 0]) T.T_api_Page)=h6 at N6 ⊢
    have Q6:=I4.new N6
    refine ⟨cell_l (Q6.at 1) 2,cell_l (Q6.at 1) 1,cell_l (Q6.at 1) 1,count7_ok hk ⟨_,rfl,cell_l (Q6.at 1) 2,cell_l (Q6.at 1) 1,?_⟩⟩
    rw [ew]
    obtain ⟨w7,S7⟩:=assign_l (Q6.at 0) [.int .i64 4,.int .i64 0,.int .i64 (cl p:Int),.int .i64 ((cnt (cl p):Int)-((fr p).length:Int)),.int .i64 (-1),.int .i64 (-1),.int .i64 (-1),.int .u64 0,.int .u64 0,.int .u64 0,.int .u64 0]
    exact ⟨w7,go _ _ (Q6.step 0 S7)⟩
 exact loop ps.length 0 h2 (Nat.zero_add _) (I2.as 0 (fun Q=>sl_congr Q fun y hy=>by unfold mG;simp) fun _ e=>e)
end
end Go.Proofs.YteemmpkhdllapaaGreatDoor
namespace Go.Proofs.YteemmpkhdllapaaGreatDoor
open Go.V Classical
end Go.Proofs.YteemmpkhdllapaaGreatDoor
namespace Go.Proofs.YteemmpkhdllapaaGreatDoor
open Go.V Classical
end Go.Proofs.YteemmpkhdllapaaGreatDoor
namespace Go.Proofs.YteemmpkhdllapaaGreatDoor
open Go.V Classical
end Go.Proofs.YteemmpkhdllapaaGreatDoor
namespace Go.Proofs.YteemmpkhdllapaaGreatDoor
open Go.V Classical
section
variable {G:Nat→Nat→Int} {q k:Nat}
theorem paintT_out {p k:Nat} {kind:Int} (h:¬Cov (p,k) q):paintT G p k kind (2 ^ k) q=G q:=by
 funext j
 unfold paintT
 rw [if_neg (show ¬(p≤q∧q<p+2 ^ k) from h)]
theorem paintT_in {p k:Nat} {kind:Int} (h:Cov (p,k) q):paintT G p k kind (2 ^ k) q=plainP (if q=p then kind else kind+1) k:=by
 have h:p≤q∧q<p+2 ^ k:=h
 funext j
 unfold paintT
 rw [if_pos h]
 have e:(if q-p=0 then kind else kind+1)=(if q=p then kind else kind+1):=by
  by_cases e:q=p
  ·rw [if_pos e,if_pos (by omega)]
  ·rw [if_neg e,if_neg (by omega)]
 match j with
 | 0=>exact e
 | 1 | 2 | 3 | 4 | 5 | 6=>rfl
 | _+7=>rfl
theorem paintLv_out:∀{L:List PBk} {G:Nat→Nat→Int},(∀b∈L,¬Cov b q)→paintLv G L q=G q
 | [],G,_=>rfl
 | b::L,G,h=>by
  show paintLv (paintT G b.1 b.2 2 (2 ^ b.2)) L q=G q
  rw [paintLv_out fun b' hb'=>h b' (List.mem_cons_of_mem _ hb')]
  exact paintT_out (h b (List.mem_cons_self ..))
theorem paintLv_in:∀{L:List PBk} {G:Nat→Nat→Int} {b:PBk},b∈L→Cov b q→(∀b'∈L,Cov b' q→b'=b)→paintLv G L q=plainP (if q=b.1 then 2 else 3) b.2
 | a::L,G,b,hb,hc,hu=>by
  show paintLv (paintT G a.1 a.2 2 (2 ^ a.2)) L q=_
  by_cases h:∃b'∈L,Cov b' q
  ·obtain ⟨b',hb',hc'⟩:=h
   have e:=hu b' (List.mem_cons_of_mem _ hb') hc'
   subst e
   exact paintLv_in hb' hc' fun z hz=>hu z (List.mem_cons_of_mem _ hz)
  ·rw [paintLv_out fun b' hb' hc'=>h ⟨b',hb',hc'⟩]
   have:b=a:=by
    rcases List.mem_cons.1 hb with e | hb
    ·exact e
    ·exact absurd ⟨b,hb,hc⟩ h
   subst this
   exact paintT_in (k:=b.2) (p:=b.1) hc
theorem paintF_out:∀{l:List Nat} {G:Nat→Nat→Int},(∀p∈l,¬Cov (p,k) q)→paintF G k l q=G q
 | [],G,_=>rfl
 | p::l,G,h=>by
  show paintF (paintT G p k 0 (2 ^ k)) k l q=G q
  rw [paintF_out fun b' hb'=>h b' (List.mem_cons_of_mem _ hb')]
  exact paintT_out (h p (List.mem_cons_self ..))
theorem paintF_in:∀{l:List Nat} {G:Nat→Nat→Int} {p:Nat},p∈l→Cov (p,k) q→(∀p'∈l,Cov (p',k) q→p'=p)→paintF G k l q=plainP (if q=p then 0 else 1) k
 | a::l,G,p,hb,hc,hu=>by
  show paintF (paintT G a k 0 (2 ^ k)) k l q=_
  by_cases h:∃b'∈l,Cov (b',k) q
  ·obtain ⟨b',hb',hc'⟩:=h
   have e:=hu b' (List.mem_cons_of_mem _ hb') hc'
   subst e
   exact paintF_in hb' hc' fun z hz=>hu z (List.mem_cons_of_mem _ hz)
  ·rw [paintF_out fun b' hb' hc'=>h ⟨b',hb',hc'⟩]
   have:p=a:=by
    rcases List.mem_cons.1 hb with e | hb
    ·exact e
    ·exact absurd ⟨p,hb,hc⟩ h
   subst this
   exact paintT_in hc
theorem paintO_in {fl:Nat→List Nat} {p k:Nat} (hp:p∈fl k) (hc:Cov (p,k) q):∀(n:Nat),k<n→(∀j,j<n→∀p'∈fl j,Cov (p',j) q→j=k∧p'=p)→paintO fl n q=plainP (if q=p then 0 else 1) k
 | 0,h,_=>by omega
 | n+1,h,hu=>by
  show paintF (paintO fl n) n (fl n) q=_
  by_cases e:k=n
  ·subst e
   exact paintF_in hp hc fun p' hp' hc'=>(hu k (by omega) p' hp' hc').2
  ·rw [paintF_out fun p' hp' hc'=>e (hu n (by omega) p' hp' hc').1.symm]
   exact paintO_in hp hc n (by omega) fun j hj=>hu j (by omega)
end
section
variable {S:Nat→Prop} {c:Cfg} {x:BU} {fl:Nat→List Nat} {L:List PBk}
theorem WS.painted (W:WS S c x fl L) {q:Nat} (hq:q<x.m.n) (hS:¬S q):paintLv (paintO fl (x.m.o+1)) L q=x.m.pg q:=by
 have til:Tile x.m.o x.m.n (L++blks x.m.o fl):=W.rep.til
 by_cases h:∃b∈L,Cov b q
 ·obtain ⟨b,hb,hc⟩:=h
  rw [paintLv_in hb hc fun b' hb' hc'=>til.uniq (List.mem_append_left _ hb') (List.mem_append_left _ hb) hc' hc]
  refine (W.rep.pl b hb (fun hs=>?_) q hc).symm
  have h0:=W.rep.s0 hb hs
  have hc:b.1≤q∧q<b.1+2 ^ b.2:=hc
  rw [h0] at hc
  have:q=b.1:=by simp at hc;omega
  exact hS (this▸hs)
 ·rw [paintLv_out fun b hb hc=>h ⟨b,hb,hc⟩]
  obtain ⟨b,hb,hc⟩:=til.cv q hq
  rcases List.mem_append.1 hb with hb | hb
  ·exact absurd ⟨b,hb,hc⟩ h
  ·obtain ⟨p,k⟩:=b
   obtain ⟨hk,hp⟩:=mem_blks.1 hb
   rw [paintO_in hp hc (x.m.o+1) (by omega) fun j hj p' hp' hc'=>?_]
   ·exact (W.rep.pf k p hk hp q hc).symm
   ·have e:=til.uniq (List.mem_append_right _ (mem_blks.2 ⟨by omega,hp'⟩)) (List.mem_append_right _ hb) hc' hc
    exact ⟨(Prod.mk.inj e).2,(Prod.mk.inj e).1⟩
theorem WS.worded (W:WS S c x fl L) {k:Nat} (hk:k<x.m.o) (j:Nat):wd (x.m.bt k) j=wd (prT fl k (x.m.n / 2 ^ (k+1))) j:=by
 refine wd_congr fun i hi=>?_
 generalize 64*j+i=t
 unfold prT
 by_cases h:t<x.m.n / 2 ^ (k+1)
 ·have h2:(t+1)*2 ^ (k+1)≤x.m.n:=(Nat.le_div_iff_mul_le (Nat.two_pow_pos _)).1 h
  have h3:=Nat.two_pow_pos (k+1)
  rw [decide_eq_true h,Bool.true_and]
  rw [Nat.succ_mul] at h2
  exact prB_bits W.rep.bt hk (by omega)
 ·rw [decide_eq_false h,Bool.false_and]
  cases hb:x.m.bt k t with
  | false=>rfl
  | true=>exact absurd (W.ok.m.bi k t hk hb) h
end
end Go.Proofs.YteemmpkhdllapaaGreatDoor
namespace Go.Proofs.YteemmpkhdllapaaGreatDoor
open Go.V Classical
structure DS where
 P:Nat
 fl:Nat→List Nat
 V:List PBk
 cl:Nat→Nat
 fr:Nat→List Nat
 pl:Nat→List Nat
 ps:List Nat
abbrev dvD (c:Cfg) (M:RW7) (O:Nat) (D:DS):List Value:=d7v c M O D.P D.V.length D.ps.length
noncomputable abbrev rfD (M:RW7) (O:Nat) (D:DS):Res:=rf7R M O D.fl D.V D.cl D.fr D.pl D.ps
structure GI (c:Cfg) (x:BU) (hp:Nat→Int) (D:DS):Prop where
 i:SI c x hp (fun p=>p∈D.ps) D.fl D.V D.cl D.fr D.pl
 nd:D.ps.Nodup
 n:D.P=x.m.n
section
variable {w₀:World} {h h':Heap} {c:Cfg} {M:RW7} {wb:Nat} {d:List Value} {Q:SL} {x:BU} {hp:Nat→Int} {D D':DS} {K:Value→Heap→Prop} {z a e:Int} {deny b:Bool}
theorem SI.permL {S:Nat→Prop} {fl:Nat→List Nat} {L L':List PBk} {cl:Nat→Nat} {fr pl:Nat→List Nat} (I:SI c x hp S fl L cl fr pl) (h:L.Perm L'):SI c x hp S fl L' cl fr pl :=
 ⟨I.w.perm h,I.k8,I.nd,I.pn,I.hd,I.pg,I.ch,I.no,I.lk⟩
theorem GI.p7 (G:GI c x hp D):P7 D.P D.cl D.fr D.ps:=by
 rw [G.n]
 refine ⟨G.i.w.ok.m.n1,fun p h=>G.i.w.rep.sn h,G.i.k8,G.nd,fun p h=>(G.i.nd p h).2,fun p h=>?_⟩
 have h1:=G.i.len h
 have h2:=(cnt_wdt (G.i.k8 p h)).2.2.2.1
 omega
theorem GI.l8 (G:GI c x hp D):L8 D.cl D.fr D.pl D.ps:=fun k hk=>by
 obtain ⟨h1,h2⟩:=G.i.pn k hk
 refine ⟨h1,?_,fun p h=>(h2 p).1 h⟩
 have n1:=G.i.w.ok.m.n1
 have:=List.Nodup.length_le_of_subset h1 (l₂:=List.range x.m.n) fun p h=>List.mem_range.2 (G.i.w.rep.sn ((h2 p).1 h).1)
 simp at this
 omega
theorem GI.pl2 (G:GI c x hp D):∀j,j<8→(D.pl j).length≤2000:=fun j hj=>by
 have:=(G.l8 j hj).2.1
 omega
theorem GI.inV (G:GI c x hp D):∀p∈D.ps,(p,0)∈D.V:=fun p h=>(G.i.w.rep.ps p h).1
theorem GI.hfl (G:GI c x hp D):∀k,k≤x.m.o→∀p∈D.fl k,p∉D.ps:=fun k hk p hp hs=>G.i.w.apartF hk hp (p,0) (G.inV p hs) rfl
theorem w7_put {d':List Value} (H:(w7R c wb d Q x hp).P h) (hd:d.length=9) (hd':d'.length=9):WrN h ((⟨wb,0,none⟩ : Addr).add 5) 9 ∧
  Stp h (setCs h ((⟨wb,0,none⟩ : Addr).add 5) 0 d') (w7R c wb d Q x hp) (w7R c wb d' Q x hp):=by
 rw [add_mk,Nat.zero_add]
 have B:Blk h wb (w7L c Q d).length (lF (w7L c Q d)):=H.1
 have e1:(w7L c Q d).length=14:=by simp [hd]
 have e2:(w7L c Q d').length=14:=by simp [hd']
 rw [e1] at B
 have S:=Stp.sets B d' 5 0 (g:=lF (w7L c Q d')) fun j hj=>by
  rw [hd']
  have lo:j<5→lF (w7L c Q d) j=lF (w7L c Q d') j:=fun h=>by
   have:j=0∨j=1∨j=2∨j=3∨j=4:=by omega
   rcases this with rfl | rfl | rfl | rfl | rfl<;>rfl
  by_cases h5:j<5
  ·rw [if_neg (by omega)];exact lo h5
  ·rw [if_pos ⟨by omega,by omega⟩]
   obtain ⟨i,rfl⟩ : ∃i,j=i+5:=⟨j-5,by omega⟩
   rw [show i+5-(5+0)=i by omega]
   rfl
 refine ⟨fun j hj=>by rw [add_mk];exact B.wr (by omega),?_⟩
 have L:Stp h (setCs h ⟨wb,5,none⟩ 0 d') (lR wb (w7L c Q d)) (lR wb (w7L c Q d')):=by
  unfold lR
  rw [e1,e2]
  exact S
 exact L.left H
def TakeD7 (c:Cfg) (x:BU) (D:DS) (z:Int) (deny:Bool) (D':DS) (a:Int) (b:Bool) (e:Int):Prop :=
 ((z<0∨z>7)∧D'=D∧a=0∧b=false∧e=1) ∨
 (∃k:Nat,z=k∧k<8∧∃q l' j f,D.pl k=q::l'∧D.fr q=j::f∧D'={ D with fr:=fset D.fr q f,pl:=fset D.pl k (if f=[] then l' else q::l') }∧a=adr c q+((j*wdt k:Nat):Int)∧b=false∧e=0) ∨
 (∃k:Nat,z=k∧k<8∧D.pl k=[]∧(∀j,j≤x.m.o→D.fl j=[])∧(deny=true∨(x.st.n:Int)≥c.limit)∧D'=D∧a=0∧b=false∧e=2) ∨
 (∃k:Nat,z=k∧k<8∧D.pl k=[]∧∃q fl' P' V',V'=D.V++[(q,0)]∧((b=false∧∃j l,j≤x.m.o∧D.fl j=q::l∧(∀i,i<j→D.fl i=[])∧fl'=aCut q 0 (fset D.fl j l) (j-0)∧P'=x.m.n) ∨
    (b=true∧(∀j,j≤x.m.o→D.fl j=[])∧deny=false∧(x.st.n:Int)<c.limit∧q=x.m.n∧fl'=aCut x.m.n 0 (fset D.fl x.m.o []) (x.m.o-0)∧P'=x.m.n+2 ^ x.m.o)) ∧
   D'=⟨P',fl',V',fset D.cl q k,fset D.fr q (List.range' 1 (cnt k-1)),fset D.pl k [q],D.ps++[q]⟩∧a=adr c q∧e=0)
theorem refTake7 (G:GI c x hp D) (H:(rfD M x.m.o D).P h)
  (hK:∀h' M' D' a b e,TakeD7 c x D z deny D' a b e→Stp h h' (rfD M x.m.o D) (rfD M' x.m.o D')→K (.tuple #[.agg (dvD c M' x.m.o D').toArray,.int .u64 a,.bool b,.int .i64 e]) h') :
  CallV Tryz.prog w₀ F.croftref7_Take [.agg (dvD c M x.m.o D).toArray,.int .i64 z,.bool deny] h K:=by
 have hn:=G.n
 have p7:=G.p7
 obtain ⟨P,fl,V,cl,fr,pl,ps⟩:=D
 simp only [] at hn
 subst hn
 refine Take7_ok (M:=M) G.i.w p7 G.l8 G.hfl H (fun hz h' u=>hK h' M _ 0 false 1 (.inl ⟨hz,rfl,rfl,rfl,rfl⟩) (Stp.quiet H u))
  (fun k ez hk q l' j f e1 e2 h' M' S=>hK h' M' _ _ false 0 (.inr (.inl ⟨k,ez,hk,q,l',j,f,e1,e2,rfl,rfl,rfl,rfl⟩)) S)
  (fun k ez hk e1 hF hd h' u=>hK h' M _ 0 false 2 (.inr (.inr (.inl ⟨k,ez,hk,e1,hF,hd,rfl,rfl,rfl,rfl⟩))) (Stp.quiet H u))
  (fun k ez hk e1 q b fl' P' hc h' M' S=>?_)
 exact hK h' M' ⟨P',fl',V++[(q,0)],fset cl q k,fset fr q (List.range' 1 (cnt k-1)),fset pl k [q],ps++[q]⟩ _ b 0 (.inr (.inr (.inr ⟨k,ez,hk,e1,q,fl',P',_,rfl,hc,rfl,rfl,rfl⟩))) S
theorem realTake7 (G:GI c x hp D) (TT:TabH h (w7R c wb d Q x hp)) (H:(w7R c wb d Q x hp).P h) (A:TakeD7 c x D z deny D' a b e)
  (hK:∀x' hp' h' Q',SL.Same Q Q'→GI c x' hp' D'→x'.m.o=x.m.o→Stp h h' (w7R c wb d Q x hp) (w7R c wb d Q' x' hp')→K (.tuple #[.int .u64 a,.bool b,.int .i64 e]) h') :
  CallV Tryz.prog w₀ F.slab_Slab_Take [gptr Q.sb,.int .i64 z,.bool deny] h K:=by
 have I:=G.i
 rcases A with ⟨hz,rfl,rfl,rfl,rfl⟩ | ⟨k,rfl,hk,q,l',j,f,e1,e2,rfl,rfl,rfl,rfl⟩ | ⟨k,rfl,hk,e1,hF,hd,rfl,rfl,rfl,rfl⟩ | ⟨k,rfl,hk,e1,q,fl',P',V',eV,hc,rfl,rfl,rfl⟩
 ·exact take_no (by omega) (hK x hp h Q (.refl Q) G rfl (Stp.refl H))
 ·refine takeX I TT H hk (fun q2 l2 j2 f2 g1 g2 x' hp' h' Q' hQ I' st' n' o' S=>?_) (fun g=>by rw [e1] at g;cases g) (fun g=>by rw [e1] at g;cases g)
  rw [e1] at g1
  obtain ⟨rfl,rfl⟩:=List.cons.inj g1
  rw [e2] at g2
  obtain ⟨rfl,rfl⟩:=List.cons.inj g2
  exact hK x' hp' h' Q' hQ ⟨I',G.nd,G.n.trans n'.symm⟩ o' S
 ·refine takeX I TT H hk (fun q l' j f g=>by rw [e1] at g;cases g) (fun _ _ _ h' Q' hQ S=>hK x hp h' Q' hQ G rfl S) (fun _ q b fl' x' hp' h' Q' hQ hc=>?_)
  rcases hc with ⟨_,j,l,hj,hf,_⟩ | ⟨_,_,g1,g2,_⟩
  ·rw [hF j hj] at hf;cases hf
  ·rcases hd with hd | hd
   ·rw [hd] at g1;cases g1
   ·omega
 ·refine takeX I TT H hk (fun q l' j f g=>by rw [e1] at g;cases g) (fun _ hF hd=>?_) (fun _ q2 b2 fl2 x' hp' h' Q' hQ hc2 I' o' K' S=>?_)
  ·exfalso
   rcases hc with ⟨_,j,l,hj,hf,_⟩ | ⟨_,_,g1,g2,_⟩
   ·rw [hF j hj] at hf;cases hf
   ·rcases hd with hd | hd
    ·rw [hd] at g1;cases g1
    ·omega
  ·have key:q2=q∧b2=b∧fl2=fl'∧P'=x'.m.n:=by
    rcases hc with ⟨rfl,j,l,hj,hf,hi,efl,eP⟩ | ⟨rfl,hF,g1,g2,rfl,efl,eP⟩
    ·rcases hc2 with ⟨rfl,j2,l2,hj2,hf2,hi2,efl2,n2,_⟩ | ⟨rfl,hF2,_⟩
     ·have ej:j2=j:=by
       rcases Nat.lt_trichotomy j2 j with hl | hl | hl
       ·rw [hi j2 hl] at hf2;cases hf2
       ·exact hl
       ·rw [hi2 j hl] at hf;cases hf
      subst ej
      rw [hf] at hf2
      obtain ⟨rfl,rfl⟩:=List.cons.inj hf2
      exact ⟨rfl,rfl,efl2.trans efl.symm,eP.trans n2.symm⟩
     ·rw [hF2 j hj] at hf;cases hf
    ·rcases hc2 with ⟨rfl,j2,l2,hj2,hf2,hi2,efl2,n2,_⟩ | ⟨rfl,hF2,_,_,rfl,efl2,n2,_⟩
     ·rw [hF j2 hj2] at hf2;cases hf2
     ·exact ⟨rfl,rfl,efl2.trans efl.symm,eP.trans n2.symm⟩
   obtain ⟨rfl,rfl,rfl,eP⟩:=key
   have nq:q2∉D.ps:=fun hm=>by
    have W:=I'.w.rep.til.nodup
    have h1:(q2,0)∈D.V:=G.inV q2 hm
    have hh:((q2,0)::D.V).Nodup:=by
     have:=(List.nodup_append.1 (List.nodup_append.1 W).2.1).1
     exact this
    exact (List.nodup_cons.1 hh).1 h1
   have eS:(fun p=>p∈D.ps∨p=q2)=fun p=>p∈D.ps++[q2]:=by
    funext p
    rw [List.mem_append,List.mem_singleton]
   rw [eS] at I'
   refine hK x' hp' h' Q' hQ ⟨?_,?_,eP⟩ o' S
   ·show SI c x' hp' (fun p=>p∈D.ps++[q2]) fl2 V' _ _ _
    rw [eV]
    exact I'.permL (List.perm_append_comm (l₁:=[(q2,0)]))
   ·show (D.ps++[q2]).Nodup
    refine List.nodup_append.2 ⟨G.nd,List.nodup_cons.2 ⟨by simp,.nil⟩,fun a ha b hb e=>?_⟩
    rw [List.mem_singleton] at hb
    exact nq (hb▸e▸ha)
end
end Go.Proofs.YteemmpkhdllapaaGreatDoor
namespace Go.Proofs.YteemmpkhdllapaaGreatDoor
open Go.V Classical
section
variable {w₀:World} {h h':Heap} {c:Cfg} {M:RW7} {wb:Nat} {d:List Value} {Q:SL} {x:BU} {hp:Nat→Int} {D D':DS} {K:Value→Heap→Prop} {z a e:Int} {deny b:Bool} {q:Nat}
theorem refNeed7 (G:GI c x hp D) (H:(rfD M x.m.o D).P h)
  (hK:∀h' M' fl' V' P' q b e,NeedD c x D.fl D.V z deny fl' V' P' q b e→Stp h h' (rfD M x.m.o D) (rfD M' x.m.o ⟨P',fl',V',D.cl,D.fr,D.pl,D.ps⟩)→K (.tuple #[.agg (dvD c M' x.m.o ⟨P',fl',V',D.cl,D.fr,D.pl,D.ps⟩).toArray,.int .i64 (q:Int),.bool b,.int .i64 e]) h') :
  CallV Tryz.prog w₀ F.croftref7_Need [.agg (dvD c M x.m.o D).toArray,.int .i64 z,.bool deny] h K:=by
 have hn:=G.n
 obtain ⟨P,fl,V,cl,fr,pl,ps⟩:=D
 simp only [] at hn
 subst hn
 exact Need7_any (M:=M) G.i.w H.1 fun h' Y' fl' V' P' q b e A _ S=>hK h' { M with Y:=Y' } fl' V' P' q b e A (S.left H)
theorem realNeed7 {fl':Nat→List Nat} {V':List PBk} {P':Nat} (G:GI c x hp D) (H:(w7R c wb d Q x hp).P h) (A:NeedD c x D.fl D.V z deny fl' V' P' q b e)
  (hK:∀(r:Int) x' h' Q',SL.Same Q Q'→GI c x' hp ⟨P',fl',V',D.cl,D.fr,D.pl,D.ps⟩→x'.m.o=x.m.o→(e=0→r=adr c q∧q<2000)→(e≠0→r=0)→Stp h h' (w7R c wb d Q x hp) (w7R c wb d Q' x' hp)→K (.tuple #[.int .u64 r,.bool b,.int .i64 e]) h') :
  CallV Tryz.prog w₀ F.region_Pool_Need [gptr Q.pl.pb,.int .i64 z,.bool deny] h K:=by
 have I:=G.i
 rcases A with ⟨hz,rfl,rfl,rfl,rfl,rfl,rfl⟩ | ⟨on,rfl,ho,hF,hd,rfl,rfl,rfl,rfl,rfl,rfl⟩ | ⟨on,rfl,ho,eV,rfl,hc⟩
 ·refine needX7 I H (fun _ h' Q' hQ S=>hK 0 x h' Q' hQ ⟨I,G.nd,rfl⟩ rfl (fun h=>by cases h) (fun _=>rfl) S) (fun on _ _ _ _=>?_) (fun on _ _=>?_)<;>omega
 ·refine needX7 I H (fun _=>by omega) (fun on2 _ _ _ _ h' Q' hQ S=>hK 0 x h' Q' hQ ⟨I,G.nd,rfl⟩ rfl (fun h=>by cases h) (fun _=>rfl) S) (fun on2 e2 ho2 q b fl' x' h' Q' hQ hc=>?_)
  obtain rfl:on2=on:=by omega
  rcases hc with ⟨_,j,l,j1,j2,hf,_⟩ | ⟨_,_,g1,g2,_⟩
  ·rw [hF j j1 j2] at hf;cases hf
  ·rcases hd with hd | hd
   ·rw [hd] at g1;cases g1
   ·omega
 ·refine needX7 I H (fun _=>by omega) (fun on2 e2 ho2 hF hd=>?_) (fun on2 e2 ho2 q2 b2 fl2 x' h' Q' hQ hc2 I' o' K' S=>?_)
  ·exfalso
   obtain rfl:on2=on:=by omega
   rcases hc with ⟨_,j,l,j1,j2,hf,_⟩ | ⟨_,_,g1,g2,_⟩
   ·rw [hF j j1 j2] at hf;cases hf
   ·rcases hd with hd | hd
    ·rw [hd] at g1;cases g1
    ·omega
  ·obtain rfl:on2=on:=by omega
   have key:q2=q∧b2=b∧fl2=fl'∧P'=x'.m.n:=by
    rcases hc with ⟨rfl,j,l,j1,j2,hf,hi,efl,eP⟩ | ⟨rfl,hF,g1,g2,rfl,efl,eP⟩
    ·rcases hc2 with ⟨rfl,i,l2,i1,i2,hf2,hi2,efl2,n2,_⟩ | ⟨rfl,hF2,_⟩
     ·have ej:i=j:=by
       rcases Nat.lt_trichotomy i j with hl | hl | hl
       ·rw [hi i i1 hl] at hf2;cases hf2
       ·exact hl
       ·rw [hi2 j j1 hl] at hf;cases hf
      subst ej
      rw [hf] at hf2
      obtain ⟨rfl,rfl⟩:=List.cons.inj hf2
      exact ⟨rfl,rfl,efl2.trans efl.symm,eP.trans n2.symm⟩
     ·rw [hF2 j j1 j2] at hf;cases hf
    ·rcases hc2 with ⟨rfl,i,l2,i1,i2,hf2,hi2,efl2,n2,_⟩ | ⟨rfl,hF2,_,_,rfl,efl2,n2,_⟩
     ·rw [hF i i1 i2] at hf2;cases hf2
     ·exact ⟨rfl,rfl,efl2.trans efl.symm,eP.trans n2.symm⟩
   obtain ⟨rfl,rfl,rfl,eP⟩:=key
   have hq:q2<x'.m.n:=by
    have al:=I'.w.alb (List.mem_cons_self ..)
    have h0:=Nat.two_pow_pos on2
    simp only [] at al
    omega
   have n1:=I'.w.ok.m.n1
   exact hK _ x' h' Q' hQ ⟨by rw [eV];exact I'.permL (List.perm_append_comm (l₁:=[(q2,on2)])),G.nd,eP⟩ o' (fun _=>⟨rfl,by omega⟩) (fun h=>absurd rfl h) S
theorem At7.uniq {p q i j:Nat} (G:GI c x hp D) (A:At7 c D.cl D.fr D.ps a p i) (B:At7 c D.cl D.fr D.ps a q j):q=p∧j=i:=by
 obtain ⟨a1,a2,a3,a4⟩:=A
 obtain ⟨b1,b2,b3,b4⟩:=B
 have h1:=(cell_in (G.i.k8 p a1) a2).1
 have h2:=(cell_in (G.i.k8 q b1) b2).1
 have w1:=wdt_pos (D.cl p)
 have w2:=wdt_pos (D.cl q)
 have e:q=p:=by
  rw [a4] at b4
  unfold adr at b4
  omega
 subst e
 rw [a4] at b4
 have:i*wdt (D.cl q)=j*wdt (D.cl q):=by omega
 exact ⟨rfl,(Nat.mul_right_cancel w1 this).symm⟩
def GiveD7 (c:Cfg) (x:BU) (D:DS) (a:Int) (D':DS) (e:Int):Prop :=
 ((∀p j,¬At7 c D.cl D.fr D.ps a p j)∧D'=D∧e=1) ∨
 (∃q j,At7 c D.cl D.fr D.ps a q j∧(D.fr q).length+1≠cnt (D.cl q)∧D'={ D with fr:=fset D.fr q (j::D.fr q),pl:=fset D.pl (D.cl q) (if D.fr q=[] then q::D.pl (D.cl q) else D.pl (D.cl q)) }∧e=0) ∨
 (∃q j V',At7 c D.cl D.fr D.ps a q j∧(D.fr q).length+1=cnt (D.cl q)∧V'=D.V.filter (·.1≠q)∧D'=⟨D.P,aUp D.fl q 0 (x.m.o-0),V',D.cl,fset D.fr q [],fset D.pl (D.cl q) ((D.pl (D.cl q)).filter (·≠q)),D.ps.filter (·≠q)⟩∧e=0)
theorem refGive7 (ha:U64 a) (G:GI c x hp D) (H:(rfD M x.m.o D).P h)
  (hK:∀h' M' D' e,GiveD7 c x D a D' e→Stp h h' (rfD M x.m.o D) (rfD M' x.m.o D')→K (.tuple #[.agg (dvD c M' x.m.o D').toArray,.int .i64 e]) h') :
  CallV Tryz.prog w₀ F.croftref7_Give [.agg (dvD c M x.m.o D).toArray,.int .u64 a] h K:=by
 have hn:=G.n
 have p7:=G.p7
 obtain ⟨P,fl,V,cl,fr,pl,ps⟩:=D
 simp only [] at hn
 subst hn
 refine Give7_ok (M:=M) ha G.i.w p7 G.l8 G.inV H (fun hno h' u=>hK h' M _ 1 (.inl ⟨hno,rfl,rfl⟩) (Stp.quiet H u)) (fun q j A hl h' M' S=>hK h' M' _ 0 (.inr (.inl ⟨q,j,A,hl,rfl,rfl⟩)) S) (fun q j A hl h' M' S=>?_)
 exact hK h' M' ⟨x.m.n,aUp fl q 0 (x.m.o-0),V.filter (·.1≠q),cl,fset fr q [],fset pl (cl q) ((pl (cl q)).filter (·≠q)),ps.filter (·≠q)⟩ 0 (.inr (.inr ⟨q,j,_,A,hl,rfl,rfl,rfl⟩)) S
theorem realGive7 (ha:U64 a) (G:GI c x hp D) (TT:TabH h (w7R c wb d Q x hp)) (H:(w7R c wb d Q x hp).P h) (A:GiveD7 c x D a D' e)
  (hK:∀x' hp' h',GI c x' hp' D'→x'.m.o=x.m.o→Stp h h' (w7R c wb d Q x hp) (w7R c wb d Q x' hp')→K (.int .i64 e) h') :
  CallV Tryz.prog w₀ F.slab_Slab_Give [gptr Q.sb,.int .u64 a] h K:=by
 have I:=G.i
 rcases A with ⟨hno,rfl,rfl⟩ | ⟨q,j,A,hl,rfl,rfl⟩ | ⟨q,j,V',A,hl,eV,rfl,rfl⟩
 ·exact giveX ha I TT H (fun _ h' S=>hK x hp h' G rfl S) (fun q j h1 h2 h3 h4=>absurd ⟨h1,h2,h3,h4⟩ (hno q j)) (fun q j L' h1 h2 h3 h4=>absurd ⟨h1,h2,h3,h4⟩ (hno q j))
 ·refine giveX ha I TT H (fun hn=>absurd A.2.2.2 (hn q j A.1 A.2.1 A.2.2.1)) (fun q2 j2 h1 h2 h3 h4 hlt x' hp' h' I' n' o' s' _ S=>?_) (fun q2 j2 L' h1 h2 h3 h4 hle=>?_)
  ·obtain ⟨rfl,rfl⟩:=A.uniq G ⟨h1,h2,h3,h4⟩
   exact hK x' hp' h' ⟨I',G.nd,G.n.trans n'.symm⟩ o' S
  ·obtain ⟨rfl,rfl⟩:=A.uniq G ⟨h1,h2,h3,h4⟩
   exact absurd hle hl
 ·refine giveX ha I TT H (fun hn=>absurd A.2.2.2 (hn q j A.1 A.2.1 A.2.2.1)) (fun q2 j2 h1 h2 h3 h4 hlt=>?_) (fun q2 j2 L' h1 h2 h3 h4 hle hL x' hp' h' I' n' o' _ S=>?_)
  ·obtain ⟨rfl,rfl⟩:=A.uniq G ⟨h1,h2,h3,h4⟩
   omega
  ·obtain ⟨rfl,rfl⟩:=A.uniq G ⟨h1,h2,h3,h4⟩
   have eL:L'.Perm V':=by
    rw [eV]
    exact (hL.symm.trans (I.w.out (G.inV q2 A.1))).cons_inv
   have eS:(fun p=>p∈D.ps∧p≠q2)=fun p=>p∈D.ps.filter (·≠q2):=by
    funext p
    simp [List.mem_filter]
   rw [eS] at I'
   exact hK x' hp' h' ⟨I'.permL eL,List.Nodup.sublist List.filter_sublist G.nd,G.n.trans n'.symm⟩ o' S
def BackD7 (c:Cfg) (x:BU) (D:DS) (a z:Int) (D':DS) (e:Int):Prop :=
 (∃p on V',(p,on)∈D.V∧p∉D.ps∧a=adr c p∧z=(on:Int)∧V'=D.V.filter (·.1≠p)∧D'=⟨D.P,aUp D.fl p on (x.m.o-on),V',D.cl,D.fr,D.pl,D.ps⟩∧e=0) ∨
 ((∀b∈D.V,b.1∉D.ps→¬(a=adr c b.1∧z=(b.2:Int)))∧D'=D∧e=1)
theorem realBack7 (ha:U64 a) (G:GI c x hp D) (H:(w7R c wb d Q x hp).P h) (A:BackD7 c x D a z D' e)
  (hK:∀x' h',GI c x' hp D'→x'.m.o=x.m.o→Stp h h' (w7R c wb d Q x hp) (w7R c wb d Q x' hp)→K (.int .i64 e) h') :
  CallV Tryz.prog w₀ F.region_Pool_Give [gptr Q.pl.pb,.int .u64 a,.int .i64 z] h K:=by
 have I:=G.i
 rcases A with ⟨p,on,V',hV,hps,rfl,rfl,eV,rfl,rfl⟩ | ⟨hno,rfl,rfl⟩
 ·refine backX I H (L':=V') (by rw [eV];exact I.w.out hV) hps fun x' h' I' Mx S=>?_
  exact hK x' h' ⟨I',G.nd,G.n.trans Mx.n.symm⟩ Mx.o S
 ·exact backXN ha I H hno fun h' S=>hK x h' G rfl S
theorem refTrim7 (G:GI c x hp D) (H:(rfD M x.m.o D).P h)
  (hK:∀h' M' fl' r,trimF x.m.o x.st.n D.fl=(r,fl')→Stp h h' (rfD M x.m.o D) (rfD M' x.m.o ⟨r*2 ^ x.m.o,fl',D.V,D.cl,D.fr,D.pl,D.ps⟩) →
   K (.tuple #[.agg (dvD c M' x.m.o ⟨r*2 ^ x.m.o,fl',D.V,D.cl,D.fr,D.pl,D.ps⟩).toArray,.int .i64 ((x.st.n-r:Nat):Int)]) h') :
  CallV Tryz.prog w₀ F.croftref7_Trim [.agg (dvD c M x.m.o D).toArray] h K:=by
 have hn:=G.n
 obtain ⟨P,fl,V,cl,fr,pl,ps⟩:=D
 simp only [] at hn
 subst hn
 exact Trim7_ok (M:=M) G.i.w H.1 fun h' Y' fl' r e S=>hK h' { M with Y:=Y' } fl' r e (S.left H)
theorem realTrim7 {fl':Nat→List Nat} {r:Nat} (G:GI c x hp D) (H:(w7R c wb d Q x hp).P h) (A:trimF x.m.o x.st.n D.fl=(r,fl'))
  (hK:∀x' h' Q',SL.Same Q Q'→GI c x' hp ⟨r*2 ^ x.m.o,fl',D.V,D.cl,D.fr,D.pl,D.ps⟩→x'.m.o=x.m.o→Stp h h' (w7R c wb d Q x hp) (w7R c wb d Q' x' hp)→K (.int .i64 ((x.st.n-r:Nat):Int)) h') :
  CallV Tryz.prog w₀ F.region_Pool_Trim [gptr Q.pl.pb] h K:=by
 refine trimX G.i H fun x' fl2 Q' h' hQ e I' o' _ _ S=>?_
 rw [A] at e
 obtain ⟨rfl,rfl⟩:=Prod.mk.inj e
 exact hK x' h' Q' hQ ⟨I',G.nd,by have:=I'.w.e;rw [o'] at this;exact this.symm⟩ o' S
end
end Go.Proofs.YteemmpkhdllapaaGreatDoor
namespace Go.Proofs.YteemmpkhdllapaaGreatDoor
open Go.V Classical
noncomputable abbrev wpR (c:Cfg) (wb:Nat) (Q:SL) (M:RW7) (x:BU) (hp:Nat→Int) (D:DS):Res:=andR (w7R c wb (dvD c M x.m.o D) Q x hp) (rfD M x.m.o D)
def D0:DS:=⟨0,fun _=>[],[],fun _=>0,fun _=>[],fun _=>[],[]⟩
theorem gi0 {c:Cfg} (g:c.Good):GI c (BU0 c) (fun _=>-1) D0:=by
 refine ⟨?_,.nil,rfl⟩
 have e:(fun p=>p∈D0.ps)=noS:=by
  funext p
  show (p∈([]:List Nat))=noS p
  simp [noS]
 rw [e]
 exact si0 g _ _
section
variable {w₀:World} {h h':Heap} {c:Cfg} {M:RW7} {wb:Nat} {Q:SL} {x:BU} {hp:Nat→Int} {D D':DS} {K:Value→Heap→Prop} {z a e:Int} {deny b:Bool} {q O P n m:Nat}
theorem begin8_ok {a b d:Int} (ha:U64 a) (hK:∀h' wb Q M,New h h' (wpR (usual7 a b d) wb Q M (BU0 (usual7 a b d)) (fun _=>-1) D0)→K (gptr wb) h') :
  CallV Tryz.prog w₀ F.croftlaw7_begin [.agg #[.int .u64 a,.int .i64 b,.int .i64 d]] h K:=by
 refine begin7_ok ha fun h' wb Q on fp qp fc qc hon N=>?_
 have eo:=(gi0 (usual7_good a b d)).i.w.ok.o
 generalize usual7 a b d=c at hK hon N eo
 obtain rfl:on=(BU0 c).m.o:=by omega
 refine hK h' wb Q ⟨⟨fp,fc,fun _=>none,fun _=>0,none,0⟩,⟨qp,qc,fun _=>none,fun _=>0,none,0⟩,none,0,fun _=>none,fun _=>0⟩ (N.conv (fun A=>?_) fun b e=>?_)
 ·obtain ⟨A1,⟨A2,A3,A4⟩,A5⟩:=A
  have nof:∀{z:Nat} {f:Nat→Value} {b:Nat},(slR none 0 0 z f).fp b→False:=fun e=>absurd e (sl_nil_fp _)
  refine ⟨A1,⟨⟨⟨A2,⟨fun k hk=>sl_nil _ _ _,fun i hi j hj hij b e=>absurd e (sl_nil_fp b)⟩,fun b _ ⟨i,hi,e⟩=>absurd e (sl_nil_fp b)⟩,sl_nil _ _ _,fun b _ e=>absurd e (sl_nil_fp b)⟩,⟨⟨A3,⟨fun k hk=>sl_nil _ _ _,fun i hi j hj hij b e=>absurd e (sl_nil_fp b)⟩,fun b _ ⟨i,hi,e⟩=>absurd e (sl_nil_fp b)⟩,⟨sl_nil _ _ _,⟨fun k hk=>?_,fun i hi j hj hij b e=>?_⟩,fun b e=>absurd e (sl_nil_fp b)⟩,?_⟩,?_⟩,?_⟩
  ·dsimp only;rw [if_neg (by simp [D0])];trivial
  ·dsimp only at e;rw [if_neg (by simp [D0])] at e;exact e.elim
  ·intro b _ e
   rcases e with e | ⟨k,hk,e⟩
   ·exact absurd e (sl_nil_fp b)
   ·dsimp only at e;rw [if_neg (by simp [D0])] at e;exact e.elim
  ·intro b e1 e2
   have h1:(slR fp ((BU0 c).m.o+1) fc 1 fun _=>.slice none 0 0).fp b:=by
    rcases e1 with (e | ⟨i,hi,e⟩) | e
    ·exact e
    ·exact absurd e (sl_nil_fp b)
    ·exact absurd e (sl_nil_fp b)
   have h2:(slR qp 8 qc 1 fun _=>.slice none 0 0).fp b:=by
    rcases e2 with (e | ⟨i,hi,e⟩) | e | ⟨k,hk,e⟩
    ·exact e
    ·exact absurd e (sl_nil_fp b)
    ·exact absurd e (sl_nil_fp b)
    ·dsimp only at e;rw [if_neg (by simp [D0])] at e;exact e.elim
   exact A4 b h1 h2
  ·intro b e0 e
   refine A5 b e0 ?_
   rcases e with ((e | ⟨i,hi,e⟩) | e) | (e | ⟨i,hi,e⟩) | e | ⟨k,hk,e⟩
   ·exact .inl e
   ·exact absurd e (sl_nil_fp b)
   ·exact absurd e (sl_nil_fp b)
   ·exact .inr e
   ·exact absurd e (sl_nil_fp b)
   ·exact absurd e (sl_nil_fp b)
   ·dsimp only at e;rw [if_neg (by simp [D0])] at e;exact e.elim
 ·rcases e with e | ((e | ⟨i,hi,e⟩) | e) | (e | ⟨i,hi,e⟩) | e | ⟨k,hk,e⟩
  ·exact .inl e
  ·exact .inr (.inl e)
  ·exact absurd e (sl_nil_fp b)
  ·exact absurd e (sl_nil_fp b)
  ·exact .inr (.inr e)
  ·exact absurd e (sl_nil_fp b)
  ·exact absurd e (sl_nil_fp b)
  ·dsimp only at e;rw [if_neg (by simp [D0])] at e;exact e.elim
theorem m9_ok {X:List Value→Prop} (H:(w7R c wb (d7v c M O P n m) Q x hp).P h) (hX:X (d7v c M O P n m)):M_uiiiissss h ⟨wb,0,none⟩ 5 X:=by
 have B:(lR wb (w7L c Q (d7v c M O P n m))).P h:=H.1
 exact ⟨_,cell_l B 5,_,cell_l B 6,_,cell_l B 7,_,cell_l B 8,_,cell_l B 9,_,_,_,cell_l B 10,_,_,_,cell_l B 11,_,_,_,cell_l B 12,_,_,_,cell_l B 13,hX⟩
theorem d9_ok {R:Prop} (H:(w7R c wb (d7v c M O P n m) Q x hp).P h) (hR:R):D_uiiiissss h ⟨wb,0,none⟩ 5 (d7v c M O P n m) R:=by
 have B:(lR wb (w7L c Q (d7v c M O P n m))).P h:=H.1
 exact ⟨cell_l B 5,cell_l B 6,cell_l B 7,cell_l B 8,cell_l B 9,cell_l B 10,cell_l B 11,cell_l B 12,cell_l B 13,hR⟩
abbrev b4L (M:RW7) (O P n:Nat):List Value:=[.int .i64 (O:Int),.int .i64 (P:Int),.slice M.Y.fp (O+1) M.Y.fc,.slice M.Y.vp n M.Y.vc]
theorem w4_ok {X:List Value→Prop} (H:(w7R c wb (d7v c M O P n m) Q x hp).P h) (hX:X (b4L M O P n)):M_iiss h ⟨wb,0,none⟩ 8 X:=by
 have B:(lR wb (w7L c Q (d7v c M O P n m))).P h:=H.1
 exact ⟨_,cell_l B 8,_,cell_l B 9,_,_,_,cell_l B 10,_,_,_,cell_l B 11,hX⟩
theorem d4_ok {R:Prop} (H:(w7R c wb (d7v c M O P n m) Q x hp).P h) (hR:R):D_iiss h ⟨wb,0,none⟩ 8 (b4L M O P n) R:=by
 have B:(lR wb (w7L c Q (d7v c M O P n m))).P h:=H.1
 exact ⟨cell_l B 8,cell_l B 9,cell_l B 10,cell_l B 11,hR⟩
theorem w_cd {v:Value} {d:List Value} (H:(w7R c wb d Q x hp).P h) (i:Nat) (hv:(w7L c Q d)[i]? = some v:=by rfl):cellAt h ((⟨wb,0,none⟩ : Addr).add i)=some v:=cell_l (l:=w7L c Q d) H.1 i hv
theorem w7_put4 (H:(w7R c wb (d7v c M O P n m) Q x hp).P h) (Y':RW5) (P' n':Nat):WrN h ((⟨wb,0,none⟩ : Addr).add 8) 4 ∧
  Stp h (setCs h ((⟨wb,0,none⟩ : Addr).add 8) 0 (b4L { M with Y:=Y' } O P' n')) (w7R c wb (d7v c M O P n m) Q x hp) (w7R c wb (d7v c { M with Y:=Y' } O P' n' m) Q x hp):=by
 rw [add_mk,Nat.zero_add]
 have B:Blk h wb 14 (lF (w7L c Q (d7v c M O P n m))):=H.1
 have S:=Stp.sets B (b4L { M with Y:=Y' } O P' n') 8 0 (g:=lF (w7L c Q (d7v c { M with Y:=Y' } O P' n' m))) fun j hj=>by
  have:j=0∨j=1∨j=2∨j=3∨j=4∨j=5∨j=6∨j=7∨j=8∨j=9∨j=10∨j=11∨j=12∨j=13:=by omega
  rcases this with rfl | rfl | rfl | rfl | rfl | rfl | rfl | rfl | rfl | rfl | rfl | rfl | rfl | rfl<;>rfl
 refine ⟨fun j hj=>by rw [add_mk];exact B.wr (by omega),?_⟩
 have L:Stp h (setCs h ⟨wb,8,none⟩ 0 (b4L { M with Y:=Y' } O P' n')) (lR wb (w7L c Q (d7v c M O P n m))) (lR wb (w7L c Q (d7v c { M with Y:=Y' } O P' n' m))):=S
 exact L.left H
theorem word8_ok {d:List Value} {a:Nat} {p v:Int} (G:GI c x hp D) (H:(w7R c wb d Q x hp).P h) (ep:p=c.base+(a:Int)) (ha:a+8≤4096*x.m.n) (ev:x.st.rd c p=v) (hK:∀h',Upd NoB h h'→K (.int .u64 v) h') :
  CallV Tryz.prog w₀ F.croftlaw7_world_word [gptr wb,.int .u64 p] h K:=by
 subst ev ep
 have hb:=bu_bounds G.i.w.g G.i.w.ok.m
 have n1:=G.i.w.ok.m.n1
 have hsp:=G.i.ki.span
 refine croftlaw7_world_word.call ⟨_,rfl,_,w_c3 H,_,rfl,ground_Space_ok (s_pl (w_s H)) ⟨_,rfl,mem_Word_ok (by omega) (s_sp (w_s H)) (fun t h1 u1=>⟨_,_,rfl,iF rfl (hK h1 u1)⟩) fun hn=>absurd (.inr ⟨by omega,by omega⟩) hn⟩⟩
theorem slabbed7_ok (G:GI c x hp D) (H:(wpR c wb Q M x hp D).P h) (hq:q<4096) (hK:∀h',Upd NoB h h'→K (.bool (decide (q∈D.ps))) h') :
  CallV Tryz.prog w₀ F.croftlaw7_world_slabbed [gptr wb,.int .u64 (adr c q)] h K:=by
 have b0:=G.i.w.g.b0
 have tl:=G.p7.len
 have hb:=bu_bounds G.i.w.g G.i.w.ok.m
 refine croftlaw7_world_slabbed.call ⟨_,rfl,_,w_c0 H.1,fun J1 hJ1=>qT (decide_eq_true (by unfold adr;omega)) ⟨_,rfl,m9_ok H.1 ⟨_,rfl,_,w_c0 H.1,by decide,by decide,?_⟩⟩⟩
 have e1:IntKind.wrap .u64 (adr c q-c.base)=((4096*q:Nat):Int):=by rw [IntKind.wrap_u64];unfold adr;omega
 have e2:IntKind.wrap .i64 (Int.tmod (IntKind.wrap .u64 (Int.tdiv (IntKind.wrap .u64 (adr c q-c.base)) (4096:Int))) (1099511627776:Int))=(q:Int):=by
  rw [e1,Int.tdiv_eq_ediv_of_nonneg (by omega),wU (by unfold U64;omega),Int.tmod_eq_emod_of_nonneg (by omega),IntKind.wrap_i64]
  omega
 rw [e2]
 have HO:(outR7 M D.cl D.fr D.ps).P h:=H.2.1.2.1.2.1.1
 refine find7_ok (by omega) HO (fun hn h' u=>⟨_,rfl,hJ1 _ _ ?_⟩) fun i hi e h' u=>⟨_,rfl,hJ1 _ _ ?_⟩
 ·have:=hK h' u
  rw [decide_eq_false hn] at this
  exact this
 ·have:=hK h' u
  have hm:=getD_in hi
  rw [e] at hm
  rw [decide_eq_true hm] at this
  rw [decide_eq_true (by omega)]
  exact this
theorem back7_ok (ha:U64 a) (G:GI c x hp D) (H:(wpR c wb Q M x hp D).P h)
  (hK:∀h' M' D' e,BackD7 c x D a z D' e→Stp h h' (wpR c wb Q M x hp D) (wpR c wb Q M' x hp D')→K (.int .i64 e) h') :
  CallV Tryz.prog w₀ F.croftlaw7_world_back [gptr wb,.int .u64 a,.int .i64 z] h K:=by
 have b0:=G.i.w.g.b0
 have W:=G.i.w
 have n1:=W.ok.m.n1
 have hn:=G.n
 have lV:=W.lenV
 have inl:∀b∈D.V,b.1<x.m.n:=fun b hb=>by
  have al:=W.alb hb
  have h0:=Nat.two_pow_pos b.2
  omega
 have hb:=bu_bounds W.g W.ok.m
 have ha1:=ha.2
 have no:(∀b∈D.V,b.1∉D.ps→¬a=adr c b.1)→∀h',Upd NoB h h'→K (.int .i64 1) h':=fun hno h' u=>hK h' M D 1 (.inr ⟨fun b hb hs he=>hno b hb hs he.1,rfl,rfl⟩) (Stp.quiet H u)
 refine croftlaw7_world_back.call ⟨_,rfl,_,w_c0 H.1,fun J1 hJ1=>?_⟩
 by_cases a1:a<c.base
 ·refine pT (decide_eq_true a1) (hJ1 _ _ fun J2 hJ2=>pT rfl (hJ2 _ _ fun J3 hJ3=>pT rfl (hJ3 _ _ (iT rfl (no (fun b hb _ e=>?_) h (Upd.refl _ _))))))
  rw [e] at a1;unfold adr at a1;omega
 obtain ⟨v,ev⟩ : ∃v:Nat,a-c.base=v:=⟨(a-c.base).toNat,by omega⟩
 have ew:IntKind.wrap .u64 (a-c.base)=(v:Int):=by rw [ev];exact wU (by unfold U64;omega)
 refine pF (decide_eq_false a1) ⟨_,rfl,_,w_c0 H.1,by decide,hJ1 _ _ fun J2 hJ2=>?_⟩
 rw [ew,Int.tmod_eq_emod_of_nonneg (by omega)]
 by_cases a2:v % 4096=0
 case neg =>
  refine pT (bne_iff_ne.2 (by omega)) (hJ2 _ _ fun J3 hJ3=>pT rfl (hJ3 _ _ (iT rfl (no (fun b hb _ e=>?_) h (Upd.refl _ _)))))
  rw [e] at ev;unfold adr at ev;omega
 refine pF (by simp;omega) ⟨_,rfl,_,w_c0 H.1,_,rfl,_,w_cd H.1 9,hJ2 _ _ fun J3 hJ3=>?_⟩
 have ew2:IntKind.wrap .u64 ((4096:Int)*IntKind.wrap .u64 (D.P:Int))=4096*(D.P:Int):=by simp only [IntKind.wrap_u64];omega
 rw [ew,ew2]
 by_cases a3:(v:Int)≥4096*(D.P:Int)
 ·refine pT (decide_eq_true a3) (hJ3 _ _ (iT rfl (no (fun b hb _ e=>?_) h (Upd.refl _ _))))
  have:=inl b hb
  rw [e] at ev;unfold adr at ev;omega
 obtain ⟨q,eq⟩ : ∃q,v=4096*q:=⟨v / 4096,by omega⟩
 have ea:a=adr c q:=by unfold adr;omega
 subst ea
 refine pF (decide_eq_false a3) (slabbed7_ok (M:=M) (Q:=Q) (x:=x) G H (by omega) fun h1 u1=>⟨_,rfl,hJ3 _ _ ?_⟩)
 by_cases a4:q∈D.ps
 ·refine iT (decide_eq_true a4) (no (fun b hb hs e=>?_) h1 u1)
  rw [adr_inj e] at a4
  exact hs a4
 refine iF (decide_eq_false a4) fun J4 hJ4=>?_
 have I1:=((Go.V.Own.of H).quiet u1).split
 have S1:=(I1.at 1:(rfD M x.m.o D).P h1)
 refine ⟨_,rfl,w4_ok (I1.at 0) ⟨_,rfl,_,w_c0 (I1.at 0),by decide,?_⟩⟩
 have ep:IntKind.wrap .i64 (IntKind.wrap .u64 (Int.tdiv (IntKind.wrap .u64 (adr c q-c.base)) (4096:Int)))=(q:Int):=by
  rw [ew,Int.tdiv_eq_ediv_of_nonneg (by omega),IntKind.wrap_u64,IntKind.wrap_i64];omega
 rw [ep]
 have ref:∀(h1:Heap) (K2:Value→Heap→Prop),(rfR M.Y x.m.o D.fl D.V).P h1→(∀h' Y' fl' V' e,BackD7 c x D (adr c q) z ⟨D.P,fl',V',D.cl,D.fr,D.pl,D.ps⟩ e→Stp h1 h' (rfR M.Y x.m.o D.fl D.V) (rfR Y' x.m.o fl' V')→K2 (.tuple #[.agg (b4L { M with Y:=Y' } x.m.o D.P V'.length).toArray,.int .i64 e]) h') →
   CallV Tryz.prog w₀ F.croftref5_Give [.agg (b4L M x.m.o D.P D.V.length).toArray,.int .i64 (q:Int),.int .i64 z] h1 K2:=by
  intro h1 K2 H1 hK2
  refine ref5_Give_ok (Y:=M.Y) (P:=D.P) (L:=D.V) W.ok.m.o8 W.fl5 (by omega) W.al5 H1 (fun hno h' u=>hK2 h' M.Y D.fl D.V 1 (.inr ⟨fun b hb hs he=>hno ?_,rfl,rfl⟩) (Stp.quiet H1 u)) fun p on ep eo hpo h' Y' S=>?_
  ·obtain ⟨e1,e2⟩:=he
   have e1:=adr_inj e1
   rw [e1,e2]
   exact mem_prL.2 hb
  ·obtain rfl:p=q:=by omega
   exact hK2 h' Y' _ _ 0 (.inl ⟨p,on,_,hpo,a4,rfl,eo,rfl,rfl,rfl⟩) S
 have fin:∀(bx:Nat) (hx:Heap) (Y':RW5) (fl':Nat→List Nat) (V':List PBk) (e:Int),BackD7 c x D (adr c q) z ⟨D.P,fl',V',D.cl,D.fr,D.pl,D.ps⟩ e →
   Go.V.Own h hx (wpR c wb Q M x hp D) (lR bx (b4L { M with Y:=Y' } x.m.o D.P V'.length)::w7R c wb (dvD c M x.m.o D) Q x hp::rfD { M with Y:=Y' } x.m.o ⟨D.P,fl',V',D.cl,D.fr,D.pl,D.ps⟩ :: [])→J4 [gptr wb,.pointer (some ⟨bx,0,none⟩),.int .i64 e] hx:=by
  intro bx hx Y' fl' V' e A I
  have B:=I.at 0
  obtain ⟨w5,S5⟩:=w7_put4 (I.at 1) Y' D.P V'.length
  refine hJ4 _ _ _ _ ⟨_,cell_l0 B,_,cell_l B 1,_,_,_,cell_l B 2,_,_,_,cell_l B 3,_,rfl,w5,?_⟩
  exact hK _ { M with Y:=Y' } ⟨D.P,fl',V',D.cl,D.fr,D.pl,D.ps⟩ e A ((I.step 1 S5).drop.join).stp
 refine ⟨?_,?_⟩
 ·refine ref h1 _ S1.1 fun h2 Y' fl' V' e A S=>⟨_,_,_,_,_,_,_,_,_,rfl,?_⟩
  have I2:=I1.step 1 (R':=rfD { M with Y:=Y' } x.m.o ⟨D.P,fl',V',D.cl,D.fr,D.pl,D.ps⟩) (S.left S1)
  have N3:=box_l h2 [.int .i64 0,.int .i64 0,.slice none 0 0,.slice none 0 0] T.T_croftref5_Buddy
  try dsimp only
  generalize Array.push h2 (.cells (List.toArray [.int .i64 0,.int .i64 0,.slice none 0 0,.slice none 0 0]) T.T_croftref5_Buddy)=h3 at N3 ⊢
  have I3:=I2.new N3
  obtain ⟨w4,S4⟩:=assign_l (I3.at 0) (b4L { M with Y:=Y' } x.m.o D.P V'.length)
  exact ⟨w_c0 (I3.at 1),d4_ok (I3.at 1) ⟨w4,fin _ _ Y' fl' V' e A (I3.step 0 S4)⟩⟩
 ·have N3:=box_l h1 [.int .i64 0,.int .i64 0,.slice none 0 0,.slice none 0 0] T.T_croftref5_Buddy
  try dsimp only
  generalize Array.push h1 (.cells (List.toArray [.int .i64 0,.int .i64 0,.slice none 0 0,.slice none 0 0]) T.T_croftref5_Buddy)=h3 at N3 ⊢
  have I3:=I1.new N3
  have S3:=(I3.at 2:(rfD M x.m.o D).P h3)
  refine ⟨w_c0 (I3.at 1),d4_ok (I3.at 1) (ref h3 _ S3.1 fun h2 Y' fl' V' e A S=>⟨_,_,_,_,_,_,_,_,_,rfl,?_⟩)⟩
  have I2:=I3.step 2 (R':=rfD { M with Y:=Y' } x.m.o ⟨D.P,fl',V',D.cl,D.fr,D.pl,D.ps⟩) (S.left S3)
  obtain ⟨w4,S4⟩:=assign_l (I2.at 0) (b4L { M with Y:=Y' } x.m.o D.P V'.length)
  exact ⟨w4,fin _ _ Y' fl' V' e A (I2.step 0 S4)⟩
end
end Go.Proofs.YteemmpkhdllapaaGreatDoor
namespace Go.Proofs.YteemmpkhdllapaaGreatDoor
open Go.V Classical
theorem Lnk_at {c:Cfg} {st:Sto} {a:Int} {w:Nat}:∀{l:List Nat},Lnk c st a w l→∀i,i<l.length→st.rd c (a+((l.getD i 0*w:Nat):Int))=if i+1=l.length then 0 else a+((l.getD (i+1) 0*w:Nat):Int)
 | [],_,i,hi=>absurd hi (by simp)
 | j::l,H,0,_=>by
  show st.rd c (a+((j*w:Nat):Int))=_
  rw [H.1]
  cases l with
  | nil=>rw [if_pos (by simp)];rfl
  | cons q l=>rw [if_neg (by simp)];rfl
 | j::l,H,i+1,hi=>by
  have hi:i<l.length:=by simpa using hi
  have:=Lnk_at H.2 i hi
  show st.rd c (a+((l.getD i 0*w:Nat):Int))=_
  rw [this,List.length_cons]
  by_cases e:i+1=l.length
  ·rw [if_pos e,if_pos (by omega)]
  ·rw [if_neg e,if_neg (by omega)];rfl
section
variable {w₀:World} {h h':Heap} {c:Cfg} {M:RW7} {wb:Nat} {Q:SL} {x:BU} {hp:Nat→Int} {D D':DS} {K:Value→Heap→Prop} {z a e:Int} {deny b:Bool} {q O P n m:Nat}
theorem cell_adr (G:GI c x hp D) {p j k:Nat} (hp:p<x.m.n) (hk:k<8) (hj:j<cnt k):IntKind.wrap .u64 (adr c p+IntKind.wrap .u64 (IntKind.wrap .i64 ((j:Int)*(wdt k:Int))))=c.base+((4096*p+j*wdt k:Nat):Int)∧j*wdt k+16≤4096:=by
 have hc:=(cell_in hk hj).2
 have hb:=bu_bounds G.i.w.g G.i.w.ok.m
 have n1:=G.i.w.ok.m.n1
 obtain ⟨z,hz⟩ : ∃z:Nat,j*wdt k=z:=⟨_,rfl⟩
 rw [←Int.natCast_mul,hz]
 rw [hz] at hc
 have e1:IntKind.wrap .i64 (z:Int)=(z:Int):=wI (by unfold bd63;omega)
 have e2:IntKind.wrap .u64 (z:Int)=(z:Int):=wU (by unfold U64;omega)
 rw [e1,e2]
 refine ⟨?_,hc⟩
 rw [wU (by unfold U64 adr;omega)]
 unfold adr
 omega
theorem linked8_ok (G:GI c x hp D) (H:(wpR c wb Q M x hp D).P h) (hK:∀h',Upd NoB h h'→K (.bool true) h') :
  CallV Tryz.prog w₀ F.croftlaw7_world_linked [gptr wb] h K:=by
 refine croftlaw7_world_linked.call fun J1 hJ1 L2 hL2=>?_
 try dsimp only
 have p7:=G.p7
 have tl:=p7.len
 have n1:=G.i.w.ok.m.n1
 have hn:=G.n
 have HH:∀hx,Upd NoB h hx→(wpR c wb Q M x hp D).P hx:=fun hx u=>(wpR c wb Q M x hp D).st H u fun _ _=>id
 have loop:∀(d i:Nat) (hx:Heap),i+d=D.ps.length→Upd NoB h hx→L2 [gptr wb,.int .i64 (i:Int)] hx:=by
  intro d
  induction d with
  | zero =>
   intro i hx hi u
   exact hL2 _ _ _ ⟨_,rfl,_,_,_,w_cd (HH hx u).1 12,iF (decide_eq_false (by omega)) (hJ1 _ (hK hx u))⟩
  | succ d ih =>
   intro i hx hi u
   have H1:=HH hx u
   obtain ⟨b,eb,q0,q1,q2⟩:=ce_cells (H1.2.1.2.1.2.1.1:(outR7 M D.cl D.fr D.ps).P hx) (i:=i) (by omega)
   have hm:=getD_in (l:=D.ps) (i:=i) (by omega)
   refine hL2 _ _ _ ⟨_,rfl,_,_,_,w_cd H1.1 12,iT (decide_eq_true (by omega)) fun J3 hJ3=>⟨_,rfl,_,_,_,w_cd H1.1 12,_,eb,by omega,by omega,_,q0,_,q1,_,_,_,q2,?_⟩⟩
   clear q0 q1 q2
   obtain ⟨p,ep⟩ : ∃p,D.ps.getD i 0=p:=⟨_,rfl⟩
   rw [ep] at hm ⊢
   have hk:=G.i.k8 p hm
   have hlt:=p7.lt p hm
   have hln:=p7.ln p hm
   have hf:=p7.fb p hm
   have N3:=box_l hx [.int .i64 0,.int .i64 0,.slice none 0 0] T.T_croftref7_Cells
   try dsimp only
   generalize Array.push hx (.cells (List.toArray [.int .i64 0,.int .i64 0,.slice none 0 0]) T.T_croftref7_Cells)=h3 at N3 ⊢
   obtain ⟨b5,e5⟩ : ∃b,b=hx.size:=⟨_,rfl⟩
   rw [←e5] at N3 ⊢
   have I3:=(((Hold.nil h).quiet u).new N3)
   obtain ⟨w4,S4⟩:=assign_l (I3.at 0) (ceL M D.cl D.fr p)
   have I4:=I3.step 0 S4
   refine ⟨w4,fun L6 hL6=>?_⟩
   have inner:∀(d j:Nat) (hy:Heap),j+d=(D.fr p).length→Hold h hy [lR b5 (ceL M D.cl D.fr p)]→L6 [gptr wb,.int .i64 (i:Int),.pointer (some ⟨b5,0,none⟩),.int .i64 (j:Int)] hy:=by
    intro d
    induction d with
    | zero =>
     intro j hy hj I
     refine hL6 _ _ _ _ _ ⟨_,_,_,cell_l (I.at 0) 2,iF (decide_eq_false (by omega)) (hJ3 _ _ _ ?_)⟩
     rw [show IntKind.wrap .i64 ((i:Int)+1)=((i+1:Nat):Int) by rw [IntKind.wrap_i64];omega]
     exact ih (i+1) hy (by omega) I.u
    | succ d ihd =>
     intro j hy hj I
     have Hy:=HH hy I.u
     have B:=I.at 0
     have R:∀hz,Upd NoB h hz→(roR (M.qf p) (D.fr p).length (M.cf p) (nV (D.fr p))).P hz:=fun hz uz=>fr7_at ((HH hz uz).2.1.2.1.2.1.2.1:(frR7 M D.fr D.ps).P hz) hm (by omega)
     obtain ⟨a,ea,qa⟩:=ro_cell (R hy I.u) (i:=j) (by omega)
     have hjc:=hf _ (getD_in (l:=D.fr p) (i:=j) (by omega))
     have qa:∀hz,Upd NoB h hz→cellAt hz (a.add (Int.toNat (j:Int)*1))=some (.int .i64 (((D.fr p).getD j 0:Nat):Int)):=fun hz uz=>by
      obtain ⟨a',ea',qa'⟩:=ro_cell (R hz uz) (i:=j) (by omega)
      rw [ea] at ea'
      rw [Option.some.inj ea']
      exact qa'
     refine hL6 _ _ _ _ _ ⟨_,_,_,cell_l B 2,iT (decide_eq_true (by omega)) ⟨_,rfl,m9_ok Hy.1 ⟨_,cell_l0 B,_,_,_,cell_l B 2,a,ea,by omega,by omega,_,qa hy I.u,_,cell_l B 1,_,rfl,m9_ok Hy.1 ⟨_,cell_l0 B,_,cell_l B 1,_,_,_,cell_l B 2,?_⟩⟩⟩⟩
     refine at7_ok G.i.w.g G.i.w.ok.m (by omega) fun h8 u8=>⟨_,rfl,?_⟩
     have I8:=I.quiet u8
     have B8:=I8.at 0
     refine ⟨cell_l0 B8,cell_l B8 1,cell_l B8 2,d9_ok (HH h8 I8.u).1 ⟨cell_l B8 1,qa h8 I8.u,cell_l B8 2,width7_ok hk ⟨_,rfl,cell_l0 B8,cell_l B8 1,cell_l B8 2,d9_ok (HH h8 I8.u).1 ⟨qa h8 I8.u,cell_l B8 2,?_⟩⟩⟩⟩
     obtain ⟨ev,hv⟩:=cell_adr G (p:=p) (j:=(D.fr p).getD j 0) (by omega) hk hjc
     rw [ev]
     refine word8_ok (a:=4096*p+(D.fr p).getD j 0*wdt (D.cl p)) G (HH h8 I8.u).1 rfl (by omega) rfl fun h9 u9=>⟨_,rfl,?_⟩
     have I9:=I8.quiet u9
     have B9:=I9.at 0
     refine ⟨cell_l0 B9,cell_l B9 1,cell_l B9 2,d9_ok (HH h9 I9.u).1 ?_⟩
     refine Link7_ok (cl:=D.cl) (fr:=D.fr) G.i.w.g G.i.w.ok.m (by omega) hk hln hf (by omega) (R h9 I9.u) fun h10 u10=>⟨_,rfl,iF ?_ ?_⟩
     ·have e1:=Lnk_at (G.i.lk p hm) j (by omega)
      rw [show c.base+((4096*p+(D.fr p).getD j 0*wdt (D.cl p):Nat):Int)=adr c p+(((D.fr p).getD j 0*wdt (D.cl p):Nat):Int) by unfold adr;omega,e1]
      simp
     ·rw [show IntKind.wrap .i64 ((j:Int)+1)=((j+1:Nat):Int) by rw [IntKind.wrap_i64];omega]
      exact ihd (j+1) h10 (by omega) (I9.quiet u10)
   exact inner _ 0 _ (Nat.zero_add _) I4
 exact loop _ 0 h (Nat.zero_add _) (Upd.refl _ _)
theorem andx_r {A B R:Res} (H:(andR A B).P h) (S:Stp h h' B (andR B R)):Stp h h' (andR A B) (andR (andR A B) R) :=
 (S.right H).conv (fun ⟨a,⟨b,r,d1⟩,d2⟩=>⟨⟨a,b,fun x e e'=>d2 x e (.inl e')⟩,r,fun x e e'=>e.elim (fun e=>d2 x e (.inr e')) (fun e=>d1 x e e')⟩) fun b e=>by
  rcases e with (e | e) | e
  ·exact .inl e
  ·exact .inr (.inl e)
  ·exact .inr (.inr e)
theorem freeX {d:List Value} (G:GI c x hp D) (H:(w7R c wb d Q x hp).P h) {o:Nat} (ho:o≤x.m.o)
  (hK:∀h' p cap,Stp h h' (w7R c wb d Q x hp) (andR (w7R c wb d Q x hp) (slR p ((D.fl o).map (adr c)).length cap 1 (uL ((D.fl o).map (adr c)))))→K (.slice p ((D.fl o).map (adr c)).length cap) h') :
  CallV Tryz.prog w₀ F.buddy_Buddy_Free [gptr Q.pl.B.b,.int .i64 (o:Int)] h K :=
 freeB G.i.w (pl_bu (s_pl (w_s H))) ho fun h' p cap S=>hK h' p cap (andx_r H (andx_r (w_s H) (andx_r (s_pl (w_s H)) S)))
theorem regs_of (G:GI c x hp D):Int.fdiv (D.P:Int) (2 ^ min (Int.toNat (IntKind.wrap .u64 c.order)) (IntKind.bits .i64))=(x.st.n:Int):=by
 have o8:=G.i.w.ok.m.o8
 have e1:IntKind.wrap .u64 c.order=(x.m.o:Int):=by rw [←G.i.w.ok.o,IntKind.wrap_u64];omega
 have e2:min x.m.o (IntKind.bits .i64)=x.m.o:=Nat.min_eq_left (by show x.m.o≤64;omega)
 rw [e1,Int.toNat_natCast,e2,G.n,G.i.w.e,Int.natCast_mul,Int.natCast_pow]
 have p2:(0:Int)<(2:Int) ^ x.m.o:=by
  have:=Nat.two_pow_pos x.m.o
  have h2:((2 ^ x.m.o:Nat):Int)=(2:Int) ^ x.m.o:=Int.natCast_pow 2 x.m.o
  omega
 rw [Int.fdiv_eq_ediv_of_nonneg _ (by omega)]
 exact Int.mul_ediv_cancel _ (by
  show ((2:Nat):Int) ^ x.m.o≠0
  have:((2:Nat):Int) ^ x.m.o=(2:Int) ^ x.m.o:=rfl
  omega)
theorem row_page8 {b o n:Nat} {P:Nat→Nat→Int} (R:∀i,i<n*11→cellAt h ⟨b,o+i,none⟩=some (pcl (i % 11) (P (i / 11) (i % 11)))) {i:Nat} (hi:i<n)
  {X:Int→Int→Int→Int→Int→Int→Int→Int→Int→Int→Int→Prop} (x:X (P i 0) (P i 1) (P i 2) (P i 3) (P i 4) (P i 5) (P i 6) (P i 7) (P i 8) (P i 9) (P i 10)):LD_api_Page h ((⟨b,o,none⟩ : Addr).add (Int.toNat (i:Int)*11)) X:=by
 rw [add_mk,Int.toNat_natCast]
 refine ld_page (P:=P i) (fun j hj=>?_) x
 have:=R (i*11+j) (by omega)
 rw [show (i*11+j) % 11=j by omega,show (i*11+j) / 11=i by omega,←Nat.add_assoc] at this
 exact this
theorem ints8_ok {p q:Option Addr} {cp cq:Nat} (R1:(slR p 8 cp 1 (iL (ptL hp))).P h) (R2:(slR q 8 cq 1 (iL (ptL hp))).P h) {np nq:Nat} (hK:K (.bool true) h) :
  CallV Tryz.prog w₀ F.croftlaw7_ints [.slice p 8 np,.slice q 8 nq] h K:=by
 have R1':Row h p (ptL hp).length (iL (ptL hp)):=by have:=sl_row R1;rw [ptL_len];rwa [Nat.mul_one] at this
 have R2':Row h q (ptL hp).length (iL (ptL hp)):=by have:=sl_row R2;rw [ptL_len];rwa [Nat.mul_one] at this
 have key:=ints7_ok (w₀:=w₀) (cp:=np) (cq:=nq) (K:=K) (by rw [ptL_len];omega) R1' R2' (by rw [decide_eq_true rfl];exact hK)
 rw [ptL_len] at key
 exact key
end
end Go.Proofs.YteemmpkhdllapaaGreatDoor
namespace Go.Proofs.YteemmpkhdllapaaGreatDoor
open Go.V Classical
section
variable {w₀:World} {h h':Heap} {c:Cfg} {M:RW7} {wb:Nat} {Q:SL} {x:BU} {hp:Nat→Int} {D D':DS} {K:Value→Heap→Prop}
theorem looks8_ok (G:GI c x hp D) (H:(wpR c wb Q M x hp D).P h) (hK:∀h',Stp h h' (wpR c wb Q M x hp D) (wpR c wb Q M x hp D)→K (.bool true) h') :
  CallV Tryz.prog w₀ F.croftlaw7_world_looks [gptr wb] h K:=by
 refine croftlaw7_world_looks.call ?_
 have W:=G.i.w
 have o8:=W.ok.m.o8
 have n1:=W.ok.m.n1
 have eo:=W.ok.o
 have hn:=G.n
 have p7:=G.p7
 have lV:=W.lenV
 have HH:∀hx,Upd NoB h hx→(wpR c wb Q M x hp D).P hx:=fun hx u=>(wpR c wb Q M x hp D).st H u fun _ _=>id
 refine ⟨_,rfl,_,w_c4 H.1,_,rfl,m9_ok H.1 (Partial_ok (w_s H.1).1 fun h1 q1 N1=>⟨_,_,_,rfl,?_⟩)⟩
 have J1:=(Hold.nil h).new N1
 refine d9_ok (HH h1 J1.u).1 (Heads7_ok (hp:=hp) (pl:=D.pl) G.pl2 G.i.hd ((HH h1 J1.u).2.1.2.1.1:(frR M.Z 7 D.pl).P h1) fun h2 q2 c2 N2=>⟨_,_,_,rfl,?_⟩)
 have J2:=J1.new N2
 refine ints8_ok (J2.at 1) (J2.at 0) ⟨_,rfl,fun J4 hJ4=>pF (by simp) ?_⟩
 have H2:=HH h2 J2.u
 refine ⟨_,rfl,_,w_c3 H2.1,_,rfl,_,rfl,_,w_cd H2.1 9,_,rfl,_,w_c2 H2.1,by rw [IntKind.wrap_u64];omega,ground_Space_ok (s_pl (w_s H2.1)) ⟨_,rfl,w_c2 H2.1,w_cd H2.1 9,mem_Regions_ok (s_sp (w_s H2.1)) ⟨_,rfl,w_c2 H2.1,w_cd H2.1 9,hJ4 _ _ ?_⟩⟩⟩
 rw [regs_of G]
 refine iF (by simp) ⟨_,rfl,_,w_c3 H2.1,_,rfl,ground_Map_ok (s_pl (w_s H2.1)) ⟨_,rfl,pm_Plain_ok W.ok.m (s_mp (w_s H2.1)) fun h3 gp gc qp qc wp wc N3=>⟨_,_,_,_,_,_,rfl,?_⟩⟩⟩
 have J3:=(((Hold.nil h).quiet J2.u).new N3)
 have H3:=HH h3 J3.u
 have mp:∀p∈D.ps,Mp x.m.pg D.cl D.fr D.pl p:=fun p hm=>G.i.mp hm G.pl2
 refine ⟨_,rfl,m9_ok H3.1 (Map7_ok (M:=M) (O:=x.m.o) (P:=D.P) (fl:=D.fl) (V:=D.V) (G:=x.m.pg) o8 W.flOk (by omega) (fun b hb=>⟨(W.al5 b hb).1,(W.al5 b hb).2.1⟩) p7 mp H3.2.1 fun h4 b4 N4=>⟨_,_,_,rfl,?_⟩)⟩
 have J4':=J3.new N4
 have H4:=HH h4 J4'.u
 have HR4:(rfR M.Y x.m.o D.fl D.V).P h4:=H4.2.1.1
 refine ⟨_,rfl,w4_ok H4.1 (ref5_Pairs_ok (Y:=M.Y) (P:=D.P) (fl:=D.fl) (L:=D.V) o8 (by omega) W.fl5 HR4 fun h5 qp' qc' wp' N5=>⟨_,_,_,rfl,fun J9 hJ9=>?_⟩)⟩
 have J5:=J4'.new N5
 rw [hn] at J5 ⊢
 have A:=J5.at 2
 have B:=J5.at 1
 have E:=J5.at 0
 refine pF (by simp) (hJ9 _ _ (iF (by simp) fun J10 hJ10 L24 hL24=>?_))
 have words:J10 [gptr wb,.slice qp x.m.o qc,.slice qp' x.m.o qc'] h5:=by
  refine hJ10 _ _ _ _ _ _ _ _ fun J11 hJ11 L20 hL20=>?_
  have ends:J11 [gptr wb] h5:=by
   refine hJ11 _ _ fun J12 hJ12 L14 hL14=>?_
   have I5:Go.V.Own h h5 (wpR c wb Q M x hp D) [wpR c wb Q M x hp D]:=(Go.V.Own.of H).quiet J5.u
   have key:∀(d k:Nat) (hx:Heap),k+d=x.m.o+1→Go.V.Own h hx (wpR c wb Q M x hp D) [wpR c wb Q M x hp D]→L14 [gptr wb,.int .i64 (k:Int)] hx:=by
    intro d
    induction d with
    | zero =>
     intro k hx hk I
     have Hx:=I.at 0
     refine hL14 _ _ _ ⟨_,rfl,_,w_c2 Hx.1,iF (decide_eq_false (by omega)) (hJ12 _ _ (linked8_ok G Hx fun h9 u9=>⟨_,rfl,hK h9 (I.quiet u9).stp⟩))⟩
    | succ d ih =>
     intro k hx hk I
     have Hx:=I.at 0
     refine hL14 _ _ _ ⟨_,rfl,_,w_c2 Hx.1,iT (decide_eq_true (by omega)) fun J15 hJ15=>⟨_,rfl,_,w_c3 Hx.1,_,rfl,ground_Buddy_ok (s_pl (w_s Hx.1)) ⟨_,rfl,?_⟩⟩⟩
     refine freeX G Hx.1 (o:=k) (by omega) fun h6 p6 c6 S6=>⟨_,_,_,rfl,?_⟩
     have I6':=I.split
     have I6:=I6'.step 0 S6
     have I7:Go.V.Own h h6 (wpR c wb Q M x hp D) (w7R c wb (dvD c M x.m.o D) Q x hp::slR p6 ((D.fl k).map (adr c)).length c6 1 (uL ((D.fl k).map (adr c)))::rfD M x.m.o D::[]):=I6.split
     have lk:=W.fl5 k (by omega)
     have ll:((D.fl k).map (adr c)).length=(D.fl k).length:=List.length_map ..
     have fcell:∀hy,(rfD M x.m.o D).P hy→∃bz:Nat,M.Y.fp=some ⟨bz,0,none⟩∧cellAt hy ((⟨bz,0,none⟩ : Addr).add (Int.toNat (k:Int)*1))=some (.slice (M.Y.lp k) (D.fl k).length (M.Y.lc k)):=fun hy Hy=>by
      obtain ⟨bz,ez,vz⟩:=fr_cell (Hy.1.1:(frR M.Y x.m.o D.fl).P hy) (k:=k) (by omega)
      exact ⟨bz,ez,by rw [at1];exact vz⟩
     obtain ⟨bz,ez,vz⟩:=fcell h6 (I7.at 2)
     refine ⟨_,rfl,_,_,_,w_cd (I7.at 0) 10,_,ez,by omega,by omega,_,_,_,vz,iF (by rw [ll];simp) fun L18 hL18=>?_⟩
     have loop:∀(d j:Nat) (hy:Heap),j+d=(D.fl k).length→Go.V.Own h hy (wpR c wb Q M x hp D) (w7R c wb (dvD c M x.m.o D) Q x hp::slR p6 ((D.fl k).map (adr c)).length c6 1 (uL ((D.fl k).map (adr c)))::rfD M x.m.o D::[]) →
       L18 [gptr wb,.int .i64 (k:Int),.slice p6 ((D.fl k).map (adr c)).length c6,.int .i64 (j:Int)] hy:=by
      intro d
      induction d with
      | zero =>
       intro j hy hj I
       refine hL18 _ _ _ _ _ _ _ (iF (decide_eq_false (by rw [ll];omega)) (hJ15 _ _ _ ?_))
       rw [show IntKind.wrap .i64 ((k:Int)+1)=((k+1:Nat):Int) by rw [IntKind.wrap_i64];omega]
       exact ih (k+1) hy (by omega) (I.perm (rs':=slR p6 ((D.fl k).map (adr c)).length c6 1 (uL ((D.fl k).map (adr c)))::w7R c wb (dvD c M x.m.o D) Q x hp::rfD M x.m.o D::[]) (.swap _ _ _)).drop.join
      | succ d ihd =>
       intro j hy hj I
       have hmem:=getD_in (l:=D.fl k) (i:=j) (by omega)
       have hbd:=W.flOk.bd k (by omega) _ hmem
       obtain ⟨bl,el,vl⟩:=sl_cell (I.at 1) (i:=j) (by rw [ll];omega)
       have vl:cellAt hy ⟨bl,j,none⟩=some (.int .u64 (adr c ((D.fl k).getD j 0))):=by
        rw [vl];unfold uL
        rw [List.getD_eq_getElem?_getD,List.getElem?_map,List.getD_eq_getElem?_getD,List.getElem?_eq_getElem (by omega)];rfl
       obtain ⟨bz,ez,vz⟩:=fcell hy (I.at 2)
       obtain ⟨bi,ei,vi⟩:=sl_cell (fr_row ((I.at 2:(rfD M x.m.o D).P hy).1.1:(frR M.Y x.m.o D.fl).P hy) (k:=k) (by omega)) (i:=j) (by omega)
       refine hL18 _ _ _ _ _ _ _ (iT (decide_eq_true (by rw [ll];omega)) ⟨_,el,by omega,by rw [ll];omega,_,by rw [at1];exact vl,_,rfl,m9_ok (I.at 0) ⟨_,rfl,_,_,_,w_cd (I.at 0) 10,_,ez,by omega,by omega,_,_,_,vz,_,ei,by omega,by omega,_,by rw [at1];exact vi,?_⟩⟩)
       refine at7_ok W.g W.ok.m (by omega) fun h8 u8=>⟨_,rfl,by rw [at1];exact cellAt_upd vl u8 id,iF (by simp) ?_⟩
       rw [show IntKind.wrap .i64 ((j:Int)+1)=((j+1:Nat):Int) by rw [IntKind.wrap_i64];omega]
       exact ihd (j+1) h8 (by omega) (I.quiet u8)
     exact loop _ 0 h6 (Nat.zero_add _) I7
   exact key (x.m.o+1) 0 h5 (Nat.zero_add _) I5
  have key:∀(d i:Nat),i+d=x.m.o→L20 [gptr wb,.slice qp x.m.o qc,.slice qp' x.m.o qc',.int .i64 (i:Int)] h5:=by
   intro d
   induction d with
   | zero =>
    intro i hi
    exact hL20 _ _ _ _ _ _ _ _ _ (iF (decide_eq_false (by omega)) ends)
   | succ d ih =>
    intro i hi
    obtain ⟨b1,e1,r1⟩:=sl_cell A.2.1.1 (i:=i) (by omega)
    obtain ⟨b3,e3,r3⟩:=sl_cell E.1 (i:=i) (by omega)
    have r1':cellAt h5 ((⟨b1,0,none⟩ : Addr).add (Int.toNat (i:Int)*1))=some (.slice (wp i) (nw (x.m.n / 2 ^ (i+1))) (wc i)):=by rw [at1];exact r1
    have r3':cellAt h5 ((⟨b3,0,none⟩ : Addr).add (Int.toNat (i:Int)*1))=some (.slice (wp' i) (nw (x.m.n / 2 ^ (i+1))) (nw (x.m.n / 2 ^ (i+1)))):=by rw [at1];exact r3
    have hs:nw (x.m.n / 2 ^ (i+1))≤2000:=by
     unfold nw
     have:=Nat.div_le_self x.m.n (2 ^ (i+1))
     omega
    refine hL20 _ _ _ _ _ _ _ _ _ (iT (decide_eq_true (by omega)) fun J21 hJ21 L22 hL22=>?_)
    have inner:∀(d j:Nat),j+d=nw (x.m.n / 2 ^ (i+1))→L22 [gptr wb,.slice qp x.m.o qc,.slice qp' x.m.o qc',.int .i64 (i:Int),.int .i64 (j:Int)] h5:=by
     intro d
     induction d with
     | zero =>
      intro j hj
      refine hL22 _ _ _ _ _ _ _ _ _ _ ⟨_,e3,by omega,by omega,_,_,_,r3',iF (decide_eq_false (by omega)) (hJ21 _ _ _ _ _ _ _ _ _ ?_)⟩
      rw [show IntKind.wrap .i64 ((i:Int)+1)=((i+1:Nat):Int) by rw [IntKind.wrap_i64];omega]
      exact ih (i+1) (by omega)
     | succ d ihd =>
      intro j hj
      obtain ⟨b5,e5,r5⟩:=sl_cell (A.2.1.2.1.1 i (by omega)) (i:=j) (by omega)
      obtain ⟨b6,e6,r6⟩:=sl_cell (E.2.1.1 i (by omega)) (i:=j) (by omega)
      refine hL22 _ _ _ _ _ _ _ _ _ _ ⟨_,e3,by omega,by omega,_,_,_,r3',iT (decide_eq_true (by omega)) ⟨_,e1,by omega,by omega,_,_,_,r1',_,e3,by omega,by omega,_,_,_,r3',fun J23 hJ23=>pF (by simp) ⟨_,e1,by omega,by omega,_,_,_,r1',_,e5,by omega,by omega,_,by rw [at1];exact r5,_,e3,by omega,by omega,_,_,_,r3',_,e6,by omega,by omega,_,by rw [at1];exact r6,hJ23 _ _ (iF ?_ ?_)⟩⟩⟩
      ·rw [W.worded (by omega)];simp
      ·rw [show IntKind.wrap .i64 ((j:Int)+1)=((j+1:Nat):Int) by rw [IntKind.wrap_i64];omega]
       exact ihd (j+1) (by omega)
    exact inner _ 0 (Nat.zero_add _)
  exact key _ 0 (Nat.zero_add _)
 have loop:∀(d i:Nat),i+d=x.m.n→L24 [gptr wb,.slice gp x.m.n gc,.slice qp x.m.o qc,.slice (some ⟨b4,0,none⟩) x.m.n x.m.n,.slice qp' x.m.o qc',.int .i64 (i:Int)] h5:=by
  intro d
  induction d with
  | zero =>
   intro i hi
   exact hL24 _ _ _ _ _ _ _ _ _ _ _ _ _ _ _ (iF (decide_eq_false (by omega)) words)
  | succ d ih =>
   intro i hi
   rcases sl_row A.1 with e | ⟨b1,o1,e1,R1⟩
   ·omega
   rcases sl_row B with e | ⟨b3,o3,e3,R3⟩
   ·omega
   refine hL24 _ _ _ _ _ _ _ _ _ _ _ _ _ _ _ (iT (decide_eq_true (by omega)) ⟨_,e1,by omega,by omega,row_page8 (P:=x.m.pg) (n:=x.m.n) (fun j hj=>R1 j hj) (by omega) ⟨_,e3,by omega,by omega,row_page8 (P:=mG x.m.pg (paintLv (paintO D.fl (x.m.o+1)) D.V) D.ps) (n:=x.m.n) (fun j hj=>R3 j hj) (by omega) ?_⟩⟩)
   have e:mG x.m.pg (paintLv (paintO D.fl (x.m.o+1)) D.V) D.ps i=x.m.pg i:=by
    unfold mG
    by_cases hs:i∈D.ps
    ·rw [if_pos hs]
    ·rw [if_neg hs];exact W.painted (q:=i) (by omega) hs
   rw [e]
   refine iF (by rw [eq_page];simp) ?_
   rw [show IntKind.wrap .i64 ((i:Int)+1)=((i+1:Nat):Int) by rw [IntKind.wrap_i64];omega]
   exact ih (i+1) (by omega)
 rw [hn]
 exact loop _ 0 (Nat.zero_add _)
end
end Go.Proofs.YteemmpkhdllapaaGreatDoor
namespace Go.Proofs.YteemmpkhdllapaaGreatDoor
open Go.V Classical
section
variable {w₀:World} {h h':Heap} {c:Cfg} {Q:WW} {x:BU} {K:Value→Heap→Prop} {fl:Nat→List Nat} {L hs:List PBk} {l:List Bk} {p k:Nat} {S:Nat→Prop}
theorem RepS.fill (R:RepS S c x fl L hs) (hb:(p,k)∈L) {st':Sto} (hn:st'.n=x.st.n) (hM:∀o,(o<4096*p∨4096*(p+2 ^ k)≤o)→st'.M o=x.st.M o):RepS S c ⟨st',x.hd,x.m⟩ fl L hs:=by
 refine ⟨⟨R.ok.m,R.ok.o,R.ok.b⟩,⟨R.rm.b,R.rm.n,by have:=R.rm.r;rw [hn];exact this⟩,R.til,R.nb,fun j hj=>?_,R.pf,R.pl,R.bt,R.ps⟩
 have L0:=R.ls j hj
 refine ⟨L0.hd,L0.nd,L0.cl,seg_congr (fun a ha=>?_) L0.sg⟩
 obtain ⟨q,hq,rfl⟩:=List.mem_map.1 ha
 have e1:(adr c q-c.base).toNat=4096*q:=by unfold adr;omega
 have e2:(adr c q+8-c.base).toNat=4096*q+8:=by unfold adr;omega
 have hbm:(p,k)∈hs++(L++blks x.m.o fl):=List.mem_append_right _ (List.mem_append_left _ hb)
 have hqm:=R.mem hj hq
 have nd:=R.til.nodup
 have hout:q<p∨p+2 ^ k≤q:=by
  refine Classical.byContradiction fun hno=>?_
  have:=R.til.uniq hbm hqm (q:=q) ⟨by simp only [];omega,by simp only [];omega⟩ cov_self
  have h2:=(List.nodup_append.1 (List.nodup_append.1 nd).2.1).2.2 (p,k) hb (q,j) (mem_blks.2 ⟨hj,hq⟩)
  exact h2 this
 have same:∀o,4096*q≤o→o<4096*q+16→st'.M o=x.st.M o:=fun o h1 h2=>hM o (by
  rcases hout with ho | ho
  ·left;omega
  ·right;exact Nat.le_trans (Nat.mul_le_mul_left _ ho) h1)
 unfold Sto.rd
 rw [e1,e2]
 exact ⟨wrd_congr fun i hi=>same _ (by omega) (by omega),wrd_congr fun i hi=>same _ (by omega) (by omega)⟩
end
end Go.Proofs.YteemmpkhdllapaaGreatDoor
namespace Go.Proofs.YteemmpkhdllapaaGreatDoor
open Go.V Classical
section
variable {h0 h:Heap} {E A B C D:Res} {rs:List Res}
theorem o8_swap (H:Go.V.Own h0 h E (A::B::rs)):Go.V.Own h0 h E (B::A::rs):=H.perm (.swap _ _ _)
theorem o8_swap2 (H:Go.V.Own h0 h E (A::B::C::rs)):Go.V.Own h0 h E (A::C::B::rs):=H.perm (.cons _ (.swap _ _ _))
theorem o8_front3 (H:Go.V.Own h0 h E (A::B::C::rs)):Go.V.Own h0 h E (C::A::B::rs):=o8_swap (o8_swap2 H)
theorem o8_front4 (H:Go.V.Own h0 h E (A::B::C::D::rs)):Go.V.Own h0 h E (D::A::B::C::rs):=o8_front3 (H.perm (.cons _ (.cons _ (.swap _ _ _))))
end
section
variable {w₀:World} {h h':Heap} {c:Cfg} {M:RW7} {wb:Nat} {Q:SL} {x:BU} {hp:Nat→Int} {D D':DS} {K:Value→Heap→Prop}
theorem open_any {pb i cap:Nat} {y:Option Addr} (H:(slR y i cap 1 (fun _=>.int .i64 (-1))).P h) {np:Nat} (hK:∀h' r0 r1,Upd NoB h h'→(i≠8→r0=none∧r1=7)→K (.tuple #[.pointer r0,.int .i64 r1]) h') :
  CallV Tryz.prog w₀ F.slab_Open [gptr pb,.slice y i np] h K:=by
 by_cases e:i=8
 ·subst e
  have R:Row h y 8 (iL (ptL fun _=>-1)):=by
   have:=sl_row (sl_congr (g:=iL (ptL fun _=>-1)) H fun j hj=>by rw [iL_pt _ (by omega)])
   rwa [Nat.mul_one] at this
  exact Open_ok R fun h2 sb N2=>hK h2 _ _ N2.u fun h=>absurd rfl h
 ·exact Open_no e (hK h none 7 (Upd.refl _ _) fun _=>⟨rfl,rfl⟩)
theorem opened8_ok {n:Int} (G:GI c x hp D) (H:(wpR c wb Q M x hp D).P h) (hK:∀h' Q',Stp h h' (wpR c wb Q M x hp D) (wpR c wb Q' M x hp D)→K (.bool true) h') :
  CallV Tryz.prog w₀ F.croftlaw7_world_opened [gptr wb,.int .i64 n] h K:=by
 refine croftlaw7_world_opened.call fun J1 hJ1 L15 hL15=>?_
 try dsimp only
 have go:∀(i:Nat) (y:Option Addr) (cap:Nat) (hx:Heap),i≤20→Go.V.Own h hx (wpR c wb Q M x hp D) [slR y i cap 1 (fun _=>.int .i64 (-1)),wpR c wb Q M x hp D]→J1 [gptr wb,.slice y i cap] hx:=by
  intro i y cap hx hi I
  have Hx:=I.at 1
  refine hJ1 _ _ _ _ _ ⟨_,rfl,_,w_c3 Hx.1,?_⟩
  refine open_any (I.at 0) fun h2 r0 r1 u2 hr=>⟨_,_,rfl,fun J3 hJ3=>?_⟩
  have fin:J3 false h2:=by
   have I2:Go.V.Own h h2 (wpR c wb Q M x hp D) [wpR c wb Q M x hp D]:=(I.quiet u2).drop
   have H2:=I2.at 0
   refine hJ3 _ _ (iF rfl ⟨_,rfl,_,w_c4 H2.1,Partial_ok (w_s H2.1).1 fun h3 q3 N3=>⟨_,_,_,rfl,?_⟩⟩)
   have I3:=I2.new N3
   have R3:Row h3 q3 8 (iL (ptL hp)):=by have:=sl_row (I3.at 0);rwa [Nat.mul_one] at this
   refine ⟨_,rfl,_,w_c3 (I3.at 1:(wpR c wb Q M x hp D).P h3).1,Open_ok R3 fun h4 sb N4=>⟨_,_,rfl,fun J6 hJ6=>pF rfl (hJ6 _ _ fun J7 hJ7=>pF rfl ?_)⟩⟩
   have I4:=I3.new N4
   refine ⟨_,rfl,m9_ok (I4.at 2:(wpR c wb Q M x hp D).P h4).1 (Heads7_ok (hp:=hp) (pl:=D.pl) G.pl2 G.i.hd ((I4.at 2:(wpR c wb Q M x hp D).P h4).2.1.2.1.1:(frR M.Z 7 D.pl).P h4) fun h5 q5 c5 N5=>⟨_,_,_,rfl,?_⟩)⟩
   have I5:=I4.new N5
   refine ints8_ok (I5.at 2) (I5.at 0) ⟨_,rfl,hJ7 _ _ (iF rfl fun J8 hJ8 L10 hL10=>?_)⟩
   have loop:∀(d j:Nat) (hy:Heap) (f:Nat→Value),j+d=8→Go.V.Own h hy (wpR c wb Q M x hp D) [blkR sb 9 (slF Q.pl.pb hp),slR q3 8 8 1 f,wpR c wb Q M x hp D] →
     L10 [gptr wb,gptr sb,.slice q3 8 8,.int .i64 (j:Int)] hy:=by
    intro d
    induction d with
    | succ d ih =>
     intro j hy f hj I
     obtain ⟨b9,e9,w9,S9⟩:=sl_set (I.at 1) (o:=j) (by omega) (.int .i64 0)
     refine hL10 _ _ _ _ _ _ _ (iT (decide_eq_true (by omega)) ⟨_,e9,by omega,by omega,by rw [at1];exact w9,?_⟩)
     rw [show IntKind.wrap .i64 ((j:Int)+1)=((j+1:Nat):Int) by rw [IntKind.wrap_i64];omega,at1]
     exact ih (j+1) _ _ (by omega) (I.step 1 S9)
    | zero =>
     intro j hy f hj I
     have J1:=(o8_front3 I).split.split
     have J2:=(o8_swap J1).split.drop
     have J3:Go.V.Own h hy (wpR c wb Q M x hp D) (plR c Q.pl x::lR wb (w7L c Q (dvD c M x.m.o D))::rfD M x.m.o D::blkR sb 9 (slF Q.pl.pb hp)::slR q3 8 8 1 f::[]):=J2
     have J4:=(o8_front4 J3).join
     have J5:Go.V.Own h hy (wpR c wb Q M x hp D) (lR wb (w7L c Q (dvD c M x.m.o D))::sR c ⟨sb,Q.pl⟩ x hp::rfD M x.m.o D::slR q3 8 8 1 f::[]):=o8_swap J4
     have w5:=wr_l (J5.at 0) 4
     refine hL10 _ _ _ _ _ _ _ (iF (decide_eq_false (by omega)) (hJ8 _ _ _ ⟨_,rfl,w5,?_⟩))
     have J6:Go.V.Own h (setC hy ((⟨wb,0,none⟩ : Addr).add 4) (gptr sb)) (wpR c wb Q M x hp D) (lR wb (w7L c ⟨sb,Q.pl⟩ (dvD c M x.m.o D))::sR c ⟨sb,Q.pl⟩ x hp::rfD M x.m.o D::slR q3 8 8 1 f::[]):=J5.step 0 (set_l (J5.at 0) 4 (gptr sb))
     exact hK _ ⟨sb,Q.pl⟩ (J6.join.join).stp
   exact loop 8 0 h5 _ (Nat.zero_add _) I5.drop
  by_cases e:i=8
  ·subst e
   exact qF' rfl fin
  ·obtain ⟨rfl,rfl⟩:=hr e
   exact qT (by simpa using fun h=>e (by omega)) fun J14 hJ14=>pF rfl (hJ14 _ _ fin)
 have loop:∀(d i:Nat) (y:Option Addr) (cap:Nat) (hx:Heap),i+d=20→Go.V.Own h hx (wpR c wb Q M x hp D) [slR y i cap 1 (fun _=>.int .i64 (-1)),wpR c wb Q M x hp D] →
   L15 [gptr wb,.int .i64 n,.slice y i cap,.int .i64 (i:Int)] hx:=by
  intro d
  induction d with
  | zero =>
   intro i y cap hx hi I
   refine hL15 _ _ _ _ _ _ _ fun J16 hJ16=>?_
   by_cases hn:(i:Int)<n
   ·exact qT (decide_eq_true hn) (hJ16 _ _ (iF (decide_eq_false (by omega)) (go i y cap hx (by omega) I)))
   ·exact qF' (decide_eq_false hn) (hJ16 _ _ (iF rfl (go i y cap hx (by omega) I)))
  | succ d ih =>
   intro i y cap hx hi I
   refine hL15 _ _ _ _ _ _ _ fun J16 hJ16=>?_
   by_cases hn:(i:Int)<n
   ·refine qT (decide_eq_true hn) (hJ16 _ _ (iT (decide_eq_true (by omega)) ?_))
    obtain ⟨os,q1,q2⟩:=sl_app1 (zs:=[.int .i64 0]) (v:=.int .i64 (-1)) (b:=8) (e:=T.T_int) (T:=T.T_int) (I.at 0) rfl rfl (by omega)
    refine ⟨os,_,q1,fun p' c' h9 res=>?_⟩
    have I2:=I.step 0 (R:=slR y i cap 1 (fun _=>.int .i64 (-1))) (R':=slR p' (i+1) c' 1 (fun _=>.int .i64 (-1))) ((q2 p' c' h9 res).conv (fun P=>sl_congr P fun j hj=>by split<;>rfl) fun _ e=>e)
    rw [show IntKind.wrap .i64 ((i:Int)+1)=((i+1:Nat):Int) by rw [IntKind.wrap_i64];omega]
    exact ih (i+1) p' c' h9 (by omega) I2
   ·exact qF' (decide_eq_false hn) (hJ16 _ _ (iF rfl (go i y cap hx (by omega) I)))
 exact loop 20 0 none 0 h (by omega) ((Go.V.Own.of H).new ⟨Upd.refl _ _,sl_nil _ _ _,fun b e=>absurd e (sl_nil_fp b)⟩)
end
end Go.Proofs.YteemmpkhdllapaaGreatDoor
