/- Texts of this proof, some in one. No condition. -/
import Derived.Test.YteemmpkhdllapaaGreatDoorY14
import Derived.Test.YteemmpkhdllapaaGreatDoorY12
set_option linter.unusedSimpArgs false
set_option linter.unusedVariables false
namespace Go.Proofs.YteemmpkhdllapaaGreatDoor
open Go.V Classical
def paintF (G:Nat→Nat→Int) (k:Nat) (l:List Nat):Nat→Nat→Int:=l.foldl (fun G p=>paintT G p k 0 (2 ^ k)) G
def paintO (fl:Nat→List Nat):Nat→Nat→Nat→Int
 | 0=>fun _ _=>0
 | k+1=>paintF (paintO fl k) k (fl k)
def paintLv (G:Nat→Nat→Int) (L:List PBk):Nat→Nat→Int:=L.foldl (fun G b=>paintT G b.1 b.2 2 (2 ^ b.2)) G
theorem take_ge {α:Type} (l:List α) (i:Nat) (d:α) (hi:i<l.length):l.take (i+1)=l.take i++[l.getD i d]:=by
 rw [List.take_add_one,List.getD_eq_getElem?_getD,List.getElem?_eq_getElem hi];rfl
section
variable {w₀:World} {h h0 hx:Heap} {K:Value→Heap→Prop} {Y:RW5} {O P:Nat} {fl:Nat→List Nat} {L:List PBk}
theorem ref5_Pages_ok (hO:O≤8) (hP:P≤2000) (f:FlOk O fl) (hL:L.length≤100000) (al:∀b∈L,b.1≤2000∧b.2≤O) (H:(rfR Y O fl L).P h)
  (hK:∀h' b,New h h' (slR (some ⟨b,0,none⟩) P P 11 (pgsV (paintLv (paintO fl (O+1)) L)))→K (.slice (some ⟨b,0,none⟩) P P) h') :
  CallV Tryz.prog w₀ F.croftref5_Pages [pv Y O P L] h K:=by
 refine croftref5_Pages.call ?_
 try dsimp only
 have N5:=box4 h (.int .i64 (O:Int)) (.int .i64 (P:Int)) (.slice Y.fp (O+1) Y.fc) (.slice Y.vp L.length Y.vc) T.T_croftref5_Buddy
 generalize Array.push h (.cells #[.int .i64 (O:Int),.int .i64 (P:Int),.slice Y.fp (O+1) Y.fc,.slice Y.vp L.length Y.vc] T.T_croftref5_Buddy)=h5 at N5 ⊢
 obtain ⟨b0,eb0⟩ : ∃b0,b0=h.size:=⟨_,rfl⟩
 rw [←eb0] at N5 ⊢
 obtain ⟨k0,k1,k2,k3⟩:=f4_cells N5.p
 refine ⟨_,k1,by omega,by omega,by omega,?_⟩
 rw [Int.toNat_natCast]
 have N6:=sl_make h5 zpL T.T_api_Page P P (Nat.le_refl _)
 obtain ⟨b1,eb1⟩ : ∃b1,b1=h5.size:=⟨_,rfl⟩
 have N6:New h5 (h5.push (.cells (List.toArray (zrow zpL P)) T.T_api_Page)) (slR (some ⟨b1,0,none⟩) P P 11 (pgsV (paintO fl 0))):=by
  rw [eb1]
  exact N6.conv (fun A=>sl_congr A fun i hi=>by
   unfold pgsV paintO
   show zpL.getD (i % 11) undef=pcl (i % 11) 0
   have:i % 11=0∨i % 11=1∨i % 11=2∨i % 11=3∨i % 11=4∨i % 11=5∨i % 11=6∨i % 11=7∨i % 11=8∨i % 11=9∨i % 11=10:=by omega
   rcases this with e | e | e | e | e | e | e | e | e | e | e<;>rw [e]<;>rfl) fun _ e=>e
 rw [←eb1]
 generalize h5.push (.cells (List.toArray (zrow zpL P)) T.T_api_Page)=h6 at N6 ⊢
 have I0:Go.V.Own h h6 (rfR Y O fl L) [slR (some ⟨b1,0,none⟩) P P 11 (pgsV (paintO fl 0)),blkR b0 4 (f4 (.int .i64 (O:Int)) (.int .i64 (P:Int)) (.slice Y.fp (O+1) Y.fc) (.slice Y.vp L.length Y.vc)),rfR Y O fl L]:=((Go.V.Own.of H).new N5).new N6
 intro J3 hJ3 L7 hL7
 have ge1:∀b,(slR (some ⟨b1,0,none⟩) P P 11 (pgsV (paintO fl 0))).fp b→h.size≤b:=fun b e=>by
  have e:(some ⟨b1,0,none⟩ : Option Addr)=some ⟨b,0,none⟩:=e
  have:=N5.u.1
  simp at e
  omega
 have lives:∀(hx:Heap),Go.V.Own h hx (rfR Y O fl L) [slR (some ⟨b1,0,none⟩) P P 11 (pgsV (paintO fl (O+1))),blkR b0 4 (f4 (.int .i64 (O:Int)) (.int .i64 (P:Int)) (.slice Y.fp (O+1) Y.fc) (.slice Y.vp L.length Y.vc)),rfR Y O fl L]→Upd NoB h hx→J3 [.pointer (some ⟨b0,0,none⟩),.slice (some ⟨b1,0,none⟩) P P] hx:=by
  intro hx I ux
  refine hJ3 _ _ _ _ _ fun J4 hJ4 L5 hL5=>?_
  have loop:∀(d i:Nat) (hy:Heap),i+d=L.length→Go.V.Own h hy (rfR Y O fl L) [slR (some ⟨b1,0,none⟩) P P 11 (pgsV (paintLv (paintO fl (O+1)) (L.take i))),blkR b0 4 (f4 (.int .i64 (O:Int)) (.int .i64 (P:Int)) (.slice Y.fp (O+1) Y.fc) (.slice Y.vp L.length Y.vc)),rfR Y O fl L]→Upd NoB h hy →
    L5 [.pointer (some ⟨b0,0,none⟩),.slice (some ⟨b1,0,none⟩) P P,.int .i64 (i:Int)] hy:=by
   intro d
   induction d with
   | zero =>
    intro i hy hi I uy
    have hi:i=L.length:=by omega
    subst hi
    rw [List.take_length] at I
    obtain ⟨k0,k1,k2,k3⟩:=f4_cells (I.at 1)
    exact hL5 _ _ _ _ _ _ ⟨_,_,_,k3,iF (decide_eq_false (by omega)) (hJ4 _ _ _ _ (hK hy b1 ⟨uy,I.at 0,ge1⟩))⟩
   | succ d ih =>
    intro i hy hi I uy
    obtain ⟨k0,k1,k2,k3⟩:=f4_cells (I.at 1)
    have HR:(rfR Y O fl L).P hy:=I.at 2
    have RL:Row hy Y.vp ((prL L).length*2) (runV (prL L)):=by rw [prL_len];exact sl_row HR.2.1
    obtain ⟨a,e1,r1,r2⟩:=row_run RL (Upd.refl _ _) (i:=i) (by rw [prL_len];omega)
    have hbm:L.getD i (0,0)∈L:=by rw [List.getD_eq_getElem?_getD,List.getElem?_eq_getElem (by omega)];exact List.getElem_mem _
    have eb:(prL L).getD i (0,0)=prV (L.getD i (0,0)):=by
     rw [List.getD_eq_getElem?_getD,List.getD_eq_getElem?_getD,List.getElem?_map,List.getElem?_eq_getElem (by omega)];rfl
    obtain ⟨a1,a2⟩:=al _ hbm
    have htk:=take_ge L i (0,0) (by omega)
    rw [eb] at r1 r2
    generalize L.getD i (0,0)=bb at r1 r2 a1 a2 htk
    refine hL5 _ _ _ _ _ _ ⟨_,_,_,k3,iT (decide_eq_true (by omega)) ⟨_,_,_,k3,a,e1,by omega,by omega,_,r1,_,_,_,k3,a,e1,by omega,by omega,_,r2,?_⟩⟩
    refine ref5_paint_ok (page:=bb.1) (order:=bb.2) (by omega) (by omega) (by omega) (by omega) (I.at 0) fun h8 S=>⟨rfl,?_⟩
    rw [show IntKind.wrap .i64 ((i:Int)+1)=((i+1:Nat):Int) by rw [IntKind.wrap_i64];omega]
    have I1:=I.step 0 S
    refine ih (i+1) h8 (by omega) ?_ (uy.nx S.u fun b e hb=>by
     have:=ge1 b e
     omega)
    rw [htk]
    unfold paintLv
    rw [List.foldl_append]
    exact I1
  exact loop L.length 0 hx (by omega) I ux
 have loop:∀(d k:Nat) (hx:Heap),k+d=O+1→Go.V.Own h hx (rfR Y O fl L) [slR (some ⟨b1,0,none⟩) P P 11 (pgsV (paintO fl k)),blkR b0 4 (f4 (.int .i64 (O:Int)) (.int .i64 (P:Int)) (.slice Y.fp (O+1) Y.fc) (.slice Y.vp L.length Y.vc)),rfR Y O fl L]→Upd NoB h hx →
   L7 [.pointer (some ⟨b0,0,none⟩),.slice (some ⟨b1,0,none⟩) P P,.int .i64 (k:Int)] hx:=by
  intro d
  induction d with
  | zero =>
   intro k hx hk I ux
   have hk:k=O+1:=by omega
   subst hk
   obtain ⟨k0,k1,k2,k3⟩:=f4_cells (I.at 1)
   exact hL7 _ _ _ _ _ _ ⟨_,k0,iF (decide_eq_false (by omega)) (lives hx I ux)⟩
  | succ d ih =>
   intro k hx hk I ux
   have hkO:k≤O:=by omega
   have hlk:=f.len k hkO
   obtain ⟨k0,k1,k2,k3⟩:=f4_cells (I.at 1)
   refine hL7 _ _ _ _ _ _ ⟨_,k0,iT (decide_eq_true (by omega)) fun J8 hJ8 L9 hL9=>?_⟩
   have inner:∀(d i:Nat) (hy:Heap),i+d=(fl k).length→Go.V.Own h hy (rfR Y O fl L) [slR (some ⟨b1,0,none⟩) P P 11 (pgsV (paintF (paintO fl k) k ((fl k).take i))),blkR b0 4 (f4 (.int .i64 (O:Int)) (.int .i64 (P:Int)) (.slice Y.fp (O+1) Y.fc) (.slice Y.vp L.length Y.vc)),rfR Y O fl L]→Upd NoB h hy →
     L9 [.pointer (some ⟨b0,0,none⟩),.slice (some ⟨b1,0,none⟩) P P,.int .i64 (k:Int),.int .i64 (i:Int)] hy:=by
    intro d
    induction d with
    | zero =>
     intro i hy hi I uy
     have hi:i=(fl k).length:=by omega
     subst hi
     rw [List.take_length] at I
     obtain ⟨k0,k1,k2,k3⟩:=f4_cells (I.at 1)
     have HF:(frR Y O fl).P hy:=(show (rfR Y O fl L).P hy from I.at 2).1
     obtain ⟨bf,efp,vk⟩:=fr_cell HF hkO
     refine hL9 _ _ _ _ _ _ _ ⟨_,_,_,k2,_,efp,by omega,by omega,_,_,_,by rw [at1];exact vk,iF (decide_eq_false (by omega)) (hJ8 _ _ _ _ _ _ ?_)⟩
     rw [show IntKind.wrap .i64 ((k:Int)+1)=((k+1:Nat):Int) by rw [IntKind.wrap_i64];omega]
     exact ih (k+1) hy (by omega) I uy
    | succ d ihd =>
     intro i hy hi I uy
     obtain ⟨k0,k1,k2,k3⟩:=f4_cells (I.at 1)
     have HF:(frR Y O fl).P hy:=(show (rfR Y O fl L).P hy from I.at 2).1
     obtain ⟨bf,efp,vk⟩:=fr_cell HF hkO
     obtain ⟨bl,elp,vi⟩:=sl_cell (fr_row HF hkO) (i:=i) (by omega)
     have htk:=take_ge (fl k) i 0 (by omega)
     have hpb:(fl k).getD i 0≤2000:=f.bd k hkO _ (by rw [List.getD_eq_getElem?_getD,List.getElem?_eq_getElem (by omega)];exact List.getElem_mem _)
     have e0:nV (fl k) i=.int .i64 (((fl k).getD i 0:Nat):Int):=rfl
     rw [e0] at vi
     generalize (fl k).getD i 0=q at vi htk hpb
     refine hL9 _ _ _ _ _ _ _ ⟨_,_,_,k2,_,efp,by omega,by omega,_,_,_,by rw [at1];exact vk,iT (decide_eq_true (by omega)) ⟨_,_,_,k2,_,efp,by omega,by omega,_,_,_,by rw [at1];exact vk,_,elp,by omega,by omega,_,by rw [at1];exact vi,?_⟩⟩
     refine ref5_paint_ok (page:=q) (order:=k) (by omega) (by omega) (by omega) (by omega) (I.at 0) fun h8 S=>⟨rfl,?_⟩
     rw [show IntKind.wrap .i64 ((i:Int)+1)=((i+1:Nat):Int) by rw [IntKind.wrap_i64];omega]
     have I1:=I.step 0 S
     refine ihd (i+1) h8 (by omega) ?_ (uy.nx S.u fun b e hb=>by
      have:=ge1 b e
      omega)
     rw [htk]
     unfold paintF
     rw [List.foldl_append]
     exact I1
   exact inner (fl k).length 0 hx (by omega) I ux
 exact loop (O+1) 0 h6 (by omega) I0 (N5.u.nx N6.u fun _ e _=>e)
end
end Go.Proofs.YteemmpkhdllapaaGreatDoor
namespace Go.Proofs.YteemmpkhdllapaaGreatDoor
open Go.V Classical
section
variable {w₀:World} {h h0 hx:Heap} {K:Value→Heap→Prop} {Y:RW5} {O:Nat} {P:Int} {fl:Nat→List Nat} {vp:Option Addr} {vn vc:Nat}
theorem ref5_Pair_ok {k q:Nat} (hO:O≤8) (hk:k≤O) (hq:q≤100000) (f:∀k,k≤O→(fl k).length≤2000) (H:(frR Y O fl).P h) (hK:∀h',Upd NoB h h'→K (.bool (!(decide (q∈fl k) == decide (q+2 ^ k∈fl k)))) h') :
  CallV Tryz.prog w₀ F.croftref5_Pair [dv (O:Int) P Y.fp (O+1) Y.fc vp vn vc,.int .i64 (k:Int),.int .i64 (q:Int)] h K:=by
 refine croftref5_Pair.call ?_
 try dsimp only
 have N5:=box4 h (.int .i64 (O:Int)) (.int .i64 P) (.slice Y.fp (O+1) Y.fc) (.slice vp vn vc) T.T_croftref5_Buddy
 generalize Array.push h (.cells #[.int .i64 (O:Int),.int .i64 P,.slice Y.fp (O+1) Y.fc,.slice vp vn vc] T.T_croftref5_Buddy)=h5 at N5 ⊢
 obtain ⟨b0,eb0⟩ : ∃b0,b0=h.size:=⟨_,rfl⟩
 rw [←eb0] at N5 ⊢
 have h8:=pow8 (show k≤8 by omega)
 have I:=(Go.V.Own.of H).new N5
 obtain ⟨k0,k1,k2,k3⟩:=f4_cells (I.at 0)
 have hl:=f k hk
 refine ⟨_,k0,_,k1,_,_,_,k2,_,_,_,k3,_,k0,_,k1,_,_,_,k2,_,_,_,k3,by rw [IntKind.wrap_u64];omega,ref5_Is_ok (Y:=Y) (fl:=fl) hO hk (by omega) (I.at 1) fun h6 u6=>⟨_,rfl,?_⟩⟩
 have I6:=I.quiet u6
 obtain ⟨k0,k1,k2,k3⟩:=f4_cells (I6.at 0)
 rw [shlI (show k≤8 by omega),show IntKind.wrap .i64 ((q:Int)+((2 ^ k:Nat):Int))=((q+2 ^ k:Nat):Int) by rw [IntKind.wrap_i64];omega]
 exact ⟨k0,k1,k2,k3,ref5_Is_ok (Y:=Y) (fl:=fl) hO hk (by omega) (I6.at 1) fun h7 u7=>⟨_,rfl,hK h7 ((N5.u.nx u6 fun _ e _=>e).nx u7 fun _ e _=>e)⟩⟩
end
end Go.Proofs.YteemmpkhdllapaaGreatDoor
namespace Go.Proofs.YteemmpkhdllapaaGreatDoor
open Go.V Classical
noncomputable def prB (fl:Nat→List Nat) (k i:Nat):Bool:=!(decide (i*2 ^ (k+1)∈fl k) == decide (i*2 ^ (k+1)+2 ^ k∈fl k))
noncomputable def prT (fl:Nat→List Nat) (k t i:Nat):Bool:=decide (i<t) && prB fl k i
theorem wd_or {fl:Nat→List Nat} {k t:Nat} (h:prB fl k t=true):wd (prT fl k (t+1)) (t / 64)=wd (prT fl k t) (t / 64) ||| 2 ^ (t % 64):=by
 have hlt:=wd_lt (prT fl k t) (t / 64)
 have h2:2 ^ (t % 64)<18446744073709551616:=by
  have:=Nat.pow_lt_pow_right (show 1<2 by omega) (show t % 64<64 by omega)
  omega
 refine (wd_eq (Nat.or_lt_two_pow (n:=64) hlt h2) fun i hi=>?_).symm
 rw [Nat.testBit_or,wd_bit,Nat.testBit_two_pow,decide_eq_true hi,Bool.true_and]
 unfold prT
 by_cases e:t % 64=i
 ·have et:64*(t / 64)+i=t:=by omega
  rw [et,h]
  simp [e]
 ·rw [decide_eq_false e,Bool.or_false]
  congr 1
  exact decide_eq_decide.2 (by omega)
theorem wd_no {fl:Nat→List Nat} {k t j:Nat} (h:prB fl k t=false∨j≠t / 64):wd (prT fl k (t+1)) j=wd (prT fl k t) j:=by
 refine wd_congr fun i hi=>?_
 unfold prT
 by_cases e:64*j+i=t
 ·rcases h with h | h
  ·rw [e,h,Bool.and_false,Bool.and_false]
  ·omega
 ·congr 1
  exact decide_eq_decide.2 (by omega)
theorem wd_zero {fl:Nat→List Nat} {k j:Nat}:wd (prT fl k 0) j=0:=by
 refine (wd_eq (by omega) fun i hi=>?_).symm
 unfold prT
 simp
theorem prB_bits {o n:Nat} {bt:Nat→Nat→Bool} {fl:Nat→List Nat} (B:Bits o n bt fl) {k i:Nat} (hk:k<o) (hi:i*2 ^ (k+1)<n):bt k i=prB fl k i:=by
 have h0:=Nat.two_pow_pos k
 have e1:i*2 ^ (k+1)=2*i*2 ^ k:=by rw [Nat.pow_succ,Nat.mul_comm (2 ^ k) 2,←Nat.mul_assoc,Nat.mul_comm i 2]
 have:=B k (i*2 ^ (k+1)) hk (by rw [e1];exact Nat.mul_mod_left _ _) hi
 rw [Nat.mul_div_cancel _ (Nat.two_pow_pos _)] at this
 rw [this]
 have e2:bud (i*2 ^ (k+1)) k=i*2 ^ (k+1)+2 ^ k:=by
  unfold bud
  rw [if_pos]
  rw [e1,Nat.mul_div_cancel _ h0]
  omega
 rw [e2]
 rfl
end Go.Proofs.YteemmpkhdllapaaGreatDoor
namespace Go.Proofs.YteemmpkhdllapaaGreatDoor
open Go.V Classical
theorem or_pow {x r:Nat} (hx:x<18446744073709551616) (hr:r<64) :
  IntKind.wrap .u64 (((BitVec.ofInt (IntKind.bits .u64) (x:Int) ||| BitVec.ofInt (IntKind.bits .u64) (((2 ^ r:Nat):Int))).toNat:Int))=((x ||| 2 ^ r:Nat):Int):=by
 have h2:2 ^ r<18446744073709551616:=by
  have:=Nat.pow_lt_pow_right (show 1<2 by omega) hr
  omega
 have t1:(BitVec.ofInt 64 (x:Int) ||| BitVec.ofInt 64 ((2 ^ r:Nat):Int)).toNat=x ||| 2 ^ r:=by
  rw [BitVec.toNat_or,ofInt_nat,ofInt_nat,BitVec.toNat_ofNat,BitVec.toNat_ofNat,Nat.mod_eq_of_lt (by omega),Nat.mod_eq_of_lt (by omega)]
 rw [show (BitVec.ofInt (IntKind.bits .u64) (x:Int) ||| BitVec.ofInt (IntKind.bits .u64) ((2 ^ r:Nat):Int)).toNat=x ||| 2 ^ r from t1]
 exact wrap_nat (Nat.or_lt_two_pow (n:=64) hx h2)
noncomputable def wdF (fl:Nat→List Nat) (k t:Nat):Nat→Value:=fun j=>.int .u64 ((wd (prT fl k t) j:Nat):Int)
section
variable {h h' hx:Heap} {p:Option Addr} {m:Nat} {fl:Nat→List Nat} {k t:Nat}
theorem wdF_set (H:(slR p m m 1 (wdF fl k t)).P h) (ht:t / 64<m) (hb:prB fl k t=true):∃b,p=some ⟨b,0,none⟩∧cellAt h ⟨b,t / 64,none⟩=some (.int .u64 ((wd (prT fl k t) (t / 64):Nat):Int))∧Wr h ⟨b,t / 64,none⟩ ∧
  Stp h (setC h ⟨b,t / 64,none⟩ (.int .u64 ((wd (prT fl k t) (t / 64) ||| 2 ^ (t % 64):Nat):Int))) (slR p m m 1 (wdF fl k t)) (slR p m m 1 (wdF fl k (t+1))):=by
 obtain ⟨b,e,hc⟩:=sl_cell H (i:=t / 64) (by omega)
 obtain ⟨b',e',w,S⟩:=sl_set H (o:=t / 64) (by omega) (.int .u64 ((wd (prT fl k t) (t / 64) ||| 2 ^ (t % 64):Nat):Int))
 rw [e] at e'
 cases e'
 refine ⟨b,e,hc,w,S.conv (fun P=>sl_congr P fun j hj=>?_) fun _ e=>e⟩
 unfold wdF
 by_cases ej:j=t / 64
 ·rw [if_pos ej,ej,wd_or hb]
 ·rw [if_neg ej,wd_no (.inr ej)]
theorem wdF_no (hb:prB fl k t=false) (H:(slR p m m 1 (wdF fl k t)).P h):(slR p m m 1 (wdF fl k (t+1))).P h :=
 sl_congr H fun j hj=>by unfold wdF;rw [wd_no (.inl hb)]
end
end Go.Proofs.YteemmpkhdllapaaGreatDoor
namespace Go.Proofs.YteemmpkhdllapaaGreatDoor
open Go.V Classical
noncomputable abbrev pwR (P n:Nat) (fl:Nat→List Nat) (wp:Nat→Option Addr):Res:=allR n fun k=>slR (wp k) (nw (P / 2 ^ (k+1))) (nw (P / 2 ^ (k+1))) 1 (wdF fl k (P / 2 ^ (k+1)))
abbrev poF (P:Nat) (wp:Nat→Option Addr):Nat→Value:=fun k=>.slice (wp k) (nw (P / 2 ^ (k+1))) (nw (P / 2 ^ (k+1)))
section
variable {w₀:World} {h h0 hx:Heap} {K:Value→Heap→Prop} {Y:RW5} {O P:Nat} {fl:Nat→List Nat} {L:List PBk}
theorem pw_snoc {n:Nat} {wp:Nat→Option Addr} {q:Option Addr} {rs:List Res} (I:Hold h hx (slR q (nw (P / 2 ^ (n+1))) (nw (P / 2 ^ (n+1))) 1 (wdF fl n (P / 2 ^ (n+1)))::pwR P n fl wp::rs)):Hold h hx (pwR P (n+1) fl (fset wp n q)::rs):=by
 have I1:=I.join
 have he:∀i,i<n→slR (wp i) (nw (P / 2 ^ (i+1))) (nw (P / 2 ^ (i+1))) 1 (wdF fl i (P / 2 ^ (i+1)))=slR (fset wp n q i) (nw (P / 2 ^ (i+1))) (nw (P / 2 ^ (i+1))) 1 (wdF fl i (P / 2 ^ (i+1))):=fun i hi=>by rw [fset_ne _ _ (by omega)]
 have hn:slR (fset wp n q n) (nw (P / 2 ^ (n+1))) (nw (P / 2 ^ (n+1))) 1 (wdF fl n (P / 2 ^ (n+1)))=slR q (nw (P / 2 ^ (n+1))) (nw (P / 2 ^ (n+1))) 1 (wdF fl n (P / 2 ^ (n+1))):=by rw [fset_same]
 refine I1.as 0 (R:=andR (slR q (nw (P / 2 ^ (n+1))) (nw (P / 2 ^ (n+1))) 1 (wdF fl n (P / 2 ^ (n+1)))) (pwR P n fl wp)) (R':=pwR P (n+1) fl (fset wp n q)) (fun A=>?_) fun b e=>?_
 ·refine allR_snoc (allR_congr he A.2.1) (by rw [hn];exact A.1) fun b e e'=>?_
  rw [hn] at e
  exact A.2.2 b e (allR_fp he b e')
 ·obtain ⟨i,hi,e⟩:=e
  by_cases ei:i=n
  ·subst ei
   have e:(slR (fset wp i q i) (nw (P / 2 ^ (i+1))) (nw (P / 2 ^ (i+1))) 1 (wdF fl i (P / 2 ^ (i+1)))).fp b:=e
   rw [hn] at e
   exact .inl e
  ·have e:(slR (fset wp n q i) (nw (P / 2 ^ (i+1))) (nw (P / 2 ^ (i+1))) 1 (wdF fl i (P / 2 ^ (i+1)))).fp b:=e
   rw [←he i (by omega)] at e
   exact .inr ⟨i,by omega,e⟩
theorem ref5_Pairs_ok (hO:O≤8) (hP:P≤1024) (f:∀k,k≤O→(fl k).length≤2000) (H:(rfR Y O fl L).P h)
  (hK:∀h' qp qc wp,New h h' (andR (slR qp O qc 1 (poF P wp)) (pwR P O fl wp))→K (.slice qp O qc) h') :
  CallV Tryz.prog w₀ F.croftref5_Pairs [pv Y O P L] h K:=by
 refine croftref5_Pairs.call ?_
 try dsimp only
 have N5:=box4 h (.int .i64 (O:Int)) (.int .i64 (P:Int)) (.slice Y.fp (O+1) Y.fc) (.slice Y.vp L.length Y.vc) T.T_croftref5_Buddy
 generalize Array.push h (.cells #[.int .i64 (O:Int),.int .i64 (P:Int),.slice Y.fp (O+1) Y.fc,.slice Y.vp L.length Y.vc] T.T_croftref5_Buddy)=h5 at N5 ⊢
 obtain ⟨b0,eb0⟩ : ∃b0,b0=h.size:=⟨_,rfl⟩
 rw [←eb0] at N5 ⊢
 intro J2 hJ2 L3 hL3
 have HX:(frR Y O fl).P h:=H.1
 have I0:Hold h h5 [slR none 0 0 1 (poF P fun _=>none),blkR b0 4 (f4 (.int .i64 (O:Int)) (.int .i64 (P:Int)) (.slice Y.fp (O+1) Y.fc) (.slice Y.vp L.length Y.vc))] :=
  ((Hold.nil h).new N5).new ⟨Upd.refl _ _,sl_nil _ _ _,fun b e=>absurd e (sl_nil_fp b)⟩
 have I0:Hold h h5 [pwR P 0 fl fun _=>none,slR none 0 0 1 (poF P fun _=>none),blkR b0 4 (f4 (.int .i64 (O:Int)) (.int .i64 (P:Int)) (.slice Y.fp (O+1) Y.fc) (.slice Y.vp L.length Y.vc))] :=
  I0.new ⟨Upd.refl _ _,allR_zero _,fun b ⟨i,hi,_⟩=>absurd hi (by omega)⟩
 have loop:∀(d k:Nat) (hx:Heap) (qp:Option Addr) (qc:Nat) (wp:Nat→Option Addr),k+d=O→Hold h hx [pwR P k fl wp,slR qp k qc 1 (poF P wp),blkR b0 4 (f4 (.int .i64 (O:Int)) (.int .i64 (P:Int)) (.slice Y.fp (O+1) Y.fc) (.slice Y.vp L.length Y.vc))] →
   L3 [.pointer (some ⟨b0,0,none⟩),.slice qp k qc,.int .i64 (k:Int)] hx:=by
  intro d
  induction d with
  | zero =>
   intro k hx qp qc wp hk I
   have hk:k=O:=by omega
   subst hk
   obtain ⟨k0,k1,k2,k3⟩:=f4_cells (I.at 2)
   refine hL3 _ _ _ _ _ _ ⟨_,k0,iF (decide_eq_false (by omega)) (hJ2 _ _ _ _ (hK hx qp qc wp ?_))⟩
   exact (I.swap.join.sub (rs':=[andR (slR qp k qc 1 (poF P wp)) (pwR P k fl wp)]) (.cons_cons _ (.cons _ .slnil))).toNew
  | succ d ih =>
   intro k hx qp qc wp hk I
   obtain ⟨k0,k1,k2,k3⟩:=f4_cells (I.at 2)
   have ek1:IntKind.wrap .u64 (IntKind.wrap .i64 ((k:Int)+1))=((k+1:Nat):Int):=by rw [show IntKind.wrap .i64 ((k:Int)+1)=((k+1:Nat):Int) by rw [IntKind.wrap_i64];omega,IntKind.wrap_u64];omega
   have hnw:=nw_wrap (n:=P) (k:=k+1) (by omega) (by omega)
   have hsh:=shr_i64 (k:=k+1) (x:=P) (by omega)
   refine hL3 _ _ _ _ _ _ ⟨_,k0,iT (decide_eq_true (by omega)) fun J4 hJ4=>⟨_,k1,?_⟩⟩
   rw [ek1,hnw,hsh,Int.toNat_natCast]
   have hnle:nw (P / 2 ^ (k+1))≤1024:=by have:=Nat.div_le_self P (2 ^ (k+1));unfold nw;omega
   refine ⟨by omega,by omega,by omega,by omega,by omega,fun J6 hJ6 L9 hL9=>?_⟩
   have hn1:=Nat.div_le_self P (2 ^ (k+1))
   have hmul:P / 2 ^ (k+1)*2 ^ (k+1)≤P:=Nat.div_mul_le_self _ _
   have hnwe:nw (P / 2 ^ (k+1))=(P / 2 ^ (k+1)+63) / 64:=rfl
   have N6:=sl_make hx [.int .u64 0] T.T_uint64 (nw (P / 2 ^ (k+1))) (nw (P / 2 ^ (k+1))) (Nat.le_refl _)
   have N6:New hx (hx.push (.cells (List.toArray (zrow [.int .u64 0] (nw (P / 2 ^ (k+1))))) T.T_uint64)) (slR (some ⟨hx.size,0,none⟩) (nw (P / 2 ^ (k+1))) (nw (P / 2 ^ (k+1))) 1 (wdF fl k 0)):=N6.conv (fun A=>sl_congr A fun i hi=>by
    unfold wdF
    rw [wd_zero]
    have:i % 1=0:=by omega
    show [Value.int .u64 0].getD (i % 1) undef=_
    rw [this];rfl) fun _ e=>e
   obtain ⟨bw,ebw⟩ : ∃bw,bw=hx.size:=⟨_,rfl⟩
   rw [←ebw] at N6 ⊢
   generalize hx.push (.cells (List.toArray (zrow [.int .u64 0] (nw (P / 2 ^ (k+1))))) T.T_uint64)=h6 at N6 ⊢
   have inner:∀(dd t:Nat) (hy:Heap),t+dd=P / 2 ^ (k+1)→Hold h hy [slR (some ⟨bw,0,none⟩) (nw (P / 2 ^ (k+1))) (nw (P / 2 ^ (k+1))) 1 (wdF fl k t),pwR P k fl wp,slR qp k qc 1 (poF P wp),blkR b0 4 (f4 (.int .i64 (O:Int)) (.int .i64 (P:Int)) (.slice Y.fp (O+1) Y.fc) (.slice Y.vp L.length Y.vc))] →
     L9 [.pointer (some ⟨b0,0,none⟩),.slice qp k qc,.int .i64 (k:Int),.int .i64 ((P / 2 ^ (k+1):Nat):Int),.slice (some ⟨bw,0,none⟩) (nw (P / 2 ^ (k+1))) (nw (P / 2 ^ (k+1))),.int .i64 (t:Int)] hy:=by
    intro dd
    induction dd with
    | zero =>
     intro t hy ht I
     have ht:t=P / 2 ^ (k+1):=by omega
     subst ht
     obtain ⟨os,q1,q2⟩:=sl_app1 (zs:=[.slice none 0 0]) (v:=.slice (some ⟨bw,0,none⟩) (nw (P / 2 ^ (k+1))) (nw (P / 2 ^ (k+1)))) (b:=24) (e:=T.T_sl_uint64) (T:=T.T_sl_uint64) (I.at 2) rfl rfl (by omega)
     refine hL9 _ _ _ _ _ _ _ _ _ _ _ (iF (decide_eq_false (by omega)) (hJ6 _ _ _ _ _ _ _ _ _ ⟨os,_,q1,fun p' c' h8 res=>hJ4 _ _ _ _ _ _ ?_⟩))
     have I1:=I.step 2 (R:=slR qp k qc 1 (poF P wp)) (R':=slR p' (k+1) c' 1 (poF P (fset wp k (some ⟨bw,0,none⟩)))) ((q2 p' c' h8 res).conv (fun A=>sl_congr A fun j hj=>by
      unfold poF
      by_cases e:j=k
      ·rw [if_pos e,e,fset_same]
      ·rw [if_neg e,fset_ne _ _ e]) fun _ e=>e)
     rw [show IntKind.wrap .i64 ((k:Int)+1)=((k+1:Nat):Int) by rw [IntKind.wrap_i64];omega]
     exact ih (k+1) h8 p' c' _ (by omega) (pw_snoc I1)
    | succ dd ihd =>
     intro t hy ht I
     obtain ⟨k0,k1,k2,k3⟩:=f4_cells (I.at 3)
     have hle:t*2 ^ (k+1)≤P:=Nat.le_trans (Nat.mul_le_mul_right _ (by omega)) hmul
     have em:IntKind.wrap .i64 ((t:Int)*2 ^ min (Int.toNat ((k+1:Nat):Int)) (IntKind.bits .i64))=((t*2 ^ (k+1):Nat):Int):=by
      rw [Int.toNat_natCast,show min (k+1) (IntKind.bits .i64)=k+1 from Nat.min_eq_left (by show k+1≤64;omega)]
      have:(t:Int)*2 ^ (k+1)=((t*2 ^ (k+1):Nat):Int):=by simp
      rw [this,IntKind.wrap_i64]
      omega
     refine hL9 _ _ _ _ _ _ _ _ _ _ _ (iT (decide_eq_true (by omega)) fun J10 hJ10=>⟨_,k0,_,k1,_,_,_,k2,_,_,_,k3,?_⟩)
     rw [ek1,em]
     refine ⟨by omega,ref5_Pair_ok (Y:=Y) (fl:=fl) hO (by omega) (by omega) f ((frR Y O fl).st HX I.u fun _ _=>id) fun h8 u8=>⟨_,rfl,?_⟩⟩
     have I1:=I.quiet u8
     have hpr:(!(decide (t*2 ^ (k+1)∈fl k) == decide (t*2 ^ (k+1)+2 ^ k∈fl k)))=prB fl k t:=rfl
     rw [hpr]
     have nx:∀hz,Hold h hz [slR (some ⟨bw,0,none⟩) (nw (P / 2 ^ (k+1))) (nw (P / 2 ^ (k+1))) 1 (wdF fl k (t+1)),pwR P k fl wp,slR qp k qc 1 (poF P wp),blkR b0 4 (f4 (.int .i64 (O:Int)) (.int .i64 (P:Int)) (.slice Y.fp (O+1) Y.fc) (.slice Y.vp L.length Y.vc))] →
       J10 [.pointer (some ⟨b0,0,none⟩),.slice qp k qc,.int .i64 (k:Int),.int .i64 ((P / 2 ^ (k+1):Nat):Int),.slice (some ⟨bw,0,none⟩) (nw (P / 2 ^ (k+1))) (nw (P / 2 ^ (k+1))),.int .i64 (t:Int)] hz:=fun hz I2=>by
      refine hJ10 _ _ _ _ _ _ _ _ _ _ _ ?_
      rw [show IntKind.wrap .i64 ((t:Int)+1)=((t+1:Nat):Int) by rw [IntKind.wrap_i64];omega]
      exact ihd (t+1) hz (by omega) I2
     cases hb:prB fl k t with
     | false=>exact iF rfl (nx h8 (I1.as 0 (R':=slR (some ⟨bw,0,none⟩) (nw (P / 2 ^ (k+1))) (nw (P / 2 ^ (k+1))) 1 (wdF fl k (t+1))) (fun A=>wdF_no hb A) fun _ e=>e))
     | true =>
      have ed:IntKind.wrap .i64 (Int.tdiv (t:Int) 64)=((t / 64:Nat):Int):=by rw [show Int.tdiv (t:Int) 64=((t / 64:Nat):Int) from rfl,IntKind.wrap_i64];omega
      have em2:IntKind.wrap .u64 (Int.tmod (t:Int) 64)=((t % 64:Nat):Int):=by rw [show Int.tmod (t:Int) 64=((t % 64:Nat):Int) from rfl,IntKind.wrap_u64];omega
      obtain ⟨b',e',hc,w,S⟩:=wdF_set (I1.at 0) (by omega) hb
      cases e'
      have ea:(⟨bw,0,none⟩ : Addr).add (Int.toNat ((t / 64:Nat):Int)*1)=⟨bw,t / 64,none⟩:=by rw [add_mk,Int.toNat_natCast,Nat.mul_one,Nat.zero_add]
      rw [ed,em2,shl_one (Nat.mod_lt _ (by omega))]
      refine iT rfl ⟨by decide,by decide,_,rfl,by omega,by omega,_,by rw [ea];exact hc,by decide,by omega,_,rfl,by omega,by omega,?_⟩
      rw [ea,or_pow (wd_lt _ _) (Nat.mod_lt _ (by omega))]
      exact ⟨w,nx _ (I1.step 0 S)⟩
   exact inner (P / 2 ^ (k+1)) 0 h6 (by omega) (I.new N6)
 exact loop O 0 h5 none 0 _ (by omega) I0
end
end Go.Proofs.YteemmpkhdllapaaGreatDoor
namespace Go.Proofs.YteemmpkhdllapaaGreatDoor
open Go.V Classical
end Go.Proofs.YteemmpkhdllapaaGreatDoor
namespace Go.Proofs.YteemmpkhdllapaaGreatDoor
open Go.V Classical
def roR (p:Option Addr) (n c:Nat) (f:Nat→Value):Res:=⟨fun b=>∃o,p=some ⟨b,o,none⟩,
 fun h=>n≤c∧((p=none∧n=0)∨∃b o,p=some ⟨b,o,none⟩∧b<h.size∧∀i,i<n→cellAt h ⟨b,o+i,none⟩=some (f i)),
 fun {h h' S} H hu hs=>⟨H.1,H.2.imp id fun ⟨b,o,e,hb,hc⟩=>⟨b,o,e,Nat.lt_of_lt_of_le hb hu.1,fun i hi=>cellAt_upd (hc i hi) hu (hs b ⟨o,e⟩)⟩⟩,
 fun {h} H b ⟨o,e⟩=>by
  rcases H.2 with ⟨e',_⟩ | ⟨b',o',e',hb,_⟩
  ·rw [e'] at e;cases e
  ·rw [e'] at e;injection e with e;injection e with e1;omega⟩
theorem ro_of_sl {h:Heap} {p:Option Addr} {n c:Nat} {f:Nat→Value} (H:(slR p n c 1 f).P h):(roR p n c f).P h:=by
 obtain ⟨hnc,⟨e,e0⟩ | ⟨b,g,e,B,hg⟩⟩:=H
 ·exact ⟨hnc,.inl ⟨e,by omega⟩⟩
 ·refine ⟨hnc,.inr ⟨b,0,e,B.lt,fun i hi=>?_⟩⟩
  rw [Nat.zero_add,B.cell (by omega),hg i (by omega)]
theorem ro_sl_fp {h:Heap} {p:Option Addr} {n c:Nat} {f:Nat→Value} (H:(slR p n c 1 f).P h) (b:Nat) (e:(roR p n c f).fp b):(slR p n c 1 f).fp b:=by
 obtain ⟨o,e⟩:=e
 obtain ⟨hnc,⟨e',_⟩ | ⟨b',g,e',_⟩⟩:=H
 ·rw [e'] at e;cases e
 ·show p=some ⟨b,0,none⟩
  rw [e'] at e ⊢
  injection e with e
  injection e with e1 e2
  rw [e1]
theorem ro_cell {h:Heap} {p:Option Addr} {n c:Nat} {f:Nat→Value} (H:(roR p n c f).P h) {i:Nat} (hi:i<n):∃a,p=some a∧cellAt h (a.add (Int.toNat (i:Int)*1))=some (f i):=by
 rcases H.2 with ⟨_,e⟩ | ⟨b,o,e,_,hc⟩
 ·omega
 ·exact ⟨_,e,by rw [add_mk,Int.toNat_natCast,Nat.mul_one];exact hc i hi⟩
structure RW7 where
 Y:RW5
 Z:RW5
 pp:Option Addr
 pc:Nat
 qf:Nat→Option Addr
 cf:Nat→Nat
def ceV (M:RW7) (cl:Nat→Nat) (fr:Nat→List Nat) (ps:List Nat):Nat→Value:=fun i =>
 if i % 3=0 then .int .i64 ((ps.getD (i / 3) 0:Nat):Int) else if i % 3=1 then .int .i64 (cl (ps.getD (i / 3) 0):Int)
 else .slice (M.qf (ps.getD (i / 3) 0)) (fr (ps.getD (i / 3) 0)).length (M.cf (ps.getD (i / 3) 0))
abbrev ceL (M:RW7) (cl:Nat→Nat) (fr:Nat→List Nat) (p:Nat):List Value:=[.int .i64 (p:Int),.int .i64 (cl p:Int),.slice (M.qf p) (fr p).length (M.cf p)]
theorem ceV_at (M:RW7) (cl:Nat→Nat) (fr:Nat→List Nat) (ps:List Nat) (i:Nat):ceV M cl fr ps (i*3)=.int .i64 ((ps.getD i 0:Nat):Int)∧ceV M cl fr ps (i*3+1)=.int .i64 (cl (ps.getD i 0):Int) ∧
  ceV M cl fr ps (i*3+2)=.slice (M.qf (ps.getD i 0)) (fr (ps.getD i 0)).length (M.cf (ps.getD i 0)):=by
 unfold ceV
 rw [show i*3 / 3=i by omega,show (i*3+1) / 3=i by omega,show (i*3+2) / 3=i by omega,if_pos (by omega),if_neg (by omega),if_pos (by omega),if_neg (by omega),if_neg (by omega)]
 exact ⟨rfl,rfl,rfl⟩
abbrev outR7 (M:RW7) (cl:Nat→Nat) (fr:Nat→List Nat) (ps:List Nat):Res:=slR M.pp ps.length M.pc 3 (ceV M cl fr ps)
noncomputable abbrev frR7 (M:RW7) (fr:Nat→List Nat) (ps:List Nat):Res:=allR 1024 fun p=>if p∈ps then roR (M.qf p) (fr p).length (M.cf p) (nV (fr p)) else noR
noncomputable abbrev rf7R (M:RW7) (O:Nat) (fl:Nat→List Nat) (V:List PBk) (cl:Nat→Nat) (fr pl:Nat→List Nat) (ps:List Nat):Res :=
 andR (rfR M.Y O fl V) (andR (frR M.Z 7 pl) (andR (outR7 M cl fr ps) (frR7 M fr ps)))
abbrev d7v (c:Cfg) (M:RW7) (O P n m:Nat):List Value:=d7 c.base c.limit O P M.Y.fp (O+1) M.Y.fc M.Y.vp n M.Y.vc M.pp m M.pc M.Z.fp 8 M.Z.fc
abbrev pv7 (c:Cfg) (M:RW7) (O P n m:Nat):Value:=.agg (d7v c M O P n m).toArray
section
variable {w₀:World} {h h':Heap} {c:Cfg} {M:RW7} {O P n m:Nat} {cl:Nat→Nat} {fr pl:Nat→List Nat} {ps:List Nat} {K:Value→Heap→Prop}
theorem ce_cells (H:(outR7 M cl fr ps).P h) {i:Nat} (hi:i<ps.length):∃b,M.pp=some ⟨b,0,none⟩∧cellAt h ((⟨b,0,none⟩ : Addr).add (Int.toNat (i:Int)*3))=some (.int .i64 ((ps.getD i 0:Nat):Int)) ∧
  cellAt h (((⟨b,0,none⟩ : Addr).add (Int.toNat (i:Int)*3)).add 1)=some (.int .i64 (cl (ps.getD i 0):Int))∧cellAt h (((⟨b,0,none⟩ : Addr).add (Int.toNat (i:Int)*3)).add 2)=some (.slice (M.qf (ps.getD i 0)) (fr (ps.getD i 0)).length (M.cf (ps.getD i 0))):=by
 obtain ⟨e0,e1,e2⟩:=ceV_at M cl fr ps i
 obtain ⟨b,e,q0⟩:=sl_cell H (i:=i*3) (by omega)
 obtain ⟨b1,e',q1⟩:=sl_cell H (i:=i*3+1) (by omega)
 obtain rfl:b1=b:=by rw [e] at e';simpa using e'.symm
 obtain ⟨b2,e',q2⟩:=sl_cell H (i:=i*3+2) (by omega)
 obtain rfl:b2=b1:=by rw [e] at e';simpa using e'.symm
 rw [e0] at q0
 rw [e1] at q1
 rw [e2] at q2
 refine ⟨b2,e,?_,?_,?_⟩
 ·rw [add_mk,Int.toNat_natCast,Nat.zero_add];exact q0
 ·rw [add_mk,add_mk,Int.toNat_natCast,Nat.zero_add];exact q1
 ·rw [add_mk,add_mk,Int.toNat_natCast,Nat.zero_add];exact q2
theorem count7_ok {k:Nat} (hk:k<8) (hK:K (.int .i64 (cnt k:Int)) h):CallV Tryz.prog w₀ F.croftref7_Count [.int .i64 (k:Int)] h K:=by
 refine croftref7_Count.call ⟨by rw [IntKind.wrap_u64];omega,?_⟩
 have e:Int.fdiv (256:Int) (2 ^ min (Int.toNat (IntKind.wrap .u64 (k:Int))) (IntKind.bits .i64))=(cnt k:Int):=by
  rcases k8 hk with rfl | rfl | rfl | rfl | rfl | rfl | rfl | rfl<;>decide
 rw [e];exact hK
theorem width7_ok {k:Nat} (hk:k<8) (hK:K (.int .i64 (wdt k:Int)) h):CallV Tryz.prog w₀ F.croftref7_Width [.int .i64 (k:Int)] h K:=by
 refine croftref7_Width.call ⟨by rw [IntKind.wrap_u64];omega,?_⟩
 have e:IntKind.wrap .i64 ((16:Int)*2 ^ min (Int.toNat (IntKind.wrap .u64 (k:Int))) (IntKind.bits .i64))=(wdt k:Int):=by
  rcases k8 hk with rfl | rfl | rfl | rfl | rfl | rfl | rfl | rfl<;>decide
 rw [e];exact hK
theorem at7_ok (g:c.Good) {x:BU} (hm:x.m.Ok) {q:Nat} (hq:q<4096) (hK:∀h',Upd NoB h h'→K (.int .u64 (adr c q)) h') :
  CallV Tryz.prog w₀ F.croftref7_At [pv7 c M O P n m,.int .i64 (q:Int)] h K:=by
 have N:=box_l h (d7v c M O P n m) T.T_croftref7_Slab
 refine croftref7_At.call ⟨_,cell_l0 N.p,?_⟩
 have hb:=bu_bounds g hm
 have e:IntKind.wrap .u64 (c.base+IntKind.wrap .u64 ((4096:Int)*IntKind.wrap .u64 (q:Int)))=adr c q:=by
  simp only [IntKind.wrap_u64]
  unfold adr
  omega
 rw [e]
 exact hK _ N.u
theorem find7_ok {q:Nat} (hl:ps.length≤100000) (H:(outR7 M cl fr ps).P h) (hn:q∉ps→∀h',Upd NoB h h'→K (.int .i64 (-1)) h')
  (hy:∀i,i<ps.length→ps.getD i 0=q→∀h',Upd NoB h h'→K (.int .i64 (i:Int)) h') :
  CallV Tryz.prog w₀ F.croftref7_Find [pv7 c M O P n ps.length,.int .i64 (q:Int)] h K:=by
 refine croftref7_Find.call fun J2 hJ2 L3 hL3=>?_
 try dsimp only
 have N:=box_l h (d7v c M O P n ps.length) T.T_croftref7_Slab
 generalize Array.push h (.cells (List.toArray (d7v c M O P n ps.length)) T.T_croftref7_Slab)=h1 at N ⊢
 have B:=N.p
 have H1:=(outR7 M cl fr ps).st H N.u fun _ _=>id
 have loop:∀(d i:Nat),i+d=ps.length→(∀j,j<i→ps.getD j 0≠q)→L3 [.int .i64 (q:Int),.pointer (some ⟨h.size,0,none⟩),.int .i64 (i:Int)] h1:=by
  intro d
  induction d with
  | zero =>
   intro i hi hno
   refine hL3 _ _ _ _ ⟨_,_,_,cell_l B 7,iF (decide_eq_false (by omega)) (hJ2 _ (hn (fun hm=>?_) _ N.u))⟩
   obtain ⟨j,hj,e⟩:=List.mem_iff_getElem.1 hm
   exact hno j (by omega) (by rw [List.getD_eq_getElem?_getD,List.getElem?_eq_getElem hj];exact e)
  | succ d ih =>
   intro i hi hno
   obtain ⟨b,e,q0,q1,q2⟩:=ce_cells H1 (i:=i) (by omega)
   refine hL3 _ _ _ _ ⟨_,_,_,cell_l B 7,iT (decide_eq_true (by omega)) ⟨_,_,_,cell_l B 7,_,e,by omega,by omega,_,q0,?_⟩⟩
   by_cases eq:ps.getD i 0=q
   ·exact iT (by rw [eq];simp) (hy i (by omega) eq _ N.u)
   ·refine iF (beq_eq_false_iff_ne.2 fun e=>eq (by omega)) ?_
    rw [show IntKind.wrap .i64 ((i:Int)+1)=((i+1:Nat):Int) by rw [IntKind.wrap_i64];omega]
    exact ih (i+1) (by omega) fun j hj=>by
     by_cases e:j=i
     ·subst e;exact eq
     ·exact hno j (by omega)
 exact loop ps.length 0 (by omega) fun j hj=>by omega
theorem free7_ok {a b:Int} {f:List Nat} {q:Option Addr} {qc j:Nat} (hl:f.length≤100000) (H:(roR q f.length qc (nV f)).P h) (hK:∀h',Upd NoB h h'→K (.bool (decide (j∈f))) h') :
  CallV Tryz.prog w₀ F.croftref7_free [.agg #[.int .i64 a,.int .i64 b,.slice q f.length qc],.int .i64 (j:Int)] h K:=by
 refine croftref7_free.call fun J2 hJ2 L3 hL3=>?_
 try dsimp only
 have N:=box_l h [.int .i64 a,.int .i64 b,.slice q f.length qc] T.T_croftref7_Cells
 generalize Array.push h (.cells (List.toArray [.int .i64 a,.int .i64 b,.slice q f.length qc]) T.T_croftref7_Cells)=h1 at N ⊢
 have B:=N.p
 have H1:=(roR q f.length qc (nV f)).st H N.u fun _ _=>id
 have loop:∀(d i:Nat),i+d=f.length→(∀z,z<i→f.getD z 0≠j)→L3 [.int .i64 (j:Int),.pointer (some ⟨h.size,0,none⟩),.int .i64 (i:Int)] h1:=by
  intro d
  induction d with
  | zero =>
   intro i hi hno
   refine hL3 _ _ _ _ ⟨_,_,_,cell_l B 2,iF (decide_eq_false (by omega)) (hJ2 _ ?_)⟩
   have:=hK h1 N.u
   rwa [decide_eq_false fun hm=>?_] at this
   obtain ⟨z,hz,e⟩:=List.mem_iff_getElem.1 hm
   exact hno z (by omega) (by rw [List.getD_eq_getElem?_getD,List.getElem?_eq_getElem hz];exact e)
  | succ d ih =>
   intro i hi hno
   obtain ⟨a0,e,q0⟩:=ro_cell H1 (i:=i) (by omega)
   refine hL3 _ _ _ _ ⟨_,_,_,cell_l B 2,iT (decide_eq_true (by omega)) ⟨_,_,_,cell_l B 2,_,e,by omega,by omega,((f.getD i 0:Nat):Int),q0,?_⟩⟩
   by_cases eq:f.getD i 0=j
   ·refine iT (by rw [eq];simp) ?_
    have:=hK h1 N.u
    rwa [decide_eq_true (by rw [←eq,List.getD_eq_getElem?_getD,List.getElem?_eq_getElem (by omega)];exact List.getElem_mem _)] at this
   ·refine iF (beq_eq_false_iff_ne.2 fun e=>eq (by omega)) ?_
    rw [show IntKind.wrap .i64 ((i:Int)+1)=((i+1:Nat):Int) by rw [IntKind.wrap_i64];omega]
    exact ih (i+1) (by omega) fun z hz=>by
     by_cases e:z=i
     ·subst e;exact eq
     ·exact hno z (by omega)
 exact loop f.length 0 (by omega) fun j hj=>by omega
end
end Go.Proofs.YteemmpkhdllapaaGreatDoor
namespace Go.Proofs.YteemmpkhdllapaaGreatDoor
open Go.V Classical
def RW7.set (M:RW7) (p:Nat) (q:Option Addr) (cq:Nat) (pp:Option Addr) (pc:Nat):RW7:={ M with qf:=fset M.qf p q,cf:=fset M.cf p cq,pp:=pp,pc:=pc }
def putPs (ps:List Nat) (x:Nat) (gone:Bool):List Nat:=if gone then ps.filter (·≠x) else if x∈ps then ps else ps++[x]
theorem ceV_snoc (M:RW7) (cl:Nat→Nat) (fr:Nat→List Nat) (l:List Nat) (p:Nat) {i:Nat} (hi:i<(l.length+1)*3) :
  (if i<l.length*3 then ceV M cl fr l i else (ceL M cl fr p).getD (i-l.length*3) undef)=ceV M cl fr (l++[p]) i:=by
 by_cases h:i<l.length*3
 ·rw [if_pos h]
  unfold ceV
  have e:(l++[p]).getD (i / 3) 0=l.getD (i / 3) 0:=by
   rw [List.getD_eq_getElem?_getD,List.getElem?_append_left (by omega),List.getD_eq_getElem?_getD]
  rw [e]
 ·rw [if_neg h]
  have hd:i / 3=l.length:=by omega
  unfold ceV
  have e:(l++[p]).getD (i / 3) 0=p:=by
   rw [hd,List.getD_eq_getElem?_getD,List.getElem?_append_right (Nat.le_refl _),Nat.sub_self];rfl
  rw [e]
  have:i-l.length*3=i % 3:=by omega
  rw [this]
  have:i % 3=0∨i % 3=1∨i % 3=2:=by omega
  rcases this with e | e | e<;>rw [e]<;>rfl
section
variable {w₀:World} {h h' h0 hx:Heap} {c:Cfg} {M:RW7} {O P n m:Nat} {cl:Nat→Nat} {fr pl:Nat→List Nat} {ps:List Nat} {K:Value→Heap→Prop} {E:Res} {rs:List Res}
theorem ce_app {l:List Nat} {p:Nat} {y:Option Addr} {cap:Nat} {vs:List Value} (I:Hold h0 hx (slR y l.length cap 3 (ceV M cl fr l)::rs)) (hv:vs=ceL M cl fr p) (hl:l.length≤100000) :
  ∃os,AppPre (hx.push (.cells vs.toArray T.T_croftref7_Cells)) y l.length cap (some ⟨hx.size,0,none⟩) 1 3 40 os vs ∧
   ∀(p':Option Addr) (c':Nat) (h':Heap),AppRes (hx.push (.cells vs.toArray T.T_croftref7_Cells)) y l.length cap 1 [.int .i64 0,.int .i64 0,.slice none 0 0] T.T_croftref7_Cells os vs p' c' h' →
    Hold h0 h' (slR p' (l++[p]).length c' 3 (ceV M cl fr (l++[p]))::rs):=by
 subst hv
 have N:=box_l hx (ceL M cl fr p) T.T_croftref7_Cells
 have R:Go.V.rowAt (hx.push (.cells (ceL M cl fr p).toArray T.T_croftref7_Cells)) (some ⟨hx.size,0,none⟩) (ceL M cl fr p):=by
  intro j v hj
  show cellAt _ ((⟨hx.size,0,none⟩ : Addr).add j)=some v
  exact cell_l N.p j hj
 have I1:=I.quiet N.u
 obtain ⟨os,q1,q2⟩:=sl_app (zs:=[.int .i64 0,.int .i64 0,.slice none 0 0]) (xs:=ceL M cl fr p) (b:=40) (e:=T.T_croftref7_Cells) (m:=1) (I1.at 0) (by decide) rfl R (fun v hv=>by
  have hv:v=.int .i64 (p:Int)∨v=.int .i64 (cl p:Int)∨v=.slice (M.qf p) (fr p).length (M.cf p):=by simpa using hv
  rcases hv with rfl | rfl | rfl<;>rfl) (by omega)
 refine ⟨os,q1,fun p' c' h' res=>?_⟩
 have el:(l++[p]).length=l.length+1:=by simp
 have I2:=I1.step 0 (R:=slR y l.length cap 3 (ceV M cl fr l)) (R':=slR p' (l++[p]).length c' 3 (ceV M cl fr (l++[p]))) ((q2 p' c' h' res).conv (fun A=>by rw [el];exact sl_congr A fun i hi=>ceV_snoc M cl fr l p hi) fun _ e=>e)
 exact I2
theorem put7_ok {x k:Nat} {f:List Nat} {q:Option Addr} {cq:Nat} {gone:Bool} (hl:ps.length≤2000) (H:(outR7 M cl fr ps).P h)
  (hK:∀h' pp pc,New h h' (outR7 (M.set x q cq pp pc) (fset cl x k) (fset fr x f) (putPs ps x gone))→K (pv7 c (M.set x q cq pp pc) O P n (putPs ps x gone).length) h') :
  CallV Tryz.prog w₀ F.croftref7_put [pv7 c M O P n ps.length,.agg #[.int .i64 (x:Int),.int .i64 (k:Int),.slice q f.length cq],.bool gone] h K:=by
 refine croftref7_put.call fun J4 hJ4=>?_
 try dsimp only
 have N0:=box_l h (d7v c M O P n ps.length) T.T_croftref7_Slab
 generalize Array.push h (.cells (List.toArray (d7v c M O P n ps.length)) T.T_croftref7_Slab)=h1 at N0 ⊢
 have N1:=box_l h1 [.int .i64 (x:Int),.int .i64 (k:Int),.slice q f.length cq] T.T_croftref7_Cells
 generalize Array.push h1 (.cells (List.toArray [.int .i64 (x:Int),.int .i64 (k:Int),.slice q f.length cq]) T.T_croftref7_Cells)=h2 at N1 ⊢
 have N2:=box_l h2 z7 T.T_croftref7_Slab
 generalize Array.push h2 (.cells (List.toArray z7) T.T_croftref7_Slab)=h3 at N2 ⊢
 obtain ⟨b0,e0⟩ : ∃b,b=h.size:=⟨_,rfl⟩
 obtain ⟨b1,e1⟩ : ∃b,b=h1.size:=⟨_,rfl⟩
 obtain ⟨b2,e2⟩ : ∃b,b=h2.size:=⟨_,rfl⟩
 rw [←e0] at N0 ⊢
 rw [←e1] at N1 ⊢
 rw [←e2] at N2 ⊢
 have I0:=(((Hold.nil h).new N0).new N1).new N2
 let M':RW7:=M.set x q cq none 0
 let L:Nat→List Nat:=fun i=>if gone then (ps.take i).filter (·≠x) else ps.take i
 let B3:List Res:=[lR b2 z7,lR b1 [.int .i64 (x:Int),.int .i64 (k:Int),.slice q f.length cq],lR b0 (d7v c M O P n ps.length)]
 have Ll:∀i,(L i).length≤ps.length:=fun i=>by
  show (if gone then (ps.take i).filter (·≠x) else ps.take i).length≤_
  split
  ·exact Nat.le_trans (List.length_filter_le _ _) (by rw [List.length_take];omega)
  ·rw [List.length_take];omega
 have last:∀(hx:Heap) (y:Option Addr) (cap:Nat),Hold h hx (slR y (putPs ps x gone).length cap 3 (ceV M' (fset cl x k) (fset fr x f) (putPs ps x gone))::B3)→∀(J5:List Value→Heap→Prop),(∀(x3 x6:Addr) (x7p:Option Addr) (x7n x7c:Nat) (hJ5:Heap),(Wr hJ5 (x3.add 7)∧(L_uiiiissss (setC hJ5 (x3.add 7) (.slice x7p x7n x7c)) x3 fun n52=>(WrN (setC hJ5 (x3.add 7) (.slice x7p x7n x7c)) x6 9∧(L_uiiiissss (setCs (setC hJ5 (x3.add 7) (.slice x7p x7n x7c)) x6 0 n52) x6 fun z0=>K (.agg z0.toArray) (setCs (setC hJ5 (x3.add 7) (.slice x7p x7n x7c)) x6 0 n52)))))→J5 [.pointer (some x3),.pointer (some x6),.slice x7p x7n x7c] hJ5) →
   J5 [.pointer (some ⟨b0,0,none⟩),.pointer (some ⟨b2,0,none⟩),.slice y (putPs ps x gone).length cap] hx:=by
  intro hx y cap I J5 hJ5
  refine hJ5 _ _ _ _ _ _ ⟨wr_l (I.at 3) 7,?_⟩
  have I2:=I.step 3 (set_l (I.at 3) 7 (.slice y (putPs ps x gone).length cap))
  generalize setC hx ((⟨b0,0,none⟩ : Addr).add 7) (.slice y (putPs ps x gone).length cap)=h4 at I2 ⊢
  have I2:Hold h h4 [slR y (putPs ps x gone).length cap 3 (ceV M' (fset cl x k) (fset fr x f) (putPs ps x gone)),lR b2 z7,lR b1 [.int .i64 (x:Int),.int .i64 (k:Int),.slice q f.length cq],lR b0 (d7v c (M.set x q cq y cap) O P n (putPs ps x gone).length)]:=I2
  have B:=I2.at 3
  refine ⟨_,cell_l0 B,_,cell_l B 1,_,cell_l B 2,_,cell_l B 3,_,cell_l B 4,_,_,_,cell_l B 5,_,_,_,cell_l B 6,_,_,_,cell_l B 7,_,_,_,cell_l B 8,?_⟩
  obtain ⟨w5,S5⟩:=assign_l (I2.at 1) (d7v c (M.set x q cq y cap) O P n (putPs ps x gone).length)
  have I3:=I2.step 1 S5
  refine ⟨w5,?_⟩
  have B:=I3.at 1
  refine ⟨_,cell_l0 B,_,cell_l B 1,_,cell_l B 2,_,cell_l B 3,_,cell_l B 4,_,_,_,cell_l B 5,_,_,_,cell_l B 6,_,_,_,cell_l B 7,_,_,_,cell_l B 8,hK _ y cap ?_⟩
  exact (I3.sub (rs':=[slR y (putPs ps x gone).length cap 3 (ceV M' (fset cl x k) (fset fr x f) (putPs ps x gone))]) (.cons_cons _ (.cons _ (.cons _ (.cons _ .slnil))))).toNew
 intro L11 hL11
 have key:∀(d i:Nat) (y:Option Addr) (cap:Nat) (hx:Heap),i+d=ps.length→Hold h hx (slR y (L i).length cap 3 (ceV M' (fset cl x k) (fset fr x f) (L i))::B3) →
   L11 [.bool gone,.pointer (some ⟨b0,0,none⟩),.pointer (some ⟨b1,0,none⟩),.pointer (some ⟨b2,0,none⟩),.slice y (L i).length cap,.bool (!gone && decide (x∈ps.take i)),.int .i64 (i:Int)] hx:=by
  intro d
  induction d with
  | zero =>
   intro i y cap hx hi I
   have hi:i=ps.length:=by omega
   subst hi
   have et:ps.take ps.length=ps:=List.take_length
   refine hL11 _ _ _ _ _ _ _ _ _ _ ⟨_,_,_,cell_l (I.at 3) 7,iF (decide_eq_false (by omega)) (hJ4 _ _ _ _ _ _ _ _ _ fun J5 hJ5 J8 hJ8=>?_)⟩
   cases gone with
   | true =>
    refine qF' rfl (hJ8 _ _ (iF rfl ?_))
    have eL:L ps.length=putPs ps x true:=by show (if true then (ps.take ps.length).filter (·≠x) else ps.take ps.length)=_;rw [et];rfl
    rw [eL] at I ⊢
    exact last hx y cap I J5 hJ5
   | false =>
    have eL:L ps.length=ps:=et
    refine qT rfl ?_
    rw [et]
    by_cases hm:x∈ps
    ·have ep:putPs ps x false=ps:=by unfold putPs;rw [if_neg (by decide),if_pos hm]
     refine hJ8 _ _ (iF (by simp [hm]) ?_)
     rw [eL] at I ⊢
     have:=last hx y cap (by rw [ep];exact I) J5 hJ5
     rw [ep] at this
     exact this
    ·have ep:putPs ps x false=ps++[x]:=by unfold putPs;rw [if_neg (by decide),if_neg hm]
     refine hJ8 _ _ (iT (by simp [hm]) ?_)
     rw [eL] at I ⊢
     have B:=I.at 2
     refine ⟨_,cell_l0 B,_,cell_l B 1,_,_,_,cell_l B 2,?_⟩
     obtain ⟨os,q1,q2⟩:=ce_app (M:=M') (cl:=fset cl x k) (fr:=fset fr x f) (p:=x) (vs:=[.int .i64 (x:Int),.int .i64 (k:Int),.slice q f.length cq]) I (by
      show _=[Value.int .i64 (x:Int),.int .i64 ((fset cl x k x:Nat):Int),.slice (fset M.qf x q x) (fset fr x f x).length (fset M.cf x cq x)]
      rw [fset_same,fset_same,fset_same,fset_same]) (by omega)
     refine ⟨os,_,q1,fun p' c' h9 res=>?_⟩
     have I2:=q2 p' c' h9 res
     have:=last h9 p' c' (by rw [ep];exact I2) J5 hJ5
     rw [ep] at this
     simpa using this
  | succ d ih =>
   intro i y cap hx hi I
   have hi':i<ps.length:=by omega
   have Hx:=(outR7 M cl fr ps).st H I.u fun _ _=>id
   obtain ⟨b,eb,q0,q1,q2⟩:=ce_cells Hx hi'
   have ew:IntKind.wrap .i64 ((i:Int)+1)=((i+1:Nat):Int):=by rw [IntKind.wrap_i64];omega
   have et:ps.take (i+1)=ps.take i++[ps.getD i 0]:=take_ge ps i 0 hi'
   refine hL11 _ _ _ _ _ _ _ _ _ _ ⟨_,_,_,cell_l (I.at 3) 7,iT (decide_eq_true (by omega)) fun J12 hJ12=>⟨_,_,_,cell_l (I.at 3) 7,_,eb,by omega,by omega,_,q0,_,cell_l0 (I.at 2),?_⟩⟩
   have go:∀(y':Option Addr) (cap':Nat) (h9:Heap) (l':List Nat) (n':Nat) (b':Bool),l'=L (i+1)→n'=l'.length→b'=(!gone && decide (x∈ps.take (i+1)))→Hold h h9 (slR y' l'.length cap' 3 (ceV M' (fset cl x k) (fset fr x f) l')::B3) →
     J12 [.bool gone,.pointer (some ⟨b0,0,none⟩),.pointer (some ⟨b1,0,none⟩),.pointer (some ⟨b2,0,none⟩),.slice y' n' cap',.bool b',.int .i64 (i:Int)] h9:=by
    intro y' cap' h9 l' n' b' el en eb I'
    subst el en eb
    refine hJ12 _ _ _ _ _ _ _ _ _ _ ?_
    rw [ew]
    exact ih (i+1) y' cap' h9 (by omega) I'
   by_cases hne:ps.getD i 0=x
   ·refine iF (by rw [hne];simp) ?_
    cases gone with
    | true =>
     refine iF rfl (go y cap hx (L i) _ _ ?_ rfl rfl I)
     show (ps.take i).filter (·≠x)=(ps.take (i+1)).filter (·≠x)
     rw [et,List.filter_append,hne]
     simp
    | false =>
     refine iT rfl ?_
     have B:=I.at 2
     refine ⟨_,cell_l0 B,_,cell_l B 1,_,_,_,cell_l B 2,?_⟩
     obtain ⟨os,r1,r2⟩:=ce_app (M:=M') (cl:=fset cl x k) (fr:=fset fr x f) (p:=x) (vs:=[.int .i64 (x:Int),.int .i64 (k:Int),.slice q f.length cq]) I (by
      show _=[Value.int .i64 (x:Int),.int .i64 ((fset cl x k x:Nat):Int),.slice (fset M.qf x q x) (fset fr x f x).length (fset M.cf x cq x)]
      rw [fset_same,fset_same,fset_same,fset_same]) (by have:=Ll i;omega)
     refine ⟨os,_,r1,fun p' c' h9 res=>?_⟩
     have I2:=r2 p' c' h9 res
     exact go p' c' h9 (L i++[x]) _ true (by show ps.take i++[x]=ps.take (i+1);rw [et,hne]) (by simp) (by rw [et,hne];simp) I2
   ·refine iT (bne_iff_ne.2 fun e=>hne (by omega)) ⟨_,_,_,cell_l (I.at 3) 7,_,eb,by omega,by omega,_,q0,_,q1,_,_,_,q2,?_⟩
    obtain ⟨os,r1,r2⟩:=ce_app (M:=M') (cl:=fset cl x k) (fr:=fset fr x f) (p:=ps.getD i 0) (vs:=[.int .i64 ((ps.getD i 0:Nat):Int),.int .i64 (cl (ps.getD i 0):Int),.slice (M.qf (ps.getD i 0)) (fr (ps.getD i 0)).length (M.cf (ps.getD i 0))]) I (by
     show _=[Value.int .i64 ((ps.getD i 0:Nat):Int),.int .i64 ((fset cl x k (ps.getD i 0):Nat):Int),.slice (fset M.qf x q (ps.getD i 0)) (fset fr x f (ps.getD i 0)).length (fset M.cf x cq (ps.getD i 0))]
     rw [fset_ne _ _ hne,fset_ne _ _ hne,fset_ne _ _ hne,fset_ne _ _ hne]) (by have:=Ll i;omega)
    refine ⟨os,_,r1,fun p' c' h9 res=>?_⟩
    have I2:=r2 p' c' h9 res
    refine go p' c' h9 (L i++[ps.getD i 0]) _ _ ?_ (by simp) ?_ I2
    ·show (if gone then (ps.take i).filter (·≠x) else ps.take i)++[ps.getD i 0]=if gone then (ps.take (i+1)).filter (·≠x) else ps.take (i+1)
     rw [et]
     split
     ·rw [List.filter_append,List.filter_cons_of_pos (by simpa using hne),List.filter_nil]
     ·rfl
    ·rw [et]
     congr 1
     refine decide_eq_decide.2 ?_
     rw [List.mem_append,List.mem_singleton]
     exact ⟨.inl,fun h=>h.elim id fun e=>absurd e.symm hne⟩
 have I1:Hold h h3 (slR none (L 0).length 0 3 (ceV M' (fset cl x k) (fset fr x f) (L 0))::B3):=by
  have:L 0=[]:=by show (if gone then (ps.take 0).filter (·≠x) else ps.take 0)=[];simp
  rw [this]
  exact I0.new ⟨Upd.refl _ _,sl_nil _ _ _,fun b e=>absurd e (sl_nil_fp b)⟩
 have fin:=key ps.length 0 none 0 h3 (by omega) I1
 have e0:L 0=[]:=by show (if gone then (ps.take 0).filter (·≠x) else ps.take 0)=[];simp
 rw [e0] at fin
 simpa using fin
end
end Go.Proofs.YteemmpkhdllapaaGreatDoor
namespace Go.Proofs.YteemmpkhdllapaaGreatDoor
open Go.V Classical
section
variable {w₀:World} {h h' h0 hx:Heap} {c:Cfg} {M:RW7} {O P n m:Nat} {fl pl:Nat→List Nat} {K:Value→Heap→Prop} {E:Res} {rs:List Res} {Y:RW5}
theorem own_part {k:Nat} {l':List Nat} {p' f':Option Addr} {c' fc':Nat} (I:Go.V.Own h hx E (slR f' (O+1) fc' 1 (fun i=>if i=k then .slice p' l'.length c' else fOut Y fl i)::slR p' l'.length c' 1 (nV l')::frR Y O fl::rs)) :
  Go.V.Own h hx E (frR { Y with fp:=f',fc:=fc',lp:=fset Y.lp k p',lc:=fset Y.lc k c' } O (fset fl k l')::rs):=by
 have I1:=I.as 0 (R:=slR f' (O+1) fc' 1 (fun i=>if i=k then .slice p' l'.length c' else fOut Y fl i)) (R':=slR f' (O+1) fc' 1 (fOut { Y with fp:=f',fc:=fc',lp:=fset Y.lp k p',lc:=fset Y.lc k c' } (fset fl k l'))) (fun P=>sl_congr P fun i hi=>by
  by_cases ei:i=k
  ·subst ei
   rw [if_pos rfl]
   show _=Value.slice (fset Y.lp i p' i) (fset fl i l' i).length (fset Y.lc i c' i)
   rw [fset_same,fset_same,fset_same]
  ·rw [if_neg ei]
   show _=Value.slice (fset Y.lp k p' i) (fset fl k l' i).length (fset Y.lc k c' i)
   rw [fset_ne _ _ ei,fset_ne _ _ ei,fset_ne _ _ ei]) fun _ e=>e
 have I1:Go.V.Own h hx E (slR f' (O+1) fc' 1 (fOut { Y with fp:=f',fc:=fc',lp:=fset Y.lp k p',lc:=fset Y.lc k c' } (fset fl k l'))::slR p' l'.length c' 1 (nV l')::frR Y O fl::rs):=I1
 have I2:=(I1.perm (rs':=frR Y O fl::slR p' l'.length c' 1 (nV l')::_::rs) ((List.Perm.swap _ _ _).trans ((List.Perm.cons _ (.swap _ _ _)).trans (.swap _ _ _)))).split.drop
 have I3:=(I2.perm (rs':=slR p' l'.length c' 1 (nV l')::inR Y O fl::_::rs) (.swap _ _ _)).join
 have I4:=I3.as 0 (R:=andR (slR p' l'.length c' 1 (nV l')) (inR Y O fl)) (R':=inR { Y with fp:=f',fc:=fc',lp:=fset Y.lp k p',lc:=fset Y.lc k c' } O (fset fl k l')) (fun P=>(in_put P).1) (fun b e=>(in_put (f':=f') (fc':=fc') (k:=k) (I3.at 0)).2 b e)
 exact (I4.perm (rs':=slR f' (O+1) fc' 1 (fOut { Y with fp:=f',fc:=fc',lp:=fset Y.lp k p',lc:=fset Y.lc k c' } (fset fl k l'))::inR { Y with fp:=f',fc:=fc',lp:=fset Y.lp k p',lc:=fset Y.lc k c' } O (fset fl k l')::rs) (.swap _ _ _)).join
def RW7.part (M:RW7) (Z':RW5):RW7:={ M with Z:=Z' }
def partL (l:List Nat) (p:Nat) (ahead:Bool):List Nat:=if ahead then p::l.filter (·≠p) else l.filter (·≠p)
theorem partial7_ok {k p:Nat} {ahead:Bool} (hk:k<8) (hl:∀j,j<8→(pl j).length≤2000) (H:(frR M.Z 7 pl).P h)
  (hK:∀h' Z',Stp h h' (frR M.Z 7 pl) (frR Z' 7 (fset pl k (partL (pl k) p ahead)))→K (pv7 c (M.part Z') O P n m) h') :
  CallV Tryz.prog w₀ F.croftref7_partial [pv7 c M O P n m,.int .i64 (k:Int),.int .i64 (p:Int),.bool ahead] h K:=by
 refine croftref7_partial.call fun J3 hJ3=>?_
 try dsimp only
 have N0:=box_l h (d7v c M O P n m) T.T_croftref7_Slab
 generalize Array.push h (.cells (List.toArray (d7v c M O P n m)) T.T_croftref7_Slab)=h1 at N0 ⊢
 have N1:=box_l h1 z7 T.T_croftref7_Slab
 generalize Array.push h1 (.cells (List.toArray z7) T.T_croftref7_Slab)=h2 at N1 ⊢
 obtain ⟨b0,e0⟩ : ∃b,b=h.size:=⟨_,rfl⟩
 obtain ⟨b1,e1⟩ : ∃b,b=h1.size:=⟨_,rfl⟩
 rw [←e0] at N0 ⊢
 rw [←e1] at N1 ⊢
 have I0:=((Go.V.Own.of H).new N0).new N1
 intro L6 hL6
 have ew8:∀i:Nat,i<9→IntKind.wrap .i64 ((i:Int)+1)=((i+1:Nat):Int):=fun i hi=>by rw [IntKind.wrap_i64];omega
 have key2:∀(np:Option Addr) (nc:Nat) (nl:List Nat),nl=partL (pl k) p ahead→∀(d i:Nat) (y:Option Addr) (cap:Nat) (hx:Heap),i+d=8→k<i →
   Go.V.Own h hx (frR M.Z 7 pl) [slR y i cap 1 (fun j=>if j=k then .slice np nl.length nc else fOut M.Z pl j),slR np nl.length nc 1 (nV nl),frR M.Z 7 pl,lR b1 z7,lR b0 (d7v c M O P n m)] →
   L6 [.int .i64 (k:Int),.int .i64 (p:Int),.bool ahead,.pointer (some ⟨b0,0,none⟩),.pointer (some ⟨b1,0,none⟩),.slice y i cap,.int .i64 (i:Int)] hx:=by
  intro np nc nl enl d
  induction d with
  | zero =>
   intro i y cap hx hi hki I
   have hi:i=8:=by omega
   subst hi
   refine hL6 _ _ _ _ _ _ _ _ _ _ (iF rfl (hJ3 _ _ _ _ _ _ ⟨wr_l (I.at 4) 8,?_⟩))
   have I2:=I.step 4 (set_l (I.at 4) 8 (.slice y 8 cap))
   generalize setC hx ((⟨b0,0,none⟩ : Addr).add 8) (.slice y 8 cap)=h4 at I2 ⊢
   let Z':RW5:={ M.Z with fp:=y,fc:=cap,lp:=fset M.Z.lp k np,lc:=fset M.Z.lc k nc }
   have I2:Go.V.Own h h4 (frR M.Z 7 pl) [slR y 8 cap 1 (fun j=>if j=k then .slice np nl.length nc else fOut M.Z pl j),slR np nl.length nc 1 (nV nl),frR M.Z 7 pl,lR b1 z7,lR b0 (d7v c (M.part Z') O P n m)]:=I2
   have B:=I2.at 4
   refine ⟨_,cell_l0 B,_,cell_l B 1,_,cell_l B 2,_,cell_l B 3,_,cell_l B 4,_,_,_,cell_l B 5,_,_,_,cell_l B 6,_,_,_,cell_l B 7,_,_,_,cell_l B 8,?_⟩
   obtain ⟨w5,S5⟩:=assign_l (I2.at 3) (d7v c (M.part Z') O P n m)
   have I3:=I2.step 3 S5
   refine ⟨w5,?_⟩
   have B:=I3.at 3
   refine ⟨_,cell_l0 B,_,cell_l B 1,_,cell_l B 2,_,cell_l B 3,_,cell_l B 4,_,_,_,cell_l B 5,_,_,_,cell_l B 6,_,_,_,cell_l B 7,_,_,_,cell_l B 8,hK _ Z' ?_⟩
   have:=own_part (O:=7) (k:=k) (l':=nl) (Y:=M.Z) (fl:=pl) (p':=np) (c':=nc) (f':=y) (fc':=cap) (I3.perm (List.Perm.refl _))
   rw [enl] at this
   exact this.stp
  | succ d ih =>
   intro i y cap hx hi hki I
   refine hL6 _ _ _ _ _ _ _ _ _ _ (iT (decide_eq_true (by omega)) fun J7 hJ7=>iT (bne_iff_ne.2 (by omega)) ?_)
   obtain ⟨b,eb,q⟩:=fr_cell (I.at 2) (k:=i) (by omega)
   have q':cellAt hx ((⟨b,0,none⟩ : Addr).add (Int.toNat (i:Int)*1))=some (.slice (M.Z.lp i) (pl i).length (M.Z.lc i)):=by rw [at1];exact q
   refine ⟨_,_,_,cell_l (I.at 4) 8,_,eb,by omega,by omega,_,_,_,q',?_⟩
   obtain ⟨os,r1,r2⟩:=sl_app1 (zs:=[.slice none 0 0]) (v:=.slice (M.Z.lp i) (pl i).length (M.Z.lc i)) (b:=24) (e:=T.T_sl_int) (T:=T.T_sl_int) (I.at 0) rfl rfl (by omega)
   refine ⟨os,_,r1,fun p' c' h9 res=>hJ7 _ _ _ _ _ _ _ _ _ _ ?_⟩
   have I2:=I.step 0 (R:=slR y i cap 1 (fun j=>if j=k then .slice np nl.length nc else fOut M.Z pl j)) (R':=slR p' (i+1) c' 1 (fun j=>if j=k then .slice np nl.length nc else fOut M.Z pl j)) ((r2 p' c' h9 res).conv (fun A=>sl_congr A fun j hj=>by
    by_cases e:j=i
    ·subst e;rw [if_pos rfl,if_neg (by omega)]
    ·rw [if_neg e]) fun _ e=>e)
   rw [ew8 i (by omega)]
   exact ih (i+1) p' c' h9 (by omega) (by omega) I2
 have key1:∀(d i:Nat) (y:Option Addr) (cap:Nat) (hx:Heap),i+d=k→Go.V.Own h hx (frR M.Z 7 pl) [slR y i cap 1 (fOut M.Z pl),lR b1 z7,lR b0 (d7v c M O P n m),frR M.Z 7 pl] →
   L6 [.int .i64 (k:Int),.int .i64 (p:Int),.bool ahead,.pointer (some ⟨b0,0,none⟩),.pointer (some ⟨b1,0,none⟩),.slice y i cap,.int .i64 (i:Int)] hx:=by
  intro d
  induction d with
  | succ d ih =>
   intro i y cap hx hi I
   refine hL6 _ _ _ _ _ _ _ _ _ _ (iT (decide_eq_true (by omega)) fun J7 hJ7=>iT (bne_iff_ne.2 (by omega)) ?_)
   obtain ⟨b,eb,q⟩:=fr_cell (I.at 3) (k:=i) (by omega)
   have q':cellAt hx ((⟨b,0,none⟩ : Addr).add (Int.toNat (i:Int)*1))=some (.slice (M.Z.lp i) (pl i).length (M.Z.lc i)):=by rw [at1];exact q
   refine ⟨_,_,_,cell_l (I.at 2) 8,_,eb,by omega,by omega,_,_,_,q',?_⟩
   obtain ⟨os,r1,r2⟩:=sl_app1 (zs:=[.slice none 0 0]) (v:=.slice (M.Z.lp i) (pl i).length (M.Z.lc i)) (b:=24) (e:=T.T_sl_int) (T:=T.T_sl_int) (I.at 0) rfl rfl (by omega)
   refine ⟨os,_,r1,fun p' c' h9 res=>hJ7 _ _ _ _ _ _ _ _ _ _ ?_⟩
   have I2:=I.step 0 (R:=slR y i cap 1 (fOut M.Z pl)) (R':=slR p' (i+1) c' 1 (fOut M.Z pl)) ((r2 p' c' h9 res).conv (fun A=>sl_congr A fun j hj=>by
    by_cases e:j=i
    ·subst e;rw [if_pos rfl]
    ·rw [if_neg e]) fun _ e=>e)
   rw [ew8 i (by omega)]
   exact ih (i+1) p' c' h9 (by omega) I2
  | zero =>
   intro i y cap hx hi I
   have hi:i=k:=by omega
   subst hi
   refine hL6 _ _ _ _ _ _ _ _ _ _ (iT (decide_eq_true (by omega)) fun J7 hJ7=>iF (by simp) fun J10 hJ10=>?_)
   have go:∀(l0:List Nat) (ap:Option Addr) (ac:Nat) (hz:Heap),l0=(if ahead then [p] else [])→Go.V.Own h hz (frR M.Z 7 pl) [slR ap l0.length ac 1 (nV l0),slR y i cap 1 (fOut M.Z pl),frR M.Z 7 pl,lR b1 z7,lR b0 (d7v c M O P n m)] →
     J10 [.int .i64 (i:Int),.int .i64 (p:Int),.bool ahead,.pointer (some ⟨b0,0,none⟩),.pointer (some ⟨b1,0,none⟩),.slice y i cap,.int .i64 (i:Int),.slice ap l0.length ac] hz:=by
    intro l0 ap ac hz el0 I
    refine hJ10 _ _ _ _ _ _ _ _ _ _ _ _ _ fun J11 hJ11 L14 hL14=>?_
    have inner:∀(d z:Nat) (np:Option Addr) (nc:Nat) (hw:Heap),z+d=(pl i).length→Go.V.Own h hw (frR M.Z 7 pl) [slR np (l0++((pl i).take z).filter (·≠p)).length nc 1 (nV (l0++((pl i).take z).filter (·≠p))),slR y i cap 1 (fOut M.Z pl),frR M.Z 7 pl,lR b1 z7,lR b0 (d7v c M O P n m)] →
      L14 [.int .i64 (i:Int),.int .i64 (p:Int),.bool ahead,.pointer (some ⟨b0,0,none⟩),.pointer (some ⟨b1,0,none⟩),.slice y i cap,.int .i64 (i:Int),.slice np (l0++((pl i).take z).filter (·≠p)).length nc,.int .i64 (z:Int)] hw:=by
     intro d
     induction d with
     | zero =>
      intro z np nc hw hz I
      have hz:z=(pl i).length:=by omega
      subst hz
      rw [List.take_length] at I ⊢
      obtain ⟨b,eb,q⟩:=fr_cell (I.at 2) (k:=i) (by omega)
      have q':cellAt hw ((⟨b,0,none⟩ : Addr).add (Int.toNat (i:Int)*1))=some (.slice (M.Z.lp i) (pl i).length (M.Z.lc i)):=by rw [at1];exact q
      refine hL14 _ _ _ _ _ _ _ _ _ _ _ _ _ _ ⟨_,_,_,cell_l (I.at 4) 8,_,eb,by omega,by omega,_,_,_,q',iF (decide_eq_false (by omega)) (hJ11 _ _ _ _ _ _ _ _ _ _ _ _ _ ?_)⟩
      have enl:l0++(pl i).filter (·≠p)=partL (pl i) p ahead:=by rw [el0];unfold partL;split<;>rfl
      generalize l0++(pl i).filter (·≠p)=nl at I enl ⊢
      obtain ⟨os,r1,r2⟩:=sl_app1 (zs:=[.slice none 0 0]) (v:=.slice np nl.length nc) (b:=24) (e:=T.T_sl_int) (T:=T.T_sl_int) (I.at 1) rfl rfl (by omega)
      refine ⟨os,_,r1,fun p' c' h9 res=>hJ7 _ _ _ _ _ _ _ _ _ _ ?_⟩
      have I2:=I.step 1 (R:=slR y i cap 1 (fOut M.Z pl)) (R':=slR p' (i+1) c' 1 (fun j=>if j=i then .slice np nl.length nc else fOut M.Z pl j)) ((r2 p' c' h9 res).conv (fun A=>A) fun _ e=>e)
      rw [ew8 i (by omega)]
      exact key2 np nc nl enl (7-i) (i+1) p' c' h9 (by omega) (by omega) (I2.perm (.swap _ _ _))
     | succ d ih =>
      intro z np nc hw hz I
      have hz':z<(pl i).length:=by omega
      obtain ⟨b,eb,q⟩:=fr_cell (I.at 2) (k:=i) (by omega)
      have q':cellAt hw ((⟨b,0,none⟩ : Addr).add (Int.toNat (i:Int)*1))=some (.slice (M.Z.lp i) (pl i).length (M.Z.lc i)):=by rw [at1];exact q
      obtain ⟨b9,e9,q9⟩:=sl_cell (fr_row (I.at 2) (k:=i) (by omega)) (i:=z) (by omega)
      have q9':cellAt hw ((⟨b9,0,none⟩ : Addr).add (Int.toNat (z:Int)*1))=some (.int .i64 (((pl i).getD z 0:Nat):Int)):=by rw [at1];exact q9
      have et:(pl i).take (z+1)=(pl i).take z++[(pl i).getD z 0]:=take_ge _ z 0 hz'
      have hlz:=hl i hk
      have ew:IntKind.wrap .i64 ((z:Int)+1)=((z+1:Nat):Int):=by rw [IntKind.wrap_i64];omega
      refine hL14 _ _ _ _ _ _ _ _ _ _ _ _ _ _ ⟨_,_,_,cell_l (I.at 4) 8,_,eb,by omega,by omega,_,_,_,q',iT (decide_eq_true (by omega)) fun J15 hJ15=>⟨_,_,_,cell_l (I.at 4) 8,_,eb,by omega,by omega,_,_,_,q',_,e9,by omega,by omega,_,q9',?_⟩⟩
      by_cases hne:(pl i).getD z 0=p
      ·refine iF (by rw [hne];simp) (hJ15 _ _ _ _ _ _ _ _ _ _ _ _ _ _ ?_)
       have es:((pl i).take (z+1)).filter (·≠p)=((pl i).take z).filter (·≠p):=by rw [et,List.filter_append,hne];simp
       rw [ew]
       have:=ih (z+1) np nc hw (by omega) (by rw [es];exact I)
       rw [es] at this
       exact this
      ·refine iT (bne_iff_ne.2 fun e=>hne (by omega)) ⟨_,_,_,cell_l (I.at 4) 8,_,eb,by omega,by omega,_,_,_,q',_,e9,by omega,by omega,_,q9',?_⟩
       have ll:(l0++((pl i).take z).filter (·≠p)).length≤3000:=by
        rw [List.length_append]
        have h1:l0.length≤1:=by rw [el0];split<;>simp
        have h2:=List.length_filter_le (·≠p) ((pl i).take z)
        rw [List.length_take] at h2
        omega
       obtain ⟨os,r1,r2⟩:=sl_app1 (zs:=[.int .i64 0]) (v:=.int .i64 (((pl i).getD z 0:Nat):Int)) (b:=8) (e:=T.T_int) (T:=T.T_int) (I.at 0) rfl rfl (by omega)
       refine ⟨os,_,r1,fun p' c' h9 res=>hJ15 _ _ _ _ _ _ _ _ _ _ _ _ _ _ ?_⟩
       have es:l0++((pl i).take (z+1)).filter (·≠p)=(l0++((pl i).take z).filter (·≠p))++[(pl i).getD z 0]:=by
        rw [et,List.filter_append,List.filter_cons_of_pos (by simpa using hne),List.filter_nil,List.append_assoc]
       have en:(l0++((pl i).take (z+1)).filter (·≠p)).length=(l0++((pl i).take z).filter (·≠p)).length+1:=by rw [es,List.length_append];rfl
       have I2:=I.step 0 (R':=slR p' (l0++((pl i).take (z+1)).filter (·≠p)).length c' 1 (nV (l0++((pl i).take (z+1)).filter (·≠p)))) ((r2 p' c' h9 res).conv (fun A=>by
        rw [en,es]
        exact sl_congr A fun j hj=>nV_snoc _ _ hj) fun _ e=>e)
       rw [ew]
       have:=ih (z+1) p' c' h9 (by omega) I2
       rw [en] at this
       exact this
    have fin:=inner (pl i).length 0 ap ac hz (by omega) (by simpa using I)
    simpa using fin
   have I':=I.perm (rs':=slR y i cap 1 (fOut M.Z pl)::frR M.Z 7 pl::lR b1 z7::lR b0 (d7v c M O P n m)::[]) (.cons _ (List.perm_append_comm (l₁:=[_]) (l₂:=[_,_])))
   cases ahead with
   | false=>exact iF rfl (go [] none 0 hx rfl (I'.new ⟨Upd.refl _ _,sl_nil _ _ _,fun b e=>absurd e (sl_nil_fp b)⟩))
   | true =>
    refine iT rfl ?_
    have I9:=I'.new (R:=slR none 0 0 1 (nV [])) ⟨Upd.refl _ _,sl_nil _ _ _,fun b e=>absurd e (sl_nil_fp b)⟩
    obtain ⟨os,r1,r2⟩:=sl_app1 (zs:=[.int .i64 0]) (v:=.int .i64 (p:Int)) (b:=8) (e:=T.T_int) (T:=T.T_int) (I9.at 0) rfl rfl (by omega)
    refine ⟨os,_,r1,fun p' c' h9 res=>go [p] p' c' h9 rfl (I9.step 0 ((r2 p' c' h9 res).conv (fun A=>sl_congr A fun j hj=>nV_snoc [] p hj) fun _ e=>e))⟩
 refine key1 k 0 none 0 h2 (by omega) ?_
 exact (I0.new (R:=slR none 0 0 1 (fOut M.Z pl)) ⟨Upd.refl _ _,sl_nil _ _ _,fun b e=>absurd e (sl_nil_fp b)⟩)
end
end Go.Proofs.YteemmpkhdllapaaGreatDoor
namespace Go.Proofs.YteemmpkhdllapaaGreatDoor
open Go.V Classical
structure P7 (P:Nat) (cl:Nat→Nat) (fr:Nat→List Nat) (ps:List Nat):Prop where
 n1:P≤1024
 lt:∀p∈ps,p<P
 k8:∀p∈ps,cl p<8
 nd:ps.Nodup
 fb:∀p∈ps,∀j∈fr p,j<cnt (cl p)
 ln:∀p∈ps,(fr p).length≤256
theorem P7.len {P:Nat} {cl:Nat→Nat} {fr:Nat→List Nat} {ps:List Nat} (H:P7 P cl fr ps):ps.length≤1024:=by
 have:=List.Nodup.length_le_of_subset H.nd (l₂:=List.range P) fun p hp=>List.mem_range.2 (H.lt p hp)
 simp at this
 have:=H.n1
 omega
theorem getD_in {l:List Nat} {i:Nat} (hi:i<l.length):l.getD i 0∈l:=by rw [List.getD_eq_getElem?_getD,List.getElem?_eq_getElem hi];exact List.getElem_mem _
section
variable {w₀:World} {h h' h0 hx:Heap} {c:Cfg} {M:RW7} {O P n m:Nat} {cl:Nat→Nat} {fr pl:Nat→List Nat} {ps:List Nat} {K:Value→Heap→Prop} {E:Res} {rs:List Res} {V:List PBk}
theorem fr7_at (H:(frR7 M fr ps).P h) {p:Nat} (hp:p∈ps) (hp2:p<1024):(roR (M.qf p) (fr p).length (M.cf p) (nV (fr p))).P h:=by
 have h1:=H.1 p hp2
 have e:(if p∈ps then roR (M.qf p) (fr p).length (M.cf p) (nV (fr p)) else noR)=roR (M.qf p) (fr p).length (M.cf p) (nV (fr p)):=if_pos hp
 rw [←e]
 exact h1
def At7 (c:Cfg) (cl:Nat→Nat) (fr:Nat→List Nat) (ps:List Nat) (a:Int) (p j:Nat):Prop:=p∈ps∧j<cnt (cl p)∧j∉fr p∧a=adr c p+((j*wdt (cl p):Nat):Int)
theorem Cell7_ok {a:Int} (ha:U64 a) (g:c.Good) (D:P7 P cl fr ps) (H1:(outR7 M cl fr ps).P h) (H2:(frR7 M fr ps).P h)
  (hn:(∀p j,¬At7 c cl fr ps a p j)→∀h',Upd NoB h h'→K (.tuple #[.int .i64 (-1),.int .i64 0]) h')
  (hy:∀i j,i<ps.length→At7 c cl fr ps a (ps.getD i 0) j→∀h',Upd NoB h h'→K (.tuple #[.int .i64 (i:Int),.int .i64 (j:Int)]) h') :
  CallV Tryz.prog w₀ F.croftref7_Cell [pv7 c M O P n ps.length,.int .u64 a] h K:=by
 have b1:=g.b0
 have tl:=D.len
 have n1:=D.n1
 have inP:∀p j,At7 c cl fr ps a p j→p<P∧4096*(p:Int)≤a-c.base∧a-c.base<4096*(p:Int)+4096:=fun p j ⟨hp,hj,_,e⟩=>by
  have h1:=(cell_in (D.k8 p hp) hj).1
  have h2:=wdt_pos (cl p)
  refine ⟨D.lt p hp,?_,?_⟩<;>(rw [e];unfold adr;omega)
 have N:=box_l h (d7v c M O P n ps.length) T.T_croftref7_Slab
 refine croftref7_Cell.call ?_
 try dsimp only
 generalize Array.push h (.cells (List.toArray (d7v c M O P n ps.length)) T.T_croftref7_Slab)=h1 at N ⊢
 obtain ⟨b0,e0⟩ : ∃b,b=h.size:=⟨_,rfl⟩
 rw [←e0] at N ⊢
 have B:=N.p
 have u1:=N.u
 refine ⟨_,cell_l0 B,fun J2 hJ2=>?_⟩
 by_cases a1:a<c.base
 ·exact pT (decide_eq_true a1) (hJ2 _ _ (iT rfl (hn (fun p j h=>by have:=inP p j h;omega) h1 u1)))
 obtain ⟨z,ez⟩ : ∃z:Nat,a-c.base=z:=⟨(a-c.base).toNat,by omega⟩
 have ha1:=ha.2
 have ha0:=ha.1
 have ew:IntKind.wrap .u64 (a-c.base)=(z:Int):=by rw [IntKind.wrap_u64];omega
 have ew2:IntKind.wrap .u64 ((4096:Int)*IntKind.wrap .u64 ((P:Nat):Int))=4096*(P:Int):=by simp only [IntKind.wrap_u64];omega
 refine pF (decide_eq_false a1) ⟨_,cell_l0 B,_,cell_l B 4,?_⟩
 rw [ew,ew2]
 by_cases a2:(z:Int)≥4096*(P:Int)
 ·exact hJ2 _ _ (iT (decide_eq_true a2) (hn (fun p j h=>by have:=inP p j h;omega) h1 u1))
 refine hJ2 _ _ (iF (decide_eq_false a2) ⟨_,cell_l0 B,_,cell_l B 1,_,cell_l B 2,_,cell_l B 3,_,cell_l B 4,_,_,_,cell_l B 5,_,_,_,cell_l B 6,_,_,_,cell_l B 7,_,_,_,cell_l B 8,_,cell_l0 B,by omega,?_⟩)
 have eq:IntKind.wrap .i64 (IntKind.wrap .u64 (Int.tdiv (IntKind.wrap .u64 (a-c.base)) 4096))=((z / 4096:Nat):Int):=by
  rw [ew,Int.tdiv_eq_ediv_of_nonneg (by omega),IntKind.wrap_u64,IntKind.wrap_i64];omega
 rw [eq]
 have H1':=(outR7 M cl fr ps).st H1 u1 fun _ _=>id
 have H2':=(frR7 M fr ps).st H2 u1 fun _ _=>id
 refine find7_ok (c:=c) (O:=O) (P:=P) (n:=n) (by omega) H1' (fun hq h2 u2=>⟨_,rfl,iT rfl (hn (fun p j hA=>?_) h2 (u1.nx u2 fun _ e _=>e))⟩) fun i hi eqi h2 u2=>⟨_,rfl,iF (decide_eq_false (by omega)) ?_⟩
 ·have:=inP p j hA
  have:p=z / 4096:=by omega
  exact hq (this▸hA.1)
 have u12:Upd NoB h h2:=u1.nx u2 fun _ e _=>e
 have B2:=(lR b0 (d7v c M O P n ps.length)).st B u2 fun _ _=>id
 have H1:=(outR7 M cl fr ps).st H1' u2 fun _ _=>id
 have H2:=(frR7 M fr ps).st H2' u2 fun _ _=>id
 obtain ⟨b,eb,q0,q1,q2⟩:=ce_cells H1 hi
 have hm:=getD_in hi
 rw [eqi] at hm q0 q1 q2
 have hy:=fun j=>hy i j hi
 rw [eqi] at hy
 obtain ⟨q,hq⟩ : ∃q,z / 4096=q:=⟨_,rfl⟩
 rw [hq] at hm q0 q1 q2 hy
 have hk:=D.k8 q hm
 have hlt:=D.lt q hm
 have R:=fr7_at H2 hm (by omega)
 refine ⟨_,_,_,cell_l B2 7,_,eb,by omega,by omega,_,q0,_,q1,_,_,_,q2,?_⟩
 have N3:=box_l h2 [.int .i64 0,.int .i64 0,.slice none 0 0] T.T_croftref7_Cells
 generalize Array.push h2 (.cells (List.toArray [.int .i64 0,.int .i64 0,.slice none 0 0]) T.T_croftref7_Cells)=h3 at N3 ⊢
 obtain ⟨b1,e1⟩ : ∃b,b=h2.size:=⟨_,rfl⟩
 rw [←e1] at N3 ⊢
 have I3:=((Hold.nil h).new N).quiet u2 |>.new N3
 obtain ⟨w4,S4⟩:=assign_l (I3.at 0) (ceL M cl fr q)
 have I4:=I3.step 0 S4
 refine ⟨w4,?_⟩
 have u24:Upd NoB h2 _:=N3.u.nx S4.u fun b e hb=>by
  have e:b=b1:=e
  omega
 generalize setCs h3 ⟨b1,0,none⟩ 0 [.int .i64 (q:Int),.int .i64 (cl q:Int),.slice (M.qf q) (fr q).length (M.cf q)]=h4 at I4 u24 ⊢
 have I4:Hold h h4 [lR b1 (ceL M cl fr q),lR b0 (d7v c M O P n ps.length)]:=I4
 have B4:=I4.at 0
 have R4:(roR (M.qf q) (fr q).length (M.cf q) (nV (fr q))).P h4:=(roR (M.qf q) (fr q).length (M.cf q) (nV (fr q))).st R u24 fun _ _=>id
 have wp:=wdt_pos (cl q)
 have wk:=(cnt_wdt hk).2.2.2.2.2
 have em:IntKind.wrap .i64 (Int.tmod (z:Int) 4096)=((z % 4096:Nat):Int):=by rw [Int.tmod_eq_emod_of_nonneg (by omega),IntKind.wrap_i64];omega
 refine ⟨_,cell_l0 (I4.at 1),by omega,_,cell_l B4 1,width7_ok hk ⟨_,rfl,by omega,fun J7 hJ7=>?_⟩⟩
 rw [ew,em]
 have et:Int.tmod ((z % 4096:Nat):Int) (wdt (cl q):Int)=((z % 4096 % wdt (cl q):Nat):Int):=by rw [Int.tmod_eq_emod_of_nonneg (by omega),←Int.natCast_emod]
 have ed:IntKind.wrap .i64 (Int.tdiv ((z % 4096:Nat):Int) (wdt (cl q):Int))=((z % 4096 / wdt (cl q):Nat):Int):=by
  rw [Int.tdiv_eq_ediv_of_nonneg (by omega),←Int.natCast_ediv,IntKind.wrap_i64]
  have h1:=Nat.div_le_self (z % 4096) (wdt (cl q))
  have h2:z % 4096<4096:=Nat.mod_lt _ (by omega)
  generalize z % 4096 / wdt (cl q)=y at h1 ⊢
  omega
 rw [et]
 obtain ⟨j,hj⟩ : ∃j,z % 4096 / wdt (cl q)=j:=⟨_,rfl⟩
 rw [hj] at ed
 have only:∀p j',At7 c cl fr ps a p j'→p=q∧z % 4096=j'*wdt (cl q):=fun p j' hA=>by
  have h1:=inP p j' hA
  have:p=q:=by omega
  subst this
  have h2:=hA.2.2.2
  unfold adr at h2
  exact ⟨rfl,by omega⟩
 by_cases a3:z % 4096 % wdt (cl q)=0
 case neg =>
  refine pT (bne_iff_ne.2 (by omega)) (hJ7 _ _ (iT rfl (hn (fun p j' hA=>?_) h4 I4.u)))
  obtain ⟨_,h2⟩:=only p j' hA
  rw [h2,Nat.mul_mod_left] at a3
  exact a3 rfl
 have hz:z % 4096=j*wdt (cl q):=by
  have:=Nat.div_add_mod (z % 4096) (wdt (cl q))
  rw [a3,hj,Nat.mul_comm] at this
  omega
 have hjc:j<cnt (cl q):=by
  rw [←hj]
  refine Nat.div_lt_of_lt_mul ?_
  rw [Nat.mul_comm,(cnt_wdt hk).1]
  exact Nat.mod_lt _ (by omega)
 refine pF (by rw [a3];rfl) ⟨_,cell_l0 B4,_,cell_l B4 1,_,_,_,cell_l B4 2,_,cell_l B4 1,width7_ok hk ⟨_,rfl,cell_l0 B4,cell_l B4 1,cell_l B4 2,by omega,?_⟩⟩
 rw [ed]
 have hln:=D.ln q hm
 refine free7_ok (by omega) R4 fun h5 u5=>⟨_,rfl,hJ7 _ _ ?_⟩
 have I5:=I4.quiet u5
 by_cases hf:j∈fr q
 ·refine iT (decide_eq_true hf) (hn (fun p j' hA=>?_) h5 I5.u)
  obtain ⟨e,h2⟩:=only p j' hA
  subst e
  have:j'=j:=by
   rw [hz] at h2
   exact (Nat.mul_right_cancel wp h2).symm
  subst this
  exact hA.2.2.1 hf
 ·refine iF (decide_eq_false hf) ⟨_,cell_l (I5.at 0) 1,width7_ok hk ⟨_,rfl,by omega,?_⟩⟩
  rw [ew,em,ed]
  refine hy j ⟨hm,hjc,hf,?_⟩ h5 I5.u
  unfold adr
  omega
theorem Size7_ok {a:Int} (ha:U64 a) (g:c.Good) (D:P7 P cl fr ps) (H1:(outR7 M cl fr ps).P h) (H2:(frR7 M fr ps).P h)
  (hn:(∀p j,¬At7 c cl fr ps a p j)→∀h',Upd NoB h h'→K (.int .u64 0) h')
  (hy:∀p j,At7 c cl fr ps a p j→∀h',Upd NoB h h'→K (.int .u64 (wdt (cl p):Int)) h') :
  CallV Tryz.prog w₀ F.croftref7_Size [pv7 c M O P n ps.length,.int .u64 a] h K:=by
 refine croftref7_Size.call ?_
 try dsimp only
 have N:=box_l h (d7v c M O P n ps.length) T.T_croftref7_Slab
 generalize Array.push h (.cells (List.toArray (d7v c M O P n ps.length)) T.T_croftref7_Slab)=h1 at N ⊢
 have B:=N.p
 refine ⟨_,cell_l0 B,_,cell_l B 1,_,cell_l B 2,_,cell_l B 3,_,cell_l B 4,_,_,_,cell_l B 5,_,_,_,cell_l B 6,_,_,_,cell_l B 7,_,_,_,cell_l B 8,?_⟩
 refine Cell7_ok (n:=n) (O:=O) ha g D ((outR7 M cl fr ps).st H1 N.u fun _ _=>id) ((frR7 M fr ps).st H2 N.u fun _ _=>id) (fun hno h2 u2=>⟨_,_,rfl,iT rfl (hn hno h2 (N.u.nx u2 fun _ e _=>e))⟩) fun i j hi hA h2 u2=>⟨_,_,rfl,iF (decide_eq_false (by omega)) ?_⟩
 have u12:Upd NoB h h2:=N.u.nx u2 fun _ e _=>e
 have B2:=(lR h.size (d7v c M O P n ps.length)).st B u2 fun _ _=>id
 obtain ⟨b,eb,q0,q1,q2⟩:=ce_cells ((outR7 M cl fr ps).st H1 u12 fun _ _=>id) hi
 refine ⟨_,_,_,cell_l B2 7,_,eb,by omega,by omega,_,q1,width7_ok (D.k8 _ hA.1) ⟨_,rfl,?_⟩⟩
 have wk:=(cnt_wdt (D.k8 _ hA.1)).2.2.2.2.2
 rw [show IntKind.wrap .u64 (wdt (cl (ps.getD i 0)):Int)=(wdt (cl (ps.getD i 0)):Int) by rw [IntKind.wrap_u64];omega]
 exact hy _ j hA h2 u12
theorem Heads7_ok {hp:Nat→Int} (hl:∀j,j<8→(pl j).length≤2000) (hh:∀k,k<8→hp k=hdE (pl k) (-1)) (H:(frR M.Z 7 pl).P h) (hK:∀h' p cap,New h h' (slR p 8 cap 1 (iL (ptL hp)))→K (.slice p 8 cap) h') :
  CallV Tryz.prog w₀ F.croftref7_Heads [pv7 c M O P n m] h K:=by
 refine croftref7_Heads.call fun J2 hJ2 L3 hL3=>?_
 try dsimp only
 have N0:=box_l h (d7v c M O P n m) T.T_croftref7_Slab
 generalize Array.push h (.cells (List.toArray (d7v c M O P n m)) T.T_croftref7_Slab)=h1 at N0 ⊢
 have I0:=(Hold.nil h).new N0
 have key:∀(d i:Nat) (y:Option Addr) (cap:Nat) (hx:Heap),i+d=8→Hold h hx [slR y i cap 1 (iL (ptL hp)),lR h.size (d7v c M O P n m)]→L3 [.pointer (some ⟨h.size,0,none⟩),.slice y i cap,.int .i64 (i:Int)] hx:=by
  intro d
  induction d with
  | zero =>
   intro i y cap hx hi I
   have hi:i=8:=by omega
   subst hi
   exact hL3 _ _ _ _ _ _ (iF rfl (hJ2 _ _ _ _ (hK hx y cap (I.sub (rs':=[slR y 8 cap 1 (iL (ptL hp))]) (.cons_cons _ (.cons _ .slnil))).toNew)))
  | succ d ih =>
   intro i y cap hx hi I
   have Hx:=(frR M.Z 7 pl).st H I.u fun _ _=>id
   obtain ⟨b,eb,q⟩:=fr_cell Hx (k:=i) (by omega)
   have q':cellAt hx ((⟨b,0,none⟩ : Addr).add (Int.toNat (i:Int)*1))=some (.slice (M.Z.lp i) (pl i).length (M.Z.lc i)):=by rw [at1];exact q
   refine hL3 _ _ _ _ _ _ (iT (decide_eq_true (by omega)) fun J4 hJ4=>⟨_,_,_,cell_l (I.at 1) 8,_,eb,by omega,by omega,_,_,_,q',?_⟩)
   have fin:∀v:Int,v=hp i→J4 [.pointer (some ⟨h.size,0,none⟩),.slice y i cap,.int .i64 (i:Int),.int .i64 v] hx:=by
    intro v hv
    refine hJ4 _ _ _ _ _ _ _ ?_
    obtain ⟨os,r1,r2⟩:=sl_app1 (zs:=[.int .i64 0]) (v:=.int .i64 v) (b:=8) (e:=T.T_int) (T:=T.T_int) (I.at 0) rfl rfl (by omega)
    refine ⟨os,_,r1,fun p' c' h9 res=>?_⟩
    have I2:=I.step 0 (R:=slR y i cap 1 (iL (ptL hp))) (R':=slR p' (i+1) c' 1 (iL (ptL hp))) ((r2 p' c' h9 res).conv (fun A=>sl_congr A fun j hj=>by
     by_cases e:j=i
     ·subst e;rw [if_pos rfl,iL_pt _ (by omega),hv]
     ·rw [if_neg e]) fun _ e=>e)
    rw [show IntKind.wrap .i64 ((i:Int)+1)=((i+1:Nat):Int) by rw [IntKind.wrap_i64];omega]
    exact ih (i+1) p' c' h9 (by omega) I2
   cases hf:pl i with
   | nil=>exact iF (by simp) (fin _ (by rw [hh i (by omega),hf];rfl))
   | cons a t =>
    obtain ⟨b9,e9,q9⟩:=sl_cell (fr_row Hx (k:=i) (by omega)) (i:=0) (by rw [hf];simp)
    have q9:cellAt hx ⟨b9,0,none⟩=some (.int .i64 (a:Int)):=by rw [q9,hf];rfl
    exact iT (by simp) ⟨_,_,_,cell_l (I.at 1) 8,_,eb,by omega,by omega,_,_,_,q',_,e9,by omega,by rw [hf];simp,_,q9,fin _ (by rw [hh i (by omega),hf];rfl)⟩
 exact key 8 0 none 0 h1 (by omega) (I0.new ⟨Upd.refl _ _,sl_nil _ _ _,fun b e=>absurd e (sl_nil_fp b)⟩)
theorem Link7_ok (g:c.Good) {x:BU} (hm:x.m.Ok) {p i:Nat} (hp:p<1024) (hk:cl p<8) (hl:(fr p).length≤256) (hf:∀j∈fr p,j<cnt (cl p)) (hi:i<(fr p).length) (H:(roR (M.qf p) (fr p).length (M.cf p) (nV (fr p))).P h)
  (hK:∀h',Upd NoB h h'→K (.int .u64 (if i+1=(fr p).length then 0 else adr c p+(((fr p).getD (i+1) 0*wdt (cl p):Nat):Int))) h') :
  CallV Tryz.prog w₀ F.croftref7_Link [pv7 c M O P n m,.agg (ceL M cl fr p).toArray,.int .i64 (i:Int)] h K:=by
 refine croftref7_Link.call ?_
 try dsimp only
 have N0:=box_l h (d7v c M O P n m) T.T_croftref7_Slab
 generalize Array.push h (.cells (List.toArray (d7v c M O P n m)) T.T_croftref7_Slab)=h1 at N0 ⊢
 have N1:=box_l h1 (ceL M cl fr p) T.T_croftref7_Cells
 generalize Array.push h1 (.cells (List.toArray (ceL M cl fr p)) T.T_croftref7_Cells)=h2 at N1 ⊢
 have I0:=((Hold.nil h).new N0).new N1
 have ew:IntKind.wrap .i64 ((i:Int)+1)=((i+1:Nat):Int):=by rw [IntKind.wrap_i64];omega
 refine ⟨_,_,_,cell_l (I0.at 0) 2,?_⟩
 rw [ew]
 by_cases e:i+1=(fr p).length
 ·rw [if_pos e] at hK
  exact iT (by simp [e]) (hK _ I0.u)
 ·rw [if_neg e] at hK
  have H2:=(roR (M.qf p) (fr p).length (M.cf p) (nV (fr p))).st H I0.u fun _ _=>id
  obtain ⟨a,ea,q⟩:=ro_cell H2 (i:=i+1) (by omega)
  have B:=I0.at 1
  refine iF (beq_eq_false_iff_ne.2 fun e'=>e (by omega)) ⟨_,cell_l0 B,_,cell_l B 1,_,cell_l B 2,_,cell_l B 3,_,cell_l B 4,_,_,_,cell_l B 5,_,_,_,cell_l B 6,_,_,_,cell_l B 7,_,_,_,cell_l B 8,_,cell_l0 (I0.at 0),_,_,_,cell_l (I0.at 0) 2,_,ea,by omega,by omega,(((fr p).getD (i+1) 0:Nat):Int),q,_,cell_l (I0.at 0) 1,?_⟩
  refine at7_ok g hm (by omega) fun h3 u3=>⟨_,rfl,?_⟩
  have I3:=I0.quiet u3
  have H3:=(roR (M.qf p) (fr p).length (M.cf p) (nV (fr p))).st H2 u3 fun _ _=>id
  obtain ⟨a',ea',q'⟩:=ro_cell H3 (i:=i+1) (by omega)
  obtain rfl:a'=a:=by rw [ea] at ea';exact (Option.some.inj ea').symm
  refine ⟨cell_l (I3.at 0) 1,q',cell_l (I3.at 0) 2,width7_ok hk ⟨_,rfl,q',cell_l (I3.at 0) 2,?_⟩⟩
  have hj:=hf _ (getD_in (l:=fr p) (i:=i+1) (by omega))
  have hc:=(cell_in hk hj).1
  have hb:=bu_bounds g hm
  have hw:=wdt_pos (cl p)
  have ev:IntKind.wrap .u64 (adr c p+IntKind.wrap .u64 (IntKind.wrap .i64 ((((fr p).getD (i+1) 0:Nat):Int)*(wdt (cl p):Int))))=adr c p+(((fr p).getD (i+1) 0*wdt (cl p):Nat):Int):=by
   obtain ⟨z,hz⟩ : ∃z:Nat,(fr p).getD (i+1) 0*wdt (cl p)=z:=⟨_,rfl⟩
   rw [←Int.natCast_mul,hz]
   rw [hz] at hc
   have e1:IntKind.wrap .i64 (z:Int)=(z:Int):=wI (by unfold bd63;omega)
   have e2:IntKind.wrap .u64 (z:Int)=(z:Int):=wU (by unfold U64;omega)
   rw [e1,e2]
   refine wU ?_
   unfold U64 adr
   omega
  rw [ev]
  exact hK _ I3.u
end
end Go.Proofs.YteemmpkhdllapaaGreatDoor
namespace Go.Proofs.YteemmpkhdllapaaGreatDoor
open Go.V Classical
structure WZ where
 wb:Nat
 W:BW
 Y:RW5
section
variable {h h':Heap} {c:Cfg} {Q:WZ} {x:BU} {fl:Nat→List Nat} {V:List PBk}
theorem WS.flOk {S:Nat→Prop} {L:List PBk} (W:WS S c x fl L):FlOk x.m.o fl:=by
 have n1:=W.ok.m.n1
 have al:∀k,k≤x.m.o→∀p∈fl k,p<x.m.n:=fun k hk p hp=>by
  have:=W.rep.al hk hp
  have h0:=Nat.two_pow_pos k
  omega
 have nd:∀k,k≤x.m.o→(fl k).Nodup:=fun k hk=>by
  have:=(W.rep.ls k hk).nd
  exact List.Pairwise.of_map (adr c) (fun a b hne e=>hne (by rw [e])) this
 refine ⟨fun k hk=>?_,nd,fun k hk p hp=>by have:=al k hk p hp;omega⟩
 have:=List.Nodup.length_le_of_subset (nd k hk) (l₂:=List.range x.m.n) fun p hp=>List.mem_range.2 (al k hk p hp)
 simp at this
 omega
end
end Go.Proofs.YteemmpkhdllapaaGreatDoor
namespace Go.Proofs.YteemmpkhdllapaaGreatDoor
open Go.V Classical
end Go.Proofs.YteemmpkhdllapaaGreatDoor
namespace Go.Proofs.YteemmpkhdllapaaGreatDoor
open Go.V Classical
end Go.Proofs.YteemmpkhdllapaaGreatDoor
namespace Go.Proofs.YteemmpkhdllapaaGreatDoor
open Go.V Classical
theorem perm_out:∀{V:List PBk} {p k:Nat},(V.map Prod.fst).Nodup→(p,k)∈V→V.Perm ((p,k)::V.filter (·.1≠p))
 | [],p,k,_,h=>by cases h
 | (q,j)::V,p,k,nd,h=>by
  have nd':(q::V.map Prod.fst).Nodup:=nd
  have n1:=List.nodup_cons.1 nd'
  by_cases e:q=p
  ·subst e
   have hj:j=k:=by
    rcases List.mem_cons.1 h with e | h
    ·injection e with _ e2;exact e2.symm
    ·exact absurd (List.mem_map.2 ⟨_,h,rfl⟩) n1.1
   subst hj
   have hf:((q,j)::V).filter (·.1≠q)=V:=by
    rw [List.filter_cons_of_neg (by simp)]
    refine List.filter_eq_self.2 fun a ha=>?_
    have:a.1≠q:=fun e=>n1.1 (e▸List.mem_map.2 ⟨a,ha,rfl⟩)
    simpa using this
   rw [hf]
  ·have hV:(p,k)∈V:=by
    rcases List.mem_cons.1 h with e' | h
    ·injection e' with e1 _;exact absurd e1.symm e
    ·exact h
   rw [List.filter_cons_of_pos (by simpa using e)]
   exact ((perm_out n1.2 hV).cons _).trans (.swap _ _ _)
section
variable {w₀:World} {h h':Heap} {c:Cfg} {Q:WZ} {x:BU} {fl:Nat→List Nat} {V:List PBk} {K:Value→Heap→Prop} {S:Nat→Prop} {L:List PBk}
theorem WS.fsts (W:WS S c x fl L):(L.map Prod.fst).Nodup:=by
 refine List.Pairwise.map _ (fun a b hab e=>?_) (List.pairwise_append.1 (by simpa using W.rep.til.dj)).1
 have h1:=Nat.two_pow_pos a.2
 have h2:=Nat.two_pow_pos b.2
 unfold Dj at hab
 omega
theorem WS.out (W:WS S c x fl L) {p k:Nat} (h:(p,k)∈L):L.Perm ((p,k)::L.filter (·.1≠p)):=perm_out W.fsts h
theorem WS.alb (W:WS S c x fl L) {b:PBk} (hb:b∈L):b.2≤x.m.o∧b.1 % 2 ^ b.2=0∧b.1+2 ^ b.2≤x.m.n:=W.rep.til.al _ (List.mem_append_right _ (List.mem_append_left _ hb))
theorem WS.al5 (W:WS S c x fl L):∀b∈L,b.1≤2000∧b.2≤x.m.o∧b.1 % 2 ^ b.2=0:=fun b hb=>by
 obtain ⟨h1,h2,h3⟩:=W.alb hb
 have:=W.ok.m.n1
 exact ⟨by omega,h1,h2⟩
theorem WS.fl5 (W:WS S c x fl L):∀k,k≤x.m.o→(fl k).length≤2000:=W.flOk.len
theorem WS.lenV (W:WS S c x fl L):L.length≤1024:=by
 have n1:=W.ok.m.n1
 have sub:(L.map Prod.fst).Subset (List.range x.m.n):=fun q hq=>by
  obtain ⟨b,hb,rfl⟩:=List.mem_map.1 hq
  have al:=W.alb hb
  have h1:=Nat.two_pow_pos b.2
  exact List.mem_range.2 (by omega)
 have:=List.Nodup.length_le_of_subset W.fsts sub
 simp at this
 omega
end
end Go.Proofs.YteemmpkhdllapaaGreatDoor
