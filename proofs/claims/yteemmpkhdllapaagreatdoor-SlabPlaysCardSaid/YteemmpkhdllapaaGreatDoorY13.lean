/- Texts of this proof, some in one. No condition. -/
import Derived.Test.YteemmpkhdllapaaGreatDoorY12
set_option linter.unusedSimpArgs false
set_option linter.unusedVariables false
namespace Go.Proofs.YteemmpkhdllapaaGreatDoor
open Go.V Classical
def lF (l:List Value):Nat→Value:=fun i=>l.getD i undef
abbrev lR (b:Nat) (l:List Value):Res:=blkR b l.length (lF l)
theorem box_l (h:Heap) (l:List Value) (T:TypeId):New h (h.push (.cells l.toArray T)) (lR h.size l) :=
 ⟨push_upd _ _ _,blk_list h l T _ rfl,fun b e=>Nat.le_of_eq (Eq.symm e)⟩
theorem cell_l0 {h:Heap} {b:Nat} {l:List Value} (B:(lR b l).P h) {v:Value} (hv:l[0]? = some v:=by rfl):cellAt h (⟨b,0,none⟩ : Addr)=some v:=by
 have hl:0<l.length:=(List.getElem?_eq_some_iff.1 hv).1
 have:=Blk.cell (f:=lF l) B (i:=0) hl
 rw [this]
 unfold lF
 rw [List.getD_eq_getElem?_getD,hv];rfl
theorem cell_l {h:Heap} {b:Nat} {l:List Value} (B:(lR b l).P h) (i:Nat) {v:Value} (hv:l[i]? = some v:=by rfl):cellAt h ((⟨b,0,none⟩ : Addr).add i)=some v:=by
 have hl:i<l.length:=(List.getElem?_eq_some_iff.1 hv).1
 have:=Blk.cell (f:=lF l) B (i:=i) hl
 rw [add_mk,Nat.zero_add,this]
 unfold lF
 rw [List.getD_eq_getElem?_getD,hv];rfl
theorem wr_l {h:Heap} {b:Nat} {l:List Value} (B:(lR b l).P h) (i:Nat) (hi:i<l.length:=by simp):Wr h ((⟨b,0,none⟩ : Addr).add i):=by
 rw [add_mk,Nat.zero_add];exact Blk.wr (f:=lF l) B hi
theorem assign_l {h:Heap} {b:Nat} {l:List Value} (B:(lR b l).P h) (l':List Value) (hl:l'.length=l.length:=by rfl) :
  WrN h ⟨b,0,none⟩ l.length∧Stp h (setCs h ⟨b,0,none⟩ 0 l') (lR b l) (lR b l'):=by
 refine ⟨fun j hj=>by rw [add_mk];exact Blk.wr (f:=lF l) B (by omega),?_⟩
 have S:=Stp.sets (f:=lF l) B l' 0 0 (g:=lF l') fun j hj=>by
  rw [if_pos ⟨by omega,by omega⟩,Nat.add_zero,Nat.sub_zero];rfl
 unfold lR
 rw [hl]
 exact S
theorem set_l {h:Heap} {b:Nat} {l:List Value} (B:(lR b l).P h) (i:Nat) (v:Value):Stp h (setC h ((⟨b,0,none⟩ : Addr).add i) v) (lR b l) (lR b (l.set i v)):=by
 rw [add_mk,Nat.zero_add]
 have S:=Stp.set (f:=lF l) B i v (g:=lF (l.set i v)) fun j hj=>by
  unfold lF
  rw [List.getD_eq_getElem?_getD,List.getD_eq_getElem?_getD,List.getElem?_set]
  by_cases e:j=i
  ·subst e;rw [if_pos rfl,if_pos rfl,if_pos hj];rfl
  ·rw [if_neg e,if_neg (fun e'=>e e'.symm)]
 unfold lR
 rw [List.length_set]
 exact S
abbrev d7 (a b on P:Int) (fp:Option Addr) (fn fc:Nat) (vp:Option Addr) (vn vc:Nat) (pp:Option Addr) (pn pc:Nat) (qp:Option Addr) (qn qc:Nat):List Value :=
 [.int .u64 a,.int .i64 b,.int .i64 on,.int .i64 on,.int .i64 P,.slice fp fn fc,.slice vp vn vc,.slice pp pn pc,.slice qp qn qc]
abbrev z7:List Value:=[.int .u64 0,.int .i64 0,.int .i64 0,.int .i64 0,.int .i64 0,.slice none 0 0,.slice none 0 0,.slice none 0 0,.slice none 0 0]
section
variable {w₀:World} {h h':Heap} {K:Value→Heap→Prop}
theorem ref7_New_ok {a b:Int} {on:Nat} (ho:on≤8)
  (hK:∀(h':Heap) (fp qp:Option Addr) (fc qc:Nat),New h h' (andR (slR fp (on+1) fc 1 fun _=>.slice none 0 0) (slR qp 8 qc 1 fun _=>.slice none 0 0)) →
   K (.agg (d7 a b on 0 fp (on+1) fc none 0 0 none 0 0 qp 8 qc).toArray) h') :
  CallV Tryz.prog w₀ F.croftref7_New [.agg #[.int .u64 a,.int .i64 b,.int .i64 (on:Int)]] h K:=by
 refine croftref7_New.call fun J3 hJ3=>?_
 try dsimp only
 have mid:∀(hx:Heap) (b2 b3:Nat) (fp:Option Addr) (fc:Nat),Hold h hx [lR b3 (d7 a b on 0 fp (on+1) fc none 0 0 none 0 0 none 0 0),lR b2 z7,slR fp (on+1) fc 1 fun _=>.slice none 0 0]→J3 [gptr b2,gptr b3] hx:=by
  intro hx b2 b3 fp fc I0
  refine hJ3 _ _ _ fun J4 hJ4 L6 hL6=>?_
  have I1:Hold h hx [slR none 0 0 1 (fun _=>.slice none 0 0),lR b3 (d7 a b on 0 fp (on+1) fc none 0 0 none 0 0 none 0 0),lR b2 z7,slR fp (on+1) fc 1 fun _=>.slice none 0 0] :=
   I0.new ⟨Upd.refl _ _,sl_nil _ _ _,fun b e=>absurd e (sl_nil_fp b)⟩
  have key:∀(d i:Nat) (y:Option Addr) (cap:Nat) (hy:Heap),i+d=8→Hold h hy [slR y i cap 1 (fun _=>.slice none 0 0),lR b3 (d7 a b on 0 fp (on+1) fc none 0 0 none 0 0 y i cap),lR b2 z7,slR fp (on+1) fc 1 fun _=>.slice none 0 0] →
    L6 [gptr b2,gptr b3,.int .i64 (i:Int)] hy:=by
   intro d
   induction d with
   | zero =>
    intro i y cap hy hi I
    have hi:i=8:=by omega
    subst hi
    have B:=I.at 1
    refine hL6 _ _ _ _ (iF (by decide) (hJ4 _ _ _ ⟨_,cell_l0 B,_,cell_l B 1,_,cell_l B 2,_,cell_l B 3,_,cell_l B 4,_,_,_,cell_l B 5,_,_,_,cell_l B 6,_,_,_,cell_l B 7,_,_,_,cell_l B 8,?_⟩))
    obtain ⟨w5,S5⟩:=assign_l (I.at 2) (d7 a b on 0 fp (on+1) fc none 0 0 none 0 0 y 8 cap)
    have I5:=I.step 2 S5
    refine ⟨w5,?_⟩
    have B:=I5.at 2
    refine ⟨_,cell_l0 B,_,cell_l B 1,_,cell_l B 2,_,cell_l B 3,_,cell_l B 4,_,_,_,cell_l B 5,_,_,_,cell_l B 6,_,_,_,cell_l B 7,_,_,_,cell_l B 8,hK _ fp y fc cap ?_⟩
    exact (I5.sub (rs':=[slR y 8 cap 1 (fun _=>.slice none 0 0),slR fp (on+1) fc 1 fun _=>.slice none 0 0]) (.cons_cons _ (.cons _ (.cons _ (.cons_cons _ .slnil))))).swap.join.toNew
   | succ d ih =>
    intro i y cap hy hi I
    have B:=I.at 1
    refine hL6 _ _ _ _ (iT (decide_eq_true (by omega)) ⟨_,_,_,cell_l B 8,?_⟩)
    obtain ⟨os,q1,q2⟩:=sl_app1 (zs:=[.slice none 0 0]) (v:=.slice none 0 0) (b:=24) (e:=T.T_sl_int) (T:=T.T_sl_int) (I.at 0) rfl rfl (by omega)
    refine ⟨os,_,q1,fun p' c' h29 hres=>?_⟩
    have I3:=I.step 0 (R:=slR y i cap 1 (fun _=>.slice none 0 0)) (R':=slR p' (i+1) c' 1 (fun _=>.slice none 0 0)) ((q2 p' c' h29 hres).conv (fun P=>sl_congr P fun j hj=>by split<;>rfl) fun _ e=>e)
    have S5:=set_l (I3.at 1) 8 (.slice p' (i+1) c')
    have I5:=I3.step 1 S5
    refine ⟨wr_l (I3.at 1) 8,?_⟩
    rw [show IntKind.wrap .i64 ((i:Int)+1)=((i+1:Nat):Int) by rw [IntKind.wrap_i64];omega]
    exact ih (i+1) p' c' _ (by omega) I5
  exact key 8 0 none 0 hx (by omega) I1
 have N0:=box_l h [.int .u64 a,.int .i64 b,.int .i64 (on:Int)] T.T_api_Config
 have J0:=(Hold.nil h).new N0
 generalize hh0:Array.push h (.cells #[.int .u64 a,.int .i64 b,.int .i64 (on:Int)] T.T_api_Config)=h0 at N0 J0 ⊢
 have N1:=box_l h0 z7 T.T_croftref7_Slab
 have J1:=J0.new N1
 generalize hh1:Array.push h0 (.cells #[.int .u64 0,.int .i64 0,.int .i64 0,.int .i64 0,.int .i64 0,.slice none 0 0,.slice none 0 0,.slice none 0 0,.slice none 0 0] T.T_croftref7_Slab)=h1 at N1 J1 ⊢
 have J1:Hold h h1 [lR h0.size z7,lR h.size [.int .u64 a,.int .i64 b,.int .i64 (on:Int)]]:=J1
 have B:=J1.at 1
 refine ⟨_,cell_l0 B,_,cell_l B 1,_,cell_l B 2,_,cell_l B 2,?_,?_⟩
 ·refine ref5_New_ok ho fun h8 fp fc N8=>⟨_,_,_,_,_,_,_,_,rfl,?_⟩
  have J8:=J1.new N8
  have B:=J8.at 2
  refine ⟨cell_l0 B,cell_l B 1,cell_l B 2,?_⟩
  have N9:=box_l h8 z7 T.T_croftref7_Slab
  have J9:=J8.new N9
  generalize hh9:Array.push h8 (.cells #[.int .u64 0,.int .i64 0,.int .i64 0,.int .i64 0,.int .i64 0,.slice none 0 0,.slice none 0 0,.slice none 0 0,.slice none 0 0] T.T_croftref7_Slab)=h9 at N9 J9 ⊢
  have J9:Hold h h9 [lR h8.size z7,slR fp (on+1) fc 1 (fun _=>.slice none 0 0),lR h0.size z7,lR h.size [.int .u64 a,.int .i64 b,.int .i64 (on:Int)]]:=J9
  have B:=J9.at 3
  refine ⟨cell_l B 2,cell_l0 B,cell_l B 1,cell_l B 2,?_⟩
  obtain ⟨w5,S5⟩:=assign_l (J9.at 0) (d7 a b on 0 fp (on+1) fc none 0 0 none 0 0 none 0 0)
  have J10:=J9.step 0 S5
  refine ⟨w5,mid _ h0.size h8.size fp fc ?_⟩
  exact (J10.sub (rs':=[lR h8.size (d7 a b on 0 fp (on+1) fc none 0 0 none 0 0 none 0 0),slR fp (on+1) fc 1 (fun _=>.slice none 0 0),lR h0.size z7]) (.cons_cons _ (.cons_cons _ (.cons_cons _ (.cons _ .slnil))))).swap2
 ·have N9:=box_l h1 z7 T.T_croftref7_Slab
  have J9:=J1.new N9
  generalize hh9:Array.push h1 (.cells #[.int .u64 0,.int .i64 0,.int .i64 0,.int .i64 0,.int .i64 0,.slice none 0 0,.slice none 0 0,.slice none 0 0,.slice none 0 0] T.T_croftref7_Slab)=h9 at N9 J9 ⊢
  have J9:Hold h h9 [lR h1.size z7,lR h0.size z7,lR h.size [.int .u64 a,.int .i64 b,.int .i64 (on:Int)]]:=J9
  have B:=J9.at 2
  refine ⟨cell_l B 2,cell_l0 B,cell_l B 1,cell_l B 2,?_⟩
  refine ref5_New_ok ho fun h8 fp fc N8=>⟨_,_,_,_,_,_,_,_,rfl,?_⟩
  have J8:=J9.new N8
  have B:=J8.at 3
  refine ⟨cell_l0 B,cell_l B 1,cell_l B 2,?_⟩
  obtain ⟨w5,S5⟩:=assign_l (J8.at 1) (d7 a b on 0 fp (on+1) fc none 0 0 none 0 0 none 0 0)
  have J10:=J8.step 1 S5
  refine ⟨w5,mid _ h0.size h1.size fp fc ?_⟩
  exact (J10.sub (rs':=[slR fp (on+1) fc 1 (fun _=>.slice none 0 0),lR h1.size (d7 a b on 0 fp (on+1) fc none 0 0 none 0 0 none 0 0),lR h0.size z7]) (.cons_cons _ (.cons_cons _ (.cons_cons _ (.cons _ .slnil))))).swap.swap2
end
end Go.Proofs.YteemmpkhdllapaaGreatDoor
namespace Go.Proofs.YteemmpkhdllapaaGreatDoor
open Go.V Classical
def iL (xs:List Int):Nat→Value:=fun i=>.int .i64 (xs.getD i 0)
def ptL (pt:Nat→Int):List Int:=(List.range 8).map pt
theorem ptL_len (pt:Nat→Int):(ptL pt).length=8:=by simp [ptL]
theorem iL_pt (pt:Nat→Int) {i:Nat} (hi:i<8):iL (ptL pt) i=.int .i64 (pt i):=by
 unfold iL ptL
 rw [List.getD_eq_getElem?_getD,List.getElem?_map,List.getElem?_range hi];rfl
section
variable {w₀:World} {h h':Heap} {K:Value→Heap→Prop}
theorem slab_New_ok {pb:Nat} (hK:∀(h':Heap) (sb:Nat),New h h' (blkR sb 9 (slF pb fun _=>-1))→K (gptr sb) h'):CallV Tryz.prog w₀ F.slab_New [gptr pb] h K:=by
 refine slab_New.call fun J2 hJ2 L3 hL3=>?_
 try dsimp only
 have N0:=box_l h [gptr pb,.int .i64 0,.int .i64 0,.int .i64 0,.int .i64 0,.int .i64 0,.int .i64 0,.int .i64 0,.int .i64 0] T.T_slab_Slab
 generalize hh0:Array.push h (.cells #[gptr pb,.int .i64 0,.int .i64 0,.int .i64 0,.int .i64 0,.int .i64 0,.int .i64 0,.int .i64 0,.int .i64 0] T.T_slab_Slab)=h0 at N0 ⊢
 have N1:New h h0 (blkR h.size 9 (slF pb fun j=>if j<0 then -1 else 0)):=N0.conv (fun P=>Blk.congr (f:=lF _) P fun i hi=>by
  have hi:i<9:=hi
  have:i=0∨i=1∨i=2∨i=3∨i=4∨i=5∨i=6∨i=7∨i=8:=by omega
  rcases this with rfl | rfl | rfl | rfl | rfl | rfl | rfl | rfl | rfl<;>rfl) fun _ e=>e
 have loop:∀(d i:Nat) (hx:Heap),i+d=8→New h hx (blkR h.size 9 (slF pb fun j=>if j<i then -1 else 0))→L3 [gptr h.size,.int .i64 (i:Int)] hx:=by
  intro d
  induction d with
  | zero =>
   intro i hx hi N
   have hi:i=8:=by omega
   subst hi
   refine hL3 _ _ _ (iF (by decide) (hJ2 _ _ (hK hx h.size (N.conv (fun P=>Blk.congr (f:=slF pb fun j=>if j<8 then -1 else 0) P fun j hj=>?_) fun _ e=>e))))
   cases j with
   | zero=>rfl
   | succ j =>
    show Value.int .i64 (if j<8 then -1 else 0)=.int .i64 (-1)
    rw [if_pos (by omega)]
  | succ d ih =>
   intro i hx hi N
   have B:Blk hx h.size 9 (slF pb fun j=>if j<i then -1 else 0):=N.p
   have ea:(((⟨h.size,0,none⟩ : Addr).add 1).add (Int.toNat (i:Int)*1))=⟨h.size,i+1,none⟩:=by
    rw [add_mk,add_mk,Int.toNat_natCast,Nat.mul_one,Nat.zero_add,Nat.add_comm]
   refine hL3 _ _ _ (iT (decide_eq_true (by omega)) ⟨_,rfl,by omega,by omega,?_,?_⟩)
   ·rw [ea];exact B.wr (by omega)
   rw [ea,show IntKind.wrap .i64 ((i:Int)+1)=((i+1:Nat):Int) by rw [IntKind.wrap_i64];omega]
   refine ih (i+1) _ (by omega) (N.stp (Stp.set B (i+1) _ fun j hj=>?_))
   cases j with
   | zero=>rw [if_neg (by omega)];rfl
   | succ j =>
    show _=Value.int .i64 (if j<i+1 then -1 else 0)
    by_cases e:j=i
    ·subst e;rw [if_pos rfl,if_pos (by omega)]
    ·rw [if_neg (by omega)]
     show Value.int .i64 (if j<i then -1 else 0)=_
     by_cases e2:j<i
     ·rw [if_pos e2,if_pos (by omega)]
     ·rw [if_neg e2,if_neg (by omega)]
 exact loop 8 0 h0 (by omega) N1
theorem Partial_ok {sb pb:Nat} {pt:Nat→Int} (B:Blk h sb 9 (slF pb pt)) (hK:∀(h':Heap) (q:Option Addr),New h h' (slR q 8 8 1 (iL (ptL pt)))→K (.slice q 8 8) h') :
  CallV Tryz.prog w₀ F.slab_Slab_Partial [gptr sb] h K:=by
 have N0:=sl_make h [.int .i64 0] T.T_int 8 8 (by omega)
 have R:Row h (some ⟨sb,1,none⟩) 8 (fun i=>slF pb pt (1+i)):=B.row 1 8 (by omega)
 have R1:=R.upd (h':=h.push (.cells (List.toArray (zrow [.int .i64 0] 8)) T.T_int)) N0.u (fun a e=>id)
 obtain ⟨b,eb,w,S⟩:=sl_sets N0.p 0 (lst 8 fun i=>slF pb pt (1+i)) (by simp [lst]) (by simp [lst])
 have hl:(lst 8 fun i=>slF pb pt (1+i)).length=8:=by simp [lst]
 refine slab_Slab_Partial.call ⟨by decide,by decide,by decide,_,rfl,by decide,by decide,by decide,lst 8 (fun i=>slF pb pt (1+i)),⟨by rw [hl];rfl,R1.rowAt,fun v hv=>?_,fun a ea=>?_⟩,?_⟩
 ·obtain ⟨i,hi,e⟩:=List.mem_map.1 hv
  have:=List.mem_range.1 hi
  rw [←e,Nat.add_comm]
  rfl
 ·have:a=⟨b,0,none⟩:=Option.some.inj (ea.symm.trans eb)
  rw [this];exact w
 ·have eb':b=h.size:=by
   have:=Option.some.inj eb
   simpa using this.symm
  subst eb'
  refine hK _ (some ⟨h.size,0,none⟩) ((N0.stp S).conv (fun P=>sl_congr P fun i hi=>?_) fun _ e=>e)
  have hi:i<8:=by omega
  rw [hl,if_pos ⟨by omega,by omega⟩,Nat.sub_zero,lst_getD hi,iL_pt pt hi,Nat.add_comm]
  rfl
theorem Open_ok {pb cp:Nat} {p:Option Addr} {pt:Nat→Int} (R:Row h p 8 (iL (ptL pt))) (hK:∀(h':Heap) (sb:Nat),New h h' (blkR sb 9 (slF pb pt))→K (.tuple #[gptr sb,.int .i64 0]) h') :
  CallV Tryz.prog w₀ F.slab_Open [gptr pb,.slice p 8 cp] h K:=by
 have N0:=box_l h [gptr pb,.int .i64 0,.int .i64 0,.int .i64 0,.int .i64 0,.int .i64 0,.int .i64 0,.int .i64 0,.int .i64 0] T.T_slab_Slab
 have R1:=R.upd N0.u (fun a e=>id)
 have hl:(lst 8 (iL (ptL pt))).length=8:=by simp [lst]
 have S:=Stp.sets N0.p (lst 8 (iL (ptL pt))) 1 0 (g:=slF pb pt) fun j hj=>by
  have hj:j<9:=hj
  rw [hl]
  cases j with
  | zero=>rw [if_neg (by omega)];rfl
  | succ j =>
   rw [if_pos ⟨by omega,by omega⟩,show j+1-(1+0)=j by omega,lst_getD (by omega),iL_pt pt (by omega)]
   rfl
 refine slab_Open.call (iF rfl ⟨_,rfl,by decide,by decide,by decide,lst 8 (iL (ptL pt)),⟨by rw [hl];rfl,R1.rowAt,fun v hv=>?_,fun a ea=>?_⟩,hK _ h.size (N0.stp S)⟩)
 ·obtain ⟨i,hi,e⟩:=List.mem_map.1 hv
  rw [←e];rfl
 ·have:a=⟨h.size,1,none⟩:=(Option.some.inj ea).symm
  rw [this,hl]
  intro j hj
  rw [add_mk]
  exact Blk.wr (f:=lF _) N0.p (by show 1+(0+j)<9;omega)
theorem Open_no {pb n cp:Nat} {p:Option Addr} (hn:n≠8) (hK:K (.tuple #[.pointer none,.int .i64 7]) h):CallV Tryz.prog w₀ F.slab_Open [gptr pb,.slice p n cp] h K :=
 slab_Open.call (iT (by simpa using fun e=>hn (by omega)) hK)
theorem ints7_ok {xs ys:List Int} {p q:Option Addr} {cp cq:Nat} (hx:xs.length<4611686018427387904) (P:Row h p xs.length (iL xs)) (Q:Row h q ys.length (iL ys)) (hK:K (.bool (decide (xs=ys))) h) :
  CallV Tryz.prog w₀ F.croftlaw7_ints [.slice p xs.length cp,.slice q ys.length cq] h K:=by
 refine croftlaw7_ints.call ?_
 try dsimp only
 by_cases hl:xs.length=ys.length
 ·refine iF (by simp [hl]) fun J1 hJ1 L2 hL2=>?_
  have loop:∀(k i:Nat),i+k=xs.length→(∀j,j<i→xs[j]? = ys[j]?)→L2 [.slice p xs.length cp,.slice q ys.length cq,.int .i64 ((i:Nat):Int)] h:=by
   intro k
   induction k with
   | zero =>
    intro i hi he
    refine hL2 _ _ _ _ _ _ _ _ (iF (decide_eq_false (by omega)) (hJ1 _ ?_))
    have:xs=ys:=List.ext_getElem? fun j=>by
     rcases Nat.lt_or_ge j i with h1 | h1
     ·exact he j h1
     ·rw [List.getElem?_eq_none (by omega),List.getElem?_eq_none (by omega)]
    rwa [decide_eq_true this] at hK
   | succ k ih =>
    intro i hi he
    refine hL2 _ _ _ _ _ _ _ _ (iT (decide_eq_true (by omega)) ?_)
    rcases P with P | ⟨b,o,rfl,P⟩
    ·omega
    rcases Q with Q | ⟨b',o',rfl,Q⟩
    ·omega
    refine ⟨_,rfl,by omega,Int.ofNat_lt.2 (by omega),xs.getD i 0,?_,_,rfl,by omega,Int.ofNat_lt.2 (by omega),ys.getD i 0,?_,?_⟩
    ·simp only [add_mk,Int.toNat_natCast,Nat.mul_one];exact P i (by omega)
    ·simp only [add_mk,Int.toNat_natCast,Nat.mul_one];exact Q i (by omega)
    by_cases hv:xs.getD i 0=ys.getD i 0
    ·refine iF (eq_b hv) ?_
     rw [IntWalk.i64_in _ (by omega)]
     have:=ih (i+1) (by omega) fun j hj=>by
      rcases Nat.lt_or_ge j i with h1 | h1
      ·exact he j h1
      ·have:j=i:=by omega
       subst this
       rw [List.getD_eq_getElem?_getD,List.getD_eq_getElem?_getD,List.getElem?_eq_getElem (by omega),List.getElem?_eq_getElem (by omega)] at hv
       rw [List.getElem?_eq_getElem (by omega),List.getElem?_eq_getElem (by omega)]
       simpa using hv
     simpa using this
    ·refine iT (ne_b hv) ?_
     have:xs≠ys:=fun e=>hv (by rw [e])
     rwa [decide_eq_false this] at hK
  exact loop xs.length 0 (by omega) fun j hj=>by omega
 ·refine iT (by simpa using fun e=>hl (by omega)) ?_
  have:xs≠ys:=fun e=>hl (by rw [e])
  rwa [decide_eq_false this] at hK
noncomputable def usual7 (a b d:Int):Cfg:=if Cfg.Good ⟨a,b,d⟩ then ⟨a,b,d⟩ else ⟨65536,1,1⟩
theorem good1:Cfg.Good ⟨65536,1,1⟩:=good_iff.2 (by decide)
theorem usual7_good (a b d:Int):(usual7 a b d).Good:=by
 unfold usual7
 split
 ·assumption
 ·exact good1
theorem usual7_u64 {a b d:Int} (ha:U64 a):U64 (usual7 a b d).base:=by
 unfold usual7
 split
 ·exact ha
 ·show U64 65536;unfold U64;omega
structure DV where
 fp:Option Addr
 fc:Nat
 qp:Option Addr
 qc:Nat
abbrev w7L (c:Cfg) (Q:SL) (l:List Value):List Value:=[.int .u64 c.base,.int .i64 c.limit,.int .i64 c.order,gptr Q.pl.pb,gptr Q.sb]++l
abbrev w7R (c:Cfg) (wb:Nat) (l:List Value) (Q:SL) (x:BU) (pt:Nat→Int):Res:=andR (lR wb (w7L c Q l)) (sR c Q x pt)
theorem begin7_ok {a b d:Int} (ha:U64 a)
  (hK:∀(h':Heap) (wb:Nat) (Q:SL) (on:Nat) (fp qp:Option Addr) (fc qc:Nat),(usual7 a b d).order=on→New h h' (andR (w7R (usual7 a b d) wb (d7 (usual7 a b d).base (usual7 a b d).limit on 0 fp (on+1) fc none 0 0 none 0 0 qp 8 qc) Q (BU0 (usual7 a b d)) fun _=>-1)
   (andR (slR fp (on+1) fc 1 fun _=>.slice none 0 0) (slR qp 8 qc 1 fun _=>.slice none 0 0)))→K (gptr wb) h') :
  CallV Tryz.prog w₀ F.croftlaw7_begin [.agg #[.int .u64 a,.int .i64 b,.int .i64 d]] h K:=by
 refine croftlaw7_begin.call fun J2 hJ2=>?_
 try dsimp only
 have hu:=usual7_u64 (b:=b) (d:=d) ha
 have g:=usual7_good a b d
 obtain ⟨on,hon⟩ : ∃on:Nat,(usual7 a b d).order=on:=⟨(usual7 a b d).order.toNat,by have:=g.o0;omega⟩
 have ho8:on≤8:=by have:=g.o8;omega
 have tail:∀(hx:Heap) (bx:Nat),Hold h hx [lR bx [.int .u64 (usual7 a b d).base,.int .i64 (usual7 a b d).limit,.int .i64 (usual7 a b d).order]]→J2 [gptr bx] hx:=by
  intro hx bx I
  generalize usual7 a b d=c at hK hu g hon I
  have B:=I.at 0
  refine hJ2 _ _ ⟨_,cell_l0 B,_,cell_l B 1,_,cell_l B 2,region_New_ok (a:=c.base) (b:=c.limit) (d:=c.order) hu (fun hn=>absurd g hn) fun _ h1 P N1=>⟨_,_,rfl,fun J4 hJ4=>pF rfl (hJ4 _ _ (iF rfl ?_))⟩⟩
  have I1:=I.new N1
  refine slab_New_ok fun h2 sb N2=>⟨_,rfl,fun J6 hJ6=>pF rfl ⟨_,rfl,?_⟩⟩
  have I2:=I1.new N2
  have HP:=I2.at 1
  refine ground_Space_ok HP ⟨_,rfl,hJ6 _ _ fun J7 hJ7=>pF rfl ⟨_,rfl,ground_Map_ok HP ⟨_,rfl,hJ7 _ _ fun J8 hJ8=>pF rfl ⟨_,rfl,ground_Buddy_ok HP ⟨_,rfl,hJ8 _ _ (iF rfl ?_)⟩⟩⟩⟩⟩
  have B:=I2.at 2
  refine ⟨_,cell_l0 B,_,cell_l B 1,_,cell_l B 2,_,cell_l0 B,_,cell_l B 1,_,cell_l B 2,?_⟩
  rw [hon]
  refine ref7_New_ok ho8 fun h3 fp qp fc qc N3=>⟨_,_,_,_,_,_,_,_,_,_,_,_,_,_,_,_,_,rfl,?_⟩
  have I3:=I2.new N3
  have B:=I3.at 3
  rw [←hon]
  refine ⟨cell_l0 B,cell_l B 1,cell_l B 2,?_⟩
  have N4:=box_l h3 (w7L c ⟨sb,P⟩ (d7 c.base c.limit on 0 fp (on+1) fc none 0 0 none 0 0 qp 8 qc)) T.T_croftlaw7_world
  have I4:=I3.new N4
  rw [hon]
  have N4':w7L c ⟨sb,P⟩ (d7 c.base c.limit on 0 fp (on+1) fc none 0 0 none 0 0 qp 8 qc)=[.int .u64 c.base,.int .i64 c.limit,.int .i64 (on:Int),gptr P.pb,gptr sb]++d7 c.base c.limit on 0 fp (on+1) fc none 0 0 none 0 0 qp 8 qc:=by
   show ([.int .u64 c.base,.int .i64 c.limit,.int .i64 c.order,gptr P.pb,gptr sb]:List Value)++_=_
   rw [hon]
  rw [N4'] at I4
  refine hK _ h3.size ⟨sb,P⟩ on fp qp fc qc hon ?_
  unfold w7R
  rw [N4']
  have I5:=(I4.sub (rs':=[_,_,_,_]) (.cons_cons _ (.cons_cons _ (.cons_cons _ (.cons_cons _ (.cons _ .slnil))))))
  exact I5.front3.front4.swap.join.swap.join.join.toNew
 have N0:=box_l h [.int .u64 a,.int .i64 b,.int .i64 d] T.T_api_Config
 have I0:=(Hold.nil h).new N0
 have B:=I0.at 0
 refine ⟨_,cell_l0 B,_,cell_l B 1,_,cell_l B 2,ref2_May_ok ha fun h1 u1=>⟨_,rfl,?_⟩⟩
 have I1:=I0.quiet u1
 by_cases hg:Cfg.Good ⟨a,b,d⟩
 ·have e:usual7 a b d=⟨a,b,d⟩:=by unfold usual7;rw [if_pos hg]
  refine iF (by rw [decide_eq_true hg];rfl) (tail h1 _ ?_)
  rw [e];exact I1
 ·have e:usual7 a b d=⟨65536,1,1⟩:=by unfold usual7;rw [if_neg hg]
  obtain ⟨w2,S2⟩:=assign_l (I1.at 0) [.int .u64 65536,.int .i64 1,.int .i64 1]
  have I2:=I1.step 0 S2
  refine iT (by rw [decide_eq_false hg];rfl) ⟨w2,tail _ _ ?_⟩
  rw [e];exact I2
end
end Go.Proofs.YteemmpkhdllapaaGreatDoor
namespace Go.Proofs.YteemmpkhdllapaaGreatDoor
open Go.V Classical
def hdE:List Nat→Int→Int
 | [],b=>b
 | q::_,_=>q
def lastE:List Nat→Int→Int
 | [],a=>a
 | p::l,_=>lastE l p
def CS (pg:Nat→Nat→Int):List Nat→Int→Int→Prop
 | [],_,_=>True
 | p::l,a,b=>pg p 5=a∧pg p 4=hdE l b∧CS pg l p b
theorem CS_append {pg:Nat→Nat→Int}:∀{l1 l2:List Nat} {a b:Int},CS pg (l1++l2) a b↔CS pg l1 a (hdE l2 b)∧CS pg l2 (lastE l1 a) b
 | [],l2,a,b=>by simp [CS,lastE]
 | p::l1,l2,a,b=>by
  have ih:=CS_append (pg:=pg) (l1:=l1) (l2:=l2) (a:=p) (b:=b)
  have e:hdE (l1++l2) b=hdE l1 (hdE l2 b):=by cases l1<;>rfl
  simp only [List.cons_append,CS,lastE,ih,e,and_assoc]
theorem CS_congr {pg pg':Nat→Nat→Int}:∀{l:List Nat} {a b:Int},(∀p∈l,pg' p 4=pg p 4∧pg' p 5=pg p 5)→CS pg l a b→CS pg' l a b
 | [],_,_,_,_=>trivial
 | p::l,a,b,h,H=>by
  obtain ⟨h1,h2⟩:=h p (List.mem_cons_self ..)
  exact ⟨h2.trans H.1,h1.trans H.2.1,CS_congr (fun q hq=>h q (List.mem_cons_of_mem _ hq)) H.2.2⟩
theorem CS_head {pg pg':Nat→Nat→Int} {l:List Nat} {a a' b:Int} (nd:l.Nodup) (h:∀p,p∈l→hdE l (-1)≠p→pg' p 4=pg p 4∧pg' p 5=pg p 5) (h0:∀p l',l=p::l'→pg' p 4=pg p 4∧pg' p 5=a') (H:CS pg l a b):CS pg' l a' b:=by
 cases l with
 | nil=>trivial
 | cons p l =>
  obtain ⟨e1,e2⟩:=h0 p l rfl
  refine ⟨e2,e1.trans H.2.1,CS_congr (fun q hq=>h q (List.mem_cons_of_mem _ hq) fun e=>?_) H.2.2⟩
  have e:(p:Int)=q:=e
  have:p=q:=by omega
  subst this
  exact (List.nodup_cons.1 nd).1 hq
theorem lastE_mem:∀{l:List Nat} {a:Int},l≠[]→∃q∈l,lastE l a=q
 | [],_,h=>absurd rfl h
 | [p],_,_=>⟨p,List.mem_cons_self ..,rfl⟩
 | p::q::l,a,_=>by
  obtain ⟨r,hr,e⟩:=lastE_mem (l:=q::l) (a:=p) (by simp)
  exact ⟨r,List.mem_cons_of_mem _ hr,e⟩
theorem CS_last {pg pg':Nat→Nat→Int}:∀{l:List Nat} {a b b':Int},l.Nodup→(∀p∈l,lastE l a≠p→pg' p 4=pg p 4∧pg' p 5=pg p 5)→(∀p∈l,lastE l a=p→pg' p 4=b'∧pg' p 5=pg p 5)→CS pg l a b→CS pg' l a b'
 | [],_,_,_,_,_,_,_=>trivial
 | [p],a,b,b',nd,h,h0,H=>by
  obtain ⟨e1,e2⟩:=h0 p (List.mem_cons_self ..) rfl
  exact ⟨e2.trans H.1,e1,trivial⟩
 | p::q::l,a,b,b',nd,h,h0,H=>by
  have hl:lastE (p::q::l) a=lastE (q::l) p:=rfl
  obtain ⟨r,hr,er⟩:=lastE_mem (l:=q::l) (a:=p) (by simp)
  have hne:lastE (p::q::l) a≠p:=by
   rw [hl,er]
   intro e
   have:r=p:=by omega
   subst this
   exact (List.nodup_cons.1 nd).1 hr
  obtain ⟨e1,e2⟩:=h p (List.mem_cons_self ..) hne
  exact ⟨e2.trans H.1,e1.trans H.2.1,CS_last (l:=q::l) (a:=p) (List.nodup_cons.1 nd).2 (fun s hs hn=>h s (List.mem_cons_of_mem _ hs) hn) (fun s hs hn=>h0 s (List.mem_cons_of_mem _ hs) hn) H.2.2⟩
def lkV (a:Int) (w:Nat):List Nat→Int
 | []=>0
 | i::_=>a+((i*w:Nat):Int)
def Lnk (c:Cfg) (st:Sto) (a:Int) (w:Nat):List Nat→Prop
 | []=>True
 | j::l=>st.rd c (a+((j*w:Nat):Int))=lkV a w l∧Lnk c st a w l
theorem Lnk_congr {c:Cfg} {st st':Sto} {a:Int} {w:Nat}:∀{l:List Nat},(∀j∈l,st'.rd c (a+((j*w:Nat):Int))=st.rd c (a+((j*w:Nat):Int)))→Lnk c st a w l→Lnk c st' a w l
 | [],_,_=>trivial
 | j::l,h,H=>⟨(h j (List.mem_cons_self ..)).trans H.1,Lnk_congr (fun i hi=>h i (List.mem_cons_of_mem _ hi)) H.2⟩
structure PgI (P:Nat→Int) (k:Nat) (f:List Nat):Prop where
 k0:P 0=4
 k1:P 1=0
 k2:P 2=k
 k3:P 3=(cnt k:Int)-f.length
 k6:P 6=hdE f (-1)
 bit:∀j,j<256→pbit P j=(decide (j<cnt k) && !decide (j∈f))
theorem ncells_k {P:Nat→Int} {k:Nat} (h:P 2=k):ncells P=cnt k:=by unfold ncells cnt;rw [h];rfl
theorem chainP_bit (P:Nat→Int) (a b:Int) (j:Nat):pbit (chainP P a b) j=pbit P j:=by
 unfold pbit chainP
 rw [if_neg (by omega),if_neg (by omega)]
theorem firstP_bit (P:Nat→Int) (a:Int) (j:Nat):pbit (firstP P a) j=pbit P j:=by
 unfold pbit firstP
 rw [if_neg (by omega)]
theorem PgI.chain {P:Nat→Int} {k:Nat} {f:List Nat} (H:PgI P k f) (a b:Int):PgI (chainP P a b) k f :=
 ⟨H.k0,H.k1,H.k2,H.k3,H.k6,fun j hj=>by rw [chainP_bit];exact H.bit j hj⟩
theorem pown_bit {P:Nat→Int} {j:Nat} {l:Bool} (hP:∀j,j<11→7≤j→0≤P j) (hj:j<256) (i:Nat) (hi:i<256):pbit (pown P j l) i=(pbit P i ^^ decide (i=j)):=by
 unfold pbit pown
 rw [if_neg (by omega)]
 by_cases e:7+i / 64=7+j / 64
 ·rw [if_pos e,Int.toNat_natCast,Nat.testBit_xor,Nat.testBit_two_pow]
  have e':i / 64=j / 64:=by omega
  rw [e']
  congr 1
  by_cases e2:i=j
  ·subst e2;simp
  ·simp only [e2,decide_false]
   exact decide_eq_false (by omega)
 ·rw [if_neg e]
  have:i≠j:=fun h=>e (by rw [h])
  simp [this]
theorem PgI.take {P:Nat→Int} {k:Nat} {j:Nat} {f:List Nat} (H:PgI P k (j::f)) (T:PgT P) (hk:k<8) (hj:j<cnt k) (nd:(j::f).Nodup) (hl:(j::f).length≤256):PgI (firstP (pown P j true) (hdE f (-1))) k f:=by
 have hc:=(cnt_wdt hk).2.2.2.1
 have h3:=H.k3
 rw [List.length_cons] at h3 hl
 refine ⟨?_,?_,?_,?_,?_,fun i hi=>?_⟩
 ·unfold firstP pown;rw [if_neg (by omega),if_neg (by omega),if_neg (by omega)];exact H.k0
 ·unfold firstP pown;rw [if_neg (by omega),if_neg (by omega),if_neg (by omega)];exact H.k1
 ·unfold firstP pown;rw [if_neg (by omega),if_neg (by omega),if_neg (by omega)];exact H.k2
 ·unfold firstP pown
  rw [if_neg (by omega),if_pos rfl,if_pos rfl,h3,wI (by unfold bd63;omega)]
  omega
 ·unfold firstP;rw [if_pos rfl]
 ·rw [firstP_bit,pown_bit (fun j h1 h2=>(T.u j h1 h2).1) (by omega) i hi,H.bit i hi]
  have n1:=(List.nodup_cons.1 nd).1
  by_cases e:i=j
  ·subst e
   simp [n1,hj]
  ·simp [e]
theorem PgI.give {P:Nat→Int} {k:Nat} {j:Nat} {f:List Nat} (H:PgI P k f) (T:PgT P) (hk:k<8) (hj:j<cnt k) (hn:j∉f) (hl:f.length≤256):PgI (firstP (pown P j false) j) k (j::f):=by
 have hc:=(cnt_wdt hk).2.2.2.1
 have h3:=H.k3
 refine ⟨?_,?_,?_,?_,?_,fun i hi=>?_⟩
 ·unfold firstP pown;rw [if_neg (by omega),if_neg (by omega),if_neg (by omega)];exact H.k0
 ·unfold firstP pown;rw [if_neg (by omega),if_neg (by omega),if_neg (by omega)];exact H.k1
 ·unfold firstP pown;rw [if_neg (by omega),if_neg (by omega),if_neg (by omega)];exact H.k2
 ·unfold firstP pown
  rw [if_neg (by omega),if_pos rfl,if_neg (by decide),h3,List.length_cons,wI (by unfold bd63;omega)]
  omega
 ·unfold firstP;rw [if_pos rfl];rfl
 ·rw [firstP_bit,pown_bit (fun j h1 h2=>(T.u j h1 h2).1) (by omega) i hi,H.bit i hi]
  by_cases e:i=j
  ·subst e
   simp [hn,hj]
  ·simp [e]
theorem PgI.born {k:Nat} (hk:k<8):PgI (firstP (slabP k) 0) k (List.range (cnt k)):=by
 have hc:=cnt_wdt hk
 refine ⟨rfl,rfl,rfl,?_,?_,fun i hi=>?_⟩
 ·rw [List.length_range]
  show (0:Int)=_
  omega
 ·show (0:Int)=hdE (List.range (cnt k)) (-1)
  obtain ⟨n,hn⟩ : ∃n,cnt k=n+1:=⟨cnt k-1,by omega⟩
  rw [hn,List.range_succ_eq_map]
  rfl
 ·rw [firstP_bit]
  have:pbit (slabP (k:Int)) i=false:=by
   unfold pbit slabP
   rw [if_neg (by omega)]
   have h4:i / 64=0∨i / 64=1∨i / 64=2∨i / 64=3:=by omega
   rcases h4 with e | e | e | e<;>rw [e]<;>simp [plainP]
  rw [this]
  by_cases h:i<cnt k<;>simp [h]
section
variable {m:MS} {n:Nat}
theorem chainU_pg {q:Nat} {a b:Int} (hq:q<m.n) (h4:m.pg q 0=4) (ha : -1≤a∧a<m.n) (hb : -1≤b∧b<m.n):(chainU m q a b).pg=putP m.pg q (chainP (m.pg q) a b):=by
 unfold chainU
 rw [if_pos (show chainOk m q a b from ⟨by omega,by omega,by rw [Int.toNat_natCast];exact h4,ha.1,ha.2,hb.1,hb.2⟩)]
 simp only [setPg,Int.toNat_natCast]
theorem pgA_nat {q:Nat} (hq:q<m.n):pgA m q=m.pg q:=by unfold pgA;rw [if_pos ⟨by omega,by omega⟩,Int.toNat_natCast]
theorem putP_same (pg:Nat→Nat→Int) (q:Nat) (P:Nat→Int):putP pg q P q=P:=by unfold putP;rw [if_pos rfl]
theorem putP_ne (pg:Nat→Nat→Int) {q r:Nat} (P:Nat→Int) (h:r≠q):putP pg q P r=pg r:=by unfold putP;rw [if_neg h]
theorem hdE_bd {l:List Nat} (h:∀p∈l,p<n) : -1≤hdE l (-1)∧hdE l (-1)<n∨n=0:=by
 cases l with
 | nil=>by_cases e:n=0;exact .inr e;left;show -1≤(-1:Int)∧(-1:Int)<n;omega
 | cons q l=>have:=h q (List.mem_cons_self ..);left;show (-1:Int)≤(q:Int)∧(q:Int)<n;omega
structure Nb (pg pg':Nat→Nat→Int) (U:Nat→Prop):Prop where
 o:∀q,¬U q→pg' q=pg q
 i:∀q,∃a b,pg' q=chainP (pg q) a b∨pg' q=pg q
theorem Nb.pgI {pg pg':Nat→Nat→Int} {U:Nat→Prop} (H:Nb pg pg' U) {q k:Nat} {f:List Nat} (h:PgI (pg q) k f):PgI (pg' q) k f:=by
 obtain ⟨a,b,e | e⟩:=H.i q
 ·rw [e];exact h.chain a b
 ·rw [e];exact h
theorem chainP_chainP (P:Nat→Int) (a b a' b':Int):chainP (chainP P a b) a' b'=chainP P a' b':=by
 funext j
 unfold chainP
 by_cases h4:j=4<;>by_cases h5:j=5<;>simp [h4,h5]
theorem Nb.put {pg pg':Nat→Nat→Int} {U:Nat→Prop} (H:Nb pg pg' U) {q:Nat} (hq:U q) (a b:Int):Nb pg (putP pg' q (chainP (pg' q) a b)) U:=by
 refine ⟨fun r hr=>?_,fun r=>?_⟩
 ·rw [putP_ne _ _ (fun e:r=q=>hr (e.symm▸hq))];exact H.o r hr
 ·by_cases e:r=q
  ·subst e
   rw [putP_same]
   obtain ⟨a1,b1,e1 | e1⟩:=H.i r
   ·exact ⟨a,b,.inl (by rw [e1,chainP_chainP])⟩
   ·exact ⟨a,b,.inl (by rw [e1])⟩
  ·rw [putP_ne _ _ e];exact H.i r
theorem Nb.refl (pg:Nat→Nat→Int) (U:Nat→Prop):Nb pg pg U:=⟨fun _ _=>rfl,fun _=>⟨0,0,.inr rfl⟩⟩
theorem hang_sim {pt:Nat→Int} {p k:Nat} {l:List Nat} (hl:∀q∈p::l,q<m.n∧m.pg q 0=4) (nd:(p::l).Nodup) (hh:pt k=hdE l (-1)) (H:CS m.pg l (-1) (-1)) :
  CS (hangM m pt p k).pg (p::l) (-1) (-1)∧Nb m.pg (hangM m pt p k).pg (fun q=>q∈p::l):=by
 obtain ⟨hp,hp4⟩:=hl p (List.mem_cons_self ..)
 have n1:=List.nodup_cons.1 nd
 have hb : -1≤hdE l (-1)∧hdE l (-1)<m.n:=by
  rcases hdE_bd (n:=m.n) (l:=l) fun q hq=>(hl q (List.mem_cons_of_mem _ hq)).1 with h | h
  ·exact h
  ·omega
 have e1:(chainU m p (pt k) (-1)).pg=putP m.pg p (chainP (m.pg p) (pt k) (-1)):=chainU_pg hp hp4 (by rw [hh];exact hb) (by omega)
 have B1:=(Nb.refl m.pg (fun q=>q∈p::l)).put (List.mem_cons_self ..) (pt k) (-1)
 rw [←e1] at B1
 cases l with
 | nil =>
  have hneg:¬0≤pt k:=by rw [hh];decide
  have e:hangM m pt p k=chainU m p (pt k) (-1):=by unfold hangM;simp only [];rw [if_neg hneg]
  rw [e]
  refine ⟨?_,B1⟩
  rw [e1]
  refine ⟨by rw [putP_same];rfl,by rw [putP_same];exact hh,trivial⟩
 | cons q l =>
  have hq0:pt k=(q:Int):=hh
  obtain ⟨hq,hq4⟩:=hl q (List.mem_cons_of_mem _ (List.mem_cons_self ..))
  have hqp:q≠p:=fun e=>n1.1 (e▸List.mem_cons_self ..)
  have e:hangM m pt p k=chainU (chainU m p (pt k) (-1)) q (pgA (chainU m p (pt k) (-1)) q 4) p:=by
   unfold hangM;simp only [];rw [if_pos (by omega),hq0]
  have hpgq:(chainU m p (pt k) (-1)).pg q=m.pg q:=by rw [e1,putP_ne _ _ hqp]
  have e2:pgA (chainU m p (pt k) (-1)) q 4=hdE l (-1):=by
   rw [pgA_nat (by simpa using hq),hpgq];exact H.2.1
  have hb2 : -1≤hdE l (-1)∧hdE l (-1)<m.n:=by
   rcases hdE_bd (n:=m.n) (l:=l) fun r hr=>(hl r (List.mem_cons_of_mem _ (List.mem_cons_of_mem _ hr))).1 with h | h
   ·exact h
   ·omega
  have e3:(hangM m pt p k).pg=putP (chainU m p (pt k) (-1)).pg q (chainP ((chainU m p (pt k) (-1)).pg q) (hdE l (-1)) p):=by
   rw [e,e2]
   exact chainU_pg (by simpa using hq) (by rw [hpgq];exact hq4) (by simpa using hb2) (by simp;omega)
  refine ⟨?_,?_⟩
  ·rw [e3]
   refine ⟨?_,?_,?_⟩
   ·rw [putP_ne _ _ (Ne.symm hqp),e1,putP_same];rfl
   ·rw [putP_ne _ _ (Ne.symm hqp),e1,putP_same];exact hh
   ·refine CS_head n1.2 (fun r hr hne=>?_) (fun r l' er=>?_) H
    ·have hrq:r≠q:=fun e=>hne (by rw [e];rfl)
     have hrp:r≠p:=fun e=>n1.1 (e▸hr)
     rw [putP_ne _ _ hrq,e1,putP_ne _ _ hrp]
     exact ⟨rfl,rfl⟩
    ·cases er
     rw [putP_same]
     exact ⟨H.2.1.symm▸rfl,rfl⟩
  ·rw [e3]
   exact B1.put (List.mem_cons_of_mem _ (List.mem_cons_self ..)) _ _
theorem unhang_sim {pt:Nat→Int} {p k:Nat} {l1 l2:List Nat} (hl:∀q∈l1++p::l2,q<m.n∧m.pg q 0=4) (nd:(l1++p::l2).Nodup) (hh:pt k=hdE (l1++p::l2) (-1)) (H:CS m.pg (l1++p::l2) (-1) (-1)) :
  CS (unhangM m p).pg (l1++l2) (-1) (-1)∧(unhangM m p).pg p 4=-1∧(unhangM m p).pg p 5=-1∧Nb m.pg (unhangM m p).pg (fun q=>q∈l1++p::l2)∧unhangP m pt p k=fset pt k (hdE (l1++l2) (-1)):=by
 have hpm:p∈l1++p::l2:=by simp
 obtain ⟨hp,hp4⟩:=hl p hpm
 obtain ⟨A,B⟩:=CS_append.1 H
 obtain ⟨p5,p4,C⟩:=B
 have A:CS m.pg l1 (-1) p:=A
 have nd':=List.nodup_append.1 nd
 have nd2:=List.nodup_cons.1 nd'.2.1
 have ePA:pgA m p=m.pg p:=pgA_nat hp
 have n1p:p∉l1:=fun h=>nd'.2.2 p h p (List.mem_cons_self ..) rfl
 have dj:∀q∈l1,q∉l2:=fun q h h2=>nd'.2.2 q h q (List.mem_cons_of_mem _ h2) rfl
 have bd2 : -1≤hdE l2 (-1)∧hdE l2 (-1)<m.n:=by
  rcases hdE_bd (n:=m.n) (l:=l2) fun r hr=>(hl r (by simp [hr])).1 with h | h
  ·exact h
  ·omega
 have bd1 : -1≤lastE l1 (-1)∧lastE l1 (-1)<m.n:=by
  by_cases e:l1=[]
  ·rw [e];show -1≤(-1:Int)∧(-1:Int)<_;omega
  ·obtain ⟨q,hq,eq⟩:=lastE_mem (a:=-1) e
   have:=(hl q (by simp [hq])).1
   rw [eq];omega
 have SA:CS (unA m p).pg l1 (-1) (hdE l2 (-1))∧(∀q,q∉l1→(unA m p).pg q=m.pg q)∧Nb m.pg (unA m p).pg (fun q=>q∈l1++p::l2)∧unhangP m pt p k=fset pt k (hdE (l1++l2) (-1)):=by
  by_cases e:l1=[]
  ·subst e
   have h5:m.pg p 5=-1:=p5
   have eu:unA m p=m:=by unfold unA;rw [ePA,h5,if_neg (by decide)]
   rw [eu]
   refine ⟨trivial,fun q _=>rfl,Nb.refl _ _,?_⟩
   unfold unhangP
   rw [ePA,h5,if_neg (by decide),p4]
   rfl
  ·obtain ⟨r,hr,er⟩:=lastE_mem (a:=-1) e
   have h5:m.pg p 5=(r:Int):=p5.trans er
   obtain ⟨hrn,hr4⟩:=hl r (by simp [hr])
   have eu:unA m p=chainU m r (hdE l2 (-1)) (m.pg r 5):=by
    unfold unA;rw [ePA,h5,if_pos (by omega),pgA_nat hrn,p4]
   have b5 : -1≤m.pg r 5∧m.pg r 5<m.n:=by
    obtain ⟨s,t,est⟩:=List.append_of_mem hr
    have A2:=A
    rw [est] at A2
    have:=(CS_append.1 A2).2.1
    rw [this]
    by_cases e2:s=[]
    ·rw [e2];show -1≤(-1:Int)∧(-1:Int)<_;omega
    ·obtain ⟨q,hq,eq⟩:=lastE_mem (a:=-1) e2
     have:=(hl q (by rw [est];simp [hq])).1
     rw [eq];omega
   have epg:(unA m p).pg=putP m.pg r (chainP (m.pg r) (hdE l2 (-1)) (m.pg r 5)):=by rw [eu];exact chainU_pg hrn hr4 bd2 b5
   refine ⟨?_,fun q hq=>?_,?_,?_⟩
   ·rw [epg]
    refine CS_last nd'.1 (fun q hq hne=>?_) (fun q hq he=>?_) A
    ·rw [putP_ne _ _ (fun e=>hne (by rw [er,e]))];exact ⟨rfl,rfl⟩
    ·have:q=r:=by rw [er] at he;omega
     subst this
     rw [putP_same]
     exact ⟨rfl,rfl⟩
   ·rw [epg,putP_ne _ _ (fun e:q=r=>hq (e.symm▸hr))]
   ·rw [epg];exact (Nb.refl m.pg _).put (show r∈l1++p::l2 by simp [hr]) _ _
   ·unfold unhangP
    rw [ePA,h5,if_pos (by omega)]
    cases l1 with
    | nil=>exact absurd rfl e
    | cons q l1 =>
     have:pt k=(q:Int):=hh
     funext j
     unfold fset
     by_cases ej:j=k
     ·rw [if_pos ej,ej,this];rfl
     ·rw [if_neg ej]
 obtain ⟨SA1,SA2,SA3,SA4⟩:=SA
 have oA:(unA m p).n=m.n:=by unfold unA;split<;>simp
 have SB:CS (unB m p).pg l1 (-1) (hdE l2 (-1))∧CS (unB m p).pg l2 (lastE l1 (-1)) (-1)∧(unB m p).pg p=m.pg p∧Nb m.pg (unB m p).pg (fun q=>q∈l1++p::l2):=by
  cases l2 with
  | nil =>
   have h4:m.pg p 4=-1:=p4
   have eu:unB m p=unA m p:=by unfold unB;rw [ePA,h4,if_neg (by decide)]
   rw [eu]
   exact ⟨SA1,trivial,SA2 p n1p,SA3⟩
  | cons q l2 =>
   have h4:m.pg p 4=(q:Int):=p4
   obtain ⟨hqn,hq4⟩:=hl q (by simp)
   have hq1:q∉l1:=fun h=>dj q h (List.mem_cons_self ..)
   have hqp:q≠p:=fun e=>nd2.1 (e▸List.mem_cons_self ..)
   have eq4:(unA m p).pg q=m.pg q:=SA2 q hq1
   have eu:unB m p=chainU (unA m p) q (hdE l2 (-1)) (lastE l1 (-1)):=by
    unfold unB
    rw [ePA,h4,if_pos (by omega),pgA_nat (by rw [oA];exact hqn),eq4,p5,C.2.1]
   have bd3 : -1≤hdE l2 (-1)∧hdE l2 (-1)<m.n:=by
    rcases hdE_bd (n:=m.n) (l:=l2) fun r hr=>(hl r (by simp [hr])).1 with h | h
    ·exact h
    ·omega
   have epg:(unB m p).pg=putP (unA m p).pg q (chainP ((unA m p).pg q) (hdE l2 (-1)) (lastE l1 (-1))):=by
    rw [eu];exact chainU_pg (by rw [oA];exact hqn) (by rw [eq4];exact hq4) (by rw [oA];exact bd3) (by rw [oA];exact bd1)
   refine ⟨?_,?_,?_,?_⟩
   ·rw [epg]
    exact CS_congr (fun r hr=>by rw [putP_ne _ _ (fun e:r=q=>hq1 (e▸hr))];exact ⟨rfl,rfl⟩) SA1
   ·rw [epg]
    refine CS_head (pg:=m.pg) nd2.2 (fun r hr hne=>?_) (fun r l' er=>?_) C
    ·have hrq:r≠q:=fun e=>hne (by rw [e];rfl)
     rw [putP_ne _ _ hrq,SA2 r (fun h=>dj r h hr)]
     exact ⟨rfl,rfl⟩
    ·cases er
     rw [putP_same]
     exact ⟨C.2.1.symm▸rfl,rfl⟩
   ·rw [epg,putP_ne _ _ (Ne.symm hqp)];exact SA2 p n1p
   ·rw [epg];exact SA3.put (show q∈l1++p::q::l2 by simp) _ _
 obtain ⟨SB1,SB2,SB3,SB4⟩:=SB
 have oB:(unB m p).n=m.n:=by unfold unB;split<;>simp [oA]
 have epg:(unhangM m p).pg=putP (unB m p).pg p (chainP ((unB m p).pg p) (-1) (-1)):=chainU_pg (by rw [oB];exact hp) (by rw [SB3];exact hp4) (by rw [oB];omega) (by rw [oB];omega)
 have oth:∀q,q≠p→(unhangM m p).pg q=(unB m p).pg q:=fun q h=>by rw [epg,putP_ne _ _ h]
 refine ⟨CS_append.2 ⟨CS_congr (fun q hq=>?_) SB1,CS_congr (fun q hq=>?_) SB2⟩,?_,?_,?_,SA4⟩
 ·rw [oth q fun e=>n1p (e▸hq)];exact ⟨rfl,rfl⟩
 ·rw [oth q fun e=>nd2.1 (e▸hq)];exact ⟨rfl,rfl⟩
 ·rw [epg,putP_same];rfl
 ·rw [epg,putP_same];rfl
 ·rw [epg];exact SB4.put hpm _ _
end
end Go.Proofs.YteemmpkhdllapaaGreatDoor
namespace Go.Proofs.YteemmpkhdllapaaGreatDoor
open Go.V Classical
structure SI (c:Cfg) (x:BU) (hp:Nat→Int) (S:Nat→Prop) (fl:Nat→List Nat) (L:List PBk) (cl:Nat→Nat) (fr:Nat→List Nat) (pl:Nat→List Nat):Prop where
 w:WS S c x fl L
 k8:∀p,S p→cl p<8
 nd:∀p,S p→(fr p).Nodup∧∀j∈fr p,j<cnt (cl p)
 pn:∀k,k<8→(pl k).Nodup∧∀p,p∈pl k↔(S p∧cl p=k∧fr p≠[])
 hd:∀k,k<8→hp k=hdE (pl k) (-1)
 pg:∀p,S p→PgI (x.m.pg p) (cl p) (fr p)
 ch:∀k,k<8→CS x.m.pg (pl k) (-1) (-1)
 no:∀p,S p→fr p=[]→x.m.pg p 4=-1∧x.m.pg p 5=-1
 lk:∀p,S p→Lnk c x.st (adr c p) (wdt (cl p)) (fr p)
section
variable {c:Cfg} {x:BU} {hp hp':Nat→Int} {S S':Nat→Prop} {fl:Nat→List Nat} {L:List PBk} {cl:Nat→Nat} {fr pl:Nat→List Nat} {p k q:Nat}
theorem RepS.uniq0 {hs:List PBk} (R:RepS S c x fl L hs) (h:(p,0)∈L) {b:PBk} (hb:b∈L) (hc:Cov b p):b=(p,0) :=
 R.til.uniq (List.mem_append_right _ (List.mem_append_left _ hb)) (List.mem_append_right _ (List.mem_append_left _ h)) hc cov_self
theorem RepS.freeL {hs:List PBk} (R:RepS S c x fl L hs) (h:(p,0)∈L) {j r:Nat} (hj:j≤x.m.o) (hr:r∈fl j):¬Cov (r,j) p:=fun hc=>by
 have nd:=R.til.nodup
 have:=R.til.uniq (R.mem hj hr) (List.mem_append_right _ (List.mem_append_left _ h)) hc cov_self
 exact (List.nodup_append.1 (List.nodup_append.1 nd).2.1).2.2 _ h (r,j) (mem_blks.2 ⟨hj,hr⟩) this.symm
theorem RepS.ltL {hs:List PBk} (R:RepS S c x fl L hs) (h:(p,0)∈L):p<x.m.n:=by
 have:=(R.til.al _ (List.mem_append_right _ (List.mem_append_left _ h))).2.2
 simp only [] at this
 omega
theorem WS.re (W:WS S c x fl L) {x':BU} (ok':BU.Ok c x') (ho:x'.m.o=x.m.o) (hn:x'.m.n=x.m.n) (hbt:x'.m.bt=x.m.bt) (hhd:x'.hd=x.hd) (hst:x'.st.n=x.st.n)
  (hs':∀p,S' p→(p,0)∈L∧x'.m.pg p 0=4) (hout:∀p,S p→¬S' p→x'.m.pg p=plainP 2 0) (hpg:∀q,¬S q→¬S' q→x'.m.pg q=x.m.pg q)
  (hM:∀o,(∀q,S q∨S' q→¬(4096*q≤o∧o<4096*(q+1)))→x'.st.M o=x.st.M o):WS S' c x' fl L:=by
 have R:=W.rep
 have inL:∀q,S q∨S' q→(q,0)∈L:=fun q h=>h.elim (fun h=>(R.ps q h).1) fun h=>(hs' q h).1
 refine ⟨⟨ok',⟨R.rm.b,by rw [hn];exact R.rm.n,by rw [hn,hst];exact R.rm.r⟩,by rw [ho,hn];exact R.til,by rw [ho];exact R.nb,fun k hk=>?_,fun k p hk hp q hq=>?_,fun b hb hS q hq=>?_,by rw [ho,hn,hbt];exact R.bt,hs'⟩,by rw [hn,hst,ho];exact W.e,W.g⟩
 ·rw [ho] at hk
  have L0:=R.ls k hk
  rw [hn,hhd]
  refine ⟨L0.hd,L0.nd,L0.cl,seg_congr (fun a ha=>?_) L0.sg⟩
  obtain ⟨q,hq,rfl⟩:=List.mem_map.1 ha
  have e1:(adr c q-c.base).toNat=4096*q:=by unfold adr;omega
  have e2:(adr c q+8-c.base).toNat=4096*q+8:=by unfold adr;omega
  have same:∀o,4096*q≤o→o<4096*q+16→x'.st.M o=x.st.M o:=fun o h1 h2=>hM o fun r hr hc=>by
   have:r=q:=by omega
   subst this
   exact R.freeL (inL r hr) hk hq cov_self
  unfold Sto.rd
  rw [e1,e2]
  exact ⟨wrd_congr fun i hi=>same _ (by omega) (by omega),wrd_congr fun i hi=>same _ (by omega) (by omega)⟩
 ·rw [ho] at hk
  rw [hpg q (fun h=>R.freeL (inL q (.inl h)) hk hp hq) (fun h=>R.freeL (inL q (.inr h)) hk hp hq)]
  exact R.pf k p hk hp q hq
 ·by_cases h:S q
  ·have e:=R.uniq0 (inL q (.inl h)) hb hq
   subst e
   rw [hout q h hS,if_pos rfl];rfl
  ·have hS':¬S' q:=fun h'=>by
    have e:=R.uniq0 (inL q (.inr h')) hb hq
    subst e
    exact hS h'
   rw [hpg q h hS']
   refine R.pl b hb (fun hb1=>?_) q hq
   have hb0:=R.s0 hb hb1
   have:q=b.1:=by have:=hq.1;have:=hq.2;rw [hb0] at this;omega
   exact h (this▸hb1)
theorem WS.k4 (W:WS S c x fl L) (hq:q<x.m.n) (h4:x.m.pg q 0=4):S q:=by
 have R:=W.rep
 obtain ⟨b,hb,hc⟩:=R.til.cv q hq
 rcases List.mem_append.1 (by simpa using hb:b∈L++blks x.m.o fl) with hb | hb
 ·refine Classical.byContradiction fun hn=>?_
  have hS:¬S b.1:=fun hb1=>by
   have hb0:=R.s0 hb hb1
   have:q=b.1:=by have:=hc.1;have:=hc.2;rw [hb0] at this;omega
   exact hn (this▸hb1)
  have:=R.pl b hb hS q hc
  rw [this] at h4
  split at h4<;>simp [plainP] at h4
 ·obtain ⟨b1,b2⟩:=b
  obtain ⟨g1,g2⟩:=mem_blks.1 hb
  rw [R.pf b2 b1 g1 g2 q hc] at h4
  split at h4<;>simp [plainP] at h4
theorem rd_page {st st':Sto} {j w:Nat} (h:∀o,4096*q≤o→o<4096*(q+1)→st'.M o=st.M o) (hj:j*w+8≤4096):st'.rd c (adr c q+((j*w:Nat):Int))=st.rd c (adr c q+((j*w:Nat):Int)):=by
 have e1:(adr c q+((j*w:Nat):Int)-c.base).toNat=4096*q+j*w:=by unfold adr;omega
 unfold Sto.rd
 rw [e1]
 exact wrd_congr fun i hi=>h _ (by omega) (by omega)
theorem cell_in {k j:Nat} (hk:k<8) (hj:j<cnt k):j*wdt k+wdt k≤4096∧j*wdt k+16≤4096:=by
 obtain ⟨c1,c2,c3,c4,c5,c6⟩:=cnt_wdt hk
 have:j*wdt k+wdt k≤4096:=by rw [←c1,←Nat.succ_mul];exact Nat.mul_le_mul_right _ hj
 omega
theorem Lnk_page {st st':Sto} {k:Nat} {l:List Nat} (hk:k<8) (hl:∀j∈l,j<cnt k) (h:∀o,4096*q≤o→o<4096*(q+1)→st'.M o=st.M o) (H:Lnk c st (adr c q) (wdt k) l):Lnk c st' (adr c q) (wdt k) l :=
 Lnk_congr (fun j hj=>rd_page h (by have:=(cell_in hk (hl j hj)).2;omega)) H
theorem SI.len (I:SI c x hp S fl L cl fr pl) (h:S p):(fr p).length≤cnt (cl p):=by
 obtain ⟨h1,h2⟩:=I.nd p h
 have:=List.Nodup.length_le_of_subset h1 (l₂:=List.range (cnt (cl p))) fun j hj=>List.mem_range.2 (h2 j hj)
 simpa using this
theorem SI.ki (I:SI c x hp S fl L cl fr pl):KI c x:=I.w.ki
theorem SI.plS (I:SI c x hp S fl L cl fr pl) (hk:k<8) (h:p∈pl k):p<x.m.n∧x.m.pg p 0=4∧S p∧cl p=k∧fr p≠[]:=by
 have hs:=((I.pn k hk).2 p).1 h
 exact ⟨I.w.rep.sn hs.1,(I.w.rep.ps p hs.1).2,hs.1,hs.2.1,hs.2.2⟩
theorem SI.pool (I:SI c x hp S fl L cl fr pl) {x':BU} {fl':Nat→List Nat} {L':List PBk} (W:WS S c x' fl' L') (hpk:∀q,S q→x'.m.pg q=x.m.pg q) (hM:∀q,S q→∀o,4096*q≤o→o<4096*(q+1)→x'.st.M o=x.st.M o) :
  SI c x' hp S fl' L' cl fr pl:=by
 refine ⟨W,I.k8,I.nd,I.pn,I.hd,fun p hp=>by rw [hpk p hp];exact I.pg p hp,fun k hk=>CS_congr (fun p hp=>?_) (I.ch k hk),fun p hp h=>by rw [hpk p hp];exact I.no p hp h,fun p hp=>Lnk_page (I.k8 p hp) (I.nd p hp).2 (hM p hp) (I.lk p hp)⟩
 rw [hpk p (I.plS hk hp).2.2.1];exact ⟨rfl,rfl⟩
theorem SI.step (I:SI c x hp S fl L cl fr pl) (hk:k<8) (hqL:(q,0)∈L) (hqS:S q∨S' q) (hqk:S q→cl q=k) {m':MS} {st':Sto} {f' l':List Nat} (ok':KI c ⟨st',x.hd,m'⟩) (ho:m'.o=x.m.o) (hn:m'.n=x.m.n) (hbt:m'.bt=x.m.bt) (hst:st'.n=x.st.n)
  (hS:∀p,p≠q→(S' p↔S p)) (hoth:∀p,p≠q→p∉pl k→m'.pg p=x.m.pg p) (hnb:∀p,p≠q→S p→∃a b,m'.pg p=chainP (x.m.pg p) a b∨m'.pg p=x.m.pg p)
  (hin:S' q→PgI (m'.pg q) k f'∧f'.Nodup∧(∀j∈f',j<cnt k)∧(f'=[]→m'.pg q 4=-1∧m'.pg q 5=-1)∧Lnk c st' (adr c q) (wdt k) f') (hout:¬S' q→m'.pg q=plainP 2 0)
  (hl':l'.Nodup∧∀p,p∈l'↔((p=q∧S' q∧f'≠[])∨(p≠q∧p∈pl k))) (hch:CS m'.pg l' (-1) (-1)) (hhp:hp'=fset hp k (hdE l' (-1)))
  (hM:∀o,¬(4096*q≤o∧o<4096*(q+1))→st'.M o=x.st.M o):SI c ⟨st',x.hd,m'⟩ hp' S' fl L (fset cl q k) (fset fr q f') (fset pl k l'):=by
 have R:=I.w.rep
 have hns:∀p,p≠q→¬S p→m'.pg p=x.m.pg p:=fun p h h2=>hoth p h fun hm=>h2 (I.plS hk hm).2.2.1
 have hcl:∀p,p≠q→fset cl q k p=cl p:=fun p h=>fset_ne _ _ h
 have hfr:∀p,p≠q→fset fr q f' p=fr p:=fun p h=>fset_ne _ _ h
 have W':WS S' c ⟨st',x.hd,m'⟩ fl L:=by
  refine I.w.re ok'.ok ho hn hbt rfl hst (fun p hp=>?_) (fun p hp hp'=>?_) (fun p hp hp'=>?_) fun o h=>hM o fun hc=>?_
  ·by_cases e:p=q
   ·subst e;exact ⟨hqL,(hin hp).1.k0⟩
   ·have hs:=(hS p e).1 hp
    refine ⟨(R.ps p hs).1,?_⟩
    obtain ⟨a,b,e1 | e1⟩:=hnb p e hs
    ·show m'.pg p 0=4;rw [e1];exact (R.ps p hs).2
    ·show m'.pg p 0=4;rw [e1];exact (R.ps p hs).2
  ·by_cases e:p=q
   ·subst e;exact hout hp'
   ·exact absurd ((hS p e).2 hp) hp'
  ·by_cases e:p=q
   ·subst e
    show m'.pg p=x.m.pg p
    rw [hout hp']
    have:=R.pl (p,0) hqL hp p cov_self
    rw [this,if_pos rfl];rfl
   ·exact hns p e hp
  ·exact h q hqS hc
 have notq:∀{k' p},k'<8→k'≠k→p∈pl k'→p≠q∧p∉pl k:=fun {k' p} hk' hne hm=>by
  have h1:=I.plS hk' hm
  refine ⟨fun e=>?_,fun h2=>hne (h1.2.2.2.1.symm.trans (I.plS hk h2).2.2.2.1)⟩
  subst e
  exact hne (h1.2.2.2.1.symm.trans (hqk h1.2.2.1))
 refine ⟨W',fun p hp=>?_,fun p hp=>?_,fun k' hk'=>?_,fun k' hk'=>?_,fun p hp=>?_,fun k' hk'=>?_,fun p hp hf=>?_,fun p hp=>?_⟩
 ·by_cases e:p=q
  ·rw [e,fset_same];exact hk
  ·rw [hcl p e];exact I.k8 p ((hS p e).1 hp)
 ·by_cases e:p=q
  ·subst e;rw [fset_same,fset_same];exact ⟨(hin hp).2.1,(hin hp).2.2.1⟩
  ·rw [hcl p e,hfr p e];exact I.nd p ((hS p e).1 hp)
 ·by_cases ek:k'=k
  ·subst ek
   rw [fset_same]
   refine ⟨hl'.1,fun p=>?_⟩
   rw [hl'.2 p]
   by_cases e:p=q
   ·subst e;rw [fset_same,fset_same];simp
   ·rw [hcl p e,hfr p e,hS p e,(I.pn k' hk').2 p];simp [e]
  ·rw [fset_ne _ _ ek]
   refine ⟨(I.pn k' hk').1,fun p=>?_⟩
   by_cases e:p=q
   ·subst e
    rw [fset_same]
    exact ⟨fun h=>absurd rfl (notq hk' ek h).1,fun h=>absurd h.2.1.symm ek⟩
   ·rw [hcl p e,hfr p e,hS p e];exact (I.pn k' hk').2 p
 ·rw [hhp]
  by_cases ek:k'=k
  ·subst ek;rw [fset_same,fset_same]
  ·rw [fset_ne _ _ ek,fset_ne _ _ ek];exact I.hd k' hk'
 ·by_cases e:p=q
  ·subst e;rw [fset_same,fset_same];exact (hin hp).1
  ·have hs:=(hS p e).1 hp
   rw [hcl p e,hfr p e]
   obtain ⟨a,b,e1 | e1⟩:=hnb p e hs
   ·show PgI (m'.pg p) _ _;rw [e1];exact (I.pg p hs).chain a b
   ·show PgI (m'.pg p) _ _;rw [e1];exact I.pg p hs
 ·by_cases ek:k'=k
  ·subst ek;rw [fset_same];exact hch
  ·rw [fset_ne _ _ ek]
   refine CS_congr (fun p hp=>?_) (I.ch k' hk')
   obtain ⟨h1,h2⟩:=notq hk' ek hp
   show m'.pg p 4=_∧m'.pg p 5=_
   rw [hoth p h1 h2];exact ⟨rfl,rfl⟩
 ·by_cases e:p=q
  ·subst e;rw [fset_same] at hf;exact (hin hp).2.2.2.1 hf
  ·rw [hfr p e] at hf
   have hs:=(hS p e).1 hp
   show m'.pg p 4=_∧m'.pg p 5=_
   rw [hoth p e fun hm=>(I.plS hk hm).2.2.2.2 hf]
   exact I.no p hs hf
 ·by_cases e:p=q
  ·subst e;rw [fset_same,fset_same];exact (hin hp).2.2.2.2
  ·have hs:=(hS p e).1 hp
   rw [hcl p e,hfr p e]
   exact Lnk_page (I.k8 p hs) (I.nd p hs).2 (fun o h1 h2=>hM o (by omega)) (I.lk p hs)
end
end Go.Proofs.YteemmpkhdllapaaGreatDoor
namespace Go.Proofs.YteemmpkhdllapaaGreatDoor
open Go.V Classical
theorem firstP_chainP (P:Nat→Int) (a b d:Int):firstP (chainP P a b) d=chainP (firstP P d) a b:=by
 funext j
 unfold firstP chainP
 by_cases h6:j=6<;>by_cases h4:j=4<;>by_cases h5:j=5<;>simp [h6,h4,h5]<;>omega
theorem fset_self {α:Type} {f:Nat→α} {k:Nat} {v:α} (h:f k=v):fset f k v=f:=by
 funext i
 unfold fset
 split
 ·rename_i e;rw [e,h]
 ·rfl
section
variable {c:Cfg} {x:BU} {hp:Nat→Int} {S:Nat→Prop} {fl:Nat→List Nat} {L:List PBk} {cl:Nat→Nat} {fr pl:Nat→List Nat} {p k q j:Nat} {f l':List Nat}
theorem ownU_pg {m:MS} {l:Bool} (hq:q<m.n) (h4:m.pg q 0=4) (hk:m.pg q 2=k) (hj:j<cnt k) (hb:pbit (m.pg q) j≠l):(ownU m q j l).pg=putP m.pg q (pown (m.pg q) j l):=by
 unfold ownU
 rw [if_pos (show ownOk m q j l from ⟨by omega,by omega,by rw [Int.toNat_natCast];exact h4,by omega,by rw [Int.toNat_natCast,ncells_k hk];omega,by rw [Int.toNat_natCast,Int.toNat_natCast];exact hb⟩)]
 simp only [setPg,Int.toNat_natCast]
theorem firstU_pg {m:MS} {d:Int} (hq:q<m.n) (h4:m.pg q 0=4) (hk:m.pg q 2=k) (hd : -1≤d∧d<cnt k):(firstU m q d).pg=putP m.pg q (firstP (m.pg q) d):=by
 unfold firstU
 rw [if_pos (show firstOk m q d from ⟨by omega,by omega,by rw [Int.toNat_natCast];exact h4,hd.1,by rw [Int.toNat_natCast,ncells_k hk];exact hd.2⟩)]
 simp only [setPg,Int.toNat_natCast]
theorem cellW_eq (W:KI c x) (hq:q<x.m.n) (hk:k<8) (hj:j<cnt k):cellW (adr c q) j (wdt k)=adr c q+((j*wdt k:Nat):Int):=by
 have bb:=bu_bounds W.g W.ok.m
 have h1:=(cell_in hk hj).1
 have h2:=(cnt_wdt hk).2.2.2.1
 unfold cellW
 rw [wU (z:=(j:Int)) (by unfold U64;omega),←Int.natCast_mul,wU (z:=((j*wdt k:Nat):Int)) (by unfold U64;omega),wU (by unfold adr U64;omega)]
theorem th_cell (W:KI c x) (hq:q<x.m.n) (hk:k<8) (hj:j<cnt k):There c x.st.n (adr c q+((j*wdt k:Nat):Int)) 8:=by
 have h1:=(cell_in hk hj).2
 have sp:=W.span
 exact .inr ⟨by unfold adr;omega,by rw [sp];unfold adr;omega⟩
theorem hdE_lt {n:Nat} (h:∀j∈f,j<n) : -1≤hdE f (-1)∧hdE f (-1)<n:=by
 cases f with
 | nil=>show -1≤(-1:Int)∧(-1:Int)<n;omega
 | cons i f=>have:=h i (List.mem_cons_self ..);show (-1:Int)≤(i:Int)∧(i:Int)<n;omega
theorem sim_takeC (I:SI c x hp S fl L cl fr pl) (hk:k<8) (hpl:pl k=q::l') (hfr:fr q=j::f) :
  (takeC c x hp q k).2.2=adr c q+((j*wdt k:Nat):Int)∧SI c (takeC c x hp q k).1 (takeC c x hp q k).2.1 S fl L cl (fset fr q f) (fset pl k (if f=[] then l' else q::l')) ∧
  (takeC c x hp q k).1.st=x.st∧(takeC c x hp q k).1.m.n=x.m.n∧(takeC c x hp q k).1.m.o=x.m.o:=by
 have hm:q∈pl k:=by rw [hpl];exact List.mem_cons_self ..
 obtain ⟨hqn,h4,hS,hck,_⟩:=I.plS hk hm
 have W:=I.ki
 have bb:=bu_bounds W.g W.ok.m
 have T:=W.ok.m.pg q hqn
 have PI:=I.pg q hS
 have LK:=I.lk q hS
 obtain ⟨nd,hb⟩:=I.nd q hS
 have hlen:=I.len hS
 rw [hck,hfr] at PI LK hlen
 rw [hfr] at nd hb
 rw [hck] at hb
 have hj:j<cnt k:=hb j (List.mem_cons_self ..)
 have hbf:∀i∈f,i<cnt k:=fun i hi=>hb i (List.mem_cons_of_mem _ hi)
 have ndf:=List.nodup_cons.1 nd
 have hc:=cnt_wdt hk
 have e6:x.m.pg q 6=(j:Int):=PI.k6
 have e5:nextW (adr c q) (x.st.rd c (adr c q+((j*wdt k:Nat):Int))) (wdt k)=hdE f (-1):=by
  rw [LK.1]
  unfold nextW
  cases f with
  | nil=>rw [if_neg (by simp [lkV])];rfl
  | cons i f =>
   have hi:=hbf i (List.mem_cons_self ..)
   have h1:=(cell_in hk hi).1
   have el:lkV (adr c q) (wdt k) (i::f)=adr c q+((i*wdt k:Nat):Int):=rfl
   rw [el,if_pos (by unfold adr;omega)]
   have ea:adr c q+((i*wdt k:Nat):Int)-adr c q=((i*wdt k:Nat):Int):=by omega
   have et:Int.tdiv ((i*wdt k:Nat):Int) (wdt k:Int)=(i:Int):=by
    rw [Int.tdiv_eq_ediv_of_nonneg (by omega),←Int.natCast_ediv,Nat.mul_div_cancel _ (wdt_pos k)]
   rw [ea,wU (z:=((i*wdt k:Nat):Int)) (by unfold U64;omega),et,wU (by unfold U64;omega),wI (by unfold bd63;omega)]
   rfl
 have hp0:pbit (x.m.pg q) j≠true:=by rw [PI.bit j (by omega)];simp
 have em1:(ownU x.m q j true).pg=putP x.m.pg q (pown (x.m.pg q) j true):=ownU_pg hqn h4 PI.k2 hj hp0
 have q0:pown (x.m.pg q) j true 0=4:=by unfold pown;rw [if_neg (by omega),if_neg (by omega)];exact h4
 have q2:pown (x.m.pg q) j true 2=k:=by unfold pown;rw [if_neg (by omega),if_neg (by omega)];exact PI.k2
 have em2:(firstU (ownU x.m q j true) q (hdE f (-1))).pg=putP x.m.pg q (firstP (pown (x.m.pg q) j true) (hdE f (-1))):=by
  rw [firstU_pg (k:=k) (by simpa using hqn) (by rw [em1,putP_same];exact q0) (by rw [em1,putP_same];exact q2) (hdE_lt hbf),em1,putP_same]
  funext r
  by_cases e:r=q
  ·subst e;rw [putP_same,putP_same]
  ·rw [putP_ne _ _ e,putP_ne _ _ e,putP_ne _ _ e]
 have eT:takeC c x hp q k=(if hdE f (-1)<0 then (x.wm (unhangM (firstU (ownU x.m q j true) q (hdE f (-1))) q),unhangP (firstU (ownU x.m q j true) q (hdE f (-1))) hp q k,adr c q+((j*wdt k:Nat):Int)) else (x.wm (firstU (ownU x.m q j true) q (hdE f (-1))),hp,adr c q+((j*wdt k:Nat):Int))):=by
  unfold takeC
  simp only []
  rw [atW_adr W hqn,pgA_nat hqn,e6,cellW_eq W hqn hk hj]
  unfold rdU
  rw [if_pos (th_cell W hqn hk hj),e5]
 have PI2:=PI.take T hk hj nd (by omega)
 have cls:fset cl q k=cl:=fset_self hck
 have W1:=ki_first (x:=x.wm (ownU x.m q j true)) (i:=q) (p:=hdE f (-1)) (ki_own (i:=q) (p:=j) (l:=true) W)
 have f45:firstP (pown (x.m.pg q) j true) (hdE f (-1)) 4=x.m.pg q 4∧firstP (pown (x.m.pg q) j true) (hdE f (-1)) 5=x.m.pg q 5:=by
  unfold firstP pown
  constructor<;>rw [if_neg (by omega),if_neg (by omega),if_neg (by omega)]
 have hch0:CS (firstU (ownU x.m q j true) q (hdE f (-1))).pg (q::l') (-1) (-1):=by
  rw [←hpl,em2]
  refine CS_congr (fun r hr=>?_) (I.ch k hk)
  by_cases e:r=q
  ·subst e;rw [putP_same];exact f45
  ·rw [putP_ne _ _ e];exact ⟨rfl,rfl⟩
 have ndl:=(I.pn k hk).1
 rw [hpl] at ndl
 generalize hM1:firstU (ownU x.m q j true) q (hdE f (-1))=M1 at eT em2 W1 hch0
 have o1:M1.o=x.m.o:=by rw [←hM1];simp
 have n1:M1.n=x.m.n:=by rw [←hM1];simp
 have b1:M1.bt=x.m.bt:=by rw [←hM1];simp
 cases f with
 | cons i f =>
  rw [if_neg (show ¬hdE (i::f) (-1)<0 by show ¬(i:Int)<0;omega)] at eT
  rw [eT,if_neg (by simp)]
  refine ⟨rfl,?_,rfl,n1,o1⟩
  have:=I.step (S':=S) (f':=i::f) (l':=q::l') (hp':=hp) hk (I.w.rep.ps q hS).1 (.inl hS) (fun _=>hck) (m':=M1) (st':=x.st) W1 o1 n1 b1 rfl (fun _ _=>Iff.rfl) (fun r hr _=>by rw [em2,putP_ne _ _ hr]) (fun r hr _=>⟨0,0,.inr (by rw [em2,putP_ne _ _ hr])⟩)
   (fun _=>⟨by rw [em2,putP_same];exact PI2,ndf.2,hbf,fun e=>(by cases e),LK.2⟩) (fun h=>absurd hS h)
   ⟨ndl,fun r=>by
    rw [hpl]
    by_cases e:r=q
    ·subst e;simp [hS]
    ·simp [e]⟩ hch0 (fset_self (by rw [I.hd k hk,hpl])).symm (fun _ _=>rfl)
  rw [cls] at this
  exact this
 | nil =>
  rw [if_pos (show hdE [] (-1)<0 by decide)] at eT
  rw [eT,if_pos rfl]
  have hh:hp k=hdE ([]++q::l') (-1):=by rw [I.hd k hk,hpl];rfl
  obtain ⟨u1,u2,u3,u4,u5⟩:=unhang_sim (m:=M1) (pt:=hp) (p:=q) (k:=k) (l1:=[]) (l2:=l') (fun r hr=>by
   have hr:r∈pl k:=by rw [hpl];exact hr
   have h:=I.plS hk hr
   refine ⟨by rw [n1];exact h.1,?_⟩
   rw [em2]
   by_cases e:r=q
   ·subst e;rw [putP_same];exact PI2.k0
   ·rw [putP_ne _ _ e];exact h.2.1) ndl hh hch0
  have oo:(unhangM M1 q).o=x.m.o:=by unfold unhangM unB unA;simp only [chainU_o];split<;>(try simp only [chainU_o])<;>split<;>simp [o1]
  have on:(unhangM M1 q).n=x.m.n:=by unfold unhangM unB unA;simp only [chainU_n];split<;>(try simp only [chainU_n])<;>split<;>simp [n1]
  have ob:(unhangM M1 q).bt=x.m.bt:=by unfold unhangM unB unA;simp only [chainU_bt];split<;>(try simp only [chainU_bt])<;>split<;>simp [b1]
  refine ⟨rfl,?_,rfl,on,oo⟩
  have PI3:PgI ((unhangM M1 q).pg q) k []:=u4.pgI (by rw [em2,putP_same];exact PI2)
  have:=I.step (S':=S) (f':=[]) (l':=l') (hp':=unhangP M1 hp q k) hk (I.w.rep.ps q hS).1 (.inl hS) (fun _=>hck) (m':=unhangM M1 q) (st':=x.st) (ki_unhang (x:=x.wm M1) W1) oo on ob rfl (fun _ _=>Iff.rfl)
   (fun r hr hr2=>by rw [u4.o r (by rw [hpl] at hr2;exact hr2),em2,putP_ne _ _ hr])
   (fun r hr _=>by
    obtain ⟨a,b,e | e⟩:=u4.i r
    ·exact ⟨a,b,.inl (by rw [e,em2,putP_ne _ _ hr])⟩
    ·exact ⟨a,b,.inr (by rw [e,em2,putP_ne _ _ hr])⟩)
   (fun _=>⟨PI3,.nil,fun _ h=>(by cases h),fun _=>⟨u2,u3⟩,trivial⟩) (fun h=>absurd hS h)
   ⟨(List.nodup_cons.1 ndl).2,fun r=>by
    rw [hpl]
    by_cases e:r=q
    ·subst e;simp [(List.nodup_cons.1 ndl).1]
    ·simp [e]⟩ u1 u5 (fun _ _=>rfl)
  rw [cls] at this
  exact this
end
end Go.Proofs.YteemmpkhdllapaaGreatDoor
namespace Go.Proofs.YteemmpkhdllapaaGreatDoor
open Go.V Classical
section
variable {c:Cfg} {x:BU} {hp:Nat→Int} {S:Nat→Prop} {fl:Nat→List Nat} {L:List PBk} {cl:Nat→Nat} {fr pl:Nat→List Nat} {p k q j:Nat} {f l':List Nat}
theorem hangM_o (m:MS) (pt:Nat→Int) (page:Int) (k:Nat):(hangM m pt page k).o=m.o∧(hangM m pt page k).n=m.n∧(hangM m pt page k).bt=m.bt:=by
 unfold hangM;simp only [];split<;>simp
theorem unhangM_o (m:MS) (page:Int):(unhangM m page).o=m.o∧(unhangM m page).n=m.n∧(unhangM m page).bt=m.bt:=by
 refine ⟨?_,?_,?_⟩
 ·unfold unhangM unB unA;simp only [chainU_o];split<;>(try simp only [chainU_o])<;>split<;>simp
 ·unfold unhangM unB unA;simp only [chainU_n];split<;>(try simp only [chainU_n])<;>split<;>simp
 ·unfold unhangM unB unA;simp only [chainU_bt];split<;>(try simp only [chainU_bt])<;>split<;>simp
theorem wr_M {st:Sto} {a v:Int} {o:Nat} (h:o<(a-c.base).toNat∨(a-c.base).toNat+8≤o):(st.wr c a v).M o=st.M o:=by
 show (if _ then _ else _)=_
 rw [if_neg (by omega)]
theorem linkS_rd (W:KI c x) {q:Nat} (hq:q<x.m.n) (hk:k<8) {st:Sto}:∀(i:Nat),i≤cnt k→(∀j,j<i→(linkS c st (adr c q) (wdt k) (cnt k) i).rd c (adr c q+((j*wdt k:Nat):Int))=if j+1=cnt k then 0 else adr c q+(((j+1)*wdt k:Nat):Int)) ∧
  ∀o,¬(4096*q≤o∧o<4096*(q+1))→(linkS c st (adr c q) (wdt k) (cnt k) i).M o=st.M o
 | 0,_=>⟨fun j hj=>absurd hj (by omega),fun _ _=>rfl⟩
 | i+1,hi=>by
  obtain ⟨ih1,ih2⟩:=linkS_rd W hq hk (st:=st) i (by omega)
  have bb:=bu_bounds W.g W.ok.m
  obtain ⟨c1,c2,c3,c4,c5,c6⟩:=cnt_wdt hk
  have hin:=(cell_in hk (show i<cnt k by omega)).2
  have hv:U64 (if i+1=cnt k then 0 else adr c q+(((i+1)*wdt k:Nat):Int)):=by
   split
   ·unfold U64;omega
   ·have:(i+1)*wdt k≤4096:=by rw [←c1];exact Nat.mul_le_mul_right _ hi
    unfold adr U64;omega
  refine ⟨fun j hj=>?_,fun o ho=>?_⟩
  ·show (Sto.wr _ c _ _).rd c _=_
   by_cases e:j=i
   ·subst e;exact rd_wr_same hv
   ·have hlt:j<i:=by omega
    have h2:j*wdt k+wdt k≤i*wdt k:=by rw [←Nat.succ_mul];exact Nat.mul_le_mul_right _ hlt
    rw [rd_wr_other (by unfold adr;omega) (by unfold adr;omega) (.inl (by omega))]
    exact ih1 j hlt
  ·show (Sto.wr _ c _ _).M o=_
   rw [wr_M,ih2 o ho]
   have e1:(adr c q+((i*wdt k:Nat):Int)-c.base).toNat=4096*q+i*wdt k:=by unfold adr;omega
   rw [e1]
   omega
theorem Lnk_range {st:Sto} {a:Int} {w n:Nat} (h:∀j,j<n→st.rd c (a+((j*w:Nat):Int))=if j+1=n then 0 else a+(((j+1)*w:Nat):Int)):∀d i,i+d=n→Lnk c st a w (List.range' i d)
 | 0,_,_=>trivial
 | d+1,i,hd=>by
  rw [List.range'_succ]
  refine ⟨?_,Lnk_range h d (i+1) (by omega)⟩
  rw [h i (by omega)]
  cases d with
  | zero=>rw [if_pos (by omega)];rfl
  | succ d=>rw [if_neg (by omega),List.range'_succ];rfl
theorem sim_born (I:SI c x hp S fl L cl fr pl) (hk:k<8) (hqL:(q,0)∈L) (hS:¬S q) :
  SI c (bornU c x hp q k).1 (bornU c x hp q k).2 (fun p=>S p∨p=q) fl L (fset cl q k) (fset fr q (List.range (cnt k))) (fset pl k (q::pl k)) ∧
  (bornU c x hp q k).1.m.n=x.m.n∧(bornU c x hp q k).1.m.o=x.m.o∧(bornU c x hp q k).1.st.n=x.st.n∧∀o,¬(4096*q≤o∧o<4096*(q+1))→(bornU c x hp q k).1.st.M o=x.st.M o:=by
 have W:=I.ki
 have hqn:q<x.m.n:=I.w.rep.ltL hqL
 have hc:=cnt_wdt hk
 have e1:(slabU x.m q k).pg=putP x.m.pg q (slabP k):=by
  unfold slabU
  rw [if_pos (show slabOk x.m q k from ⟨by omega,by omega,by omega,by omega⟩)]
  simp only [setPg,Int.toNat_natCast]
 have W1:=ki_slab (i:=q) (p:=k) W
 have e2:(firstU (slabU x.m q k) q 0).pg=putP x.m.pg q (firstP (slabP k) 0):=by
  rw [firstU_pg (k:=k) (by simpa using hqn) (by rw [e1,putP_same];rfl) (by rw [e1,putP_same];rfl) ⟨by omega,by omega⟩,e1,putP_same]
  funext r
  by_cases e:r=q
  ·subst e;rw [putP_same,putP_same]
  ·rw [putP_ne _ _ e,putP_ne _ _ e,putP_ne _ _ e]
 have W2:=ki_first (x:=x.wm (slabU x.m q k)) (i:=q) (p:=0) W1
 have PI:=PgI.born hk
 have nq:q∉pl k:=fun h=>hS (I.plS hk h).2.2.1
 generalize hM1:firstU (slabU x.m q k) q 0=M1 at e2 W2
 have o1:M1.o=x.m.o:=by rw [←hM1];simp
 have n1:M1.n=x.m.n:=by rw [←hM1];simp
 have b1:M1.bt=x.m.bt:=by rw [←hM1];simp
 have hch0:CS M1.pg (pl k) (-1) (-1):=by
  rw [e2]
  exact CS_congr (fun r hr=>by rw [putP_ne _ _ (fun e:r=q=>nq (e▸hr))];exact ⟨rfl,rfl⟩) (I.ch k hk)
 have nd:(q::pl k).Nodup:=List.nodup_cons.2 ⟨nq,(I.pn k hk).1⟩
 obtain ⟨u1,u2⟩:=hang_sim (m:=M1) (pt:=hp) (p:=q) (k:=k) (l:=pl k) (fun r hr=>by
  rw [n1,e2]
  by_cases e:r=q
  ·subst e;rw [putP_same];exact ⟨hqn,PI.k0⟩
  ·rw [putP_ne _ _ e]
   have h:=I.plS hk ((List.mem_cons.1 hr).resolve_left e)
   exact ⟨h.1,h.2.1⟩) nd (I.hd k hk) hch0
 obtain ⟨ho,hn,hb⟩:=hangM_o M1 hp q k
 obtain ⟨r1,r2⟩:=linkS_rd W hqn hk (st:=x.st) (cnt k) (Nat.le_refl _)
 have eB:bornU c x hp q k=(⟨linkS c x.st (adr c q) (wdt k) (cnt k) (cnt k),x.hd,hangM M1 hp q k⟩,fset hp k q):=by unfold bornU;rw [hM1]
 rw [eB]
 refine ⟨?_,hn.trans n1,ho.trans o1,by simp,r2⟩
 have W3:KI c ⟨linkS c x.st (adr c q) (wdt k) (cnt k) (cnt k),x.hd,hangM M1 hp q k⟩:=ki_sto (ki_hang (x:=x.wm M1) (pt:=hp) (page:=q) (k:=k) W2) (by simp)
 exact I.step (S':=fun p=>S p∨p=q) (f':=List.range (cnt k)) (l':=q::pl k) (hp':=fset hp k q) hk hqL (.inr (.inr rfl)) (fun h=>absurd h hS) W3 (ho.trans o1) (hn.trans n1) (hb.trans b1) (by simp)
  (fun r hr=>by simp [hr]) (fun r hr hr2=>by rw [u2.o r (by simp [hr,hr2]),e2,putP_ne _ _ hr])
  (fun r hr _=>by
   obtain ⟨a,b,e | e⟩:=u2.i r
   ·exact ⟨a,b,.inl (by rw [e,e2,putP_ne _ _ hr])⟩
   ·exact ⟨a,b,.inr (by rw [e,e2,putP_ne _ _ hr])⟩)
  (fun _=>⟨u2.pgI (by rw [e2,putP_same];exact PI),List.nodup_range,fun i hi=>List.mem_range.1 hi,fun e=>by have:=congrArg List.length e;rw [List.length_range] at this;simp at this;omega,by
   rw [List.range_eq_range'];exact Lnk_range r1 (cnt k) 0 (by omega)⟩) (fun h=>absurd (.inr rfl) h)
  ⟨nd,fun r=>by
   by_cases e:r=q
   ·subst e
    have:List.range (cnt k)≠[]:=fun e=>by have:=congrArg List.length e;rw [List.length_range] at this;simp at this;omega
    simp [this]
   ·simp [e]⟩ u1 rfl r2
theorem findU_some (I:SI c x hp S fl L cl fr pl) {a:Int} {q j:Nat} (h:findU c x.m a=some (q,j)):S q∧j<cnt (cl q)∧j∉fr q∧a=adr c q+((j*wdt (cl q):Nat):Int):=by
 obtain ⟨h1,h2,h3,h4⟩:=findU_lt h
 have hS:=I.w.k4 h1 h2
 have PI:=I.pg q hS
 have hk:=I.k8 q hS
 rw [PI.k2,Int.toNat_natCast] at h4
 have hj:j<256:=by
  unfold findU at h
  simp only [] at h
  split at h
  ·cases h
  ·split at h
   ·cases h
   ·split at h
    ·cases h
     refine Nat.div_lt_of_lt_mul ?_
     have:16≤wdt (x.m.pg ((a-c.base) / 4096).toNat 2).toNat:=by unfold wdt;have:=Nat.two_pow_pos (x.m.pg ((a-c.base) / 4096).toNat 2).toNat;omega
     have:=Nat.mul_le_mul_right 256 this
     omega
    ·cases h
 rw [PI.bit j hj] at h3
 simp at h3
 exact ⟨hS,h3.1,h3.2,h4⟩
theorem findU_cell (I:SI c x hp S fl L cl fr pl) {q j:Nat} (hS:S q) (hj:j<cnt (cl q)) (hn:j∉fr q):findU c x.m (adr c q+((j*wdt (cl q):Nat):Int))=some (q,j):=by
 have hqn:=I.w.rep.sn hS
 have PI:=I.pg q hS
 have hk:=I.k8 q hS
 have hin:=cell_in hk hj
 have e1:((adr c q+((j*wdt (cl q):Nat):Int)-c.base) / 4096).toNat=q:=by unfold adr;omega
 have e2:((adr c q+((j*wdt (cl q):Nat):Int)-c.base) % 4096).toNat=j*wdt (cl q):=by unfold adr;have:=wdt_pos (cl q);omega
 unfold findU
 rw [if_neg (by unfold adr;omega)]
 simp only []
 rw [e1,e2,PI.k2,Int.toNat_natCast,Nat.mul_mod_left,Nat.mul_div_cancel _ (wdt_pos _),if_neg (by rw [PI.k0];simp),if_pos]
 rw [PI.bit j (by have:=(cnt_wdt hk).2.2.2.1;omega)]
 simp [hj,hn]
theorem sim_giveC (I:SI c x hp S fl L cl fr pl) {q j:Nat} (hS:S q) (hck:cl q=k) (hj:j<cnt k) (hn:j∉fr q) (hl:(fr q).length+1<cnt k) {a:Int} (ha:a=adr c q+((j*wdt k:Nat):Int)) :
  (giveSU c x hp a).2.2=0∧SI c (giveSU c x hp a).1 (giveSU c x hp a).2.1 S fl L cl (fset fr q (j::fr q)) (fset pl k (if fr q=[] then q::pl k else pl k)) ∧
  (giveSU c x hp a).1.m.n=x.m.n∧(giveSU c x hp a).1.m.o=x.m.o∧(giveSU c x hp a).1.st.n=x.st.n∧∀o,¬(4096*q+j*wdt k≤o∧o<4096*q+j*wdt k+8)→(giveSU c x hp a).1.st.M o=x.st.M o:=by
 subst hck
 have hk:=I.k8 q hS
 have hf:=findU_cell I hS hj hn
 rw [←ha] at hf
 have hqn:=I.w.rep.sn hS
 have W:=I.ki
 have bb:=bu_bounds W.g W.ok.m
 have T:=W.ok.m.pg q hqn
 have PI:=I.pg q hS
 have LK:=I.lk q hS
 obtain ⟨nd,hb⟩:=I.nd q hS
 have hc:=cnt_wdt hk
 have hin:=cell_in hk hj
 have hcl:fset cl q (cl q)=cl:=fset_self rfl
 have hbit:pbit (x.m.pg q) j≠false:=by rw [PI.bit j (by omega)];simp [hj,hn]
 have em1:(ownU x.m q j false).pg=putP x.m.pg q (pown (x.m.pg q) j false):=ownU_pg hqn PI.k0 PI.k2 hj hbit
 have W1:=ki_own (i:=q) (p:=j) (l:=false) W
 have q0:pown (x.m.pg q) j false 0=4:=by unfold pown;rw [if_neg (by omega),if_neg (by omega)];exact PI.k0
 have q2:pown (x.m.pg q) j false 2=cl q:=by unfold pown;rw [if_neg (by omega),if_neg (by omega)];exact PI.k2
 have q45:pown (x.m.pg q) j false 4=x.m.pg q 4∧pown (x.m.pg q) j false 5=x.m.pg q 5:=by unfold pown;constructor<;>rw [if_neg (by omega),if_neg (by omega)]
 have PI2:PgI (firstP (pown (x.m.pg q) j false) j) (cl q) (j::fr q):=PI.give T hk hj hn (by omega)
 have th:=th_cell W hqn hk hj
 rw [←ha] at th
 have ea:(a-c.base).toNat=4096*q+j*wdt (cl q):=by rw [ha];unfold adr;omega
 have nd':(j::fr q).Nodup:=List.nodup_cons.2 ⟨hn,nd⟩
 have hb':∀i∈j::fr q,i<cnt (cl q):=fun i hi=>(List.mem_cons.1 hi).elim (fun e=>e▸hj) (hb i)
 have h3:x.m.pg q 3≠1:=by rw [PI.k3];omega
 have lnk:∀v,U64 v→v=lkV (adr c q) (wdt (cl q)) (fr q)→Lnk c (x.st.wr c a v) (adr c q) (wdt (cl q)) (j::fr q):=fun v hv ev=>by
  refine ⟨?_,Lnk_congr (fun i hi=>?_) LK⟩
  ·rw [←ha,rd_wr_same hv,ev]
  ·have hij:i≠j:=fun e=>hn (e▸hi)
   have hi2:=cell_in hk (hb i hi)
   rw [ha]
   refine rd_wr_other (by unfold adr;omega) (by unfold adr;omega) ?_
   rcases Nat.lt_or_gt_of_ne hij with h | h
   ·have:i*wdt (cl q)+wdt (cl q)≤j*wdt (cl q):=by rw [←Nat.succ_mul];exact Nat.mul_le_mul_right _ h
    left;omega
   ·have:j*wdt (cl q)+wdt (cl q)≤i*wdt (cl q):=by rw [←Nat.succ_mul];exact Nat.mul_le_mul_right _ h
    right;omega
 have mem:∀v o,¬(4096*q+j*wdt (cl q)≤o∧o<4096*q+j*wdt (cl q)+8)→(x.st.wr c a v).M o=x.st.M o:=fun v o ho=>wr_M (by rw [ea];omega)
 have mem':∀v o,¬(4096*q≤o∧o<4096*(q+1))→(x.st.wr c a v).M o=x.st.M o:=fun v o ho=>mem v o (by omega)
 generalize hM1:ownU x.m q j false=M1 at em1 W1
 have o1:M1.o=x.m.o:=by rw [←hM1];simp
 have n1:M1.n=x.m.n:=by rw [←hM1];simp
 have b1:M1.bt=x.m.bt:=by rw [←hM1];simp
 have k2:(x.m.pg q 2).toNat=cl q:=by rw [PI.k2];rfl
 cases hfr:fr q with
 | nil =>
  have h6:x.m.pg q 6=-1:=by rw [PI.k6,hfr];rfl
  have nq:q∉pl (cl q):=fun h=>(I.plS hk h).2.2.2.2 hfr
  have ndl:(q::pl (cl q)).Nodup:=List.nodup_cons.2 ⟨nq,(I.pn _ hk).1⟩
  have hch0:CS M1.pg (pl (cl q)) (-1) (-1):=by
   rw [em1]
   exact CS_congr (fun r hr=>by rw [putP_ne _ _ (fun e:r=q=>nq (e▸hr))];exact ⟨rfl,rfl⟩) (I.ch _ hk)
  obtain ⟨u1,u2⟩:=hang_sim (m:=M1) (pt:=hp) (p:=q) (k:=cl q) (l:=pl (cl q)) (fun r hr=>by
   rw [n1,em1]
   by_cases e:r=q
   ·subst e;rw [putP_same];exact ⟨hqn,q0⟩
   ·rw [putP_ne _ _ e]
    have h:=I.plS hk ((List.mem_cons.1 hr).resolve_left e)
    exact ⟨h.1,h.2.1⟩) ndl (I.hd _ hk) hch0
  obtain ⟨ho,hn',hb1⟩:=hangM_o M1 hp q (cl q)
  have W2:=ki_hang (x:=x.wm M1) (pt:=hp) (page:=q) (k:=cl q) W1
  have hq2:∃a b,(hangM M1 hp q (cl q)).pg q=chainP (pown (x.m.pg q) j false) a b∨(hangM M1 hp q (cl q)).pg q=pown (x.m.pg q) j false:=by
   obtain ⟨a,b,e | e⟩:=u2.i q
   ·exact ⟨a,b,.inl (by rw [e,em1,putP_same])⟩
   ·exact ⟨a,b,.inr (by rw [e,em1,putP_same])⟩
  have h02:(hangM M1 hp q (cl q)).pg q 0=4∧(hangM M1 hp q (cl q)).pg q 2=cl q:=by
   obtain ⟨a,b,e | e⟩:=hq2
   ·rw [e];exact ⟨q0,q2⟩
   ·rw [e];exact ⟨q0,q2⟩
  have em3:=firstU_pg (d:=j) (by rw [hn',n1];exact hqn) h02.1 h02.2 ⟨by omega,by omega⟩
  have PI3:PgI (firstP ((hangM M1 hp q (cl q)).pg q) j) (cl q) [j]:=by
   rw [hfr] at PI2
   obtain ⟨a,b,e | e⟩:=hq2
   ·rw [e,firstP_chainP];exact PI2.chain a b
   ·rw [e];exact PI2
  have eG:giveSU c x hp a=(⟨x.st.wr c a 0,x.hd,firstU (hangM M1 hp q (cl q)) q j⟩,fset hp (cl q) q,0):=by
   unfold giveSU
   rw [hf]
   simp only [k2,hM1]
   rw [if_neg h3,if_pos (by rw [h6];decide)]
   unfold wrU
   rw [if_pos th]
  have W3:KI c ⟨x.st.wr c a 0,x.hd,firstU (hangM M1 hp q (cl q)) q j⟩:=ki_sto (ki_first (x:=x.wm (hangM M1 hp q (cl q))) (i:=q) (p:=j) W2) rfl
  rw [eG,if_pos rfl]
  refine ⟨rfl,?_,by simp [hn',n1],by simp [ho,o1],rfl,mem 0⟩
  have hLk:=lnk 0 (by unfold U64;omega) (by rw [hfr];rfl)
  rw [hfr] at hLk nd' hb'
  have:=I.step (S':=S) (f':=[j]) (l':=q::pl (cl q)) (hp':=fset hp (cl q) q) hk (I.w.rep.ps q hS).1 (.inl hS) (fun _=>rfl) W3 (by simp [ho,o1]) (by simp [hn',n1]) (by simp [hb1,b1]) rfl (fun _ _=>Iff.rfl)
   (fun r hr hr2=>by rw [em3,putP_ne _ _ hr,u2.o r (by simp [hr,hr2]),em1,putP_ne _ _ hr])
   (fun r hr _=>by
    obtain ⟨a,b,e | e⟩:=u2.i r
    ·exact ⟨a,b,.inl (by rw [em3,putP_ne _ _ hr,e,em1,putP_ne _ _ hr])⟩
    ·exact ⟨a,b,.inr (by rw [em3,putP_ne _ _ hr,e,em1,putP_ne _ _ hr])⟩)
   (fun _=>⟨by rw [em3,putP_same];exact PI3,nd',hb',fun e=>(by cases e),hLk⟩) (fun h=>absurd hS h)
   ⟨ndl,fun r=>by
    by_cases e:r=q
    ·subst e;simp [hS]
    ·simp [e]⟩ (CS_congr (pg:=(hangM M1 hp q (cl q)).pg) (fun r hr=>by
     rw [em3]
     by_cases e:r=q
     ·subst e
      rw [putP_same]
      unfold firstP
      constructor<;>rw [if_neg (by omega)]
     ·rw [putP_ne _ _ e];exact ⟨rfl,rfl⟩) u1) rfl (mem' 0)
  rw [hcl] at this
  exact this
 | cons i f =>
  have h6:x.m.pg q 6=(i:Int):=by rw [PI.k6,hfr];rfl
  have hi:i<cnt (cl q):=hb i (by rw [hfr];exact List.mem_cons_self ..)
  have hin2:=cell_in hk hi
  have ev:=cellW_eq W hqn hk hi
  have em3:=firstU_pg (d:=j) (by rw [n1];exact hqn) (by rw [em1,putP_same];exact q0) (by rw [em1,putP_same];exact q2) ⟨by omega,by omega⟩
  have em4:(firstU M1 q j).pg=putP x.m.pg q (firstP (pown (x.m.pg q) j false) j):=by
   rw [em3,em1,putP_same]
   funext r
   by_cases e:r=q
   ·subst e;rw [putP_same,putP_same]
   ·rw [putP_ne _ _ e,putP_ne _ _ e,putP_ne _ _ e]
  have eG:giveSU c x hp a=(⟨x.st.wr c a (adr c q+((i*wdt (cl q):Nat):Int)),x.hd,firstU M1 q j⟩,hp,0):=by
   unfold giveSU
   rw [hf]
   simp only [k2,hM1]
   rw [if_neg h3,if_neg (by rw [h6];omega),h6,ev]
   unfold wrU
   rw [if_pos th]
  have W3:KI c ⟨x.st.wr c a (adr c q+((i*wdt (cl q):Nat):Int)),x.hd,firstU M1 q j⟩:=ki_sto (ki_first (x:=x.wm M1) (i:=q) (p:=j) W1) rfl
  rw [eG,if_neg (by simp)]
  refine ⟨rfl,?_,by simp [n1],by simp [o1],rfl,mem _⟩
  have hLk:=lnk (adr c q+((i*wdt (cl q):Nat):Int)) (by unfold adr U64;omega) (by rw [hfr];rfl)
  rw [hfr] at hLk nd' hb' PI2
  have hqp:q∈pl (cl q):=((I.pn _ hk).2 q).2 ⟨hS,rfl,by rw [hfr];simp⟩
  have:=I.step (S':=S) (f':=j::i::f) (l':=pl (cl q)) (hp':=hp) hk (I.w.rep.ps q hS).1 (.inl hS) (fun _=>rfl) W3 (by simp [o1]) (by simp [n1]) (by simp [b1]) rfl (fun _ _=>Iff.rfl)
   (fun r hr hr2=>by rw [em4,putP_ne _ _ hr]) (fun r hr _=>⟨0,0,.inr (by rw [em4,putP_ne _ _ hr])⟩)
   (fun _=>⟨by rw [em4,putP_same];exact PI2,nd',hb',fun e=>(by cases e),hLk⟩) (fun h=>absurd hS h)
   ⟨(I.pn _ hk).1,fun r=>by
    by_cases e:r=q
    ·subst e;simp [hS,hqp]
    ·simp [e]⟩ (CS_congr (pg:=x.m.pg) (fun r hr=>by
     rw [em4]
     by_cases e:r=q
     ·subst e
      rw [putP_same]
      unfold firstP
      constructor
      ·rw [if_neg (by omega)];exact q45.1
      ·rw [if_neg (by omega)];exact q45.2
     ·rw [putP_ne _ _ e];exact ⟨rfl,rfl⟩) (I.ch _ hk)) (fset_self (I.hd _ hk)).symm (mem' _)
  rw [hcl] at this
  exact this
end
end Go.Proofs.YteemmpkhdllapaaGreatDoor
namespace Go.Proofs.YteemmpkhdllapaaGreatDoor
open Go.V Classical
section
variable {c:Cfg} {x:BU} {hp:Nat→Int} {S:Nat→Prop} {fl:Nat→List Nat} {L L':List PBk} {cl:Nat→Nat} {fr pl:Nat→List Nat} {p k q j:Nat} {f l':List Nat}
theorem sim_giveL (I:SI c x hp S fl L cl fr pl) {q j:Nat} (hS:S q) (hck:cl q=k) (hj:j<cnt k) (hn:j∉fr q) (hl:(fr q).length+1=cnt k) {a:Int} (ha:a=adr c q+((j*wdt k:Nat):Int)) (hL:L.Perm ((q,0)::L')) :
  (giveSU c x hp a).2.2=0∧SI c (giveSU c x hp a).1 (giveSU c x hp a).2.1 (fun p=>S p∧p≠q) (aUp fl q 0 x.m.o) L' cl (fset fr q []) (fset pl k ((pl k).filter (·≠q))) ∧
  (giveSU c x hp a).1.m.n=x.m.n∧(giveSU c x hp a).1.m.o=x.m.o∧Kept L' x.st (giveSU c x hp a).1.st:=by
 subst hck
 have hk:=I.k8 q hS
 have hf:=findU_cell I hS hj hn
 rw [←ha] at hf
 have hqn:=I.w.rep.sn hS
 have hqL:=(I.w.rep.ps q hS).1
 have W:=I.ki
 have T:=W.ok.m.pg q hqn
 have PI:=I.pg q hS
 have hc:=cnt_wdt hk
 have hcl:fset cl q (cl q)=cl:=fset_self rfl
 have hbit:pbit (x.m.pg q) j≠false:=by rw [PI.bit j (by omega)];simp [hj,hn]
 have em1:(ownU x.m q j false).pg=putP x.m.pg q (pown (x.m.pg q) j false):=ownU_pg hqn PI.k0 PI.k2 hj hbit
 have W1:=ki_own (i:=q) (p:=j) (l:=false) W
 have q0:pown (x.m.pg q) j false 0=4:=by unfold pown;rw [if_neg (by omega),if_neg (by omega)];exact PI.k0
 have q45:pown (x.m.pg q) j false 4=x.m.pg q 4∧pown (x.m.pg q) j false 5=x.m.pg q 5:=by unfold pown;constructor<;>rw [if_neg (by omega),if_neg (by omega)]
 have h3:x.m.pg q 3=1:=by rw [PI.k3];omega
 have k2:(x.m.pg q 2).toNat=cl q:=by rw [PI.k2];rfl
 have hfr:fr q≠[]:=fun e=>by rw [e] at hl;simp at hl;omega
 have hqp:q∈pl (cl q):=((I.pn _ hk).2 q).2 ⟨hS,rfl,hfr⟩
 obtain ⟨l1,l2,hpl⟩:=List.append_of_mem hqp
 have ndl:=(I.pn _ hk).1
 have hfil:(pl (cl q)).filter (·≠q)=l1++l2:=by rw [hpl];exact filter_split (hpl▸ndl)
 rw [hpl] at ndl
 generalize hM1:ownU x.m q j false=M1 at em1 W1
 have o1:M1.o=x.m.o:=by rw [←hM1];simp
 have n1:M1.n=x.m.n:=by rw [←hM1];simp
 have b1:M1.bt=x.m.bt:=by rw [←hM1];simp
 have hch0:CS M1.pg (l1++q::l2) (-1) (-1):=by
  rw [←hpl,em1]
  refine CS_congr (fun r hr=>?_) (I.ch _ hk)
  by_cases e:r=q
  ·subst e;rw [putP_same];exact q45
  ·rw [putP_ne _ _ e];exact ⟨rfl,rfl⟩
 obtain ⟨u1,u2,u3,u4,u5⟩:=unhang_sim (m:=M1) (pt:=hp) (p:=q) (k:=cl q) (l1:=l1) (l2:=l2) (fun r hr=>by
  rw [←hpl] at hr
  have h:=I.plS hk hr
  refine ⟨by rw [n1];exact h.1,?_⟩
  rw [em1]
  by_cases e:r=q
  ·subst e;rw [putP_same];exact q0
  ·rw [putP_ne _ _ e];exact h.2.1) ndl (by rw [I.hd _ hk,hpl]) hch0
 obtain ⟨ho,hn',hb⟩:=unhangM_o M1 q
 have W2:=ki_unhang (x:=x.wm M1) (page:=q) W1
 have em3:(runI (unhangM M1 q) q).pg=runP (unhangM M1 q).pg q 0 2:=by
  unfold runI
  rw [if_pos (show runOk (unhangM M1 q) q 0 2 from ⟨.inr rfl,by omega,by omega,by omega,by simp [Nat.mod_one],by rw [hn',n1];simp;omega⟩)]
  simp only [Int.toNat_natCast]
 have W3:KI c (x.wm (runI (unhangM M1 q) q)):=ki_run (x:=x.wm (unhangM M1 q)) (i:=q) W2
 have out:∀r,r≠q→(runI (unhangM M1 q) q).pg r=(unhangM M1 q).pg r:=fun r hr=>by
  rw [em3];exact runP_out fun hc=>hr (by have:=hc.1;have:=hc.2;simp only [Nat.pow_zero] at *;omega)
 have inn:(runI (unhangM M1 q) q).pg q=plainP 2 0:=by
  rw [em3,runP_in cov_self,if_pos rfl];rfl
 have eG:giveSU c x hp a=((giveU c (x.wm (runI (unhangM M1 q) q)) (adr c q) 0).1,unhangP M1 hp q (cl q),(giveU c (x.wm (runI (unhangM M1 q) q)) (adr c q) 0).2):=by
  unfold giveSU
  rw [hf]
  simp only [k2,hM1]
  rw [if_pos h3]
 have I3:=I.step (S':=fun p=>S p∧p≠q) (f':=[]) (l':=l1++l2) (hp':=unhangP M1 hp q (cl q)) hk hqL (.inl hS) (fun _=>rfl) (m':=runI (unhangM M1 q) q) (st':=x.st) W3 (by simp [ho,o1]) (by simp [hn',n1]) (by simp [hb,b1]) rfl
  (fun r hr=>by simp [hr]) (fun r hr hr2=>by rw [out r hr,u4.o r (by rw [hpl] at hr2;exact hr2),em1,putP_ne _ _ hr])
  (fun r hr _=>by
   obtain ⟨a,b,e | e⟩:=u4.i r
   ·exact ⟨a,b,.inl (by rw [out r hr,e,em1,putP_ne _ _ hr])⟩
   ·exact ⟨a,b,.inr (by rw [out r hr,e,em1,putP_ne _ _ hr])⟩)
  (fun h=>absurd rfl h.2) (fun _=>inn)
  ⟨by rw [←hfil];exact (I.pn _ hk).1.filter _,fun r=>by
   rw [←hfil,List.mem_filter]
   by_cases e:r=q
   ·subst e;simp
   ·simp [e]⟩ (CS_congr (pg:=(unhangM M1 q).pg) (fun r hr=>by
    have hrq:r≠q:=fun e=>by
     subst e
     have:=hfil▸hr
     rw [List.mem_filter] at this
     simp at this
    rw [out r hrq];exact ⟨rfl,rfl⟩) u1) u5 (fun _ _=>rfl)
 rw [hcl,←hfil] at I3
 have hLn:¬(fun p=>S p∧p≠q) q:=fun h=>h.2 rfl
 have om:(x.wm (runI (unhangM M1 q) q)).m.o=x.m.o:=by simp [ho,o1]
 have nm:(x.wm (runI (unhangM M1 q) q)).m.n=x.m.n:=by simp [hn',n1]
 obtain ⟨g0,G⟩:=sim_give I3.w.g I3.w.rep hL hLn
 obtain ⟨W4,M4⟩:=I3.w.mv G
 rw [eG]
 have hz:((0:Nat):Int)=0:=rfl
 rw [hz,om,Nat.sub_zero] at W4
 rw [hz] at M4 g0
 refine ⟨g0,?_,M4.n.trans nm,M4.o.trans om,M4.k⟩
 refine I3.pool W4 (fun r hr=>M4.pk _ (W4.rep.ps r hr).1 r cov_self) fun r hr o h1 h2=>?_
 exact M4.k.2 (r,0) (W4.rep.ps r hr).1 o h1 (by simpa using h2)
theorem sim_need (W:WS S c x fl L) (hlim:(x.st.n:Int)≤c.limit) (o:Int) (deny:Bool) :
  ((o<0∨o>x.m.o)∧needU c x o deny=(x,0,false,1)) ∨
  ∃on:Nat,o=on∧on≤x.m.o ∧
   ((∃j p l,on≤j∧j≤x.m.o∧fl j=p::l∧(∀i,on≤i→i<j→fl i=[])∧(needU c x o deny).2=(adr c p,false,0)∧WS S c (needU c x o deny).1 (aCut p on (fset fl j l) (j-on)) ((p,on)::L)∧Mv x (needU c x o deny).1 L) ∨
   ((∀j,on≤j→j≤x.m.o→fl j=[])∧(deny=true∨(x.st.n:Int)=c.limit)∧needU c x o deny=(x,0,false,2)) ∨
   ((∀j,on≤j→j≤x.m.o→fl j=[])∧deny=false∧(x.st.n:Int)<c.limit∧(needU c x o deny).2=(adr c x.m.n,true,0)∧WS S c (needU c x o deny).1 (aCut x.m.n on (fset fl x.m.o []) (x.m.o-on)) ((x.m.n,on)::L) ∧
    (needU c x o deny).1.m.o=x.m.o∧(needU c x o deny).1.m.n=x.m.n+2 ^ x.m.o∧(needU c x o deny).1.st.n=x.st.n+1∧Keep L x.st (needU c x o deny).1.st∧PK L x.m (needU c x o deny).1.m)):=by
 by_cases ho:o<0∨o>x.m.o
 ·refine .inl ⟨ho,?_⟩
  have e:takeU c x o=(x,0,1):=by unfold takeU;rw [if_pos ho]
  unfold needU
  rw [e,if_pos (by simp)]
 obtain ⟨on,rfl⟩ : ∃on:Nat,o=on:=⟨o.toNat,by omega⟩
 have ho:on≤x.m.o:=by omega
 refine .inr ⟨on,rfl,ho,?_⟩
 rcases sim_take W.g ho W.rep with ⟨e,hF⟩ | ⟨j,p,l,j1,j2,hF,hi,e,G⟩
 case inr =>
  obtain ⟨W',M⟩:=W.mv G
  have en:needU c x on deny=((takeU c x on).1,(takeU c x on).2.1,false,(takeU c x on).2.2):=by
   unfold needU;rw [if_pos (by rw [e];simp)]
  rw [en]
  refine .inl ⟨j,p,l,j1,j2,hF,hi,?_,W',M⟩
  simp only [e]
 by_cases hd:deny=true∨(x.st.n:Int)=c.limit
 ·refine .inr (.inl ⟨hF,hd,?_⟩)
  unfold needU
  rw [e,if_neg (by simp),if_pos hd]
 have hd0:deny=false:=by cases deny;rfl;exact absurd (.inl rfl) hd
 have hl:(x.st.n:Int)<c.limit:=by
  have:(x.st.n:Int)≠c.limit:=fun e=>hd (.inr e)
  omega
 refine .inr (.inr ⟨hF,hd0,hl,?_⟩)
 have en:needU c x on deny=((takeU c (feedU c ⟨growS c x.st,x.hd,mGrow x.m⟩).1 on).1,(takeU c (feedU c ⟨growS c x.st,x.hd,mGrow x.m⟩).1 on).2.1,decide ((takeU c (feedU c ⟨growS c x.st,x.hd,mGrow x.m⟩).1 on).2.2=0),(takeU c (feedU c ⟨growS c x.st,x.hd,mGrow x.m⟩).1 on).2.2):=by
  unfold needU
  rw [e,if_neg (by simp),if_neg hd]
 obtain ⟨W3,eo,en3,hM,pk3⟩:=comeS W hl
 have e9:(mGrow x.m).n-2 ^ (mGrow x.m).o=x.m.n:=by rw [en3,eo,Nat.add_sub_cancel]
 obtain ⟨f0,G4⟩:=sim_feed (x:=⟨growS c x.st,x.hd,mGrow x.m⟩) W3.g W3.rep (Nat.succ_pos _) W3.e (L':=L) (by rw [e9,eo]) (by rw [e9];exact fun hq=>Nat.lt_irrefl _ (W.rep.sn hq))
 obtain ⟨W4,M4⟩:=W3.mv G4
 rw [e9,eo] at W4
 generalize hx4:(feedU c ⟨growS c x.st,x.hd,mGrow x.m⟩).1=x4 at en W4 M4
 have o4:x4.m.o=x.m.o:=by rw [M4.o];exact eo
 have hO:fl x.m.o=[]:=hF x.m.o ho (Nat.le_refl _)
 have f4:∀j,aUp fl x.m.n x.m.o 0 j=if j=x.m.o then [x.m.n] else fl j:=fun j=>by
  show fset fl x.m.o (x.m.n::fl x.m.o) j=_
  rw [hO];rfl
 rcases sim_take W4.g (o:=on) (by omega) W4.rep with ⟨e5,hF4⟩ | ⟨j,p,l,j1,j2,hF4,hi,e5,G5⟩
 ·have:=hF4 x.m.o ho (by omega)
  rw [f4,if_pos rfl] at this;cases this
 have hj:j=x.m.o:=Classical.byContradiction fun hne=>by
  rw [f4,if_neg hne,hF j j1 (by omega)] at hF4;cases hF4
 subst hj
 rw [f4,if_pos rfl] at hF4
 cases hF4
 obtain ⟨W5,M5⟩:=W4.mv G5
 have ef:fset (aUp fl x.m.n x.m.o 0) x.m.o []=fset fl x.m.o []:=funext fun j=>by
  unfold fset
  by_cases e:j=x.m.o
  ·rw [if_pos e,if_pos e]
  ·rw [if_neg e,if_neg e,f4,if_neg e]
 rw [ef] at W5
 rw [en]
 refine ⟨by simp only [e5];simp,W5,by rw [M5.o,o4],by rw [M5.n,M4.n];exact en3,by rw [M5.k.1,M4.k.1];rfl,?_,pk3.trans (M4.pk.trans M5.pk)⟩
 intro z hz y hy1 hy2
 rw [M5.k.2 z hz y hy1 hy2,M4.k.2 z hz y hy1 hy2]
 exact hM z hz y hy1 hy2
theorem SI.pool' (I:SI c x hp S fl L cl fr pl) {x':BU} {fl':Nat→List Nat} (W:WS S c x' fl' L') (hk:Keep L x.st x'.st) (hpk:PK L x.m x'.m):SI c x' hp S fl' L' cl fr pl :=
 I.pool W (fun q hq=>hpk _ (I.w.rep.ps q hq).1 q cov_self) fun q hq o h1 h2=>hk (q,0) (I.w.rep.ps q hq).1 o h1 (by simpa using h2)
theorem range_tail (n:Nat) (hn:2≤n):List.range n=0::List.range' 1 (n-1)∧List.range' 1 (n-1)≠[]:=by
 obtain ⟨m,rfl⟩ : ∃m,n=m+2:=⟨n-2,by omega⟩
 refine ⟨by rw [List.range_eq_range',List.range'_succ];rfl,fun e=>?_⟩
 have:=congrArg List.length e
 simp at this
theorem sim_bornC (I:SI c x hp S fl L cl fr pl) (hk:k<8) (hqL:(q,0)∈L) (hS:¬S q) (hpl:pl k=[]) :
  let b:=bornU c x hp q k
  let t:=takeC c b.1 b.2 q k
  t.2.2=adr c q∧SI c t.1 t.2.1 (fun p=>S p∨p=q) fl L (fset cl q k) (fset fr q (List.range' 1 (cnt k-1))) (fset pl k [q])∧t.1.m.n=x.m.n∧t.1.m.o=x.m.o∧t.1.st.n=x.st.n∧∀o,¬(4096*q≤o∧o<4096*(q+1))→t.1.st.M o=x.st.M o:=by
 intro b t
 obtain ⟨I1,n1,o1,s1,m1⟩:=sim_born I hk hqL hS
 obtain ⟨r1,r2⟩:=range_tail (cnt k) (cnt_wdt hk).2.2.1
 rw [hpl] at I1
 obtain ⟨t1,t2,t3,t4,t5⟩:=sim_takeC (q:=q) (l':=[]) (j:=0) (f:=List.range' 1 (cnt k-1)) I1 hk (by rw [fset_same]) (by rw [fset_same,r1])
 have ff:∀{α:Type} (g:Nat→α) (a b:α),fset (fset g q a) q b=fset g q b:=fun g a b=>by funext i;unfold fset;split<;>rfl
 have ffk:∀{α:Type} (g:Nat→α) (a b:α),fset (fset g k a) k b=fset g k b:=fun g a b=>by funext i;unfold fset;split<;>rfl
 rw [ff,ffk,if_neg r2] at t2
 exact ⟨by rw [t1];simp,t2,t4.trans n1,t5.trans o1,by rw [t3];exact s1,fun o ho=>by rw [t3];exact m1 o ho⟩
end
end Go.Proofs.YteemmpkhdllapaaGreatDoor
