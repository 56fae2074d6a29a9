/- Texts of this proof, some in one. No condition. -/
import Derived.Test.YteemmpkhdllapaaGreatDoorY1
import Derived.RowKit3
import Derived.Laws.Append
import Derived.Carry
import Derived.ProofKit
import Derived.OpenShut
import Derived.Test.YteemmpkhdllapaaGreatDoorProg
set_option linter.unusedSimpArgs false
set_option linter.unusedVariables false
namespace Go.V
@[simp] theorem add_mk (b i n:Nat):(⟨b,i,none⟩ : Addr).add n=⟨b,i+n,none⟩:=by
 unfold Addr.add
 split
 ·rename_i h;subst h;rfl
 ·rfl
def Blk (h:Heap) (b n:Nat) (f:Nat→Value):Prop :=
 ∃(arr:Array Value) (T:TypeId),h[b]? = some (.cells arr T (0,0))∧arr.size=n∧∀j,j<n→arr[j]? = some (f j)
def Upd (S:Nat→Prop) (h h':Heap):Prop:=h.size≤h'.size∧(∀b,b<h.size→¬S b→h'[b]? = h[b]?)∧∀a,frozenAt h' a=frozenAt h a
def fz:Obj→Prop
 | .cells _ _ f=>f=(0,0)
 | _=>True
theorem Blk.lt {h:Heap} {b n:Nat} {f:Nat→Value} (H:Blk h b n f):b<h.size:=by
 obtain ⟨arr,T,h1,_⟩:=H
 exact (Array.getElem?_eq_some_iff.1 h1).1
theorem Blk.cell {h:Heap} {b n:Nat} {f:Nat→Value} (H:Blk h b n f) {i:Nat} (hi:i<n):cellAt h ⟨b,i,none⟩=some (f i):=by
 obtain ⟨arr,T,h1,h2,h3⟩:=H
 simp [cellAt,h1,h3 i hi]
theorem Blk.wr {h:Heap} {b n:Nat} {f:Nat→Value} (H:Blk h b n f) {i:Nat} (hi:i<n):Wr h ⟨b,i,none⟩:=by
 refine ⟨by rw [H.cell hi];rfl,?_⟩
 obtain ⟨arr,T,h1,h2,h3⟩:=H
 simp [frozenAt,h1]
theorem Blk.congr {h:Heap} {b n:Nat} {f g:Nat→Value} (H:Blk h b n f) (hg:∀i,i<n→f i=g i):Blk h b n g:=by
 obtain ⟨arr,T,h1,h2,h3⟩:=H
 exact ⟨arr,T,h1,h2,fun j hj=>by rw [h3 j hj,hg j hj]⟩
theorem Blk.upd {S:Nat→Prop} {h h':Heap} {b n:Nat} {f:Nat→Value} (H:Blk h b n f) (hu:Upd S h h') (hs:¬S b):Blk h' b n f:=by
 have hl:=H.lt
 obtain ⟨arr,T,h1,h2,h3⟩:=H
 exact ⟨arr,T,by rw [hu.2.1 b hl hs,h1],h2,h3⟩
theorem cellAt_upd {S:Nat→Prop} {h h':Heap} {a:Addr} {v:Value} (H:cellAt h a=some v) (hu:Upd S h h') (hs:¬S a.block):cellAt h' a=some v:=by
 obtain ⟨c,T,f,hb,_,_⟩:=cellAt_block (h:=h) (a:=a) (by rw [H];rfl)
 have hl:a.block<h.size:=(Array.getElem?_eq_some_iff.1 hb).1
 unfold cellAt at *
 rw [hu.2.1 _ hl hs]
 exact H
@[simp] theorem setC_size (h:Heap) (a:Addr) (v:Value):(setC h a v).size=h.size:=by simp [setC]
theorem setC_upd (h:Heap) (a:Addr) (v:Value):Upd (fun b=>b=a.block) h (setC h a v) :=
 ⟨by simp,fun b _ hb=>by rw [setC_block,if_neg hb],fun x=>by
  unfold frozenAt
  rw [setC_block]
  by_cases hx:x.block=a.block
  ·rw [if_pos hx]
   cases h[x.block]? with
   | none=>rfl
   | some o=>cases o<;>rfl
  ·rw [if_neg hx]⟩
theorem push_get (h:Heap) (o:Obj) (b:Nat) (hb:b<h.size):(h.push o)[b]? = h[b]?:=by
 rw [Array.getElem?_push,if_neg (by omega)]
theorem push_upd (S:Nat→Prop) (h:Heap) (o:Obj) (ho:fz o:=by exact rfl):Upd S h (h.push o):=⟨by simp,fun b hb _=>push_get h o b hb,fun x=>by
 unfold frozenAt
 by_cases hx:x.block=h.size
 ·rw [hx]
  cases o with
  | cells c t f=>have:f=(0,0):=ho;subst this;simp
  | _=>simp
 ·rw [Array.getElem?_push,if_neg hx]⟩
theorem Upd.refl (S:Nat→Prop) (h:Heap):Upd S h h:=⟨Nat.le_refl _,fun _ _ _=>rfl,fun _=>rfl⟩
theorem Upd.trans {S S' S'':Nat→Prop} {h h' h'':Heap} (H:Upd S h h') (H':Upd S' h' h'') (hs:∀b,S b→S'' b) (hs':∀b,S' b→b<h.size→S'' b):Upd S'' h h'':=by
 refine ⟨Nat.le_trans H.1 H'.1,fun b hb hn=>?_,fun x=>by rw [H'.2.2 x,H.2.2 x]⟩
 rw [H'.2.1 b (Nat.lt_of_lt_of_le hb H.1) (fun e=>hn (hs' b e hb)),H.2.1 b hb (fun e=>hn (hs b e))]
theorem Upd.nx {S Z:Nat→Prop} {h h1 h2:Heap} (H:Upd S h h1) (H':Upd Z h1 h2) (hz:∀b,Z b→b<h.size→S b):Upd S h h2:=Upd.trans H H' (fun _ e=>e) hz
theorem Upd.mono {S S':Nat→Prop} {h h':Heap} (H:Upd S h h') (hs:∀b,S b→b<h.size→S' b):Upd S' h h' :=
 ⟨H.1,fun b hb hn=>H.2.1 b hb fun e=>hn (hs b e hb),H.2.2⟩
theorem setCs_size:∀(vs:List Value) (h:Heap) (a:Addr) (i:Nat),(setCs h a i vs).size=h.size
 | [],_,_,_=>rfl
 | v::vs,h,a,i=>by rw [setCs,setCs_size vs];simp
theorem setCs_upd:∀(vs:List Value) (h:Heap) (a:Addr) (i:Nat),Upd (fun b=>b=a.block) h (setCs h a i vs)
 | [],h,_,_=>Upd.refl _ h
 | v::vs,h,a,i=>by
  have hb:(a.add i).block=a.block:=by unfold Addr.add;split<;>rfl
  exact Upd.trans (setC_upd h (a.add i) v) (setCs_upd vs _ a (i+1)) (fun b e=>by rw [e,hb]) (fun b e _=>e)
theorem Blk.set {h:Heap} {b n:Nat} {f:Nat→Value} (H:Blk h b n f) (i:Nat) (v:Value):Blk (setC h ⟨b,i,none⟩ v) b n (fun j=>if j=i then v else f j):=by
 obtain ⟨arr,T,h1,h2,h3⟩:=H
 refine ⟨arr.setIfInBounds i v,T,by rw [setC_block];simp [h1],by simp [h2],fun j hj=>?_⟩
 rw [Array.getElem?_setIfInBounds]
 by_cases hij:i=j
 ·subst hij;simp [h2,hj]
 ·simp [hij,Ne.symm hij,h3 j hj]
theorem Blk.set_ne {h:Heap} {b n:Nat} {f:Nat→Value} (H:Blk h b n f) {a:Addr} (hab:b≠a.block) (v:Value):Blk (setC h a v) b n f :=
 H.upd (setC_upd h a v) hab
theorem Blk.sets {b n:Nat}:∀(vs:List Value) {h:Heap} {f:Nat→Value} (H:Blk h b n f) (o i:Nat),
  Blk (setCs h ⟨b,o,none⟩ i vs) b n (fun j=>if o+i≤j∧j<o+i+vs.length then vs.getD (j-(o+i)) undef else f j)
 | [],h,f,H,o,i=>H.congr fun j hj=>by simp;intros;omega
 | v::vs,h,f,H,o,i=>by
  rw [setCs,add_mk]
  refine (Blk.sets vs (H.set (o+i) v) o (i+1)).congr fun j hj=>?_
  simp only [List.length_cons]
  by_cases h1:j=o+i
  ·subst h1
   rw [if_neg (by omega),if_pos rfl,if_pos (by omega)]
   simp
  ·by_cases h2:o+i≤j∧j<o+i+(vs.length+1)
   ·rw [if_pos (by omega),if_pos h2]
    obtain ⟨k,hk⟩ : ∃k,j-(o+i)=k+1:=⟨j-(o+i)-1,by omega⟩
    rw [hk,List.getD_cons_succ]
    congr 1
    omega
   ·rw [if_neg (by omega),if_neg h1,if_neg h2]
theorem Blk.push {h:Heap} {b n:Nat} {f:Nat→Value} (H:Blk h b n f) (o:Obj) (ho:fz o:=by exact rfl):Blk (h.push o) b n f:=H.upd (push_upd (fun _=>False) h o ho) id
theorem Blk.new (h:Heap) (arr:Array Value) (T:TypeId):Blk (h.push (.cells arr T (0,0))) h.size arr.size (fun j=>arr.getD j undef) :=
 ⟨arr,T,by simp,rfl,fun j hj=>by simp [hj]⟩
theorem Blk.new' (h:Heap) (arr:Array Value) (T:TypeId) (n:Nat) (f:Nat→Value) (hn:arr.size=n) (hf:∀j,j<n→arr[j]? = some (f j)):Blk (h.push (.cells arr T (0,0))) h.size n f :=
 ⟨arr,T,by simp,hn,hf⟩
theorem Blk.uniq {h:Heap} {b n m:Nat} {f g:Nat→Value} (H:Blk h b n f) (H':Blk h b m g):n=m∧∀i,i<n→f i=g i:=by
 obtain ⟨arr,T,h1,h2,h3⟩:=H
 obtain ⟨arr',T',h1',h2',h3'⟩:=H'
 rw [h1] at h1'
 cases h1'
 refine ⟨by omega,fun i hi=>?_⟩
 have e1:=h3 i hi
 have e2:=h3' i (by omega)
 rw [e1] at e2
 exact Option.some.inj e2
theorem setC_push (h:Heap) (arr:Array Value) (T:TypeId) (i:Nat) (v:Value):setC (h.push (.cells arr T)) ⟨h.size,i,none⟩ v=h.push (.cells (arr.setIfInBounds i v) T):=by
 apply Array.ext_getElem?
 intro b
 rw [setC_block]
 by_cases hb:b=h.size
 ·subst hb;simp
 ·rw [if_neg hb,Array.getElem?_push,Array.getElem?_push]
  simp [hb]
def Row (h:Heap) (p:Option Addr) (n:Nat) (f:Nat→Value):Prop :=
 n=0∨∃b o,p=some ⟨b,o,none⟩∧∀i,i<n→cellAt h ⟨b,o+i,none⟩=some (f i)
def Off (S:Nat→Prop) (p:Option Addr):Prop:=∀a,p=some a→¬S a.block
theorem Blk.row {h:Heap} {b n:Nat} {f:Nat→Value} (H:Blk h b n f) (o m:Nat) (hm:o+m≤n):Row h (some ⟨b,o,none⟩) m (fun i=>f (o+i)) :=
 .inr ⟨b,o,rfl,fun i hi=>H.cell (by omega)⟩
theorem Row.upd {S:Nat→Prop} {h h':Heap} {p:Option Addr} {n:Nat} {f:Nat→Value} (H:Row h p n f) (hu:Upd S h h') (hs:Off S p):Row h' p n f:=by
 rcases H with e | ⟨b,o,rfl,H⟩
 ·exact .inl e
 ·exact .inr ⟨b,o,rfl,fun i hi=>cellAt_upd (H i hi) hu (show ¬S b from hs ⟨b,o,none⟩ rfl)⟩
theorem Row.congr {h:Heap} {p:Option Addr} {n:Nat} {f g:Nat→Value} (H:Row h p n f) (hg:∀i,i<n→f i=g i):Row h p n g:=by
 rcases H with e | ⟨b,o,rfl,H⟩
 ·exact .inl e
 ·exact .inr ⟨b,o,rfl,fun i hi=>by rw [H i hi,hg i hi]⟩
def lst (n:Nat) (f:Nat→Value):List Value:=(List.range n).map f
@[simp] theorem lst_length (n:Nat) (f:Nat→Value):(lst n f).length=n:=by simp [lst]
theorem lst_get {n i:Nat} {f:Nat→Value} (hi:i<n):(lst n f)[i]? = some (f i):=by simp [lst,hi]
theorem lst_getD {n i:Nat} {f:Nat→Value} {d:Value} (hi:i<n):(lst n f).getD i d=f i:=by simp [lst,hi,List.getD]
theorem Row.rowAt {h:Heap} {p:Option Addr} {n:Nat} {f:Nat→Value} (H:Row h p n f):rowAt h p (lst n f):=by
 rcases H with e | ⟨b,o,rfl,H⟩
 ·subst e
  cases p
  ·rfl
  ·intro j v hv;simp [lst] at hv
 ·intro j v hv
  have hj:j<n:=by
   rcases Nat.lt_or_ge j n with hl | hl
   ·exact hl
   ·rw [List.getElem?_eq_none (by simpa using hl)] at hv;cases hv
  rw [lst_get hj] at hv
  cases hv
  rw [add_mk]
  exact H j hj
theorem pF {c:Bool} {X Y:Prop} (hc:c=false) (x:X):(c=false→X)∧(c=(!false)→Y):=⟨fun _=>x,fun e=>by rw [hc] at e;cases e⟩
theorem pT {c:Bool} {X Y:Prop} (hc:c=true) (y:Y):(c=false→X)∧(c=(!false)→Y):=⟨fun e=>(by rw [hc] at e;cases e),fun _=>y⟩
theorem qT {c:Bool} {X Y:Prop} (hc:c=true) (x:X):(c=true→X)∧(c=(!true)→Y):=⟨fun _=>x,fun e=>by rw [hc] at e;cases e⟩
theorem qF' {c:Bool} {X Y:Prop} (hc:c=false) (y:Y):(c=true→X)∧(c=(!true)→Y):=⟨fun e=>(by rw [hc] at e;cases e),fun _=>y⟩
theorem iT {c:Bool} {X Y:Prop} (hc:c=true) (x:X):(c=true→X)∧(c=false→Y):=⟨fun _=>x,fun e=>by rw [hc] at e;cases e⟩
theorem iF {c:Bool} {X Y:Prop} (hc:c=false) (y:Y):(c=true→X)∧(c=false→Y):=⟨fun e=>(by rw [hc] at e;cases e),fun _=>y⟩
theorem jor {A:Bool→Heap→Prop} {c q:Bool} {h1:Heap}:(∀J:Bool→Heap→Prop,(∀(b:Bool) (h:Heap),A b h→J b h)→(c=false→J q h1)∧(c=(!false)→J true h1))↔A (c || q) h1:=by
 constructor
 ·intro H
  have:=H A (fun _ _ a=>a)
  cases c
  ·exact this.1 rfl
  ·exact this.2 rfl
 ·intro H J hJ
  cases c
  ·exact ⟨fun _=>hJ _ _ H,fun e=>by cases e⟩
  ·exact ⟨fun e=>(by cases e),fun _=>hJ _ _ H⟩
theorem jand {A:Bool→Heap→Prop} {c q:Bool} {h1:Heap}:(∀J:Bool→Heap→Prop,(∀(b:Bool) (h:Heap),A b h→J b h)→(c=true→J q h1)∧(c=(!true)→J false h1))↔A (c && q) h1:=by
 constructor
 ·intro H
  have:=H A (fun _ _ a=>a)
  cases c
  ·exact this.2 rfl
  ·exact this.1 rfl
 ·intro H J hJ
  cases c
  ·exact ⟨fun e=>(by cases e),fun _=>hJ _ _ H⟩
  ·exact ⟨fun _=>hJ _ _ H,fun e=>by cases e⟩
theorem cellAt_new (h:Heap) (arr:Array Value) (T:TypeId) (i:Nat):cellAt (h.push (.cells arr T (0,0))) ⟨h.size,i,none⟩=arr[i]?:=by simp [cellAt]
theorem CallV.toE {P:Program} {w₀:World} {f:FuncId} {args:List Value} {h:Heap} {K:Value→Heap→Prop} {QP:List PanicEntry→Heap→Prop} (H:CallV P w₀ f args h K):CallsE P w₀ f args.toArray h (callPost K QP) :=
 CallsE.mono H fun e h q=>by cases e<;>first | exact q | exact q.elim
theorem grown_of_upd {w:World} {h':Heap} {n':Nat} (H:Upd (fun _=>False) w.heap h'):RowKit.Grown w (on w h' n'):=by
 refine ⟨⟨rfl,rfl,fun i hi=>?_⟩,fun a=>H.2.2 a,H.1⟩
 have e:(on w h' n').heap[i]? = w.heap[i]?:=H.2.1 i hi id
 rw [e]
 split
 ·rename_i h1 h2
  rw [h1] at h2
  simp only [Option.some.injEq,Obj.cells.injEq] at h2
  obtain ⟨rfl,rfl,rfl⟩:=h2
  exact ⟨rfl,rfl,rfl,fun _ _=>rfl⟩
 ·rename_i h1 h2
  rw [h1] at h2
  simp only [Option.some.injEq,Obj.map.injEq] at h2
  exact .inr ⟨h2.1.symm,h2.2.symm⟩
 ·rfl
abbrev NoB:Nat→Prop:=fun _=>False
end Go.V
namespace Go.V
structure Res where
 fp:Nat→Prop
 P:Heap→Prop
 st:∀{h h':Heap} {S:Nat→Prop},P h→Upd S h h'→(∀b,fp b→¬S b)→P h'
 lt:∀{h:Heap},P h→∀b,fp b→b<h.size
def blkR (b n:Nat) (f:Nat→Value):Res:=⟨fun x=>x=b,fun h=>Blk h b n f,fun H hu hs=>H.upd hu (hs _ rfl),fun H x e=>by rw [e];exact H.lt⟩
def noR:Res:=⟨fun _=>False,fun _=>True,fun _ _ _=>trivial,fun _ _ e=>e.elim⟩
def andR (A B:Res):Res:=⟨fun b=>A.fp b∨B.fp b,fun h=>A.P h∧B.P h∧∀b,A.fp b→B.fp b→False,
 fun H hu hs=>⟨A.st H.1 hu fun b e=>hs b (.inl e),B.st H.2.1 hu fun b e=>hs b (.inr e),H.2.2⟩,
 fun H b e=>e.elim (A.lt H.1 b) (B.lt H.2.1 b)⟩
structure Stp (h h':Heap) (R R':Res):Prop where
 u:Upd R.fp h h'
 p:R'.P h'
 g:∀b,R'.fp b→R.fp b∨h.size≤b
theorem Stp.refl {h:Heap} {R:Res} (H:R.P h):Stp h h R R:=⟨Upd.refl _ _,H,fun _ e=>.inl e⟩
theorem Stp.trans {h h1 h2:Heap} {R R1 R2:Res} (A:Stp h h1 R R1) (B:Stp h1 h2 R1 R2):Stp h h2 R R2 :=
 ⟨Upd.trans A.u B.u (fun _ e=>e) fun b e hb=>(A.g b e).elim id fun e'=>absurd e' (by omega),B.p,fun b e=>(B.g b e).elim (A.g b) fun e'=>.inr (Nat.le_trans A.u.1 e')⟩
theorem Stp.quiet {h h1:Heap} {R:Res} (H:R.P h) (u:Upd (fun _=>False) h h1):Stp h h1 R R:=⟨u.mono fun _ e=>e.elim,R.st H u fun _ _=>id,fun _ e=>.inl e⟩
theorem Stp.conv {h h1:Heap} {R R1 R2:Res} (A:Stp h h1 R R1) (hp:R1.P h1→R2.P h1) (hf:∀b,R2.fp b→R1.fp b):Stp h h1 R R2:=⟨A.u,hp A.p,fun b e=>A.g b (hf b e)⟩
structure Hold (h0 h:Heap) (rs:List Res):Prop where
 u:Upd (fun _=>False) h0 h
 p:∀R∈rs,R.P h
 ge:∀R∈rs,∀b,R.fp b→h0.size≤b
 dj:rs.Pairwise fun R R'=>∀b,R.fp b→R'.fp b→False
theorem Hold.nil (h:Heap):Hold h h []:=⟨Upd.refl _ _,fun _ e=>(by cases e),fun _ e=>(by cases e),.nil⟩
theorem Hold.at {h0 h:Heap} {rs:List Res} (H:Hold h0 h rs) (i:Nat) {R:Res} (hi:rs[i]? = some R:=by rfl):R.P h:=H.p R (List.mem_of_getElem? hi)
theorem Hold.quiet {h0 h h':Heap} {rs:List Res} (H:Hold h0 h rs) (u:Upd (fun _=>False) h h'):Hold h0 h' rs :=
 ⟨H.u.nx u fun _ e _=>e,fun R hR=>R.st (H.p R hR) u fun _ _=>id,H.ge,H.dj⟩
theorem Hold.add {h0 h h':Heap} {rs:List Res} (H:Hold h0 h rs) {R:Res} (u:Upd (fun _=>False) h h') (p:R.P h') (g:∀b,R.fp b→h.size≤b):Hold h0 h' (R::rs):=by
 have H':=H.quiet u
 refine ⟨H'.u,fun R' hR=>?_,fun R' hR b e=>?_,.cons (fun R' hR b e e'=>?_) H'.dj⟩
 ·rcases List.mem_cons.1 hR with rfl | hR
  ·exact p
  ·exact H'.p R' hR
 ·rcases List.mem_cons.1 hR with rfl | hR
  ·exact Nat.le_trans H.u.1 (g b e)
  ·exact H'.ge R' hR b e
 ·have:=R'.lt (H.p R' hR) b e'
  have:=g b e
  omega
theorem Hold.box {h0 h:Heap} {rs:List Res} (H:Hold h0 h rs) (arr:Array Value) (T:TypeId):Hold h0 (h.push (.cells arr T)) (blkR h.size arr.size (fun j=>arr.getD j undef)::rs) :=
 H.add (push_upd _ _ _) (Blk.new h arr T) fun b e=>Nat.le_of_eq (Eq.symm e)
theorem Hold.step {h0 h h':Heap} {rs:List Res} (H:Hold h0 h rs) (i:Nat) {R R':Res} (A:Stp h h' R R') (hi:rs[i]? = some R:=by rfl):Hold h0 h' (rs.set i R'):=by
 have hR:=List.mem_of_getElem? hi
 have hil:i<rs.length:=(List.getElem?_eq_some_iff.1 hi).1
 have key:∀(j:Nat) (hj:j<rs.length),j≠i→(∀b,rs[j].fp b→R.fp b→False):=by
  intro j hj hji b e1 e2
  have hRi:rs[i]=R:=(List.getElem?_eq_some_iff.1 hi).2
  have hp:=List.pairwise_iff_getElem.1 H.dj
  rcases Nat.lt_or_gt_of_ne hji with hl | hl
  ·exact hp j i hj hil hl b e1 (by rw [hRi];exact e2)
  ·exact hp i j hil hj hl b (by rw [hRi];exact e2) e1
 have mem:∀X∈rs.set i R',X=R'∨∃j,∃hj:j<rs.length,j≠i∧X=rs[j]:=by
  intro X hX
  obtain ⟨j,hj,e⟩:=List.mem_iff_getElem.1 hX
  rw [List.getElem_set] at e
  split at e
  ·exact .inl e.symm
  ·rename_i hne
   exact .inr ⟨j,by simpa using hj,Ne.symm hne,e.symm⟩
 refine ⟨H.u.nx A.u fun b e hb=>absurd (H.ge R hR b e) (by omega),fun X hX=>?_,fun X hX b e=>?_,?_⟩
 ·rcases mem X hX with rfl | ⟨j,hj,hne,rfl⟩
  ·exact A.p
  ·exact (rs[j]).st (H.p _ (List.getElem_mem hj)) A.u fun b e=>key j hj hne b e
 ·rcases mem X hX with rfl | ⟨j,hj,hne,rfl⟩
  ·rcases A.g b e with e | e
   ·exact H.ge R hR b e
   ·exact Nat.le_trans H.u.1 e
  ·exact H.ge _ (List.getElem_mem hj) b e
 ·rw [List.pairwise_iff_getElem]
  intro a b ha hb hab x e1 e2
  rw [List.length_set] at ha hb
  rw [List.getElem_set] at e1 e2
  have hp:=List.pairwise_iff_getElem.1 H.dj
  have sep:∀(j:Nat) (hj:j<rs.length),j≠i→rs[j].fp x→R'.fp x→False:=by
   intro j hj hne f1 f2
   rcases A.g x f2 with f | f
   ·exact key j hj hne x f1 f
   ·have:=(rs[j]).lt (H.p _ (List.getElem_mem hj)) x f1
    omega
  by_cases h1:i=a
  ·rw [if_pos h1] at e1
   rw [if_neg (by omega)] at e2
   exact sep b hb (by omega) e2 e1
  ·rw [if_neg h1] at e1
   by_cases h2:i=b
   ·rw [if_pos h2] at e2
    exact sep a ha (by omega) e1 e2
   ·rw [if_neg h2] at e2
    exact hp a b ha hb hab x e1 e2
theorem Hold.drop {h0 h:Heap} {rs:List Res} {R:Res} (H:Hold h0 h (R::rs)):Hold h0 h rs :=
 ⟨H.u,fun X hX=>H.p X (List.mem_cons_of_mem _ hX),fun X hX=>H.ge X (List.mem_cons_of_mem _ hX),(List.pairwise_cons.1 H.dj).2⟩
theorem Hold.sub {h0 h:Heap} {rs rs':List Res} (H:Hold h0 h rs) (hs:rs'.Sublist rs):Hold h0 h rs' :=
 ⟨H.u,fun X hX=>H.p X (hs.subset hX),fun X hX=>H.ge X (hs.subset hX),H.dj.sublist hs⟩
theorem Hold.perm {h0 h:Heap} {rs rs':List Res} (H:Hold h0 h rs) (hs:rs'.Perm rs):Hold h0 h rs' :=
 ⟨H.u,fun X hX=>H.p X (hs.subset hX),fun X hX=>H.ge X (hs.subset hX),hs.pairwise_iff (fun {x y} hxy b e e'=>hxy b e' e) |>.2 H.dj⟩
theorem Hold.as {h0 h:Heap} {rs:List Res} (H:Hold h0 h rs) (i:Nat) {R R':Res} (hp:R.P h→R'.P h) (hf:∀b,R'.fp b→R.fp b) (hi:rs[i]? = some R:=by rfl):Hold h0 h (rs.set i R') :=
 H.step i ⟨Upd.refl _ _,hp (H.at i hi),fun b e=>.inl (hf b e)⟩ hi
theorem Hold.join {h0 h:Heap} {rs:List Res} {A B:Res} (H:Hold h0 h (A::B::rs)):Hold h0 h (andR A B::rs):=by
 obtain ⟨h1,h2⟩:=List.pairwise_cons.1 H.dj
 obtain ⟨h3,h4⟩:=List.pairwise_cons.1 h2
 refine ⟨H.u,fun X hX=>?_,fun X hX b e=>?_,.cons (fun X hX b e e'=>?_) h4⟩
 ·rcases List.mem_cons.1 hX with rfl | hX
  ·exact ⟨H.p A (List.mem_cons_self ..),H.p B (List.mem_cons_of_mem _ (List.mem_cons_self ..)),h1 B (List.mem_cons_self ..)⟩
  ·exact H.p X (List.mem_cons_of_mem _ (List.mem_cons_of_mem _ hX))
 ·rcases List.mem_cons.1 hX with rfl | hX
  ·rcases e with e | e
   ·exact H.ge A (List.mem_cons_self ..) b e
   ·exact H.ge B (List.mem_cons_of_mem _ (List.mem_cons_self ..)) b e
  ·exact H.ge X (List.mem_cons_of_mem _ (List.mem_cons_of_mem _ hX)) b e
 ·rcases e with e | e
  ·exact h1 X (List.mem_cons_of_mem _ hX) b e e'
  ·exact h3 X hX b e e'
theorem Hold.split {h0 h:Heap} {rs:List Res} {A B:Res} (H:Hold h0 h (andR A B::rs)):Hold h0 h (A::B::rs):=by
 obtain ⟨h1,h2⟩:=List.pairwise_cons.1 H.dj
 have hp:=H.p _ (List.mem_cons_self ..)
 refine ⟨H.u,fun X hX=>?_,fun X hX b e=>?_,.cons (fun X hX b e e'=>?_) (.cons (fun X hX b e e'=>h1 X hX b (.inr e) e') h2)⟩
 ·rcases List.mem_cons.1 hX with rfl | hX
  ·exact hp.1
  ·rcases List.mem_cons.1 hX with rfl | hX
   ·exact hp.2.1
   ·exact H.p X (List.mem_cons_of_mem _ hX)
 ·rcases List.mem_cons.1 hX with rfl | hX
  ·exact H.ge _ (List.mem_cons_self ..) b (.inl e)
  ·rcases List.mem_cons.1 hX with rfl | hX
   ·exact H.ge _ (List.mem_cons_self ..) b (.inr e)
   ·exact H.ge X (List.mem_cons_of_mem _ hX) b e
 ·rcases List.mem_cons.1 hX with rfl | hX
  ·exact hp.2.2 b e e'
  ·exact h1 X hX b (.inl e) e'
theorem Stp.sets {h:Heap} {b n:Nat} {f:Nat→Value} (H:Blk h b n f) (vs:List Value) (o i:Nat) {g:Nat→Value} (hg:∀j,j<n→(if o+i≤j∧j<o+i+vs.length then vs.getD (j-(o+i)) undef else f j)=g j) :
  Stp h (setCs h ⟨b,o,none⟩ i vs) (blkR b n f) (blkR b n g) :=
 ⟨setCs_upd _ _ _ _,(H.sets vs o i).congr hg,fun _ e=>.inl e⟩
theorem Stp.set {h:Heap} {b n:Nat} {f:Nat→Value} (H:Blk h b n f) (i:Nat) (v:Value) {g:Nat→Value} (hg:∀j,j<n→(if j=i then v else f j)=g j) :
  Stp h (setC h ⟨b,i,none⟩ v) (blkR b n f) (blkR b n g) :=
 ⟨setC_upd _ _ _,(H.set i v).congr hg,fun _ e=>.inl e⟩
end Go.V
namespace Go.V
theorem Stp.left {h h':Heap} {A A' B:Res} (S:Stp h h' A A') (H:(andR A B).P h):Stp h h' (andR A B) (andR A' B):=by
 obtain ⟨h1,h2,h3⟩:=H
 refine ⟨S.u.mono fun b e _=>.inl e,⟨S.p,B.st h2 S.u fun b e e'=>h3 b e' e,fun b e e'=>?_⟩,fun b e=>?_⟩
 ·rcases S.g b e with e | e
  ·exact h3 b e e'
  ·have:=B.lt h2 b e';omega
 ·rcases e with e | e
  ·exact (S.g b e).imp (fun x=>Or.inl x) id
  ·exact .inl (.inr e)
theorem Stp.right {h h':Heap} {A B B':Res} (S:Stp h h' B B') (H:(andR A B).P h):Stp h h' (andR A B) (andR A B'):=by
 obtain ⟨h1,h2,h3⟩:=H
 refine ⟨S.u.mono fun b e _=>.inr e,⟨A.st h1 S.u fun b e e'=>h3 b e e',S.p,fun b e e'=>?_⟩,fun b e=>?_⟩
 ·rcases S.g b e' with f | f
  ·exact h3 b e f
  ·have:=A.lt h1 b e;omega
 ·rcases e with e | e
  ·exact .inl (.inl e)
  ·exact (S.g b e).imp (fun x=>Or.inr x) id
def allR (n:Nat) (R:Nat→Res):Res:=⟨fun b=>∃k,k<n∧(R k).fp b,fun h=>(∀k,k<n→(R k).P h)∧∀i,i<n→∀j,j<n→i≠j→∀b,(R i).fp b→(R j).fp b→False,
 fun H hu hs=>⟨fun k hk=>(R k).st (H.1 k hk) hu fun b e=>hs b ⟨k,hk,e⟩,H.2⟩,
 fun H b ⟨k,hk,e⟩=>(R k).lt (H.1 k hk) b e⟩
theorem Stp.all {h h':Heap} {n:Nat} {R:Nat→Res} (k:Nat) {R':Res} (hk:k<n) (S:Stp h h' (R k) R') (H:(allR n R).P h):Stp h h' (allR n R) (allR n fun i=>if i=k then R' else R i):=by
 obtain ⟨h1,h2⟩:=H
 refine ⟨S.u.mono fun b e _=>⟨k,hk,e⟩,⟨fun i hi=>?_,fun i hi j hj hij b e e'=>?_⟩,fun b ⟨i,hi,e⟩=>?_⟩
 ·by_cases hik:i=k
  ·simp only [hik,if_true];exact S.p
  ·simp only [hik,if_false];exact (R i).st (h1 i hi) S.u fun b e e'=>h2 i hi k hk hik b e e'
 ·have one:∀i,i<n→i≠k→(R i).fp b→R'.fp b→False:=by
   intro i hi hik e e'
   rcases S.g b e' with f | f
   ·exact h2 i hi k hk hik b e f
   ·have:=(R i).lt (h1 i hi) b e;omega
  by_cases hik:i=k
  ·by_cases hjk:j=k
   ·exact hij (hik.trans hjk.symm)
   ·simp only [hik,hjk,if_true,if_false] at e e'
    exact one j hj hjk e' e
  ·by_cases hjk:j=k
   ·simp only [hik,hjk,if_true,if_false] at e e'
    exact one i hi hik e e'
   ·simp only [hik,hjk,if_false] at e e'
    exact h2 i hi j hj hij b e e'
 ·by_cases hik:i=k
  ·simp only [hik,if_true] at e
   exact (S.g b e).imp (fun e=>⟨k,hk,e⟩) id
  ·simp only [hik,if_false] at e
   exact .inl ⟨i,hi,e⟩
theorem allR_congr {n:Nat} {R R':Nat→Res} (hr:∀k,k<n→R k=R' k) {h:Heap} (H:(allR n R).P h):(allR n R').P h :=
 ⟨fun k hk=>by rw [←hr k hk];exact H.1 k hk,fun i hi j hj hij b e e'=>H.2 i hi j hj hij b (by rw [hr i hi];exact e) (by rw [hr j hj];exact e')⟩
theorem allR_fp {n:Nat} {R R':Nat→Res} (hr:∀k,k<n→R k=R' k) (b:Nat) (e:(allR n R').fp b):(allR n R).fp b:=by
 obtain ⟨k,hk,e⟩:=e
 exact ⟨k,hk,by rw [hr k hk];exact e⟩
theorem Stp.all' {h h':Heap} {n:Nat} {R:Nat→Res} (k:Nat) {R':Res} (hk:k<n) (S:Stp h h' (R k) R') (H:(allR n R).P h) {R'':Nat→Res} (he:∀i,i<n→(if i=k then R' else R i)=R'' i):Stp h h' (allR n R) (allR n R'') :=
 (Stp.all k hk S H).conv (allR_congr he) (allR_fp he)
theorem allR_snoc {h:Heap} {n:Nat} {R:Nat→Res} (H:(allR n R).P h) (hp:(R n).P h) (hd:∀b,(R n).fp b→¬(allR n R).fp b):(allR (n+1) R).P h:=by
 refine ⟨fun k hk=>?_,fun i hi j hj hij b e e'=>?_⟩
 ·rcases Nat.lt_or_ge k n with hl | hl
  ·exact H.1 k hl
  ·rw [show k=n by omega];exact hp
 ·rcases Nat.lt_or_ge i n with h1 | h1
  ·rcases Nat.lt_or_ge j n with h2 | h2
   ·exact H.2 i h1 j h2 hij b e e'
   ·rw [show j=n by omega] at e';exact hd b e' ⟨i,h1,e⟩
  ·rcases Nat.lt_or_ge j n with h2 | h2
   ·rw [show i=n by omega] at e;exact hd b e ⟨j,h2,e'⟩
   ·omega
structure New (h h':Heap) (R:Res):Prop where
 u:Upd (fun _=>False) h h'
 p:R.P h'
 g:∀b,R.fp b→h.size≤b
theorem New.stp {h h1 h2:Heap} {R R':Res} (A:New h h1 R) (S:Stp h1 h2 R R'):New h h2 R' :=
 ⟨A.u.nx S.u fun b e hb=>by have:=A.g b e;omega,S.p,fun b e=>(S.g b e).elim (A.g b) fun e=>Nat.le_trans A.u.1 e⟩
theorem New.quiet {h h1 h2:Heap} {R:Res} (A:New h h1 R) (u:Upd (fun _=>False) h1 h2):New h h2 R:=A.stp (Stp.quiet A.p u)
theorem New.after {h h1 h2:Heap} {R:Res} (u:Upd (fun _=>False) h h1) (A:New h1 h2 R):New h h2 R:=⟨u.nx A.u fun _ e _=>e,A.p,fun b e=>Nat.le_trans u.1 (A.g b e)⟩
theorem New.box (h:Heap) (arr:Array Value) (T:TypeId):New h (h.push (.cells arr T)) (blkR h.size arr.size (fun j=>arr.getD j undef)) :=
 ⟨push_upd _ _ _,Blk.new h arr T,fun b e=>Nat.le_of_eq (Eq.symm e)⟩
theorem New.and {h h1 h2:Heap} {A B:Res} (X:New h h1 A) (Y:New h1 h2 B):New h h2 (andR A B) :=
 ⟨X.u.nx Y.u fun _ e _=>e,⟨A.st X.p Y.u fun _ _=>id,Y.p,fun b e e'=>by have:=A.lt X.p b e;have:=Y.g b e';omega⟩,fun b e=>e.elim (X.g b) fun e=>Nat.le_trans X.u.1 (Y.g b e)⟩
theorem New.conv {h h1:Heap} {R R':Res} (A:New h h1 R) (hp:R.P h1→R'.P h1) (hf:∀b,R'.fp b→R.fp b):New h h1 R':=⟨A.u,hp A.p,fun b e=>A.g b (hf b e)⟩
theorem Hold.new {h0 h h':Heap} {rs:List Res} (H:Hold h0 h rs) {R:Res} (A:New h h' R):Hold h0 h' (R::rs):=H.add A.u A.p A.g
theorem Stp.new {h h':Heap} {R B:Res} (H:R.P h) (A:New h h' B):Stp h h' R (andR R B) :=
 ⟨A.u.mono fun _ e=>e.elim,⟨R.st H A.u fun _ _=>id,A.p,fun b e e'=>by have:=R.lt H b e;have:=A.g b e';omega⟩,fun b e=>e.elim .inl fun e=>.inr (A.g b e)⟩
end Go.V
namespace Go.V
def slR (p:Option Addr) (n c z:Nat) (f:Nat→Value):Res:=⟨fun b=>p=some ⟨b,0,none⟩,
 fun h=>n≤c∧((p=none∧c=0)∨∃b g,p=some ⟨b,0,none⟩∧Blk h b (c*z) g∧∀i,i<n*z→g i=f i),
 fun {h h' S} H hu hs=>⟨H.1,H.2.imp id fun ⟨b,g,e,B,hg⟩=>⟨b,g,e,B.upd hu (hs b e),hg⟩⟩,
 fun {h} H b e=>by
  rcases H.2 with ⟨e',_⟩ | ⟨b',g,e',B,_⟩
  ·rw [e'] at e;cases e
  ·rw [e'] at e;cases e;exact B.lt⟩
section
variable {h h':Heap} {p:Option Addr} {n c z:Nat} {f g:Nat→Value}
theorem sl_nil (z:Nat) (f:Nat→Value) (h:Heap):(slR none 0 0 z f).P h:=⟨Nat.le_refl _,.inl ⟨rfl,rfl⟩⟩
theorem sl_congr (H:(slR p n c z f).P h) (hf:∀i,i<n*z→f i=g i):(slR p n c z g).P h :=
 ⟨H.1,H.2.imp id fun ⟨b,k,e,B,hg⟩=>⟨b,k,e,B,fun i hi=>by rw [hg i hi,hf i hi]⟩⟩
theorem sl_cell (H:(slR p n c z f).P h) {i:Nat} (hi:i<n*z):∃b,p=some ⟨b,0,none⟩∧cellAt h ⟨b,i,none⟩=some (f i):=by
 obtain ⟨hc,⟨e,e0⟩ | ⟨b,g,e,B,hg⟩⟩:=H
 ·have:n=0:=by omega
  subst this;simp at hi
 ·refine ⟨b,e,?_⟩
  rw [B.cell (Nat.lt_of_lt_of_le hi (Nat.mul_le_mul_right z hc)),hg i hi]
theorem sl_some (H:(slR p n c z f).P h) (hn:0<n):∃b g,p=some ⟨b,0,none⟩∧Blk h b (c*z) g∧n≤c∧∀i,i<n*z→g i=f i:=by
 obtain ⟨hc,⟨e,e0⟩ | ⟨b,g,e,B,hg⟩⟩:=H
 ·omega
 ·exact ⟨b,g,e,B,hc,hg⟩
theorem sl_row (H:(slR p n c z f).P h):Row h p (n*z) f:=by
 rcases Nat.eq_zero_or_pos (n*z) with h0 | h0
 ·exact .inl h0
 ·obtain ⟨b,g,e,B,hc,hg⟩:=sl_some H (Nat.pos_of_ne_zero fun e=>by subst e;simp at h0)
  exact .inr ⟨b,0,e,fun i hi=>by rw [Nat.zero_add,B.cell (Nat.lt_of_lt_of_le hi (Nat.mul_le_mul_right z hc)),hg i hi]⟩
theorem sl_sets (H:(slR p n c z f).P h) (o:Nat) (vs:List Value) (ho:o+vs.length≤n*z) (hv:0<vs.length):∃b,p=some ⟨b,0,none⟩∧WrN h ⟨b,o,none⟩ vs.length ∧
  Stp h (setCs h ⟨b,o,none⟩ 0 vs) (slR p n c z f) (slR p n c z fun i=>if o≤i∧i<o+vs.length then vs.getD (i-o) undef else f i):=by
 have hn:0<n:=by
  rcases Nat.eq_zero_or_pos n with e | e
  ·rw [e,Nat.zero_mul] at ho;omega
  ·exact e
 obtain ⟨b,g,e,B,hc,hg⟩:=sl_some H hn
 have hcz:=Nat.mul_le_mul_right z hc
 refine ⟨b,e,fun j hj=>by rw [add_mk];exact B.wr (by omega),(setCs_upd vs h ⟨b,o,none⟩ 0).mono fun x hx _=>by rw [hx];exact e,⟨hc,.inr ⟨b,_,e,B.sets vs o 0,fun i hi=>?_⟩⟩,fun x hx=>.inl hx⟩
 simp only [Nat.add_zero]
 split
 ·rfl
 ·exact hg i hi
theorem sl_set (H:(slR p n c z f).P h) {o:Nat} (ho:o<n*z) (v:Value):∃b,p=some ⟨b,0,none⟩∧Wr h ⟨b,o,none⟩ ∧
  Stp h (setC h ⟨b,o,none⟩ v) (slR p n c z f) (slR p n c z fun i=>if i=o then v else f i):=by
 have hn:0<n:=by
  rcases Nat.eq_zero_or_pos n with e | e
  ·rw [e,Nat.zero_mul] at ho;omega
  ·exact e
 obtain ⟨b,g,e,B,hc,hg⟩:=sl_some H hn
 have hcz:=Nat.mul_le_mul_right z hc
 refine ⟨b,e,B.wr (by omega),(setC_upd h ⟨b,o,none⟩ v).mono fun x hx _=>by rw [hx];exact e,⟨hc,.inr ⟨b,_,e,B.set o v,fun i hi=>?_⟩⟩,fun x hx=>.inl hx⟩
 by_cases h1:i=o
 ·simp [h1]
 ·simp [h1,hg i hi]
theorem sl_take (H:(slR p n c z f).P h) {m:Nat} (hm:m≤n):(slR p m c z f).P h :=
 ⟨Nat.le_trans hm H.1,H.2.imp id fun ⟨b,g,e,B,hg⟩=>⟨b,g,e,B,fun i hi=>hg i (Nat.lt_of_lt_of_le hi (Nat.mul_le_mul_right z hm))⟩⟩
theorem sl_front (H:(slR p n c z f).P h) {w:Nat} {k:Int} (hk:k=0):(if c=Int.toNat k then p else Option.map (fun b=>Addr.add b (Int.toNat k*w)) p)=p:=by
 subst hk
 obtain ⟨hc,⟨e,e0⟩ | ⟨b,g,e,B,hg⟩⟩:=H
 ·rw [e];simp
 ·rw [e];simp
theorem sl_make (h:Heap) (zs:List Value) (T:TypeId) (n c:Nat) (hc:n≤c):New h (h.push (.cells (List.toArray (zrow zs c)) T)) (slR (some ⟨h.size,0,none⟩) n c zs.length fun i=>zs.getD (i % zs.length) undef):=by
 refine ⟨push_upd _ _ _,⟨hc,.inr ⟨h.size,fun i=>zs.getD (i % zs.length) undef,rfl,Blk.new' _ _ _ _ _ (by simp [zrow_length]) fun j hj=>?_,fun i hi=>rfl⟩⟩,fun b e=>?_⟩
 ·rw [List.getElem?_toArray,zrow_get _ _ _ hj]
  have:0<zs.length:=by
   rcases Nat.eq_zero_or_pos zs.length with e | e
   ·rw [e] at hj;simp at hj
   ·exact e
  have:=Nat.mod_lt j this
  simp [List.getD,this]
 ·have e:some (⟨h.size,0,none⟩ : Addr)=some ⟨b,0,none⟩:=e
  simp at e;omega
theorem sl_lit (h:Heap) (arr:Array Value) (T:TypeId) (n z:Nat) (hn:n*z=arr.size):New h (h.push (.cells arr T)) (slR (some ⟨h.size,0,none⟩) n n z fun i=>arr.getD i undef):=by
 refine ⟨push_upd _ _ _,⟨Nat.le_refl _,.inr ⟨h.size,fun i=>arr.getD i undef,rfl,by rw [hn];exact Blk.new h arr T,fun i hi=>rfl⟩⟩,fun b e=>?_⟩
 have e:some (⟨h.size,0,none⟩ : Addr)=some ⟨b,0,none⟩:=e
 simp at e;omega
theorem blk_list (h:Heap) (l:List Value) (T:TypeId) (n:Nat) (hn:l.length=n):Blk (h.push (.cells l.toArray T)) h.size n (fun i=>l.getD i undef) :=
 Blk.new' _ _ _ _ _ (by simpa using hn) fun j hj=>by
  rw [List.getElem?_toArray,List.getD_eq_getElem?_getD]
  rw [List.getElem?_eq_getElem (by omega)]
  rfl
theorem sl_app {zs xs:List Value} {q:Option Addr} {m b:Nat} {e:TypeId} (H:(slR p n c zs.length f).P h) (hz:0<zs.length) (hx:xs.length=m*zs.length) (hr:rowAt h q xs) (ho:∀v∈xs,oneC v=true)
  (hb:2*(n+m)*b≤2 ^ 48) :
  ∃os,AppPre h p n c q m zs.length b os xs∧∀(p':Option Addr) (c':Nat) (h':Heap),AppRes h p n c m zs e os xs p' c' h' →
   Stp h h' (slR p n c zs.length f) (slR p' (n+m) c' zs.length fun i=>if i<n*zs.length then f i else xs.getD (i-n*zs.length) undef):=by
 have hmz:(n+m)*zs.length=n*zs.length+m*zs.length:=Nat.add_mul _ _ _
 refine ⟨lst (n*zs.length) f,⟨by simp,(sl_row H).rowAt,hx,hr,fun hc=>⟨ho,fun a ha=>?_⟩,fun hc=>?_⟩,fun p' c' h' hres=>?_⟩
 ·obtain ⟨hnc,⟨e1,e0⟩ | ⟨b',g,e1,B,hg⟩⟩:=H
  ·rw [e1] at ha;cases ha
  ·rw [e1] at ha;cases ha
   intro j hj
   rw [add_mk,add_mk]
   refine B.wr ?_
   have:=Nat.mul_le_mul_right zs.length hc
   omega
 ·exact Nat.le_trans (Nat.mul_le_mul_right b (nextslicecap_le hc)) hb
 ·rcases hres with ⟨r1,rfl,rfl,rfl⟩ | ⟨r1,r2,rfl,rfl⟩
  ·rcases Nat.eq_zero_or_pos m with hm0 | hm0
   ·subst hm0
    have:xs=[]:=List.length_eq_zero_iff.1 (by omega)
    subst this
    have e:wrH h (p'.map (·.add (n*zs.length))) []=h:=by cases p'<;>rfl
    rw [e]
    exact ⟨Upd.refl _ _,sl_congr H fun i hi=>by rw [if_pos (by omega)],fun _ e=>.inl e⟩
   ·obtain ⟨hnc,⟨e1,e0⟩ | ⟨b',g,e1,B,hg⟩⟩:=H
    ·omega
    ·subst e1
     have e:wrH h (Option.map (fun x:Addr=>x.add (n*zs.length)) (some ⟨b',0,none⟩)) xs=setCs h ⟨b',n*zs.length,none⟩ 0 xs:=by
      simp [wrH]
     rw [e]
     refine ⟨(setCs_upd xs h _ 0).mono fun x hx' _=>by rw [hx'];rfl,⟨r1,.inr ⟨b',_,rfl,B.sets xs (n*zs.length) 0,fun i hi=>?_⟩⟩,fun _ e=>.inl e⟩
     simp only [Nat.add_zero]
     by_cases h1:i<n*zs.length
     ·rw [if_neg (by omega),if_pos h1,hg i h1]
     ·rw [if_pos (by omega),if_neg h1]
  ·refine ⟨push_upd _ _ _,⟨r2,.inr ⟨h.size,fun i=>(lst (n*zs.length) f++xs++zrow zs (c'-(n+m))).getD i undef,rfl,?_,fun i hi=>?_⟩⟩,fun x hx'=>.inr ?_⟩
   ·refine blk_list _ _ _ _ ?_
    simp only [List.length_append,lst_length,zrow_length,hx]
    rw [←hmz,←Nat.add_mul];congr 1;omega
   ·show List.getD _ i undef=(if i<n*zs.length then f i else xs.getD (i-n*zs.length) undef)
    by_cases h1:i<n*zs.length
    ·rw [if_pos h1,List.getD_eq_getElem?_getD,List.append_assoc,List.getElem?_append_left (by simpa using h1),lst_get h1];rfl
    ·rw [if_neg h1,List.getD_eq_getElem?_getD,List.append_assoc,List.getElem?_append_right (by simp;omega),List.getElem?_append_left (by simp;omega),lst_length,List.getD_eq_getElem?_getD]
   ·have hx':some (⟨h.size,0,none⟩ : Addr)=some ⟨x,0,none⟩:=hx'
    simp at hx';omega
theorem sl_appZ {zs:List Value} {m:Nat} {b:Nat} {e:TypeId} (H:(slR p n c zs.length f).P h) (hz:0<zs.length) (hm:0<m) (ho:∀v∈zs,oneC v=true) (hb:2*(n+m)*b≤2 ^ 48) (hb0:0<b) :
  ∃os,AppZPre h p n c (m:Int) zs b os∧∀(p':Option Addr) (c':Nat) (h':Heap),AppRes h p n c (Int.toNat (m:Int)) zs e os (zrow zs (Int.toNat (m:Int))) p' c' h' →
   Stp h h' (slR p n c zs.length f) (slR p' (n+m) c' zs.length fun i=>if i<n*zs.length then f i else zs.getD ((i-n*zs.length) % zs.length) undef):=by
 have hmz:(n+m)*zs.length=n*zs.length+m*zs.length:=Nat.add_mul _ _ _
 have hb1:2*(n+m)≤2*(n+m)*b:=Nat.le_mul_of_pos_right _ hb0
 have hmb:m*b≤2*(n+m)*b:=Nat.mul_le_mul_right b (by omega)
 rw [Int.toNat_natCast]
 have hone:∀v∈zrow zs m,oneC v=true:=by
  intro v hv
  obtain ⟨l,hl,hvl⟩:=List.mem_flatten.1 hv
  rw [(List.mem_replicate.1 hl).2] at hvl
  exact ho v hvl
 have key:=fun (q:Option Addr) (hr:rowAt h q (zrow zs m))=>sl_app (e:=e) (q:=q) (xs:=zrow zs m) H hz (by rw [zrow_length]) hr hone hb
 refine ⟨lst (n*zs.length) f,⟨by simp,(sl_row H).rowAt,by omega,by norm_cast;omega,ho,fun hc a ha=>?_,fun hc=>⟨by rw [Int.toNat_natCast];omega,?_⟩⟩,fun p' c' h' hres=>?_⟩
 ·rw [Int.toNat_natCast] at hc
  obtain ⟨hnc,⟨e1,e0⟩ | ⟨b',g,e1,B,hg⟩⟩:=H
  ·rw [e1] at ha;cases ha
  ·rw [e1] at ha;cases ha
   intro j hj
   rw [Int.toNat_natCast] at hj
   rw [add_mk,add_mk]
   refine B.wr ?_
   have:=Nat.mul_le_mul_right zs.length hc
   omega
 ·rw [Int.toNat_natCast] at hc ⊢
  exact Nat.le_trans (Nat.mul_le_mul_right b (nextslicecap_le hc)) hb
 ·have fin:∀i,i<(n+m)*zs.length→(if i<n*zs.length then f i else (zrow zs m).getD (i-n*zs.length) undef)=(if i<n*zs.length then f i else zs.getD ((i-n*zs.length) % zs.length) undef):=by
   intro i hi
   split
   ·rfl
   ·rw [List.getD_eq_getElem?_getD,zrow_get _ _ _ (by omega),List.getD_eq_getElem?_getD]
  rcases hres with ⟨r1,rfl,rfl,rfl⟩ | ⟨r1,r2,rfl,rfl⟩
  ·obtain ⟨hnc,⟨e1,e0⟩ | ⟨b',g,e1,B,hg⟩⟩:=H
   ·omega
   ·subst e1
    have e:wrH h (Option.map (fun x:Addr=>x.add (n*zs.length)) (some ⟨b',0,none⟩)) (zrow zs m)=setCs h ⟨b',n*zs.length,none⟩ 0 (zrow zs m):=by
     simp [wrH]
    rw [e]
    refine ⟨(setCs_upd _ h _ 0).mono fun x hx' _=>by rw [hx'];rfl,⟨r1,.inr ⟨b',_,rfl,B.sets (zrow zs m) (n*zs.length) 0,fun i hi=>?_⟩⟩,fun _ e=>.inl e⟩
    simp only [Nat.add_zero]
    refine Eq.trans ?_ (fin i hi)
    rw [zrow_length]
    by_cases h1:i<n*zs.length
    ·rw [if_neg (by omega),if_pos h1,hg i h1]
    ·rw [if_pos (by omega),if_neg h1]
  ·refine ⟨push_upd _ _ _,⟨r2,.inr ⟨h.size,fun i=>(lst (n*zs.length) f++zrow zs m++zrow zs (c'-(n+m))).getD i undef,rfl,?_,fun i hi=>?_⟩⟩,fun x hx'=>.inr ?_⟩
   ·refine blk_list _ _ _ _ ?_
    simp only [List.length_append,lst_length,zrow_length]
    rw [←hmz,←Nat.add_mul];congr 1;omega
   ·refine Eq.trans ?_ (fin i hi)
    show List.getD _ i undef=_
    by_cases h1:i<n*zs.length
    ·rw [if_pos h1,List.getD_eq_getElem?_getD,List.append_assoc,List.getElem?_append_left (by simpa using h1),lst_get h1];rfl
    ·rw [if_neg h1,List.getD_eq_getElem?_getD,List.append_assoc,List.getElem?_append_right (by simp;omega),List.getElem?_append_left (by simp [zrow_length];omega),lst_length,List.getD_eq_getElem?_getD]
   ·have hx':some (⟨h.size,0,none⟩ : Addr)=some ⟨x,0,none⟩:=hx'
    simp at hx';omega
theorem New.of_stp {R R':Res} (S:Stp h h' R R') (hn:∀b,¬R.fp b):New h h' R':=⟨S.u.mono fun b e _=>hn b e,S.p,fun b e=>(S.g b e).elim (fun e=>absurd e (hn b)) id⟩
theorem sl_nil_fp {z:Nat} {f:Nat→Value} (b:Nat):¬(slR none 0 0 z f).fp b:=fun e=>by cases (show none=some _ from e)
theorem row1 (h:Heap) (v:Value) (T:TypeId):rowAt (h.push (.cells #[v] T)) (some ⟨h.size,0,none⟩) [v]:=by
 intro j u hj
 cases j with
 | zero=>simp at hj;subst hj;rw [add_mk,cellAt_new];rfl
 | succ j=>simp at hj
theorem sl_app1 {zs:List Value} {v:Value} {b:Nat} {e T:TypeId} (H:(slR p n c zs.length f).P h) (hz:zs.length=1) (ho:oneC v=true) (hb:2*(n+1)*b≤2 ^ 48) :
  ∃os,AppPre (h.push (.cells #[v] T)) p n c (some ⟨h.size,0,none⟩) 1 1 b os [v]∧∀(p':Option Addr) (c':Nat) (h':Heap),AppRes (h.push (.cells #[v] T)) p n c 1 zs e os [v] p' c' h' →
   Stp h h' (slR p n c 1 f) (slR p' (n+1) c' 1 fun i=>if i=n then v else f i):=by
 have u:Upd (fun _=>False) h (h.push (.cells #[v] T)):=push_upd _ _ _
 have H':=(slR p n c zs.length f).st H u fun _ _=>id
 obtain ⟨os,h1,h2⟩:=sl_app (e:=e) (b:=b) (m:=1) (xs:=[v]) H' (by omega) (by simp [hz]) (row1 h v T) (by simpa using ho) hb
 rw [hz] at h1 h2 H
 refine ⟨os,h1,fun p' c' h' hr=>?_⟩
 have S:=h2 p' c' h' hr
 refine ((Stp.quiet H u).trans S).conv (fun P=>sl_congr P fun i hi=>?_) fun _ e=>e
 rw [Nat.mul_one] at *
 by_cases h3:i<n
 ·have:i≠n:=by omega
  simp [h3,this]
 ·have:i=n:=by omega
  subst this;simp
theorem Hold.snoc {h0:Heap} {rs:List Res} {k:Nat} {R:Nat→Res} (H:Hold h0 h (R k::allR k R::rs)):Hold h0 h (allR (k+1) R::rs):=by
 refine H.join.as 0 (R:=andR (R k) (allR k R)) (R':=allR (k+1) R) (fun P=>allR_snoc P.2.1 P.1 fun b e e'=>P.2.2 b e e') ?_
 rintro b ⟨i,hi,e⟩
 rcases Nat.lt_or_ge i k with hl | hl
 ·exact Or.inr ⟨i,hl,e⟩
 ·have:i=k:=by omega
  subst this;exact Or.inl e
theorem Hold.swap {h0:Heap} {rs:List Res} {A B:Res} (H:Hold h0 h (A::B::rs)):Hold h0 h (B::A::rs):=H.perm (.swap _ _ _)
theorem Hold.swap2 {h0:Heap} {rs:List Res} {A B C:Res} (H:Hold h0 h (A::B::C::rs)):Hold h0 h (A::C::B::rs):=H.perm (.cons _ (.swap _ _ _))
theorem Hold.front3 {h0:Heap} {rs:List Res} {A B C:Res} (H:Hold h0 h (A::B::C::rs)):Hold h0 h (C::A::B::rs):=H.swap2.swap
theorem Hold.front4 {h0:Heap} {rs:List Res} {A B C D:Res} (H:Hold h0 h (A::B::C::D::rs)):Hold h0 h (D::A::B::C::rs):=(H.perm (.cons _ (.cons _ (.swap _ _ _)))).front3
theorem Hold.swap3 {h0:Heap} {rs:List Res} {A B C D:Res} (H:Hold h0 h (A::B::C::D::rs)):Hold h0 h (A::B::D::C::rs):=H.perm (.cons _ (.cons _ (.swap _ _ _)))
theorem Hold.back4 {h0:Heap} {rs:List Res} {A B C D:Res} (H:Hold h0 h (D::A::B::C::rs)):Hold h0 h (A::B::C::D::rs):=H.swap.swap2.swap3
theorem Hold.toNew {R:Res} (H:Hold h h' [R]):New h h' R:=⟨H.u,H.at 0,fun b e=>H.ge R (by simp) b e⟩
theorem allR_zero (R:Nat→Res):(allR 0 R).P h:=⟨fun k hk=>absurd hk (by omega),fun i hi=>absurd hi (by omega)⟩
end
end Go.V
namespace Go.V
structure Own (h0 h:Heap) (E:Res) (rs:List Res):Prop where
 u:Upd E.fp h0 h
 p:∀R∈rs,R.P h
 ge:∀R∈rs,∀b,R.fp b→E.fp b∨h0.size≤b
 dj:rs.Pairwise fun R R'=>∀b,R.fp b→R'.fp b→False
section
variable {h0 h h':Heap} {E:Res} {rs:List Res}
theorem Own.of (H:E.P h):Own h h E [E] :=
 ⟨Upd.refl _ _,fun R hR=>by rw [List.mem_singleton.1 hR];exact H,fun R hR b e=>by rw [List.mem_singleton.1 hR] at e;exact .inl e,List.pairwise_singleton _ _⟩
theorem Own.at (H:Own h0 h E rs) (i:Nat) {R:Res} (hi:rs[i]? = some R:=by rfl):R.P h:=H.p R (List.mem_of_getElem? hi)
theorem Own.quiet (H:Own h0 h E rs) (u:Upd (fun _=>False) h h'):Own h0 h' E rs :=
 ⟨H.u.nx u fun _ e _=>e.elim,fun R hR=>R.st (H.p R hR) u fun _ _=>id,H.ge,H.dj⟩
theorem Own.add (H:Own h0 h E rs) {R:Res} (u:Upd (fun _=>False) h h') (p:R.P h') (g:∀b,R.fp b→h.size≤b):Own h0 h' E (R::rs):=by
 have H':=H.quiet u
 refine ⟨H'.u,fun R' hR=>?_,fun R' hR b e=>?_,.cons (fun R' hR b e e'=>?_) H'.dj⟩
 ·rcases List.mem_cons.1 hR with rfl | hR
  ·exact p
  ·exact H'.p R' hR
 ·rcases List.mem_cons.1 hR with rfl | hR
  ·exact .inr (Nat.le_trans H.u.1 (g b e))
  ·exact H'.ge R' hR b e
 ·have:=R'.lt (H.p R' hR) b e'
  have:=g b e
  omega
theorem Own.new (H:Own h0 h E rs) {R:Res} (A:New h h' R):Own h0 h' E (R::rs):=H.add A.u A.p A.g
theorem Own.step (H:Own h0 h E rs) (i:Nat) {R R':Res} (A:Stp h h' R R') (hi:rs[i]? = some R:=by rfl):Own h0 h' E (rs.set i R'):=by
 have hR:=List.mem_of_getElem? hi
 have hil:i<rs.length:=(List.getElem?_eq_some_iff.1 hi).1
 have key:∀(j:Nat) (hj:j<rs.length),j≠i→(∀b,rs[j].fp b→R.fp b→False):=by
  intro j hj hji b e1 e2
  have hRi:rs[i]=R:=(List.getElem?_eq_some_iff.1 hi).2
  have hp:=List.pairwise_iff_getElem.1 H.dj
  rcases Nat.lt_or_gt_of_ne hji with hl | hl
  ·exact hp j i hj hil hl b e1 (by rw [hRi];exact e2)
  ·exact hp i j hil hj hl b (by rw [hRi];exact e2) e1
 have mem:∀X∈rs.set i R',X=R'∨∃j,∃hj:j<rs.length,j≠i∧X=rs[j]:=by
  intro X hX
  obtain ⟨j,hj,e⟩:=List.mem_iff_getElem.1 hX
  rw [List.getElem_set] at e
  split at e
  ·exact .inl e.symm
  ·rename_i hne
   exact .inr ⟨j,by simpa using hj,Ne.symm hne,e.symm⟩
 refine ⟨H.u.nx A.u fun b e hb=>(H.ge R hR b e).elim id fun e'=>absurd e' (by omega),fun X hX=>?_,fun X hX b e=>?_,?_⟩
 ·rcases mem X hX with rfl | ⟨j,hj,hne,rfl⟩
  ·exact A.p
  ·exact (rs[j]).st (H.p _ (List.getElem_mem hj)) A.u fun b e=>key j hj hne b e
 ·rcases mem X hX with rfl | ⟨j,hj,hne,rfl⟩
  ·rcases A.g b e with e | e
   ·exact H.ge R hR b e
   ·exact .inr (Nat.le_trans H.u.1 e)
  ·exact H.ge _ (List.getElem_mem hj) b e
 ·rw [List.pairwise_iff_getElem]
  intro a b ha hb hab x e1 e2
  rw [List.length_set] at ha hb
  rw [List.getElem_set] at e1 e2
  have hp:=List.pairwise_iff_getElem.1 H.dj
  have sep:∀(j:Nat) (hj:j<rs.length),j≠i→rs[j].fp x→R'.fp x→False:=by
   intro j hj hne f1 f2
   rcases A.g x f2 with f | f
   ·exact key j hj hne x f1 f
   ·have:=(rs[j]).lt (H.p _ (List.getElem_mem hj)) x f1
    omega
  by_cases h1:i=a
  ·rw [if_pos h1] at e1
   rw [if_neg (by omega)] at e2
   exact sep b hb (by omega) e2 e1
  ·rw [if_neg h1] at e1
   by_cases h2:i=b
   ·rw [if_pos h2] at e2
    exact sep a ha (by omega) e1 e2
   ·rw [if_neg h2] at e2
    exact hp a b ha hb hab x e1 e2
theorem Own.sub {rs':List Res} (H:Own h0 h E rs) (hs:rs'.Sublist rs):Own h0 h E rs' :=
 ⟨H.u,fun X hX=>H.p X (hs.subset hX),fun X hX=>H.ge X (hs.subset hX),H.dj.sublist hs⟩
theorem Own.drop {R:Res} (H:Own h0 h E (R::rs)):Own h0 h E rs:=H.sub (.cons _ (List.Sublist.refl _))
theorem Own.perm {rs':List Res} (H:Own h0 h E rs) (hs:rs'.Perm rs):Own h0 h E rs' :=
 ⟨H.u,fun X hX=>H.p X (hs.subset hX),fun X hX=>H.ge X (hs.subset hX),hs.pairwise_iff (fun {x y} hxy b e e'=>hxy b e' e) |>.2 H.dj⟩
theorem Own.as (H:Own h0 h E rs) (i:Nat) {R R':Res} (hp:R.P h→R'.P h) (hf:∀b,R'.fp b→R.fp b) (hi:rs[i]? = some R:=by rfl):Own h0 h E (rs.set i R') :=
 H.step i ⟨Upd.refl _ _,hp (H.at i hi),fun b e=>.inl (hf b e)⟩ hi
theorem Own.join {A B:Res} (H:Own h0 h E (A::B::rs)):Own h0 h E (andR A B::rs):=by
 obtain ⟨h1,h2⟩:=List.pairwise_cons.1 H.dj
 obtain ⟨h3,h4⟩:=List.pairwise_cons.1 h2
 refine ⟨H.u,fun X hX=>?_,fun X hX b e=>?_,.cons (fun X hX b e e'=>?_) h4⟩
 ·rcases List.mem_cons.1 hX with rfl | hX
  ·exact ⟨H.p A (List.mem_cons_self ..),H.p B (List.mem_cons_of_mem _ (List.mem_cons_self ..)),h1 B (List.mem_cons_self ..)⟩
  ·exact H.p X (List.mem_cons_of_mem _ (List.mem_cons_of_mem _ hX))
 ·rcases List.mem_cons.1 hX with rfl | hX
  ·rcases e with e | e
   ·exact H.ge A (List.mem_cons_self ..) b e
   ·exact H.ge B (List.mem_cons_of_mem _ (List.mem_cons_self ..)) b e
  ·exact H.ge X (List.mem_cons_of_mem _ (List.mem_cons_of_mem _ hX)) b e
 ·rcases e with e | e
  ·exact h1 X (List.mem_cons_of_mem _ hX) b e e'
  ·exact h3 X hX b e e'
theorem Own.split {A B:Res} (H:Own h0 h E (andR A B::rs)):Own h0 h E (A::B::rs):=by
 obtain ⟨h1,h2⟩:=List.pairwise_cons.1 H.dj
 have hp:=H.p _ (List.mem_cons_self ..)
 refine ⟨H.u,fun X hX=>?_,fun X hX b e=>?_,.cons (fun X hX b e e'=>?_) (.cons (fun X hX b e e'=>h1 X hX b (.inr e) e') h2)⟩
 ·rcases List.mem_cons.1 hX with rfl | hX
  ·exact hp.1
  ·rcases List.mem_cons.1 hX with rfl | hX
   ·exact hp.2.1
   ·exact H.p X (List.mem_cons_of_mem _ hX)
 ·rcases List.mem_cons.1 hX with rfl | hX
  ·exact H.ge _ (List.mem_cons_self ..) b (.inl e)
  ·rcases List.mem_cons.1 hX with rfl | hX
   ·exact H.ge _ (List.mem_cons_self ..) b (.inr e)
   ·exact H.ge X (List.mem_cons_of_mem _ hX) b e
 ·rcases List.mem_cons.1 hX with rfl | hX
  ·exact hp.2.2 b e e'
  ·exact h1 X hX b (.inl e) e'
theorem Own.stp {R:Res} (H:Own h0 h E (R::rs)):Stp h0 h E R:=⟨H.u,H.p R (List.mem_cons_self ..),H.ge R (List.mem_cons_self ..)⟩
theorem Own.one (H:Own h0 h E rs) (i:Nat) {A:Res} (hi:rs[i]? = some A:=by rfl):Stp h0 h E A:=⟨H.u,H.at i hi,H.ge A (List.mem_of_getElem? hi)⟩
theorem Own.apart (H:Own h0 h E rs) (i j:Nat) (hne:i≠j) {A B:Res} (hi:rs[i]? = some A) (hj:rs[j]? = some B) (b:Nat) (e:A.fp b) (e':B.fp b):False:=by
 obtain ⟨hi1,e1⟩:=List.getElem?_eq_some_iff.1 hi
 obtain ⟨hj1,e2⟩:=List.getElem?_eq_some_iff.1 hj
 subst e1 e2
 have hp:=List.pairwise_iff_getElem.1 H.dj
 rcases Nat.lt_or_gt_of_ne hne with hl | hl
 ·exact hp i j hi1 hj1 hl b e e'
 ·exact hp j i hj1 hi1 hl b e' e
theorem Own.two (H:Own h0 h E rs) (i j:Nat) {A B:Res} (hne:i≠j:=by decide) (hi:rs[i]? = some A:=by rfl) (hj:rs[j]? = some B:=by rfl):Stp h0 h E (andR A B) :=
 ⟨H.u,⟨H.at i hi,H.at j hj,H.apart i j hne hi hj⟩,fun b e=>e.elim (H.ge A (List.mem_of_getElem? hi) b) (H.ge B (List.mem_of_getElem? hj) b)⟩
end
end Go.V
namespace Go.V
def noC:Obj→Prop
 | .cells _ _ _=>False
 | _=>True
theorem noC_fz {o:Obj} (h:noC o):fz o:=by
 unfold noC at h
 split at h
 ·exact h.elim
 ·unfold fz;split<;>simp_all
def objR (l:Nat) (o:Obj):Res:=⟨fun b=>b=l,fun h=>h[l]? = some o,fun {h h' S} H hu hs=>by
  have hl:l<h.size:=(Array.getElem?_eq_some_iff.1 H).1
  rw [hu.2.1 l hl (hs l rfl)];exact H,
 fun {h} H b e=>by rw [e];exact (Array.getElem?_eq_some_iff.1 H).1⟩
theorem frozen_noC {h:Heap} {a:Addr} {o:Obj} (H:h[a.block]? = some o) (ho:noC o):frozenAt h a=false:=by
 unfold frozenAt
 rw [H]
 cases o<;>first | rfl | exact ho.elim
theorem setO_upd {h:Heap} {l:Nat} {o o':Obj} (H:h[l]? = some o) (ho:noC o) (ho':noC o'):Upd (fun b=>b=l) h (setO h l o'):=by
 have hl:l<h.size:=(Array.getElem?_eq_some_iff.1 H).1
 refine ⟨by simp,fun b _ hb=>setO_other hb,fun a=>?_⟩
 by_cases hx:a.block=l
 ·rw [frozen_noC (o:=o') (by rw [hx];exact setO_same hl) ho',frozen_noC (o:=o) (by rw [hx];exact H) ho]
 ·unfold frozenAt
  rw [setO_other hx]
theorem Stp.obj {h:Heap} {l:Nat} {o o':Obj} (H:h[l]? = some o) (ho:noC o) (ho':noC o'):Stp h (setO h l o') (objR l o) (objR l o') :=
 ⟨setO_upd H ho ho',setO_same (Array.getElem?_eq_some_iff.1 H).1,fun _ e=>.inl e⟩
theorem New.obj (h:Heap) (o:Obj) (ho:noC o):New h (h.push o) (objR h.size o) :=
 ⟨push_upd _ _ _ (noC_fz ho),by show (h.push o)[h.size]? = some o;simp,fun b e=>Nat.le_of_eq (Eq.symm e)⟩
theorem rec_noC {rec:LoopState→Option Code→Obj} (hr:∀st pe,∃x,rec st pe=.loop x) (st:LoopState) (pe:Option Code):noC (rec st pe):=by
 obtain ⟨x,e⟩:=hr st pe
 rw [e];trivial
theorem round_out {h:Heap} {l:Nat} {o o1:Obj} {M:Res} (H:(andR (objR l o) M).P h) (ho:noC o) (ho1:noC o1) :
  h[l]? = some o∧M.P (setO h l o1)∧∀(h2:Heap) (M2:Res),Stp (setO h l o1) h2 M M2 →
   h2[l]? = some o1∧∀o2,noC o2→Stp h (setO h2 l o2) (andR (objR l o) M) (andR (objR l o2) M2):=by
 have hl:h[l]? = some o:=H.1
 have S1:Stp h (setO h l o1) (andR (objR l o) M) (andR (objR l o1) M):=(Stp.obj hl ho ho1).left H
 refine ⟨hl,S1.p.2.1,fun h2 M2 S=>?_⟩
 have S2:Stp h h2 (andR (objR l o) M) (andR (objR l o1) M2):=S1.trans (S.right S1.p)
 exact ⟨S2.p.1,fun o2 ho2=>S2.trans ((Stp.obj S2.p.1 ho1 ho2).left S2.p)⟩
theorem andNo {R:Res} {h:Heap} (H:R.P h):(andR R noR).P h:=⟨H,trivial,fun _ _ e=>e⟩
structure Yd {S:Type} (P:Program) (w₀:World) (y:Value) (M:S→Res) (Ex:Res) (ok:Nat→Int→Int→S→Prop) (gd:S→Int→Int→Prop) (fw:S→Int→Int) (nx:S→Int→S→Prop) (go:S→Int→Bool):Prop where
 call:∀(k:Nat) (p b:Int) (σ:S) (h:Heap),ok (k+1) p b σ→gd σ p b→0≤p∧p<18446744073709551616→(andR (M σ) Ex).P h →
  CallF P w₀ y [.int .u64 p] h (callPost (fun v h'=>v=.bool (go σ p)∧∃σ',nx σ p σ'∧Stp h h' (M σ) (M σ')) fun _ _=>False)
 cells:y.cells=#[y]
 stay:∀(k:Nat) (p b:Int) (σ σ':S),ok (k+1) p b σ→gd σ p b→0≤p∧p<18446744073709551616→go σ p=true→nx σ p σ'→ok k (fw σ p) p σ'
theorem CallV.toR {P:Program} {w₀:World} {f:FuncId} {args:List Value} {h:Heap} {R:Ending→Heap→Prop} (H:CallV P w₀ f args h fun v h'=>R (.returned v) h'):CallsE P w₀ f args.toArray h R :=
 CallsE.mono H fun e h q=>by cases e<;>first | exact q | exact q.elim
theorem CallG_func {P:Program} {w₀:World} {g:FuncId} {fs cs:Array Value} {args:List Value} {h:Heap} {R:Ending→Heap→Prop} (hc:callable P g=true)
  (H:CallsE P w₀ g (fs.toList++args++cs.toList).toArray h R):CallG P w₀ (.func (.func g) fs cs) args h R:=by
 simp only [CallG,hc,cond_true];exact H
theorem Stp.allAnd {h h':Heap} {n:Nat} {R:Nat→Res} {B B' R':Res} (k:Nat) (hk:k<n) (S:Stp h h' (andR (R k) B) (andR R' B')) (H:(andR (allR n R) B).P h) :
  Stp h h' (andR (allR n R) B) (andR (allR n fun i=>if i=k then R' else R i) B'):=by
 obtain ⟨⟨h1,h2⟩,hB,h3⟩:=H
 have apart:∀i,i<n→i≠k→∀b,(R i).fp b→¬(andR (R k) B).fp b:=by
  intro i hi hik b e e'
  rcases e' with e' | e'
  ·exact h2 i hi k hk hik b e e'
  ·exact h3 b ⟨i,hi,e⟩ e'
 have fresh:∀i,i<n→i≠k→∀b,(R i).fp b→¬(andR R' B').fp b:=by
  intro i hi hik b e e'
  rcases S.g b e' with f | f
  ·exact apart i hi hik b e f
  ·have:=(R i).lt (h1 i hi) b e;omega
 refine ⟨S.u.mono fun b e _=>?_,⟨⟨fun i hi=>?_,fun i hi j hj hij b e e'=>?_⟩,S.p.2.1,fun b e e'=>?_⟩,fun b e=>?_⟩
 ·rcases e with e | e
  ·exact .inl ⟨k,hk,e⟩
  ·exact .inr e
 ·by_cases hik:i=k
  ·simp only [hik,if_true];exact S.p.1
  ·simp only [hik,if_false];exact (R i).st (h1 i hi) S.u fun b e e'=>apart i hi hik b e e'
 ·by_cases hik:i=k
  ·by_cases hjk:j=k
   ·exact hij (hik.trans hjk.symm)
   ·simp only [hik,hjk,if_true,if_false] at e e'
    exact fresh j hj hjk b e' (.inl e)
  ·by_cases hjk:j=k
   ·simp only [hik,hjk,if_true,if_false] at e e'
    exact fresh i hi hik b e (.inl e')
   ·simp only [hik,hjk,if_false] at e e'
    exact h2 i hi j hj hij b e e'
 ·obtain ⟨i,hi,e⟩:=e
  by_cases hik:i=k
  ·simp only [hik,if_true] at e
   exact S.p.2.2 b e e'
  ·simp only [hik,if_false] at e
   exact fresh i hi hik b e (.inr e')
 ·have old:(andR (R k) B).fp b∨h.size≤b→(andR (allR n R) B).fp b∨h.size≤b:=by
   rintro ((f | f) | f)
   ·exact .inl (.inl ⟨k,hk,f⟩)
   ·exact .inl (.inr f)
   ·exact .inr f
  rcases e with ⟨i,hi,e⟩ | e
  ·by_cases hik:i=k
   ·simp only [hik,if_true] at e
    exact old (S.g b (.inl e))
   ·simp only [hik,if_false] at e
    exact .inl (.inl ⟨i,hi,e⟩)
  ·exact old (S.g b (.inr e))
theorem range_in {h:Heap} {M:Res} {o:Obj} (H:M.P h) (ho:noC o):(andR (objR (h.size+1) o) M).P ((h.push (.deferred (some []))).push o):=by
 have N1:New h (h.push (.deferred (some []))) (objR h.size (.deferred (some []))):=New.obj h _ trivial
 have N2:New (h.push (.deferred (some []))) ((h.push (.deferred (some []))).push o) (objR (h.push (.deferred (some []))).size o):=New.obj _ _ ho
 have e:(h.push (.deferred (some []):Obj)).size=h.size+1:=by simp
 rw [e] at N2
 have u:=N1.u.nx N2.u fun _ e _=>e
 exact ⟨N2.p,M.st H u fun _ _=>id,fun b e e'=>by have:=M.lt H b e';have e:b=h.size+1:=e;omega⟩
theorem range_out {h h':Heap} {M M2:Res} {o o2:Obj} (H:M.P h) (ho:noC o) (ho2:noC o2)
  (S:Stp ((h.push (.deferred (some []))).push o) h' (andR (objR (h.size+1) o) M) (andR (objR (h.size+1) o2) M2)) :
  h'[h.size+1]? = some o2∧∀o3,noC o3→Stp h (setO h' (h.size+1) o3) M (andR (objR h.size (.deferred (some []))) M2):=by
 refine ⟨S.p.1,fun o3 ho3=>?_⟩
 have hs:((h.push (.deferred (some []))).push o).size=h.size+2:=by simp
 have u0:Upd (fun _=>False) h ((h.push (.deferred (some []))).push o):=(push_upd _ h _ (noC_fz (o:=.deferred (some [])) trivial)).nx (push_upd _ _ _ (noC_fz ho)) fun _ e _=>e
 have u1:=setO_upd (o':=o3) S.p.1 ho2 ho3
 have hD:((h.push (.deferred (some []))).push o)[h.size]? = some (.deferred (some [])):=by
  rw [push_get _ _ _ (by simp)];simp
 have old:∀b,M.fp b→b<h.size:=fun b e=>M.lt H b e
 have hD1:h'[h.size]? = some (.deferred (some [])):=by
  rw [S.u.2.1 h.size (by omega) fun e=>e.elim (fun e=>by have e:h.size=h.size+1:=e;omega) fun e=>by have:=old _ e;omega]
  exact hD
 have sep:∀b,M2.fp b→b<h.size∨h.size+2≤b:=by
  intro b e
  rcases S.g b (.inr e) with (f | f) | f
  ·exact absurd e fun e=>S.p.2.2 b f e
  ·exact .inl (old b f)
  ·exact .inr (by omega)
 refine ⟨?_,⟨?_,M2.st S.p.2.1 u1 fun b e e'=>S.p.2.2 b e' e,fun b e e'=>?_⟩,fun b e=>?_⟩
 ·refine Upd.nx (Upd.nx (u0.mono (S':=M.fp) fun _ e _=>e.elim) S.u fun b e hb=>?_) u1 fun b e hb=>by have e:b=h.size+1:=e;omega
  rcases e with e | e
  ·have e:b=h.size+1:=e;omega
  ·exact e
 ·show (setO h' (h.size+1) o3)[h.size]? = _
  rw [setO_other (by omega)];exact hD1
 ·have e:b=h.size:=e
  have:=sep b e';omega
 ·rcases e with e | e
  ·have e:b=h.size:=e;exact .inr (by omega)
  ·rcases S.g b (.inr e) with (f | f) | f
   ·exact absurd e fun e=>S.p.2.2 b f e
   ·exact .inl f
   ·exact .inr (by omega)
theorem take_out {h h':Heap} {M M2:Res} {D:Nat} (S:Stp h h' M (andR (objR D (.deferred (some []))) M2)) :
  h'[D]? = some (.deferred (some []))∧Stp h (setO h' D (.deferred none)) M M2 :=
 ⟨S.p.1,(S.trans ((Stp.obj (o:=.deferred (some [])) (o':=.deferred none) S.p.1 trivial trivial).left S.p)).conv (fun P=>P.2.1) fun b e=>.inr e⟩
def factR (p:Prop) (R:Res):Res:=⟨R.fp,fun h=>p∧R.P h,fun H hu hs=>⟨H.1,R.st H.2 hu hs⟩,fun H=>R.lt H.2⟩
end Go.V
namespace Go.V
open Go.RowKit
theorem below_of_upd {w:World} {h':Heap} {n':Nat} (H:Upd (fun _=>False) w.heap h'):Below w.heap.size w (on w h' n') :=
 ⟨rfl,rfl,rfl,H.1,fun k hk=>H.2.1 k hk id⟩
theorem trodAll_stays {H:Type} {enc:TypeId×Value→H} {P:Program} (hl:laidOutB P=true) {W W':World} (hb:Below W.heap.size W W') {sp:Nat→Bool} :
  ∀{ts:List TypeId} {vs:List Value} {ds:List (DataW H)} {ps:List MemPlace},(ts.all fun t=>P.readableRec t && decide (t<P.types.size))=true →
   DataW.TrodAll enc P W 0 (fun _=>true) true ts vs ds ps→(∀x∈ps,x.block<W.heap.size)→(∀x∈ps,sp x.block=true)→DataW.TrodAll enc P W' 0 sp true ts vs ds ps
 | [],[],[],_,_,h,_,_=>h
 | t::ts,v::vs,d::ds,ps,ht,h,hlt,hsp=>by
  obtain ⟨p,q,h1,h2,rfl⟩:=h
  simp only [List.all_cons,Bool.and_eq_true,decide_eq_true_eq] at ht
  exact ⟨p,q,WideElems.Trod_stays hl ht.1.1 ht.1.2 h1 (fun x hx=>hb.same (hlt x (List.mem_append_left _ hx))) (fun x hx=>hsp x (List.mem_append_left _ hx)),
   trodAll_stays hl hb ht.2 h2 (fun x hx=>hlt x (List.mem_append_right _ hx)) (fun x hx=>hsp x (List.mem_append_right _ hx)),rfl⟩
 | [],[],_::_,_,_,h,_,_=>h.elim
 | [],_::_,_,_,_,h,_,_=>h.elim
 | _::_,[],_,_,_,h,_,_=>h.elim
 | _::_,_::_,[],_,_,h,_,_=>h.elim
theorem calls_of_callV' {P:Program} {w:World} {f:FuncId} {args:List Value} (H:CallV P w f args w.heap fun v h'=>v=.bool true∧Upd (fun _=>False) w.heap h') :
  Calls P f args.toArray w fun e w'=>e=.returned (.bool true)∧Grown w w'∧Below w.heap.size w w':=by
 have:=H w.drawn
 rw [on_self] at this
 refine this.mono ?_
 rintro e w' ⟨h',n',rfl,hq⟩
 cases e with
 | returned v=>exact ⟨by rw [hq.1],grown_of_upd hq.2,below_of_upd hq.2⟩
 | panicked c=>exact hq.elim
 | outgrown=>exact hq.elim
def SRow (h:Heap) (k:IntKind) (p:Option Addr) (n c:Nat):Prop :=
 ∃f:Nat→Int,n≤c∧c<9223372036854775808∧Row h p c (fun i=>.int k (f i))∧∀i,i<c→(Lit.int k (f i)).wf=true
theorem SRow.u8 {h:Heap} {p:Option Addr} {n cp:Nat} (H:SRow h .u8 p n cp):∃f:Nat→Int,n≤cp∧cp<9223372036854775808∧Row h p cp (fun i=>.int .u8 (f i))∧∀i,i<cp→0≤f i∧f i<256:=by
 obtain ⟨f,h1,h2,h3,h4⟩:=H
 exact ⟨f,h1,h2,h3,fun i hi=>by have:=Go.bounds_u8 (h4 i hi);omega⟩
theorem Row.take {h:Heap} {p:Option Addr} {n m:Nat} {f:Nat→Value} (H:Row h p n f) (hm:m≤n):Row h p m f:=by
 rcases H with e | ⟨b,o,rfl,H⟩
 ·exact .inl (by omega)
 ·exact .inr ⟨b,o,rfl,fun i hi=>H i (by omega)⟩
theorem Row.off {Z:Nat→Prop} {h0:Heap} {p:Option Addr} {n:Nat} {f:Nat→Value} (H:Row h0 p n f) (hz:∀b,Z b→h0.size≤b):n=0∨Off Z p:=by
 rcases H with e | ⟨b,o,rfl,H⟩
 ·exact .inl e
 ·rcases Nat.eq_zero_or_pos n with hn | hn
  ·exact .inl hn
  ·refine .inr fun a ha=>?_
   cases ha
   intro hb
   have h1:=H 0 hn
   obtain ⟨_,_,_,hb',_,_⟩:=cellAt_block (h:=h0) (a:=⟨b,o+0,none⟩) (by rw [h1];rfl)
   have:=(Array.getElem?_eq_some_iff.1 hb').1
   have:=hz b hb
   simp only at *
   omega
end Go.V
namespace Go.Proofs.YteemmpkhdllapaaGreatDoor
open Go.V
abbrev F.croftlaw7_SlabPlays : FuncId := 3
abbrev F.croftlaw7_begin : FuncId := 4
abbrev F.croftlaw7_lives : FuncId := 5
abbrev F.croftref7_Take : FuncId := 6
abbrev F.slab_Slab_Take : FuncId := 7
abbrev F.croftref7_Need : FuncId := 8
abbrev F.region_Pool_Need : FuncId := 9
abbrev F.croftref7_At : FuncId := 10
abbrev F.croftlaw7_world_step : FuncId := 11
abbrev F.croftlaw7_world_looks : FuncId := 12
abbrev F.croftref2_May : FuncId := 13
abbrev F.region_New : FuncId := 14
abbrev F.slab_New : FuncId := 15
abbrev F.region_ground_Space : FuncId := 16
abbrev F.region_ground_Map : FuncId := 17
abbrev F.region_ground_Buddy : FuncId := 18
abbrev F.croftref7_New : FuncId := 19
abbrev F.slab_Open : FuncId := 20
abbrev F.slab_Slab_Partial : FuncId := 21
abbrev F.croftlaw7_ints : FuncId := 22
abbrev F.slab_Slab_Size : FuncId := 23
abbrev F.croftref7_Count : FuncId := 24
abbrev F.croftref7_partial : FuncId := 25
abbrev F.croftref7_put : FuncId := 26
abbrev F.croftref7_Find : FuncId := 27
abbrev F.croftref7_Width : FuncId := 28
abbrev F.slab_Slab_born : FuncId := 29
abbrev F.pagemap_Map_At : FuncId := 30
abbrev F.slab_Slab_base : FuncId := 31
abbrev F.mem_Space_Word : FuncId := 32
abbrev F.pagemap_Map_Own : FuncId := 33
abbrev F.pagemap_Map_First : FuncId := 34
abbrev F.slab_Slab_unhang : FuncId := 35
abbrev F.croftref5_Take : FuncId := 36
abbrev F.croftref5_Feed : FuncId := 37
abbrev F.croftref5_Come : FuncId := 38
abbrev F.buddy_Buddy_Take : FuncId := 39
abbrev F.mem_Space_Commit : FuncId := 40
abbrev F.pagemap_Map_Grow : FuncId := 41
abbrev F.buddy_Buddy_Feed : FuncId := 42
abbrev F.croftref7_Give : FuncId := 43
abbrev F.slab_Slab_Give : FuncId := 44
abbrev F.croftref7_Size : FuncId := 45
abbrev F.croftlaw7_world_back : FuncId := 46
abbrev F.region_Pool_Give : FuncId := 47
abbrev F.croftref7_Trim : FuncId := 48
abbrev F.region_Pool_Trim : FuncId := 49
abbrev F.croftref7_Heads : FuncId := 50
abbrev F.croftlaw7_apart : FuncId := 51
abbrev F.croftlaw7_world_opened : FuncId := 52
abbrev F.croftlaw7_world_fill : FuncId := 53
abbrev F.mem_Space_Regions : FuncId := 54
abbrev F.pagemap_Map_Plain : FuncId := 55
abbrev F.croftref7_Map : FuncId := 56
abbrev F.croftref5_Pairs : FuncId := 57
abbrev F.buddy_Buddy_Free : FuncId := 58
abbrev F.croftlaw7_world_linked : FuncId := 59
abbrev F.mem_New : FuncId := 60
abbrev F.pagemap_New : FuncId := 61
abbrev F.buddy_New : FuncId := 62
abbrev F.croftref5_New : FuncId := 63
abbrev F.slab_Slab_find : FuncId := 64
abbrev F.pagemap_Map_Slab : FuncId := 65
abbrev F.mem_Space_SetWord : FuncId := 66
abbrev F.slab_Slab_hang : FuncId := 67
abbrev F.mem_Space_End : FuncId := 68
abbrev F.pagemap_Map_Pages : FuncId := 69
abbrev F.mem_Space_Word_1 : FuncId := 70
abbrev F.mem_caught : FuncId := 71
abbrev F.mem_Space_look : FuncId := 72
abbrev F.mem_Space_get : FuncId := 73
abbrev F.pagemap_Map_slab : FuncId := 74
abbrev F.pagemap_within : FuncId := 75
abbrev F.pagemap_cells : FuncId := 76
abbrev F.pagemap_Map_Chain : FuncId := 77
abbrev F.croftref5_cut : FuncId := 78
abbrev F.croftref5_leave : FuncId := 79
abbrev F.croftref5_Top : FuncId := 80
abbrev F.croftref5_IsLive : FuncId := 81
abbrev F.croftref5_Give : FuncId := 82
abbrev F.croftref5_lives : FuncId := 83
abbrev F.links_List_Pop : FuncId := 84
abbrev F.buddy_Buddy_page : FuncId := 85
abbrev F.buddy_Buddy_turn : FuncId := 86
abbrev F.buddy_Buddy_cut : FuncId := 87
abbrev F.pagemap_Map_size : FuncId := 88
abbrev F.pagemap_Map_paired : FuncId := 89
abbrev F.pagemap_Map_Run : FuncId := 90
abbrev F.buddy_Buddy_top : FuncId := 91
abbrev F.buddy_Buddy_Give : FuncId := 92
abbrev F.buddy_Buddy_address : FuncId := 93
abbrev F.croftref7_Cell : FuncId := 94
abbrev F.croftlaw7_world_slabbed : FuncId := 95
abbrev F.croftref5_Pull : FuncId := 96
abbrev F.croftref5_Go : FuncId := 97
abbrev F.buddy_Buddy_Pull : FuncId := 98
abbrev F.pagemap_Map_Shrink : FuncId := 99
abbrev F.mem_Space_Decommit : FuncId := 100
abbrev F.mem_Space_Fill : FuncId := 101
abbrev F.bits_Set_Words : FuncId := 102
abbrev F.croftref5_Pages : FuncId := 103
abbrev F.croftref7_free : FuncId := 104
abbrev F.croftref5_Pair : FuncId := 105
abbrev F.links_List_All : FuncId := 106
abbrev F.croftlaw7_world_word : FuncId := 107
abbrev F.croftref7_Link : FuncId := 108
abbrev F.mem_may : FuncId := 109
abbrev F.bits_NewSet : FuncId := 110
abbrev F.buddy_Open : FuncId := 111
abbrev F.pagemap_plain : FuncId := 112
abbrev F.mem_Space_SetWord_1 : FuncId := 113
abbrev F.mem_Space_put : FuncId := 114
abbrev F.croftref5_enter : FuncId := 115
abbrev F.croftref5_with : FuncId := 116
abbrev F.croftref5_dies : FuncId := 117
abbrev F.croftref5_Is : FuncId := 118
abbrev F.links_List_Remove : FuncId := 119
abbrev F.pagemap_Map_Flip : FuncId := 120
abbrev F.buddy_Buddy_enter : FuncId := 121
abbrev F.bits_Set_Resize : FuncId := 122
abbrev F.buddy_Buddy_live : FuncId := 123
abbrev F.mem_Space_Fill_1 : FuncId := 124
abbrev F.mem_Space_byteAt : FuncId := 125
abbrev F.croftref5_paint : FuncId := 126
abbrev F.links_List_All_1 : FuncId := 127
abbrev F.links_List_walk : FuncId := 128
abbrev F.bits_Of : FuncId := 129
abbrev F.links_New : FuncId := 130
abbrev F.links_List_links : FuncId := 131
abbrev F.links_List_sound : FuncId := 132
abbrev F.bits_Set_Flip : FuncId := 133
abbrev F.pagemap_Map_Pair : FuncId := 134
abbrev F.links_List_Push : FuncId := 135
abbrev F.links_List_walk_1 : FuncId := 136
abbrev F.links_List_room : FuncId := 137
abbrev F.bits_fit : FuncId := 138
abbrev F.bits_Set_cut : FuncId := 139
abbrev F.bits_Set_has : FuncId := 140
abbrev F.bits_Set_Get : FuncId := 141
abbrev F.mem_Space_Byte : FuncId := 142
abbrev F.mem_Space_Byte_1 : FuncId := 143
abbrev T.T_int : TypeId := 3
abbrev T.T_uint8 : TypeId := 5
abbrev T.T_uint64 : TypeId := 22
abbrev T.T_api_Config : TypeId := 24
abbrev T.T_sl_uint64 : TypeId := 29
abbrev T.T_croftlaw7_Step : TypeId := 31
abbrev T.T_croftref5_Buddy : TypeId := 35
abbrev T.T_croftref7_Slab : TypeId := 38
abbrev T.T_croftlaw7_world : TypeId := 44
abbrev T.T_api_Errno : TypeId := 45
abbrev T.T_region_Pool : TypeId := 64
abbrev T.T_sl_int : TypeId := 70
abbrev T.T_croftref7_Cells : TypeId := 75
abbrev T.T_slab_Slab : TypeId := 82
abbrev T.T_api_Page : TypeId := 86
abbrev T.T_pagemap_Map : TypeId := 133
abbrev T.T_arr8_uint8 : TypeId := 137
abbrev T.T_sl_uint8 : TypeId := 139
abbrev T.T_buddy_Buddy : TypeId := 153
abbrev T.T_p_links_List : TypeId := 154
abbrev T.T_mem_Space : TypeId := 162
abbrev T.T2a204121 : TypeId := 167
abbrev T.T_croftref5_Run : TypeId := 170
abbrev T.T_p_bits_Set : TypeId := 172
abbrev T.T_mem_fault : TypeId := 185
abbrev T.T_links_List : TypeId := 190
abbrev T.T_bits_Set : TypeId := 198
def LD_api_Page (h : Heap) (a : Addr) (X : Int → Int → Int → Int → Int → Int → Int → Int → Int → Int → Int → Prop) : Prop := ∃ n0 : Int, cellAt h a = some (.int .i64 n0) ∧ ∃ n1 : Int, cellAt h (a.add 1) = some (.int .i64 n1) ∧ ∃ n2 : Int, cellAt h (a.add 2) = some (.int .i64 n2) ∧ ∃ n3 : Int, cellAt h (a.add 3) = some (.int .i64 n3) ∧ ∃ n4 : Int, cellAt h (a.add 4) = some (.int .i64 n4) ∧ ∃ n5 : Int, cellAt h (a.add 5) = some (.int .i64 n5) ∧ ∃ n6 : Int, cellAt h (a.add 6) = some (.int .i64 n6) ∧ ∃ n7 : Int, cellAt h (a.add 7) = some (.int .u64 n7) ∧ ∃ n8 : Int, cellAt h (a.add 8) = some (.int .u64 n8) ∧ ∃ n9 : Int, cellAt h (a.add 9) = some (.int .u64 n9) ∧ ∃ n10 : Int, cellAt h (a.add 10) = some (.int .u64 n10) ∧ X n0 n1 n2 n3 n4 n5 n6 n7 n8 n9 n10
def EQ_api_Page (a0 : Int) (a1 : Int) (a2 : Int) (a3 : Int) (a4 : Int) (a5 : Int) (a6 : Int) (a7 : Int) (a8 : Int) (a9 : Int) (a10 : Int) (b0 : Int) (b1 : Int) (b2 : Int) (b3 : Int) (b4 : Int) (b5 : Int) (b6 : Int) (b7 : Int) (b8 : Int) (b9 : Int) (b10 : Int) : Bool := ((a0 == b0) && ((a1 == b1) && ((a2 == b2) && ((a3 == b3) && ((a4 == b4) && ((a5 == b5) && ((a6 == b6) && (((a7 == b7) && ((a8 == b8) && ((a9 == b9) && ((a10 == b10) && true)))) && true))))))))
def bodyOf (f : Func) : Code := match f.body with | some c => c | none => .skip
def seqL : Code → Code | .seq x _ => x | _ => .skip
def seqR : Code → Code | .seq _ y => y | _ => .skip
def opOf (c : Code) (i : Nat) : Oper := match c with | .region _ ops _ => (match ops.toList[i]? with | some o => o | none => default) | _ => default
theorem mixed : Tryz.prog.follows .mixedOrders = true := by kernel_rfl
variable {w₀ : World} {f : FuncId} {fn : Func} {args : List Value} {h : Heap} {K : Value → Heap → Prop} {R : Ending → Heap → Prop}
theorem cV (N : Nat) (ann : Ann) (hf : Tryz.prog.funcs[f]? = some fn) (H : Go.V.vc Tryz.prog w₀ N (bodyOf fn) ann (argE 0 args) h (endQ Tryz.prog fn.results.toList (callPost K fun _ _ => False))) (hb : fn.body = some (bodyOf fn) := by kernel_rfl) (hN : fn.ntmps = N := by kernel_rfl)
    (hl : Nat.ble args.length N = true := by kernel_rfl) (hn : noLab ann = true := by kernel_rfl) : CallV Tryz.prog w₀ f args h K := callsE_of_vc mixed hf hb hN hl hn H
theorem cE (N : Nat) (ann : Ann) (args : List Value) (hf : Tryz.prog.funcs[f]? = some fn) (H : Go.V.vc Tryz.prog w₀ N (bodyOf fn) ann (argE 0 args) h (endQ Tryz.prog fn.results.toList R)) (hb : fn.body = some (bodyOf fn) := by kernel_rfl) (hN : fn.ntmps = N := by kernel_rfl)
    (hl : Nat.ble args.length N = true := by kernel_rfl) (hn : noLab ann = true := by kernel_rfl) : CallsE Tryz.prog w₀ f args.toArray h R := callsE_of_vc mixed hf hb hN hl hn H
theorem cX (N : Nat) (ax : AX) (hf : Tryz.prog.funcs[f]? = some fn) (H : Go.V.vcX Tryz.prog w₀ N (bodyOf fn) ax [] (argE 0 args) h (endX Tryz.prog fn.results.toList K)) (hb : fn.body = some (bodyOf fn) := by kernel_rfl) (hN : fn.ntmps = N := by kernel_rfl)
    (hl : Nat.ble args.length N = true := by kernel_rfl) (hn : noLabX ax = true := by kernel_rfl) : CallV Tryz.prog w₀ f args h K := callV_of_vcX mixed hf hb hN hl hn H
abbrev I6 (n : Int) : Value := .int .i64 n
abbrev U6 (n : Int) : Value := .int .u64 n
abbrev PS (a : Addr) : Value := .pointer (some a)
abbrev LP := List Value → Heap → Prop
abbrev BP := Bool → Heap → Prop
abbrev KP := Value → Heap → Prop
abbrev CV (w₀ : World) := CallV Tryz.prog w₀
abbrev C_iis (h : Heap) (a : Addr) (l : List Value) (R : Prop) : Prop := cellAt h a = some (l.getD 0 undef) ∧ cellAt h (a.add 1) = some (l.getD 1 undef) ∧ cellAt h (a.add 2) = some (l.getD 2 undef) ∧ R
abbrev C_iiss (h : Heap) (a : Addr) (l : List Value) (R : Prop) : Prop := cellAt h a = some (l.getD 0 undef) ∧ cellAt h (a.add 1) = some (l.getD 1 undef) ∧ cellAt h (a.add 2) = some (l.getD 2 undef) ∧ cellAt h (a.add 3) = some (l.getD 3 undef) ∧ R
abbrev C_uii (h : Heap) (a : Addr) (l : List Value) (R : Prop) : Prop := cellAt h a = some (l.getD 0 undef) ∧ cellAt h (a.add 1) = some (l.getD 1 undef) ∧ cellAt h (a.add 2) = some (l.getD 2 undef) ∧ R
abbrev C_uiiiissss (h : Heap) (a : Addr) (l : List Value) (R : Prop) : Prop := cellAt h a = some (l.getD 0 undef) ∧ cellAt h (a.add 1) = some (l.getD 1 undef) ∧ cellAt h (a.add 2) = some (l.getD 2 undef) ∧ cellAt h (a.add 3) = some (l.getD 3 undef) ∧ cellAt h (a.add 4) = some (l.getD 4 undef) ∧ cellAt h (a.add 5) = some (l.getD 5 undef) ∧ cellAt h (a.add 6) = some (l.getD 6 undef) ∧ cellAt h (a.add 7) = some (l.getD 7 undef) ∧ cellAt h (a.add 8) = some (l.getD 8 undef) ∧ R
abbrev D_iiss (h : Heap) (a : Addr) (o : Nat) (l : List Value) (R : Prop) : Prop := cellAt h (a.add o) = some (l.getD 0 undef) ∧ cellAt h (a.add (o + 1)) = some (l.getD 1 undef) ∧ cellAt h (a.add (o + 2)) = some (l.getD 2 undef) ∧ cellAt h (a.add (o + 3)) = some (l.getD 3 undef) ∧ R
abbrev D_uiiiissss (h : Heap) (a : Addr) (o : Nat) (l : List Value) (R : Prop) : Prop := cellAt h (a.add o) = some (l.getD 0 undef) ∧ cellAt h (a.add (o + 1)) = some (l.getD 1 undef) ∧ cellAt h (a.add (o + 2)) = some (l.getD 2 undef) ∧ cellAt h (a.add (o + 3)) = some (l.getD 3 undef) ∧ cellAt h (a.add (o + 4)) = some (l.getD 4 undef) ∧ cellAt h (a.add (o + 5)) = some (l.getD 5 undef) ∧ cellAt h (a.add (o + 6)) = some (l.getD 6 undef) ∧ cellAt h (a.add (o + 7)) = some (l.getD 7 undef) ∧ cellAt h (a.add (o + 8)) = some (l.getD 8 undef) ∧ R
abbrev E_iiiiiiiuuuu (X : List Value → Prop) : Prop := ∃ n0 : Int, ∃ n1 : Int, ∃ n2 : Int, ∃ n3 : Int, ∃ n4 : Int, ∃ n5 : Int, ∃ n6 : Int, ∃ n7 : Int, ∃ n8 : Int, ∃ n9 : Int, ∃ n10 : Int, X [(.int .i64 n0), (.int .i64 n1), (.int .i64 n2), (.int .i64 n3), (.int .i64 n4), (.int .i64 n5), (.int .i64 n6), (.int .u64 n7), (.int .u64 n8), (.int .u64 n9), (.int .u64 n10)]
abbrev E_iiss (X : List Value → Prop) : Prop := ∃ n0 : Int, ∃ n1 : Int, ∃ n2p : Option Addr, ∃ n2n : Nat, ∃ n2c : Nat, ∃ n3p : Option Addr, ∃ n3n : Nat, ∃ n3c : Nat, X [(.int .i64 n0), (.int .i64 n1), (.slice n2p n2n n2c), (.slice n3p n3n n3c)]
abbrev E_uiiiissss (X : List Value → Prop) : Prop := ∃ n0 : Int, ∃ n1 : Int, ∃ n2 : Int, ∃ n3 : Int, ∃ n4 : Int, ∃ n5p : Option Addr, ∃ n5n : Nat, ∃ n5c : Nat, ∃ n6p : Option Addr, ∃ n6n : Nat, ∃ n6c : Nat, ∃ n7p : Option Addr, ∃ n7n : Nat, ∃ n7c : Nat, ∃ n8p : Option Addr, ∃ n8n : Nat, ∃ n8c : Nat, X [(.int .u64 n0), (.int .i64 n1), (.int .i64 n2), (.int .i64 n3), (.int .i64 n4), (.slice n5p n5n n5c), (.slice n6p n6n n6c), (.slice n7p n7n n7c), (.slice n8p n8n n8c)]
abbrev L_iiibu (h : Heap) (a : Addr) (X : List Value → Prop) : Prop := ∃ n0 : Int, cellAt h a = some (.int .i64 n0) ∧ ∃ n1 : Int, cellAt h (a.add 1) = some (.int .i64 n1) ∧ ∃ n2 : Int, cellAt h (a.add 2) = some (.int .i64 n2) ∧ ∃ n3 : Bool, cellAt h (a.add 3) = some (.bool n3) ∧ ∃ n4 : Int, cellAt h (a.add 4) = some (.int .u64 n4) ∧ X [(.int .i64 n0), (.int .i64 n1), (.int .i64 n2), (.bool n3), (.int .u64 n4)]
abbrev L_iis (h : Heap) (a : Addr) (X : List Value → Prop) : Prop := ∃ n0 : Int, cellAt h a = some (.int .i64 n0) ∧ ∃ n1 : Int, cellAt h (a.add 1) = some (.int .i64 n1) ∧ ∃ n2p : Option Addr, ∃ n2n : Nat, ∃ n2c : Nat, cellAt h (a.add 2) = some (.slice n2p n2n n2c) ∧ X [(.int .i64 n0), (.int .i64 n1), (.slice n2p n2n n2c)]
abbrev L_iiss (h : Heap) (a : Addr) (X : List Value → Prop) : Prop := ∃ n0 : Int, cellAt h a = some (.int .i64 n0) ∧ ∃ n1 : Int, cellAt h (a.add 1) = some (.int .i64 n1) ∧ ∃ n2p : Option Addr, ∃ n2n : Nat, ∃ n2c : Nat, cellAt h (a.add 2) = some (.slice n2p n2n n2c) ∧ ∃ n3p : Option Addr, ∃ n3n : Nat, ∃ n3c : Nat, cellAt h (a.add 3) = some (.slice n3p n3n n3c) ∧ X [(.int .i64 n0), (.int .i64 n1), (.slice n2p n2n n2c), (.slice n3p n3n n3c)]
abbrev L_uii (h : Heap) (a : Addr) (X : List Value → Prop) : Prop := ∃ n0 : Int, cellAt h a = some (.int .u64 n0) ∧ ∃ n1 : Int, cellAt h (a.add 1) = some (.int .i64 n1) ∧ ∃ n2 : Int, cellAt h (a.add 2) = some (.int .i64 n2) ∧ X [(.int .u64 n0), (.int .i64 n1), (.int .i64 n2)]
abbrev L_uiiiissss (h : Heap) (a : Addr) (X : List Value → Prop) : Prop := ∃ n0 : Int, cellAt h a = some (.int .u64 n0) ∧ ∃ n1 : Int, cellAt h (a.add 1) = some (.int .i64 n1) ∧ ∃ n2 : Int, cellAt h (a.add 2) = some (.int .i64 n2) ∧ ∃ n3 : Int, cellAt h (a.add 3) = some (.int .i64 n3) ∧ ∃ n4 : Int, cellAt h (a.add 4) = some (.int .i64 n4) ∧ ∃ n5p : Option Addr, ∃ n5n : Nat, ∃ n5c : Nat, cellAt h (a.add 5) = some (.slice n5p n5n n5c) ∧ ∃ n6p : Option Addr, ∃ n6n : Nat, ∃ n6c : Nat, cellAt h (a.add 6) = some (.slice n6p n6n n6c) ∧ ∃ n7p : Option Addr, ∃ n7n : Nat, ∃ n7c : Nat, cellAt h (a.add 7) = some (.slice n7p n7n n7c) ∧ ∃ n8p : Option Addr, ∃ n8n : Nat, ∃ n8c : Nat, cellAt h (a.add 8) = some (.slice n8p n8n n8c) ∧ X [(.int .u64 n0), (.int .i64 n1), (.int .i64 n2), (.int .i64 n3), (.int .i64 n4), (.slice n5p n5n n5c), (.slice n6p n6n n6c), (.slice n7p n7n n7c), (.slice n8p n8n n8c)]
abbrev M_iiss (h : Heap) (a : Addr) (o : Nat) (X : List Value → Prop) : Prop := ∃ n0 : Int, cellAt h (a.add o) = some (.int .i64 n0) ∧ ∃ n1 : Int, cellAt h (a.add (o + 1)) = some (.int .i64 n1) ∧ ∃ n2p : Option Addr, ∃ n2n : Nat, ∃ n2c : Nat, cellAt h (a.add (o + 2)) = some (.slice n2p n2n n2c) ∧ ∃ n3p : Option Addr, ∃ n3n : Nat, ∃ n3c : Nat, cellAt h (a.add (o + 3)) = some (.slice n3p n3n n3c) ∧ X [(.int .i64 n0), (.int .i64 n1), (.slice n2p n2n n2c), (.slice n3p n3n n3c)]
abbrev M_uiiiissss (h : Heap) (a : Addr) (o : Nat) (X : List Value → Prop) : Prop := ∃ n0 : Int, cellAt h (a.add o) = some (.int .u64 n0) ∧ ∃ n1 : Int, cellAt h (a.add (o + 1)) = some (.int .i64 n1) ∧ ∃ n2 : Int, cellAt h (a.add (o + 2)) = some (.int .i64 n2) ∧ ∃ n3 : Int, cellAt h (a.add (o + 3)) = some (.int .i64 n3) ∧ ∃ n4 : Int, cellAt h (a.add (o + 4)) = some (.int .i64 n4) ∧ ∃ n5p : Option Addr, ∃ n5n : Nat, ∃ n5c : Nat, cellAt h (a.add (o + 5)) = some (.slice n5p n5n n5c) ∧ ∃ n6p : Option Addr, ∃ n6n : Nat, ∃ n6c : Nat, cellAt h (a.add (o + 6)) = some (.slice n6p n6n n6c) ∧ ∃ n7p : Option Addr, ∃ n7n : Nat, ∃ n7c : Nat, cellAt h (a.add (o + 7)) = some (.slice n7p n7n n7c) ∧ ∃ n8p : Option Addr, ∃ n8n : Nat, ∃ n8c : Nat, cellAt h (a.add (o + 8)) = some (.slice n8p n8n n8c) ∧ X [(.int .u64 n0), (.int .i64 n1), (.int .i64 n2), (.int .i64 n3), (.int .i64 n4), (.slice n5p n5n n5c), (.slice n6p n6n n6c), (.slice n7p n7n n7c), (.slice n8p n8n n8c)]
abbrev rg (n : Nat) : Ann := .reg (qr 0 n .done)
end Go.Proofs.YteemmpkhdllapaaGreatDoor
