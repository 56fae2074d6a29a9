/- Texts of this proof, some in one. No condition. -/
import Derived.Test.YteemmpkhdllapaaGreatDoorY8
import Derived.Test.YteemmpkhdllapaaGreatDoorY9
set_option linter.unusedSimpArgs false
set_option linter.unusedVariables false
namespace Go.Proofs.YteemmpkhdllapaaGreatDoor
open Go.V Classical
def fset {α:Type} (f:Nat→α) (k:Nat) (v:α):Nat→α:=fun i=>if i=k then v else f i
theorem fset_same {α:Type} (f:Nat→α) (k:Nat) (v:α):fset f k v k=v:=by simp [fset]
theorem fset_ne {α:Type} (f:Nat→α) {k i:Nat} (v:α) (h:i≠k):fset f k v i=f i:=by simp [fset,h]
structure BU where
 st:Sto
 hd:Nat→Int
 m:MS
def adr (c:Cfg) (page:Nat):Int:=c.base+4096*(page:Int)
def bud (page k:Nat):Nat:=if page / 2 ^ k % 2=0 then page+2 ^ k else page-2 ^ k
def dwn (page k:Nat):Nat:=if page / 2 ^ k % 2=0 then page else page-2 ^ k
def runU (m:MS) (i r:Nat) (kind:Int):MS:=if r≤m.o∧i % 2 ^ r=0∧i+2 ^ r≤m.n then { m with pg:=runP m.pg i r kind } else m
def turnU (m:MS) (page k:Nat):MS×Bool :=
 if k=m.o then (m,true) else if page<m.n∧k<m.o then ({ m with bt:=flipB m.bt k (page / 2 ^ (k+1)) },!m.bt k (page / 2 ^ (k+1))) else (m,false)
def BU.put (x:BU) (k:Nat) (y:LS):BU:=⟨y.st,fset x.hd k y.hd,x.m⟩
def enterU (c:Cfg) (x:BU) (page k:Nat):BU:=BU.put { x with m:=runU x.m page k 0 } k (pushU c ⟨x.st,x.hd k⟩ (adr c page)).1
def cutU (c:Cfg) (page to:Nat):BU→Nat→BU
 | x,0=>{ x with m:=runU x.m page to 2 }
 | x,d+1 =>
  let y:=enterU c x (page+2 ^ (to+d)) (to+d)
  cutU c page to { y with m:=(turnU y.m (page+2 ^ (to+d)) (to+d)).1 } d
def pageU (c:Cfg) (m:MS) (p:Int):Option Nat:=if p<c.base∨p % 4096≠0∨(m.n:Int)≤(p-c.base) / 4096 then none else some ((p-c.base) / 4096).toNat
def takeF (c:Cfg) (o:Nat):BU→Nat→BU×Int×Int
 | x,0=>(x,0,2)
 | x,d+1 =>
  let r:=popU c ⟨x.st,x.hd (x.m.o-d)⟩
  if r.2.2=9 then takeF c o x d else
  let y:=x.put (x.m.o-d) r.1
  if r.2.2≠0 then (y,0,8) else
  match pageU c y.m r.2.1 with
  | none=>(y,0,8)
  | some page=>(cutU c page o { y with m:=(turnU y.m page (x.m.o-d)).1 } (x.m.o-d-o),r.2.1,0)
def takeU (c:Cfg) (x:BU) (o:Int):BU×Int×Int:=if o<0∨o>x.m.o then (x,0,1) else takeF c o.toNat x (x.m.o+1-o.toNat)
def liveU (c:Cfg) (m:MS) (p o:Int):Option Nat:=match pageU c m p with
 | none=>none
 | some q=>if m.pg q 0=2∧m.pg q 1=o then some q else none
def upU (c:Cfg):BU→Nat→Nat→Nat→BU×Int
 | x,page,k,d =>
  if (turnU x.m page k).2=true then (enterU c { x with m:=(turnU x.m page k).1 } page k,0)
  else match d with
   | 0=>(x,0)
   | d+1 =>
    let r:=removeU c ⟨x.st,x.hd k⟩ (adr c (bud page k))
    let z:=BU.put { x with m:=(turnU x.m page k).1 } k r.1
    if r.2≠0 then (z,r.2) else upU c z (dwn page k) (k+1) d
def giveU (c:Cfg) (x:BU) (p o:Int):BU×Int:=match liveU c x.m p o with
 | none=>(x,1)
 | some page=>upU c x page o.toNat (x.m.o-o.toNat)
def topU (x:BU):Option Nat:=if 0<x.st.n∧x.m.n=x.st.n*2 ^ x.m.o then some (x.st.n*2 ^ x.m.o-2 ^ x.m.o) else none
def feedU (c:Cfg) (x:BU):BU×Int:=match topU x with
 | none=>(x,9)
 | some q=>if (giveU c x (adr c q) x.m.o).2=1 then ((giveU c x (adr c q) x.m.o).1,9) else giveU c x (adr c q) x.m.o
def pullU (c:Cfg) (x:BU):BU×Int:=match topU x with
 | none=>(x,9)
 | some q=>if x.m.pg q 0≠0∨x.m.pg q 1≠x.m.o then (x,9) else
  let r:=removeU c ⟨x.st,x.hd x.m.o⟩ (adr c q)
  let z:=x.put x.m.o r.1
  if r.2≠0 then (z,r.2) else ({ z with m:=runU z.m q x.m.o 2 },0)
structure BW where
 s:Nat
 Z:Nat→Prop
 mb:Nat
 w:MW
 b:Nat
 lp:Option Addr
 lc:Nat
 lb:Nat→Nat
def bdG (c:Cfg) (s mb:Nat) (lp:Option Addr) (n lc:Nat):Nat→Value
 | 0=>.int .u64 c.base
 | 1=>.int .i64 c.limit
 | 2=>.int .i64 c.order
 | 3=>.pointer (some ⟨s,0,none⟩)
 | 4=>.pointer (some ⟨mb,0,none⟩)
 | _=>.slice lp n lc
abbrev bdF (c:Cfg) (W:BW) (o:Nat):Nat→Value:=bdG c W.s W.mb W.lp (o+1) W.lc
def lptr (lb:Nat→Nat):Nat→Value:=fun i=>.pointer (some ⟨lb i,0,none⟩)
abbrev bhR (c:Cfg) (W:BW) (o:Nat):Res:=andR (blkR W.b 6 (bdF c W o)) (slR W.lp (o+1) W.lc 1 (lptr W.lb))
abbrev blR (c:Cfg) (W:BW) (o:Nat) (st:Sto) (hd:Nat→Int):Res:=andR (allR (o+1) fun k=>lsR W.s (W.lb k) (hd k)) (spR W.s c W.Z st)
abbrev buR (c:Cfg) (W:BW) (x:BU):Res:=andR (bhR c W x.m.o) (andR (blR c W x.m.o x.st x.hd) (mapR W.mb x.m W.w))
structure BU.Ok (c:Cfg) (x:BU):Prop where
 m:x.m.Ok
 o:(x.m.o:Int)=c.order
 b:∀i,i<x.m.n→x.m.pg i 0=2→∃k:Nat,x.m.pg i 1=k∧k≤x.m.o∧i % 2 ^ k=0
section
variable {w₀:World} {h h':Heap} {c:Cfg} {W:BW} {x:BU} {K:Value→Heap→Prop}
theorem bu_base (H:(buR c W x).P h):cellAt h ⟨W.b,0,none⟩=some (.int .u64 c.base):=H.1.1.cell (i:=0) (by omega)
theorem bu_order (H:(buR c W x).P h):cellAt h ⟨W.b,2,none⟩=some (.int .i64 c.order):=H.1.1.cell (i:=2) (by omega)
theorem bu_s (H:(buR c W x).P h):cellAt h ⟨W.b,3,none⟩=some (.pointer (some ⟨W.s,0,none⟩)):=H.1.1.cell (i:=3) (by omega)
theorem bu_m (H:(buR c W x).P h):cellAt h ⟨W.b,4,none⟩=some (.pointer (some ⟨W.mb,0,none⟩)):=H.1.1.cell (i:=4) (by omega)
theorem bu_l (H:(buR c W x).P h):cellAt h ⟨W.b,5,none⟩=some (.slice W.lp (x.m.o+1) W.lc):=H.1.1.cell (i:=5) (by omega)
theorem bu_lk (H:(buR c W x).P h) {k:Nat} (hk:k≤x.m.o):∃q,W.lp=some ⟨q,0,none⟩∧cellAt h ⟨q,k,none⟩=some (.pointer (some ⟨W.lb k,0,none⟩)):=by
 obtain ⟨q,e1,e2⟩:=sl_cell H.1.2.1 (i:=k) (by omega)
 exact ⟨q,e1,e2⟩
theorem bu_map (H:(buR c W x).P h):(mapR W.mb x.m W.w).P h:=H.2.1.2.1
theorem bu_sp (H:(buR c W x).P h):(spR W.s c W.Z x.st).P h:=H.2.1.1.2.1
theorem bu_list (H:(buR c W x).P h) {k:Nat} (hk:k≤x.m.o):(lwR W.s (W.lb k) c W.Z ⟨x.st,x.hd k⟩).P h :=
 ⟨H.2.1.1.1.1 k (by omega),H.2.1.1.2.1,fun b e e'=>H.2.1.1.2.2 b ⟨k,by omega,e⟩ e'⟩
theorem bu_hu (H:(buR c W x).P h) {k:Nat} (hk:k≤x.m.o):U64 (x.hd k):=(bu_list H hk).1.1
theorem bu_good (H:(buR c W x).P h):c.Good:=(bu_sp H).good
theorem bu_liftm (H:(buR c W x).P h) {m':MS} (ho:m'.o=x.m.o) (S:Stp h h' (mapR W.mb x.m W.w) (mapR W.mb m' W.w)):Stp h h' (buR c W x) (buR c W ⟨x.st,x.hd,m'⟩):=by
 have T:=(S.right H.2.1).right H
 unfold buR
 simp only [ho]
 exact T
theorem bu_liftl (H:(buR c W x).P h) {k:Nat} (hk:k≤x.m.o) {y:LS} (S:Stp h h' (lwR W.s (W.lb k) c W.Z ⟨x.st,x.hd k⟩) (lwR W.s (W.lb k) c W.Z y)):Stp h h' (buR c W x) (buR c W (x.put k y)):=by
 have S1:=Stp.allAnd (R:=fun i=>lsR W.s (W.lb i) (x.hd i)) k (n:=x.m.o+1) (by omega) S H.2.1.1
 have he:∀i,i<x.m.o+1→(if i=k then lsR W.s (W.lb k) y.hd else lsR W.s (W.lb i) (x.hd i))=lsR W.s (W.lb i) (fset x.hd k y.hd i):=by
  intro i _
  unfold fset
  split
  ·rename_i e;rw [e]
  ·rfl
 have S2:Stp h h' (blR c W x.m.o x.st x.hd) (blR c W x.m.o y.st (fset x.hd k y.hd)) :=
  S1.conv (fun P=>⟨allR_congr he P.1,P.2.1,fun b e e'=>P.2.2 b (allR_fp he b e) e'⟩) fun b e=>e.imp (fun e=>allR_fp he b e) id
 exact (S2.left H.2.1).right H
theorem bu_liftsp (H:(buR c W x).P h) {st':Sto} (S:Stp h h' (spR W.s c W.Z x.st) (spR W.s c W.Z st')):Stp h h' (buR c W x) (buR c W ⟨st',x.hd,x.m⟩) :=
 ((S.right H.2.1.1).left H.2.1).right H
theorem bu_bounds (g:c.Good) (hm:x.m.Ok):0<c.base∧c.base≤9223372036854771712∧x.m.n≤1024:=by
 refine ⟨g.b0,?_,hm.n1⟩
 have h1:=g.top
 have h2:=g.size_pos
 have:(4096:Int)*1≤c.size*c.limit:=Int.mul_le_mul (by omega) g.l1 (by omega) (by omega)
 omega
theorem adr_u64 (g:c.Good) (hm:x.m.Ok) {page:Nat} (hp:page<4096):U64 (adr c page):=by
 have:=bu_bounds (c:=c) g hm
 unfold adr U64
 omega
end
end Go.Proofs.YteemmpkhdllapaaGreatDoor
namespace Go.Proofs.YteemmpkhdllapaaGreatDoor
open Go.V Classical
section
variable {w₀:World} {h:Heap} {c:Cfg} {W:BW} {x:BU} {K:Value→Heap→Prop}
@[simp] theorem runU_o (m:MS) (i r:Nat) (kind:Int):(runU m i r kind).o=m.o:=by unfold runU;split<;>rfl
@[simp] theorem runU_n (m:MS) (i r:Nat) (kind:Int):(runU m i r kind).n=m.n:=by unfold runU;split<;>rfl
@[simp] theorem runU_bt (m:MS) (i r:Nat) (kind:Int):(runU m i r kind).bt=m.bt:=by unfold runU;split<;>rfl
@[simp] theorem turnU_o (m:MS) (i r:Nat):(turnU m i r).1.o=m.o:=by unfold turnU;split;rfl;split<;>rfl
@[simp] theorem turnU_n (m:MS) (i r:Nat):(turnU m i r).1.n=m.n:=by unfold turnU;split;rfl;split<;>rfl
@[simp] theorem turnU_pg (m:MS) (i r:Nat):(turnU m i r).1.pg=m.pg:=by unfold turnU;split;rfl;split<;>rfl
@[simp] theorem put_m (x:BU) (k:Nat) (y:LS):(x.put k y).m=x.m:=rfl
@[simp] theorem enterU_o (x:BU) (i k:Nat):(enterU c x i k).m.o=x.m.o:=by simp [enterU]
@[simp] theorem enterU_n (x:BU) (i k:Nat):(enterU c x i k).m.n=x.m.n:=by simp [enterU]
theorem runU_ok {m:MS} {i r:Nat} {kind:Int} (H:m.Ok) (hk:kind=0∨kind=2):(runU m i r kind).Ok:=by
 unfold runU
 split
 ·rename_i hc
  have:=runP_ok (i:=(i:Int)) (r:=(r:Int)) (kind:=kind) H ⟨hk,by omega,by omega,by omega,by simpa using hc.2.1,by simpa using hc.2.2⟩
  simpa using this
 ·exact H
theorem turnU_ok {m:MS} {i r:Nat} (H:m.Ok):(turnU m i r).1.Ok:=by
 unfold turnU
 split
 ·exact H
 ·split
  ·rename_i hc
   have:=flip_ok (r:=(r:Int)) (i:=(i:Int)) H ⟨by omega,by omega,by omega,by omega⟩
   simpa using this
  ·exact H
theorem run_b {x:BU} (H:BU.Ok c x) {i r:Nat} {kind:Int} (hk:kind=0∨kind=2):BU.Ok c { x with m:=runU x.m i r kind }:=by
 refine ⟨runU_ok H.m hk,by simpa using H.o,fun j hj h2=>?_⟩
 simp only [runU_n] at hj
 simp only [runU_o]
 unfold runU at h2 ⊢
 split at h2
 ·rename_i hc
  rw [if_pos hc]
  simp only [runP] at h2 ⊢
  split at h2
  ·rename_i hr
   rw [if_pos hr]
   by_cases hji:j=i
   ·rw [if_pos hji]
    exact ⟨r,rfl,hc.1,by rw [hji];exact hc.2.1⟩
   ·rw [if_neg hji] at h2
    have h2:kind+1=2:=h2
    omega
  ·rename_i hr
   rw [if_neg hr]
   exact H.b j hj h2
 ·rename_i hc
  rw [if_neg hc]
  exact H.b j hj h2
theorem turn_b {x:BU} (H:BU.Ok c x) {i r:Nat}:BU.Ok c { x with m:=(turnU x.m i r).1 } :=
 ⟨turnU_ok H.m,by simpa using H.o,fun j hj h2=>by simp only [turnU_n,turnU_pg,turnU_o] at hj h2 ⊢;exact H.b j hj h2⟩
theorem put_b {x:BU} (H:BU.Ok c x) (k:Nat) (y:LS):BU.Ok c (x.put k y):=⟨H.m,H.o,H.b⟩
theorem enter_b {x:BU} (H:BU.Ok c x) (i k:Nat):BU.Ok c (enterU c x i k):=put_b (run_b H (.inl rfl)) _ _
theorem run_ok {m:MS} {mb:Nat} {w:MW} {i r:Nat} {kind:Int} (hm:m.Ok) (hi:i<4096) (hk:kind=0∨kind=2) (H:(mapR mb m w).P h)
  (hK:∀e h',Stp h h' (mapR mb m w) (mapR mb (runU m i r kind) w)→K (.int .i64 e) h') :
  CallV Tryz.prog w₀ F.pagemap_Map_Run [.pointer (some ⟨mb,0,none⟩),.int .i64 (i:Int),.int .i64 (r:Int),.int .i64 kind] h K:=by
 refine pm_Run_ok hm.o8 hm.n1 ⟨by omega,by omega⟩ H (fun i' r' e1 e2 a1 a2 a3 _ h' S=>hK _ h' ?_) fun hn h' u=>hK _ h' ?_
 ·have e1:i'=i:=by omega
  have e2:r'=r:=by omega
  subst e1;subst e2
  unfold runU
  rw [if_pos ⟨a1,a2,a3⟩]
  exact S
 ·unfold runU
  rw [if_neg fun hc=>hn ⟨hk,by omega,by omega,by omega,by simpa using hc.2.1,by simpa using hc.2.2⟩]
  exact Stp.quiet H u
theorem bu_address_ok {page:Nat} (g:c.Good) (hp:page<4096) (Bb:cellAt h ⟨W.b,0,none⟩=some (.int .u64 c.base)) (hK:K (.int .u64 (adr c page)) h) :
  CallV Tryz.prog w₀ F.buddy_Buddy_address [.pointer (some ⟨W.b,0,none⟩),.int .i64 (page:Int)] h K:=by
 refine buddy_Buddy_address.call ?_
 refine ⟨_,rfl,_,Bb,?_⟩
 have h1:=g.b0
 have h2:=g.top
 have h3:(0:Int)≤c.size*c.limit:=Int.mul_nonneg (by omega) (by have:=g.l1;omega)
 have e:IntKind.wrap .u64 (c.base+IntKind.wrap .u64 (4096*IntKind.wrap .u64 (page:Int)))=adr c page:=by
  unfold adr
  simp only [IntKind.wrap_u64]
  omega
 rw [e];exact hK
theorem bu_page_ok {p:Int} (hp:U64 p) (hm:x.m.Ok) (H:(buR c W x).P h) (hy:∀q,pageU c x.m p=some q→q<x.m.n→p=adr c q→K (.tuple #[.int .i64 (q:Int),.bool true]) h)
  (hn:pageU c x.m p=none→K (.tuple #[.int .i64 0,.bool false]) h):CallV Tryz.prog w₀ F.buddy_Buddy_page [.pointer (some ⟨W.b,0,none⟩),.int .u64 p] h K:=by
 refine buddy_Buddy_page.call ?_
 have g:=bu_good H
 have b0:=g.b0
 have n1:=hm.n1
 refine ⟨_,rfl,_,bu_base H,fun J1 hJ1=>?_⟩
 have e1:Int.tmod p 4096=p % 4096:=Int.tmod_eq_emod_of_nonneg hp.1
 have bad:(p<c.base∨p % 4096≠0∨(x.m.n:Int)≤(p-c.base) / 4096)→K (.tuple #[.int .i64 0,.bool false]) h:=fun hb=>hn (by unfold pageU;rw [if_pos hb])
 by_cases h1:p<c.base
 ·exact pT (decide_eq_true h1) (hJ1 _ _ fun J2 hJ2=>pT rfl (hJ2 _ _ (iT rfl (bad (.inl h1)))))
 ·refine pF (decide_eq_false h1) ⟨by decide,hJ1 _ _ fun J2 hJ2=>?_⟩
  rw [e1]
  by_cases h2:p % 4096=0
  ·refine pF (by rw [h2];rfl) ⟨_,rfl,_,bu_base H,by decide,_,rfl,_,by rw [add_mk];exact bu_m H,?_⟩
   refine pm_Pages_ok (bu_map H) ⟨_,rfl,bu_base H,hJ2 _ _ ?_⟩
   have e2:IntKind.wrap .u64 (Int.tdiv (IntKind.wrap .u64 (p-c.base)) 4096)=(p-c.base) / 4096:=by
    simp only [IntKind.wrap_u64]
    have hx:(p-c.base) % 18446744073709551616=p-c.base:=Int.emod_eq_of_lt (by omega) (by have:=hp.2;omega)
    rw [hx,Int.tdiv_eq_ediv_of_nonneg (by omega)]
    have:=hp.2
    omega
   have e3:IntKind.wrap .u64 (x.m.n:Int)=x.m.n:=by simp only [IntKind.wrap_u64];omega
   rw [e2,e3]
   by_cases h3:(x.m.n:Int)≤(p-c.base) / 4096
   ·exact iT (decide_eq_true h3) (bad (.inr (.inr h3)))
   ·refine iF (decide_eq_false h3) ⟨_,rfl,_,bu_base H,by decide,?_⟩
    rw [e2]
    have al:c.base % 4096=0:=by
     have:=g.al
     have hd:(4096:Int) ∣ c.size:=⟨((2 ^ c.order.toNat:Nat):Int),by unfold Cfg.size;simp⟩
     exact Int.emod_eq_zero_of_dvd (Int.dvd_trans hd (Int.dvd_of_emod_eq_zero this))
    have e4:IntKind.wrap .i64 ((p-c.base) / 4096)=(((p-c.base) / 4096).toNat:Int):=by
     rw [IntKind.wrap_i64];omega
    rw [e4]
    exact hy _ (by unfold pageU;rw [if_neg (by omega)]) (by omega) (by unfold adr;omega)
  ·refine pT (by simpa using h2) (hJ2 _ _ (iT rfl (bad (.inr (.inl h2)))))
end
end Go.Proofs.YteemmpkhdllapaaGreatDoor
namespace Go.Proofs.YteemmpkhdllapaaGreatDoor
open Go.V Classical
theorem shl1 {k:Nat} (hk:k≤8):IntKind.wrap .i64 ((1:Int)*2 ^ min (Int.toNat (k:Int)) (IntKind.bits .i64))=((2 ^ k:Nat):Int):=by
 have:k=0∨k=1∨k=2∨k=3∨k=4∨k=5∨k=6∨k=7∨k=8:=by omega
 rcases this with rfl | rfl | rfl | rfl | rfl | rfl | rfl | rfl | rfl<;>decide
theorem pow8 {k:Nat} (hk:k≤8):1≤2 ^ k∧2 ^ k≤256:=by
 have:k=0∨k=1∨k=2∨k=3∨k=4∨k=5∨k=6∨k=7∨k=8:=by omega
 rcases this with rfl | rfl | rfl | rfl | rfl | rfl | rfl | rfl | rfl<;>decide
section
variable {w₀:World} {h:Heap} {c:Cfg} {W:BW} {x:BU} {K:Value→Heap→Prop}
theorem bu_lk' (H:(buR c W x).P h) {k:Nat} (hk:k≤x.m.o):∃q,W.lp=some q∧cellAt h (q.add (Int.toNat (k:Int)*1))=some (.pointer (some ⟨W.lb k,0,none⟩)):=by
 obtain ⟨q,e1,e2⟩:=bu_lk H hk
 exact ⟨_,e1,by rw [add_mk];simpa using e2⟩
theorem bu_l' (H:(buR c W x).P h):cellAt h ((⟨W.b,0,none⟩ : Addr).add 5)=some (.slice W.lp (x.m.o+1) W.lc):=by rw [add_mk];exact bu_l H
theorem bu_m' (H:(buR c W x).P h):cellAt h ((⟨W.b,0,none⟩ : Addr).add 4)=some (.pointer (some ⟨W.mb,0,none⟩)):=by rw [add_mk];exact bu_m H
theorem bu_s' (H:(buR c W x).P h):cellAt h ((⟨W.b,0,none⟩ : Addr).add 3)=some (.pointer (some ⟨W.s,0,none⟩)):=by rw [add_mk];exact bu_s H
theorem bu_o' (ho:(x.m.o:Int)=c.order) (H:(buR c W x).P h):cellAt h ((⟨W.b,0,none⟩ : Addr).add 2)=some (.int .i64 (x.m.o:Int)):=by rw [add_mk,ho];exact bu_order H
theorem bu_enter_ok {page k:Nat} (hx:BU.Ok c x) (hp:page<4096) (hk:k≤x.m.o) (H:(buR c W x).P h)
  (hK:∀h',Stp h h' (buR c W x) (buR c W (enterU c x page k))→K (.tuple #[]) h') :
  CallV Tryz.prog w₀ F.buddy_Buddy_enter [.pointer (some ⟨W.b,0,none⟩),.int .i64 (page:Int),.int .i64 (k:Int)] h K:=by
 refine buddy_Buddy_enter.call ?_
 refine ⟨_,rfl,_,bu_m' H,run_ok hx.m hp (.inl rfl) (bu_map H) fun e h1 S1=>⟨_,rfl,?_⟩⟩
 have T1:=bu_liftm H (by simp) S1
 have H1:=T1.p
 have g:=bu_good H
 have hk1:k≤(runU x.m page k 0).o:=by simpa using hk
 obtain ⟨q,q1,q2⟩:=bu_lk' H1 hk1
 refine ⟨_,rfl,_,_,_,bu_l' H1,q,q1,by omega,by simp;omega,_,q2,?_⟩
 refine bu_address_ok g hp (bu_base H1) ⟨_,rfl,q2,bu_l' H1,?_⟩
 refine links_Push_ok (adr_u64 g hx.m hp) (bu_list H1 hk1) fun h2 S2=>⟨_,rfl,hK h2 (T1.trans ?_)⟩
 exact bu_liftl H1 hk1 S2
theorem bu_turn_ok {page k:Nat} (hx:BU.Ok c x) (hp:page<4096) (H:(buR c W x).P h)
  (hK:∀h',Stp h h' (buR c W x) (buR c W { x with m:=(turnU x.m page k).1 })→K (.bool (turnU x.m page k).2) h') :
  CallV Tryz.prog w₀ F.buddy_Buddy_turn [.pointer (some ⟨W.b,0,none⟩),.int .i64 (page:Int),.int .i64 (k:Int)] h K:=by
 refine buddy_Buddy_turn.call ?_
 refine ⟨_,rfl,_,bu_o' hx.o H,?_⟩
 by_cases e:k=x.m.o
 ·refine iT (by simp [e]) ?_
  have:turnU x.m page k=(x.m,true):=by unfold turnU;rw [if_pos e]
  rw [this] at hK
  exact hK h (Stp.refl H)
 ·refine iF (beq_false_of_ne (by omega)) ⟨_,rfl,_,bu_m' H,?_⟩
  refine pm_Flip_ok hx.m (bu_map H) (fun k' m' e1 l1 e2 l2 h1 S1=>⟨_,_,rfl,?_⟩) fun hn h1 u1=>⟨_,_,rfl,?_⟩
  ·have e1:k'=k:=by omega
   have e2:m'=page:=by omega
   subst e1;subst e2
   have:turnU x.m m' k'=({ x.m with bt:=flipB x.m.bt k' (m' / 2 ^ (k'+1)) },!x.m.bt k' (m' / 2 ^ (k'+1))):=by
    unfold turnU;rw [if_neg e,if_pos ⟨l2,l1⟩]
   rw [this] at hK
   exact hK h1 (bu_liftm H rfl S1)
  ·have:turnU x.m page k=(x.m,false):=by
    unfold turnU
    rw [if_neg e,if_neg fun hc=>hn ⟨by omega,by omega,by omega,by omega⟩]
   rw [this] at hK
   exact hK h1 (Stp.quiet H u1)
theorem bu_cut_ok {page frm to:Nat} (hx:BU.Ok c x) (hp:page<1024) (hf:frm≤x.m.o) (ht:to≤frm) (H:(buR c W x).P h)
  (hK:∀h',BU.Ok c (cutU c page to x (frm-to))→(cutU c page to x (frm-to)).m.o=x.m.o→Stp h h' (buR c W x) (buR c W (cutU c page to x (frm-to)))→K (.tuple #[]) h') :
  CallV Tryz.prog w₀ F.buddy_Buddy_cut [.pointer (some ⟨W.b,0,none⟩),.int .i64 (page:Int),.int .i64 (frm:Int),.int .i64 (to:Int)] h K:=by
 refine buddy_Buddy_cut.call ?_
 have o8:=hx.m.o8
 intro J1 hJ1 L3 hL3
 have key:∀(d:Nat) (y:BU) (h1:Heap),BU.Ok c y→y.m.o=x.m.o→to+d≤x.m.o→Stp h h1 (buR c W x) (buR c W y)→cutU c page to y d=cutU c page to x (frm-to) →
   L3 [.pointer (some ⟨W.b,0,none⟩),.int .i64 (page:Int),.int .i64 (to:Int),.int .i64 ((to:Int)+d-1)] h1:=by
  intro d
  induction d with
  | zero =>
   intro y h1 hy ho hd S e
   refine hL3 _ _ _ _ _ (iF (decide_eq_false (by omega)) (hJ1 _ _ _ _ ⟨_,rfl,_,bu_m' S.p,run_ok hy.m (by omega) (.inr rfl) (bu_map S.p) fun _ h2 S2=>⟨_,rfl,?_⟩⟩))
   have T2:=S.trans (bu_liftm S.p (by simp) S2)
   have e:({ y with m:=runU y.m page to 2 }:BU)=cutU c page to x (frm-to):=e
   refine hK h2 ?_ ?_ ?_
   ·rw [←e];exact run_b hy (.inr rfl)
   ·rw [←e];simpa using ho
   ·rw [←e];exact T2
  | succ d ih =>
   intro y h1 hy ho hd S e
   have hb:=pow8 (k:=to+d) (by omega)
   have e1:IntKind.wrap .i64 ((page:Int)+IntKind.wrap .i64 ((1:Int)*2 ^ min (Int.toNat ((to:Int)+(d+1:Nat)-1)) (IntKind.bits .i64)))=((page+2 ^ (to+d):Nat):Int):=by
    rw [show ((to:Int)+(d+1:Nat)-1)=((to+d:Nat):Int) by omega,shl1 (by omega),IntKind.wrap_i64]
    omega
   have e2:((to:Int)+(d+1:Nat)-1)=((to+d:Nat):Int):=by omega
   refine hL3 _ _ _ _ _ (iT (decide_eq_true (by omega)) ⟨by omega,?_⟩)
   rw [e1,e2]
   refine bu_enter_ok hy (by omega) (by omega) S.p fun h2 S2=>⟨rfl,by omega,?_⟩
   have T2:=S.trans S2
   have hy2:BU.Ok c (enterU c y (page+2 ^ (to+d)) (to+d)):=enter_b hy _ _
   refine bu_turn_ok hy2 (by omega) T2.p fun h3 S3=>⟨_,rfl,?_⟩
   have:=ih { enterU c y (page+2 ^ (to+d)) (to+d) with m:=(turnU (enterU c y (page+2 ^ (to+d)) (to+d)).m (page+2 ^ (to+d)) (to+d)).1 } h3 (turn_b hy2) (by simpa using ho) (by omega) (T2.trans S3) e
   have e3:IntKind.wrap .i64 (((to+d:Nat):Int)-1)=(to:Int)+d-1:=by rw [IntKind.wrap_i64];omega
   rw [e3]
   exact this
 have e0:IntKind.wrap .i64 ((frm:Int)-1)=(to:Int)+(frm-to:Nat)-1:=by rw [IntKind.wrap_i64];omega
 rw [e0]
 exact key (frm-to) x h hx rfl (by omega) (Stp.refl H) rfl
theorem bu_Take_ok {o:Int} (hx:BU.Ok c x) (H:(buR c W x).P h)
  (hK:∀h',BU.Ok c (takeU c x o).1→(takeU c x o).1.m.o=x.m.o→Stp h h' (buR c W x) (buR c W (takeU c x o).1)→K (.tuple #[.int .u64 (takeU c x o).2.1,.int .i64 (takeU c x o).2.2]) h') :
  CallV Tryz.prog w₀ F.buddy_Buddy_Take [.pointer (some ⟨W.b,0,none⟩),.int .i64 o] h K:=by
 refine buddy_Buddy_Take.call ?_
 have o8:=hx.m.o8
 have n1:=hx.m.n1
 have bad:(o<0∨o>x.m.o)→K (.tuple #[.int .u64 0,.int .i64 1]) h:=fun hb=>by
  have e:takeU c x o=(x,0,1):=by unfold takeU;rw [if_pos hb]
  rw [e] at hK
  exact hK h hx rfl (Stp.refl H)
 intro J1 hJ1
 by_cases h0:o<0
 ·exact pT (decide_eq_true h0) (hJ1 _ _ (iT rfl (bad (.inl h0))))
 refine pF (decide_eq_false h0) ⟨_,rfl,_,bu_o' hx.o H,hJ1 _ _ ?_⟩
 by_cases h1:o>x.m.o
 ·exact iT (decide_eq_true h1) (bad (.inr h1))
 refine iF (decide_eq_false h1) fun J2 hJ2 L3 hL3=>?_
 obtain ⟨on,rfl⟩ : ∃on:Nat,o=on:=⟨o.toNat,by omega⟩
 have eT:takeU c x on=takeF c on x (x.m.o+1-on):=by unfold takeU;rw [if_neg (by omega)];rfl
 have key:∀(d:Nat) (h1:Heap),d+on≤x.m.o+1→Stp h h1 (buR c W x) (buR c W x)→takeF c on x d=takeU c x on →
   L3 [.pointer (some ⟨W.b,0,none⟩),.int .i64 (on:Int),.int .i64 ((x.m.o:Int)+1-d)] h1:=by
  intro d
  induction d with
  | zero =>
   intro h2 hd S e
   refine hL3 _ _ _ _ ⟨_,rfl,_,bu_o' hx.o S.p,iF (decide_eq_false (by omega)) (hJ2 _ ?_)⟩
   rw [←e] at hK
   exact hK h2 hx rfl S
  | succ d ih =>
   intro h2 hd S e
   have e2:((x.m.o:Int)+1-(d+1:Nat))=((x.m.o-d:Nat):Int):=by omega
   rw [e2]
   have hj:x.m.o-d≤x.m.o:=by omega
   refine hL3 _ _ _ _ ⟨_,rfl,_,bu_o' hx.o S.p,iT (decide_eq_true (by omega)) ?_⟩
   obtain ⟨q,q1,q2⟩:=bu_lk' S.p hj
   refine ⟨_,rfl,_,_,_,bu_l' S.p,q,q1,by omega,by simp;omega,_,q2,?_⟩
   refine links_Pop_ok (bu_list S.p hj) fun h3 S3=>⟨_,_,rfl,?_⟩
   have T3:=S.trans (bu_liftl S.p hj S3)
   have ok3:BU.Ok c (x.put (x.m.o-d) (popU c ⟨x.st,x.hd (x.m.o-d)⟩).1):=put_b hx _ _
   rw [takeF] at e
   simp only [] at e
   by_cases h9:(popU c ⟨x.st,x.hd (x.m.o-d)⟩).2.2=9
   ·rw [if_pos h9] at e
    have e4:IntKind.wrap .i64 (((x.m.o-d:Nat):Int)+1)=(x.m.o:Int)+1-d:=by rw [IntKind.wrap_i64];omega
    refine iT (by simpa using h9) ?_
    rw [e4]
    have same:x.put (x.m.o-d) (popU c ⟨x.st,x.hd (x.m.o-d)⟩).1=x:=by
     have:popU c ⟨x.st,x.hd (x.m.o-d)⟩=(⟨x.st,x.hd (x.m.o-d)⟩,0,9):=by
      unfold popU at h9 ⊢
      split
      ·rfl
      ·rename_i hz
       rw [if_neg hz] at h9
       exfalso
       have hr:∀p,(removeU c ⟨x.st,x.hd (x.m.o-d)⟩ p).2=4∨(removeU c ⟨x.st,x.hd (x.m.o-d)⟩ p).2=8∨(removeU c ⟨x.st,x.hd (x.m.o-d)⟩ p).2=0:=by
        intro p;unfold removeU
        split
        ·exact .inl rfl
        ·split
         ·exact .inr (.inl rfl)
         ·exact .inr (.inr rfl)
       split at h9
       ·rcases hr (x.hd (x.m.o-d)) with e | e | e<;>(have h9:(removeU c ⟨x.st,x.hd (x.m.o-d)⟩ (x.hd (x.m.o-d))).2=9:=h9;rw [e] at h9;cases h9)
       ·cases h9
     rw [this]
     unfold BU.put
     have:fset x.hd (x.m.o-d) (x.hd (x.m.o-d))=x.hd:=by funext i;unfold fset;split;rename_i e;rw [e];rfl
     rw [this]
    rw [same] at T3
    exact ih h3 (by omega) T3 e
   ·rw [if_neg h9] at e
    refine iF (by simpa using h9) ?_
    have fail:takeU c x on=(x.put (x.m.o-d) (popU c ⟨x.st,x.hd (x.m.o-d)⟩).1,0,8)→K (.tuple #[.int .u64 0,.int .i64 8]) h3:=fun e8=>by
     rw [e8] at hK
     exact hK h3 ok3 rfl T3
    have hu:U64 (popU c ⟨x.st,x.hd (x.m.o-d)⟩).2.1:=by
     have:=bu_hu S.p hj
     unfold popU
     split
     ·simp [U64]
     ·split
      ·simp [U64]
      ·exact this
    refine bu_page_ok hu ok3.m T3.p (fun pg hpg hlt hadr=>⟨_,_,rfl,fun J6 hJ6=>?_⟩) fun hpg=>⟨_,_,rfl,fun J6 hJ6=>?_⟩
    ·have hpg:pageU c x.m (popU c ⟨x.st,x.hd (x.m.o-d)⟩).2.1=some pg:=hpg
     have hlt:pg<x.m.n:=hlt
     by_cases h0:(popU c ⟨x.st,x.hd (x.m.o-d)⟩).2.2=0
     ·rw [if_neg (by simpa using h0),put_m,hpg] at e
      simp only [] at e
      refine pF (by simpa using h0) (hJ6 _ _ (iF rfl ?_))
      refine bu_turn_ok ok3 (by omega) T3.p fun h4 S4=>⟨_,rfl,?_⟩
      have T4:=T3.trans S4
      have ok4:=turn_b ok3 (i:=pg) (r:=x.m.o-d)
      refine bu_cut_ok ok4 (by omega) (by simp) (by omega) T4.p fun h5 ok5 o5 S5=>⟨rfl,?_⟩
      rw [←e] at hK
      exact hK h5 ok5 (o5.trans (by simp)) (T4.trans S5)
     ·rw [if_pos h0] at e
      exact pT (by simpa using h0) (hJ6 _ _ (iT rfl (fail e.symm)))
    ·have hpg:pageU c x.m (popU c ⟨x.st,x.hd (x.m.o-d)⟩).2.1=none:=hpg
     by_cases h0:(popU c ⟨x.st,x.hd (x.m.o-d)⟩).2.2=0
     ·rw [if_neg (by simpa using h0),put_m,hpg] at e
      exact pF (by simpa using h0) (hJ6 _ _ (iT rfl (fail e.symm)))
     ·rw [if_pos h0] at e
      exact pT (by simpa using h0) (hJ6 _ _ (iT rfl (fail e.symm)))
 have:=key (x.m.o+1-on) h (by omega) (Stp.refl H) eT.symm
 rw [show ((x.m.o:Int)+1-(x.m.o+1-on:Nat))=(on:Int) by omega] at this
 exact this
end
end Go.Proofs.YteemmpkhdllapaaGreatDoor
namespace Go.Proofs.YteemmpkhdllapaaGreatDoor
open Go.V Classical
theorem xor_one (q:Nat):q ^^^ 1=if q % 2=0 then q+1 else q-1:=by
 have h1:(q ^^^ 1) / 2=q / 2:=by rw [Nat.xor_div_two];simp
 have h2:(q ^^^ 1) % 2=(q % 2) ^^^ 1:=by
  have:=Nat.xor_mod_two_pow (a:=q) (b:=1) (n:=1)
  simpa using this
 have h3:q % 2=0∨q % 2=1:=by omega
 rcases h3 with h3 | h3
 ·rw [h3] at h2
  have h2:(q ^^^ 1) % 2=1:=h2
  rw [if_pos h3];omega
 ·rw [h3] at h2
  have h2:(q ^^^ 1) % 2=0:=h2
  rw [if_neg (by omega)];omega
theorem xor_bud {p k:Nat} (h:p % 2 ^ k=0):p ^^^ 2 ^ k=bud p k:=by
 have hp:0<2 ^ k:=Nat.two_pow_pos k
 have h1:(p ^^^ 2 ^ k) / 2 ^ k=p / 2 ^ k ^^^ 1:=by rw [Nat.xor_div_two_pow,Nat.div_self hp]
 have h2:(p ^^^ 2 ^ k) % 2 ^ k=0:=by rw [Nat.xor_mod_two_pow,h,Nat.mod_self];rfl
 have h3:=Nat.div_add_mod (p ^^^ 2 ^ k) (2 ^ k)
 have h4:=Nat.div_add_mod p (2 ^ k)
 rw [h1,h2,xor_one] at h3
 rw [h] at h4
 unfold bud
 generalize hq:p / 2 ^ k=q at h3 h4 ⊢
 generalize 2 ^ k=t at h3 h4 hp ⊢
 by_cases e:q % 2=0
 ·rw [if_pos e] at h3 ⊢
  rw [Nat.mul_add] at h3
  omega
 ·rw [if_neg e] at h3 ⊢
  rw [Nat.mul_sub] at h3
  omega
theorem and_pow (p k:Nat):p &&& 2 ^ k=if p / 2 ^ k % 2=1 then 2 ^ k else 0:=by
 have ht:p.testBit k=decide (p / 2 ^ k % 2=1):=Nat.testBit_eq_decide_div_mod_eq
 refine Nat.eq_of_testBit_eq fun i=>?_
 rw [Nat.testBit_and,Nat.testBit_two_pow]
 by_cases e:k=i
 ·subst e
  rw [ht]
  by_cases h:p / 2 ^ k % 2=1
  ·rw [if_pos h,Nat.testBit_two_pow];simp [h]
  ·rw [if_neg h];simp [h]
 ·split
  ·rw [Nat.testBit_two_pow];simp [e]
  ·simp [e]
theorem clr_dwn {p k:Nat}:p ^^^ (p &&& 2 ^ k)=dwn p k:=by
 have hp:0<2 ^ k:=Nat.two_pow_pos k
 rw [and_pow]
 unfold dwn
 by_cases e:p / 2 ^ k % 2=0
 ·rw [if_neg (by omega),if_pos e];simp
 ·rw [if_pos (by omega),if_neg e]
  have h2:(p ^^^ 2 ^ k) / 2 ^ k=p / 2 ^ k ^^^ 1:=by rw [Nat.xor_div_two_pow,Nat.div_self hp]
  have h3:(p ^^^ 2 ^ k) % 2 ^ k=p % 2 ^ k:=by rw [Nat.xor_mod_two_pow,Nat.mod_self];simp
  have h4:=Nat.div_add_mod (p ^^^ 2 ^ k) (2 ^ k)
  have h5:=Nat.div_add_mod p (2 ^ k)
  rw [h2,h3,xor_one,if_neg e,Nat.mul_sub,Nat.mul_one] at h4
  have h7:1≤p / 2 ^ k:=by
   rcases Nat.eq_zero_or_pos (p / 2 ^ k) with h | h
   ·rw [h] at e;exact absurd rfl e
   ·exact h
  have h6:2 ^ k*1≤2 ^ k*(p / 2 ^ k):=Nat.mul_le_mul_left _ h7
  rw [Nat.mul_one] at h6
  clear h2 h3
  generalize p ^^^ 2 ^ k=z at h4 ⊢
  generalize p % 2 ^ k=r at h4 h5
  generalize 2 ^ k*(p / 2 ^ k)=y at h4 h5 h6
  omega
theorem bv_toNat {p:Nat} (hp:p<9223372036854775808):(BitVec.ofInt (IntKind.bits .i64) (p:Int)).toNat=p:=by
 rw [BitVec.toNat_ofInt]
 show ((p:Int) % (2 ^ 64:Nat)).toNat=p
 have:((2 ^ 64:Nat):Int)=18446744073709551616:=by decide
 rw [this]
 omega
theorem bv_xor {p k:Nat} (hk:k≤8) (hp:p<4096) (h:p % 2 ^ k=0) :
  IntKind.wrap .i64 (((BitVec.ofInt (IntKind.bits .i64) (p:Int) ^^^ BitVec.ofInt (IntKind.bits .i64) (IntKind.wrap .i64 ((1:Int)*2 ^ min (Int.toNat (k:Int)) (IntKind.bits .i64)))).toNat:Int))=(bud p k:Int):=by
 have hb:=pow8 hk
 rw [shl1 hk,BitVec.toNat_xor,bv_toNat (by omega),bv_toNat (by omega),xor_bud h,IntKind.wrap_i64]
 have:bud p k≤p+2 ^ k:=by unfold bud;split<;>omega
 omega
theorem bv_clr {p k:Nat} (hk:k≤8) (hp:p<4096) :
  IntKind.wrap .i64 (((BitVec.ofInt (IntKind.bits .i64) (p:Int) &&& ~~~ (BitVec.ofInt (IntKind.bits .i64) (IntKind.wrap .i64 ((1:Int)*2 ^ min (Int.toNat (k:Int)) (IntKind.bits .i64))))).toNat:Int))=(dwn p k:Int):=by
 have hb:=pow8 hk
 have e:∀(n:Nat) (a b:BitVec n),a &&& ~~~ b=a ^^^ (a &&& b):=fun n a b=>by
  ext i hi
  simp only [BitVec.getElem_and,BitVec.getElem_not,BitVec.getElem_xor]
  cases a[i]<;>cases b[i]<;>rfl
 rw [e,shl1 hk,BitVec.toNat_xor,BitVec.toNat_and,bv_toNat (by omega),bv_toNat (by omega),clr_dwn,IntKind.wrap_i64]
 have:dwn p k≤p:=by unfold dwn;split<;>omega
 omega
theorem bud_lt {p k o n:Nat} (hk:k<o) (hn:n % 2 ^ o=0) (hp:p % 2 ^ k=0) (hl:p<n):bud p k<n:=by
 obtain ⟨d,hd⟩ : ∃d,o=k+1+d:=⟨o-k-1,by omega⟩
 have e1:2 ^ o=2 ^ k*(2*2 ^ d):=by rw [hd,Nat.pow_add,Nat.pow_succ,Nat.mul_assoc]
 obtain ⟨q,hq⟩:=Nat.dvd_of_mod_eq_zero hp
 obtain ⟨m,hm⟩:=Nat.dvd_of_mod_eq_zero hn
 have h0:0<2 ^ k:=Nat.two_pow_pos k
 rw [e1,Nat.mul_assoc] at hm
 subst hm
 subst hq
 have hdiv:2 ^ k*q / 2 ^ k=q:=Nat.mul_div_cancel_left _ h0
 unfold bud
 rw [hdiv]
 have hq:q<2*2 ^ d*m:=Nat.lt_of_mul_lt_mul_left hl
 have hm2:2*2 ^ d*m=2*(2 ^ d*m):=Nat.mul_assoc ..
 split
 ·rw [show 2 ^ k*q+2 ^ k=2 ^ k*(q+1) by rw [Nat.mul_add,Nat.mul_one]]
  exact Nat.mul_lt_mul_of_pos_left (by omega) h0
 ·omega
theorem dwn_al {p k:Nat} (hp:p % 2 ^ k=0):dwn p k % 2 ^ (k+1)=0∧dwn p k≤p:=by
 have h0:0<2 ^ k:=Nat.two_pow_pos k
 obtain ⟨q,hq⟩:=Nat.dvd_of_mod_eq_zero hp
 subst hq
 have hdiv:2 ^ k*q / 2 ^ k=q:=Nat.mul_div_cancel_left _ h0
 unfold dwn
 rw [hdiv,Nat.pow_succ]
 by_cases e:q % 2=0
 ·rw [if_pos e]
  refine ⟨?_,Nat.le_refl _⟩
  obtain ⟨r,hr⟩:=Nat.dvd_of_mod_eq_zero e
  rw [hr,←Nat.mul_assoc];exact Nat.mul_mod_right _ _
 ·rw [if_neg e]
  refine ⟨?_,by omega⟩
  have:2 ^ k*q-2 ^ k=2 ^ k*2*(q / 2):=by
   have e2:q=2*(q / 2)+1:=by omega
   generalize q / 2=r at e2
   subst e2
   rw [Nat.mul_add,Nat.mul_one,Nat.add_sub_cancel,Nat.mul_assoc]
  rw [this];exact Nat.mul_mod_right _ _
section
variable {w₀:World} {h:Heap} {c:Cfg} {W:BW} {x:BU} {K:Value→Heap→Prop}
theorem bu_live_ok {p o:Int} (hp:U64 p) (hx:BU.Ok c x) (H:(buR c W x).P h) (hy:∀q h',liveU c x.m p o=some q→q<x.m.n→p=adr c q→Upd NoB h h'→K (.tuple #[.int .i64 (q:Int),.bool true]) h')
  (hn:∀(q:Int) h',liveU c x.m p o=none→Upd NoB h h'→K (.tuple #[.int .i64 q,.bool false]) h'):CallV Tryz.prog w₀ F.buddy_Buddy_live [.pointer (some ⟨W.b,0,none⟩),.int .u64 p,.int .i64 o] h K:=by
 refine buddy_Buddy_live.call ?_
 try dsimp only
 refine bu_page_ok hp hx.m H (fun q hq hlt hadr=>⟨_,_,rfl,iF rfl ?_⟩) fun hq=>⟨_,_,rfl,iT rfl (hn _ _ (by unfold liveU;rw [hq]) (Upd.refl _ _))⟩
 refine ⟨_,rfl,_,bu_m' H,pm_At_ok (bu_map H) (fun m e1 hm h1 u1=>⟨_,_,_,_,_,_,_,_,_,_,_,_,rfl,?_⟩) fun e1=>absurd ⟨by omega,by omega⟩ e1⟩
 have e1:m=q:=by omega
 subst e1
 have H1:(mapR W.mb x.m W.w).P h1:=(mapR W.mb x.m W.w).st (bu_map H) u1 fun _ _=>id
 obtain ⟨w1,u2,H2,hc⟩:=box_page (P:=x.m.pg m) H1
 have u:=u1.nx u2 fun _ e _=>e
 refine ⟨w1,_,hc 0 (by omega),fun J5 hJ5=>?_⟩
 by_cases e0:x.m.pg m 0=2
 ·refine qT (by simpa using e0) ⟨_,by rw [add_mk];exact hc 1 (by omega),hJ5 _ _ ?_⟩
  by_cases e1:x.m.pg m 1=o
  ·rw [show (x.m.pg m 1 == o)=true by simpa using e1]
   exact hy m _ (by unfold liveU;rw [hq];simp only [];rw [if_pos ⟨e0,e1⟩]) hlt hadr u
  ·rw [show (x.m.pg m 1 == o)=false by simpa using e1]
   exact hn _ _ (by unfold liveU;rw [hq];simp only [];rw [if_neg (fun e=>e1 e.2)]) u
 ·refine qF' (by simpa using e0) (hJ5 _ _ ?_)
  exact hn _ _ (by unfold liveU;rw [hq];simp only [];rw [if_neg (fun e=>e0 e.1)]) u
theorem liveU_out {p o:Int} {q:Nat} (hx:BU.Ok c x) (h:liveU c x.m p o=some q):∃k:Nat,o=k∧k≤x.m.o∧q % 2 ^ k=0∧q<x.m.n∧x.m.pg q 0=2∧x.m.pg q 1=k:=by
 unfold liveU at h
 split at h
 ·cases h
 ·rename_i q' hq
  split at h
  ·rename_i hc
   cases h
   have hlt:q<x.m.n:=by
    unfold pageU at hq
    split at hq
    ·cases hq
    ·cases hq;omega
   obtain ⟨k,h1,h2,h3⟩:=hx.b q hlt hc.1
   exact ⟨k,by rw [←hc.2,h1],h2,h3,hlt,hc.1,h1⟩
  ·cases h
theorem bu_up_ok {p o:Int} {page k0:Nat} (hx:BU.Ok c x) (H:(buR c W x).P h) (hk:k0≤x.m.o) (hal:page % 2 ^ k0=0) (hpn:page<x.m.n) {L2:List Value→Heap→Prop}
  (hL2:∀(y0:Option Addr),∀(y7:Int),∀(y9:Int),∀(hL2:Heap),(CallV Tryz.prog w₀ F.buddy_Buddy_turn [.pointer y0,.int .i64 y7,.int .i64 y9] hL2 fun v24 h24=>∃r24:Bool,v24=(.bool r24)∧(((!r24)=true →
   (∃a27:Addr,(y0:Option Addr)=some a27∧(∃n29p n29n n29c,cellAt h24 (a27.add 5)=some (.slice n29p n29n n29c)∧(∃a31:Addr,n29p=some a31∧0≤y9∧y9<(n29n:Nat)∧(∃n32:Option Addr,cellAt h24 (a31.add (Int.toNat y9*1))=some (.pointer n32)∧((0:Int)≤y9 ∧
   (CallV Tryz.prog w₀ F.buddy_Buddy_address [.pointer y0,(.int .i64 (IntKind.wrap .i64 (((BitVec.ofInt (IntKind.bits .i64) y7 ^^^ BitVec.ofInt (IntKind.bits .i64) (IntKind.wrap .i64 ((1:Int)*2 ^ min (Int.toNat y9) (IntKind.bits .i64)))).toNat:Int))))] h24 fun v38 h38=>∃r38:Int,v38=.int .u64 r38 ∧
   (cellAt h38 (a31.add (Int.toNat y9*1))=some (.pointer n32)∧cellAt h38 (a27.add 5)=some (.slice n29p n29n n29c)∧(CallV Tryz.prog w₀ F.links_List_Remove [.pointer n32,.int .u64 r38] h38 fun v39 h39=>∃r39:Int,v39=.int .i64 r39∧(((r39 != (0:Int))=true→K (.int .i64 r39) h39)∧((r39 != (0:Int))=false→((0:Int)≤y9 ∧
   L2 [.pointer y0,(.int .i64 (IntKind.wrap .i64 (((BitVec.ofInt (IntKind.bits .i64) y7 &&& ~~~ (BitVec.ofInt (IntKind.bits .i64) (IntKind.wrap .i64 ((1:Int)*2 ^ min (Int.toNat y9) (IntKind.bits .i64))))).toNat:Int)))),(.int .i64 (IntKind.wrap .i64 (y9+(1:Int))))] h39)))))))))))) ∧
   ((!r24)=false→(CallV Tryz.prog w₀ F.buddy_Buddy_enter [.pointer y0,.int .i64 y7,.int .i64 y9] h24 fun v52 h52=>v52=(.tuple #[])∧K (.int .i64 (0:Int)) h52))))→L2 [.pointer y0,.int .i64 y7,.int .i64 y9] hL2)
  (hK:∀h',BU.Ok c (upU c x page k0 (x.m.o-k0)).1→(upU c x page k0 (x.m.o-k0)).1.m.o=x.m.o→Stp h h' (buR c W x) (buR c W (upU c x page k0 (x.m.o-k0)).1)→K (.int .i64 (upU c x page k0 (x.m.o-k0)).2) h') :
  L2 [.pointer (some ⟨W.b,0,none⟩),.int .i64 (page:Int),.int .i64 (k0:Int)] h:=by
 have o8:=hx.m.o8
 have n1:=hx.m.n1
 have key:∀(d k page':Nat) (y:BU) (h1:Heap),BU.Ok c y→y.m.o=x.m.o→y.m.n=x.m.n→k+d=x.m.o→page' % 2 ^ k=0→page'<x.m.n→Stp h h1 (buR c W x) (buR c W y)→upU c y page' k d=upU c x page k0 (x.m.o-k0) →
   L2 [.pointer (some ⟨W.b,0,none⟩),.int .i64 (page':Int),.int .i64 (k:Int)] h1:=by
  intro d
  induction d with
  | zero =>
   intro k page' y h1 hy ho hn hd hal hpn S e
   refine hL2 _ _ _ _ (bu_turn_ok hy (by omega) S.p fun h2 S2=>⟨_,rfl,?_⟩)
   have T2:=S.trans S2
   have et:turnU y.m page' k=(y.m,true):=by unfold turnU;rw [if_pos (by omega)]
   rw [upU,if_pos (by rw [et])] at e
   refine iF (by rw [et];rfl) (bu_enter_ok (turn_b hy) (by omega) (by simp;omega) T2.p fun h3 S3=>⟨rfl,?_⟩)
   rw [←e] at hK
   exact hK h3 (enter_b (turn_b hy) _ _) (by simpa using ho) (T2.trans S3)
  | succ d ih =>
   intro k page' y h1 hy ho hn hd hal hpn S e
   refine hL2 _ _ _ _ (bu_turn_ok hy (by omega) S.p fun h2 S2=>⟨_,rfl,?_⟩)
   have T2:=S.trans S2
   cases ht:(turnU y.m page' k).2
   ·rw [upU,if_neg (by rw [ht];simp)] at e
    simp only [] at e
    have hk1:k≤(turnU y.m page' k).1.o:=by simp;omega
    obtain ⟨q,q1,q2⟩:=bu_lk' (k:=k) T2.p hk1
    refine iT rfl ⟨_,rfl,_,_,_,bu_l' T2.p,q,q1,by omega,by simp;omega,_,q2,by omega,?_⟩
    rw [bv_xor (by omega) (by omega) hal]
    have hbl:=bud_lt (o:=x.m.o) (n:=x.m.n) (by omega) hx.m.al hal hpn
    have g:=bu_good H
    refine bu_address_ok g (by omega) (bu_base T2.p) ⟨_,rfl,q2,bu_l' T2.p,?_⟩
    refine links_Remove_ok (adr_u64 g hx.m (by omega)) (bu_list T2.p hk1) fun h3 S3=>⟨_,rfl,?_⟩
    have T3:=T2.trans (bu_liftl T2.p hk1 S3)
    have ok3:=put_b (turn_b hy (i:=page') (r:=k)) k (removeU c ⟨y.st,y.hd k⟩ (adr c (bud page' k))).1
    by_cases hr:(removeU c ⟨y.st,y.hd k⟩ (adr c (bud page' k))).2=0
    ·rw [if_neg (by simpa using hr)] at e
     refine iF (by simpa using hr) ⟨by omega,?_⟩
     rw [bv_clr (by omega) (by omega),show IntKind.wrap .i64 ((k:Int)+1)=((k+1:Nat):Int) by rw [IntKind.wrap_i64];omega]
     obtain ⟨d1,d2⟩:=dwn_al hal
     exact ih (k+1) (dwn page' k) _ h3 ok3 (by simpa using ho) (by simpa using hn) (by omega) d1 (by omega) T3 e
    ·rw [if_pos (by simpa using hr)] at e
     rw [←e] at hK
     exact iT (by simpa using hr) (hK h3 ok3 (by simpa using ho) T3)
   ·rw [upU,if_pos (by rw [ht])] at e
    refine iF rfl (bu_enter_ok (turn_b hy) (by omega) (by simp;omega) T2.p fun h3 S3=>⟨rfl,?_⟩)
    rw [←e] at hK
    exact hK h3 (enter_b (turn_b hy) _ _) (by simpa using ho) (T2.trans S3)
 exact key (x.m.o-k0) k0 page x h hx rfl rfl (by omega) hal hpn (Stp.refl H) rfl
theorem bu_Give_ok {p o:Int} (hp:U64 p) (hx:BU.Ok c x) (H:(buR c W x).P h)
  (hK:∀h',BU.Ok c (giveU c x p o).1→(giveU c x p o).1.m.o=x.m.o→Stp h h' (buR c W x) (buR c W (giveU c x p o).1)→K (.int .i64 (giveU c x p o).2) h') :
  CallV Tryz.prog w₀ F.buddy_Buddy_Give [.pointer (some ⟨W.b,0,none⟩),.int .u64 p,.int .i64 o] h K:=by
 refine buddy_Buddy_Give.call ?_
 try dsimp only
 refine bu_live_ok hp hx H (fun q h1 hl hlt hadr u1=>⟨_,_,rfl,iF rfl fun L2 hL2=>?_⟩) fun q h1 hl u1=>⟨_,_,rfl,iT rfl ?_⟩
 ·obtain ⟨k,rfl,hk,hal,hlt,_,_⟩:=liveU_out hx hl
  have e:giveU c x p k=upU c x q k (x.m.o-k):=by unfold giveU;rw [hl];simp
  rw [e] at hK
  have S:=Stp.quiet H u1
  exact bu_up_ok (p:=p) (o:=k) hx S.p hk hal hlt hL2 fun h2 ok2 o2 S2=>hK h2 ok2 o2 (S.trans S2)
 ·have e:giveU c x p o=(x,1):=by unfold giveU;rw [hl]
  rw [e] at hK
  exact hK h1 hx rfl (Stp.quiet H u1)
end
end Go.Proofs.YteemmpkhdllapaaGreatDoor
namespace Go.Proofs.YteemmpkhdllapaaGreatDoor
open Go.V Classical
theorem shln {n k:Nat} (hk:k≤8) (hn:n≤1024):IntKind.wrap .i64 ((n:Int)*2 ^ min (Int.toNat (k:Int)) (IntKind.bits .i64))=((n*2 ^ k:Nat):Int):=by
 have:k=0∨k=1∨k=2∨k=3∨k=4∨k=5∨k=6∨k=7∨k=8:=by omega
 rcases this with rfl | rfl | rfl | rfl | rfl | rfl | rfl | rfl | rfl <;>
 ·rw [IntKind.wrap_i64]
  simp [IntKind.bits]
  omega
section
variable {w₀:World} {h:Heap} {c:Cfg} {W:BW} {x:BU} {K:Value→Heap→Prop}
theorem bu_nl (hx:BU.Ok c x) (H:(buR c W x).P h):x.st.n*2 ^ x.m.o≤1024∧x.st.n≤1024:=by
 have g:=bu_good H
 have nl:=(bu_sp H).nl
 have h1:=g.pg
 have h2:c.order.toNat=x.m.o:=by have:=hx.o;omega
 rw [h2] at h1
 have h3:(x.st.n:Int)*((2 ^ x.m.o:Nat):Int)≤c.limit*((2 ^ x.m.o:Nat):Int):=Int.mul_le_mul_of_nonneg_right nl (Int.natCast_nonneg _)
 have h4:((x.st.n*2 ^ x.m.o:Nat):Int)≤1024:=by rw [Int.natCast_mul];exact Int.le_trans h3 h1
 have h5:x.st.n*1≤x.st.n*2 ^ x.m.o:=Nat.mul_le_mul_left _ (Nat.one_le_two_pow)
 have h6:x.st.n*2 ^ x.m.o≤1024:=Int.ofNat_le.1 h4
 exact ⟨h6,by omega⟩
theorem topU_lt (hx:BU.Ok c x) {q:Nat} (h:topU x=some q):q<x.m.n∧q<1024∧q=x.m.n-2 ^ x.m.o∧2 ^ x.m.o≤x.m.n:=by
 unfold topU at h
 split at h
 ·rename_i hc
  cases h
  have h1:1*2 ^ x.m.o≤x.st.n*2 ^ x.m.o:=Nat.mul_le_mul_right _ hc.1
  have h2:=Nat.two_pow_pos x.m.o
  have h3:=hx.m.n1
  omega
 ·cases h
theorem bu_top_ok (hx:BU.Ok c x) (H:(buR c W x).P h) (hy:∀q,topU x=some q→K (.tuple #[.int .i64 (q:Int),.bool true]) h)
  (hn:∀z:Int,topU x=none→K (.tuple #[.int .i64 z,.bool false]) h):CallV Tryz.prog w₀ F.buddy_Buddy_top [.pointer (some ⟨W.b,0,none⟩)] h K:=by
 refine buddy_Buddy_top.call ?_
 try dsimp only
 have o8:=hx.m.o8
 obtain ⟨l1,l2⟩:=bu_nl hx H
 refine ⟨_,rfl,_,bu_s' H,_,rfl,_,bu_o' hx.o H,?_⟩
 refine mem_Regions_ok (bu_sp H) ⟨_,rfl,bu_o' hx.o H,by omega,_,rfl,_,bu_o' hx.o H,by omega,fun J2 hJ2=>?_⟩
 rw [shln o8 l2]
 rw [shln o8 l2,shl1 o8] at hJ2
 by_cases h0:0<x.st.n
 ·have h1:1*2 ^ x.m.o≤x.st.n*2 ^ x.m.o:=Nat.mul_le_mul_right _ h0
  have h2:=Nat.two_pow_pos x.m.o
  refine qT (decide_eq_true (by omega)) ⟨_,rfl,_,bu_m' H,?_⟩
  refine pm_Pages_ok (bu_map H) ⟨_,rfl,bu_o' hx.o H,hJ2 _ _ ?_⟩
  have e:IntKind.wrap .i64 (((x.st.n*2 ^ x.m.o:Nat):Int)-((2 ^ x.m.o:Nat):Int))=((x.st.n*2 ^ x.m.o-2 ^ x.m.o:Nat):Int):=by rw [IntKind.wrap_i64];omega
  by_cases h3:x.m.n=x.st.n*2 ^ x.m.o
  ·rw [show ((x.m.n:Int) == ((x.st.n*2 ^ x.m.o:Nat):Int))=true by rw [←h3];simp,e]
   exact hy _ (by unfold topU;rw [if_pos ⟨h0,h3⟩])
  ·rw [show ((x.m.n:Int) == ((x.st.n*2 ^ x.m.o:Nat):Int))=false from beq_false_of_ne (by omega)]
   exact hn _ (by unfold topU;rw [if_neg fun hc=>h3 hc.2])
 ·have h0:x.st.n=0:=by omega
  refine qF' (decide_eq_false (by rw [h0];simp)) (hJ2 _ _ ?_)
  exact hn _ (by unfold topU;rw [if_neg fun hc=>by omega])
theorem bu_Feed_ok (hx:BU.Ok c x) (H:(buR c W x).P h)
  (hK:∀h',BU.Ok c (feedU c x).1→(feedU c x).1.m.o=x.m.o→Stp h h' (buR c W x) (buR c W (feedU c x).1)→K (.int .i64 (feedU c x).2) h') :
  CallV Tryz.prog w₀ F.buddy_Buddy_Feed [.pointer (some ⟨W.b,0,none⟩)] h K:=by
 refine buddy_Buddy_Feed.call ?_
 try dsimp only
 refine bu_top_ok hx H (fun q hq=>⟨_,_,rfl,iF rfl ?_⟩) fun z hz=>⟨_,_,rfl,iT rfl ?_⟩
 ·obtain ⟨q1,q2,q3,q4⟩:=topU_lt hx hq
  have g:=bu_good H
  refine ⟨_,rfl,_,bu_o' hx.o H,bu_address_ok g (by omega) (bu_base H) ⟨_,rfl,bu_o' hx.o H,?_⟩⟩
  refine bu_Give_ok (adr_u64 g hx.m (by omega)) hx H fun h1 ok1 o1 S1=>⟨_,rfl,?_⟩
  have e:feedU c x=if (giveU c x (adr c q) x.m.o).2=1 then ((giveU c x (adr c q) x.m.o).1,9) else giveU c x (adr c q) x.m.o:=by unfold feedU;rw [hq]
  rw [e] at hK
  by_cases h1:(giveU c x (adr c q) x.m.o).2=1
  ·rw [if_pos h1] at hK
   exact iT (by simpa using h1) (hK _ ok1 o1 S1)
  ·rw [if_neg h1] at hK
   exact iF (by simpa using h1) (hK _ ok1 o1 S1)
 ·have e:feedU c x=(x,9):=by unfold feedU;rw [hz]
  rw [e] at hK
  exact hK h hx rfl (Stp.refl H)
theorem bu_Pull_ok (hx:BU.Ok c x) (H:(buR c W x).P h)
  (hK:∀h',BU.Ok c (pullU c x).1→(pullU c x).1.m.o=x.m.o→Stp h h' (buR c W x) (buR c W (pullU c x).1)→K (.int .i64 (pullU c x).2) h') :
  CallV Tryz.prog w₀ F.buddy_Buddy_Pull [.pointer (some ⟨W.b,0,none⟩)] h K:=by
 refine buddy_Buddy_Pull.call ?_
 try dsimp only
 refine bu_top_ok hx H (fun q hq=>⟨_,_,rfl,iF rfl ?_⟩) fun z hz=>⟨_,_,rfl,iT rfl ?_⟩
 ·obtain ⟨q1,q2,q3,q4⟩:=topU_lt hx hq
  have g:=bu_good H
  refine ⟨_,rfl,_,bu_m' H,pm_At_ok (bu_map H) (fun m e1 hm h1 u1=>⟨_,_,_,_,_,_,_,_,_,_,_,_,rfl,?_⟩) fun e1=>absurd ⟨by omega,by omega⟩ e1⟩
  have e1:m=q:=by omega
  subst e1
  have S1:=Stp.quiet H u1
  obtain ⟨w1,u2,H2,hc⟩:=box_page (P:=x.m.pg m) (bu_map S1.p)
  have S2:=S1.trans (Stp.quiet S1.p u2)
  refine ⟨w1,_,hc 0 (by omega),fun J5 hJ5=>?_⟩
  have bad:(x.m.pg m 0≠0∨x.m.pg m 1≠x.m.o)→∀h2,Stp h h2 (buR c W x) (buR c W x)→K (.int .i64 9) h2:=fun hb h2 S=>by
   have e:pullU c x=(x,9):=by unfold pullU;rw [hq];simp only [];rw [if_pos hb]
   rw [e] at hK
   exact hK h2 hx rfl S
  by_cases e0:x.m.pg m 0=0
  ·refine pF (by simpa using e0) ⟨_,by rw [add_mk];exact hc 1 (by omega),_,rfl,_,bu_o' hx.o S2.p,hJ5 _ _ ?_⟩
   by_cases e1:x.m.pg m 1=x.m.o
   ·refine iF (by simpa using e1) ⟨_,rfl,_,_,_,bu_l' S2.p,_,rfl,_,bu_o' hx.o S2.p,?_⟩
    obtain ⟨a,a1,a2⟩:=bu_lk' S2.p (Nat.le_refl x.m.o)
    refine ⟨a,a1,by omega,by omega,_,a2,bu_address_ok g (by omega) (bu_base S2.p) ⟨_,rfl,a2,bu_o' hx.o S2.p,bu_l' S2.p,?_⟩⟩
    refine links_Remove_ok (adr_u64 g hx.m (by omega)) (bu_list S2.p (Nat.le_refl _)) fun h3 S3=>⟨_,rfl,?_⟩
    have T3:=S2.trans (bu_liftl S2.p (Nat.le_refl _) S3)
    have ok3:=put_b hx x.m.o (removeU c ⟨x.st,x.hd x.m.o⟩ (adr c m)).1
    have e:pullU c x=if (removeU c ⟨x.st,x.hd x.m.o⟩ (adr c m)).2≠0 then (x.put x.m.o (removeU c ⟨x.st,x.hd x.m.o⟩ (adr c m)).1,(removeU c ⟨x.st,x.hd x.m.o⟩ (adr c m)).2)
      else ({ x.put x.m.o (removeU c ⟨x.st,x.hd x.m.o⟩ (adr c m)).1 with m:=runU (x.put x.m.o (removeU c ⟨x.st,x.hd x.m.o⟩ (adr c m)).1).m m x.m.o 2 },0):=by
     unfold pullU;rw [hq];simp only [];rw [if_neg (by simp [e0,e1])]
    rw [e] at hK
    by_cases hr:(removeU c ⟨x.st,x.hd x.m.o⟩ (adr c m)).2=0
    ·rw [if_neg (by simpa using hr)] at hK
     refine iF (by simpa using hr) ⟨_,rfl,_,bu_m' T3.p,_,rfl,_,bu_o' ok3.o T3.p,?_⟩
     refine run_ok (m:=(x.put x.m.o (removeU c ⟨x.st,x.hd x.m.o⟩ (adr c m)).1).m) hx.m (by omega) (.inr rfl) (bu_map T3.p) fun _ h4 S4=>⟨_,rfl,hK h4 (run_b ok3 (.inr rfl)) (by simp) (T3.trans (bu_liftm T3.p (by simp) S4))⟩
    ·rw [if_pos (by simpa using hr)] at hK
     exact iT (by simpa using hr) (hK h3 ok3 rfl T3)
   ·exact iT (by simpa using e1) (bad (.inr e1) _ S2)
  ·exact pT (by simpa using e0) (hJ5 _ _ (iT rfl (bad (.inl e0) _ S2)))
 ·have e:pullU c x=(x,9):=by unfold pullU;rw [hz]
  rw [e] at hK
  exact hK h hx rfl (Stp.refl H)
end
end Go.Proofs.YteemmpkhdllapaaGreatDoor
namespace Go.Proofs.YteemmpkhdllapaaGreatDoor
open Go.V Classical
def headU (hd:Nat→Int):Nat→Value:=fun i=>.int .u64 (hd i)
theorem cell3 (h:Heap) (v0 v1 v2:Value) (T:TypeId):cellAt (h.push (.cells #[v0,v1,v2] T)) ⟨h.size,0,none⟩=some v0∧cellAt (h.push (.cells #[v0,v1,v2] T)) ((⟨h.size,0,none⟩ : Addr).add 1)=some v1 ∧
  cellAt (h.push (.cells #[v0,v1,v2] T)) ((⟨h.size,0,none⟩ : Addr).add 2)=some v2:=by
 have B:Blk (h.push (.cells #[v0,v1,v2] T)) h.size 3 (fun j=>(#[v0,v1,v2]:Array Value).getD j undef):=(New.box h #[v0,v1,v2] T).p
 exact ⟨B.cell (i:=0) (by omega),by rw [add_mk];exact B.cell (i:=1) (by omega),by rw [add_mk];exact B.cell (i:=2) (by omega)⟩
abbrev bopR (c:Cfg) (s mb:Nat) (b:Nat) (lp:Option Addr) (n lc:Nat) (lb:Nat→Nat) (hd:Nat→Int):Res :=
 andR (blkR b 6 (bdG c s mb lp n lc)) (andR (slR lp n lc 1 (lptr lb)) (allR n fun k=>lsR s (lb k) (hd k)))
section
variable {w₀:World} {h:Heap} {c:Cfg} {W:BW} {x:BU} {K:Value→Heap→Prop} {s mb:Nat}
theorem bu_Open_ok {hd:Nat→Int} {n cap:Nat} {p:Option Addr} (hn:n≤1048576) (hoc:0≤c.order∧c.order≤8) (hu:∀i,i<n→U64 (hd i)) (R:Row h p n (headU hd))
  (hb:(n:Int)≠c.order+1→∀h',Upd NoB h h'→K (.tuple #[.pointer none,.int .i64 7]) h')
  (hK:(n:Int)=c.order+1→∀h' b lp lc lb,New h h' (bopR c s mb b lp n lc lb hd)→K (.tuple #[.pointer (some ⟨b,0,none⟩),.int .i64 0]) h') :
  CallV Tryz.prog w₀ F.buddy_Open [.agg #[.int .u64 c.base,.int .i64 c.limit,.int .i64 c.order],.pointer (some ⟨s,0,none⟩),.pointer (some ⟨mb,0,none⟩),.slice p n cap] h K:=by
 refine buddy_Open.call ?_
 try dsimp only
 obtain ⟨k0,k1,k2⟩:=cell3 h (.int .u64 c.base) (.int .i64 c.limit) (.int .i64 c.order) T.T_api_Config
 have u1:Upd NoB h (h.push (.cells #[.int .u64 c.base,.int .i64 c.limit,.int .i64 c.order] T.T_api_Config)):=push_upd _ _ _
 generalize hh1:Array.push h (.cells #[.int .u64 c.base,.int .i64 c.limit,.int .i64 c.order] T.T_api_Config)=h1 at k0 k1 k2 u1 ⊢
 refine ⟨_,k2,?_⟩
 rw [show IntKind.wrap .i64 (c.order+1)=c.order+1 by rw [IntKind.wrap_i64];omega]
 by_cases e:(n:Int)=c.order+1
 ·refine iF (by simpa using e) ⟨_,k0,_,k1,_,k2,?_⟩
  have hK:=hK e
  have N0:=New.box h1 #[(.int .u64 c.base),(.int .i64 c.limit),(.int .i64 c.order),(.pointer (some ⟨s,0,none⟩)),(.pointer (some ⟨mb,0,none⟩)),(.slice none 0 0)] T.T_buddy_Buddy
  generalize hh2:Array.push h1 (.cells #[(.int .u64 c.base),(.int .i64 c.limit),(.int .i64 c.order),(.pointer (some ⟨s,0,none⟩)),(.pointer (some ⟨mb,0,none⟩)),(.slice none 0 0)] T.T_buddy_Buddy)=h2 at N0 ⊢
  intro J3 hJ3 L4 hL4
  have I0:Hold h h2 [blkR h1.size 6 (bdG c s mb none 0 0),slR none 0 0 1 (lptr fun _=>0),allR 0 fun k=>lsR s 0 (hd k)]:=by
   have A:=New.after u1 N0
   have A1:New h h2 (blkR h1.size 6 (bdG c s mb none 0 0)):=A.conv (fun P=>Blk.congr P fun i hi=>by
    have hi:i<6:=hi
    have:i=0∨i=1∨i=2∨i=3∨i=4∨i=5:=by omega
    rcases this with rfl | rfl | rfl | rfl | rfl | rfl<;>rfl) fun _ e=>e
   have e1:New h h (allR 0 fun k=>lsR s 0 (hd k)):=⟨Upd.refl _ _,allR_zero _,fun b ⟨i,hi,_⟩=>absurd hi (by omega)⟩
   have e2:New h h (slR none 0 0 1 (lptr fun _=>0)):=⟨Upd.refl _ _,sl_nil _ _ _,fun b e=>absurd e (sl_nil_fp b)⟩
   exact (((Hold.nil h).new e1).new e2).new A1
  have key:∀(d i:Nat) (lp:Option Addr) (lc:Nat) (lb:Nat→Nat) (hx:Heap),i+d=n→Hold h hx [blkR h1.size 6 (bdG c s mb lp i lc),slR lp i lc 1 (lptr lb),allR i fun k=>lsR s (lb k) (hd k)] →
    L4 [.pointer (some ⟨s,0,none⟩),.pointer (some ⟨h1.size,0,none⟩),.slice p n cap,.int .i64 ((n:Nat):Int),.int .i64 (i:Int)] hx:=by
   intro d
   induction d with
   | zero =>
    intro i lp lc lb hx hi I
    have hi:i=n:=by omega
    subst hi
    refine hL4 _ _ _ _ _ _ _ _ (iF (decide_eq_false (by omega)) (hJ3 _ _ ?_))
    exact hK hx h1.size lp lc lb I.swap.swap2.join.swap.join.toNew
   | succ d ih =>
    intro i lp lc lb hx hi I
    obtain ⟨rb,ro,rfl,rc⟩:=row_at R (i:=i) (by omega)
    have rc':cellAt hx ((⟨rb,ro,none⟩ : Addr).add (Int.toNat (i:Int)*1))=some (.int .u64 (hd i)):=by
     rw [add_mk,Int.toNat_natCast,Nat.mul_one]
     exact cellAt_upd rc I.u fun e=>e
    have c5:cellAt hx ((⟨h1.size,0,none⟩ : Addr).add 5)=some (.slice lp i lc):=by
     have B:Blk hx h1.size 6 (bdG c s mb lp i lc):=I.at 0
     rw [add_mk];exact B.cell (i:=5) (by omega)
    refine hL4 _ _ _ _ _ _ _ _ (iT (decide_eq_true (by omega)) ⟨_,rfl,by omega,by omega,_,rc',_,rfl,_,_,_,c5,?_⟩)
    refine links_New_ok (s:=s) (hu i (by omega)) fun h37 N=>⟨_,rfl,?_⟩
    have I2:=I.new N
    have c5b:cellAt h37 ((⟨h1.size,0,none⟩ : Addr).add 5)=some (.slice lp i lc):=by
     have B:Blk h37 h1.size 6 (bdG c s mb lp i lc):=I2.at 1
     rw [add_mk];exact B.cell (i:=5) (by omega)
    have c5c:cellAt (h37.push (.cells #[.pointer (some ⟨hx.size,0,none⟩)] T.T_p_links_List)) ((⟨h1.size,0,none⟩ : Addr).add 5)=some (.slice lp i lc):=cellAt_upd c5b (push_upd NoB _ _) fun e=>e
    refine ⟨c5b,c5c,?_⟩
    obtain ⟨os,q1,q2⟩:=sl_app1 (zs:=[(.pointer none)]) (v:=.pointer (some ⟨hx.size,0,none⟩)) (b:=8) (e:=T.T_p_links_List) (T:=T.T_p_links_List) (I2.at 2) rfl rfl (by omega)
    refine ⟨os,_,q1,fun p' c' h39 hres=>?_⟩
    have I3:=I2.step 2 (q2 p' c' h39 hres)
    have I3:Hold h h39 [lsR s hx.size (hd i),blkR h1.size 6 (bdG c s mb lp i lc),slR p' (i+1) c' 1 (fun j=>if j=i then .pointer (some ⟨hx.size,0,none⟩) else lptr lb j),allR i fun k=>lsR s (lb k) (hd k)]:=I3
    have B:Blk h39 h1.size 6 (bdG c s mb lp i lc):=I3.at 1
    refine ⟨_,rfl,by rw [add_mk];exact B.wr (i:=5) (by omega),?_⟩
    have S4:=Stp.set B 5 (.slice p' (i+1) c') (g:=bdG c s mb p' (i+1) c') fun j hj=>by
     have:j=0∨j=1∨j=2∨j=3∨j=4∨j=5:=by omega
     rcases this with rfl | rfl | rfl | rfl | rfl | rfl<;>rfl
    have I4:=I3.step 1 S4
    rw [add_mk,Nat.zero_add]
    have I5:Hold h (setC h39 ⟨h1.size,5,none⟩ (.slice p' (i+1) c')) [lsR s hx.size (hd i),blkR h1.size 6 (bdG c s mb p' (i+1) c'),slR p' (i+1) c' 1 (fun j=>if j=i then .pointer (some ⟨hx.size,0,none⟩) else lptr lb j),allR i fun k=>lsR s (lb k) (hd k)]:=I4
    have e0:lsR s hx.size (hd i)=(fun k=>lsR s (fset lb i hx.size k) (hd k)) i:=by simp only [fset_same]
    have e1:∀k,k<i→lsR s (lb k) (hd k)=lsR s (fset lb i hx.size k) (hd k):=fun k hk=>by rw [fset_ne _ _ (by omega)]
    have I6:Hold h (setC h39 ⟨h1.size,5,none⟩ (.slice p' (i+1) c')) [lsR s hx.size (hd i),blkR h1.size 6 (bdG c s mb p' (i+1) c'),slR p' (i+1) c' 1 (fun j=>if j=i then .pointer (some ⟨hx.size,0,none⟩) else lptr lb j),allR i fun k=>lsR s (fset lb i hx.size k) (hd k)]:=(I5.as 3 (R':=allR i fun k=>lsR s (fset lb i hx.size k) (hd k)) (fun P=>allR_congr e1 P) (fun b e=>allR_fp e1 b e))
    have I7:=I6.as 2 (R:=slR p' (i+1) c' 1 (fun j=>if j=i then .pointer (some ⟨hx.size,0,none⟩) else lptr lb j)) (R':=slR p' (i+1) c' 1 (lptr (fset lb i hx.size))) (fun P=>sl_congr P fun j hj=>by unfold lptr fset;split<;>rfl) (fun _ e=>e)
    rw [e0] at I7
    have I8:Hold h (setC h39 ⟨h1.size,5,none⟩ (.slice p' (i+1) c')) [(fun k=>lsR s (fset lb i hx.size k) (hd k)) i,blkR h1.size 6 (bdG c s mb p' (i+1) c'),slR p' (i+1) c' 1 (lptr (fset lb i hx.size)),allR i fun k=>lsR s (fset lb i hx.size k) (hd k)]:=I7
    have I9:=Hold.snoc (k:=i) (R:=fun k=>lsR s (fset lb i hx.size k) (hd k)) (I8.perm (rs':=[(fun k=>lsR s (fset lb i hx.size k) (hd k)) i,allR i (fun k=>lsR s (fset lb i hx.size k) (hd k)),blkR h1.size 6 (bdG c s mb p' (i+1) c'),slR p' (i+1) c' 1 (lptr (fset lb i hx.size))]) (.cons _ ((List.Perm.swap _ _ _).trans (.cons _ (.swap _ _ _)))))
    have I10:=I9.perm (rs':=[blkR h1.size 6 (bdG c s mb p' (i+1) c'),slR p' (i+1) c' 1 (lptr (fset lb i hx.size)),allR (i+1) fun k=>lsR s (fset lb i hx.size k) (hd k)])
     ((List.Perm.cons _ (.swap _ _ _)).trans (.swap _ _ _))
    rw [show IntKind.wrap .i64 ((i:Int)+1)=((i+1:Nat):Int) by rw [IntKind.wrap_i64];omega]
    exact ih (i+1) p' c' _ _ (by omega) I10
  exact key n 0 none 0 (fun _=>0) h2 (by omega) I0
 ·exact iT (by simpa using e) (hb e _ u1)
theorem bu_New_ok (hoc:0≤c.order∧c.order≤8)
  (hK:∀h' b lp lc lb,New h h' (bopR c s mb b lp (c.order.toNat+1) lc lb fun _=>0)→K (.pointer (some ⟨b,0,none⟩)) h') :
  CallV Tryz.prog w₀ F.buddy_New [.agg #[.int .u64 c.base,.int .i64 c.limit,.int .i64 c.order],.pointer (some ⟨s,0,none⟩),.pointer (some ⟨mb,0,none⟩)] h K:=by
 refine buddy_New.call ?_
 try dsimp only
 obtain ⟨k0,k1,k2⟩:=cell3 h (.int .u64 c.base) (.int .i64 c.limit) (.int .i64 c.order) T.T_api_Config
 have u1:Upd NoB h (h.push (.cells #[.int .u64 c.base,.int .i64 c.limit,.int .i64 c.order] T.T_api_Config)):=push_upd _ _ _
 generalize hh1:Array.push h (.cells #[.int .u64 c.base,.int .i64 c.limit,.int .i64 c.order] T.T_api_Config)=h1 at k0 k1 k2 u1 ⊢
 refine ⟨_,k0,_,k1,_,k2,_,k2,?_⟩
 have e1:IntKind.wrap .i64 (c.order+1)=((c.order.toNat+1:Nat):Int):=by rw [IntKind.wrap_i64];omega
 rw [e1,if_pos (by omega),Int.toNat_natCast]
 have N:=sl_make h1 [(.int .u64 (0:Int))] T.T_uint64 (c.order.toNat+1) (c.order.toNat+1) (Nat.le_refl _)
 have u2:Upd NoB h1 (h1.push (.cells (List.toArray (zrow [(.int .u64 (0:Int))] (c.order.toNat+1))) T.T_uint64)):=N.u
 generalize Array.push h1 (.cells (List.toArray (zrow [(.int .u64 (0:Int))] (c.order.toNat+1))) T.T_uint64)=h2 at N u2 ⊢
 refine ⟨by omega,Int.le_refl _,by omega,cellAt_upd k0 u2 (fun e=>e),cellAt_upd k1 u2 (fun e=>e),cellAt_upd k2 u2 (fun e=>e),?_⟩
 have R:Row h2 (some ⟨h1.size,0,none⟩) (c.order.toNat+1) (headU fun _=>0):=by
  have:=sl_row N.p
  refine (by simpa using this:Row h2 (some ⟨h1.size,0,none⟩) (c.order.toNat+1) _).congr fun i hi=>?_
  simp [headU,Nat.mod_one]
 refine bu_Open_ok (by omega) hoc (fun _ _=>by simp [U64]) R (fun e=>absurd (by omega) e) fun _ h3 b lp lc lb N3=>⟨_,_,rfl,hK h3 b lp lc lb (N3.after (u1.nx u2 fun _ e _=>e))⟩
end
end Go.Proofs.YteemmpkhdllapaaGreatDoor
namespace Go.Proofs.YteemmpkhdllapaaGreatDoor
open Go.V Classical
def freeL (c:Cfg) (x:BU) (k:Nat):List Int:=allL c ⟨x.st,x.hd k⟩
section
variable {w₀:World} {h:Heap} {c:Cfg} {W:BW} {x:BU} {K:Value→Heap→Prop} {s mb b:Nat} {lp:Option Addr} {n lc:Nat} {lb:Nat→Nat} {hd:Nat→Int}
set_option maxRecDepth 100000 in
theorem bu_Free_ok {o:Int} (hx:BU.Ok c x) (H:(buR c W x).P h) (hn:(o<0∨o>x.m.o)→K (.slice none 0 0) h)
  (hK:∀(k:Nat) (h':Heap) (p:Option Addr) (cap:Nat),o=k→k≤x.m.o→Stp h h' (buR c W x) (andR (buR c W x) (slR p (freeL c x k).length cap 1 (uL (freeL c x k))))→K (.slice p (freeL c x k).length cap) h') :
  CallV Tryz.prog w₀ F.buddy_Buddy_Free [.pointer (some ⟨W.b,0,none⟩),.int .i64 o] h K:=by
 refine buddy_Buddy_Free.call ?_
 try dsimp only
 intro J1 hJ1
 by_cases h0:o<0
 ·exact pT (decide_eq_true h0) (hJ1 _ _ (iT rfl (hn (.inl h0))))
 refine pF (decide_eq_false h0) ⟨_,rfl,_,bu_o' hx.o H,hJ1 _ _ ?_⟩
 by_cases h1:o>x.m.o
 ·exact iT (decide_eq_true h1) (hn (.inr h1))
 obtain ⟨k,rfl⟩ : ∃k:Nat,o=k:=⟨o.toNat,by omega⟩
 have hk:k≤x.m.o:=by omega
 have hK:=fun h' p cap=>hK k h' p cap rfl hk
 refine iF (decide_eq_false h1) ?_
 have N1:=New.box h #[.slice none 0 0] T.T_sl_uint64
 generalize hh1:Array.push h (.cells #[.slice none 0 0] T.T_sl_uint64)=h1 at N1 ⊢
 have N1':New h h1 (outR h.size ⟨[],none,0⟩):=by
  refine ⟨N1.u,⟨Blk.congr N1.p fun i hi=>?_,sl_nil 1 _ h1,fun b e e'=>sl_nil_fp b e'⟩,fun b e=>e.elim (N1.g b) fun e=>absurd e (sl_nil_fp b)⟩
  have hi:i<1:=hi
  have:i=0:=by omega
  subst this;rfl
 have S1:=Stp.new H N1'
 have H1:=(buR c W x).st H N1.u fun _ _=>id
 obtain ⟨q,q1,q2⟩:=bu_lk' H1 hk
 refine ⟨_,rfl,_,_,_,bu_l' H1,q,q1,by omega,by omega,_,q2,?_⟩
 refine links_List_All.call ?_
 try dsimp only
 have N2:=New.box h1 #[.pointer (some ⟨W.lb k,0,none⟩)] T.T_p_links_List
 generalize hh2:Array.push h1 (.cells #[.pointer (some ⟨W.lb k,0,none⟩)] T.T_p_links_List)=h2 at N2 ⊢
 refine ⟨_,rfl,fun rec hrec hround=>CallG_func (by kernel_rfl) (CallV.toR ?_)⟩
 have S2:=S1.trans (Stp.quiet S1.p N2.u)
 let M:OutS→Res:=fun o=>andR (buR c W x) (outR h.size o)
 have hr:=rec_noC hrec .ready none
 have Y:Yd Tryz.prog w₀ (.func (.yield (h2.size+1)) #[] #[]) (fun o:OutS=>andR (objR (h2.size+1) (rec .ready none)) (M o)) noR (fun k _ _ o=>o.xs.length+k≤1073741824) (gdU c fun _:OutS=>⟨x.st,x.hd k⟩) (fwU c fun _:OutS=>⟨x.st,x.hd k⟩) (fun o e o'=>o'.xs=o.xs++[e]) (fun _ _=>true):=by
  refine ⟨?_,rfl,fun k e _ o o' h1 _ _ _ h2=>by rw [h2];simp;omega⟩
  intro k e _ o hB hk _ he HB
  obtain ⟨r1,r2,r3⟩:=round_out HB.1 hr (rec_noC hrec .busy none)
  refine hround e hB _ rfl r1 ⟨r1,o.p,o.xs.length,o.cap,?_⟩
  obtain ⟨a1,os,xs,a2,a3⟩:=out_app (e:=e) r2.2.1 (by omega)
  refine ⟨a1,os,xs,a2,fun p' c' h3 hres=>?_⟩
  obtain ⟨a4,a5⟩:=a3 p' c' h3 hres
  obtain ⟨r4,r5⟩:=r3 _ (M ⟨o.xs++[e],p',c'⟩) (a5.right r2)
  exact ⟨a4,r4,rfl,⟨o.xs++[e],p',c'⟩,rfl,r5 _ hr⟩
 have Hin:=range_in S2.p hr
 have W2:(blkR h1.size 1 fun j=>(#[.pointer (some ⟨W.lb k,0,none⟩)]:Array Value).getD j undef).P h2:=N2.p
 have Hw:(andR (blkR h1.size 1 fun j=>(#[.pointer (some ⟨W.lb k,0,none⟩)]:Array Value).getD j undef) (andR (objR (h2.size+1) (rec .ready none)) (M ⟨[],none,0⟩))).P ((h2.push (.deferred (some []))).push (rec .ready none)):=by
  have u:Upd (fun _=>False) h2 ((h2.push (.deferred (some []))).push (rec .ready none)):=(push_upd _ h2 _ (noC_fz (o:=.deferred (some [])) trivial)).nx (push_upd _ _ _ (noC_fz hr)) fun _ e _=>e
  refine ⟨(blkR h1.size 1 _).st W2 u fun _ _=>id,Hin,fun b e e'=>?_⟩
  have e:b=h1.size:=e
  have hs2:h2.size=h1.size+1:=by rw [←hh2];simp
  rcases e' with e' | e'
  ·have e':b=h2.size+1:=e';omega
  ·have:=(M ⟨[],none,0⟩).lt S1.p b e'
   omega
 have hroom:roomU c x.st≤4194304:=by
  have:=((bu_sp H).good.len (bu_sp H).nl).1
  exact Nat.le_trans (Nat.div_le_self _ _) this
 refine links_All_1_ok (V:=fun _:OutS=>(⟨x.st,x.hd k⟩ : LS)) Y (fun o h' P=>⟨(bu_list P.2.1.1 hk).1,W.Z,bu_sp P.2.1.1⟩) (σ:=⟨[],none,0⟩) (by show 0+roomU c x.st≤_;omega) (by rfl) (andNo Hw) fun o h3 hw S3=>?_
 have hxs:o.xs=freeL c x k:=by
  have:=walkR_const (x:=⟨x.st,x.hd k⟩) (fun o:OutS=>o.xs) (fun _=>rfl) (fun _ _=>rfl) (fun _ _ _ h=>h) _ _ _ _ _ hw
  simpa [allL,freeL] using this
 obtain ⟨o1,o2⟩:=range_out S2.p hr hr S3
 have S4:=o2 (rec .exhausted none) (rec_noC hrec _ _)
 obtain ⟨t1,t2⟩:=take_out S4
 refine ⟨.ready,none,o1,by simp,o.p,o.xs.length,o.cap,S4.p.2.1.2.1.1.cell (i:=0) (by omega),t1,?_⟩
 have S5:=S2.trans t2
 obtain ⟨xs,p,cap⟩:=o
 have hxs:xs=freeL c x k:=hxs
 subst hxs
 exact hK _ p cap (S5.conv (fun P=>⟨P.1,P.2.1.2.1,fun b e e'=>P.2.2 b e (.inr e')⟩) fun b e=>e.imp id .inr)
end
end Go.Proofs.YteemmpkhdllapaaGreatDoor
