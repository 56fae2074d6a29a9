/- Texts of this proof, some in one. No condition. -/
import Derived.Test.YteemmpkhdllapaaGreatDoorY11
import Derived.Test.YteemmpkhdllapaaGreatDoorY7
import Derived.Test.YteemmpkhdllapaaGreatDoorY2
import Derived.Lib.SmallJoins
set_option linter.unusedSimpArgs false
set_option linter.unusedVariables false
namespace Go.Proofs.YteemmpkhdllapaaGreatDoor
open Go.V Classical
theorem box3 (h:Heap) (v0 v1 v2:Value) (T:TypeId):New h (h.push (.cells #[v0,v1,v2] T)) (blkR h.size 3 (f3 v0 v1 v2)) :=
 (New.box h #[v0,v1,v2] T).conv (fun P=>Blk.congr P fun i hi=>by
  have hi:i<3:=hi
  have:i=0∨i=1∨i=2:=by omega
  rcases this with rfl | rfl | rfl<;>rfl) fun _ e=>e
theorem f3_cells {h:Heap} {b:Nat} {v0 v1 v2:Value} (B:(blkR b 3 (f3 v0 v1 v2)).P h):cellAt h ⟨b,0,none⟩=some v0∧cellAt h ((⟨b,0,none⟩ : Addr).add 1)=some v1∧cellAt h ((⟨b,0,none⟩ : Addr).add 2)=some v2 :=
 ⟨B.cell (i:=0) (by omega),by rw [add_mk];exact B.cell (i:=1) (by omega),by rw [add_mk];exact B.cell (i:=2) (by omega)⟩
structure WW where
 wb:Nat
 W:BW
 fp:Option Addr
 fn:Nat
 fc:Nat
 vp:Option Addr
 vc:Nat
def BU0 (c:Cfg):BU:=⟨⟨0,fun _=>0⟩,fun _=>0,mNew c.order⟩
theorem clamp_o {c:Cfg} (g:c.Good):clampO c.order=c.order.toNat:=by
 have:=g.o0;have:=g.o8
 unfold clampO
 rw [if_neg (by omega),if_neg (by omega)]
theorem rep0 {c:Cfg} (g:c.Good):Rep c (BU0 c) (fun _=>[]) [] []:=by
 have o0:=g.o0
 have ho:(BU0 c).m.o=c.order.toNat:=clamp_o g
 have hb:blks (BU0 c).m.o (fun _=>[])=[]:=by simp [blks]
 refine ⟨⟨mNew_ok _,by rw [ho];omega,fun i hi=>absurd hi (Nat.not_lt_zero _)⟩,⟨⟨g.b0,?_⟩,Nat.zero_le _,?_⟩,?_,fun _ _ _ h=>(by cases h),fun k hk=>⟨rfl,.nil,fun p hp=>(by cases hp),trivial⟩,fun _ _ _ h=>(by cases h),fun b hb=>(by cases hb),fun k p _ _ h=>absurd h (Nat.not_lt_zero _),fun _ h=>h.elim⟩
 ·have:=g.top
  have h3:(0:Int)≤c.size*c.limit:=Int.mul_nonneg (by omega) (by have:=g.l1;omega)
  omega
 ·show 0*4096≤0*c.size
  omega
 ·rw [hb]
  exact ⟨fun b hb=>(by cases hb),.nil,fun q hq=>absurd hq (Nat.not_lt_zero _)⟩
section
variable {w₀:World} {h h':Heap} {c:Cfg} {Q:WW} {P r:Nat} {x:BU} {K:Value→Heap→Prop}
theorem commit_ok {s:Nat} {Z:Nat→Prop} {st:Sto} (H:(spR s c Z st).P h) (hl:(st.n:Int)<c.limit) (hK:∀(Z':Nat→Prop) (h':Heap),Stp h h' (spR s c Z st) (spR s c Z' (growS c st))→K (.tuple #[.int .u64 (c.base+(st.n*c.size:Nat)),.int .i64 0]) h') :
  CallV Tryz.prog w₀ F.mem_Space_Commit [.pointer (some ⟨s,0,none⟩),.bool false] h K:=by
 refine mem_Commit_ok H (fun e=>?_) fun _ _ h' u H'=>hK _ h' ⟨u,H',fun b e=>?_⟩
 ·rcases e with e | e
  ·cases e
  ·omega
 ·rcases e with e | e
  ·exact .inl e
  ·exact .inr e.1
end
end Go.Proofs.YteemmpkhdllapaaGreatDoor
namespace Go.Proofs.YteemmpkhdllapaaGreatDoor
open Go.V Classical
def pgI:Option Nat→Int
 | none=>-1
 | some q=>(q:Int)
structure WS (S:Nat→Prop) (c:Cfg) (x:BU) (F:Nat→List Nat) (L:List PBk):Prop where
 rep:RepS S c x F L []
 e:x.m.n=x.st.n*2 ^ x.m.o
 g:c.Good
abbrev WI:=WS noS
structure Mv (x x':BU) (L:List PBk):Prop where
 k:Kept L x.st x'.st
 o:x'.m.o=x.m.o
 n:x'.m.n=x.m.n
 pk:PK L x.m x'.m
section
variable {w₀:World} {h h':Heap} {S:Nat→Prop} {c:Cfg} {Q:WW} {x:BU} {K:Value→Heap→Prop} {fl:Nat→List Nat} {L L':List PBk} {p k:Nat}
theorem WS.ok (W:WS S c x fl L):BU.Ok c x:=W.rep.ok
theorem WS.perm (W:WS S c x fl L) (h:L.Perm L'):WS S c x fl L':=⟨W.rep.permL h,W.e,W.g⟩
theorem WS.mv {x':BU} {F':Nat→List Nat} {L0:List PBk} (W:WS S c x fl L) (G:Go' S c x x' F' L0 L'):WS S c x' F' L'∧Mv x x' L0 :=
 ⟨⟨G.r,by rw [G.n,G.k.1,G.o];exact W.e,W.g⟩,⟨G.k,G.o,G.n,G.pk⟩⟩
theorem WS.nr (W:WS S c x fl L):x.st.n≤1024:=by
 have h1:=W.e
 have h2:=W.ok.m.n1
 have h5:x.st.n*1≤x.st.n*2 ^ x.m.o:=Nat.mul_le_mul_left _ (Nat.one_le_two_pow)
 omega
end
end Go.Proofs.YteemmpkhdllapaaGreatDoor
namespace Go.Proofs.YteemmpkhdllapaaGreatDoor
open Go.V Classical
structure Bk where
 p:Nat
 k:Nat
 m:Int
abbrev Bk.b (b:Bk):PBk:=(b.p,b.k)
abbrev lvB (l:List Bk):List PBk:=l.map Bk.b
end Go.Proofs.YteemmpkhdllapaaGreatDoor
namespace Go.Proofs.YteemmpkhdllapaaGreatDoor
open Go.V Classical
def Mk (st:Sto) (l:List Bk):Prop:=∀b∈l,∀o,4096*b.p≤o→o<4096*(b.p+2 ^ b.k)→st.M o=b.m
theorem Mk.kept {st st':Sto} {l:List Bk} (H:Mk st l) (k:Kept (lvB l) st st'):Mk st' l:=fun b hb o h1 h2=>by
 rw [k.2 b.b (List.mem_map.2 ⟨b,hb,rfl⟩) o h1 h2];exact H b hb o h1 h2
theorem Mk.erase {st:Sto} {l:List Bk} (H:Mk st l) (i:Nat):Mk st (l.eraseIdx i):=fun b hb=>H b (List.mem_of_mem_eraseIdx hb)
section
variable {c:Cfg} {x:BU} {fl:Nat→List Nat} {l:List Bk} {L:List PBk} {p k o:Nat}
theorem WS.al {S:Nat→Prop} (W:WS S c x fl L) {b:PBk} (h:b∈L):b.2≤x.m.o∧b.1 % 2 ^ b.2=0∧b.1+2 ^ b.2≤x.m.n :=
 W.rep.til.al b (List.mem_append_right _ (List.mem_append_left _ h))
theorem WS.til {S:Nat→Prop} (W:WS S c x fl L):Tile x.m.o x.m.n (L++blks x.m.o fl):=W.rep.til
theorem top_zero {S:Nat→Prop} (W:WS S c x fl L) (hn:x.m.n=0):x.m.n-2 ^ x.m.o∉fl x.m.o:=fun h=>by
 have:=(W.rep.al (Nat.le_refl _) h).2.1
 have h0:=Nat.two_pow_pos x.m.o
 omega
theorem WS.nd {S:Nat→Prop} (W:WS S c x fl L):L.Nodup:=(List.nodup_append.1 W.til.nodup).1
theorem WS.pos {S:Nat→Prop} (W:WS S c x fl L) (hn:0<x.m.n):0<x.st.n:=by
 rcases Nat.eq_zero_or_pos x.st.n with h | h
 ·have:=W.e;rw [h,Nat.zero_mul] at this;omega
 ·exact h
end
end Go.Proofs.YteemmpkhdllapaaGreatDoor
namespace Go.Proofs.YteemmpkhdllapaaGreatDoor
open Go.V Classical
end Go.Proofs.YteemmpkhdllapaaGreatDoor
namespace Go.Proofs.YteemmpkhdllapaaGreatDoor
open Go.V Classical
section
variable {w₀:World} {h:Heap} {K:Value→Heap→Prop}
theorem sl_uL {h:Heap} {p:Option Addr} {c:Nat} {xs:List Int} (H:(slR p xs.length c 1 (uL xs)).P h):Row h p xs.length (uL xs):=by
 have:=sl_row H
 rwa [Nat.mul_one] at this
end
end Go.Proofs.YteemmpkhdllapaaGreatDoor
namespace Go.V
open Go.RowKit
def Scal (d:TypeDesc) (v:Value):Prop :=
 match d with
 | .int k=>∃z,v=.int k z∧(Lit.int k z).wf=true
 | .bool=>∃b,v=.bool b
 | _=>True
section
variable {H:Type} {enc:TypeId×Value→H} {P:Program} {W:World}
theorem scal_of {t:TypeId} {d:TypeDesc} {fuel:Nat} {v:Value} {x:DataW H×List MemPlace} (hd:P.underlying t=some d) (h:DataW.trod enc P W 0 (fun _=>true) true fuel t [v]=some x):Scal d v:=by
 unfold Scal
 split
 ·obtain ⟨z,e,_,w⟩:=DataW.trod_int hd h
  simp only [List.cons.injEq,and_true] at e
  exact ⟨z,e,w⟩
 ·obtain ⟨b,e,_⟩:=DataW.trod_bool hd h
  simp only [List.cons.injEq,and_true] at e
  exact ⟨b,e⟩
 ·trivial
theorem structCells {e:TypeId} {fs:Array Field} {m:Nat} {ty:Nat→TypeDesc} {fuel:Nat} {cs:List Value} {x:DataW H×List MemPlace} (he:P.underlying e=some (.struct fs)) (hm:fs.size=m)
  (hf:∀j,j<m→∃f,fs[j]? = some f∧f.offset=j∧P.cellsOf f.type=1∧P.underlying f.type=some (ty j)) (hl:cs.length=m)
  (h:DataW.trod enc P W 0 (fun _=>true) true fuel e cs=some x):∀j,j<m→∃v,cs[j]? = some v∧Scal (ty j) v:=by
 obtain ⟨xs,n,_,_,_,hx,hfx⟩:=DataW.trod_struct he h
 intro j hj
 obtain ⟨f,h1,h2,h3,h4⟩:=hf j hj
 have h5:=hfx j f h1
 have hlt:j<xs.length:=by rw [hx,hm];exact hj
 rw [h2,h3,List.getElem?_eq_getElem hlt] at h5
 have h6:(cs.drop j).take 1=[cs[j]]:=by
  rw [List.drop_eq_getElem_cons (by omega)]
  rfl
 rw [h6] at h5
 exact ⟨cs[j],List.getElem?_eq_getElem (by omega),scal_of h4 h5⟩
theorem structRow {t e:TypeId} {fs:Array Field} {m:Nat} {ty:Nat→TypeDesc} {p:Option Addr} {n c:Nat} {d:DataW H} {ps:List MemPlace} (ht:P.underlying t=some (.slice e)) (he:P.underlying e=some (.struct fs)) (hm:fs.size=m) (hm0:0<m) (hce:P.cellsOf e=m)
  (hf:∀j,j<m→∃f,fs[j]? = some f∧f.offset=j∧P.cellsOf f.type=1∧P.underlying f.type=some (ty j))
  (h:DataW.Trod enc P W 0 (fun _=>true) true t (.slice p n c) d ps) :
  n≤c∧c<9223372036854775808∧(n=0∨∃b o,p=some ⟨b,o,none⟩∧∀i,i<n→∀j,j<m→∃v,cellAt W.heap ⟨b,o+i*m+j,none⟩=some v∧Scal (ty j) v):=by
 obtain ⟨fuel,hf'⟩:=h
 rcases DataW.trod_slice ht hf' with ⟨hcs,_⟩ | ⟨a,len,cap,elems,rest,k,_,hcs,_,_,hl,hmx,hlen,hel,_⟩
 ·simp only [Value.cells,List.cons.injEq,Value.slice.injEq,and_true] at hcs
  obtain ⟨rfl,rfl,rfl⟩:=hcs
  exact ⟨Nat.le_refl _,by decide,.inl rfl⟩
 ·simp only [Value.cells,List.cons.injEq,Value.slice.injEq,and_true] at hcs
  obtain ⟨rfl,rfl,rfl⟩:=hcs
  have each:∀i,i<n→∀j,j<m→∃v,W.cell? ((a.add (i*m)).add j)=some v∧Scal (ty j) v:=by
   intro i hi j hj
   have h1:=hel i hi
   rw [hce,List.getElem?_eq_getElem (by omega)] at h1
   simp only [Option.bind_eq_some_iff] at h1
   obtain ⟨cs,hc1,hc2⟩:=h1
   obtain ⟨_,hlm,hcell⟩:=World.cells?_some hc1
   obtain ⟨v,hv,hs⟩:=structCells he hm hf (by omega) hc2 j hj
   exact ⟨v,by rw [hcell j (by omega),hv],hs⟩
  refine ⟨hl,?_,?_⟩
  ·have:maxLen=9223372036854775807:=rfl
   omega
  ·rcases Nat.eq_zero_or_pos n with h0 | h0
   ·exact .inl h0
   ·obtain ⟨v,h1,_⟩:=each 0 h0 0 hm0
    have hs0:a.spot=none:=by
     have hadd:(a.add (0*m)).add 0=a:=by simp [Addr.add]
     rw [hadd] at h1
     have h1':cellAt W.heap a=some _:=h1
     obtain ⟨_,_,_,_,hs,_⟩:=cellAt_block (h:=W.heap) (a:=a) (by rw [h1'];rfl)
     exact hs
    obtain ⟨ab,ao,asp⟩:=a
    simp only at hs0
    subst hs0
    refine .inr ⟨ab,ao,rfl,fun i hi j hj=>?_⟩
    obtain ⟨v,h1,h2⟩:=each i hi j hj
    have e:((⟨ab,ao,none⟩ : Addr).add (i*m)).add j=⟨ab,ao+i*m+j,none⟩:=by rw [add_mk,add_mk]
    exact ⟨v,(congrArg (fun a=>W.cell? a) e.symm).trans h1,h2⟩
end
end Go.V
namespace Go.Proofs.YteemmpkhdllapaaGreatDoor
open Go.V Classical
theorem wf_u64 {n:Int} (h:(Lit.int .u64 n).wf=true):U64 n:=by
 have:=Go.bounds_u64 h;exact ⟨by omega,by omega⟩
end Go.Proofs.YteemmpkhdllapaaGreatDoor
namespace Go.Proofs.YteemmpkhdllapaaGreatDoor
open Go.V Classical
def intF (G:Nat→Int):Nat→Value:=fun q=>.int .i64 (G q)
def In (bs:List PBk) (q:Nat):Prop:=∃b∈bs,Cov b q
theorem In.nil (q:Nat):¬In [] q:=fun ⟨b,hb,_⟩=>by cases hb
def Beg (fl:Nat→List Nat) (o i:Nat) (G:Nat→Int):Prop:=∀q k:Nat,G q=(k:Int)+1↔(k<o∧q∈fl k)∨(k=o∧q∈(fl o).take i)
theorem take_snoc {l:List Nat} {i:Nat} (hi:i<l.length):l.take (i+1)=l.take i++[l.getD i 0]:=by
 rw [List.take_add_one,List.getD_eq_getElem?_getD,List.getElem?_eq_getElem hi];rfl
theorem getD_mem {l:List Nat} {i:Nat} (hi:i<l.length):l.getD i 0∈l:=by
 rw [List.getD_eq_getElem?_getD,List.getElem?_eq_getElem hi];exact List.getElem_mem hi
section
variable {w₀:World} {h:Heap} {K:Value→Heap→Prop} {c:Cfg} {Q:WW} {x:BU} {fl:Nat→List Nat} {l:List Bk} {bp:Option Addr} {bc:Nat}
theorem Beg.put {o i:Nat} {G:Nat→Int} (W:WI c x fl (lvB l)) (ho:o≤x.m.o) (B:Beg fl o i G) (hi:i<(fl o).length):Beg fl o (i+1) fun y=>if y=(fl o).getD i 0 then (o:Int)+1 else G y:=by
 intro q k
 have hm:=getD_mem hi
 rw [take_snoc hi]
 generalize (fl o).getD i 0=p at hm
 simp only [List.mem_append,List.mem_singleton]
 by_cases e:q=p
 ·subst e
  rw [if_pos rfl]
  constructor
  ·intro hk
   exact .inr ⟨by omega,.inr rfl⟩
  ·rintro (⟨hk,hq⟩ | ⟨hk,_⟩)
   ·have:=W.rep.one ho (Nat.le_of_lt (Nat.lt_of_lt_of_le hk ho)) hm hq
    omega
   ·omega
 ·rw [if_neg e,B q k]
  constructor
  ·rintro (h | ⟨h1,h2⟩)
   ·exact .inl h
   ·exact .inr ⟨h1,.inl h2⟩
  ·rintro (h | ⟨h1,h2 | h2⟩)
   ·exact .inl h
   ·exact .inr ⟨h1,h2⟩
   ·exact absurd h2 e
theorem Beg.next {o:Nat} {G:Nat→Int} (B:Beg fl o (fl o).length G):Beg fl (o+1) 0 G:=by
 intro q k
 rw [B q k,List.take_length]
 constructor
 ·rintro (⟨h1,h2⟩ | ⟨rfl,h2⟩)
  ·exact .inl ⟨by omega,h2⟩
  ·exact .inl ⟨by omega,h2⟩
 ·rintro (⟨h1,h2⟩ | ⟨_,h2⟩)
  ·rcases Nat.lt_or_ge k o with h | h
   ·exact .inl ⟨h,h2⟩
   ·have:k=o:=by omega
    subst this;exact .inr ⟨rfl,h2⟩
  ·cases h2
end
end Go.Proofs.YteemmpkhdllapaaGreatDoor
namespace Go.Proofs.YteemmpkhdllapaaGreatDoor
open Go.V Classical Go.RowKit
section
variable {c:Cfg} {x x':BU} {fl:Nat→List Nat} {L hs:List PBk}
theorem RepS.same {S:Nat→Prop} (R:RepS S c x fl L hs) (ok':BU.Ok c x') (ho:x'.m.o=x.m.o) (hn:x'.m.n=x.m.n) (hpg:∀q,q<x.m.n→x'.m.pg q=x.m.pg q) (hbt:∀k,k<x.m.o→∀i,x'.m.bt k i=x.m.bt k i) (hhd:x'.hd=x.hd)
  (hst:x'.st.n=x.st.n) (hM:∀o,o<4096*x.m.n→x'.st.M o=x.st.M o):RepS S c x' fl L hs:=by
 refine ⟨ok',⟨R.rm.b,by rw [hn];exact R.rm.n,by rw [hn,hst];exact R.rm.r⟩,by rw [ho,hn];exact R.til,by rw [ho];exact R.nb,fun k hk=>?_,fun k p hk hp q hq=>?_,fun b hb hS q hq=>?_,fun k p hk hp hlt=>?_,fun q hq=>⟨(R.ps q hq).1,by rw [hpg q (R.sn hq)];exact (R.ps q hq).2⟩⟩
 ·rw [ho] at hk
  have L0:=R.ls k hk
  rw [hn,hhd]
  refine ⟨L0.hd,L0.nd,L0.cl,seg_congr (fun a ha=>?_) L0.sg⟩
  obtain ⟨q,hq,rfl⟩:=L0.cl a ha
  have e1:(adr c q-c.base).toNat=4096*q:=by unfold adr;omega
  have e2:(adr c q+8-c.base).toNat=4096*q+8:=by unfold adr;omega
  unfold Sto.rd
  rw [e1,e2]
  exact ⟨wrd_congr fun i hi=>hM _ (by omega),wrd_congr fun i hi=>hM _ (by omega)⟩
 ·rw [ho] at hk
  have al:=R.al hk hp
  rw [hpg q (by have:=hq.2;simp only [] at this;omega)]
  exact R.pf k p hk hp q hq
 ·have al:=(R.til.al b (List.mem_append_right _ (List.mem_append_left _ hb))).2.2
  rw [hpg q (by have:=hq.2;omega)]
  exact R.pl b hb hS q hq
 ·rw [ho] at hk
  rw [hn] at hlt
  rw [hbt k hk]
  exact R.bt k p hk hp hlt
end
end Go.Proofs.YteemmpkhdllapaaGreatDoor
namespace Go.Proofs.YteemmpkhdllapaaGreatDoor
open Go.V Classical
section
variable {w₀:World} {h h':Heap} {S:Nat→Prop} {c:Cfg} {B:BW} {x:BU} {K:Value→Heap→Prop} {fl:Nat→List Nat} {L L':List PBk} {p k:Nat}
theorem pullB (W:WS S c x fl L) (H:(buR c B x).P h) (hn:0<x.st.n) (hF:x.m.n-2 ^ x.m.o∈fl x.m.o)
  (hK:∀x' h',WS S c x' (fset fl x.m.o ((fl x.m.o).filter (·≠x.m.n-2 ^ x.m.o))) ((x.m.n-2 ^ x.m.o,x.m.o)::L)→Mv x x' L→Stp h h' (buR c B x) (buR c B x')→K (.int .i64 0) h') :
  CallV Tryz.prog w₀ F.buddy_Buddy_Pull [.pointer (some ⟨B.b,0,none⟩)] h K:=by
 refine bu_Pull_ok W.ok H fun h' ok' o' S=>?_
 obtain ⟨e,G⟩:=sim_pull W.rep hn W.e hF
 obtain ⟨W',M⟩:=W.mv G
 rw [e]
 exact hK _ h' W' M S
theorem pullBN (W:WS S c x fl L) (H:(buR c B x).P h) (hF:x.m.n-2 ^ x.m.o∉fl x.m.o) (hK:∀h',Stp h h' (buR c B x) (buR c B x)→K (.int .i64 9) h') :
  CallV Tryz.prog w₀ F.buddy_Buddy_Pull [.pointer (some ⟨B.b,0,none⟩)] h K:=by
 refine bu_Pull_ok W.ok H fun h' ok' o' S=>?_
 have e:=pull_no W.rep hF
 rw [e] at S ⊢
 exact hK h' S
theorem freeB (W:WS S c x fl L) (H:(buR c B x).P h) {o:Nat} (ho:o≤x.m.o)
  (hK:∀h' p cap,Stp h h' (buR c B x) (andR (buR c B x) (slR p ((fl o).map (adr c)).length cap 1 (uL ((fl o).map (adr c)))))→K (.slice p ((fl o).map (adr c)).length cap) h') :
  CallV Tryz.prog w₀ F.buddy_Buddy_Free [.pointer (some ⟨B.b,0,none⟩),.int .i64 (o:Int)] h K:=by
 refine bu_Free_ok W.ok H (fun hc=>absurd hc (by omega)) fun k h' p cap ek hk S=>?_
 have ek:k=o:=by omega
 subst ek
 have e:freeL c x k=(fl k).map (adr c):=all_inv W.rep.rm (W.rep.ls k hk)
 rw [e] at S ⊢
 exact hK h' p cap S
theorem room (W:WS S c x fl L) (hl:(x.st.n:Int)<c.limit):x.m.n+2 ^ x.m.o≤1024:=by
 have h1:=W.g.pg
 have h2:c.order.toNat=x.m.o:=by have:=W.ok.o;omega
 rw [h2] at h1
 have h3:((x.st.n+1:Nat):Int)*((2 ^ x.m.o:Nat):Int)≤c.limit*((2 ^ x.m.o:Nat):Int):=Int.mul_le_mul_of_nonneg_right (by omega) (Int.natCast_nonneg _)
 have h4:(((x.st.n+1)*2 ^ x.m.o:Nat):Int)≤1024:=by rw [Int.natCast_mul];exact Int.le_trans h3 h1
 rw [W.e,←Nat.succ_mul]
 exact Int.ofNat_le.1 h4
theorem comeS (W:WS S c x fl L) (hl:(x.st.n:Int)<c.limit):WS S c ⟨growS c x.st,x.hd,mGrow x.m⟩ fl ((x.m.n,x.m.o)::L)∧(mGrow x.m).o=x.m.o∧(mGrow x.m).n=x.m.n+2 ^ x.m.o ∧
  (∀b∈L,∀o,4096*b.1≤o→o<4096*(b.1+2 ^ b.2)→(growS c x.st).M o=x.st.M o)∧PK L x.m (mGrow x.m):=by
 obtain ⟨R,eo,en,hM,pk⟩:=sim_come W.g W.rep W.e (room W hl)
 refine ⟨⟨R,?_,W.g⟩,eo,en,hM,pk⟩
 show (mGrow x.m).n=(x.st.n+1)*2 ^ (mGrow x.m).o
 rw [eo,en,Nat.succ_mul,←W.e]
theorem goS (W:WS S c x fl ((x.m.n-2 ^ x.m.o,x.m.o)::L)) (hn:0<x.st.n) (hS:¬S (x.m.n-2 ^ x.m.o)):WS S c ⟨⟨x.st.n-1,x.st.M⟩,x.hd,mShrink x.m 1⟩ fl L∧(mShrink x.m 1).o=x.m.o∧(mShrink x.m 1).n=x.m.n-2 ^ x.m.o:=by
 have e:=W.e
 have hle:2 ^ x.m.o≤x.m.n:=by
  rw [e]
  exact Nat.le_mul_of_pos_left _ hn
 obtain ⟨R,eo,en⟩:=sim_goes W.rep e hle hS
 refine ⟨⟨R,?_,W.g⟩,eo,en⟩
 show (mShrink x.m 1).n=(x.st.n-1)*2 ^ (mShrink x.m 1).o
 rw [eo,en,e,Nat.sub_mul,Nat.one_mul]
def trimF (O:Nat):Nat→(Nat→List Nat)→Nat×(Nat→List Nat)
 | 0,fl=>(0,fl)
 | r+1,fl=>if r*2 ^ O∈fl O then trimF O r (fset fl O ((fl O).filter (·≠r*2 ^ O))) else (r+1,fl)
end
end Go.Proofs.YteemmpkhdllapaaGreatDoor
namespace Go.Proofs.YteemmpkhdllapaaGreatDoor
open Go.V Classical
structure PL where
 pb:Nat
 B:BW
abbrev gptr (b:Nat):Value:=.pointer (some ⟨b,0,none⟩)
abbrev plR (c:Cfg) (Q:PL) (x:BU):Res:=andR (blkR Q.pb 3 (f3 (gptr Q.B.s) (gptr Q.B.mb) (gptr Q.B.b))) (buR c Q.B x)
section
variable {w₀:World} {h h':Heap} {S:Nat→Prop} {c:Cfg} {Q:PL} {x:BU} {K:Value→Heap→Prop} {fl:Nat→List Nat} {L L':List PBk} {p k:Nat}
theorem pl_bu (H:(plR c Q x).P h):(buR c Q.B x).P h:=H.2.1
theorem pl_c0 (H:(plR c Q x).P h):cellAt h ⟨Q.pb,0,none⟩=some (gptr Q.B.s):=(f3_cells H.1).1
theorem pl_c1 (H:(plR c Q x).P h):cellAt h ((⟨Q.pb,0,none⟩ : Addr).add 1)=some (gptr Q.B.mb):=(f3_cells H.1).2.1
theorem pl_c2 (H:(plR c Q x).P h):cellAt h ((⟨Q.pb,0,none⟩ : Addr).add 2)=some (gptr Q.B.b):=(f3_cells H.1).2.2
theorem pl_lift {x':BU} {B':BW} (H:(plR c Q x).P h) (hB:B'.s=Q.B.s∧B'.mb=Q.B.mb∧B'.b=Q.B.b) (S:Stp h h' (buR c Q.B x) (buR c B' x')):Stp h h' (plR c Q x) (plR c ⟨Q.pb,B'⟩ x'):=by
 have T:=S.right H
 unfold plR
 rw [hB.1,hB.2.1,hB.2.2]
 exact T
theorem pl_lift' {x':BU} (H:(plR c Q x).P h) (S:Stp h h' (buR c Q.B x) (buR c Q.B x')):Stp h h' (plR c Q x) (plR c Q x'):=S.right H
theorem ground_Space_ok (H:(plR c Q x).P h) (hK:K (gptr Q.B.s) h):CallV Tryz.prog w₀ F.region_ground_Space [.pointer (some ⟨Q.pb,0,none⟩)] h K:=region_ground_Space.call ⟨_,rfl,_,pl_c0 H,hK⟩
theorem ground_Map_ok (H:(plR c Q x).P h) (hK:K (gptr Q.B.mb) h):CallV Tryz.prog w₀ F.region_ground_Map [.pointer (some ⟨Q.pb,0,none⟩)] h K:=region_ground_Map.call ⟨_,rfl,_,pl_c1 H,hK⟩
theorem ground_Buddy_ok (H:(plR c Q x).P h) (hK:K (gptr Q.B.b) h):CallV Tryz.prog w₀ F.region_ground_Buddy [.pointer (some ⟨Q.pb,0,none⟩)] h K:=region_ground_Buddy.call ⟨_,rfl,_,pl_c2 H,hK⟩
theorem pl_make {h0:Heap} {s mb b:Nat} {w:MW} {lp:Option Addr} {lc:Nat} {lb:Nat→Nat} {Z:Nat→Prop} {x:BU} {n:Nat} (hn:n=x.m.o+1) {rs:List Res} (I:Hold h0 h [bopR c s mb b lp n lc lb x.hd,mapR mb x.m w,spR s c Z x.st]) :
  ∃B:BW,B.s=s∧B.mb=mb∧B.b=b∧Hold h0 h [buR c B x]:=by
 subst hn
 have J2:=I.split.swap.split
 have J3:=(J2.front3.join.front4.front3.join).front3.swap.join.swap.join
 exact ⟨⟨s,Z,mb,w,b,lp,lc,lb⟩,rfl,rfl,rfl,J3⟩
theorem region_New_ok {a b d:Int} (ha:U64 a) (hn:¬Cfg.Good ⟨a,b,d⟩→∀h',Upd NoB h h'→K (.tuple #[.pointer none,.int .i64 1]) h')
  (hg:Cfg.Good ⟨a,b,d⟩→∀(h':Heap) (Q:PL),New h h' (plR ⟨a,b,d⟩ Q (BU0 ⟨a,b,d⟩))→K (.tuple #[.pointer (some ⟨Q.pb,0,none⟩),.int .i64 0]) h') :
  CallV Tryz.prog w₀ F.region_New [.agg #[.int .u64 a,.int .i64 b,.int .i64 d]] h K:=by
 refine region_New.call ?_
 try dsimp only
 have N1:=box3 h (.int .u64 a) (.int .i64 b) (.int .i64 d) T.T_api_Config
 generalize Array.push h (.cells #[.int .u64 a,.int .i64 b,.int .i64 d] T.T_api_Config)=h1 at N1 ⊢
 have I1:=(Hold.nil h).new N1
 obtain ⟨k0,k1,k2⟩:=f3_cells (I1.at 0)
 refine ⟨_,k0,_,k1,_,k2,?_⟩
 refine mem_New_ok ha (fun hb h4 u4=>⟨_,_,rfl,iT rfl (hn hb h4 (N1.u.nx u4 fun _ e _=>e))⟩) fun g h4 s u4 hs4 H4=>⟨_,_,rfl,iF rfl ?_⟩
 have N4:New h1 h4 (spR s ⟨a,b,d⟩ (fun x=>x=s) ⟨0,fun _=>0⟩):=⟨u4,H4,fun b e=>by have e:b=s:=e;omega⟩
 have I4:=I1.new N4
 obtain ⟨k0,k1,k2⟩:=f3_cells (I4.at 1)
 refine ⟨_,k2,pm_New_ok fun h5 mb w N5=>⟨_,rfl,?_⟩⟩
 have I5:=I4.new N5
 obtain ⟨k0,k1,k2⟩:=f3_cells (I5.at 2)
 refine ⟨_,k0,_,k1,_,k2,bu_New_ok (c:=⟨a,b,d⟩) ⟨g.o0,g.o8⟩ fun h6 bb lp lc lb N6=>⟨_,rfl,?_⟩⟩
 have I6:=I5.new N6
 have J1:Hold h h6 [bopR ⟨a,b,d⟩ s mb bb lp (d.toNat+1) lc lb (BU0 ⟨a,b,d⟩).hd,mapR mb (BU0 ⟨a,b,d⟩).m w,spR s ⟨a,b,d⟩ (fun x=>x=s) (BU0 ⟨a,b,d⟩).st]:=I6.sub (.cons_cons _ (.cons_cons _ (.cons_cons _ (.cons _ .slnil))))
 have hcl:(BU0 ⟨a,b,d⟩).m.o=d.toNat:=clamp_o g
 obtain ⟨B,e1,e2,e3,J2⟩:=pl_make (rs:=[]) (by rw [hcl]) J1
 have N7:=box3 h6 (.pointer (some ⟨s,0,none⟩)) (.pointer (some ⟨mb,0,none⟩)) (.pointer (some ⟨bb,0,none⟩)) T.T_region_Pool
 have J3:=(J2.new N7).join
 refine hg g _ ⟨h6.size,B⟩ ?_
 have:=J3.toNew
 unfold plR
 rw [e1,e2,e3]
 exact this
def Keep (L:List PBk) (st st':Sto):Prop:=∀b∈L,∀o,4096*b.1≤o→o<4096*(b.1+2 ^ b.2)→st'.M o=st.M o
theorem Keep.trans {L:List PBk} {a b d:Sto} (h:Keep L a b) (k:Keep L b d):Keep L a d:=fun z hz o h1 h2=>(k z hz o h1 h2).trans (h z hz o h1 h2)
theorem trimPS (W:WS S c x fl L) (H:(plR c Q x).P h)
  (hK:∀x' fl' (Q':PL) h',Q'.pb=Q.pb→Q'.B.s=Q.B.s∧Q'.B.mb=Q.B.mb∧Q'.B.b=Q.B.b→trimF x.m.o x.st.n fl=(x'.st.n,fl')→WS S c x' fl' L→x'.m.o=x.m.o→x'.st.n≤x.st.n→Keep L x.st x'.st→PK L x.m x'.m →
   Stp h h' (plR c Q x) (plR c Q' x')→K (.int .i64 ((x.st.n-x'.st.n:Nat):Int)) h') :
  CallV Tryz.prog w₀ F.region_Pool_Trim [.pointer (some ⟨Q.pb,0,none⟩)] h K:=by
 refine region_Pool_Trim.call ?_
 try dsimp only
 intro J1 hJ1 L2 hL2
 have hnr:=W.nr
 have key:∀(r k:Nat) (hx:Heap) (Q':PL) (y:BU) (g:Nat→List Nat),y.st.n=r→k+r=x.st.n→Q'.pb=Q.pb→Q'.B.s=Q.B.s∧Q'.B.mb=Q.B.mb∧Q'.B.b=Q.B.b→trimF x.m.o x.st.n fl=trimF x.m.o r g→WS S c y g L→y.m.o=x.m.o→Keep L x.st y.st→PK L x.m y.m →
   Stp h hx (plR c Q x) (plR c Q' y)→L2 [.pointer (some ⟨Q.pb,0,none⟩),.int .i64 (k:Int)] hx:=by
  intro r
  induction r with
  | zero =>
   intro k hx Q' y g hr hk hq hB ht Wy oy ky py S'
   have Hy:=S'.p
   have hn0:y.m.n=0:=by rw [Wy.e,hr,Nat.zero_mul]
   refine hL2 _ _ _ ⟨_,rfl,_,(by rw [←hq];exact pl_c2 Hy),?_⟩
   refine pullBN Wy (pl_bu Hy) (top_zero Wy hn0) fun h1 S1=>⟨_,rfl,iF rfl (hJ1 _ _ ?_)⟩
   have:=hK y g Q' h1 hq hB (by rw [ht,hr];rfl) Wy oy (by omega) ky py (S'.trans (pl_lift' Hy S1))
   rw [show x.st.n-y.st.n=k by omega] at this
   exact this
  | succ r ih =>
   intro k hx Q' y g hr hk hq hB ht Wy oy ky py S'
   have Hy:=S'.p
   have h0:=Nat.two_pow_pos x.m.o
   have en:y.m.n=(r+1)*2 ^ x.m.o:=by rw [Wy.e,hr,oy]
   have et:y.m.n-2 ^ y.m.o=r*2 ^ x.m.o:=by rw [en,oy,Nat.succ_mul,Nat.add_sub_cancel]
   refine hL2 _ _ _ ⟨_,rfl,_,(by rw [←hq];exact pl_c2 Hy),?_⟩
   by_cases hin:r*2 ^ x.m.o∈g x.m.o
   ·refine pullB Wy (pl_bu Hy) (by omega) (by rw [et,oy];exact hin) fun y1 h1 W1 M1 S1=>⟨_,rfl,iT rfl ?_⟩
    have T1:=S'.trans (pl_lift' Hy S1)
    have H1:=T1.p
    have o1:y1.m.o=x.m.o:=by rw [M1.o,oy]
    have n1:y1.m.n=(r+1)*2 ^ x.m.o:=by rw [M1.n,en]
    rw [et,oy] at W1
    have et1:y1.m.n-2 ^ y1.m.o=r*2 ^ x.m.o:=by rw [n1,o1,Nat.succ_mul,Nat.add_sub_cancel]
    have W1':WS S c y1 (fset g x.m.o ((g x.m.o).filter (·≠r*2 ^ x.m.o))) ((y1.m.n-2 ^ y1.m.o,y1.m.o)::L):=by rw [et1,o1];exact W1
    have sn1:y1.st.n=r+1:=by rw [M1.k.1,hr]
    obtain ⟨W2,o2,n2⟩:=goS W1' (by omega) (by rw [et1];exact Wy.rep.sF (k:=x.m.o) (by omega) hin)
    have hdiv:1≤y1.m.n / 2 ^ y1.m.o:=by
     rw [n1,o1,Nat.mul_div_cancel _ h0];omega
    refine ⟨_,rfl,_,(by rw [←hq];exact pl_c1 H1),?_⟩
    refine pm_Shrink_ok (k:=1) W1.ok.m (by omega) (bu_map (pl_bu H1)) (fun t et ht' h2 w2 S2=>⟨_,rfl,?_⟩) fun hc=>absurd (show (0:Int)≤1∧(1:Int)≤((y1.m.n / 2 ^ y1.m.o:Nat):Int) from ⟨by omega,by omega⟩) hc
    have et':t=1:=by omega
    subst et'
    have T2:=T1.trans (pl_lift (x':=⟨y1.st,y1.hd,mShrink y1.m 1⟩) H1 (B':={ Q'.B with w:=w2 }) ⟨rfl,rfl,rfl⟩ (bu_liftw (pl_bu H1) rfl S2))
    have H2:(plR c ⟨Q'.pb,{ Q'.B with w:=w2 }⟩ ⟨y1.st,y1.hd,mShrink y1.m 1⟩).P h2:=T2.p
    have k0:=pl_c0 H2
    have b2:=pl_bu H2
    refine ⟨_,rfl,_,(by rw [←hq];exact k0),?_⟩
    refine mem_Decommit_ok (k:=1) (by omega) (bu_sp b2) (fun hc=>absurd hc (by show ¬((1:Int)<0∨((y1.st.n:Nat):Int)<1);omega)) fun m em hm h3 u3 hs3 H3=>⟨_,rfl,?_⟩
    have em:m=y1.st.n-1:=by have em:(m:Int)=(y1.st.n:Int)-1:=em;omega
    subst em
    have S3:Stp h2 h3 (spR Q'.B.s c Q'.B.Z y1.st) (spR Q'.B.s c Q'.B.Z ⟨y1.st.n-1,y1.st.M⟩):=⟨u3,H3,fun b e=>.inl e⟩
    have T3:=T2.trans (pl_lift' (Q:=⟨Q'.pb,{ Q'.B with w:=w2 }⟩) (x':=⟨⟨y1.st.n-1,y1.st.M⟩,y1.hd,mShrink y1.m 1⟩) H2 (bu_liftsp b2 S3))
    rw [show IntKind.wrap .i64 ((k:Int)+1)=((k+1:Nat):Int) by rw [IntKind.wrap_i64];omega]
    refine ih (k+1) h3 ⟨Q'.pb,{ Q'.B with w:=w2 }⟩ ⟨⟨y1.st.n-1,y1.st.M⟩,y1.hd,mShrink y1.m 1⟩ _ (by show y1.st.n-1=r;omega) (by omega) hq hB ?_ W2 (by show y1.m.o=x.m.o;exact o1) ?_ ?_ T3
    ·rw [ht]
     conv=>lhs;unfold trimF
     rw [if_pos hin]
    ·intro z hz y' hy1 hy2
     show y1.st.M y'=_
     rw [M1.k.2 z hz y' hy1 hy2]
     exact ky z hz y' hy1 hy2
    ·intro z hz q hq
     show y1.m.pg q=_
     rw [M1.pk z hz q hq]
     exact py z hz q hq
   ·refine pullBN Wy (pl_bu Hy) (by rw [et,oy];exact hin) fun h1 S1=>⟨_,rfl,iF rfl (hJ1 _ _ ?_)⟩
    have:=hK y g Q' h1 hq hB (by rw [ht,hr];unfold trimF;rw [if_neg hin]) Wy oy (by omega) ky py (S'.trans (pl_lift' Hy S1))
    rw [show x.st.n-y.st.n=k by omega] at this
    exact this
 exact key x.st.n 0 h Q x fl rfl (by omega) rfl ⟨rfl,rfl,rfl⟩ rfl W rfl (fun z hz y _ _=>rfl) (PK.refl _ _) (Stp.refl H)
end
end Go.Proofs.YteemmpkhdllapaaGreatDoor
namespace Go.Proofs.YteemmpkhdllapaaGreatDoor
open Go.V Classical
theorem wU {z:Int} (h:U64 z):IntKind.wrap .u64 z=z:=by
 unfold U64 at h
 rw [IntKind.wrap_u64];omega
theorem wI {z:Int} (h:bd63 z):IntKind.wrap .i64 z=z:=by
 unfold bd63 at h
 rw [IntKind.wrap_i64];omega
theorem wUb (z:Int):U64 (IntKind.wrap .u64 z):=by unfold U64;rw [IntKind.wrap_u64];omega
def wdt (k:Nat):Nat:=16*2 ^ k
theorem wdt_pos (k:Nat):0<wdt k:=Nat.mul_pos (by omega) (Nat.two_pow_pos k)
def Tab (h:Heap):Prop:=∀i,i<8→cellAt h ⟨0,i,none⟩=some (.int .u64 (wdt i:Int))
structure TabH (h:Heap) (R:Res):Prop where
 t:Tab h
 z:¬R.fp 0
theorem Tab.pos {h:Heap} (T:Tab h):0<h.size:=by
 have:=T 0 (by omega)
 refine Nat.pos_of_ne_zero fun e=>?_
 have e2:h[0]? = none:=Array.getElem?_eq_none (by omega)
 simp [cellAt,e2] at this
theorem Tab.upd {h h':Heap} {S:Nat→Prop} (T:Tab h) (u:Upd S h h') (hs:¬S 0):Tab h':=fun i hi=>cellAt_upd (T i hi) u hs
theorem Tab.cell {h:Heap} (T:Tab h) {k:Nat} (hk:k<8):cellAt h ((⟨0,0,none⟩ : Addr).add (Int.toNat (k:Int)*1))=some (.int .u64 (wdt k:Int)):=by
 rw [add_mk,Int.toNat_natCast,Nat.mul_one,Nat.zero_add];exact T k hk
theorem Tab.cell' {h:Heap} (T:Tab h) {k:Nat} {v:Int} (hv:v=k) (hk:k<8):cellAt h ((⟨0,0,none⟩ : Addr).add (Int.toNat v*1))=some (.int .u64 (wdt k:Int)):=by
 subst hv;exact T.cell hk
theorem TabH.own {h0 h:Heap} {E:Res} {rs:List Res} (T:TabH h0 E) (I:Go.V.Own h0 h E rs):Tab h:=T.t.upd I.u T.z
theorem TabH.at {h0 h:Heap} {E R:Res} {rs:List Res} (T:TabH h0 E) (I:Go.V.Own h0 h E rs) (i:Nat) (hi:rs[i]? = some R:=by rfl):TabH h R :=
 ⟨T.own I,fun e=>(I.ge R (List.mem_of_getElem? hi) 0 e).elim T.z fun e'=>by have:=T.t.pos;omega⟩
theorem TabH.st {h h':Heap} {R R':Res} (T:TabH h R) (S:Stp h h' R R'):TabH h' R' :=
 ⟨T.t.upd S.u T.z,fun e=>(S.g 0 e).elim T.z fun e'=>by have:=T.t.pos;omega⟩
theorem TabH.q {h h':Heap} {R:Res} (T:TabH h R) (u:Upd NoB h h'):TabH h' R:=⟨T.t.upd u id,T.z⟩
theorem TabH.of {h0 h:Heap} {R:Res} {rs:List Res} (T:Tab h0) (I:Hold h0 h rs) (i:Nat) (hi:rs[i]? = some R:=by rfl):TabH h R :=
 ⟨T.upd I.u id,fun e=>by have:=I.ge R (List.mem_of_getElem? hi) 0 e;have:=T.pos;omega⟩
structure SL where
 sb:Nat
 pl:PL
def slF (pb:Nat) (pt:Nat→Int):Nat→Value
 | 0=>gptr pb
 | i+1=>.int .i64 (pt i)
abbrev sR (c:Cfg) (Q:SL) (x:BU) (pt:Nat→Int):Res:=andR (blkR Q.sb 9 (slF Q.pl.pb pt)) (plR c Q.pl x)
abbrev BU.wm (x:BU) (m:MS):BU:=⟨x.st,x.hd,m⟩
abbrev BU.ws (x:BU) (st:Sto):BU:=⟨st,x.hd,x.m⟩
structure KI (c:Cfg) (x:BU):Prop where
 ok:BU.Ok c x
 e:x.m.n=x.st.n*2 ^ x.m.o
 g:c.Good
theorem WS.ki {S:Nat→Prop} {c:Cfg} {x:BU} {fl:Nat→List Nat} {L:List PBk} (W:WS S c x fl L):KI c x:=⟨W.ok,W.e,W.g⟩
theorem KI.span {c:Cfg} {x:BU} (k:KI c x):x.st.n*c.size=4096*x.m.n:=by
 rw [size_o k.ok,k.e,Nat.mul_left_comm]
theorem ki_set {c:Cfg} {x:BU} {i:Int} {P:Nat→Int} (k:KI c x) (T:PgT P) (h4:P 0=4):KI c (x.wm (setPg x.m i P)):=by
 refine ⟨⟨setPg_ok k.ok.m T,k.ok.o,fun j hj h2=>?_⟩,k.e,k.g⟩
 have e:(setPg x.m i P).pg j=if j=i.toNat then P else x.m.pg j:=by simp [setPg,putP]
 simp only [] at h2 ⊢
 rw [e] at h2 ⊢
 split at h2
 ·rw [h4] at h2;exact absurd h2 (by decide)
 ·rename_i hne
  rw [if_neg hne]
  exact k.ok.b j hj h2
theorem ki_sto {c:Cfg} {x:BU} {st':Sto} (k:KI c x) (hn:st'.n=x.st.n):KI c (x.ws st'):=⟨⟨k.ok.m,k.ok.o,k.ok.b⟩,by rw [hn];exact k.e,k.g⟩
noncomputable def chainU (m:MS) (i p q:Int):MS:=if chainOk m i p q then setPg m i (chainP (m.pg i.toNat) p q) else m
noncomputable def firstU (m:MS) (i p:Int):MS:=if firstOk m i p then setPg m i (firstP (m.pg i.toNat) p) else m
noncomputable def ownU (m:MS) (i p:Int) (l:Bool):MS:=if ownOk m i p l then setPg m i (pown (m.pg i.toNat) p.toNat l) else m
noncomputable def slabU (m:MS) (i p:Int):MS:=if slabOk m i p then setPg m i (slabP p) else m
noncomputable def runI (m:MS) (i:Int):MS:=if runOk m i 0 2 then { m with pg:=runP m.pg i.toNat 0 2 } else m
noncomputable def pgA (m:MS) (i:Int):Nat→Int:=if 0≤i∧i<m.n then m.pg i.toNat else fun _=>0
noncomputable def wrU (c:Cfg) (st:Sto) (p v:Int):Sto:=if There c st.n p 8 then st.wr c p v else st
noncomputable def rdU (c:Cfg) (st:Sto) (p:Int):Int:=if There c st.n p 8 then st.rd c p else 0
@[simp] theorem chainU_o (m:MS) (i p q:Int):(chainU m i p q).o=m.o:=by unfold chainU;split<;>rfl
@[simp] theorem chainU_n (m:MS) (i p q:Int):(chainU m i p q).n=m.n:=by unfold chainU;split<;>rfl
@[simp] theorem chainU_bt (m:MS) (i p q:Int):(chainU m i p q).bt=m.bt:=by unfold chainU;split<;>rfl
@[simp] theorem firstU_o (m:MS) (i p:Int):(firstU m i p).o=m.o:=by unfold firstU;split<;>rfl
@[simp] theorem firstU_n (m:MS) (i p:Int):(firstU m i p).n=m.n:=by unfold firstU;split<;>rfl
@[simp] theorem firstU_bt (m:MS) (i p:Int):(firstU m i p).bt=m.bt:=by unfold firstU;split<;>rfl
@[simp] theorem ownU_o (m:MS) (i p:Int) (l:Bool):(ownU m i p l).o=m.o:=by unfold ownU;split<;>rfl
@[simp] theorem ownU_n (m:MS) (i p:Int) (l:Bool):(ownU m i p l).n=m.n:=by unfold ownU;split<;>rfl
@[simp] theorem ownU_bt (m:MS) (i p:Int) (l:Bool):(ownU m i p l).bt=m.bt:=by unfold ownU;split<;>rfl
@[simp] theorem slabU_o (m:MS) (i p:Int):(slabU m i p).o=m.o:=by unfold slabU;split<;>rfl
@[simp] theorem slabU_n (m:MS) (i p:Int):(slabU m i p).n=m.n:=by unfold slabU;split<;>rfl
@[simp] theorem slabU_bt (m:MS) (i p:Int):(slabU m i p).bt=m.bt:=by unfold slabU;split<;>rfl
@[simp] theorem runI_o (m:MS) (i:Int):(runI m i).o=m.o:=by unfold runI;split<;>rfl
@[simp] theorem runI_n (m:MS) (i:Int):(runI m i).n=m.n:=by unfold runI;split<;>rfl
@[simp] theorem runI_bt (m:MS) (i:Int):(runI m i).bt=m.bt:=by unfold runI;split<;>rfl
@[simp] theorem wrU_n (c:Cfg) (st:Sto) (p v:Int):(wrU c st p v).n=st.n:=by unfold wrU;split<;>rfl
section
variable {w₀:World} {h h':Heap} {c:Cfg} {Q:SL} {x:BU} {pt:Nat→Int} {K:Value→Heap→Prop}
theorem ki_chain {i p q:Int} (k:KI c x):KI c (x.wm (chainU x.m i p q)):=by
 unfold chainU
 split
 ·rename_i hc
  obtain ⟨h0,h1,h4,hp1,hp2,hq1,hq2⟩:=hc
  have n1:=k.ok.m.n1
  exact ki_set k (chainP_t (by unfold bd63;omega) (by unfold bd63;omega) (k.ok.m.pg i.toNat (by omega))) h4
 ·exact k
theorem ki_first {i p:Int} (k:KI c x):KI c (x.wm (firstU x.m i p)):=by
 unfold firstU
 split
 ·rename_i hc
  obtain ⟨h0,h1,h4,hp1,hp2⟩:=hc
  have n1:=k.ok.m.n1
  have:ncells (x.m.pg i.toNat)≤256:=Nat.div_le_self _ _
  exact ki_set k (firstP_t (by unfold bd63;omega) (k.ok.m.pg i.toNat (by omega))) h4
 ·exact k
theorem ki_own {i p:Int} {l:Bool} (k:KI c x):KI c (x.wm (ownU x.m i p l)):=by
 unfold ownU
 split
 ·rename_i hc
  obtain ⟨h0,h1,h4,hp1,hp2,hp3⟩:=hc
  have n1:=k.ok.m.n1
  have:ncells (x.m.pg i.toNat)≤256:=Nat.div_le_self _ _
  refine ki_set k (pown_t (by omega) (k.ok.m.pg i.toNat (by omega))) ?_
  unfold pown
  rw [if_neg (by omega),if_neg (by omega)];exact h4
 ·exact k
theorem ki_slab {i p:Int} (k:KI c x):KI c (x.wm (slabU x.m i p)):=by
 unfold slabU
 split
 ·rename_i hc
  exact ki_set k (slabP_t ⟨hc.2.2.1,hc.2.2.2⟩) rfl
 ·exact k
theorem ki_run {i:Int} (k:KI c x):KI c (x.wm (runI x.m i)):=by
 unfold runI
 split
 ·rename_i hc
  obtain ⟨_,_,h1,h2,h3,h4⟩:=hc
  have e:runU x.m i.toNat 0 2={ x.m with pg:=runP x.m.pg i.toNat 0 2 }:=by unfold runU;rw [if_pos ⟨Nat.zero_le _,h3,h4⟩]
  have:=run_b k.ok (i:=i.toNat) (r:=0) (.inr rfl)
  rw [e] at this
  exact ⟨this,k.e,k.g⟩
 ·exact k
theorem s_c0 (H:(sR c Q x pt).P h):cellAt h ⟨Q.sb,0,none⟩=some (gptr Q.pl.pb):=H.1.cell (i:=0) (by omega)
theorem s_pt (H:(sR c Q x pt).P h) {k:Nat} (hk:k<8):cellAt h (((⟨Q.sb,0,none⟩ : Addr).add 1).add (Int.toNat (k:Int)*1))=some (.int .i64 (pt k)):=by
 rw [add_mk,add_mk,Int.toNat_natCast,Nat.mul_one,Nat.zero_add,Nat.add_comm];exact H.1.cell (i:=k+1) (by omega)
theorem s_wr (H:(sR c Q x pt).P h) {k:Nat} (hk:k<8):Wr h (((⟨Q.sb,0,none⟩ : Addr).add 1).add (Int.toNat (k:Int)*1)):=by
 rw [add_mk,add_mk,Int.toNat_natCast,Nat.mul_one,Nat.zero_add,Nat.add_comm];exact H.1.wr (i:=k+1) (by omega)
theorem s_set (H:(sR c Q x pt).P h) {k:Nat} (hk:k<8) (v:Int):Stp h (setC h (((⟨Q.sb,0,none⟩ : Addr).add 1).add (Int.toNat (k:Int)*1)) (.int .i64 v)) (sR c Q x pt) (sR c Q x (fset pt k v)):=by
 rw [add_mk,add_mk,Int.toNat_natCast,Nat.mul_one,Nat.zero_add,Nat.add_comm 1 k]
 refine (Stp.set (f:=slF Q.pl.pb pt) H.1 (k+1) (.int .i64 v) fun j hj=>?_).left H
 cases j with
 | zero=>rw [if_neg (by omega)];rfl
 | succ j =>
  show _=Value.int .i64 (fset pt k v j)
  unfold fset
  by_cases e:j=k
  ·subst e;rw [if_pos rfl,if_pos rfl]
  ·rw [if_neg (by omega),if_neg e];rfl
theorem s_pl (H:(sR c Q x pt).P h):(plR c Q.pl x).P h:=H.2.1
theorem s_mp (H:(sR c Q x pt).P h):(mapR Q.pl.B.mb x.m Q.pl.B.w).P h:=bu_map (pl_bu H.2.1)
theorem s_sp (H:(sR c Q x pt).P h):(spR Q.pl.B.s c Q.pl.B.Z x.st).P h:=bu_sp (pl_bu H.2.1)
theorem s_map (H:(sR c Q x pt).P h) {m':MS} (ho:m'.o=x.m.o) (S:Stp h h' (mapR Q.pl.B.mb x.m Q.pl.B.w) (mapR Q.pl.B.mb m' Q.pl.B.w)):Stp h h' (sR c Q x pt) (sR c Q (x.wm m') pt) :=
 (pl_lift' (s_pl H) (bu_liftm (pl_bu (s_pl H)) ho S)).right H
theorem s_sto (H:(sR c Q x pt).P h) {st':Sto} (S:Stp h h' (spR Q.pl.B.s c Q.pl.B.Z x.st) (spR Q.pl.B.s c Q.pl.B.Z st')):Stp h h' (sR c Q x pt) (sR c Q (x.ws st') pt) :=
 (pl_lift' (s_pl H) (bu_liftsp (pl_bu (s_pl H)) S)).right H
theorem s_pool (H:(sR c Q x pt).P h) {x':BU} {P':PL} (hq:P'.pb=Q.pl.pb) (S:Stp h h' (plR c Q.pl x) (plR c P' x')):Stp h h' (sR c Q x pt) (sR c ⟨Q.sb,P'⟩ x' pt):=by
 have T:=S.right H
 unfold sR
 rw [hq]
 exact T
theorem at_ok {i:Int} (H:(mapR Q.pl.B.mb x.m Q.pl.B.w).P h) (hK:∀(b:Bool) h',Upd NoB h h'→K (.tuple #[pgv (pgA x.m i),.bool b]) h'):CallV Tryz.prog w₀ F.pagemap_Map_At [gptr Q.pl.B.mb,.int .i64 i] h K:=by
 refine pm_At_ok (o:=x.m.o) (n:=x.m.n) H (fun m e hm h1 u1=>?_) fun hn h1 u1=>?_
 ·subst e
  have:=hK true h1 u1
  unfold pgA at this
  rw [if_pos ⟨by omega,by omega⟩,Int.toNat_natCast] at this
  exact this
 ·have:=hK false h1 u1
  unfold pgA at this
  rw [if_neg hn] at this
  exact this
theorem chain_ok {i p q:Int} (k:KI c x) (H:(sR c Q x pt).P h) (hK:∀v h',Stp h h' (sR c Q x pt) (sR c Q (x.wm (chainU x.m i p q)) pt)→K (.int .i64 v) h') :
  CallV Tryz.prog w₀ F.pagemap_Map_Chain [gptr Q.pl.B.mb,.int .i64 i,.int .i64 p,.int .i64 q] h K:=by
 unfold chainU at hK
 refine pm_Chain_ok (o:=x.m.o) (n:=x.m.n) k.ok.m.n1 (s_mp H) (fun m e hm h4 p1 p2 q1 q2 h1 S=>?_) fun hn h1 u1=>?_
 ·subst e
  rw [if_pos (show chainOk x.m m p q from ⟨by omega,by omega,by rw [Int.toNat_natCast];exact h4,p1,p2,q1,q2⟩)] at hK
  exact hK _ _ (s_map (m':=setPg x.m m (chainP (x.m.pg (m:Int).toNat) p q)) H rfl (by simp only [setPg,Int.toNat_natCast];exact S))
 ·rw [if_neg (show ¬chainOk x.m i p q from hn)] at hK
  exact hK _ _ (Stp.quiet H u1)
theorem first_ok {i p:Int} (k:KI c x) (H:(sR c Q x pt).P h) (hK:∀v h',Stp h h' (sR c Q x pt) (sR c Q (x.wm (firstU x.m i p)) pt)→K (.int .i64 v) h') :
  CallV Tryz.prog w₀ F.pagemap_Map_First [gptr Q.pl.B.mb,.int .i64 i,.int .i64 p] h K:=by
 unfold firstU at hK
 refine pm_First_ok (o:=x.m.o) (n:=x.m.n) k.ok.m.pg (s_mp H) (fun m e hm h4 p1 p2 h1 S=>?_) fun hn h1 u1=>?_
 ·subst e
  rw [if_pos (show firstOk x.m m p from ⟨by omega,by omega,by rw [Int.toNat_natCast];exact h4,p1,by rw [Int.toNat_natCast];exact p2⟩)] at hK
  exact hK _ _ (s_map (m':=setPg x.m m (firstP (x.m.pg (m:Int).toNat) p)) H rfl (by simp only [setPg,Int.toNat_natCast];exact S))
 ·rw [if_neg (show ¬firstOk x.m i p from hn)] at hK
  exact hK _ _ (Stp.quiet H u1)
theorem own_ok {i p:Int} {l:Bool} (k:KI c x) (H:(sR c Q x pt).P h) (hK:∀v h',Stp h h' (sR c Q x pt) (sR c Q (x.wm (ownU x.m i p l)) pt)→K (.int .i64 v) h') :
  CallV Tryz.prog w₀ F.pagemap_Map_Own [gptr Q.pl.B.mb,.int .i64 i,.int .i64 p,.bool l] h K:=by
 unfold ownU at hK
 refine pm_Own_ok (o:=x.m.o) (n:=x.m.n) k.ok.m.pg (s_mp H) (fun m j e hm h4 ej hj hb h1 S=>?_) fun hn h1 u1=>?_
 ·subst e;subst ej
  rw [if_pos (show ownOk x.m m j l from ⟨by omega,by omega,by rw [Int.toNat_natCast];exact h4,by omega,by rw [Int.toNat_natCast];omega,by rw [Int.toNat_natCast,Int.toNat_natCast];exact hb⟩)] at hK
  exact hK _ _ (s_map (m':=setPg x.m m (pown (x.m.pg (m:Int).toNat) (j:Int).toNat l)) H rfl (by simp only [setPg,Int.toNat_natCast];exact S))
 ·rw [if_neg (show ¬ownOk x.m i p l from hn)] at hK
  exact hK _ _ (Stp.quiet H u1)
theorem slabm_ok {i p:Int} (H:(sR c Q x pt).P h) (hK:∀v h',Stp h h' (sR c Q x pt) (sR c Q (x.wm (slabU x.m i p)) pt)→K (.int .i64 v) h') :
  CallV Tryz.prog w₀ F.pagemap_Map_Slab [gptr Q.pl.B.mb,.int .i64 i,.int .i64 p] h K:=by
 unfold slabU at hK
 refine pm_Slab_ok (o:=x.m.o) (n:=x.m.n) (s_mp H) (fun m e hm p1 p2 h1 S=>?_) fun hn h1 u1=>?_
 ·subst e
  rw [if_pos (show slabOk x.m m p from ⟨by omega,by omega,p1,p2⟩)] at hK
  exact hK _ _ (s_map (m':=setPg x.m m (slabP p)) H rfl (by simp only [setPg,Int.toNat_natCast];exact S))
 ·rw [if_neg (show ¬slabOk x.m i p from hn)] at hK
  exact hK _ _ (Stp.quiet H u1)
theorem run1_ok {i:Int} (hi:bd63 i) (k:KI c x) (H:(sR c Q x pt).P h) (hK:∀v h',Stp h h' (sR c Q x pt) (sR c Q (x.wm (runI x.m i)) pt)→K (.int .i64 v) h') :
  CallV Tryz.prog w₀ F.pagemap_Map_Run [gptr Q.pl.B.mb,.int .i64 i,.int .i64 0,.int .i64 2] h K:=by
 unfold runI at hK
 refine pm_Run_ok (o:=x.m.o) (n:=x.m.n) k.ok.m.o8 k.ok.m.n1 hi (s_mp H) (fun m r e er hr h1 h2 hk h1' S=>?_) fun hn h1 u1=>?_
 ·subst e
  have er:r=0:=by omega
  subst er
  rw [if_pos (show runOk x.m m 0 2 from ⟨.inr rfl,by omega,by omega,by omega,by rw [Int.toNat_natCast];exact h1,by rw [Int.toNat_natCast];exact h2⟩)] at hK
  exact hK _ _ (s_map (m':={ x.m with pg:=runP x.m.pg (m:Int).toNat 0 2 }) H rfl (by simp only [Int.toNat_natCast];exact S))
 ·rw [if_neg (show ¬runOk x.m i 0 2 from hn)] at hK
  exact hK _ _ (Stp.quiet H u1)
theorem sset_ok {p v:Int} (hp:U64 p) (hv:U64 v) (H:(sR c Q x pt).P h) (hK:∀e h',Stp h h' (sR c Q x pt) (sR c Q (x.ws (wrU c x.st p v)) pt)→K (.int .i64 e) h') :
  CallV Tryz.prog w₀ F.mem_Space_SetWord [gptr Q.pl.B.s,.int .u64 p,.int .u64 v] h K:=by
 unfold wrU at hK
 refine mem_SetWord_ok hp hv (s_sp H) (fun t h1 u1 H1=>?_) fun t h1 u1=>?_
 ·rw [if_pos t] at hK
  exact hK _ _ (s_sto H ⟨u1,H1,fun b e=>.inl e⟩)
 ·rw [if_neg t] at hK
  exact hK _ _ (Stp.quiet H u1)
theorem sword_ok {p:Int} (hp:U64 p) (H:(sR c Q x pt).P h) (hK:∀e h',Upd NoB h h'→K (.tuple #[.int .u64 (rdU c x.st p),.int .i64 e]) h') :
  CallV Tryz.prog w₀ F.mem_Space_Word [gptr Q.pl.B.s,.int .u64 p] h K:=by
 unfold rdU at hK
 refine mem_Word_ok hp (s_sp H) (fun t h1 u1=>?_) fun t h1 u1=>?_
 ·rw [if_pos t] at hK
  exact hK _ _ u1
 ·rw [if_neg t] at hK
  exact hK _ _ u1
theorem base_ok (k:KI c x) (H:(sR c Q x pt).P h) (hK:K (.int .u64 c.base) h):CallV Tryz.prog w₀ F.slab_Slab_base [gptr Q.sb] h K:=by
 have s0:=s_c0 H
 refine slab_Slab_base.call ⟨_,rfl,_,s0,_,rfl,_,rfl,_,s0,_,rfl,ground_Space_ok (s_pl H) ⟨_,rfl,s0,ground_Map_ok (s_pl H) ⟨_,rfl,mem_End_ok (s_sp H) ⟨_,rfl,pm_Pages_ok (s_mp H) ⟨_,rfl,?_⟩⟩⟩⟩⟩
 have bb:=bu_bounds k.g k.ok.m
 have e:=k.span
 have e1:IntKind.wrap .u64 ((c.base+((x.st.n*c.size:Nat):Int))-(IntKind.wrap .u64 ((4096:Int)*(IntKind.wrap .u64 (x.m.n:Int)))))=c.base:=by
  rw [e,wU (z:=(x.m.n:Int)) (by unfold U64;omega),wU (z:=4096*(x.m.n:Int)) (by unfold U64;omega),wU (by unfold U64;omega)]
  omega
 rw [e1]
 exact hK
end
end Go.Proofs.YteemmpkhdllapaaGreatDoor
namespace Go.Proofs.YteemmpkhdllapaaGreatDoor
open Go.V Classical
noncomputable def hangM (m:MS) (pt:Nat→Int) (page:Int) (k:Nat):MS :=
 let m1:=chainU m page (pt k) (-1)
 if 0≤pt k then chainU m1 (pt k) (pgA m1 (pt k) 4) page else m1
noncomputable def unA (m:MS) (page:Int):MS :=
 if 0≤pgA m page 5 then chainU m (pgA m page 5) (pgA m page 4) (pgA m (pgA m page 5) 5) else m
noncomputable def unB (m:MS) (page:Int):MS :=
 if 0≤pgA m page 4 then chainU (unA m page) (pgA m page 4) (pgA (unA m page) (pgA m page 4) 4) (pgA m page 5) else unA m page
noncomputable def unhangM (m:MS) (page:Int):MS:=chainU (unB m page) page (-1) (-1)
noncomputable def unhangP (m:MS) (pt:Nat→Int) (page:Int) (k:Nat):Nat→Int:=if 0≤pgA m page 5 then pt else fset pt k (pgA m page 4)
noncomputable def findU (c:Cfg) (m:MS) (p:Int):Option (Nat×Nat) :=
 if p<c.base∨(m.n:Int)≤(p-c.base) / 4096 then none else
 let q:=((p-c.base) / 4096).toNat
 let off:=((p-c.base) % 4096).toNat
 let w:=wdt (m.pg q 2).toNat
 if m.pg q 0≠4∨off % w≠0 then none else
 if pbit (m.pg q) (off / w) then some (q,off / w) else none
section
variable {w₀:World} {h h':Heap} {c:Cfg} {Q:SL} {x:BU} {pt:Nat→Int} {K:Value→Heap→Prop}
theorem ki_hang {page:Int} {k:Nat} (H:KI c x):KI c (x.wm (hangM x.m pt page k)):=by
 unfold hangM
 simp only []
 split
 ·exact ki_chain (x:=x.wm (chainU x.m page (pt k) (-1))) (ki_chain H)
 ·exact ki_chain H
theorem ki_unA {page:Int} (H:KI c x):KI c (x.wm (unA x.m page)):=by
 unfold unA
 split
 ·exact ki_chain H
 ·exact H
theorem ki_unB {page:Int} (H:KI c x):KI c (x.wm (unB x.m page)):=by
 unfold unB
 split
 ·exact ki_chain (x:=x.wm (unA x.m page)) (ki_unA H)
 ·exact ki_unA H
theorem ki_unhang {page:Int} (H:KI c x):KI c (x.wm (unhangM x.m page)):=ki_chain (x:=x.wm (unB x.m page)) (ki_unB H)
theorem pg_at {h:Heap} {b:Nat} {P:Nat→Int} (H:(pgR b P).P h) {j:Nat} (hj:j<7):cellAt h ((⟨b,0,none⟩ : Addr).add j)=some (.int .i64 (P j)):=by
 have:=Blk.cell (f:=fun j=>pcl j (P j)) H (i:=j) (by omega)
 rw [add_mk,Nat.zero_add,this]
 unfold pcl
 rw [if_pos hj]
theorem pg_at0 {h:Heap} {b:Nat} {P:Nat→Int} (H:(pgR b P).P h):cellAt h (⟨b,0,none⟩ : Addr)=some (.int .i64 (P 0)):=Blk.cell (f:=fun j=>pcl j (P j)) H (i:=0) (by omega)
theorem hang_ok {page:Int} {k:Nat} (hk:k<8) (W:KI c x) (H:(sR c Q x pt).P h) (hK:∀h',Stp h h' (sR c Q x pt) (sR c Q (x.wm (hangM x.m pt page k)) (fset pt k page))→K (.tuple #[]) h') :
  CallV Tryz.prog w₀ F.slab_Slab_hang [gptr Q.sb,.int .i64 page,.int .i64 (k:Int)] h K:=by
 have s0:=s_c0 H
 have sp:=s_pt H hk
 refine slab_Slab_hang.call ⟨_,rfl,_,s0,_,rfl,_,rfl,by omega,by omega,_,sp,ground_Map_ok (s_pl H) ⟨_,rfl,sp,chain_ok W H fun v h1 S1=>⟨_,rfl,fun J3 hJ3=>?_⟩⟩⟩
 have W1:=ki_chain (i:=page) (p:=pt k) (q:=-1) W
 have fin:∀h2 m',hangM x.m pt page k=m'→Stp h h2 (sR c Q x pt) (sR c Q (x.wm m') pt)→J3 [gptr Q.sb,.int .i64 page,.int .i64 (k:Int)] h2:=fun h2 m' e S2 =>
  hJ3 _ _ _ _ ⟨_,rfl,by omega,by omega,s_wr S2.p hk,hK _ (by rw [e];exact S2.trans (s_set S2.p hk page))⟩
 by_cases hp:0≤pt k
 ·refine iT (by simpa using hp) (at_ok (s_mp S1.p) fun b h2 u2=>⟨_,_,_,_,_,_,_,_,_,_,_,_,rfl,?_⟩)
  obtain ⟨w3,N3⟩:=pg_lay h2 (pgA (chainU x.m page (pt k) (-1)) (pt k))
  have I:=((Own.of S1.p).quiet u2).new N3
  have B:=I.at 0
  refine ⟨w3,_,pg_at B (j:=4) (by omega),?_⟩
  refine chain_ok (Q:=Q) W1 (I.at 1) fun v h3 S3=>⟨_,rfl,fin h3 _ rfl ?_⟩
  have I3:=I.step 1 S3
  have e:hangM x.m pt page k=chainU (chainU x.m page (pt k) (-1)) (pt k) (pgA (chainU x.m page (pt k) (-1)) (pt k) 4) page:=by
   unfold hangM;simp only [];rw [if_pos hp]
  rw [e]
  exact S1.trans (I3.one 1)
 ·refine iF (by simpa using hp) (fin h1 _ ?_ S1)
  unfold hangM;simp only [];rw [if_neg hp]
theorem unhang_ok {page:Int} {k:Nat} (hk:k<8) (W:KI c x) (H:(sR c Q x pt).P h) (hK:∀h',Stp h h' (sR c Q x pt) (sR c Q (x.wm (unhangM x.m page)) (unhangP x.m pt page k))→K (.tuple #[]) h') :
  CallV Tryz.prog w₀ F.slab_Slab_unhang [gptr Q.sb,.int .i64 page,.int .i64 (k:Int)] h K:=by
 have s0:=s_c0 H
 refine slab_Slab_unhang.call ⟨_,rfl,_,s0,_,rfl,ground_Map_ok (s_pl H) ⟨_,rfl,at_ok (s_mp H) fun b h1 u1=>⟨_,_,_,_,_,_,_,_,_,_,_,_,rfl,?_⟩⟩⟩
 obtain ⟨w2,N2⟩:=pg_lay h1 (pgA x.m page)
 have I:=((Own.of H).quiet u1).new N2
 have B:=I.at 0
 have H2:=I.at 1
 refine ⟨w2,fun J5 hJ5=>?_⟩
 have half:∀h2,Go.V.Own h h2 (sR c Q x pt) [pgR h1.size (pgA x.m page),sR c Q (x.wm (unA x.m page)) (unhangP x.m pt page k)]→J5 [.int .i64 page,gptr Q.pl.B.mb,.pointer (some ⟨h1.size,0,none⟩)] h2:=fun h2 I2=>by
  refine hJ5 _ _ _ _ fun J6 hJ6=>?_
  have fin:∀h3,Stp h h3 (sR c Q x pt) (sR c Q (x.wm (unB x.m page)) (unhangP x.m pt page k))→J6 [.int .i64 page,gptr Q.pl.B.mb] h3:=fun h3 S3 =>
   hJ6 _ _ _ (chain_ok (ki_unB W) S3.p fun v h4 S4=>⟨_,rfl,hK _ (S3.trans S4)⟩)
  refine ⟨_,pg_at (I2.at 0) (j:=4) (by omega),?_⟩
  by_cases hn:0≤pgA x.m page 4
  ·refine iT (by simpa using hn) ⟨_,pg_at (I2.at 0) (j:=4) (by omega),at_ok (s_mp (I2.at 1)) fun b h3 u3=>⟨_,_,_,_,_,_,_,_,_,_,_,_,rfl,?_⟩⟩
   obtain ⟨w4,N4⟩:=pg_lay h3 (pgA (unA x.m page) (pgA x.m page 4))
   have I4:=(I2.quiet u3).new N4
   refine ⟨w4,_,pg_at (I4.at 1) (j:=4) (by omega),_,pg_at (I4.at 0) (j:=4) (by omega),_,pg_at (I4.at 1) (j:=5) (by omega),?_⟩
   refine chain_ok (ki_unA W) (I4.at 2) fun v h5 S5=>⟨_,rfl,fin _ ?_⟩
   have e:unB x.m page=chainU (unA x.m page) (pgA x.m page 4) (pgA (unA x.m page) (pgA x.m page 4) 4) (pgA x.m page 5):=by unfold unB;rw [if_pos hn]
   rw [e]
   exact (I4.step 2 S5).one 2
  ·refine iF (by simpa using hn) (fin _ ?_)
   have e:unB x.m page=unA x.m page:=by unfold unB;rw [if_neg hn]
   rw [e]
   exact I2.one 1
 refine ⟨_,pg_at B (j:=5) (by omega),?_⟩
 by_cases hp:0≤pgA x.m page 5
 ·refine iT (by simpa using hp) ⟨_,pg_at B (j:=5) (by omega),at_ok (s_mp H2) fun b h3 u3=>⟨_,_,_,_,_,_,_,_,_,_,_,_,rfl,?_⟩⟩
  obtain ⟨w4,N4⟩:=pg_lay h3 (pgA x.m (pgA x.m page 5))
  have I4:=(I.quiet u3).new N4
  refine ⟨w4,_,pg_at (I4.at 1) (j:=5) (by omega),_,pg_at (I4.at 1) (j:=4) (by omega),_,pg_at (I4.at 0) (j:=5) (by omega),?_⟩
  refine chain_ok W (I4.at 2) fun v h5 S5=>⟨_,rfl,half _ ?_⟩
  have e:unA x.m page=chainU x.m (pgA x.m page 5) (pgA x.m page 4) (pgA x.m (pgA x.m page 5) 5):=by unfold unA;rw [if_pos hp]
  have e2:unhangP x.m pt page k=pt:=by unfold unhangP;rw [if_pos hp]
  rw [e,e2]
  exact (I4.step 2 S5).drop
 ·refine iF (by simpa using hp) ⟨_,pg_at B (j:=4) (by omega),_,rfl,by omega,by omega,s_wr H2 hk,half _ ?_⟩
  have e:unA x.m page=x.m:=by unfold unA;rw [if_neg hp]
  have e2:unhangP x.m pt page k=fset pt k (pgA x.m page 4):=by unfold unhangP;rw [if_neg hp]
  rw [e,e2]
  exact I.step 1 (s_set H2 hk (pgA x.m page 4))
theorem find_ok {p:Int} (hp:U64 p) (W:KI c x) (T:TabH h (sR c Q x pt)) (H:(sR c Q x pt).P h)
  (hn:findU c x.m p=none→∀(a b:Int) (P:Nat→Int) h',Upd NoB h h'→K (.tuple #[.int .i64 a,.int .i64 b,pgv P,.bool false]) h')
  (hy:∀q k,findU c x.m p=some (q,k)→∀h',Upd NoB h h'→K (.tuple #[.int .i64 (q:Int),.int .i64 (k:Int),pgv (x.m.pg q),.bool true]) h') :
  CallV Tryz.prog w₀ F.slab_Slab_find [gptr Q.sb,.int .u64 p] h K:=by
 have hb:=bu_bounds W.g W.ok.m
 have N0:=pg_zero h
 have I0:=(Hold.nil h).new N0
 have H0:=(sR c Q x pt).st H N0.u fun _ _=>id
 have T0:=T.q N0.u
 have s0:=s_c0 H0
 unfold U64 at hp
 have no:∀(h2:Heap) (P:Nat→Int),findU c x.m p=none→Hold h h2 [pgR h.size P]→LD_api_Page h2 (⟨h.size,0,none⟩ : Addr) fun n0 n1 n2 n3 n4 n5 n6 n7 n8 n9 n10 =>
   WrN h2 ⟨h.size,0,none⟩ 11∧LD_api_Page (setCs h2 ⟨h.size,0,none⟩ 0 [.int .i64 n0,.int .i64 n1,.int .i64 n2,.int .i64 n3,.int .i64 n4,.int .i64 n5,.int .i64 n6,.int .u64 n7,.int .u64 n8,.int .u64 n9,.int .u64 n10]) ⟨h.size,0,none⟩ fun z0 z1 z2 z3 z4 z5 z6 z7 z8 z9 z10 =>
    K (.tuple #[.int .i64 0,.int .i64 0,.agg #[.int .i64 z0,.int .i64 z1,.int .i64 z2,.int .i64 z3,.int .i64 z4,.int .i64 z5,.int .i64 z6,.int .u64 z7,.int .u64 z8,.int .u64 z9,.int .u64 z10],.bool false]) (setCs h2 ⟨h.size,0,none⟩ 0 [.int .i64 n0,.int .i64 n1,.int .i64 n2,.int .i64 n3,.int .i64 n4,.int .i64 n5,.int .i64 n6,.int .u64 n7,.int .u64 n8,.int .u64 n9,.int .u64 n10]):=by
  intro h2 P hf I2
  refine pgR_ld (I2.at 0) ?_
  obtain ⟨w3,S3⟩:=pg_set P (I2.at 0)
  have I3:=I2.step 0 S3
  exact ⟨w3,pgR_ld (I3.at 0) (hn hf _ _ _ _ I3.u)⟩
 refine slab_Slab_find.call ⟨_,rfl,_,s0,_,rfl,ground_Map_ok (s_pl H0) ⟨_,rfl,base_ok W H0 ⟨_,rfl,fun J4 hJ4=>?_⟩⟩⟩
 by_cases h1:p<c.base
 ·exact pT (by simpa using h1) (hJ4 _ _ ⟨fun _=>no _ _ (by unfold findU;rw [if_pos (.inl h1)]) I0,fun e=>by cases e⟩)
 refine pF (by simpa using h1) ⟨by decide,pm_Pages_ok (s_mp H0) ⟨_,rfl,hJ4 _ _ ?_⟩⟩
 have e1:IntKind.wrap .u64 (p-c.base)=p-c.base:=wU (by unfold U64;omega)
 have e2:Int.tdiv (p-c.base) 4096=(p-c.base) / 4096:=Int.tdiv_eq_ediv_of_nonneg (by omega)
 have e3:IntKind.wrap .u64 ((p-c.base) / 4096)=(p-c.base) / 4096:=wU (by unfold U64;omega)
 have e4:IntKind.wrap .u64 (x.m.n:Int)=x.m.n:=wU (by unfold U64;omega)
 rw [e1,e2,e3,e4]
 by_cases h2:(x.m.n:Int)≤(p-c.base) / 4096
 ·exact ⟨fun _=>no _ _ (by unfold findU;rw [if_pos (.inr h2)]) I0,fun e=>by simp at e;omega⟩
 refine ⟨fun e=>by simp at e;omega,fun _=>⟨by decide,?_⟩⟩
 obtain ⟨q,hq⟩ : ∃q:Nat,(p-c.base) / 4096=q:=⟨((p-c.base) / 4096).toNat,by omega⟩
 obtain ⟨off,ho⟩ : ∃off:Nat,(p-c.base) % 4096=off:=⟨((p-c.base) % 4096).toNat,by omega⟩
 have hqn:q<x.m.n:=by omega
 have hoff:off<4096:=by omega
 have e5:IntKind.wrap .i64 (q:Int)=q:=wI (by unfold bd63;omega)
 have e6:Int.tmod (p-c.base) 4096=off:=by rw [Int.tmod_eq_emod_of_nonneg (by omega),ho]
 rw [hq,e5,e6]
 have hPA:pgA x.m (q:Int)=x.m.pg q:=by unfold pgA;rw [if_pos ⟨by omega,by omega⟩,Int.toNat_natCast]
 have PT:=W.ok.m.pg q hqn
 obtain ⟨cl,hcl⟩ : ∃cl:Nat,x.m.pg q 2=cl:=⟨(x.m.pg q 2).toNat,by have:=PT.c;omega⟩
 have hcl8:cl<8:=by have:=PT.c;omega
 have hw0:=wdt_pos cl
 have hf:findU c x.m p=if x.m.pg q 0≠4∨off % wdt cl≠0 then none else if pbit (x.m.pg q) (off / wdt cl) then some (q,off / wdt cl) else none:=by
  unfold findU
  rw [if_neg (by omega),hq,ho]
  simp only [Int.toNat_natCast,hcl]
 refine at_ok (s_mp H0) fun b h3 u3=>⟨_,_,_,_,_,_,_,_,_,_,_,_,rfl,?_⟩
 rw [hPA]
 have I3:=I0.quiet u3
 obtain ⟨w4,S4⟩:=pg_set (x.m.pg q) (I3.at 0)
 have I4:=I3.step 0 S4
 have T4:Tab _:=T.t.upd I4.u id
 refine ⟨w4,by decide,_,pg_at0 (I4.at 0),fun J8 hJ8=>?_⟩
 by_cases h4:x.m.pg q 0=4
 ·refine pF (eq_b h4) ⟨_,pg_at (I4.at 0) (j:=2) (by omega),by have:=PT.c;omega,by have:=PT.c;omega,(wdt cl:Int),T4.cell' hcl hcl8,by omega,hJ8 _ _ ?_⟩
  have e7:Int.tmod (off:Int) (wdt cl:Int)=((off % wdt cl:Nat):Int):=by rw [Int.tmod_eq_emod_of_nonneg (by omega)];rfl
  rw [e7]
  by_cases h5:off % wdt cl=0
  ·refine ⟨fun e=>by rw [h5] at e;simp at e,fun _=>⟨_,pg_at (I4.at 0) (j:=2) (by omega),by have:=PT.c;omega,by have:=PT.c;omega,(wdt cl:Int),T4.cell' hcl hcl8,by omega,?_⟩⟩
   refine pgR_ld (I4.at 0) ?_
   have e8:Int.tdiv (off:Int) (wdt cl:Int)=((off / wdt cl:Nat):Int):=by rw [Int.tdiv_eq_ediv_of_nonneg (by omega)];rfl
   obtain ⟨k,hk⟩ : ∃k,k=off / wdt cl:=⟨_,rfl⟩
   have hk2:k<256:=by
    rw [hk]
    refine Nat.div_lt_of_lt_mul ?_
    have:16≤wdt cl:=by unfold wdt;have:=Nat.two_pow_pos cl;omega
    have:=Nat.mul_le_mul_right 256 this
    omega
   have e9:IntKind.wrap .u64 (k:Int)=k:=wU (by unfold U64;omega)
   have e10:IntKind.wrap .i64 (k:Int)=k:=wI (by unfold bd63;omega)
   have e11:Int.tdiv (k:Int) 64=((k / 64:Nat):Int):=by rw [Int.tdiv_eq_ediv_of_nonneg (by omega)];rfl
   have e12:IntKind.wrap .i64 ((k / 64:Nat):Int)=((k / 64:Nat):Int):=wI (by unfold bd63;omega)
   have e13:Int.tmod (k:Int) 64=((k % 64:Nat):Int):=by rw [Int.tmod_eq_emod_of_nonneg (by omega)];rfl
   rw [e8,←hk,e9,e10,e11,e12,e13]
   have h7:=PT.u (7+k / 64) (by omega) (by omega)
   obtain ⟨y,hy7⟩ : ∃y:Nat,x.m.pg q (7+k / 64)=y:=⟨(x.m.pg q (7+k / 64)).toNat,by omega⟩
   have hc7:cellAt (setCs h3 ⟨h.size,0,none⟩ 0 (pgL (x.m.pg q))) (((⟨h.size,0,none⟩ : Addr).add 7).add (Int.toNat ((k / 64:Nat):Int)*1))=some (.int .u64 (y:Int)):=by
    have:=Blk.cell (f:=fun j=>pcl j (x.m.pg q j)) (I4.at 0) (i:=7+k / 64) (by omega)
    rw [add_mk,add_mk,Int.toNat_natCast,Nat.mul_one,Nat.zero_add,this]
    unfold pcl
    rw [if_neg (by omega),hy7]
   refine ⟨by decide,by omega,by omega,_,hc7,by decide,by omega,?_⟩
   obtain ⟨w5,S5⟩:=pg_set (x.m.pg q) (I4.at 0)
   have I5:=I4.step 0 S5
   refine ⟨w5,pgR_ld (I5.at 0) ?_⟩
   rw [shr_and_one (by omega) (by omega)]
   have hpb:y.testBit (k % 64)=pbit (x.m.pg q) k:=by unfold pbit;rw [hy7];rfl
   rw [hpb]
   rw [←hk,if_neg (by omega)] at hf
   cases hpk:pbit (x.m.pg q) k with
   | true =>
    rw [hpk,if_pos rfl] at hf
    exact hy _ _ hf _ I5.u
   | false =>
    rw [hpk,if_neg (by decide)] at hf
    exact hn hf _ _ _ _ I5.u
  ·refine ⟨fun _=>no _ _ (by rw [hf,if_pos (.inr h5)]) I4,fun e=>?_⟩
   rw [bne_eq_false_iff_eq] at e
   exact absurd e (by omega)
 ·exact pT (ne_b h4) (hJ8 _ _ ⟨fun _=>no _ _ (by rw [hf,if_pos (.inl h4)]) I4,fun e=>by cases e⟩)
noncomputable def sizeU (c:Cfg) (m:MS) (p:Int):Int:=match findU c m p with
 | none=>0
 | some (q,_)=>wdt (m.pg q 2).toNat
theorem findU_lt {p:Int} {q k:Nat} {m:MS} (h:findU c m p=some (q,k)):q<m.n∧m.pg q 0=4∧pbit (m.pg q) k=true∧p=adr c q+((k*wdt (m.pg q 2).toNat:Nat):Int):=by
 unfold findU at h
 simp only [] at h
 split at h
 ·cases h
 ·rename_i h1
  split at h
  ·cases h
  ·rename_i h2
   split at h
   ·rename_i h3
    cases h
    have h4:m.pg ((p-c.base) / 4096).toNat 0=4:=Classical.byContradiction fun hc=>h2 (.inl hc)
    have h5:((p-c.base) % 4096).toNat % wdt (m.pg ((p-c.base) / 4096).toNat 2).toNat=0:=Classical.byContradiction fun hc=>h2 (.inr hc)
    refine ⟨by omega,h4,h3,?_⟩
    rw [Nat.div_mul_cancel (Nat.dvd_of_mod_eq_zero h5)]
    unfold adr
    omega
   ·cases h
theorem size_ok {p:Int} (hp:U64 p) (W:KI c x) (T:TabH h (sR c Q x pt)) (H:(sR c Q x pt).P h) (hK:∀h',Upd NoB h h'→K (.int .u64 (sizeU c x.m p)) h') :
  CallV Tryz.prog w₀ F.slab_Slab_Size [gptr Q.sb,.int .u64 p] h K:=by
 refine slab_Slab_Size.call ?_
 refine find_ok hp W T H (fun hf a b P h1 u1=>⟨_,_,_,_,_,_,_,_,_,_,_,_,_,_,rfl,?_⟩) fun q k hf h1 u1=>⟨_,_,_,_,_,_,_,_,_,_,_,_,_,_,rfl,?_⟩
 ·obtain ⟨w2,N2⟩:=pg_lay h1 P
  refine ⟨w2,iT rfl ?_⟩
  have:=hK _ (u1.nx N2.u fun _ e=>e.elim)
  unfold sizeU at this
  rw [hf] at this
  exact this
 ·obtain ⟨w2,N2⟩:=pg_lay h1 (x.m.pg q)
  have T2:=(T.q u1).q N2.u
  obtain ⟨f1,f2,f3,f4⟩:=findU_lt hf
  have PT:=W.ok.m.pg q f1
  obtain ⟨cl,hcl⟩ : ∃cl:Nat,x.m.pg q 2=cl:=⟨(x.m.pg q 2).toNat,by have:=PT.c;omega⟩
  have hcl8:cl<8:=by have:=PT.c;omega
  refine ⟨w2,iF rfl ⟨_,pg_at N2.p (j:=2) (by omega),by have:=PT.c;omega,by have:=PT.c;omega,(wdt cl:Int),T2.t.cell' hcl hcl8,?_⟩⟩
  have:=hK _ (u1.nx N2.u fun _ e=>e.elim)
  unfold sizeU at this
  rw [hf] at this
  simp only [hcl,Int.toNat_natCast] at this
  exact this
end
end Go.Proofs.YteemmpkhdllapaaGreatDoor
namespace Go.Proofs.YteemmpkhdllapaaGreatDoor
open Go.V Classical
structure Sz (x x':BU):Prop where
 s:x'.st.n=x.st.n
 n:x'.m.n=x.m.n
 o:x'.m.o=x.m.o
theorem Sz.refl (x:BU):Sz x x:=⟨rfl,rfl,rfl⟩
theorem Sz.trans {x y z:BU} (a:Sz x y) (b:Sz y z):Sz x z:=⟨b.s.trans a.s,b.n.trans a.n,b.o.trans a.o⟩
theorem push_sz (c:Cfg) (y:LS) (p:Int):(pushU c y p).1.st.n=y.st.n:=by
 unfold pushU
 split
 ·rfl
 ·split
  ·rfl
  ·simp only [];split<;>rfl
theorem remove_sz (c:Cfg) (y:LS) (p:Int):(removeU c y p).1.st.n=y.st.n:=by
 unfold removeU
 split
 ·rfl
 ·split
  ·rfl
  ·simp only [];split<;>split<;>rfl
theorem pop_sz (c:Cfg) (y:LS):(popU c y).1.st.n=y.st.n:=by
 unfold popU
 split
 ·rfl
 ·split<;>exact remove_sz c y y.hd
theorem enter_sz (c:Cfg) (x:BU) (i k:Nat):Sz x (enterU c x i k):=⟨push_sz _ _ _,by simp,by simp⟩
theorem cut_sz (c:Cfg) (page to:Nat):∀(d:Nat) (x:BU),Sz x (cutU c page to x d)
 | 0,x=>⟨rfl,by simp [cutU],by simp [cutU]⟩
 | d+1,x=>by
  have h1:=enter_sz c x (page+2 ^ (to+d)) (to+d)
  have h2:Sz (enterU c x (page+2 ^ (to+d)) (to+d)) { enterU c x (page+2 ^ (to+d)) (to+d) with m:=(turnU (enterU c x (page+2 ^ (to+d)) (to+d)).m (page+2 ^ (to+d)) (to+d)).1 }:=⟨rfl,by simp,by simp⟩
  exact (h1.trans h2).trans (cut_sz c page to d _)
theorem takeF_sz (c:Cfg) (o:Nat):∀(d:Nat) (x:BU),Sz x (takeF c o x d).1
 | 0,x=>Sz.refl x
 | d+1,x=>by
  have hp:Sz x (x.put (x.m.o-d) (popU c ⟨x.st,x.hd (x.m.o-d)⟩).1):=⟨pop_sz c ⟨x.st,x.hd (x.m.o-d)⟩,rfl,rfl⟩
  unfold takeF
  simp only []
  split
  ·exact takeF_sz c o d x
  ·split
   ·exact hp
   ·split
    ·exact hp
    ·rename_i page _
     exact hp.trans (Sz.trans (y:={ x.put (x.m.o-d) (popU c ⟨x.st,x.hd (x.m.o-d)⟩).1 with m:=(turnU (x.put (x.m.o-d) (popU c ⟨x.st,x.hd (x.m.o-d)⟩).1).m page (x.m.o-d)).1 }) ⟨rfl,by simp,by simp⟩ (cut_sz c page o _ _))
theorem take_sz (c:Cfg) (x:BU) (o:Int):Sz x (takeU c x o).1:=by
 unfold takeU
 split
 ·exact Sz.refl x
 ·exact takeF_sz c _ _ x
theorem up_sz (c:Cfg):∀(d:Nat) (x:BU) (page k:Nat),Sz x (upU c x page k d).1
 | d,x,page,k=>by
  have ht:Sz x { x with m:=(turnU x.m page k).1 }:=⟨rfl,by simp,by simp⟩
  unfold upU
  split
  ·exact ht.trans (enter_sz c _ _ _)
  ·cases d with
   | zero=>exact Sz.refl x
   | succ d =>
    have hr:Sz x (BU.put { x with m:=(turnU x.m page k).1 } k (removeU c ⟨x.st,x.hd k⟩ (adr c (bud page k))).1):=⟨remove_sz c ⟨x.st,x.hd k⟩ _,by simp,by simp⟩
    simp only []
    split
    ·exact hr
    ·exact hr.trans (up_sz c d _ _ _)
theorem give_sz (c:Cfg) (x:BU) (p o:Int):Sz x (giveU c x p o).1:=by
 unfold giveU
 split
 ·exact Sz.refl x
 ·exact up_sz c _ x _ _
theorem feed_sz (c:Cfg) (x:BU):Sz x (feedU c x).1:=by
 unfold feedU
 split
 ·exact Sz.refl x
 ·split<;>exact give_sz c x _ _
theorem KI.sz {c:Cfg} {x x':BU} (k:KI c x) (ok:BU.Ok c x') (s:Sz x x'):KI c x':=⟨ok,by rw [s.n,s.s,s.o];exact k.e,k.g⟩
theorem takeF_adr {c:Cfg} (g:c.Good) {o:Nat}:∀(d:Nat) (x:BU),(takeF c o x d).2.2=0→∃q,q<x.m.n∧(takeF c o x d).2.1=adr c q
 | 0,x,h=>by simp [takeF] at h
 | d+1,x,h=>by
  unfold takeF at h ⊢
  simp only [] at h ⊢
  split at h
  ·rename_i h1;rw [if_pos h1];exact takeF_adr g d x h
  ·rename_i h1
   rw [if_neg h1]
   split at h
   ·simp at h
   ·rename_i h2
    rw [if_neg h2]
    split at h
    ·simp at h
    ·rename_i page hp
     obtain ⟨q1,q2⟩:=pageU_out g hp
     exact ⟨page,q1,by simp only [hp];exact q2⟩
theorem take_adr {c:Cfg} (g:c.Good) {x:BU} {o:Int} (h:(takeU c x o).2.2=0):∃q,q<x.m.n∧(takeU c x o).2.1=adr c q:=by
 unfold takeU at h ⊢
 split at h
 ·simp at h
 ·rename_i h1;rw [if_neg h1];exact takeF_adr g _ x h
noncomputable def needU (c:Cfg) (x:BU) (o:Int) (deny:Bool):BU×Int×Bool×Int :=
 if (takeU c x o).2.2≠2 then ((takeU c x o).1,(takeU c x o).2.1,false,(takeU c x o).2.2)
 else if deny=true∨(x.st.n:Int)=c.limit then ((takeU c x o).1,0,false,2)
 else
  let y:BU:=⟨growS c (takeU c x o).1.st,(takeU c x o).1.hd,mGrow (takeU c x o).1.m⟩
  let t:=takeU c (feedU c y).1 o
  (t.1,t.2.1,decide (t.2.2=0),t.2.2)
theorem KI.room {c:Cfg} {x:BU} (W:KI c x) (hl:(x.st.n:Int)<c.limit):x.m.n+2 ^ x.m.o≤1024:=by
 have h1:=W.g.pg
 have h2:c.order.toNat=x.m.o:=by have:=W.ok.o;omega
 rw [h2] at h1
 have h3:((x.st.n+1:Nat):Int)*((2 ^ x.m.o:Nat):Int)≤c.limit*((2 ^ x.m.o:Nat):Int):=Int.mul_le_mul_of_nonneg_right (by omega) (Int.natCast_nonneg _)
 have h4:(((x.st.n+1)*2 ^ x.m.o:Nat):Int)≤1024:=by rw [Int.natCast_mul];exact Int.le_trans h3 h1
 rw [W.e,←Nat.succ_mul]
 exact Int.ofNat_le.1 h4
theorem KI.grow {c:Cfg} {x:BU} (W:KI c x) (hl:(x.st.n:Int)<c.limit):KI c ⟨growS c x.st,x.hd,mGrow x.m⟩:=by
 have hr:=W.room hl
 refine ⟨grow_b W.ok hr _,?_,W.g⟩
 rw [grow_eq hr]
 show x.m.n+2 ^ x.m.o=(x.st.n+1)*2 ^ x.m.o
 rw [W.e,Nat.succ_mul]
structure SL.Same (Q Q':SL):Prop where
 sb:Q'.sb=Q.sb
 pb:Q'.pl.pb=Q.pl.pb
 s:Q'.pl.B.s=Q.pl.B.s
 mb:Q'.pl.B.mb=Q.pl.B.mb
 b:Q'.pl.B.b=Q.pl.B.b
theorem SL.Same.refl (Q:SL):SL.Same Q Q:=⟨rfl,rfl,rfl,rfl,rfl⟩
theorem SL.Same.trans {a b d:SL} (h:SL.Same a b) (k:SL.Same b d):SL.Same a d:=⟨k.sb.trans h.sb,k.pb.trans h.pb,k.s.trans h.s,k.mb.trans h.mb,k.b.trans h.b⟩
section
variable {w₀:World} {h h':Heap} {c:Cfg} {Q:SL} {x:BU} {pt:Nat→Int} {K:Value→Heap→Prop}
theorem need_u {o:Int} {deny:Bool} (W:KI c x) (H:(sR c Q x pt).P h)
  (hK:∀h' Q',SL.Same Q Q'→KI c (needU c x o deny).1→((needU c x o deny).2.2.2=0→∃q,q<(needU c x o deny).1.m.n∧(needU c x o deny).2.1=adr c q)→Stp h h' (sR c Q x pt) (sR c Q' (needU c x o deny).1 pt) →
   K (.tuple #[.int .u64 (needU c x o deny).2.1,.bool (needU c x o deny).2.2.1,.int .i64 (needU c x o deny).2.2.2]) h') :
  CallV Tryz.prog w₀ F.region_Pool_Need [gptr Q.pl.pb,.int .i64 o,.bool deny] h K:=by
 have Hp:=s_pl H
 refine region_Pool_Need.call ⟨_,rfl,_,pl_c2 Hp,?_⟩
 refine bu_Take_ok W.ok (pl_bu Hp) fun h1 ok1 o1 S1=>⟨_,_,rfl,?_⟩
 have T1:=s_pool (P':=Q.pl) H rfl (pl_lift' Hp S1)
 have z1:=take_sz c x o
 have W1:=W.sz ok1 z1
 by_cases h2:(takeU c x o).2.2=2
 case neg =>
  refine iT (ne_b h2) ?_
  have e:needU c x o deny=((takeU c x o).1,(takeU c x o).2.1,false,(takeU c x o).2.2):=by unfold needU;rw [if_pos h2]
  have:=hK h1 Q (.refl Q)
  rw [e] at this
  exact this W1 (fun h0=>by obtain ⟨q,a,b⟩:=take_adr W.g h0;exact ⟨q,by rw [z1.n];exact a,b⟩) T1
 refine iF (eq_b h2) ⟨_,rfl,_,pl_c0 (s_pl T1.p),?_⟩
 by_cases hd:deny=true∨(x.st.n:Int)=c.limit
 ·have e:needU c x o deny=((takeU c x o).1,0,false,2):=by unfold needU;rw [if_neg (not_not.2 h2),if_pos hd]
  refine mem_Commit_ok (s_sp T1.p) (fun _=>⟨_,_,rfl,iT rfl ?_⟩) fun hd' hl=>absurd hd (by rw [z1.s] at hl;intro hc;rcases hc with hc | hc;exact absurd hc (by simp [hd']);omega)
  have:=hK h1 Q (.refl Q)
  rw [e] at this
  exact this W1 (fun h0=>absurd (show (2:Int)=0 from h0) (by decide)) T1
 have hd0:deny=false:=by cases deny;rfl;exact absurd (.inl rfl) hd
 subst hd0
 have hl:(x.st.n:Int)<c.limit:=by
  have:(x.st.n:Int)≤c.limit:=(s_sp H).nl
  have:(x.st.n:Int)≠c.limit:=fun e=>hd (.inr e)
  omega
 have hl1:((takeU c x o).1.st.n:Int)<c.limit:=by rw [z1.s];exact hl
 refine commit_ok (s_sp T1.p) hl1 fun Z' h2' S2=>⟨_,_,rfl,iF rfl ?_⟩
 have T2:=T1.trans (s_pool (Q:=Q) (P':=⟨Q.pl.pb,{ Q.pl.B with Z:=Z' }⟩) T1.p rfl (pl_lift (s_pl T1.p) (B':={ Q.pl.B with Z:=Z' }) ⟨rfl,rfl,rfl⟩ (bu_liftZ (pl_bu (s_pl T1.p)) S2)))
 have H2:=T2.p
 have k1:=pl_c1 (s_pl H2)
 refine ⟨_,rfl,_,k1,?_⟩
 refine pm_Grow_ok W1.ok.m (s_mp (x:=⟨growS c (takeU c x o).1.st,(takeU c x o).1.hd,(takeU c x o).1.m⟩) H2) fun h3 w' S3=>⟨rfl,?_⟩
 have W3:=W1.grow hl1
 have hro:(mGrow (takeU c x o).1.m).o=(takeU c x o).1.m.o:=by rw [grow_eq (W1.room hl1)]
 have T3:=T2.trans (s_pool (Q:=⟨Q.sb,⟨Q.pl.pb,{ Q.pl.B with Z:=Z' }⟩⟩) (P':=⟨Q.pl.pb,{ Q.pl.B with Z:=Z',w:=w' }⟩) H2 rfl
  (pl_lift (x':=⟨growS c (takeU c x o).1.st,(takeU c x o).1.hd,mGrow (takeU c x o).1.m⟩) (s_pl H2) (B':={ Q.pl.B with Z:=Z',w:=w' }) ⟨rfl,rfl,rfl⟩ (bu_liftw (x:=⟨growS c (takeU c x o).1.st,(takeU c x o).1.hd,(takeU c x o).1.m⟩) (pl_bu (s_pl H2)) hro S3)))
 have H3:=T3.p
 have k2:=pl_c2 (s_pl H3)
 refine ⟨_,rfl,_,k2,?_⟩
 refine bu_Feed_ok W3.ok (pl_bu (s_pl H3)) fun h4 ok4 o4 S4=>⟨_,rfl,?_⟩
 have T4:=T3.trans (s_pool (Q:=⟨Q.sb,⟨Q.pl.pb,{ Q.pl.B with Z:=Z',w:=w' }⟩⟩) (P':=⟨Q.pl.pb,{ Q.pl.B with Z:=Z',w:=w' }⟩) H3 rfl (pl_lift' (s_pl H3) S4))
 have W4:=W3.sz ok4 (feed_sz c _)
 have H4:=T4.p
 have k3:=pl_c2 (s_pl H4)
 refine ⟨_,rfl,_,k3,?_⟩
 refine bu_Take_ok W4.ok (pl_bu (s_pl H4)) fun h5 ok5 o5 S5=>⟨_,_,rfl,?_⟩
 have T5:=T4.trans (s_pool (Q:=⟨Q.sb,⟨Q.pl.pb,{ Q.pl.B with Z:=Z',w:=w' }⟩⟩) (P':=⟨Q.pl.pb,{ Q.pl.B with Z:=Z',w:=w' }⟩) H4 rfl (pl_lift' (s_pl H4) S5))
 have z5:=take_sz c (feedU c ⟨growS c (takeU c x o).1.st,(takeU c x o).1.hd,mGrow (takeU c x o).1.m⟩).1 o
 have W5:=W4.sz ok5 z5
 have e:needU c x o false=((takeU c (feedU c ⟨growS c (takeU c x o).1.st,(takeU c x o).1.hd,mGrow (takeU c x o).1.m⟩).1 o).1,(takeU c (feedU c ⟨growS c (takeU c x o).1.st,(takeU c x o).1.hd,mGrow (takeU c x o).1.m⟩).1 o).2.1,
   decide ((takeU c (feedU c ⟨growS c (takeU c x o).1.st,(takeU c x o).1.hd,mGrow (takeU c x o).1.m⟩).1 o).2.2=0),(takeU c (feedU c ⟨growS c (takeU c x o).1.st,(takeU c x o).1.hd,mGrow (takeU c x o).1.m⟩).1 o).2.2):=by
  unfold needU;rw [if_neg (not_not.2 h2),if_neg hd]
 have:=hK h5 ⟨Q.sb,⟨Q.pl.pb,{ Q.pl.B with Z:=Z',w:=w' }⟩⟩ ⟨rfl,rfl,rfl,rfl,rfl⟩
 rw [e] at this
 have e2:((takeU c (feedU c ⟨growS c (takeU c x o).1.st,(takeU c x o).1.hd,mGrow (takeU c x o).1.m⟩).1 o).2.2 == (0:Int))=decide ((takeU c (feedU c ⟨growS c (takeU c x o).1.st,(takeU c x o).1.hd,mGrow (takeU c x o).1.m⟩).1 o).2.2=0):=rfl
 rw [e2]
 exact this W5 (fun h0=>by obtain ⟨q,a,b⟩:=take_adr W.g h0;exact ⟨q,by rw [z5.n];exact a,b⟩) T5
theorem give_u {p o:Int} (hp:U64 p) (W:KI c x) (H:(sR c Q x pt).P h)
  (hK:∀h',KI c (giveU c x p o).1→Stp h h' (sR c Q x pt) (sR c Q (giveU c x p o).1 pt)→K (.int .i64 (giveU c x p o).2) h') :
  CallV Tryz.prog w₀ F.region_Pool_Give [gptr Q.pl.pb,.int .u64 p,.int .i64 o] h K :=
 region_Pool_Give.call ⟨_,rfl,_,pl_c2 (s_pl H),bu_Give_ok hp W.ok (pl_bu (s_pl H)) fun h1 ok1 o1 S1=>⟨_,rfl,hK h1 (W.sz ok1 (give_sz c x p o)) (s_pool (P':=Q.pl) H rfl (pl_lift' (s_pl H) S1))⟩⟩
def linkS (c:Cfg) (st:Sto) (a:Int) (w n:Nat):Nat→Sto
 | 0=>st
 | i+1=>(linkS c st a w n i).wr c (a+((i*w:Nat):Int)) (if i+1=n then 0 else a+(((i+1)*w:Nat):Int))
@[simp] theorem linkS_n (c:Cfg) (st:Sto) (a:Int) (w n:Nat):∀i,(linkS c st a w n i).n=st.n
 | 0=>rfl
 | i+1=>by simp [linkS,linkS_n c st a w n i]
def cnt (k:Nat):Nat:=256 / 2 ^ k
theorem k8 {k:Nat} (hk:k<8):k=0∨k=1∨k=2∨k=3∨k=4∨k=5∨k=6∨k=7:=by omega
theorem cnt_wdt {k:Nat} (hk:k<8):cnt k*wdt k=4096∧4096 / wdt k=cnt k∧2≤cnt k∧cnt k≤256∧16≤wdt k∧wdt k≤2048:=by
 rcases k8 hk with rfl | rfl | rfl | rfl | rfl | rfl | rfl | rfl<;>decide
noncomputable def bornU (c:Cfg) (x:BU) (pt:Nat→Int) (q k:Nat):BU×(Nat→Int) :=
 (⟨linkS c x.st (adr c q) (wdt k) (cnt k) (cnt k),x.hd,hangM (firstU (slabU x.m q k) q 0) pt q k⟩,fset pt k q)
theorem ki_born {q k:Nat} (W:KI c x):KI c (bornU c x pt q k).1:=by
 have W1:=ki_slab (i:=q) (p:=k) W
 have W2:=ki_first (x:=x.wm (slabU x.m q k)) (i:=q) (p:=0) W1
 have W3:=ki_hang (x:=x.wm (firstU (slabU x.m q k) q 0)) (pt:=pt) (page:=q) (k:=k) W2
 exact ki_sto W3 (by simp)
theorem born_ok {q k:Nat} (hk:k<8) (hq:q<x.m.n) (W:KI c x) (T:TabH h (sR c Q x pt)) (H:(sR c Q x pt).P h)
  (hK:∀h',Stp h h' (sR c Q x pt) (sR c Q (bornU c x pt q k).1 (bornU c x pt q k).2)→K (.int .i64 (q:Int)) h') :
  CallV Tryz.prog w₀ F.slab_Slab_born [gptr Q.sb,.int .u64 (adr c q),.int .i64 (k:Int)] h K:=by
 have s0:=s_c0 H
 have bb:=bu_bounds W.g W.ok.m
 obtain ⟨c1,c2,c3,c4,c5,c6⟩:=cnt_wdt hk
 have sp4:=W.span
 refine slab_Slab_born.call ⟨_,rfl,_,s0,_,rfl,_,rfl,_,s0,_,rfl,ground_Map_ok (s_pl H) ⟨_,rfl,s0,ground_Space_ok (s_pl H) ⟨_,rfl,base_ok W H ⟨_,rfl,by decide,?_⟩⟩⟩⟩
 have e1:IntKind.wrap .u64 (adr c q-c.base)=((4096*q:Nat):Int):=by unfold adr;rw [wU (by unfold U64;omega)];omega
 have e2:Int.tdiv ((4096*q:Nat):Int) 4096=(q:Int):=by rw [Int.tdiv_eq_ediv_of_nonneg (by omega)];omega
 have e3:IntKind.wrap .u64 (q:Int)=q:=wU (by unfold U64;omega)
 have e4:IntKind.wrap .i64 (q:Int)=q:=wI (by unfold bd63;omega)
 rw [e1,e2,e3,e4]
 refine slabm_ok H fun v h1 S1=>⟨_,rfl,by omega,by omega,(wdt k:Int),(T.st S1).t.cell hk,by omega,?_⟩
 have W1:=ki_slab (i:=q) (p:=k) W
 have e5:Int.tdiv 4096 (wdt k:Int)=(cnt k:Int):=by
  rw [Int.tdiv_eq_ediv_of_nonneg (by omega),←c2];rfl
 have e6:IntKind.wrap .u64 (cnt k:Int)=cnt k:=wU (by unfold U64;omega)
 rw [e5,e6]
 intro J5 hJ5 L8 hL8
 have fin:∀h2,Stp h h2 (sR c Q x pt) (sR c Q ((x.wm (slabU x.m q k)).ws (linkS c x.st (adr c q) (wdt k) (cnt k) (cnt k))) pt)→J5 [gptr Q.sb,.int .i64 (k:Int),gptr Q.pl.B.mb,.int .i64 (q:Int)] h2:=by
  intro h2 S2
  have W2:KI c ((x.wm (slabU x.m q k)).ws (linkS c x.st (adr c q) (wdt k) (cnt k) (cnt k))):=ki_sto W1 (by simp)
  refine hJ5 _ _ _ _ _ (first_ok W2 S2.p fun v h3 S3=>⟨_,rfl,?_⟩)
  have W3:=ki_first (i:=q) (p:=0) W2
  exact hang_ok hk W3 S3.p fun h4 S4=>⟨rfl,hK _ (S2.trans (S3.trans S4))⟩
 have loop:∀(d i:Nat) (h2:Heap),i+d=cnt k→Stp h h2 (sR c Q x pt) (sR c Q ((x.wm (slabU x.m q k)).ws (linkS c x.st (adr c q) (wdt k) (cnt k) i)) pt) →
   L8 [gptr Q.sb,.int .u64 (adr c q),.int .i64 (k:Int),gptr Q.pl.B.mb,gptr Q.pl.B.s,.int .i64 (q:Int),.int .u64 (cnt k:Int),.int .u64 (cnt k:Int),.int .u64 (i:Int)] h2:=by
  intro d
  induction d with
  | zero =>
   intro i h2 hi S2
   have hi:i=cnt k:=by omega
   subst hi
   exact hL8 _ _ _ _ _ _ _ _ _ _ (iF (by simp) (fin h2 S2))
  | succ d ih =>
   intro i h2 hi S2
   have hlt:i<cnt k:=by omega
   have hm:i*wdt k+wdt k≤4096:=by
    rw [←c1,←Nat.succ_mul];exact Nat.mul_le_mul_right _ hlt
   have T2:=T.st S2
   have ei:IntKind.wrap .u64 ((i:Int)+1)=((i+1:Nat):Int):=by rw [wU (by unfold U64;omega)];omega
   refine hL8 _ _ _ _ _ _ _ _ _ _ (iT (by simpa using hlt) ⟨by omega,by omega,(wdt k:Int),T2.t.cell hk,fun J9 hJ9=>?_⟩)
   rw [ei]
   have e8:IntKind.wrap .u64 ((i:Int)*(wdt k:Int))=((i*wdt k:Nat):Int):=by
    rw [←Int.natCast_mul,wU (by unfold U64;omega)]
   have e9:IntKind.wrap .u64 (adr c q+((i*wdt k:Nat):Int))=adr c q+((i*wdt k:Nat):Int):=wU (by unfold adr U64;omega)
   have next:∀v:Int,U64 v→v=(if i+1=cnt k then 0 else adr c q+(((i+1)*wdt k:Nat):Int)) →
     J9 [gptr Q.sb,.int .u64 (adr c q),.int .i64 (k:Int),gptr Q.pl.B.mb,gptr Q.pl.B.s,.int .i64 (q:Int),.int .u64 (cnt k:Int),.int .u64 (i:Int),.int .u64 v,.int .u64 (cnt k:Int),.int .u64 (i:Int)] h2:=by
    intro v hv ev
    refine hJ9 _ _ _ _ _ _ _ _ _ _ _ _ ⟨by omega,by omega,(wdt k:Int),T2.t.cell hk,?_⟩
    rw [e8,e9]
    refine sset_ok (by unfold adr U64;omega) hv S2.p fun e h3 S3=>⟨_,rfl,?_⟩
    rw [ei]
    refine ih (i+1) h3 (by omega) (S2.trans ?_)
    have th:There c (linkS c x.st (adr c q) (wdt k) (cnt k) i).n (adr c q+((i*wdt k:Nat):Int)) 8:=.inr ⟨by unfold adr;omega,by rw [linkS_n,sp4];unfold adr;omega⟩
    have es:linkS c x.st (adr c q) (wdt k) (cnt k) (i+1)=wrU c (linkS c x.st (adr c q) (wdt k) (cnt k) i) (adr c q+((i*wdt k:Nat):Int)) v:=by
     unfold wrU
     rw [if_pos th,ev]
     rfl
    rw [es]
    exact S3
   by_cases he:i+1=cnt k
   ·exact iT (by simp [he]) (next 0 (by unfold U64;omega) (by rw [if_pos he]))
   ·have hlt2:i+1<cnt k:=by omega
    have hm2:(i+1)*wdt k≤4096:=by rw [←c1];exact Nat.mul_le_mul_right _ (by omega)
    have e10:IntKind.wrap .u64 (((i+1:Nat):Int)*(wdt k:Int))=(((i+1)*wdt k:Nat):Int):=by
     rw [←Int.natCast_mul,wU (by unfold U64;omega)]
    have e11:IntKind.wrap .u64 (adr c q+(((i+1)*wdt k:Nat):Int))=adr c q+(((i+1)*wdt k:Nat):Int):=wU (by unfold adr U64;omega)
    refine iF (beq_eq_false_iff_ne.2 fun e=>he (by exact_mod_cast e)) ?_
    rw [e10,e11]
    exact next _ (by unfold adr U64;omega) (by rw [if_neg he])
 exact loop (cnt k) 0 h1 (by omega) S1
end
end Go.Proofs.YteemmpkhdllapaaGreatDoor
namespace Go.Proofs.YteemmpkhdllapaaGreatDoor
open Go.V Classical
def atW (c:Cfg) (page:Int):Int:=IntKind.wrap .u64 (c.base+IntKind.wrap .u64 (4096*IntKind.wrap .u64 page))
def cellW (a f:Int) (w:Nat):Int:=IntKind.wrap .u64 (a+IntKind.wrap .u64 (IntKind.wrap .u64 f*(w:Int)))
def nextW (a nx:Int) (w:Nat):Int:=if nx≠0 then IntKind.wrap .i64 (IntKind.wrap .u64 (Int.tdiv (IntKind.wrap .u64 (nx-a)) (w:Int))) else -1
noncomputable def takeC (c:Cfg) (x:BU) (pt:Nat→Int) (page:Int) (k:Nat):BU×(Nat→Int)×Int :=
 let p:=cellW (atW c page) (pgA x.m page 6) (wdt k)
 let f:=nextW (atW c page) (rdU c x.st p) (wdt k)
 let m1:=firstU (ownU x.m page (pgA x.m page 6) true) page f
 if f<0 then (x.wm (unhangM m1 page),unhangP m1 pt page k,p) else (x.wm m1,pt,p)
noncomputable def takeSU (c:Cfg) (x:BU) (pt:Nat→Int) (k:Nat) (deny:Bool):BU×(Nat→Int)×Int×Bool×Int :=
 if 0≤pt k then ((takeC c x pt (pt k) k).1,(takeC c x pt (pt k) k).2.1,(takeC c x pt (pt k) k).2.2,false,0)
 else if (needU c x 0 deny).2.2.2≠0 then ((needU c x 0 deny).1,pt,0,false,(needU c x 0 deny).2.2.2)
 else
  let q:=(((needU c x 0 deny).2.1-c.base) / 4096).toNat
  let b:=bornU c (needU c x 0 deny).1 pt q k
  let t:=takeC c b.1 b.2 q k
  (t.1,t.2.1,t.2.2,(needU c x 0 deny).2.2.1,0)
noncomputable def giveSU (c:Cfg) (x:BU) (pt:Nat→Int) (p:Int):BU×(Nat→Int)×Int :=
 match findU c x.m p with
 | none=>(x,pt,1)
 | some (q,j) =>
  let k:=(x.m.pg q 2).toNat
  let m1:=ownU x.m q j false
  if x.m.pg q 3=1 then
   let g:=giveU c (x.wm (runI (unhangM m1 q) q)) (adr c q) 0
   (g.1,unhangP m1 pt q k,g.2)
  else if x.m.pg q 6<0 then (⟨wrU c x.st p 0,x.hd,firstU (hangM m1 pt q k) q j⟩,fset pt k q,0)
  else (⟨wrU c x.st p (cellW (adr c q) (x.m.pg q 6) (wdt k)),x.hd,firstU m1 q j⟩,pt,0)
section
variable {w₀:World} {h h':Heap} {c:Cfg} {Q:SL} {x:BU} {pt:Nat→Int} {K:Value→Heap→Prop}
theorem atW_adr (W:KI c x) {q:Nat} (hq:q<x.m.n):atW c q=adr c q:=by
 have bb:=bu_bounds W.g W.ok.m
 unfold atW adr
 rw [wU (z:=(q:Int)) (by unfold U64;omega),wU (z:=4096*(q:Int)) (by unfold U64;omega),wU (by unfold U64;omega)]
theorem ki_takeC {page:Int} {k:Nat} (W:KI c x):KI c (takeC c x pt page k).1:=by
 unfold takeC
 simp only []
 have W1:=ki_own (i:=page) (p:=pgA x.m page 6) (l:=true) W
 have W2:=fun f=>ki_first (x:=x.wm (ownU x.m page (pgA x.m page 6) true)) (i:=page) (p:=f) W1
 split
 ·exact ki_unhang (x:=x.wm (firstU (ownU x.m page (pgA x.m page 6) true) page _)) (W2 _)
 ·exact W2 _
theorem take_ok {k:Nat} {deny:Bool} (hk:k<8) (W:KI c x) (T:TabH h (sR c Q x pt)) (H:(sR c Q x pt).P h)
  (hK:∀h' Q',SL.Same Q Q'→KI c (takeSU c x pt k deny).1→Stp h h' (sR c Q x pt) (sR c Q' (takeSU c x pt k deny).1 (takeSU c x pt k deny).2.1) →
   K (.tuple #[.int .u64 (takeSU c x pt k deny).2.2.1,.bool (takeSU c x pt k deny).2.2.2.1,.int .i64 (takeSU c x pt k deny).2.2.2.2]) h') :
  CallV Tryz.prog w₀ F.slab_Slab_Take [gptr Q.sb,.int .i64 (k:Int),.bool deny] h K:=by
 have s0:=s_c0 H
 refine slab_Slab_Take.call fun J1 hJ1=>?_
 refine pF (by simp) (hJ1 _ _ ⟨fun e=>by simp at e;omega,fun _=>⟨_,rfl,by omega,by omega,_,s_pt H hk,fun J2 hJ2=>?_⟩⟩)
 have mid:∀(hx:Heap) (Q':SL) (y:BU) (pt':Nat→Int) (page:Int) (b:Bool),SL.Same Q Q'→KI c y→Stp h hx (sR c Q x pt) (sR c Q' y pt') →
   takeSU c x pt k deny=((takeC c y pt' page k).1,(takeC c y pt' page k).2.1,(takeC c y pt' page k).2.2,b,0)→J2 [gptr Q.sb,.int .i64 (k:Int),.bool b,.int .i64 page] hx:=by
  intro hx Q' y pt' page b hS Wy S0 eT
  have Hy:=S0.p
  have Ty:=T.st S0
  have c0:=s_c0 Hy
  refine hJ2 _ _ _ _ _ ⟨_,rfl,_,(by rw [←hS.sb];exact c0),_,rfl,ground_Map_ok (s_pl Hy) ⟨_,rfl,at_ok (s_mp Hy) fun bb h1 u1=>⟨_,_,_,_,_,_,_,_,_,_,_,_,rfl,?_⟩⟩⟩
  obtain ⟨w2,N2⟩:=pg_lay h1 (pgA y.m page)
  have I:=((Own.of Hy).quiet u1).new N2
  refine ⟨w2,?_⟩
  have H2:=I.at 1
  have T2:=Ty.at I 1
  rw [←hS.sb]
  refine base_ok Wy H2 ⟨_,rfl,_,pg_at (I.at 0) (j:=6) (by omega),by omega,by omega,(wdt k:Int),T2.t.cell hk,_,rfl,_,s_c0 H2,_,rfl,ground_Space_ok (s_pl H2) ⟨_,rfl,?_⟩⟩
  refine sword_ok (p:=cellW (atW c page) (pgA y.m page 6) (wdt k)) (wUb _) H2 fun e h3 u3=>⟨_,_,rfl,fun J10 hJ10=>?_⟩
  have I3:=I.quiet u3
  have T3:=Ty.at I3 1
  have rest:∀f,nextW (atW c page) (rdU c y.st (cellW (atW c page) (pgA y.m page 6) (wdt k))) (wdt k)=f →
    J10 [gptr Q'.sb,.int .i64 (k:Int),.int .u64 (cellW (atW c page) (pgA y.m page 6) (wdt k)),.bool b,.int .i64 page,gptr Q'.pl.B.mb,.pointer (some ⟨h1.size,0,none⟩),.int .i64 f] h3:=by
   intro f hf
   refine hJ10 _ _ _ _ _ _ _ _ _ ⟨_,pg_at (I3.at 0) (j:=6) (by omega),own_ok Wy (I3.at 1) fun v h4 S4=>⟨_,rfl,?_⟩⟩
   have I4:=I3.step 1 S4
   have W4:=ki_own (i:=page) (p:=pgA y.m page 6) (l:=true) Wy
   refine first_ok W4 (I4.at 1) fun v h5 S5=>⟨_,rfl,fun J13 hJ13=>?_⟩
   have I5:=I4.step 1 S5
   have W5:=ki_first (x:=y.wm (ownU y.m page (pgA y.m page 6) true)) (i:=page) (p:=f) W4
   have WT:=ki_takeC (pt:=pt') (page:=page) (k:=k) Wy
   have fin:∀h6,Stp hx h6 (sR c Q' y pt') (sR c Q' (takeC c y pt' page k).1 (takeC c y pt' page k).2.1)→(takeC c y pt' page k).2.2=cellW (atW c page) (pgA y.m page 6) (wdt k)→J13 [.int .u64 (cellW (atW c page) (pgA y.m page 6) (wdt k)),.bool b] h6:=by
    intro h6 S6 e6
    refine hJ13 _ _ _ ?_
    have:=hK h6 Q' hS
    rw [eT] at this
    simp only [e6] at this
    exact this WT (S0.trans S6)
   by_cases hf0:f<0
   ·refine iT (by simpa using hf0) (unhang_ok hk W5 (I5.at 1) fun h6 S6=>⟨rfl,fin h6 ?_ ?_⟩)
    ·have:=(I5.step 1 S6).one 1
     unfold takeC
     simp only []
     rw [hf,if_pos hf0]
     exact this
    ·unfold takeC;simp only [];rw [hf,if_pos hf0]
   ·refine iF (by simpa using hf0) (fin h5 ?_ ?_)
    ·have:=I5.one 1
     unfold takeC
     simp only []
     rw [hf,if_neg hf0]
     exact this
    ·unfold takeC;simp only [];rw [hf,if_neg hf0]
  by_cases hz:rdU c y.st (cellW (atW c page) (pgA y.m page 6) (wdt k))≠0
  ·refine iT (ne_b hz) ⟨by omega,by omega,(wdt k:Int),T3.t.cell hk,by have:=wdt_pos k;omega,rest _ ?_⟩
   unfold nextW;rw [if_pos hz];rfl
  ·refine iF (eq_b (not_not.1 hz)) (rest _ ?_)
   unfold nextW;rw [if_neg hz]
 by_cases hp:0≤pt k
 ·refine iF (by simpa using hp) (mid h Q x pt (pt k) false (.refl Q) W (Stp.refl H) ?_)
  unfold takeSU;rw [if_pos hp]
 ·refine iT (by simpa using hp) ⟨_,rfl,_,s0,need_u W H fun h1 Q1 hS1 W1 ha S1=>⟨_,_,_,rfl,?_⟩⟩
  by_cases he:(needU c x 0 deny).2.2.2=0
  case neg =>
   refine iT (ne_b he) ?_
   have:=hK h1 Q1 hS1
   have e:takeSU c x pt k deny=((needU c x 0 deny).1,pt,0,false,(needU c x 0 deny).2.2.2):=by unfold takeSU;rw [if_neg hp,if_pos he]
   rw [e] at this
   exact this W1 S1
  obtain ⟨q,hq,ea⟩:=ha he
  refine iF (eq_b he) ?_
  have T1:=T.st S1
  rw [ea,←hS1.sb]
  refine born_ok hk hq W1 T1 S1.p fun h2 S2=>⟨_,rfl,?_⟩
  rw [hS1.sb]
  refine mid h2 Q1 _ _ q _ hS1 (ki_born W1) (S1.trans S2) ?_
  have eq:(((needU c x 0 deny).2.1-c.base) / 4096).toNat=q:=by rw [ea];unfold adr;omega
  unfold takeSU
  rw [if_neg hp,if_neg (not_not.2 he)]
  simp only [eq]
theorem take_no {k:Int} {deny:Bool} (hk:k<0∨8≤k) (hK:K (.tuple #[.int .u64 0,.bool false,.int .i64 1]) h) :
  CallV Tryz.prog w₀ F.slab_Slab_Take [gptr Q.sb,.int .i64 k,.bool deny] h K:=by
 refine slab_Slab_Take.call fun J1 hJ1=>?_
 by_cases h0:k<0
 ·exact pT (by simpa using h0) (hJ1 _ _ ⟨fun _=>hK,fun e=>by cases e⟩)
 ·exact pF (by simpa using h0) (hJ1 _ _ ⟨fun _=>hK,fun e=>by simp at e;omega⟩)
theorem sgive_ok {p:Int} (hp:U64 p) (W:KI c x) (T:TabH h (sR c Q x pt)) (H:(sR c Q x pt).P h)
  (hK:∀h',KI c (giveSU c x pt p).1→Stp h h' (sR c Q x pt) (sR c Q (giveSU c x pt p).1 (giveSU c x pt p).2.1)→K (.int .i64 (giveSU c x pt p).2.2) h') :
  CallV Tryz.prog w₀ F.slab_Slab_Give [gptr Q.sb,.int .u64 p] h K:=by
 have bb:=bu_bounds W.g W.ok.m
 refine slab_Slab_Give.call ?_
 refine find_ok hp W T H (fun hf a b P h1 u1=>⟨_,_,_,_,_,_,_,_,_,_,_,_,_,_,rfl,?_⟩) fun q j hf h1 u1=>⟨_,_,_,_,_,_,_,_,_,_,_,_,_,_,rfl,?_⟩
 ·obtain ⟨w2,N2⟩:=pg_lay h1 P
  refine ⟨w2,iT rfl ?_⟩
  have e:giveSU c x pt p=(x,pt,1):=by unfold giveSU;rw [hf]
  have:=hK _ (by rw [e];exact W) (by rw [e];exact Stp.quiet H (u1.nx N2.u fun _ e=>e.elim))
  rw [e] at this
  exact this
 obtain ⟨f1,f2,f3,f4⟩:=findU_lt hf
 have PT:=W.ok.m.pg q f1
 obtain ⟨k,hcl⟩ : ∃k:Nat,x.m.pg q 2=k:=⟨(x.m.pg q 2).toNat,by have:=PT.c;omega⟩
 have hk:k<8:=by have:=PT.c;omega
 obtain ⟨w2,N2⟩:=pg_lay h1 (x.m.pg q)
 have I:=((Own.of H).quiet u1).new N2
 have H2:=I.at 1
 refine ⟨w2,iF rfl ⟨_,rfl,_,s_c0 H2,_,rfl,ground_Map_ok (s_pl H2) ⟨_,rfl,own_ok W H2 fun v h3 S3=>⟨_,rfl,?_⟩⟩⟩⟩
 have I3:=I.step 1 S3
 have W3:=ki_own (i:=q) (p:=j) (l:=false) W
 refine base_ok W3 (I3.at 1) ⟨_,rfl,fun J7 hJ7 J8 hJ8=>?_⟩
 have ea:IntKind.wrap .u64 (c.base+IntKind.wrap .u64 (4096*IntKind.wrap .u64 (q:Int)))=adr c q:=atW_adr W f1
 rw [ea]
 have eg:giveSU c x pt p =
   (if x.m.pg q 3=1 then ((giveU c (x.wm (runI (unhangM (ownU x.m q j false) q) q)) (adr c q) 0).1,unhangP (ownU x.m q j false) pt q k,(giveU c (x.wm (runI (unhangM (ownU x.m q j false) q) q)) (adr c q) 0).2)
   else if x.m.pg q 6<0 then (⟨wrU c x.st p 0,x.hd,firstU (hangM (ownU x.m q j false) pt q k) q j⟩,fset pt k q,0)
   else (⟨wrU c x.st p (cellW (adr c q) (x.m.pg q 6) (wdt k)),x.hd,firstU (ownU x.m q j false) q j⟩,pt,0)):=by
  unfold giveSU
  rw [hf]
  simp only [hcl,Int.toNat_natCast]
 refine ⟨_,pg_at (I3.at 0) (j:=3) (by omega),?_⟩
 by_cases hl1:x.m.pg q 3=1
 ·refine iT (beq_iff_eq.2 hl1) ⟨_,pg_at (I3.at 0) (j:=2) (by omega),?_⟩
  rw [hcl]
  refine unhang_ok hk W3 (I3.at 1) fun h4 S4=>⟨rfl,?_⟩
  have I4:=I3.step 1 S4
  have W4:=ki_unhang (x:=x.wm (ownU x.m q j false)) (page:=q) W3
  refine run1_ok (by unfold bd63;omega) W4 (I4.at 1) fun v h5 S5=>⟨_,rfl,?_⟩
  have I5:=I4.step 1 S5
  have W5:=ki_run (x:=x.wm (unhangM (ownU x.m q j false) q)) (i:=q) W4
  refine ⟨_,rfl,_,s_c0 (I5.at 1),?_⟩
  refine give_u (by unfold adr U64;omega) W5 (I5.at 1) fun h6 W6 S6=>⟨_,rfl,?_⟩
  rw [if_pos hl1] at eg
  have:=hK h6
  rw [eg] at this
  exact this W6 ((I5.step 1 S6).one 1)
 refine iF (beq_eq_false_iff_ne.2 hl1) ⟨_,pg_at (I3.at 0) (j:=6) (by omega),?_⟩
 rw [if_neg hl1] at eg
 have tail:∀(h4:Heap) (m1:MS) (pt':Nat→Int) (I4:Go.V.Own h h4 (sR c Q x pt) [pgR h1.size (x.m.pg q),sR c Q (x.wm m1) pt']),KI c (x.wm m1) →
   giveSU c x pt p=(⟨wrU c x.st p (if 0≤x.m.pg q 6 then cellW (adr c q) (x.m.pg q 6) (wdt k) else 0),x.hd,firstU m1 q j⟩,pt',0) →
   J8 [gptr Q.sb,.int .u64 p,.int .i64 (q:Int),.int .i64 (j:Int),.pointer (some ⟨h1.size,0,none⟩),gptr Q.pl.B.mb,.int .u64 (adr c q)] h4:=by
  intro h4 m1 pt' I4 W4 e4
  refine hJ8 _ _ _ _ _ _ _ _ fun J9 hJ9=>?_
  have fin:∀v,U64 v→(if 0≤x.m.pg q 6 then cellW (adr c q) (x.m.pg q 6) (wdt k) else 0)=v→J9 [gptr Q.sb,.int .u64 p,.int .i64 (q:Int),.int .i64 (j:Int),gptr Q.pl.B.mb,.int .u64 v] h4:=by
   intro v hv ev
   rw [ev] at e4
   refine hJ9 _ _ _ _ _ _ _ ⟨_,rfl,_,s_c0 (I4.at 1),_,rfl,ground_Space_ok (s_pl (I4.at 1)) ⟨_,rfl,sset_ok hp hv (I4.at 1) fun e h5 S5=>⟨_,rfl,?_⟩⟩⟩
   have I5:=I4.step 1 S5
   have W5:KI c ((x.wm m1).ws (wrU c x.st p v)):=ki_sto W4 (by simp)
   refine first_ok W5 (I5.at 1) fun v' h6 S6=>⟨_,rfl,hJ7 _ ?_⟩
   have W6:=ki_first (i:=q) (p:=j) W5
   have:=hK h6
   rw [e4] at this
   exact this W6 ((I5.step 1 S6).one 1)
  refine ⟨_,pg_at (I4.at 0) (j:=6) (by omega),?_⟩
  by_cases h6:0≤x.m.pg q 6
  ·refine iT (by simpa using h6) ⟨_,pg_at (I4.at 0) (j:=6) (by omega),_,pg_at (I4.at 0) (j:=2) (by omega),by have:=PT.c;omega,by have:=PT.c;omega,(wdt k:Int),(T.own I4).cell' hcl hk,fin _ (wUb _) ?_⟩
   rw [if_pos h6];rfl
  ·exact iF (by simpa using h6) (fin 0 (by unfold U64;omega) (by rw [if_neg h6]))
 by_cases h6:x.m.pg q 6<0
 ·refine iT (by simpa using h6) ⟨_,pg_at (I3.at 0) (j:=2) (by omega),?_⟩
  rw [hcl]
  refine hang_ok hk W3 (I3.at 1) fun h4 S4=>⟨rfl,tail h4 _ _ (I3.step 1 S4) (ki_hang (x:=x.wm (ownU x.m q j false)) (pt:=pt) (page:=q) (k:=k) W3) ?_⟩
  rw [eg,if_pos h6,if_neg (by omega)]
 ·refine iF (by simpa using h6) (tail h3 _ _ I3 W3 ?_)
  rw [eg,if_neg h6,if_pos (by omega)]
end
end Go.Proofs.YteemmpkhdllapaaGreatDoor
