/- Texts of this proof, some in one. No condition. -/
import Derived.Test.YteemmpkhdllapaaGreatDoorY2
import Derived.Test.YteemmpkhdllapaaGreatDoorY3
import Derived.Test.YteemmpkhdllapaaGreatDoorY4
import Derived.Test.YteemmpkhdllapaaGreatDoorY5
import Derived.Test.YteemmpkhdllapaaGreatDoorY6
set_option linter.unusedSimpArgs false
set_option linter.unusedVariables false
namespace Go.Proofs.YteemmpkhdllapaaGreatDoor
open Go.V Classical
structure Cfg where
 base:Int
 limit:Int
 order:Int
def Cfg.size (c:Cfg):Nat:=4096*2 ^ c.order.toNat
structure Cfg.Good (c:Cfg):Prop where
 o0:0≤c.order
 o8:c.order≤8
 l1:1≤c.limit
 l64:c.limit≤64
 pg:c.limit*((2 ^ c.order.toNat:Nat):Int)≤1024
 b0:0<c.base
 al:c.base % (c.size:Int)=0
 top:c.base+c.size*c.limit≤9223372036854775808
theorem Cfg.Good.size_pos {c:Cfg} (H:c.Good):4096≤c.size:=by
 unfold Cfg.size
 have:1≤2 ^ c.order.toNat:=Nat.one_le_two_pow
 omega
theorem Cfg.Good.total {c:Cfg} (H:c.Good):(c.size:Int)*c.limit≤4194304:=by
 have:=H.pg
 have e:(c.size:Int)*c.limit=4096*(c.limit*((2 ^ c.order.toNat:Nat):Int)):=by
  unfold Cfg.size
  generalize (2 ^ c.order.toNat:Nat)=x
  rw [Int.natCast_mul,Int.mul_assoc,Int.mul_comm c.limit]
  rfl
 rw [e]
 omega
theorem Cfg.Good.size_le {c:Cfg} (H:c.Good):c.size≤4194304:=by
 have h1:=H.total
 have h2:=H.l1
 have h3:(c.size:Int)*1≤(c.size:Int)*c.limit:=Int.mul_le_mul_of_nonneg_left h2 (by omega)
 omega
theorem Cfg.Good.len {c:Cfg} (H:c.Good) {n:Nat} (hn:(n:Int)≤c.limit):(n*c.size:Nat)≤(4194304:Nat)∧c.base+(n*c.size:Nat)≤9223372036854775808:=by
 have h1:=H.total
 have h3:(c.size:Int)*(n:Int)≤(c.size:Int)*c.limit:=Int.mul_le_mul_of_nonneg_left hn (by omega)
 have h4:=H.top
 have e:((n*c.size:Nat):Int)=(c.size:Int)*(n:Int):=by rw [Int.natCast_mul,Int.mul_comm]
 omega
structure SpW where
 pp:Option Addr
 pc:Nat
 pb:Nat
 rb:Nat→Nat
 pf:Nat→Value
def spf (c:Cfg) (n:Nat) (w:SpW):Nat→Value
 | 0=>.int .u64 c.base
 | 1=>.int .i64 c.limit
 | 2=>.int .i64 c.order
 | 3=>.int .u64 c.size
 | _=>.slice w.pp n w.pc
structure SpX (h:Heap) (s:Nat) (c:Cfg) (n:Nat) (M:Nat→Int) (Z:Nat→Prop) (w:SpW):Prop where
 good:c.Good
 st:Blk h s 5 (spf c n w)
 ps:(w.pc=0∧w.pp=none∧n=0)∨(w.pp=some ⟨w.pb,0,none⟩∧Blk h w.pb w.pc w.pf∧Z w.pb∧w.pb≠s∧n≤w.pc)
 pf:∀i,i<n→w.pf i=.slice (some ⟨w.rb i,0,none⟩) c.size c.size
 rs:∀i,i<n→Blk h (w.rb i) c.size (fun j=>.int .u8 (M (i*c.size+j)))
 rF:∀i,i<n→Z (w.rb i)∧w.rb i≠s∧w.rb i≠w.pb
 inj:∀i,i<n→∀j,j<n→w.rb i=w.rb j→i=j
 sF:Z s
 lt:∀b,Z b→b<h.size
 nl:(n:Int)≤c.limit
 by8:∀o,o<n*c.size→0≤M o∧M o<256
def Sp (h:Heap) (s:Nat) (c:Cfg) (n:Nat) (M:Nat→Int) (Z:Nat→Prop):Prop:=∃w,SpX h s c n M Z w
theorem Sp.upd {h h':Heap} {s n:Nat} {c:Cfg} {M:Nat→Int} {Z S:Nat→Prop} (H:Sp h s c n M Z) (hu:Upd S h h') (hs:∀b,Z b→¬S b):Sp h' s c n M Z:=by
 obtain ⟨w,H⟩:=H
 refine ⟨w,{ H with st:=H.st.upd hu (hs _ H.sF),ps:=?_,rs:=fun i hi=>(H.rs i hi).upd hu (hs _ (H.rF i hi).1),lt:=fun b hb=>Nat.lt_of_lt_of_le (H.lt b hb) hu.1 }⟩
 rcases H.ps with e | ⟨e1,e2,e3,e4⟩
 ·exact .inl e
 ·exact .inr ⟨e1,e2.upd hu (hs _ e3),e3,e4⟩
theorem Sp.congr {h:Heap} {s n:Nat} {c:Cfg} {M M':Nat→Int} {Z:Nat→Prop} (H:Sp h s c n M Z) (hm:∀o,o<n*c.size→M o=M' o):Sp h s c n M' Z:=by
 obtain ⟨w,H⟩:=H
 have lt:∀i j,i<n→j<c.size→i*c.size+j<n*c.size:=fun i j hi hj=>by
  have:(i+1)*c.size≤n*c.size:=Nat.mul_le_mul_right _ hi
  rw [Nat.succ_mul] at this
  omega
 exact ⟨w,{ H with rs:=fun i hi=>(H.rs i hi).congr fun j hj=>by rw [hm _ (lt i j hi hj)],by8:=fun o ho=>by rw [←hm o ho];exact H.by8 o ho }⟩
theorem Sp.fp {h:Heap} {s n:Nat} {c:Cfg} {M:Nat→Int} {Z:Nat→Prop} (H:Sp h s c n M Z) {Z':Nat→Prop} (hf:∀b,Z b→Z' b) (hl:∀b,Z' b→b<h.size):Sp h s c n M Z':=by
 obtain ⟨w,H⟩:=H
 refine ⟨w,{ H with ps:=?_,rF:=fun i hi=>⟨hf _ (H.rF i hi).1,(H.rF i hi).2⟩,sF:=hf _ H.sF,lt:=hl }⟩
 rcases H.ps with e | ⟨e1,e2,e3,e4⟩
 ·exact .inl e
 ·exact .inr ⟨e1,e2,hf _ e3,e4⟩
section
variable {w₀:World} {h:Heap} {s n:Nat} {c:Cfg} {M:Nat→Int} {Z:Nat→Prop} {K:Value→Heap→Prop}
theorem Sp.base (H:Sp h s c n M Z):cellAt h ⟨s,0,none⟩=some (.int .u64 c.base):=let ⟨_,H⟩:=H;H.st.cell (i:=0) (by omega)
theorem Sp.limit (H:Sp h s c n M Z):cellAt h ⟨s,1,none⟩=some (.int .i64 c.limit):=let ⟨_,H⟩:=H;H.st.cell (i:=1) (by omega)
theorem Sp.size (H:Sp h s c n M Z):cellAt h ⟨s,3,none⟩=some (.int .u64 c.size):=let ⟨_,H⟩:=H;H.st.cell (i:=3) (by omega)
theorem Sp.good (H:Sp h s c n M Z):c.Good:=let ⟨_,H⟩:=H;H.good
theorem Sp.nl (H:Sp h s c n M Z):(n:Int)≤c.limit:=let ⟨_,H⟩:=H;H.nl
theorem Sp.by8 (H:Sp h s c n M Z):∀o,o<n*c.size→0≤M o∧M o<256:=let ⟨_,H⟩:=H;H.by8
theorem Sp.sF (H:Sp h s c n M Z):Z s:=let ⟨_,H⟩:=H;H.sF
theorem Sp.lt (H:Sp h s c n M Z):∀b,Z b→b<h.size:=let ⟨_,H⟩:=H;H.lt
theorem Sp.end_eq (H:Sp h s c n M Z):IntKind.u64.wrap (c.base+IntKind.u64.wrap ((c.size:Int)*IntKind.u64.wrap ((n:Nat):Int)))=c.base+(n*c.size:Nat):=by
 have hl:=H.good.len H.nl
 have h0:=H.good.b0
 have h1:=H.good.l64
 have h2:=H.nl
 have e:(c.size:Int)*(n:Int)=(n*c.size:Nat):=by rw [Int.natCast_mul,Int.mul_comm]
 rw [IntKind.wrap_u64 (n:Int),Int.emod_eq_of_lt (by omega) (by omega),e,IntKind.wrap_u64 ((n*c.size:Nat):Int),Int.emod_eq_of_lt (by omega) (by omega),IntKind.wrap_u64,Int.emod_eq_of_lt (by omega) (by omega)]
theorem mem_End_ok (H:Sp h s c n M Z) (hK:K (.int .u64 (c.base+(n*c.size:Nat))) h):CallV Tryz.prog w₀ F.mem_Space_End [.pointer (some ⟨s,0,none⟩)] h K:=by
 refine mem_Space_End.call ?_
 have h1:=H.base
 have h3:=H.size
 have he:=H.end_eq
 obtain ⟨w,H⟩:=H
 have h4:cellAt h ⟨s,4,none⟩=some (.slice w.pp n w.pc):=H.st.cell (i:=4) (by omega)
 try dsimp only
 refine ⟨_,rfl,_,h1,_,rfl,_,by rw [add_mk];exact h3,_,rfl,_,_,_,by rw [add_mk];exact h4,?_⟩
 rw [he]
 exact hK
theorem good_iff {a b d:Int}:Cfg.Good ⟨a,b,d⟩↔0≤d∧d≤8∧1≤b∧b≤64∧b*((2 ^ d.toNat:Nat):Int)≤1024∧0<a∧a % ((4096*2 ^ d.toNat:Nat):Int)=0∧a+((4096*2 ^ d.toNat:Nat):Int)*b≤9223372036854775808 :=
 ⟨fun H=>⟨H.o0,H.o8,H.l1,H.l64,H.pg,H.b0,H.al,H.top⟩,fun ⟨h1,h2,h3,h4,h5,h6,h7,h8⟩=>⟨h1,h2,h3,h4,h5,h6,h7,h8⟩⟩
theorem mem_may_ok {a b d:Int} (ha:0≤a∧a<18446744073709551616) (hK:∀h',Upd (fun _=>False) h h'→K (.bool (decide (Cfg.Good ⟨a,b,d⟩))) h') :
  CallV Tryz.prog w₀ F.mem_may [.agg #[.int .u64 a,.int .i64 b,.int .i64 d]] h K:=by
 refine mem_may.call ?_
 try dsimp only
 have hK:=hK (Array.push h (.cells #[(.int .u64 a),(.int .i64 b),(.int .i64 d)] T.T_api_Config)) (push_upd _ _ _)
 simp only [jor,jand,cellAt_new,add_mk,List.getElem?_toArray,Nat.zero_add,List.getElem?_cons_zero,List.getElem?_cons_succ,Option.some.injEq,Value.int.injEq,Value.bool.injEq,Value.pointer.injEq,Value.slice.injEq,true_and,and_true,exists_eq_left',exists_eq',and_assoc,exists_and_left]
 intro J k
 refine ⟨fun e=>⟨by simp at e;omega,k _ _ ?_⟩,fun e=>k _ _ ⟨fun _=>?_,fun e'=>by cases e'⟩⟩
 ·simp at e
  simp only [jor,jand,cellAt_new,add_mk,List.getElem?_toArray,Nat.zero_add,List.getElem?_cons_zero,List.getElem?_cons_succ,Option.some.injEq,Value.int.injEq,Value.bool.injEq,Value.pointer.injEq,Value.slice.injEq,true_and,and_true,exists_eq_left',exists_eq',and_assoc,exists_and_left]
  have hd:d=0∨d=1∨d=2∨d=3∨d=4∨d=5∨d=6∨d=7∨d=8:=by omega
  have fin:∀(x:Nat),1≤x→x≤256→2 ^ d.toNat=x→True:=fun _ _ _ _=>trivial
  have pw:(2:Int) ^ min d.toNat 64=((2 ^ d.toNat:Nat):Int):=by rw [Nat.min_eq_left (by omega)];simp
  have hx:∃x:Nat,2 ^ d.toNat=x∧1≤x∧x≤256∧0≤b*(x:Int)∧b*(x:Int)≤16384:=by
   rcases hd with rfl | rfl | rfl | rfl | rfl | rfl | rfl | rfl | rfl<;>exact ⟨_,rfl,by decide,by decide,by simp;omega,by simp;omega⟩
  obtain ⟨x,hx,hx1,hx2,hx3,hx4⟩:=hx
  rw [hx] at pw
  have e1:IntKind.i64.wrap (b*2 ^ min d.toNat IntKind.i64.bits)=b*x:=by
   show IntKind.i64.wrap (b*2 ^ min d.toNat 64)=_
   rw [pw,IntKind.wrap_i64];omega
  have e2:IntKind.u64.wrap (4096*2 ^ min d.toNat IntKind.u64.bits)=4096*x:=by
   show IntKind.u64.wrap (4096*2 ^ min d.toNat 64)=_
   rw [pw,IntKind.wrap_u64];omega
  have e3:IntKind.u64.wrap (4096*x*IntKind.u64.wrap b)=4096*(b*x):=by
   rw [IntKind.wrap_u64 b,Int.emod_eq_of_lt (by omega) (by omega),Int.mul_assoc,Int.mul_comm (x:Int),IntKind.wrap_u64];omega
  have e4:a≤9223372036854775808→IntKind.u64.wrap (9223372036854775808-a)=9223372036854775808-a:=by
   intro h;rw [IntKind.wrap_u64];omega
  rw [e1,e2,Int.tmod_eq_emod_of_nonneg ha.1]
  have g:Cfg.Good ⟨a,b,d⟩↔b*(x:Int)≤1024∧0<a∧a % (4096*(x:Int))=0∧a+4096*(b*x)≤9223372036854775808:=by
   rw [good_iff,hx]
   have:((4096*x:Nat):Int)=4096*(x:Int):=by omega
   rw [this,Int.mul_assoc,Int.mul_comm (x:Int)]
   omega
  refine ⟨fun e5=>?_,fun e5=>?_⟩
  ·simp at e5
   have:decide (Cfg.Good ⟨a,b,d⟩)=false:=by rw [decide_eq_false_iff_not,g];omega
   rw [this] at hK
   exact hK
  ·simp at e5
   refine ⟨by omega,?_⟩
   intro J6 k6
   refine ⟨fun e6=>⟨by omega,k6 _ _ ?_⟩,fun e6=>k6 _ _ ?_⟩
   ·have:decide (Cfg.Good ⟨a,b,d⟩)=((a % (4096*(x:Int)) == 0) && (decide (a≤9223372036854775808) && decide (4096*(b*(x:Int))≤IntKind.u64.wrap (9223372036854775808-a)))):=by
     rw [Bool.eq_iff_iff]
     simp only [decide_eq_true_eq,Bool.and_eq_true,g,beq_iff_eq]
     simp at e6
     constructor
     ·rintro ⟨h1,h2,h3,h4⟩;exact ⟨h3,by omega,by rw [e4 (by omega)];omega⟩
     ·rintro ⟨h1,h2,h3⟩;rw [e4 h2] at h3;exact ⟨by omega,by omega,h1,by omega⟩
    rw [this] at hK
    simpa only [jor,jand,cellAt_new,add_mk,List.getElem?_toArray,Nat.zero_add,List.getElem?_cons_zero,List.getElem?_cons_succ,Option.some.injEq,Value.int.injEq,Value.bool.injEq,Value.pointer.injEq,Value.slice.injEq,true_and,and_true,exists_eq_left',exists_eq',and_assoc,exists_and_left,e3,Bool.and_assoc,Bool.false_and] using hK
   ·have:decide (Cfg.Good ⟨a,b,d⟩)=false:=by rw [decide_eq_false_iff_not,g];simp at e6;omega
    rw [this] at hK
    simpa only [jor,jand,cellAt_new,add_mk,List.getElem?_toArray,Nat.zero_add,List.getElem?_cons_zero,List.getElem?_cons_succ,Option.some.injEq,Value.int.injEq,Value.bool.injEq,Value.pointer.injEq,Value.slice.injEq,true_and,and_true,exists_eq_left',exists_eq',and_assoc,exists_and_left,e3,Bool.and_assoc,Bool.false_and] using hK
 ·have:decide (Cfg.Good ⟨a,b,d⟩)=false:=by rw [decide_eq_false_iff_not,good_iff];simp at e;omega
  rw [this] at hK
  exact hK
end
end Go.Proofs.YteemmpkhdllapaaGreatDoor
namespace Go.Proofs.YteemmpkhdllapaaGreatDoor
open Go.V Classical
section
variable {w₀:World} {h:Heap} {s n:Nat} {c:Cfg} {M:Nat→Int} {Z:Nat→Prop} {K:Value→Heap→Prop}
theorem mem_Regions_ok (H:Sp h s c n M Z) (hK:K (.int .i64 n) h):CallV Tryz.prog w₀ F.mem_Space_Regions [.pointer (some ⟨s,0,none⟩)] h K:=by
 refine mem_Space_Regions.call ?_
 obtain ⟨w,H⟩:=H
 have h4:cellAt h ⟨s,4,none⟩=some (.slice w.pp n w.pc):=H.st.cell (i:=4) (by omega)
 exact ⟨_,rfl,_,_,_,by rw [add_mk];exact h4,hK⟩
theorem size_wrap {d:Int} (h0:0≤d) (h8:d≤8):IntKind.u64.wrap (4096*2 ^ min d.toNat IntKind.u64.bits)=((4096*2 ^ d.toNat:Nat):Int):=by
 have hd:d=0∨d=1∨d=2∨d=3∨d=4∨d=5∨d=6∨d=7∨d=8:=by omega
 rcases hd with rfl | rfl | rfl | rfl | rfl | rfl | rfl | rfl | rfl<;>decide
theorem mem_New_ok {a b d:Int} (ha:0≤a∧a<18446744073709551616)
  (hn:¬Cfg.Good ⟨a,b,d⟩→∀h',Upd NoB h h'→K (.tuple #[.pointer none,.int .i64 1]) h')
  (hg:Cfg.Good ⟨a,b,d⟩→∀(h':Heap) (s:Nat),Upd NoB h h'→h.size≤s→Sp h' s ⟨a,b,d⟩ 0 (fun _=>0) (fun x=>x=s)→K (.tuple #[.pointer (some ⟨s,0,none⟩),.int .i64 0]) h') :
  CallV Tryz.prog w₀ F.mem_New [.agg #[.int .u64 a,.int .i64 b,.int .i64 d]] h K:=by
 refine mem_New.call ?_
 try dsimp only
 simp only [jor,jand,cellAt_new,add_mk,List.getElem?_toArray,Nat.zero_add,List.getElem?_cons_zero,List.getElem?_cons_succ,Option.some.injEq,Value.int.injEq,Value.bool.injEq,Value.pointer.injEq,Value.slice.injEq,true_and,and_true,exists_eq_left',exists_eq',and_assoc,exists_and_left,L_uii,C_uii]
 refine mem_may_ok ha fun h' hu=>?_
 have hu0:Upd NoB h h':=Upd.trans (push_upd NoB h _) hu (fun b e=>e) (fun b e _=>e)
 have bl:Blk h' h.size 3 (fun j=>(#[(.int .u64 a),(.int .i64 b),(.int .i64 d)]:Array Value).getD j undef) :=
  (Blk.new h _ _).upd hu id
 have c0:cellAt h' ⟨h.size,0,none⟩=some (.int .u64 a):=bl.cell (i:=0) (by omega)
 have c1:cellAt h' ⟨h.size,1,none⟩=some (.int .i64 b):=bl.cell (i:=1) (by omega)
 have c2:cellAt h' ⟨h.size,2,none⟩=some (.int .i64 d):=bl.cell (i:=2) (by omega)
 refine ⟨_,rfl,fun e=>?_,fun e=>?_⟩
 ·simp at e
  exact hn e h' hu0
 ·simp at e
  have g:=good_iff.1 e
  refine ⟨_,c0,_,c1,_,c2,_,c2,g.1,?_⟩
  rw [size_wrap g.1 g.2.1]
  have hs:h.size≤h'.size:=hu0.1
  refine hg e _ h'.size (Upd.trans hu0 (push_upd NoB h' _) (fun b e=>e) (fun b e _=>e)) hs ?_
  refine ⟨⟨none,0,0,fun _=>0,fun _=>undef⟩,{ good:=e,st:=?_,ps:=.inl ⟨rfl,rfl,rfl⟩,pf:=fun i hi=>absurd hi (by omega),rs:=fun i hi=>absurd hi (by omega),rF:=fun i hi=>absurd hi (by omega),inj:=fun i hi=>absurd hi (by omega),sF:=rfl,lt:=fun b hb=>by simp only [Array.size_push];omega,nl:=by have:=e.l1;dsimp only at *;omega,by8:=fun o ho=>by omega }⟩
  refine Blk.new' _ _ _ _ _ rfl fun j hj=>?_
  have:j=0∨j=1∨j=2∨j=3∨j=4:=by omega
  rcases this with rfl | rfl | rfl | rfl | rfl<;>rfl
def Gr (Z:Nat→Prop) (h h':Heap):Nat→Prop:=fun b=>Z b∨(h.size≤b∧b<h'.size)
theorem mem_Commit_ok {deny:Bool} (H:Sp h s c n M Z)
  (hn:deny=true∨(n:Int)=c.limit→K (.tuple #[.int .u64 0,.int .i64 2]) h)
  (hg:deny=false→(n:Int)<c.limit→∀h',Upd Z h h'→Sp h' s c (n+1) (fun o=>if o<n*c.size then M o else 0) (Gr Z h h')→K (.tuple #[.int .u64 (c.base+(n*c.size:Nat)),.int .i64 0]) h') :
  CallV Tryz.prog w₀ F.mem_Space_Commit [.pointer (some ⟨s,0,none⟩),.bool deny] h K:=by
 refine mem_Space_Commit.call ?_
 have hS:=H
 have h1:=H.limit
 have h3:=H.size
 obtain ⟨w,H⟩:=H
 have h4:cellAt h ⟨s,4,none⟩=some (.slice w.pp n w.pc):=H.st.cell (i:=4) (by omega)
 try dsimp only
 simp only [jor,jand,cellAt_new,add_mk,List.getElem?_toArray,Nat.zero_add,List.getElem?_cons_zero,List.getElem?_cons_succ,Option.some.injEq,Value.int.injEq,Value.bool.injEq,Value.pointer.injEq,Value.slice.injEq,true_and,and_true,exists_eq_left',exists_eq',and_assoc,exists_and_left,h1,h4]
 refine ⟨fun e=>?_,fun e=>?_⟩
 ·refine hn ?_
  simpa using e
 simp only [Bool.or_eq_false_iff,beq_eq_false_iff_ne] at e
 obtain ⟨e1,e2⟩:=e
 have hlt:(n:Int)<c.limit:=by have:=H.nl;omega
 have hl64:=H.good.l64
 refine mem_End_ok hS ⟨_,rfl,?_⟩
 have hsz:=H.good.size_le
 have hsl:=H.good.size_pos
 have hsb:s<h.size:=H.st.lt
 let A:Heap:=h.push (.cells (zrow [(.int .u8 (0:Int))] c.size).toArray T.T_uint8)
 let B:Heap:=A.push (.cells #[(.slice (some ⟨h.size,0,none⟩) c.size c.size)] T.T_sl_uint8)
 have hA:Upd NoB h A:=push_upd _ _ _
 have hB:Upd NoB A B:=push_upd _ _ _
 have hAB:Upd NoB h B:=Upd.trans hA hB (fun b e=>e) (fun b e _=>e)
 have sA:A.size=h.size+1:=by simp [A]
 have sB:B.size=h.size+2:=by simp [B,A]
 have stB:Blk B s 5 (spf c n w):=H.st.upd hAB id
 have c4A:cellAt A ⟨s,4,none⟩=some (.slice w.pp n w.pc):=(H.st.upd hA id).cell (i:=4) (by omega)
 have c4B:cellAt B ⟨s,4,none⟩=some (.slice w.pp n w.pc):=stB.cell (i:=4) (by omega)
 have hz:(Int.toNat (c.size:Int))=c.size:=by omega
 refine ⟨_,_,_,h4,_,h3,?_⟩
 rw [hz]
 refine ⟨by omega,by omega,by omega,c4A,c4B,?_⟩
 have hbN:Blk B h.size c.size (fun _=>.int .u8 0):=by
  refine Blk.upd (Blk.new' _ _ _ c.size (fun _=>.int .u8 0) (by simp [zrow_length]) fun j hj=>?_) hB id
  have:=zrow_get [(.int .u8 (0:Int))] c.size j (by simpa using hj)
  simp only [List.length_cons,List.length_nil,Nat.zero_add,Nat.mod_one,List.getElem?_cons_zero] at this
  simpa using this
 have hx:Blk B (h.size+1) 1 (fun _=>.slice (some ⟨h.size,0,none⟩) c.size c.size):=by
  have:=Blk.new' A #[(.slice (some ⟨h.size,0,none⟩) c.size c.size)] T.T_sl_uint8 1 (fun _=>.slice (some ⟨h.size,0,none⟩) c.size c.size) rfl fun j hj=>by
   have:j=0:=by omega
   subst this;rfl
  rw [sA] at this
  exact this
 have rowP:Row B w.pp n w.pf:=by
  rcases H.ps with ⟨e3,e4,e5⟩ | ⟨e3,e4,e5,e6,e7⟩
  ·exact .inl e5
  ·rw [e3]
   refine (((e4.upd hAB id).row 0 n (by omega))).congr fun i hi=>by rw [Nat.zero_add]
 have rowX:Row B (some ⟨h.size+1,0,none⟩) 1 (fun _=>.slice (some ⟨h.size,0,none⟩) c.size c.size):=hx.row 0 1 (by omega)
 refine ⟨lst n w.pf,lst 1 (fun _=>.slice (some ⟨h.size,0,none⟩) c.size c.size),⟨by simp,rowP.rowAt,by simp,by have:=rowX.rowAt;rw [←sA] at this;exact this,fun hc=>⟨?_,?_⟩,fun hc=>?_⟩,?_⟩
 ·intro v hv
  simp [lst] at hv
  subst hv
  rfl
 ·intro a ha
  rcases H.ps with ⟨e3,e4,e5⟩ | ⟨e3,e4,e5,e6,e7⟩
  ·rw [e4] at ha;cases ha
  ·rw [e3] at ha
   cases ha
   intro j hj
   rw [add_mk,add_mk]
   exact (e4.upd hAB id).wr (by simp at hj;omega)
 ·have:=nextslicecap_le (need:=n+1) (old:=w.pc) hc
  have:Builtin.nextslicecap (n+1) w.pc≤200:=by omega
  exact Nat.le_trans (Nat.mul_le_mul_right 24 this) (by decide)
 intro p' c' h' hres
 have lt1:∀i j,i<n→j<c.size→i*c.size+j<n*c.size:=fun i j hi hj=>by
  have:(i+1)*c.size≤n*c.size:=Nat.mul_le_mul_right _ hi
  rw [Nat.succ_mul] at this
  omega
 have fin:∀(pb':Nat) (pf':Nat→Value),p'=some ⟨pb',0,none⟩→Blk h' pb' c' pf'→pb'≠s→n+1≤c'→(∀i,i<n→pf' i=w.pf i)→pf' n=.slice (some ⟨h.size,0,none⟩) c.size c.size →
   (pb'=w.pb∧Z pb'∨h.size+2≤pb')→Upd (fun b=>b=pb') B h' →
   Wr h' ⟨s,4,none⟩∧K (.tuple #[.int .u64 (c.base+(n*c.size:Nat)),.int .i64 0]) (setC h' ⟨s,4,none⟩ (.slice p' (n+1) c')):=by
  intro pb' pf' hp hbl hps hc hpf hpn hpb hu
  subst hp
  have hlt':=hbl.lt
  have st':Blk h' s 5 (spf c n w):=stB.upd hu (Ne.symm hps)
  refine ⟨st'.wr (by omega),hg e1 hlt _ ?_ ?_⟩
  ·refine Upd.trans hAB (Upd.trans hu (setC_upd h' _ _) (S'':=fun b=>b=pb'∨b=s) (fun b e=>.inl e) (fun b e _=>.inr e)) (fun b e=>e.elim) fun b e hb=>?_
   rcases e with e | e
   ·rcases hpb with ⟨_,e'⟩ | e'
    ·rw [e];exact e'
    ·omega
   ·rw [e];exact H.sF
  have hsz':h.size+2≤h'.size:=by have:=hu.1;omega
  refine ⟨⟨some ⟨pb',0,none⟩,c',pb',fun i=>if i=n then h.size else w.rb i,pf'⟩,{ good:=H.good,st:=?_,ps:=.inr ⟨rfl,?_,?_,hps,hc⟩,pf:=?_,rs:=?_,rF:=?_,inj:=?_,sF:=.inl H.sF,lt:=?_,nl:=by omega,by8:=?_ }⟩
  ·refine (st'.set 4 _).congr fun i hi=>?_
   have:i=0∨i=1∨i=2∨i=3∨i=4:=by omega
   rcases this with rfl | rfl | rfl | rfl | rfl<;>rfl
  ·exact hbl.set_ne (a:=⟨s,4,none⟩) hps _
  ·rcases hpb with ⟨_,e'⟩ | e'
   ·exact .inl e'
   ·exact .inr ⟨Nat.le_trans (by omega) e',by simpa using hlt'⟩
  ·intro i hi
   dsimp only
   by_cases hin:i=n
   ·subst hin;rw [if_pos rfl];exact hpn
   ·rw [if_neg hin,hpf i (by omega)];exact H.pf i (by omega)
  ·intro i hi
   dsimp only
   by_cases hin:i=n
   ·subst hin
    rw [if_pos rfl]
    refine ((hbN.upd hu ?_).set_ne (a:=⟨s,4,none⟩) (by dsimp only;omega) _).congr fun j hj=>?_
    ·rcases hpb with ⟨e,e'⟩ | e'
     ·have:=H.lt _ e';omega
     ·omega
    ·rw [if_neg (by omega)]
   ·rw [if_neg hin]
    have hi':i<n:=by omega
    have hF:=H.rF i hi'
    have hl:=H.lt _ hF.1
    refine (((H.rs i hi').upd hAB id).upd hu ?_ |>.set_ne (a:=⟨s,4,none⟩) hF.2.1 _).congr fun j hj=>?_
    ·rcases hpb with ⟨e,e'⟩ | e'
     ·rw [e];exact hF.2.2
     ·omega
    ·rw [if_pos (lt1 i j hi' hj)]
  ·intro i hi
   dsimp only
   by_cases hin:i=n
   ·subst hin
    rw [if_pos rfl]
    refine ⟨.inr ⟨by omega,by simp;omega⟩,by omega,?_⟩
    rcases hpb with ⟨e,e'⟩ | e'
    ·have:=H.lt _ e';omega
    ·omega
   ·rw [if_neg hin]
    have hF:=H.rF i (by omega)
    refine ⟨.inl hF.1,hF.2.1,?_⟩
    have hl:=H.lt _ hF.1
    rcases hpb with ⟨e,e'⟩ | e'
    ·rw [e];exact hF.2.2
    ·omega
  ·intro i hi j hj hij
   dsimp only at hij
   by_cases hin:i=n<;>by_cases hjn:j=n
   ·omega
   ·rw [if_pos hin,if_neg hjn] at hij
    have:=H.lt _ (H.rF j (by omega)).1
    omega
   ·rw [if_neg hin,if_pos hjn] at hij
    have:=H.lt _ (H.rF i (by omega)).1
    omega
   ·rw [if_neg hin,if_neg hjn] at hij
    exact H.inj i (by omega) j (by omega) hij
  ·intro b hb
   simp only [setC_size]
   rcases hb with hb | hb
   ·have:=H.lt b hb;omega
   ·simpa using hb.2
  ·intro o ho
   split
   ·exact H.by8 o (by assumption)
   ·omega
 rcases hres with ⟨r1,rfl,rfl,rfl⟩ | ⟨r1,r2,rfl,rfl⟩
 ·rcases H.ps with ⟨e3,e4,e5⟩ | ⟨e3,e4,e5,e6,e7⟩
  ·omega
  ·have hwr:wrH B (w.pp.map (·.add (n * [(Value.slice none 0 0)].length))) (lst 1 fun _=>.slice (some ⟨h.size,0,none⟩) c.size c.size)=setCs B ⟨w.pb,n,none⟩ 0 [.slice (some ⟨h.size,0,none⟩) c.size c.size]:=by
    rw [e3]
    simp only [Option.map_some,add_mk,List.length_cons,List.length_nil,Nat.zero_add,Nat.mul_one]
    rfl
   have hwr':=hwr
   refine fin w.pb (fun j=>if j=n then .slice (some ⟨h.size,0,none⟩) c.size c.size else w.pf j) e3 ?_ e6 r1 (fun i hi=>by rw [if_neg (by omega)]) (by rw [if_pos rfl]) (.inl ⟨rfl,e5⟩) ?_
   ·rw [hwr]
    refine ((e4.upd hAB id).sets [.slice (some ⟨h.size,0,none⟩) c.size c.size] n 0).congr fun j hj=>?_
    simp only [List.length_cons,List.length_nil,Nat.add_zero,Nat.zero_add]
    by_cases hjn:j=n
    ·subst hjn;rw [if_pos (by omega),if_pos rfl,Nat.sub_self];rfl
    ·rw [if_neg (by omega),if_neg hjn]
   ·rw [hwr]
    exact setCs_upd _ _ _ _
 ·have hbs:B.size=h.size+2:=sB
  refine fin B.size (fun j=>if j=n then .slice (some ⟨h.size,0,none⟩) c.size c.size else if j<n then w.pf j else .slice none 0 0) rfl ?_ (by omega) r2 (fun i hi=>by rw [if_neg (by omega),if_pos hi]) (by rw [if_pos rfl]) (.inr (by omega)) (push_upd _ _ _)
  refine Blk.new' _ _ _ _ _ (by simp [zrow_length];omega) fun j hj=>?_
  simp only [List.getElem?_toArray]
  by_cases hjn:j=n
  ·subst hjn
   rw [if_pos rfl,List.append_assoc,List.getElem?_append_right (by simp),List.getElem?_append_left (by simp),lst_get (by simp)]
  ·rw [if_neg hjn]
   by_cases hjl:j<n
   ·rw [if_pos hjl,List.append_assoc,List.getElem?_append_left (by simpa using hjl),lst_get hjl]
   ·rw [if_neg hjl,List.getElem?_append_right (by simp;omega),zrow_get _ _ _ (by simp;omega)]
    simp [Nat.mod_one]
theorem mem_Decommit_ok {k:Int} (hk : -9223372036854775808≤k∧k≤9223372036854775807) (H:Sp h s c n M Z)
  (hn:k<0∨(n:Int)<k→K (.int .i64 1) h)
  (hg:∀m:Nat,(m:Int)=n-k→m≤n→∀h',Upd Z h h'→h'.size=h.size→Sp h' s c m M Z→K (.int .i64 0) h') :
  CallV Tryz.prog w₀ F.mem_Space_Decommit [.pointer (some ⟨s,0,none⟩),.int .i64 k] h K:=by
 refine mem_Space_Decommit.call ?_
 obtain ⟨w,H⟩:=H
 have h4:cellAt h ⟨s,4,none⟩=some (.slice w.pp n w.pc):=H.st.cell (i:=4) (by omega)
 try dsimp only
 simp only [jor,jand,cellAt_new,add_mk,List.getElem?_toArray,Nat.zero_add,List.getElem?_cons_zero,List.getElem?_cons_succ,Option.some.injEq,Value.int.injEq,Value.bool.injEq,Value.pointer.injEq,Value.slice.injEq,true_and,and_true,exists_eq_left',exists_eq',and_assoc,exists_and_left,h4]
 refine ⟨fun e=>hn ?_,fun e=>?_⟩
 ·simpa using e
 simp at e
 have hn64:n≤64:=by have:=H.nl;have:=H.good.l64;omega
 obtain ⟨m,hm⟩ : ∃m:Nat,(m:Int)=n-k:=⟨(n-k).toNat,by omega⟩
 have hmn:m≤n:=by omega
 have hw:IntKind.i64.wrap ((n:Int)-k)=(m:Int):=by rw [IntKind.wrap_i64];omega
 have e1:Int.toNat (m:Int)=m:=by omega
 have e2:Int.toNat (n:Int)=n:=by omega
 have e0:Int.toNat (0:Int)=0:=rfl
 have hg:=hg m hm hmn
 rw [hw,e1,e2,e0]
 have by8:∀o,o<m*c.size→0≤M o∧M o<256:=fun o ho=>H.by8 o (Nat.lt_of_lt_of_le ho (Nat.mul_le_mul_right _ hmn))
 have nl:(m:Int)≤c.limit:=by have:=H.nl;omega
 rcases H.ps with ⟨e3,e4,e5⟩ | ⟨e3,e4,e5,e6,e7⟩
 ·subst e5
  have hm0:m=0:=by omega
  subst hm0
  have ec:((((0:Nat):Int)).toNat-0)=0:=rfl
  rw [e3,e4]
  refine ⟨by omega,by omega,by omega,⟨by simp [oneC],fun _=>rfl,by simp⟩,?_⟩
  simp only [if_pos,wrH]
  refine ⟨none,0,0,by have:=h4;rw [e3,e4] at this;exact this,by omega,by omega,by omega,H.st.wr (by omega),?_⟩
  refine hg _ ((setC_upd h _ _).mono fun b e _=>by rw [e];exact H.sF) (by simp) ?_
  refine ⟨w,{ H with st:=(H.st.set 4 _).congr fun i hi=>?_,ps:=.inl ⟨e3,e4,rfl⟩,rs:=fun i hi=>absurd hi (by omega),lt:=fun b hb=>by rw [setC_size];exact H.lt b hb }⟩
  have:i=0∨i=1∨i=2∨i=3∨i=4:=by omega
  rcases this with rfl | rfl | rfl | rfl | rfl<;>simp [spf,e3,e4]
 ·rw [e3]
  have hp1:(if w.pc=0 then some (⟨w.pb,0,none⟩ : Addr) else Option.map (fun b=>Addr.add b (0*1)) (some (⟨w.pb,0,none⟩ : Addr)))=some ⟨w.pb,0,none⟩:=by
   simp
  obtain ⟨o,ho,ho'⟩ : ∃o,(if w.pc=m then some (⟨w.pb,0,none⟩ : Addr) else Option.map (fun b=>Addr.add b (m*1)) (some (⟨w.pb,0,none⟩ : Addr)))=some ⟨w.pb,o,none⟩∧(m<n→o=m):=by
   by_cases hpm:w.pc=m
   ·exact ⟨0,by rw [if_pos hpm],fun h=>by omega⟩
   ·exact ⟨m,by rw [if_neg hpm];simp,fun _=>rfl⟩
  rw [ho]
  let h2:Heap:=setCs h ⟨w.pb,o,none⟩ 0 (zrow [.slice none 0 0] (n-m))
  have u2:Upd (fun b=>b=w.pb) h h2:=setCs_upd _ _ _ _
  have s2:h2.size=h.size:=setCs_size _ _ _ _
  have st2:Blk h2 s 5 (spf c n w):=H.st.upd u2 (Ne.symm e6)
  refine ⟨by omega,by omega,by omega,⟨by simp [oneC],by simp,?_⟩,?_⟩
  ·intro a ha j hj
   cases ha
   rw [add_mk]
   refine e4.wr ?_
   simp at hj
   have:=ho' (by omega)
   omega
  show ∃n34p n34n n34c,cellAt h2 _=_∧_
  refine ⟨_,_,_,st2.cell (i:=4) (by omega),by omega,by omega,by omega,st2.wr (by omega),?_⟩
  have hf:setC h2 ⟨s,4,none⟩ (.slice (some ⟨w.pb,0,none⟩) m w.pc)=setC h2 ⟨s,4,none⟩ (.slice (if w.pc=0 then w.pp else Option.map (fun b=>Addr.add b (0*1)) w.pp) (m-0) (w.pc-0)):=by
   rw [e3,hp1];rfl
  have uf:Upd Z h (setC h2 ⟨s,4,none⟩ (.slice (some ⟨w.pb,0,none⟩) m w.pc)) :=
   Upd.trans u2 (setC_upd _ _ _) (fun b e=>by rw [e];exact e5) (fun b e _=>by rw [e];exact H.sF)
  have hK:=hg _ uf (by rw [setC_size,s2]) ?_
  ·rw [hf] at hK
   exact hK
  refine ⟨{ w with pf:=fun j=>if o≤j∧j<o+(n-m) then .slice none 0 0 else w.pf j },{ good:=H.good,st:=(st2.set 4 _).congr fun i hi=>?_,ps:=.inr ⟨e3,?_,e5,e6,by dsimp only;omega⟩,pf:=fun i hi=>?_,rs:=fun i hi=>?_,rF:=fun i hi=>H.rF i (by omega),inj:=fun i hi j hj=>H.inj i (by omega) j (by omega),sF:=H.sF,lt:=fun b hb=>by rw [setC_size,s2];exact H.lt b hb,nl:=nl,by8:=by8 }⟩
  ·have:i=0∨i=1∨i=2∨i=3∨i=4:=by omega
   rcases this with rfl | rfl | rfl | rfl | rfl<;>simp [spf,e3]
  ·refine ((e4.sets (zrow [.slice none 0 0] (n-m)) o 0).set_ne (a:=⟨s,4,none⟩) e6 _).congr fun j hj=>?_
   rw [zrow_length,Nat.add_zero]
   simp only [List.length_cons,List.length_nil,Nat.zero_add,Nat.mul_one]
   split
   ·rename_i hjr
    rw [List.getD_eq_getElem?_getD,zrow_get _ _ _ (by simp;omega)]
    simp [Nat.mod_one]
   ·rfl
  ·dsimp only
   rw [if_neg,H.pf i (by omega)]
   intro hh
   rcases Nat.lt_or_ge m n with hl | hl
   ·have:=ho' hl;omega
   ·omega
  ·have hF:=H.rF i (by omega)
   exact ((H.rs i (by omega)).upd u2 hF.2.2).set_ne (a:=⟨s,4,none⟩) hF.2.1 _
end
end Go.Proofs.YteemmpkhdllapaaGreatDoor
namespace Go.Proofs.YteemmpkhdllapaaGreatDoor
open Go.V Classical
section
variable {w₀:World} {h:Heap} {s n:Nat} {c:Cfg} {M:Nat→Int} {Z:Nat→Prop} {K:Value→Heap→Prop}
def There (c:Cfg) (n:Nat) (p q:Int):Prop:=q=0∨(c.base≤p∧p-c.base+q≤(n*c.size:Nat))
theorem mem_look_ok {p q:Int} {QP:List PanicEntry→Heap→Prop} (hp:0≤p∧p<18446744073709551616) (hq:0≤q∧q<18446744073709551616) (H:Sp h s c n M Z)
  (hy:There c n p q→K (.tuple #[]) h)
  (hn:¬There c n p q→QP [⟨.iface T.T_mem_fault (.agg #[.int .i64 4]),false,false⟩] h) :
  CallsE Tryz.prog w₀ F.mem_Space_look #[.pointer (some ⟨s,0,none⟩),.int .u64 p,.int .u64 q] h (callPost K QP):=by
 refine mem_Space_look.call ?_
 have h1:=H.base
 have hl:=H.good.len H.nl
 have hb0:=H.good.b0
 try dsimp only
 have fin:∀b:Bool,(b=false↔There c n p q)→(b=true→callPost K QP (.panicked [⟨(.iface T.T_mem_fault (.agg #[(.int .i64 (4:Int))])),false,false⟩]) h)∧(b=false→callPost K QP (.returned (.tuple #[])) h):=by
  intro b hb
  refine ⟨fun e=>hn fun t=>?_,fun e=>hy (hb.1 e)⟩
  rw [hb.2 t] at e;cases e
 have bad:¬There c n p q→(true=false↔There c n p q):=fun hh=>⟨fun e=>(by cases e),fun t=>(hh t).elim⟩
 intro J1 k1
 refine ⟨fun e=>⟨_,rfl,_,h1,?_⟩,fun e=>?_⟩
 ·simp at e
  intro J3 k3
  refine ⟨fun e2=>?_,fun e2=>?_⟩
  ·refine (mem_End_ok H ⟨_,rfl,k3 _ _ ?_⟩).toE
   intro J4 k4
   refine ⟨fun e3=>?_,fun e3=>?_⟩
   ·refine (mem_End_ok H ⟨_,rfl,k4 _ _ (k1 _ _ (fin _ ?_))⟩).toE
    simp at e2 e3
    have:IntKind.u64.wrap (c.base+(n*c.size:Nat)-p)=c.base+(n*c.size:Nat)-p:=by rw [IntKind.wrap_u64];omega
    rw [this]
    simp only [There,decide_eq_false_iff_not]
    omega
   ·refine k4 _ _ (k1 _ _ (fin true (bad fun t=>?_)))
    simp at e2 e3
    simp only [There] at t
    omega
  ·refine k3 _ _ fun J4 k4=>?_
   refine ⟨fun e3=>(by cases e3),fun _=>k4 _ _ (k1 _ _ (fin true (bad fun t=>?_)))⟩
   simp at e2
   simp only [There] at t
   omega
 ·simp at e
  exact k1 _ _ (fin false ⟨fun _=>.inl e,fun _=>rfl⟩)
theorem off_nums (g:c.Good) {off:Nat} (ho:(off:Int)≤9223372036854775808) :
  IntKind.u64.wrap (c.base+(off:Int)-c.base)=(off:Int)∧IntKind.u64.wrap (Int.tdiv (off:Int) (c.size:Int))=((off / c.size:Nat):Int)∧Int.tmod (off:Int) (c.size:Int)=((off % c.size:Nat):Int):=by
 have hs:=g.size_pos
 refine ⟨by rw [IntKind.wrap_u64];omega,?_,?_⟩
 ·rw [Int.tdiv_eq_ediv_of_nonneg (by omega),←Int.natCast_ediv,IntKind.wrap_u64]
  have h1:off / c.size≤off:=Nat.div_le_self _ _
  generalize off / c.size=d at *
  omega
 ·rw [Int.tmod_eq_emod_of_nonneg (by omega),←Int.natCast_emod]
theorem off_in (g:c.Good) {off n:Nat} (ho:off<n*c.size):off / c.size<n∧off % c.size<c.size∧off / c.size*c.size+off % c.size=off:=by
 have hs:=g.size_pos
 refine ⟨Nat.div_lt_of_lt_mul (by rw [Nat.mul_comm];exact ho),Nat.mod_lt _ (by omega),?_⟩
 have:=Nat.div_add_mod off c.size
 rw [Nat.mul_comm] at this
 exact this
theorem mem_byteAt_ok {off:Nat} (H:Sp h s c n M Z) (ho:off<n*c.size)
  (hK:∀a:Addr,Z a.block→cellAt h a=some (.int .u8 (M off))→Wr h a→(∀v:Int,0≤v→v<256→Sp (setC h a (.int .u8 v)) s c n (fun o=>if o=off then v else M o) Z)→K (.pointer (some a)) h) :
  CallV Tryz.prog w₀ F.mem_Space_byteAt [.pointer (some ⟨s,0,none⟩),.int .u64 (c.base+(off:Int))] h K:=by
 refine mem_Space_byteAt.call ?_
 have h1:=H.base
 have h3:=H.size
 have hl:=H.good.len H.nl
 have hS:=H
 obtain ⟨w,H⟩:=H
 have h4:cellAt h ⟨s,4,none⟩=some (.slice w.pp n w.pc):=H.st.cell (i:=4) (by omega)
 obtain ⟨o1,o2,o3⟩:=off_nums H.good (off:=off) (by omega)
 obtain ⟨i1,i2,i3⟩:=off_in H.good ho
 have hs:=H.good.size_pos
 try dsimp only
 simp only [jor,jand,cellAt_new,add_mk,List.getElem?_toArray,Nat.zero_add,List.getElem?_cons_zero,List.getElem?_cons_succ,Option.some.injEq,Value.int.injEq,Value.bool.injEq,Value.pointer.injEq,Value.slice.injEq,true_and,and_true,exists_eq_left',exists_eq',and_assoc,exists_and_left,h1,h3,h4,o1,o2,o3]
 generalize hi:off / c.size=i at *
 generalize hj:off % c.size=j at *
 have t1:Int.toNat (i:Int)=i:=by omega
 have t2:Int.toNat (j:Int)=j:=by omega
 rw [t1,t2]
 rcases H.ps with ⟨e3,e4,e5⟩ | ⟨e3,e4,e5,e6,e7⟩
 ·omega
 have hpi:=H.pf i i1
 have hc:cellAt h ⟨w.pb,0+i*1,none⟩=some (.slice (some ⟨w.rb i,0,none⟩) c.size c.size):=by
  rw [←hpi,Nat.zero_add,Nat.mul_one];exact e4.cell (by omega)
 have hr:=H.rs i i1
 have hF:=H.rF i i1
 refine ⟨by omega,⟨w.pb,0,none⟩,e3,by omega,by omega,_,_,_,by rw [add_mk];exact hc,by omega,⟨w.rb i,0,none⟩,rfl,by omega,by omega,?_⟩
 rw [add_mk,Nat.zero_add,Nat.mul_one]
 have hM:M off=M (i*c.size+j):=by rw [i3]
 refine hK _ hF.1 (by rw [hM];exact hr.cell i2) (hr.wr i2) fun v v0 v1=>?_
 refine ⟨w,{ H with st:=H.st.set_ne (a:=⟨w.rb i,j,none⟩) (Ne.symm hF.2.1) _,ps:=.inr ⟨e3,e4.set_ne (a:=⟨w.rb i,j,none⟩) (Ne.symm hF.2.2) _,e5,e6,e7⟩,rs:=fun k hk=>?_,lt:=fun b hb=>by rw [setC_size];exact H.lt b hb,by8:=fun o ho=>?_ }⟩
 ·by_cases hki:k=i
  ·subst hki
   refine (hr.set j _).congr fun x hx=>?_
   by_cases hxj:x=j
   ·subst hxj;rw [if_pos rfl,if_pos i3]
   ·rw [if_neg hxj,if_neg (by omega)]
  ·refine ((H.rs k hk).set_ne (a:=⟨w.rb i,j,none⟩) (fun e=>hki (H.inj k hk i i1 e)) _).congr fun x hx=>?_
   rw [if_neg]
   intro e
   have e':(k*c.size+x) / c.size=off / c.size:=by rw [e]
   rw [hi,Nat.mul_comm,Nat.mul_add_div (by omega),Nat.div_eq_of_lt hx,Nat.add_zero] at e'
   exact hki e'
 ·split
  ·exact ⟨v0,v1⟩
  ·exact H.by8 o ho
theorem mem_get_ok {p:Int} {bb o m cap N off:Nat} {f:Nat→Value} {q:Option Addr} (H:Sp h s c n M Z) (hb:Blk h bb N f) (hbZ:¬Z bb) (hm:o+m≤N) (hc:m≤cap)
  (hp:m=0∨(p=c.base+(off:Int)∧off+m≤n*c.size)) (hq:m=0∨q=some ⟨bb,o,none⟩)
  (hK:∀h':Heap,Upd (fun x=>x=bb) h h'→h'.size=h.size→Blk h' bb N (fun j=>if o≤j∧j<o+m then .int .u8 (M (off+(j-o))) else f j)→K (.tuple #[]) h') :
  CallV Tryz.prog w₀ F.mem_Space_get [.pointer (some ⟨s,0,none⟩),.int .u64 p,.slice q m cap] h K:=by
 refine mem_Space_get.call ?_
 try dsimp only
 intro L hL
 induction m using Nat.strongRecOn generalizing h p o cap q off f with
 | ind m ih =>
  apply hL
  refine ⟨fun e=>?_,fun e=>?_⟩
  case refine_2 =>
   simp at e
   subst e
   exact hK h (Upd.refl _ _) rfl (hb.congr fun j hj=>by rw [if_neg (by omega)])
  simp at e
  rcases hp with hp | ⟨rfl,hoff⟩
  ·omega
  rcases hq with hq | rfl
  ·omega
  have h1:=H.base
  have h3:=H.size
  have hl:=H.good.len H.nl
  have hS:=H
  obtain ⟨w,H⟩:=H
  have h4:cellAt h ⟨s,4,none⟩=some (.slice w.pp n w.pc):=H.st.cell (i:=4) (by omega)
  obtain ⟨o1,o2,o3⟩:=off_nums H.good (off:=off) (by omega)
  obtain ⟨i1,i2,i3⟩:=off_in H.good (off:=off) (n:=n) (by omega)
  have hs:=H.good.size_pos
  simp only [jor,jand,cellAt_new,add_mk,List.getElem?_toArray,Nat.zero_add,List.getElem?_cons_zero,List.getElem?_cons_succ,Option.some.injEq,Value.int.injEq,Value.bool.injEq,Value.pointer.injEq,Value.slice.injEq,true_and,and_true,exists_eq_left',exists_eq',and_assoc,exists_and_left,h1,h3,h4,o1,o2,o3]
  generalize hi:off / c.size=i at *
  generalize hj:off % c.size=j at *
  have t1:Int.toNat (i:Int)=i:=by omega
  have t2:Int.toNat (j:Int)=j:=by omega
  have t3:Int.toNat (c.size:Int)=c.size:=by omega
  have t4:Int.toNat (m:Int)=m:=by omega
  rw [t1,t2,t4]
  rcases H.ps with ⟨e3,e4,e5⟩ | ⟨e3,e4,e5,e6,e7⟩
  ·omega
  have hpi:=H.pf i i1
  have hcl:cellAt h ⟨w.pb,0+i*1,none⟩=some (.slice (some ⟨w.rb i,0,none⟩) c.size c.size):=by
   rw [←hpi,Nat.zero_add,Nat.mul_one];exact e4.cell (by omega)
  have hr:=H.rs i i1
  have hF:=H.rF i i1
  refine ⟨by omega,⟨w.pb,0,none⟩,e3,by omega,by omega,_,_,_,by rw [add_mk];exact hcl,by omega,by omega,by omega,by omega,?_⟩
  rw [t3,if_neg (by omega)]
  obtain ⟨t,ht⟩ : ∃t,t=Nat.min (c.size-j) m:=⟨_,rfl⟩
  have ht0:0<t:=by rw [ht];exact Nat.lt_min.2 ⟨by omega,by omega⟩
  have ht1:t≤c.size-j:=by rw [ht];exact Nat.min_le_left _ _
  have ht2:t≤m:=by rw [ht];exact Nat.min_le_right _ _
  have t5:Int.toNat ((Nat.min (c.size-j) m:Nat):Int)=t:=by rw [ht];omega
  have t6:IntKind.u64.wrap (c.base+(off:Int)+IntKind.u64.wrap ((Nat.min (c.size-j) m:Nat):Int))=c.base+((off+t:Nat):Int):=by
   rw [←ht,IntKind.wrap_u64 (t:Int),IntKind.wrap_u64]
   have:=H.good.b0
   omega
  rw [t5,t6,←ht]
  have rowS:Row h (some ⟨w.rb i,j,none⟩) t (fun x=>.int .u8 (M (off+x))):=by
   refine (hr.row j t (by omega)).congr fun x hx=>?_
   have:i*c.size+(j+x)=off+x:=by omega
   simp only [this]
  have hsrc:Option.map (fun b=>Addr.add b (j*1)) (some (⟨w.rb i,0,none⟩ : Addr))=some ⟨w.rb i,j,none⟩:=by simp
  rw [hsrc]
  refine ⟨lst t (fun x=>.int .u8 (M (off+x))),⟨by simp [←ht],rowS.rowAt,?_,?_⟩,by omega,by omega,by omega,?_⟩
  ·intro v hv
   simp [lst] at hv
   obtain ⟨x,_,rfl⟩:=hv
   rfl
  ·intro a ha x hx
   cases ha
   rw [add_mk]
   simp at hx
   exact hb.wr (by omega)
  let h2:Heap:=setCs h ⟨bb,o,none⟩ 0 (lst t (fun x=>.int .u8 (M (off+x))))
  have u2:Upd (fun b=>b=bb) h h2:=setCs_upd _ _ _ _
  have s2:h2.size=h.size:=setCs_size _ _ _ _
  have b2:Blk h2 bb N (fun k=>if o≤k∧k<o+t then .int .u8 (M (off+(k-o))) else f k):=by
   refine (hb.sets _ o 0).congr fun k hk=>?_
   rw [lst_length,Nat.add_zero]
   split
   ·rw [lst_getD (by omega)]
   ·rfl
  refine ih (m-t) (by omega) (h:=h2) (o:=o+t) (off:=off+t) (hS.upd u2 fun b hb' e=>hbZ (e▸hb')) b2 (by omega) (by omega) (.inr ⟨rfl,by omega⟩) ?_ ?_
  ·by_cases hct:cap=t
   ·exact .inl (by omega)
   ·refine .inr ?_
    rw [if_neg hct]
    simp
  ·intro h' u' s' b'
   refine hK h' (Upd.trans u2 u' (fun b e=>e) (fun b e _=>e)) (by omega) (b'.congr fun k hk=>?_)
   by_cases c1:o+t≤k∧k<o+t+(m-t)
   ·rw [if_pos c1,if_pos (by omega)]
    congr 2;omega
   ·rw [if_neg c1]
    by_cases c2:o≤k∧k<o+t
    ·rw [if_pos c2,if_pos (by omega)]
    ·rw [if_neg c2,if_neg (by omega)]
theorem SpX.sets {w:SpW} (H:SpX h s c n M Z w) {i j t:Nat} (hi:i<n) (ht:j+t≤c.size) (g:Nat→Int) (hg:∀x,x<t→0≤g x∧g x<256) :
  Sp (setCs h ⟨w.rb i,j,none⟩ 0 (lst t fun x=>.int .u8 (g x))) s c n (fun o=>if i*c.size+j≤o∧o<i*c.size+j+t then g (o-(i*c.size+j)) else M o) Z:=by
 have hF:=H.rF i hi
 have hs:=H.good.size_pos
 have u:Upd (fun b=>b=w.rb i) h (setCs h ⟨w.rb i,j,none⟩ 0 (lst t fun x=>.int .u8 (g x))):=setCs_upd _ _ _ _
 refine ⟨w,{ H with st:=H.st.upd u (Ne.symm hF.2.1),ps:=?_,rs:=fun k hk=>?_,lt:=fun b hb=>by rw [setCs_size];exact H.lt b hb,by8:=fun o ho=>?_ }⟩
 ·rcases H.ps with e | ⟨e1,e2,e3⟩
  ·exact .inl e
  ·exact .inr ⟨e1,e2.upd u (Ne.symm hF.2.2),e3⟩
 ·by_cases hki:k=i
  ·subst hki
   refine ((H.rs k hk).sets _ j 0).congr fun x hx=>?_
   rw [lst_length,Nat.add_zero]
   by_cases c1:j≤x∧x<j+t
   ·rw [if_pos c1,if_pos (by omega),lst_getD (by omega)]
    congr 2;omega
   ·rw [if_neg c1,if_neg (by omega)]
  ·refine ((H.rs k hk).upd u (fun e=>hki (H.inj k hk i hi e))).congr fun x hx=>?_
   rw [if_neg]
   intro e
   rcases Nat.lt_or_ge k i with hl | hl
   ·have:(k+1)*c.size≤i*c.size:=Nat.mul_le_mul_right _ hl
    rw [Nat.succ_mul] at this
    omega
   ·have:(i+1)*c.size≤k*c.size:=Nat.mul_le_mul_right _ (by omega)
    rw [Nat.succ_mul] at this
    omega
 ·split
  ·exact hg _ (by omega)
  ·exact H.by8 o ho
theorem mem_put_ok {p:Int} {m cap off:Nat} {g:Nat→Int} {q:Option Addr} (H:Sp h s c n M Z) (hr:Row h q m (fun i=>.int .u8 (g i))) (hg:∀x,x<m→0≤g x∧g x<256) (hqZ:m=0∨Off Z q) (hc:m≤cap)
  (hp:m=0∨(p=c.base+(off:Int)∧off+m≤n*c.size))
  (hK:∀h':Heap,Upd Z h h'→h'.size=h.size→Sp h' s c n (fun o=>if off≤o∧o<off+m then g (o-off) else M o) Z→K (.tuple #[]) h') :
  CallV Tryz.prog w₀ F.mem_Space_put [.pointer (some ⟨s,0,none⟩),.int .u64 p,.slice q m cap] h K:=by
 refine mem_Space_put.call ?_
 try dsimp only
 intro L hL
 induction m using Nat.strongRecOn generalizing h p cap q off g M with
 | ind m ih =>
  apply hL
  refine ⟨fun e=>?_,fun e=>?_⟩
  case refine_2 =>
   simp at e
   subst e
   exact hK h (Upd.refl _ _) rfl (H.congr fun j hj=>by rw [if_neg (by omega)])
  simp at e
  rcases hp with hp | ⟨rfl,hoff⟩
  ·omega
  rcases hr with hr | ⟨qb,qo,rfl,hr⟩
  ·omega
  rcases hqZ with hqZ | hqZ
  ·omega
  have h1:=H.base
  have h3:=H.size
  have hl:=H.good.len H.nl
  have hS:=H
  obtain ⟨w,H⟩:=H
  have h4:cellAt h ⟨s,4,none⟩=some (.slice w.pp n w.pc):=H.st.cell (i:=4) (by omega)
  obtain ⟨o1,o2,o3⟩:=off_nums H.good (off:=off) (by omega)
  obtain ⟨i1,i2,i3⟩:=off_in H.good (off:=off) (n:=n) (by omega)
  have hs:=H.good.size_pos
  simp only [jor,jand,cellAt_new,add_mk,List.getElem?_toArray,Nat.zero_add,List.getElem?_cons_zero,List.getElem?_cons_succ,Option.some.injEq,Value.int.injEq,Value.bool.injEq,Value.pointer.injEq,Value.slice.injEq,true_and,and_true,exists_eq_left',exists_eq',and_assoc,exists_and_left,h1,h3,h4,o1,o2,o3]
  generalize hi:off / c.size=i at *
  generalize hj:off % c.size=j at *
  have t1:Int.toNat (i:Int)=i:=by omega
  have t2:Int.toNat (j:Int)=j:=by omega
  have t3:Int.toNat (c.size:Int)=c.size:=by omega
  have t4:Int.toNat (m:Int)=m:=by omega
  rw [t1,t2,t4]
  rcases H.ps with ⟨e3,e4,e5⟩ | ⟨e3,e4,e5,e6,e7⟩
  ·omega
  have hpi:=H.pf i i1
  have hcl:cellAt h ⟨w.pb,0+i*1,none⟩=some (.slice (some ⟨w.rb i,0,none⟩) c.size c.size):=by
   rw [←hpi,Nat.zero_add,Nat.mul_one];exact e4.cell (by omega)
  have hrg:=H.rs i i1
  have hF:=H.rF i i1
  refine ⟨by omega,⟨w.pb,0,none⟩,e3,by omega,by omega,_,_,_,by rw [add_mk];exact hcl,by omega,by omega,by omega,by omega,?_⟩
  rw [t3,if_neg (by omega)]
  obtain ⟨t,ht⟩ : ∃t,t=Nat.min m (c.size-j):=⟨_,rfl⟩
  have ht0:0<t:=by rw [ht];exact Nat.lt_min.2 ⟨by omega,by omega⟩
  have ht1:t≤c.size-j:=by rw [ht];exact Nat.min_le_right _ _
  have ht2:t≤m:=by rw [ht];exact Nat.min_le_left _ _
  have t5:Int.toNat ((Nat.min m (c.size-j):Nat):Int)=t:=by rw [ht];omega
  have t6:IntKind.u64.wrap (c.base+(off:Int)+IntKind.u64.wrap ((Nat.min m (c.size-j):Nat):Int))=c.base+((off+t:Nat):Int):=by
   rw [←ht,IntKind.wrap_u64 (t:Int),IntKind.wrap_u64]
   have:=H.good.b0
   omega
  rw [t5,t6,←ht]
  have hdst:Option.map (fun b=>Addr.add b (j*1)) (some (⟨w.rb i,0,none⟩ : Addr))=some ⟨w.rb i,j,none⟩:=by simp
  rw [hdst]
  have rowS:Row h (some ⟨qb,qo,none⟩) t (fun x=>.int .u8 (g x)):=.inr ⟨qb,qo,rfl,fun x hx=>hr x (by omega)⟩
  refine ⟨lst t (fun x=>.int .u8 (g x)),⟨by simp [←ht],rowS.rowAt,?_,?_⟩,by omega,by omega,by omega,?_⟩
  ·intro v hv
   simp [lst] at hv
   obtain ⟨x,_,rfl⟩:=hv
   rfl
  ·intro a ha x hx
   cases ha
   rw [add_mk]
   simp at hx
   exact hrg.wr (by omega)
  let h2:Heap:=setCs h ⟨w.rb i,j,none⟩ 0 (lst t (fun x=>.int .u8 (g x)))
  have u2:Upd Z h h2:=(setCs_upd _ _ _ _).mono fun b e _=>by rw [e];exact hF.1
  have s2:h2.size=h.size:=setCs_size _ _ _ _
  have S2:Sp h2 s c n (fun o=>if off≤o∧o<off+t then g (o-off) else M o) Z:=by
   have:=H.sets i1 (j:=j) (t:=t) (by omega) g fun x hx=>hg x (by omega)
   rw [i3] at this
   exact this
  refine ih (m-t) (by omega) (h:=h2) (off:=off+t) (g:=fun x=>g (t+x)) S2 ?_ (fun x hx=>hg _ (by omega)) ?_ (by omega) (.inr ⟨rfl,by omega⟩) ?_
  ·by_cases hct:cap=t
   ·exact .inl (by omega)
   ·refine .inr ⟨qb,qo+t,?_,fun x hx=>?_⟩
    ·rw [if_neg hct];simp
    ·rw [Nat.add_assoc]
     exact cellAt_upd (hr (t+x) (by omega)) u2 (show ¬Z qb from hqZ ⟨qb,qo,none⟩ rfl)
  ·refine .inr fun a ha=>?_
   have hz:¬Z qb:=hqZ ⟨qb,qo,none⟩ rfl
   by_cases hct:cap=t
   ·rw [if_pos hct] at ha;cases ha;exact hz
   ·rw [if_neg hct] at ha;simp at ha;cases ha;exact hz
  ·intro h' u' s' b'
   refine hK h' (Upd.trans u2 u' (fun b e=>e) (fun b e _=>e)) (by omega) (b'.congr fun k hk=>?_)
   by_cases c1:off+t≤k∧k<off+t+(m-t)
   ·rw [if_pos c1,if_pos (by omega)]
    congr 1;omega
   ·rw [if_neg c1]
    by_cases c2:off≤k∧k<off+t
    ·rw [if_pos c2,if_pos (by omega)]
    ·rw [if_neg c2,if_neg (by omega)]
end
end Go.Proofs.YteemmpkhdllapaaGreatDoor
namespace Go.Proofs.YteemmpkhdllapaaGreatDoor
open Go.V Classical
section
variable {w₀:World} {h:Heap} {s n:Nat} {c:Cfg} {M:Nat→Int} {Z:Nat→Prop} {K:Value→Heap→Prop}
theorem mem_caught_nil_ok (a:Addr) (h:Heap):CallV Tryz.prog w₀ F.mem_caught [.nilIface,.pointer (some a)] h fun _ h'=>h'=h :=
 mem_caught_nil.call (R:=callPost (fun _ h'=>h'=h) fun _ _=>False) ⟨fun _=>rfl,fun e=>by cases e⟩
theorem mem_caught_fault_ok (a:Addr) (h:Heap) (x:Int) (hw:Wr (h.push (.cells #[.int .i64 x] T.T_mem_fault)) a) :
  CallV Tryz.prog w₀ F.mem_caught [.iface T.T_mem_fault (.agg #[.int .i64 x]),.pointer (some a)] h fun _ h'=>h'=setC (h.push (.cells #[.int .i64 x] T.T_mem_fault)) a (.int .i64 x):=by
 refine mem_caught_fault.call (R:=callPost (fun _ h'=>h'=setC (h.push (.cells #[.int .i64 x] T.T_mem_fault)) a (.int .i64 x)) fun _ _=>False) ⟨fun e=>(by cases e),fun _=>⟨?_,?_⟩⟩
 ·exact (Blk.new h #[.int .i64 0] T.T_mem_fault).wr (i:=0) (by decide)
 ·rw [setC_push]
  intro J k
  refine ⟨fun e=>(by cases e),fun _=>k _ _ _ ⟨x,?_,a,rfl,hw,rfl⟩⟩
  exact (Blk.new h #[.int .i64 x] T.T_mem_fault).cell (i:=0) (by simp)
theorem catches_Byte:Catches Tryz.prog w₀ F.mem_Space_Byte_1 T.T_mem_fault:=mem_Space_Byte_1.catches mem_caught_nil_ok mem_caught_fault_ok
theorem catches_Word:Catches Tryz.prog w₀ F.mem_Space_Word_1 T.T_mem_fault:=mem_Space_Word_1.catches mem_caught_nil_ok mem_caught_fault_ok
theorem catches_SetWord:Catches Tryz.prog w₀ F.mem_Space_SetWord_1 T.T_mem_fault:=mem_Space_SetWord_1.catches mem_caught_nil_ok mem_caught_fault_ok
theorem catches_Fill:Catches Tryz.prog w₀ F.mem_Space_Fill_1 T.T_mem_fault:=mem_Space_Fill_1.catches mem_caught_nil_ok mem_caught_fault_ok
theorem caught_look {h h':Heap} {T₁:TypeId} {K:Heap→Prop} (hk:∀h2,Upd NoB h h2→cellAt h2 ⟨h.size,0,none⟩=some (.int .i64 4)→K h2) :
  caughtK T.T_mem_fault [⟨.iface T.T_mem_fault (.agg #[.int .i64 4]),false,false⟩] (h.push (.cells #[.int .i64 0] T₁)) ⟨h.size,0,none⟩ K:=by
 have b1:Blk (h.push (.cells #[.int .i64 0] T₁)) h.size 1 (fun j=>(#[.int .i64 0]:Array Value).getD j undef):=Blk.new h _ _
 have b2:=b1.push (.cells #[.int .i64 4] T.T_mem_fault)
 refine ⟨by simp,b2.wr (i:=0) (by decide),hk _ ?_ ?_⟩
 ·refine Upd.trans (push_upd NoB h _) (Upd.trans (push_upd NoB _ _) (setC_upd _ _ _) (S'':=fun b=>b=h.size) (fun b e=>e.elim) (fun b e _=>e)) (fun b e=>e) (fun b e hb=>?_)
  omega
 ·have:=(b2.set 0 (.int .i64 4)).cell (i:=0) (by decide)
  simpa using this
theorem end_cell {h h1:Heap} {T₁:TypeId} {S:Nat→Prop} (hu:Upd S (h.push (.cells #[.int .i64 0] T₁)) h1) (hs:¬S h.size) :
  Wr h1 ⟨h.size,0,none⟩∧cellAt (setC h1 ⟨h.size,0,none⟩ (.int .i64 0)) ⟨h.size,0,none⟩=some (.int .i64 0):=by
 have b1:Blk (h.push (.cells #[.int .i64 0] T₁)) h.size 1 (fun j=>(#[.int .i64 0]:Array Value).getD j undef):=Blk.new h _ _
 have b2:=b1.upd hu hs
 refine ⟨b2.wr (i:=0) (by decide),?_⟩
 have:=(b2.set 0 (.int .i64 0)).cell (i:=0) (by decide)
 simpa using this
theorem mem_Byte_ok {p:Int} (hp:0≤p∧p<18446744073709551616) (H:Sp h s c n M Z)
  (hy:There c n p 1→∀h':Heap,Upd NoB h h'→K (.tuple #[.int .u8 (M (p-c.base).toNat),.int .i64 0]) h')
  (hn:¬There c n p 1→∀h':Heap,Upd NoB h h'→K (.tuple #[.int .u8 0,.int .i64 4]) h') :
  CallV Tryz.prog w₀ F.mem_Space_Byte [.pointer (some ⟨s,0,none⟩),.int .u64 p] h K:=by
 refine mem_Space_Byte.call catches_Byte ?_
 unfold mem_Space_Byte.vc
 have H1:Sp (h.push (.cells #[.int .i64 0] T.T_api_Errno)) s c n M Z:=H.upd (push_upd NoB _ _) fun _ _=>id
 refine mem_look_ok hp (by decide) H1 (fun t=>⟨rfl,?_⟩) (fun t=>caught_look (h':=h) fun h2 u2 c2=>⟨4,c2,hn t h2 u2⟩)
 obtain ⟨off,hoff⟩ : ∃off:Nat,p=c.base+(off:Int):=⟨(p-c.base).toNat,by rcases t with t | t<;>omega⟩
 subst hoff
 have ho:off<n*c.size:=by rcases t with t | t<;>omega
 have e:(c.base+(off:Int)-c.base).toNat=off:=by omega
 rw [e] at hy
 refine (mem_byteAt_ok H1 ho fun a ha hc hw hs=>⟨_,rfl,a,rfl,_,hc,?_⟩).toE
 obtain ⟨e1,e2⟩:=end_cell (h:=h) (T₁:=T.T_api_Errno) (Upd.refl NoB _) id
 refine ⟨e1,0,e2,hy t _ ?_⟩
 exact Upd.trans (push_upd NoB h _) (setC_upd _ _ _) (fun b e=>e) (fun b e hb=>absurd e (Nat.ne_of_lt hb))
theorem there_off {p q:Int} (t:There c n p q) (hq:q≠0) (hq0:0≤q):∃off:Nat,p=c.base+(off:Int)∧(p-c.base).toNat=off∧off+q.toNat≤n*c.size:=by
 rcases t with t | t
 ·omega
 ·exact ⟨(p-c.base).toNat,by omega,rfl,by omega⟩
end
end Go.Proofs.YteemmpkhdllapaaGreatDoor
namespace Go.Proofs.YteemmpkhdllapaaGreatDoor
open Go.V Classical
def wrd (f:Nat→Int):Nat→Int
 | 0=>0
 | k+1=>f 0+256*wrd (fun i=>f (i+1)) k
def byteOf (v:Int) (i:Nat):Int:=v / 256 ^ i % 256
theorem wrd_congr {f g:Nat→Int}:∀{k:Nat},(∀i,i<k→f i=g i)→wrd f k=wrd g k
 | 0,_=>rfl
 | k+1,h=>by rw [wrd,wrd,h 0 (by omega),wrd_congr fun i hi=>h (i+1) (by omega)]
theorem wrd_last (f:Nat→Int):∀k:Nat,wrd f (k+1)=wrd f k+256 ^ k*f k
 | 0=>by simp [wrd]
 | k+1=>by
  rw [wrd,wrd_last (fun i=>f (i+1)) k,wrd]
  rw [Int.mul_add,Int.pow_succ,←Int.mul_assoc,Int.mul_comm 256 (256 ^ k)]
  omega
theorem wrd_lt {f:Nat→Int}:∀{k:Nat},(∀i,i<k→0≤f i∧f i<256)→0≤wrd f k∧wrd f k<256 ^ k
 | 0,_=>by simp [wrd]
 | k+1,h=>by
  have h0:=h 0 (by omega)
  have ih:=wrd_lt (f:=fun i=>f (i+1)) (k:=k) fun i hi=>h (i+1) (by omega)
  rw [wrd,Int.pow_succ]
  omega
theorem byteOf_lt (v:Int) (i:Nat):0≤byteOf v i∧byteOf v i<256:=by unfold byteOf;omega
theorem byteOf_succ (v:Int) (i:Nat):byteOf v (i+1)=byteOf (v / 256) i:=by
 unfold byteOf
 rw [Int.pow_succ,Int.mul_comm,←Int.ediv_ediv_of_nonneg (by decide)]
theorem wrd_byteOf:∀(k:Nat) (v:Int),wrd (byteOf v) k=v % 256 ^ k
 | 0,v=>by simp [wrd]
 | k+1,v=>by
  rw [wrd,wrd_congr (g:=byteOf (v / 256)) fun i _=>byteOf_succ v i,wrd_byteOf k]
  have:byteOf v 0=v % 256:=by unfold byteOf;simp
  rw [this,Int.pow_succ]
  have hp:(0:Int)<256 ^ k:=Int.pow_pos (by decide)
  generalize (256:Int) ^ k=x at *
  have e1:=Int.emod_add_mul_ediv (v / 256) x
  have e2:=Int.emod_add_mul_ediv v (x*256)
  have e3:v / (x*256)=v / 256 / x:=by rw [Int.mul_comm,←Int.ediv_ediv_of_nonneg (by decide)]
  rw [e3] at e2
  have e4:x*256*(v / 256 / x)=256*(x*(v / 256 / x)):=by rw [Int.mul_comm x,Int.mul_assoc]
  rw [e4] at e2
  omega
theorem or_step {v b:Int} {i:Nat} (hi:i<8) (hv:0≤v∧v<256 ^ i) (hb:0≤b∧b<256) :
  IntKind.u64.wrap (((BitVec.ofInt (IntKind.bits .u64) v ||| BitVec.ofInt (IntKind.bits .u64) (IntKind.wrap .u64 ((IntKind.wrap .u64 b)*2 ^ min (Int.toNat (IntKind.wrap .i64 ((8:Int)*(i:Int)))) (IntKind.bits .u64)))).toNat:Int))=v+256 ^ i*b:=by
 have hb':IntKind.u64.wrap b=b:=by rw [IntKind.wrap_u64];omega
 have hs:min (Int.toNat (IntKind.wrap .i64 ((8:Int)*(i:Int)))) (IntKind.bits .u64)=8*i:=by
  have:IntKind.wrap .i64 ((8:Int)*(i:Int))=((8*i:Nat):Int):=by rw [IntKind.wrap_i64];omega
  rw [this]
  show min _ 64=_
  omega
 rw [hb',hs]
 obtain ⟨x,rfl⟩ : ∃x:Nat,v=x:=⟨v.toNat,by omega⟩
 obtain ⟨y,rfl⟩ : ∃y:Nat,b=y:=⟨b.toNat,by omega⟩
 have p1:(256:Int) ^ i=((2 ^ (8*i):Nat):Int):=by rw [Nat.pow_mul];simp
 have p2:(2:Int) ^ (8*i)=((2 ^ (8*i):Nat):Int):=by simp
 rw [p1] at hv
 rw [p1,p2]
 have hP:2 ^ (8*i)*256≤2 ^ 64:=by
  rw [show 256=2 ^ 8 by rfl,←Nat.pow_add]
  exact Nat.pow_le_pow_right (by decide) (by omega)
 have hP1:1≤2 ^ (8*i):=Nat.one_le_two_pow
 generalize hq:2 ^ (8*i)=q at *
 have hyq:y*q+q≤256*q:=by
  have:(y+1)*q≤256*q:=Nat.mul_le_mul_right _ (by omega)
  rw [Nat.succ_mul] at this
  exact this
 have e1:IntKind.u64.wrap ((y:Int)*(q:Int))=((y*q:Nat):Int):=by
  rw [IntKind.wrap_u64,←Int.natCast_mul]
  omega
 rw [e1]
 have e2:(BitVec.ofInt (IntKind.bits .u64) (x:Int) ||| BitVec.ofInt (IntKind.bits .u64) ((y*q:Nat):Int)).toNat=x+q*y:=by
  rw [BitVec.ofInt_natCast,BitVec.ofInt_natCast,BitVec.toNat_or,BitVec.toNat_ofNat,BitVec.toNat_ofNat]
  have b1:x % 2 ^ IntKind.bits .u64=x:=Nat.mod_eq_of_lt (by show x<2 ^ 64;omega)
  have b2:y*q % 2 ^ IntKind.bits .u64=y*q:=Nat.mod_eq_of_lt (by show y*q<2 ^ 64;omega)
  rw [b1,b2,Nat.or_comm,Nat.mul_comm y q,Nat.add_comm,←hq]
  exact (Nat.two_pow_add_eq_or_of_lt (by omega) y).symm
 rw [e2,IntKind.wrap_u64,←Int.natCast_mul,←Int.natCast_add]
 have:q*y=y*q:=Nat.mul_comm _ _
 omega
theorem shr_step {v:Int} {i:Nat} (hi:i<8) (hv:0≤v∧v<18446744073709551616) :
  IntKind.wrap .u8 (Int.fdiv v (2 ^ min (Int.toNat (IntKind.wrap .i64 ((8:Int)*(i:Int)))) (IntKind.bits .u64)))=byteOf v i:=by
 have hs:min (Int.toNat (IntKind.wrap .i64 ((8:Int)*(i:Int)))) (IntKind.bits .u64)=8*i:=by
  have:IntKind.wrap .i64 ((8:Int)*(i:Int))=((8*i:Nat):Int):=by rw [IntKind.wrap_i64];omega
  rw [this]
  show min _ 64=_
  omega
 have p1:(2:Int) ^ (8*i)=256 ^ i:=by rw [Int.pow_mul];rfl
 rw [hs,p1,IntKind.wrap_u8]
 unfold byteOf
 rw [Int.fdiv_eq_ediv_of_nonneg _ (Int.le_of_lt (Int.pow_pos (by decide)))]
section
variable {w₀:World} {h:Heap} {s n:Nat} {c:Cfg} {M:Nat→Int} {Z:Nat→Prop} {K:Value→Heap→Prop}
theorem mem_Word_ok {p:Int} (hp:0≤p∧p<18446744073709551616) (H:Sp h s c n M Z)
  (hy:There c n p 8→∀h':Heap,Upd NoB h h'→K (.tuple #[.int .u64 (wrd (fun i=>M ((p-c.base).toNat+i)) 8),.int .i64 0]) h')
  (hn:¬There c n p 8→∀h':Heap,Upd NoB h h'→K (.tuple #[.int .u64 0,.int .i64 4]) h') :
  CallV Tryz.prog w₀ F.mem_Space_Word [.pointer (some ⟨s,0,none⟩),.int .u64 p] h K:=by
 refine mem_Space_Word.call catches_Word ?_
 unfold mem_Space_Word.vc
 have H1:Sp (h.push (.cells #[.int .i64 0] T.T_api_Errno)) s c n M Z:=H.upd (push_upd NoB _ _) fun _ _=>id
 refine mem_look_ok hp (by decide) H1 (fun t=>⟨rfl,?_⟩) (fun t=>caught_look (h':=h) fun h2 u2 c2=>⟨4,c2,hn t h2 u2⟩)
 have hl:=H.good.len H.nl
 refine ⟨by decide,by decide,by decide,?_⟩
 have hs:¬Z h.size:=fun hz=>absurd (H.lt _ hz) (Nat.lt_irrefl _)
 let h1:Heap:=h.push (.cells #[.int .i64 0] T.T_api_Errno)
 have s1:h1.size=h.size+1:=by simp [h1]
 have hs1:¬Z h1.size:=fun hz=>absurd (H.lt _ hz) (by omega)
 let z8:Array Value:=#[(.int .u8 (0:Int)),(.int .u8 (0:Int)),(.int .u8 (0:Int)),(.int .u8 (0:Int)),(.int .u8 (0:Int)),(.int .u8 (0:Int)),(.int .u8 (0:Int)),(.int .u8 (0:Int))]
 let h2:Heap:=h1.push (.cells z8 T.T_arr8_uint8)
 have u12:Upd NoB h1 h2:=push_upd _ _ _
 have H2:Sp h2 s c n M Z:=H1.upd u12 fun _ _=>id
 have b2:Blk h2 h1.size 8 (fun j=>z8.getD j undef):=Blk.new h1 z8 T.T_arr8_uint8
 obtain ⟨off,rfl,eo,ho⟩:=there_off t (by omega) (by omega)
 rw [eo] at hy
 have e8:Int.toNat 8=8:=rfl
 rw [e8] at ho
 refine (mem_get_ok (off:=off) (bb:=h1.size) (o:=0) (m:=8) (cap:=8) (N:=8) H2 b2 hs1 (by omega) (by omega) (.inr ⟨rfl,ho⟩) (.inr rfl) fun h' u' s' b'=>⟨rfl,?_⟩).toE
 have uh:Upd (fun x=>x=h1.size) h1 h':=Upd.trans u12 u' (fun b e=>e.elim) (fun b e _=>e)
 obtain ⟨e1,e2⟩:=end_cell (h:=h) (T₁:=T.T_api_Errno) uh (by omega)
 have hb8:∀i,i<8→0≤M (off+i)∧M (off+i)<256:=fun i hi=>H.by8 _ (by omega)
 have hc8:∀i,i<8→cellAt h' ⟨h1.size,i,none⟩=some (.int .u8 (M (off+i))):=fun i hi=>by
  rw [b'.cell hi,if_pos (by omega)];rfl
 have hK:K (.tuple #[.int .u64 (wrd (fun i=>M (off+i)) 8),.int .i64 0]) (setC h' ⟨h.size,0,none⟩ (.int .i64 0)):=by
  refine hy t _ ?_
  exact Upd.trans (push_upd NoB h _) (Upd.trans uh (setC_upd _ _ _) (S'':=fun b=>h.size≤b) (fun b e=>by omega) (fun b e _=>Nat.le_of_eq e.symm)) (fun b e=>e) (fun b e hb=>absurd e (by omega))
 intro J k L hL
 have loop:∀r i:Nat,i+r=8→L [.int .u64 (wrd (fun i=>M (off+i)) i),.pointer (some ⟨h.size,0,none⟩),.pointer (some ⟨h1.size,0,none⟩),.int .i64 (i:Int)] h':=by
  intro r
  induction r with
  | zero =>
   intro i hi
   have:i=8:=by omega
   subst this
   refine hL _ _ _ _ _ ⟨fun e=>absurd e (by decide),fun _=>k _ _ _ ⟨e1,0,e2,hK⟩⟩
  | succ r ih =>
   intro i hi
   refine hL _ _ _ _ _ ⟨fun _=>⟨by omega,by omega,M (off+i),?_,?_,?_⟩,fun e=>?_⟩
   ·have t1:Int.toNat (i:Int)=i:=by omega
    rw [t1,add_mk,Nat.zero_add,Nat.mul_one]
    exact hc8 i (by omega)
   ·have:IntKind.wrap .i64 ((8:Int)*(i:Int))=((8*i:Nat):Int):=by rw [IntKind.wrap_i64];omega
    omega
   ·have hl:=wrd_lt (f:=fun i=>M (off+i)) (k:=i) fun j hj=>hb8 j (by omega)
    rw [or_step (by omega) hl (hb8 i (by omega))]
    have e3:IntKind.wrap .i64 ((i:Int)+1)=((i+1:Nat):Int):=by rw [IntKind.wrap_i64];omega
    rw [e3]
    have:=ih (i+1) (by omega)
    rw [wrd_last] at this
    exact this
   ·simp at e
    omega
 exact loop 8 0 rfl
theorem mem_SetWord_ok {p v:Int} (hp:0≤p∧p<18446744073709551616) (hv:0≤v∧v<18446744073709551616) (H:Sp h s c n M Z)
  (hy:There c n p 8→∀h':Heap,Upd Z h h'→Sp h' s c n (fun o=>if (p-c.base).toNat≤o∧o<(p-c.base).toNat+8 then byteOf v (o-(p-c.base).toNat) else M o) Z→K (.int .i64 0) h')
  (hn:¬There c n p 8→∀h':Heap,Upd NoB h h'→K (.int .i64 4) h') :
  CallV Tryz.prog w₀ F.mem_Space_SetWord [.pointer (some ⟨s,0,none⟩),.int .u64 p,.int .u64 v] h K:=by
 refine mem_Space_SetWord.call catches_SetWord ?_
 unfold mem_Space_SetWord.vc
 have H1:Sp (h.push (.cells #[.int .i64 0] T.T_api_Errno)) s c n M Z:=H.upd (push_upd NoB _ _) fun _ _=>id
 refine mem_look_ok hp (by decide) H1 (fun t=>⟨rfl,?_⟩) (fun t=>caught_look (h':=h) fun h2 u2 c2=>⟨4,c2,hn t h2 u2⟩)
 have hl:=H.good.len H.nl
 have hs:¬Z h.size:=fun hz=>absurd (H.lt _ hz) (Nat.lt_irrefl _)
 let h1:Heap:=h.push (.cells #[.int .i64 0] T.T_api_Errno)
 have s1:h1.size=h.size+1:=by simp [h1]
 have hs1:¬Z h1.size:=fun hz=>absurd (H.lt _ hz) (by omega)
 let z8:Array Value:=#[(.int .u8 (0:Int)),(.int .u8 (0:Int)),(.int .u8 (0:Int)),(.int .u8 (0:Int)),(.int .u8 (0:Int)),(.int .u8 (0:Int)),(.int .u8 (0:Int)),(.int .u8 (0:Int))]
 let h2:Heap:=h1.push (.cells z8 T.T_arr8_uint8)
 have u12:Upd NoB h1 h2:=push_upd _ _ _
 obtain ⟨off,rfl,eo,ho⟩:=there_off t (by omega) (by omega)
 rw [eo] at hy
 have e8:Int.toNat 8=8:=rfl
 rw [e8] at ho
 intro J k L hL
 have hJ:∀hx:Heap,Upd (fun x=>x=h1.size) h2 hx→Blk hx h1.size 8 (fun j=>.int .u8 (byteOf v j)) →
   J [.pointer (some ⟨s,0,none⟩),.int .u64 (c.base+(off:Int)),.pointer (some ⟨h.size,0,none⟩),.pointer (some ⟨h1.size,0,none⟩)] hx:=by
  intro hx ux bx
  refine k _ _ _ _ _ ⟨by decide,by decide,by decide,?_⟩
  have uh:Upd (fun x=>x=h1.size) h1 hx:=Upd.trans u12 ux (fun b e=>e.elim) (fun b e _=>e)
  have Hx:Sp hx s c n M Z:=H1.upd uh fun b hb e=>hs1 (e▸hb)
  have rx:Row hx (some ⟨h1.size,0,none⟩) 8 (fun j=>.int .u8 (byteOf v j)):=(bx.row 0 8 (by omega)).congr fun i hi=>by rw [Nat.zero_add]
  refine (mem_put_ok (off:=off) (m:=8) (cap:=8) Hx rx (fun x hx=>byteOf_lt v x) (.inr fun a ha=>by cases ha;exact hs1) (by omega) (.inr ⟨rfl,ho⟩) fun h' u' s' S'=>⟨rfl,?_⟩).toE
  have uu:Upd (fun b=>Z b∨b=h1.size) h1 h':=Upd.trans uh u' (fun b e=>.inr e) (fun b e _=>.inl e)
  obtain ⟨e1,e2⟩:=end_cell (h:=h) (T₁:=T.T_api_Errno) uu (by rintro (e | e);exact hs e;omega)
  refine ⟨e1,0,e2,hy t _ ?_ ?_⟩
  ·exact Upd.trans (push_upd NoB h _) (Upd.trans uu (setC_upd _ _ _) (S'':=fun b=>Z b∨h.size≤b) (fun b e=>e.imp id fun e=>by omega) (fun b e _=>.inr (Nat.le_of_eq e.symm))) (fun b e=>e.elim) (fun b e hb=>e.elim id fun e=>absurd e (by omega))
  ·exact S'.upd (setC_upd _ _ _) fun b hb e=>hs (by have e:b=h.size:=e;rw [←e];exact hb)
 have loop:∀r i:Nat,i+r=8→∀hx:Heap,Upd (fun x=>x=h1.size) h2 hx→(∃f,Blk hx h1.size 8 f∧∀j,j<i→f j=.int .u8 (byteOf v j)) →
   L [.pointer (some ⟨s,0,none⟩),.int .u64 (c.base+(off:Int)),.int .u64 v,.pointer (some ⟨h.size,0,none⟩),.pointer (some ⟨h1.size,0,none⟩),.int .i64 (i:Int)] hx:=by
  intro r
  induction r with
  | zero =>
   intro i hi hx ux bx
   have:i=8:=by omega
   subst this
   obtain ⟨f,bx,hf⟩:=bx
   exact hL _ _ _ _ _ _ _ ⟨fun e=>absurd e (by decide),fun _=>hJ hx ux (bx.congr hf)⟩
  | succ r ih =>
   intro i hi hx ux bx
   obtain ⟨f,bx,hf⟩:=bx
   refine hL _ _ _ _ _ _ _ ⟨fun _=>⟨?_,by omega,by omega,?_,?_⟩,fun e=>?_⟩
   ·have:IntKind.wrap .i64 ((8:Int)*(i:Int))=((8*i:Nat):Int):=by rw [IntKind.wrap_i64];omega
    omega
   ·have t1:Int.toNat (i:Int)=i:=by omega
    rw [t1,add_mk,Nat.zero_add,Nat.mul_one]
    exact bx.wr (by omega)
   ·rw [shr_step (by omega) hv]
    have t1:Int.toNat (i:Int)=i:=by omega
    have e3:IntKind.wrap .i64 ((i:Int)+1)=((i+1:Nat):Int):=by rw [IntKind.wrap_i64];omega
    rw [e3,t1,add_mk,Nat.zero_add,Nat.mul_one]
    refine ih (i+1) (by omega) _ (Upd.trans ux (setC_upd _ _ _) (fun b e=>e) (fun b e _=>e)) ⟨_,bx.set i _,fun j hj=>?_⟩
    by_cases hji:j=i
    ·subst hji;rw [if_pos rfl]
    ·rw [if_neg hji];exact hf j (by omega)
   ·simp at e
    omega
 exact loop 8 0 rfl h2 (Upd.refl _ _) ⟨_,Blk.new h1 z8 T.T_arr8_uint8,fun j hj=>absurd hj (by omega)⟩
theorem mem_Fill_ok {p q v:Int} (hp:0≤p∧p<18446744073709551616) (hq:0≤q∧q<18446744073709551616) (hv:0≤v∧v<256) (H:Sp h s c n M Z)
  (hy:There c n p q→∀h':Heap,Upd Z h h'→Sp h' s c n (fun o=>if (p-c.base).toNat≤o∧o<(p-c.base).toNat+q.toNat then v else M o) Z→K (.int .i64 0) h')
  (hn:¬There c n p q→∀h':Heap,Upd NoB h h'→K (.int .i64 4) h') :
  CallV Tryz.prog w₀ F.mem_Space_Fill [.pointer (some ⟨s,0,none⟩),.int .u64 p,.int .u64 q,.int .u8 v] h K:=by
 refine mem_Space_Fill.call catches_Fill ?_
 unfold mem_Space_Fill.vc
 have H1:Sp (h.push (.cells #[.int .i64 0] T.T_api_Errno)) s c n M Z:=H.upd (push_upd NoB _ _) fun _ _=>id
 refine mem_look_ok hp hq H1 (fun t=>⟨rfl,?_⟩) (fun t=>caught_look (h':=h) fun h2 u2 c2=>⟨4,c2,hn t h2 u2⟩)
 have hl:=H.good.len H.nl
 have hs:¬Z h.size:=fun hz=>absurd (H.lt _ hz) (Nat.lt_irrefl _)
 intro J k L hL
 obtain ⟨off,ho,ht⟩ : ∃off:Nat,(p-c.base).toNat=off∧(q=0∨(p=c.base+(off:Int)∧off+q.toNat≤n*c.size)):=by
  refine ⟨_,rfl,?_⟩
  rcases t with t | t
  ·exact .inl t
  ·exact .inr ⟨by omega,by omega⟩
 rw [ho] at hy
 have loop:∀(r:Nat) (p:Int) (o:Nat) (M':Nat→Int) (hx:Heap),(r=0∨(p=c.base+(o:Int)∧o+r≤n*c.size))→(r=0∨r+o=off+q.toNat)→Sp hx s c n M' Z →
   Upd Z (h.push (.cells #[.int .i64 0] T.T_api_Errno)) hx→(∀x,x<n*c.size→(if o≤x∧x<o+r then v else M' x)=if off≤x∧x<off+q.toNat then v else M x) →
   L [.pointer (some ⟨s,0,none⟩),.int .u64 p,.int .u64 (r:Int),.int .u8 v,.pointer (some ⟨h.size,0,none⟩)] hx:=by
  intro r
  induction r with
  | zero =>
   intro p o M' hx _ _ Hx ux hm
   refine hL _ _ _ _ _ _ ⟨fun e=>absurd e (by decide),fun _=>k _ _ ?_⟩
   obtain ⟨e1,e2⟩:=end_cell (h:=h) (T₁:=T.T_api_Errno) ux hs
   refine ⟨e1,0,e2,hy t _ ?_ ?_⟩
   ·exact Upd.trans (push_upd NoB h _) (Upd.trans ux (setC_upd _ _ _) (S'':=fun b=>Z b∨b=h.size) (fun b e=>.inl e) (fun b e _=>.inr e)) (fun b e=>e.elim) (fun b e hb=>e.elim id fun e=>absurd e (Nat.ne_of_lt hb))
   ·refine (Hx.congr fun x hx=>?_).upd (setC_upd _ _ _) fun b hb e=>hs (by have e:b=h.size:=e;rw [←e];exact hb)
    rw [←hm x hx,if_neg (by omega)]
  | succ r ih =>
   intro p o M' hx hpo hro Hx ux hm
   rcases hpo with hpo | ⟨rfl,hpo⟩
   ·omega
   refine hL _ _ _ _ _ _ ⟨fun _=>?_,fun e=>?_⟩
   ·refine (mem_byteAt_ok Hx (off:=o) (by omega) fun a ha hc hw hS=>⟨_,rfl,a,rfl,hw,?_⟩).toE
    have ua:Upd Z hx (setC hx a (.int .u8 v)):=(setC_upd _ _ _).mono fun b e _=>by rw [e];exact ha
    have w1:IntKind.wrap .u64 (c.base+(o:Int)+1)=c.base+((o+1:Nat):Int):=by
     have:=H.good.b0
     rw [IntKind.wrap_u64];omega
    have w2:IntKind.wrap .u64 (((r+1:Nat):Int)-1)=(r:Int):=by rw [IntKind.wrap_u64];omega
    rw [w1,w2]
    refine ih _ (o+1) _ _ (.inr ⟨rfl,by omega⟩) (.inr (by omega)) (hS v hv.1 hv.2) (Upd.trans ux ua (fun b e=>e) (fun b e _=>e)) fun x hx=>?_
    rw [←hm x hx]
    by_cases c1:x=o
    ·rw [if_neg (by omega),if_pos c1,if_pos (by omega)]
    ·by_cases c2:o+1≤x∧x<o+1+r
     ·rw [if_pos c2,if_pos (by omega)]
     ·rw [if_neg c2,if_neg c1,if_neg (by omega)]
   ·simp at e
 have e:q=(q.toNat:Int):=by omega
 have:=loop q.toNat p off M _ (by rcases ht with ht | ht;exact .inl (by omega);exact .inr ht) (.inr (by omega)) H1 (Upd.refl _ _) fun x hx=>rfl
 rw [←e] at this
 exact this
end
end Go.Proofs.YteemmpkhdllapaaGreatDoor
namespace Go.Proofs.YteemmpkhdllapaaGreatDoor
open Go.V Classical
section
variable {w₀:World} {h:Heap} {s n:Nat} {c:Cfg} {M:Nat→Int} {Z:Nat→Prop} {K:Value→Heap→Prop}
theorem ref2_May_ok {a b d:Int} (ha:0≤a∧a<18446744073709551616) (hK:∀h',Upd NoB h h'→K (.bool (decide (Cfg.Good ⟨a,b,d⟩))) h') :
  CallV Tryz.prog w₀ F.croftref2_May [.agg #[.int .u64 a,.int .i64 b,.int .i64 d]] h K:=by
 refine croftref2_May.call ?_
 try dsimp only
 let H1:Heap:=Array.push h (.cells #[(.int .u64 a),(.int .i64 b),(.int .i64 d)] T.T_api_Config)
 have hK:=hK H1 (push_upd _ _ _)
 have c0:cellAt H1 ⟨h.size,0,none⟩=some (.int .u64 a):=by simp [H1,cellAt_new]
 have c1:cellAt H1 ⟨h.size,1,none⟩=some (.int .i64 b):=by simp [H1,cellAt_new]
 have c2:cellAt H1 ⟨h.size,2,none⟩=some (.int .i64 d):=by simp [H1,cellAt_new]
 simp only [jor,jand,cellAt_new,add_mk,List.getElem?_toArray,Nat.zero_add,List.getElem?_cons_zero,List.getElem?_cons_succ,Option.some.injEq,Value.int.injEq,Value.bool.injEq,Value.pointer.injEq,Value.slice.injEq,true_and,and_true,exists_eq_left',exists_eq',and_assoc,exists_and_left]
 refine ⟨fun e=>?_,fun e=>?_⟩
 ·have:decide (Cfg.Good ⟨a,b,d⟩)=false:=by rw [decide_eq_false_iff_not,good_iff];simp at e;omega
  rw [this] at hK
  exact hK
 simp at e
 have hx:∀i:Nat,i≤8→∃x:Nat,2 ^ i=x∧1≤x∧x≤256∧0≤b*(x:Int)∧b*(x:Int)≤16384:=by
  intro i hi
  have:i=0∨i=1∨i=2∨i=3∨i=4∨i=5∨i=6∨i=7∨i=8:=by omega
  rcases this with rfl | rfl | rfl | rfl | rfl | rfl | rfl | rfl | rfl<;>exact ⟨_,rfl,by decide,by decide,by omega,by omega⟩
 have hJ:∀x:Nat,2 ^ d.toNat=x→∀J:List Value→Heap→Prop,(∀(x1:Addr) (x3 x4:Int) (hJ5:Heap),(∀J6:Bool→Heap→Prop,(∀(b43:Bool) (h43:Heap),(∀J7:Bool→Heap→Prop,(∀(b50:Bool) (h50:Heap),((b50=true→K (.bool false) h50)∧(b50=false→(∃n53:Int,cellAt h50 (x1.add 1)=some (.int .i64 n53)∧(∃n57:Int,cellAt h50 x1=some (.int .u64 n57)∧(∀J8:Bool→Heap→Prop,(∀(b65:Bool) (h65:Heap),K (.bool b65) h65→J8 b65 h65)→((decide (n57≤(9223372036854775808:Int)))=true→(∃n61:Int,cellAt h50 x1=some (.int .u64 n61)∧J8 (decide ((IntKind.wrap .u64 (n61+(IntKind.wrap .u64 (x4*(IntKind.wrap .u64 n53)))))≤(9223372036854775808:Int))) h50))∧((decide (n57≤(9223372036854775808:Int)))=(!true)→J8 false h50))))))→J7 b50 h50)→(b43=false→(∃n46:Int,cellAt h43 x1=some (.int .u64 n46)∧(x4≠0∧J7 ((Int.tmod n46 x4) != (0:Int)) h43)))∧(b43=(!false)→J7 true h43))→J6 b43 h43)→((decide (x3>(1024:Int)))=false→(∃n41:Int,cellAt hJ5 x1=some (.int .u64 n41)∧J6 (n41 == (0:Int)) hJ5))∧((decide (x3>(1024:Int)))=(!false)→J6 true hJ5))→J [(.pointer (some x1)),(.int .i64 x3),(.int .u64 x4)] hJ5) →
   J [.pointer (some ⟨h.size,0,none⟩),.int .i64 (b*x),.int .u64 (4096*x)] H1:=by
  intro x hxx J k
  apply k
  clear k J
  obtain ⟨x',hx',hx1,hx2,hx3,hx4⟩:=hx d.toNat (by omega)
  have:x'=x:=by omega
  subst this
  have e3:IntKind.u64.wrap (4096*x'*IntKind.u64.wrap b)=4096*(b*x'):=by
   rw [IntKind.wrap_u64 b,Int.emod_eq_of_lt (by omega) (by omega),Int.mul_assoc,Int.mul_comm (x':Int),IntKind.wrap_u64];omega
  have g:Cfg.Good ⟨a,b,d⟩↔b*(x':Int)≤1024∧0<a∧a % (4096*(x':Int))=0∧a+4096*(b*x')≤9223372036854775808:=by
   rw [good_iff,hx']
   have:((4096*x':Nat):Int)=4096*(x':Int):=by omega
   rw [this,Int.mul_assoc,Int.mul_comm (x':Int)]
   omega
  simp only [jor,jand,cellAt_new,add_mk,List.getElem?_toArray,Nat.zero_add,List.getElem?_cons_zero,List.getElem?_cons_succ,Option.some.injEq,Value.int.injEq,Value.bool.injEq,Value.pointer.injEq,Value.slice.injEq,true_and,and_true,exists_eq_left',exists_eq',and_assoc,exists_and_left,c0,c1,c2,e3,Int.tmod_eq_emod_of_nonneg ha.1]
  intro J7 k7
  refine ⟨fun e5=>⟨by omega,k7 _ _ ⟨fun e6=>?_,fun e6=>?_⟩⟩,fun e5=>k7 _ _ ⟨fun _=>?_,fun e=>by cases e⟩⟩
  ·have:decide (Cfg.Good ⟨a,b,d⟩)=false:=by rw [decide_eq_false_iff_not,g];simp at e6;omega
   rw [this] at hK
   exact hK
  ·simp at e5 e6
   have:decide (Cfg.Good ⟨a,b,d⟩)=(decide (a≤9223372036854775808) && decide (IntKind.u64.wrap (a+4096*(b*(x':Int)))≤9223372036854775808)):=by
    rw [Bool.eq_iff_iff]
    simp only [decide_eq_true_eq,Bool.and_eq_true,g]
    rw [IntKind.wrap_u64]
    constructor
    ·rintro ⟨h1,h2,h3,h4⟩;exact ⟨by omega,by omega⟩
    ·rintro ⟨h1,h2⟩;exact ⟨by omega,by omega,by omega,by omega⟩
   rw [this] at hK
   refine ⟨_,c1,_,c0,?_⟩
   simp only [jor,jand,cellAt_new,add_mk,List.getElem?_toArray,Nat.zero_add,List.getElem?_cons_zero,List.getElem?_cons_succ,Option.some.injEq,Value.int.injEq,Value.bool.injEq,Value.pointer.injEq,Value.slice.injEq,true_and,and_true,exists_eq_left',exists_eq',and_assoc,exists_and_left,c0,e3]
   exact hK
  ·have:decide (Cfg.Good ⟨a,b,d⟩)=false:=by rw [decide_eq_false_iff_not,g];simp at e5;omega
   rw [this] at hK
   exact hK
 intro J k L hL
 have hJ:=hJ _ rfl J k
 have loop:∀r i:Nat,i+r=d.toNat→L [.pointer (some ⟨h.size,0,none⟩),.int .i64 (b*((2 ^ i:Nat):Int)),.int .u64 (4096*((2 ^ i:Nat):Int)),.int .i64 (i:Int)] H1:=by
  intro r
  induction r with
  | zero =>
   intro i hi
   have:i=d.toNat:=by omega
   subst this
   refine hL _ _ _ _ _ ⟨d,c2,fun e=>?_,fun _=>hJ⟩
   simp at e
   omega
  | succ r ih =>
   intro i hi
   obtain ⟨x,hx',hx1,hx2,hx3,hx4⟩:=hx i (by omega)
   have ih:=ih (i+1) (by omega)
   refine hL _ _ _ _ _ ⟨d,c2,fun _=>?_,fun e=>?_⟩
   ·have e0:(2 ^ (i+1):Nat)=x*2:=by rw [Nat.pow_succ,hx']
    have e1:IntKind.wrap .i64 (b*(x:Int)*2)=b*((x*2:Nat):Int):=by
     rw [Int.natCast_mul,←Int.mul_assoc,IntKind.wrap_i64];omega
    have e2:IntKind.wrap .u64 (4096*(x:Int)*2)=4096*((x*2:Nat):Int):=by rw [IntKind.wrap_u64];omega
    have e3:IntKind.wrap .i64 ((i:Int)+1)=((i+1:Nat):Int):=by rw [IntKind.wrap_i64];omega
    rw [hx',e1,e2,e3]
    rw [e0] at ih
    exact ih
   ·simp at e
    omega
 have:=loop d.toNat 0 (by omega)
 simpa using this
end
end Go.Proofs.YteemmpkhdllapaaGreatDoor
