/- Texts of this proof, some in one. No condition. -/
import Derived.Test.YteemmpkhdllapaaGreatDoorY2
import Derived.Test.YteemmpkhdllapaaGreatDoorY7
set_option linter.unusedSimpArgs false
set_option linter.unusedVariables false
namespace Go.Proofs.YteemmpkhdllapaaGreatDoor
open Go.V Classical
structure Sto where
 n:Nat
 M:Nat→Int
def Sto.th (st:Sto) (c:Cfg) (p q:Int):Bool:=(q == 0) || (decide (c.base≤p) && decide (p-c.base+q≤((st.n*c.size:Nat):Int)))
def Sto.rd (st:Sto) (c:Cfg) (p:Int):Int:=wrd (fun i=>st.M ((p-c.base).toNat+i)) 8
def Sto.wr (st:Sto) (c:Cfg) (p v:Int):Sto:=⟨st.n,fun o=>if (p-c.base).toNat≤o∧o<(p-c.base).toNat+8 then byteOf v (o-(p-c.base).toNat) else st.M o⟩
@[simp] theorem wr_n (st:Sto) (c:Cfg) (p v:Int):(st.wr c p v).n=st.n:=rfl
@[simp] theorem wr_th (st:Sto) (c:Cfg) (p v a b:Int):(st.wr c p v).th c a b=st.th c a b:=rfl
theorem th_iff {st:Sto} {c:Cfg} {p q:Int}:st.th c p q=true↔There c st.n p q:=by
 unfold Sto.th There
 simp [Bool.or_eq_true,Bool.and_eq_true,decide_eq_true_eq,beq_iff_eq]
theorem th_false {st:Sto} {c:Cfg} {p q:Int}:st.th c p q=false↔¬There c st.n p q:=by
 rw [←th_iff];cases st.th c p q<;>simp
abbrev U64 (p:Int):Prop:=0≤p∧p<18446744073709551616
def spR (s:Nat) (c:Cfg) (Z:Nat→Prop) (st:Sto):Res:=⟨Z,fun h=>Sp h s c st.n st.M Z,fun H hu hs=>H.upd hu hs,fun H=>H.lt⟩
def lsf (s:Nat) (hd:Int):Nat→Value
 | 0=>.pointer (some ⟨s,0,none⟩)
 | _=>.int .u64 hd
def lsR (s:Nat) (l:Nat) (hd:Int):Res:=factR (U64 hd) (blkR l 2 (lsf s hd))
section
variable {w₀:World} {h:Heap} {s l:Nat} {c:Cfg} {Z:Nat→Prop} {st:Sto} {hd:Int} {K:Value→Heap→Prop}
theorem ls_s (L:(lsR s l hd).P h):cellAt h ⟨l,0,none⟩=some (.pointer (some ⟨s,0,none⟩)):=L.2.cell (i:=0) (by omega)
theorem ls_h (L:(lsR s l hd).P h):cellAt h ⟨l,1,none⟩=some (.int .u64 hd):=L.2.cell (i:=1) (by omega)
theorem ls_w (L:(lsR s l hd).P h):Wr h ⟨l,1,none⟩:=L.2.wr (i:=1) (by omega)
theorem sp_end (H:(spR s c Z st).P h):c.base+((st.n*c.size:Nat):Int)≤9223372036854775808∧0<c.base:=⟨(H.good.len H.nl).2,H.good.b0⟩
theorem th_lt (H:(spR s c Z st).P h) {p q:Int} (t:st.th c p q=true) (hq:0<q):c.base≤p∧p+q≤9223372036854775808∧p-c.base+q≤((st.n*c.size:Nat):Int):=by
 have:=sp_end H
 rcases th_iff.1 t with e | ⟨e1,e2⟩
 ·omega
 ·omega
theorem th_16 {st:Sto} {c:Cfg} {p:Int}:st.th c p 16=(st.th c p 8 && st.th c (p+8) 8):=by
 have h1:=th_iff (st:=st) (c:=c) (p:=p) (q:=16)
 have h2:=th_iff (st:=st) (c:=c) (p:=p) (q:=8)
 have h3:=th_iff (st:=st) (c:=c) (p:=p+8) (q:=8)
 unfold There at h1 h2 h3
 rw [Bool.eq_iff_iff,Bool.and_eq_true,h1,h2,h3]
 generalize st.n*c.size=x
 omega
theorem rd_U64 (H:(spR s c Z st).P h) {p:Int} (t:st.th c p 8=true):U64 (st.rd c p):=by
 have h1:=th_lt H t (by omega)
 have:=wrd_lt (k:=8) (f:=fun i=>st.M ((p-c.base).toNat+i)) fun i hi=>H.by8 _ (by omega)
 exact ⟨this.1,this.2⟩
def lk1 (st:Sto) (c:Cfg) (p:Int):Int:=if st.th c p 8 then st.rd c p else 0
def lk2 (st:Sto) (c:Cfg) (p:Int):Int:=if st.th c p 16 then st.rd c (p+8) else 0
theorem wrap_add8 {p:Int} (h0:0≤p) (h1:p+8<18446744073709551616):IntKind.wrap .u64 (p+8)=p+8:=by
 rw [IntKind.wrap_u64,Int.emod_eq_of_lt (by omega) (by omega)]
theorem links_links_ok {p:Int} (hp:U64 p) (L:(lsR s l hd).P h) (H:(spR s c Z st).P h)
  (hK:∀h',Upd NoB h h'→K (.tuple #[.int .u64 (lk1 st c p),.int .u64 (lk2 st c p),.bool (st.th c p 16)]) h') :
  CallV Tryz.prog w₀ F.links_List_links [.pointer (some ⟨l,0,none⟩),.int .u64 p] h K:=by
 refine links_List_links.call ?_
 try dsimp only
 refine ⟨_,rfl,_,ls_s L,?_⟩
 refine mem_Word_ok hp H (fun t h1 u1=>?_) (fun t h1 u1=>?_)
 ·have t:=th_iff.2 t
  have L1:=(lsR s l hd).st L u1 fun _ _=>id
  have H1:=(spR s c Z st).st H u1 fun _ _=>id
  have hlt:=th_lt H t (by omega)
  have h0:=(sp_end H).2
  refine ⟨_,_,rfl,iF rfl ⟨_,rfl,_,ls_s L1,?_⟩⟩
  rw [wrap_add8 hp.1 (by omega)]
  refine mem_Word_ok (by omega) H1 (fun t2 h2 u2=>?_) (fun t2 h2 u2=>?_)
  ·have t2:=th_iff.2 t2
   refine ⟨_,_,rfl,fun J hJ=>qT rfl (hJ _ _ ?_)⟩
   have:=hK h2 (u1.nx u2 fun _ e _=>e)
   have e:st.th c p 16=true:=by rw [th_16,t,t2];rfl
   have e2:decide (p+8>p)=true:=decide_eq_true (by omega)
   rw [e2]
   simp only [lk1,lk2,t,e,if_true] at this
   exact this
  ·have t2:=th_false.2 t2
   refine ⟨_,_,rfl,fun J hJ=>qF' rfl (hJ _ _ ?_)⟩
   have:=hK h2 (u1.nx u2 fun _ e _=>e)
   have e:st.th c p 16=false:=by rw [th_16,t,t2];rfl
   simp only [lk1,lk2,t,e,if_true,Bool.false_eq_true,if_false] at this
   exact this
 ·have t:=th_false.2 t
  refine ⟨_,_,rfl,iT rfl ?_⟩
  have:=hK h1 u1
  have e:st.th c p 16=false:=by rw [th_16,t];rfl
  simp only [lk1,lk2,t,e,Bool.false_eq_true,if_false] at this
  exact this
theorem setw_ok {p v:Int} (hp:U64 p) (hv:U64 v) (t:st.th c p 8=true) (H:(spR s c Z st).P h)
  (hK:∀h',Stp h h' (spR s c Z st) (spR s c Z (st.wr c p v))→K (.int .i64 0) h'):CallV Tryz.prog w₀ F.mem_Space_SetWord [.pointer (some ⟨s,0,none⟩),.int .u64 p,.int .u64 v] h K :=
 mem_SetWord_ok hp hv H (fun _ h' u H'=>hK h' ⟨u,H',fun _ e=>.inl e⟩) (fun t'=>absurd (th_iff.1 t) t')
structure LS where
 st:Sto
 hd:Int
abbrev lwR (s l:Nat) (c:Cfg) (Z:Nat→Prop) (x:LS):Res:=andR (lsR s l x.hd) (spR s c Z x.st)
def pushU (c:Cfg) (x:LS) (p:Int):LS×Int :=
 if x.st.th c p 16=false then (x,4)
 else if x.hd≠0∧(x.st.th c x.hd 16=false∨x.st.rd c (x.hd+8)≠0) then (x,8)
 else (⟨(if x.hd≠0 then ((x.st.wr c p x.hd).wr c (p+8) 0).wr c (x.hd+8) p else (x.st.wr c p x.hd).wr c (p+8) 0),p⟩,0)
theorem set_head (hd':Int) (hu:U64 hd') (L:(lsR s l hd).P h):Stp h (setC h ⟨l,1,none⟩ (.int .u64 hd')) (lsR s l hd) (lsR s l hd'):=by
 have S:=Stp.set L.2 1 (.int .u64 hd') (g:=lsf s hd') fun j hj=>by
  rcases Nat.lt_or_ge j 1 with h1 | h1
  ·have:j=0:=by omega
   subst this;rfl
  ·have:j=1:=by omega
   subst this;rfl
 exact ⟨S.u,⟨hu,S.p⟩,S.g⟩
end
end Go.Proofs.YteemmpkhdllapaaGreatDoor
namespace Go.Proofs.YteemmpkhdllapaaGreatDoor
open Go.V Classical
def sndU (c:Cfg) (x:LS) (p n b:Int):Bool :=
 (((b == 0) == (p == x.hd)) && (b == 0 || (x.st.th c b 16 && x.st.rd c b == p))) && (n == 0 || (x.st.th c n 16 && x.st.rd c (n+8) == p))
def removeU (c:Cfg) (x:LS) (p:Int):LS×Int :=
 if x.st.th c p 16=false then (x,4)
 else if sndU c x p (x.st.rd c p) (x.st.rd c (p+8))=false then (x,8)
 else
  let y:LS:=if x.st.rd c (p+8)=0 then ⟨x.st,x.st.rd c p⟩ else ⟨x.st.wr c (x.st.rd c (p+8)) (x.st.rd c p),x.hd⟩
  ((if x.st.rd c p≠0 then ⟨y.st.wr c (x.st.rd c p+8) (x.st.rd c (p+8)),y.hd⟩ else y),0)
def popU (c:Cfg) (x:LS):LS×Int×Int :=
 if x.hd=0 then (x,0,9) else
 if (removeU c x x.hd).2≠0 then ((removeU c x x.hd).1,0,(removeU c x x.hd).2) else ((removeU c x x.hd).1,x.hd,0)
section
variable {w₀:World} {h:Heap} {s l:Nat} {c:Cfg} {Z:Nat→Prop} {x:LS} {K:Value→Heap→Prop}
theorem ne_b {a b:Int} (h:a≠b):(a != b)=true:=by simpa using h
theorem eq_b {a b:Int} (h:a=b):(a != b)=false:=by simpa using h
theorem ls_h1 {hd:Int} (L:(lsR s l hd).P h):cellAt h ((⟨l,0,none⟩ : Addr).add 1)=some (.int .u64 hd):=by rw [add_mk];exact ls_h L
theorem ls_w1 {hd:Int} (L:(lsR s l hd).P h):Wr h ((⟨l,0,none⟩ : Addr).add 1):=by rw [add_mk];exact ls_w L
theorem th8 {st:Sto} {p:Int} (t:st.th c p 16=true):st.th c p 8=true∧st.th c (p+8) 8=true:=by
 rw [th_16,Bool.and_eq_true] at t;exact t
theorem links_Push_ok {p:Int} (hp:U64 p) (H:(lwR s l c Z x).P h)
  (hK:∀h',Stp h h' (lwR s l c Z x) (lwR s l c Z (pushU c x p).1)→K (.int .i64 (pushU c x p).2) h'):CallV Tryz.prog w₀ F.links_List_Push [.pointer (some ⟨l,0,none⟩),.int .u64 p] h K:=by
 refine links_List_Push.call ?_
 try dsimp only
 refine links_links_ok hp H.1 H.2.1 fun h1 u1=>⟨_,_,_,rfl,?_⟩
 have S1:Stp h h1 (lwR s l c Z x) (lwR s l c Z x):=Stp.quiet H u1
 have H1:=S1.p
 cases t:x.st.th c p 16
 ·have e:pushU c x p=(x,4):=by simp [pushU,t]
  rw [e] at hK
  exact iT rfl (hK h1 S1)
 refine iF rfl fun J2 hJ2=>?_
 have tl:=th_lt H1.2.1 t (by omega)
 have b0:=(sp_end H1.2.1).2
 obtain ⟨t1,t2⟩:=th8 t
 have core:∀h2,Stp h h2 (lwR s l c Z x) (lwR s l c Z x)→(x.hd=0∨(x.st.th c x.hd 16=true∧x.st.rd c (x.hd+8)=0))→J2 [.pointer (some ⟨l,0,none⟩),.int .u64 p] h2:=by
  intro h2 S2 ok
  have hnb:¬(x.hd≠0∧(x.st.th c x.hd 16=false∨x.st.rd c (x.hd+8)≠0)):=by
   rintro ⟨h0,h1⟩
   rcases ok with e | ⟨e1,e2⟩
   ·exact h0 e
   ·rcases h1 with h1 | h1
    ·rw [e1] at h1;cases h1
    ·exact h1 e2
  have H2:=S2.p
  refine hJ2 _ _ _ ⟨_,rfl,_,ls_s H2.1,_,rfl,_,ls_h1 H2.1,?_⟩
  refine setw_ok hp H2.1.1 t1 H2.2.1 fun h3 T3=>⟨_,rfl,?_⟩
  have S3:Stp h h3 (lwR s l c Z x) (lwR s l c Z ⟨x.st.wr c p x.hd,x.hd⟩):=S2.trans (T3.right H2)
  have H3:=S3.p
  refine ⟨_,rfl,_,ls_s H3.1,?_⟩
  rw [wrap_add8 hp.1 (by omega)]
  refine setw_ok (st:=x.st.wr c p x.hd) (by omega) (by omega) t2 H3.2.1 fun h4 T4=>⟨_,rfl,fun J5 hJ5=>?_⟩
  have S4:Stp h h4 (lwR s l c Z x) (lwR s l c Z ⟨(x.st.wr c p x.hd).wr c (p+8) 0,x.hd⟩):=S3.trans (T4.right H3)
  have H4:=S4.p
  have fin:∀(h5:Heap) (st5:Sto),Stp h h5 (lwR s l c Z x) (lwR s l c Z ⟨st5,x.hd⟩)→pushU c x p=(⟨st5,p⟩,0)→J5 [.pointer (some ⟨l,0,none⟩),.int .u64 p] h5:=by
   intro h5 st5 S5 e
   have H5:=S5.p
   refine hJ5 _ _ _ ⟨_,rfl,ls_w1 H5.1,?_⟩
   rw [e] at hK
   rw [add_mk]
   exact hK _ (S5.trans ((set_head p hp H5.1).left H5))
  refine ⟨_,rfl,_,ls_h1 H4.1,?_⟩
  by_cases hz:x.hd=0
  ·exact iF (eq_b hz) (fin h4 _ S4 (by unfold pushU;rw [if_neg (by simp [t]),if_neg hnb,if_neg (by simp [hz])]))
  ·obtain ⟨e1,e2⟩:=ok.resolve_left hz
   have el:=th_lt H4.2.1 (st:=(x.st.wr c p x.hd).wr c (p+8) 0) (p:=x.hd) (q:=16) e1 (by omega)
   have hu:U64 x.hd:=H4.1.1
   refine iT (ne_b hz) ⟨_,rfl,_,ls_s H4.1,_,rfl,_,ls_h1 H4.1,?_⟩
   rw [wrap_add8 hu.1 (by omega)]
   refine setw_ok (st:=(x.st.wr c p x.hd).wr c (p+8) 0) (by have:=hu.1;omega) hp (th8 e1).2 H4.2.1 fun h5 T5=>⟨_,rfl,?_⟩
   exact fin h5 _ (S4.trans (T5.right H4)) (by unfold pushU;rw [if_neg (by simp [t]),if_neg hnb,if_pos hz])
 refine ⟨_,rfl,_,ls_h1 H1.1,?_⟩
 by_cases hz:x.hd=0
 ·exact iF (eq_b hz) (core h1 S1 (.inl hz))
 refine iT (ne_b hz) (links_links_ok H1.1.1 H1.1 H1.2.1 fun h2 u2=>⟨_,_,_,rfl,fun J9 hJ9=>?_⟩)
 have S2:Stp h h2 (lwR s l c Z x) (lwR s l c Z x):=S1.trans (Stp.quiet H1 u2)
 have bad:(x.st.th c x.hd 16=false∨x.st.rd c (x.hd+8)≠0)→K (.int .i64 8) h2:=by
  intro hb
  have e:pushU c x p=(x,8):=by unfold pushU;rw [if_neg (by simp [t]),if_pos ⟨hz,hb⟩]
  rw [e] at hK
  exact hK h2 S2
 cases t3:x.st.th c x.hd 16
 ·exact pT rfl (hJ9 _ _ (iT rfl (bad (.inl t3))))
 ·refine pF rfl (hJ9 _ _ ?_)
  have e:lk2 x.st c x.hd=x.st.rd c (x.hd+8):=by simp [lk2,t3]
  rw [e]
  by_cases hr:x.st.rd c (x.hd+8)=0
  ·exact iF (eq_b hr) (core h2 S2 (.inr ⟨t3,hr⟩))
  ·exact iT (ne_b hr) (bad (.inr hr))
theorem links_sound_ok {p n b:Int} (hp:U64 p) (hn:U64 n) (hb:U64 b) (L:(lsR s l x.hd).P h) (H:(spR s c Z x.st).P h)
  (hK:∀h',Upd NoB h h'→K (.bool (sndU c x p n b)) h'):CallV Tryz.prog w₀ F.links_List_sound [.pointer (some ⟨l,0,none⟩),.int .u64 p,.int .u64 n,.int .u64 b] h K:=by
 refine links_List_sound.call ?_
 try dsimp only
 refine ⟨_,rfl,_,ls_h1 L,?_⟩
 cases e1:((b == 0) == (p == x.hd))
 ·refine iT rfl ?_
  have:=hK h (Upd.refl _ _)
  simp only [sndU,e1,Bool.false_and] at this
  exact this
 refine iF rfl fun J1 hJ1=>?_
 have second:∀h1,Upd NoB h h1→(b == 0 || (x.st.th c b 16 && x.st.rd c b == p))=true→J1 [.pointer (some ⟨l,0,none⟩),.int .u64 p,.int .u64 n] h1:=by
  intro h1 u1 e2
  refine hJ1 _ _ _ _ fun J2 hJ2=>?_
  have L1:=(lsR s l x.hd).st L u1 fun _ _=>id
  have H1:=(spR s c Z x.st).st H u1 fun _ _=>id
  by_cases hz:n=0
  ·refine iF (eq_b hz) (hJ2 _ ?_)
   have:=hK h1 u1
   simp only [sndU,e1,e2,Bool.true_and,hz,beq_self_eq_true,Bool.true_or] at this
   exact this
  refine iT (ne_b hz) (links_links_ok hn L1 H1 fun h2 u2=>⟨_,_,_,rfl,fun J4 hJ4=>?_⟩)
  have hk:=hK h2 (u1.nx u2 fun _ e _=>e)
  have hz':(n == 0)=false:=by simpa using hz
  simp only [sndU,e1,e2,Bool.true_and,hz',Bool.false_or] at hk
  cases t:x.st.th c n 16
  ·rw [t] at hk
   exact pT rfl (hJ4 _ _ (iT rfl hk))
  ·rw [t] at hk
   refine pF rfl (hJ4 _ _ ?_)
   have e:lk2 x.st c n=x.st.rd c (n+8):=by simp [lk2,t]
   rw [e]
   by_cases hr:x.st.rd c (n+8)=p
   ·exact iF (eq_b hr) (hJ2 _ (by simpa [hr] using hk))
   ·exact iT (ne_b hr) (by rw [show (x.st.rd c (n+8) == p)=false by simpa using hr] at hk;exact hk)
 by_cases hz:b=0
 ·exact iF (eq_b hz) (second h (Upd.refl _ _) (by simp [hz]))
 refine iT (ne_b hz) (links_links_ok hb L H fun h2 u2=>⟨_,_,_,rfl,fun J6 hJ6=>?_⟩)
 have hz':(b == 0)=false:=by simpa using hz
 have bad:(x.st.th c b 16 && x.st.rd c b == p)=false→K (.bool false) h2:=by
  intro hb
  have:=hK h2 u2
  have e:sndU c x p n b=false:=by
   unfold sndU
   rw [e1,hz',hb]
   rfl
  rw [e] at this
  exact this
 cases t:x.st.th c b 16
 ·exact pT rfl (hJ6 _ _ (iT rfl (bad (by rw [t];rfl))))
 ·refine pF rfl (hJ6 _ _ ?_)
  have e:lk1 x.st c b=x.st.rd c b:=by simp [lk1,(th8 t).1]
  rw [e]
  by_cases hr:x.st.rd c b=p
  ·exact iF (eq_b hr) (second h2 u2 (by simp [t,hr]))
  ·exact iT (ne_b hr) (bad (by simp [hr]))
theorem links_Remove_ok {p:Int} (hp:U64 p) (H:(lwR s l c Z x).P h)
  (hK:∀h',Stp h h' (lwR s l c Z x) (lwR s l c Z (removeU c x p).1)→K (.int .i64 (removeU c x p).2) h'):CallV Tryz.prog w₀ F.links_List_Remove [.pointer (some ⟨l,0,none⟩),.int .u64 p] h K:=by
 refine links_List_Remove.call ?_
 try dsimp only
 refine links_links_ok hp H.1 H.2.1 fun h1 u1=>⟨_,_,_,rfl,?_⟩
 have S1:Stp h h1 (lwR s l c Z x) (lwR s l c Z x):=Stp.quiet H u1
 have H1:=S1.p
 cases t:x.st.th c p 16
 ·have e:removeU c x p=(x,4):=by simp [removeU,t]
  rw [e] at hK
  exact iT rfl (hK h1 S1)
 obtain ⟨t1,t2⟩:=th8 t
 have n1:=rd_U64 H1.2.1 t1
 have n2:=rd_U64 H1.2.1 t2
 have e1:lk1 x.st c p=x.st.rd c p:=by simp [lk1,t1]
 have e2:lk2 x.st c p=x.st.rd c (p+8):=by simp [lk2,t]
 rw [e1,e2]
 refine iF rfl (links_sound_ok hp n1 n2 H1.1 H1.2.1 fun h2 u2=>⟨_,rfl,?_⟩)
 have S2:Stp h h2 (lwR s l c Z x) (lwR s l c Z x):=S1.trans (Stp.quiet H1 u2)
 have H2:=S2.p
 cases g:sndU c x p (x.st.rd c p) (x.st.rd c (p+8))
 ·have e:removeU c x p=(x,8):=by simp [removeU,t,g]
  rw [e] at hK
  exact iT rfl (hK h2 S2)
 refine iF rfl fun J3 hJ3=>?_
 have g':=g
 simp only [sndU,Bool.and_eq_true,Bool.or_eq_true,beq_iff_eq] at g'
 obtain ⟨⟨g1,g2⟩,g3⟩:=g'
 have eR:removeU c x p=(let y:LS:=if x.st.rd c (p+8)=0 then ⟨x.st,x.st.rd c p⟩ else ⟨x.st.wr c (x.st.rd c (p+8)) (x.st.rd c p),x.hd⟩
  ((if x.st.rd c p≠0 then ⟨y.st.wr c (x.st.rd c p+8) (x.st.rd c (p+8)),y.hd⟩ else y),0)):=by
  unfold removeU
  rw [if_neg (by simp [t]),if_neg (by simp [g])]
 generalize x.st.rd c p=nn at *
 generalize x.st.rd c (p+8)=bb at *
 have core:∀(h3:Heap) (y:LS),Stp h h3 (lwR s l c Z x) (lwR s l c Z y)→(∀a b,y.st.th c a b=x.st.th c a b)→removeU c x p=((if nn≠0 then ⟨y.st.wr c (nn+8) bb,y.hd⟩ else y),0) →
   J3 [.pointer (some ⟨l,0,none⟩),.int .u64 nn,.int .u64 bb] h3:=by
  intro h3 y S3 hy e
  have H3:=S3.p
  refine hJ3 _ _ _ _ fun J4 hJ4=>?_
  rw [e] at hK
  by_cases hz:nn=0
  ·rw [if_neg (by simp [hz])] at hK
   exact iF (eq_b hz) (hJ4 _ (hK h3 S3))
  ·rw [if_pos hz] at hK
   have tn:=(g3.resolve_left hz).1
   have tn':y.st.th c nn 16=true:=by rw [hy];exact tn
   have el:=th_lt H3.2.1 tn' (by omega)
   refine iT (ne_b hz) ⟨_,rfl,_,ls_s H3.1,?_⟩
   rw [wrap_add8 n1.1 (by omega)]
   exact setw_ok (by have:=n1.1;omega) n2 (th8 tn').2 H3.2.1 fun h4 T4=>⟨_,rfl,hJ4 _ (hK h4 (S3.trans (T4.right H3)))⟩
 by_cases hz:bb=0
 ·refine iT (by simp [hz]) ⟨_,rfl,ls_w1 H2.1,?_⟩
  rw [add_mk]
  refine core _ ⟨x.st,nn⟩ (S2.trans ((set_head nn n1 H2.1).left H2)) (fun _ _=>rfl) ?_
  rw [eR]
  simp only [hz,if_true]
 ·refine iF (by simp [hz]) ⟨_,rfl,_,ls_s H2.1,?_⟩
  have tb:=(g2.resolve_left hz).1
  refine setw_ok n2 n1 (th8 tb).1 H2.2.1 fun h3 T3=>⟨_,rfl,?_⟩
  refine core _ ⟨x.st.wr c bb nn,x.hd⟩ (S2.trans (T3.right H2)) (fun _ _=>rfl) ?_
  rw [eR]
  simp only [hz,if_false]
theorem links_Pop_ok (H:(lwR s l c Z x).P h)
  (hK:∀h',Stp h h' (lwR s l c Z x) (lwR s l c Z (popU c x).1)→K (.tuple #[.int .u64 (popU c x).2.1,.int .i64 (popU c x).2.2]) h'):CallV Tryz.prog w₀ F.links_List_Pop [.pointer (some ⟨l,0,none⟩)] h K:=by
 refine links_List_Pop.call ?_
 try dsimp only
 refine ⟨_,rfl,_,ls_h1 H.1,?_⟩
 by_cases hz:x.hd=0
 ·have e:popU c x=(x,0,9):=by simp [popU,hz]
  rw [e] at hK
  exact iT (by simp [hz]) (hK h (Stp.refl H))
 refine iF (by simp [hz]) (links_Remove_ok H.1.1 H fun h1 S1=>⟨_,rfl,?_⟩)
 by_cases he:(removeU c x x.hd).2=0
 ·have e:popU c x=((removeU c x x.hd).1,x.hd,0):=by simp [popU,hz,he]
  rw [e] at hK
  exact iF (eq_b he) (hK h1 S1)
 ·have e:popU c x=((removeU c x x.hd).1,0,(removeU c x x.hd).2):=by simp [popU,hz,he]
  rw [e] at hK
  exact iT (ne_b he) (hK h1 S1)
theorem links_New_ok {hd:Int} (hu:U64 hd) (hK:∀(h':Heap),New h h' (lsR s h.size hd)→K (.pointer (some ⟨h.size,0,none⟩)) h') :
  CallV Tryz.prog w₀ F.links_New [.pointer (some ⟨s,0,none⟩),.int .u64 hd] h K:=by
 refine links_New.call ?_
 try dsimp only
 refine hK _ ?_
 exact ⟨push_upd _ _ _,⟨hu,(Blk.new h _ _).congr fun j hj=>by
  have hj:j<2:=hj
  rcases Nat.lt_or_ge j 1 with h1 | h1
  ·have:j=0:=by omega
   subst this;rfl
  ·have:j=1:=by omega
   subst this;rfl⟩,fun b e=>Nat.le_of_eq (Eq.symm e)⟩
end
end Go.Proofs.YteemmpkhdllapaaGreatDoor
namespace Go.Proofs.YteemmpkhdllapaaGreatDoor
open Go.V Classical
section
variable {w₀:World} {h:Heap} {s l:Nat} {c:Cfg} {Z:Nat→Prop} {st:Sto} {hd:Int} {K:Value→Heap→Prop}
def roomU (c:Cfg) (st:Sto):Nat:=st.n*c.size / 16
theorem links_room_ok (L:(lsR s l hd).P h) (H:(spR s c Z st).P h) (hK:∀h',Upd NoB h h'→K (.int .i64 (roomU c st:Nat)) h') :
  CallV Tryz.prog w₀ F.links_List_room [.pointer (some ⟨l,0,none⟩)] h K:=by
 refine links_List_room.call ?_
 try dsimp only
 have hl:=H.good.len H.nl
 have hn:=H.nl
 have h64:=H.good.l64
 have hb0:=H.good.b0
 have o0:=H.good.o0
 have hsz:=H.good.size_pos
 have hwn:IntKind.wrap .u64 ((st.n:Nat):Int)=((st.n:Nat):Int):=by rw [IntKind.wrap_u64,Int.emod_eq_of_lt (by omega) (by omega)]
 refine ⟨_,rfl,_,ls_s L,mem_Regions_ok H ⟨_,rfl,?_⟩⟩
 rw [hwn]
 by_cases hz:st.n=0
 ·refine iT (by simp [hz]) ?_
  have:=hK h (Upd.refl _ _)
  simpa [roomU,hz] using this
 refine iF (by simp [hz]) fun L2 hL2=>?_
 generalize hA:st.n*c.size=A at hl
 have loop:∀(d k:Nat) (h1:Heap),k+d=c.order.toNat→Upd NoB h h1→L2 [.pointer (some ⟨l,0,none⟩),.int .u64 ((st.n:Nat):Int),.int .u64 ((4096*2 ^ k:Nat):Int)] h1:=by
  intro d
  induction d with
  | zero =>
   intro k h1 hk u1
   have L1:=(lsR s l hd).st L u1 fun _ _=>id
   have H1:=(spR s c Z st).st H u1 fun _ _=>id
   have hk:k=c.order.toNat:=by omega
   subst hk
   have eS:4096*2 ^ c.order.toNat=c.size:=rfl
   rw [eS]
   have hE:Go.Proofs.YteemmpkhdllapaaGreatDoor.Sp h1 s c st.n st.M Z:=H1
   refine hL2 _ _ _ _ ⟨_,rfl,_,ls_s L1,_,rfl,_,ls_s L1,mem_End_ok H1 ⟨_,rfl,ls_s L1,?_⟩⟩
   have eB:(c.size:Int)*(st.n:Int)=(A:Nat):=by rw [←hA,Int.natCast_mul,Int.mul_comm]
   have e2:2*(c.size:Int)*(st.n:Int)=2*(A:Nat):=by rw [Int.mul_assoc,eB]
   have hc:=H.good.size_le
   rw [hA]
   have w1:IntKind.wrap .u64 (2*(c.size:Int))=2*(c.size:Int):=by rw [IntKind.wrap_u64,Int.emod_eq_of_lt (by omega) (by omega)]
   have w2:IntKind.wrap .u64 (2*(c.size:Int)*(st.n:Int))=2*(A:Nat):=by rw [e2,IntKind.wrap_u64,Int.emod_eq_of_lt (by omega) (by omega)]
   rw [w1,w2,IntKind.wrap_u64]
   have hA1:4096≤A:=by rw [←hA];exact Nat.le_trans hsz (Nat.le_mul_of_pos_left _ (by omega))
   refine mem_Byte_ok (by omega) H1 (fun t h2 u2=>?_) (fun t h2 u2=>?_)
   ·exfalso
    unfold There at t
    rw [hA] at t
    omega
   ·refine ⟨_,_,rfl,iT rfl ⟨by decide,?_⟩⟩
    have:=hK h2 (u1.nx u2 fun _ e _=>e)
    have w3:IntKind.wrap .u64 ((c.size:Int)*(st.n:Int))=(A:Nat):=by rw [eB,IntKind.wrap_u64,Int.emod_eq_of_lt (by omega) (by omega)]
    rw [w3]
    have w4:Int.tdiv ((A:Nat):Int) 16=((A / 16:Nat):Int):=by rw [Int.tdiv_eq_ediv_of_nonneg (by omega)];omega
    rw [w4]
    have w5:IntKind.wrap .u64 ((A / 16:Nat):Int)=((A / 16:Nat):Int):=by rw [IntKind.wrap_u64,Int.emod_eq_of_lt (by omega) (by omega)]
    rw [w5,IntWalk.i64_in _ (by omega)]
    rw [roomU,hA] at this
    exact this
  | succ d ih =>
   intro k h1 hk u1
   have L1:=(lsR s l hd).st L u1 fun _ _=>id
   have H1:=(spR s c Z st).st H u1 fun _ _=>id
   refine hL2 _ _ _ _ ⟨_,rfl,_,ls_s L1,_,rfl,_,ls_s L1,mem_End_ok H1 ⟨_,rfl,ls_s L1,?_⟩⟩
   rw [hA]
   have hc:=H.good.size_le
   have hle:2*(4096*2 ^ k)≤c.size:=by
    have:2 ^ (k+1)≤2 ^ c.order.toNat:=Nat.pow_le_pow_right (by omega) (by omega)
    rw [Nat.pow_succ] at this
    unfold Cfg.size
    omega
   have hnx:4096*2 ^ (k+1)=4096*2 ^ k*2:=by rw [Nat.pow_succ,Nat.mul_assoc]
   have ih':=ih (k+1)
   rw [hnx] at ih'
   generalize hB:4096*2 ^ k=B at hle ih' ⊢
   have hBn:2*(B*st.n)≤A:=by
    rw [←hA,Nat.mul_comm st.n,←Nat.mul_assoc]
    exact Nat.mul_le_mul_right _ hle
   have w1:IntKind.wrap .u64 (2*(B:Int))=2*(B:Int):=by rw [IntKind.wrap_u64,Int.emod_eq_of_lt (by omega) (by omega)]
   have e2:2*(B:Int)*(st.n:Int)=2*((B*st.n:Nat):Int):=by rw [Int.mul_assoc,←Int.natCast_mul]
   have hX:0<B*st.n:=Nat.mul_pos (by rw [←hB];exact Nat.mul_pos (by omega) (Nat.pow_pos (by omega))) (by omega)
   generalize B*st.n=X at hBn e2 hX
   have w2:IntKind.wrap .u64 (2*(B:Int)*(st.n:Int))=2*(X:Int):=by rw [e2,IntKind.wrap_u64,Int.emod_eq_of_lt (by omega) (by omega)]
   rw [w1,w2,IntKind.wrap_u64,Int.emod_eq_of_lt (by omega) (by omega)]
   refine mem_Byte_ok (by omega) H1 (fun t h2 u2=>?_) (fun t h2 u2=>?_)
   ·refine ⟨_,_,rfl,iF rfl ?_⟩
    have w3:IntKind.wrap .u64 ((B:Int)*2)=((B*2:Nat):Int):=by rw [IntKind.wrap_u64,Int.emod_eq_of_lt (by omega) (by omega)];omega
    rw [w3]
    exact ih' h2 (by omega) (u1.nx u2 fun _ e _=>e)
   ·exfalso
    apply t
    unfold There
    rw [hA]
    omega
 have:=loop c.order.toNat 0 h (by omega) (Upd.refl _ _)
 simpa using this
end
end Go.Proofs.YteemmpkhdllapaaGreatDoor
namespace Go.Proofs.YteemmpkhdllapaaGreatDoor
open Go.V Classical
section
variable {S:Type} {w₀:World}
def WalkR (c:Cfg) (V:S→LS) (nx:S→Int→S→Prop) (go:S→Int→Bool):Nat→Int→Int→S→S→Prop
 | 0,_,_,σ,τ=>τ=σ
 | k+1,p,b,σ,τ =>
  bif (p == 0 || !(V σ).st.th c p 16) || (lk2 (V σ).st c p != b) then τ=σ
  else ∃σ',nx σ p σ'∧bif go σ p then WalkR c V nx go k (lk1 (V σ).st c p) p σ' τ else τ=σ'
def gdU (c:Cfg) (V:S→LS) (σ:S) (p b:Int):Prop:=((p == 0 || !(V σ).st.th c p 16) || (lk2 (V σ).st c p != b))=false
def fwU (c:Cfg) (V:S→LS) (σ:S) (p:Int):Int:=lk1 (V σ).st c p
theorem lk1_U64 {s:Nat} {c:Cfg} {Z:Nat→Prop} {st:Sto} {h:Heap} (H:(spR s c Z st).P h) (p:Int):U64 (lk1 st c p):=by
 unfold lk1
 cases t:st.th c p 8
 ·simp [U64]
 ·simpa using rd_U64 H t
theorem links_walk_1_ok {s l a1:Nat} {c:Cfg} {y:Value} {M:S→Res} {Ex:Res} {ok:Nat→Int→Int→S→Prop} {nx:S→Int→S→Prop} {go:S→Int→Bool} {V:S→LS} (Y:Yd Tryz.prog w₀ y M Ex ok (gdU c V) (fwU c V) nx go)
  (hV:∀σ h,(M σ).P h→(lsR s l (V σ).hd).P h∧∃Z,(spR s c Z (V σ).st).P h) {σ:S} {h:Heap} {K:Value→Heap→Prop} (hok:ok (roomU c (V σ).st) (V σ).hd 0 σ) {f1:Nat→Value} (hf1:f1 0=.pointer (some ⟨l,0,none⟩))
  (H:(andR (andR (blkR a1 1 f1) (M σ)) Ex).P h)
  (hK:∀τ h',WalkR c V nx go (roomU c (V σ).st) (V σ).hd 0 σ τ→Stp h h' (M σ) (M τ)→K (.tuple #[]) h'):CallV Tryz.prog w₀ F.links_List_walk_1 [y,.pointer (some ⟨a1,0,none⟩)] h K:=by
 refine links_List_walk_1.call ?_
 try dsimp only
 obtain ⟨L0,Z0,H0⟩:=hV σ h H.1.2.1
 have c1:∀{h2:Heap} {τ:S},(andR (blkR a1 1 f1) (M τ)).P h2→cellAt h2 ⟨a1,0,none⟩=some (.pointer (some ⟨l,0,none⟩)):=fun P=>by rw [←hf1];exact P.1.cell (by omega)
 refine ⟨_,c1 H.1,_,rfl,_,ls_h1 L0,fun L1 hL1=>hL1 _ _ _ _ _ ⟨_,c1 H.1,links_room_ok L0 H0 fun h1 u1=>⟨_,rfl,fun L3 hL3=>?_⟩⟩⟩
 have hroom:roomU c (V σ).st≤4194304:=by
  have:=(H0.good.len H0.nl).1
  unfold roomU
  exact Nat.le_trans (Nat.div_le_self _ _) this
 generalize roomU c (V σ).st=room at hK hroom hok
 have u0:=L0.1
 generalize (V σ).hd=hd0 at hK u0 hok
 have loop:∀(k i:Nat) (p b:Int) (τ:S) (h2:Heap),i+k=room→ok k p b τ→U64 p→Stp h h2 (M σ) (M τ)→(andR (andR (blkR a1 1 f1) (M τ)) Ex).P h2 →
   (∀τ' h',WalkR c V nx go k p b τ τ'→Stp h h' (M σ) (M τ')→K (.tuple #[]) h')→L3 [y,.pointer (some ⟨a1,0,none⟩),.int .u64 p,.int .u64 b,.int .i64 (room:Nat),.int .i64 ((i:Nat):Int)] h2:=by
  intro k
  induction k with
  | zero =>
   intro i p b τ h2 hi ho hp S2 P2 hK2
   exact hL3 _ _ _ _ _ _ _ (iF (decide_eq_false (by omega)) (hK2 τ h2 rfl S2))
  | succ k ih =>
   intro i p b τ h2 hi ho hp S2 P2 hK2
   obtain ⟨L2,Z2,H2⟩:=hV τ h2 P2.1.2.1
   refine hL3 _ _ _ _ _ _ _ (iT (decide_eq_true (by omega)) ⟨_,c1 P2.1,links_links_ok hp L2 H2 fun h3 u3=>⟨_,_,_,rfl,?_⟩⟩)
   have S3:Stp h h3 (M σ) (M τ):=S2.trans (Stp.quiet P2.1.2.1 u3)
   have P3:(andR (andR (blkR a1 1 f1) (M τ)) Ex).P h3:=(andR (andR (blkR a1 1 f1) (M τ)) Ex).st P2 u3 fun _ _=>id
   refine jor.2 (jor.2 ?_)
   simp only [WalkR] at hK2
   cases hc:((p == 0 || !(V τ).st.th c p 16) || (lk2 (V τ).st c p != b))<;>rw [hc] at hK2
   ·refine ⟨fun e=>(by cases e),fun _=>CallF.mono (Y.call k p b τ h3 ho hc hp ⟨P3.1.2.1,P3.2.1,fun b e e'=>P3.2.2 b (.inr e) e'⟩) ?_⟩
    simp only [cond_false] at hK2
    intro e h4 q
    cases e with
    | returned v =>
     obtain ⟨rfl,σ',hx,S4⟩:=q
     refine ⟨_,rfl,?_⟩
     have P4:=((S4.right P3.1).left P3).p
     cases hg:go τ p<;>rw [hg] at hK2
     ·exact iT rfl (hK2 σ' h4 ⟨σ',hx,rfl⟩ (S3.trans S4))
     ·simp only [cond_true] at hK2
      refine iF rfl ?_
      have e1:IntKind.wrap .i64 (((i:Nat):Int)+1)=(((i+1:Nat)):Int):=by rw [IntWalk.i64_in _ (by omega)];omega
      rw [e1]
      exact ih (i+1) _ _ _ h4 (by omega) (Y.stay k p b τ σ' ho hc hp hg hx) (lk1_U64 H2 p) (S3.trans S4) P4 fun τ' h' hw=>hK2 τ' h' ⟨σ',hx,hw⟩
    | panicked ch=>exact q.elim
    | outgrown=>exact q.elim
   ·exact ⟨fun _=>hK2 τ h3 rfl S3,fun e=>(by cases e)⟩
 exact loop room 0 hd0 0 σ h1 (by omega) hok u0 (Stp.quiet H.1.2.1 u1) ((andR (andR (blkR a1 1 f1) (M σ)) Ex).st H u1 fun _ _=>id) hK
theorem WalkR_fst {c:Cfg} {V:S→LS} {nx:S→Int→S→Prop} {go:S→Int→Bool}:∀(k:Nat) (p b:Int) (σ:S) (e:Bool) (z:S×Bool),
  WalkR c (fun x:S×Bool=>V x.1) (fun x q y=>nx x.1 q y.1∧y.2=!go x.1 q) (fun x q=>go x.1 q) k p b (σ,e) z→WalkR c V nx go k p b σ z.1
 | 0,_,_,_,_,_,h=>by
  have h:_=_:=h
  rw [h];rfl
 | k+1,p,b,σ,e,z,h=>by
  simp only [WalkR] at h ⊢
  cases hc:((p == 0 || !(V σ).st.th c p 16) || (lk2 (V σ).st c p != b))<;>rw [hc] at h
  ·simp only [cond_false] at h ⊢
   obtain ⟨⟨σ',e'⟩,⟨h1,h2⟩,h3⟩:=h
   refine ⟨σ',h1,?_⟩
   cases hg:go σ p<;>rw [hg] at h3
   ·simp only [cond_false] at h3 ⊢
    rw [h3]
   ·simp only [cond_true] at h3 ⊢
    exact WalkR_fst k _ _ _ _ _ h3
  ·simp only [cond_true] at h ⊢
   rw [h]
set_option maxRecDepth 100000 in
theorem links_All_1_ok {s l a1:Nat} {c:Cfg} {y:Value} {M:S→Res} {Ex:Res} {ok:Nat→Int→Int→S→Prop} {nx:S→Int→S→Prop} {go:S→Int→Bool} {V:S→LS} (Y:Yd Tryz.prog w₀ y M Ex ok (gdU c V) (fwU c V) nx go)
  (hV:∀σ h,(M σ).P h→(lsR s l (V σ).hd).P h∧∃Z,(spR s c Z (V σ).st).P h) {σ:S} {h:Heap} {K:Value→Heap→Prop} (hok:ok (roomU c (V σ).st) (V σ).hd 0 σ) {f1:Nat→Value} (hf1:f1 0=.pointer (some ⟨l,0,none⟩))
  (H:(andR (andR (blkR a1 1 f1) (M σ)) Ex).P h)
  (hK:∀τ h',WalkR c V nx go (roomU c (V σ).st) (V σ).hd 0 σ τ→Stp h h' (M σ) (M τ)→K (.tuple #[]) h'):CallV Tryz.prog w₀ F.links_List_All_1 [y,.pointer (some ⟨a1,0,none⟩)] h K:=by
 refine links_List_All_1.call ?_
 try dsimp only
 rw [Y.cells]
 have N1:=New.box h #[y] T.T2a204121
 generalize hh1:Array.push h (.cells #[y] T.T2a204121)=h1 at N1 ⊢
 have hs1:h1.size=h.size+1:=by rw [←hh1];simp
 have B1:(andR (andR (blkR a1 1 f1) (M σ)) Ex).P h1:=(andR (andR (blkR a1 1 f1) (M σ)) Ex).st H N1.u fun _ _=>id
 refine ⟨_,by rw [←hf1];exact B1.1.1.cell (by omega),?_⟩
 refine links_List_walk.call ?_
 try dsimp only
 have N2:=New.box h1 #[.pointer (some ⟨l,0,none⟩)] T.T_p_links_List
 generalize hh2:Array.push h1 (.cells #[.pointer (some ⟨l,0,none⟩)] T.T_p_links_List)=h2 at N2 ⊢
 refine ⟨_,rfl,fun rec hrec hround=>CallG_func (by kernel_rfl) ?_⟩
 let Mi:S→Res:=fun τ=>andR (M τ) (blkR h.size 1 fun _=>y)
 have cg:(blkR h.size (#[y]:Array Value).size fun j=>(#[y]:Array Value).getD j undef).P h1→(blkR h.size 1 fun _=>y).P h1:=fun P=>Blk.congr P fun i hi=>by
  have:i=0:=by omega
  subst this;rfl
 have S1:Stp h h1 (M σ) (Mi σ):=Stp.new H.1.2.1 (N1.conv cg fun _ e=>e)
 have S2:Stp h h2 (M σ) (Mi σ):=S1.trans (Stp.quiet S1.p N2.u)
 let st:Bool→Obj:=fun e=>if e then rec .done (some .ret) else rec .ready none
 have hst:∀e,noC (st e):=fun e=>by cases e<;>exact rec_noC hrec _ _
 have Yi:Yd Tryz.prog w₀ (.func (.yield (h2.size+1)) #[] #[]) (fun x:S×Bool=>andR (objR (h2.size+1) (st x.2)) (Mi x.1)) Ex (fun k p b x=>ok k p b x.1∧x.2=false) (gdU c fun x:S×Bool=>V x.1) (fwU c fun x:S×Bool=>V x.1) (fun x q y=>nx x.1 q y.1∧y.2=!go x.1 q) (fun x q=>go x.1 q):=by
  refine ⟨?_,rfl,fun k q b x y ⟨h1,h2⟩ hgd hq hg hy=>⟨Y.stay k q b x.1 y.1 h1 hgd hq hg hy.1,by rw [hy.2,hg];rfl⟩⟩
  rintro k q b ⟨τ,e⟩ hB ⟨ho,rfl⟩ hgd hq HB
  obtain ⟨r1,r2,r3⟩:=round_out HB.1 (rec_noC hrec .ready none) (rec_noC hrec .busy none)
  have rE:Ex.P (setO hB (h2.size+1) (rec .busy none)):=Ex.st HB.2.1 (setO_upd r1 (rec_noC hrec .ready none) (rec_noC hrec .busy none)) fun b e e'=>HB.2.2 b (.inl e') e
  refine hround q hB _ rfl r1 ⟨r1,_,r2.2.1.cell (i:=0) (by omega),CallF.mono (Y.call k q b τ _ ho hgd hq ⟨r2.1,rE,fun b e e'=>HB.2.2 b (.inr (.inl e)) e'⟩) ?_⟩
  intro e h3 hq3
  cases e with
  | returned v =>
   obtain ⟨rfl,σ',hx,S3⟩:=hq3
   refine ⟨_,rfl,?_⟩
   obtain ⟨r4,r5⟩:=r3 h3 (Mi σ') (S3.left r2)
   cases hg:go τ q
   ·exact iT rfl ⟨r4,rfl,(σ',true),⟨hx,by simp only [hg];rfl⟩,r5 (st true) (hst true)⟩
   ·exact iF rfl ⟨r4,rfl,(σ',false),⟨hx,by simp only [hg];rfl⟩,r5 (st false) (hst false)⟩
  | panicked ch=>exact hq3.elim
  | outgrown=>exact hq3.elim
 have Hin:(andR (objR (h2.size+1) (st false)) (Mi σ)).P ((h2.push (.deferred (some []))).push (st false)):=range_in S2.p (hst false)
 have W2:(blkR h1.size 1 fun j=>(#[.pointer (some ⟨l,0,none⟩)]:Array Value).getD j undef).P h2:=N2.p
 have Hw:(andR (andR (blkR h1.size 1 fun j=>(#[.pointer (some ⟨l,0,none⟩)]:Array Value).getD j undef) (andR (objR (h2.size+1) (st false)) (Mi σ))) Ex).P ((h2.push (.deferred (some []))).push (st false)):=by
  have u:Upd (fun _=>False) h2 ((h2.push (.deferred (some []))).push (st false)):=(push_upd _ h2 _ (noC_fz (o:=.deferred (some [])) trivial)).nx (push_upd _ _ _ (noC_fz (hst false))) fun _ e _=>e
  have E2:Ex.P h2:=Ex.st B1.2.1 N2.u fun _ _=>id
  have hs2:h2.size=h1.size+1:=by rw [←hh2];simp
  refine ⟨⟨(blkR h1.size 1 _).st W2 u fun _ _=>id,Hin,fun b e e'=>?_⟩,Ex.st E2 u fun _ _=>id,fun b e e'=>?_⟩
  rotate_left
  ·have hb:=Ex.lt H.2.1 b e'
   rcases e with e | e | e | e
   ·have e:b=h1.size:=e;omega
   ·have e:b=h2.size+1:=e;omega
   ·exact H.2.2 b (.inr e) e'
   ·have e:b=h.size:=e;omega
  have e:b=h1.size:=e
  rcases e' with e' | e'
  ·have e':b=h2.size+1:=e';omega
  ·have:=S1.p
   have:=(Mi σ).lt this b e'
   omega
 refine CallV.toR (links_walk_1_ok (V:=fun x:S×Bool=>V x.1) Yi (fun x h' P=>hV x.1 h' P.2.1.1) (σ:=(σ,false)) ⟨hok,rfl⟩ (by rfl) Hw fun z h3 hw S3=>?_)
 have hfst:=WalkR_fst _ _ _ _ _ _ hw
 obtain ⟨τ,e⟩:=z
 obtain ⟨o1,o2⟩:=range_out S2.p (hst false) (hst e) S3
 have fin:∀pe,h3[h2.size]? = h3[h2.size]?→(let hA:=setO h3 (h2.size+1) (rec .exhausted pe);hA[h2.size]? = some (.deferred (some []))∧K (.tuple #[]) (setO hA h2.size (.deferred none))):=by
  intro pe _
  obtain ⟨t1,t2⟩:=take_out (o2 (rec .exhausted pe) (rec_noC hrec _ _))
  exact ⟨t1,hK τ _ hfst ((S2.trans t2).conv (fun P=>P.1) fun b e=>.inl e)⟩
 cases e
 ·exact ⟨.ready,none,o1,by simp,fin none rfl⟩
 ·exact ⟨.done,some .ret,o1,by simp,fin (some .ret) rfl⟩
end
end Go.Proofs.YteemmpkhdllapaaGreatDoor
namespace Go.Proofs.YteemmpkhdllapaaGreatDoor
open Go.V Classical
def walkL (c:Cfg) (st:Sto):Nat→Int→Int→List Int
 | 0,_,_=>[]
 | k+1,p,b=>bif (p == 0 || !st.th c p 16) || (lk2 st c p != b) then [] else p::walkL c st k (lk1 st c p) p
def allL (c:Cfg) (x:LS):List Int:=walkL c x.st (roomU c x.st) x.hd 0
def uL (xs:List Int):Nat→Value:=fun i=>.int .u64 (xs.getD i 0)
structure OutS where
 xs:List Int
 p:Option Addr
 cap:Nat
def outR (b:Nat) (o:OutS):Res:=andR (blkR b 1 fun _=>.slice o.p o.xs.length o.cap) (slR o.p o.xs.length o.cap 1 (uL o.xs))
theorem walkR_const {S:Type} {c:Cfg} {V:S→LS} {nx:S→Int→S→Prop} {go:S→Int→Bool} {x:LS} (xs:S→List Int) (hV:∀σ,V σ=x) (hgo:∀σ e,go σ e=true) (hnx:∀σ e σ',nx σ e σ'→xs σ'=xs σ++[e]) :
  ∀(k:Nat) (p b:Int) (σ τ:S),WalkR c V nx go k p b σ τ→xs τ=xs σ++walkL c x.st k p b
 | 0,_,_,σ,τ,h=>by
  have h:τ=σ:=h
  rw [h];simp [walkL]
 | k+1,p,b,σ,τ,h=>by
  simp only [WalkR,hV,hgo,cond_true] at h
  simp only [walkL]
  cases hc:((p == 0 || !x.st.th c p 16) || (lk2 x.st c p != b))<;>rw [hc] at h
  ·simp only [cond_false] at h ⊢
   obtain ⟨σ',h1,h2⟩:=h
   rw [walkR_const xs hV hgo hnx k _ _ _ _ h2,hnx _ _ _ h1]
   simp
  ·simp only [cond_true] at h ⊢
   rw [h];simp
theorem uL_snoc (xs:List Int) (e:Int) (i:Nat) (hi:i<xs.length+1):(if i=xs.length then Value.int .u64 e else uL xs i)=uL (xs++[e]) i:=by
 unfold uL
 by_cases h:i=xs.length
 ·subst h;simp [List.getD_eq_getElem?_getD]
 ·rw [if_neg h,List.getD_eq_getElem?_getD,List.getD_eq_getElem?_getD,List.getElem?_append_left (by omega)]
section
variable {w₀:World} {h:Heap} {s l:Nat} {c:Cfg} {Z:Nat→Prop} {x:LS} {K:Value→Heap→Prop}
theorem out_app {h:Heap} {b:Nat} {o:OutS} {e:Int} (H:(outR b o).P h) (hlen:o.xs.length≤1073741824) :
  cellAt h ⟨b,0,none⟩=some (.slice o.p o.xs.length o.cap)∧∃os xs,AppPre (h.push (.cells #[.int .u64 e] T.T_uint64)) o.p o.xs.length o.cap (some ⟨h.size,0,none⟩) 1 1 8 os xs ∧
   ∀(p':Option Addr) (c':Nat) (h':Heap),AppRes (h.push (.cells #[.int .u64 e] T.T_uint64)) o.p o.xs.length o.cap 1 [(.int .u64 (0:Int))] T.T_uint64 os xs p' c' h' →
    Wr h' ⟨b,0,none⟩∧Stp h (setC h' ⟨b,0,none⟩ (.slice p' (o.xs.length+1) c')) (outR b o) (outR b ⟨o.xs++[e],p',c'⟩):=by
 have Bc:Blk h b 1 fun _=>.slice o.p o.xs.length o.cap:=H.1
 refine ⟨Bc.cell (by omega),?_⟩
 obtain ⟨os,q1,q2⟩:=sl_app1 (zs:=[(.int .u64 (0:Int))]) (v:=.int .u64 e) (b:=8) (e:=T.T_uint64) (T:=T.T_uint64) H.2.1 rfl rfl (by omega)
 refine ⟨os,_,q1,fun p' c' h' hres=>?_⟩
 have A:=(q2 p' c' h' hres).conv (R2:=slR p' (o.xs++[e]).length c' 1 (uL (o.xs++[e]))) (fun P=>by
  have P:=sl_congr P (g:=uL (o.xs++[e])) fun i hi=>uL_snoc o.xs e i (by omega)
  simpa using P) fun _ e=>e
 have A1:=A.right H
 have B2:Blk h' b 1 fun _=>.slice o.p o.xs.length o.cap:=A1.p.1
 have S2:=Stp.set B2 0 (.slice p' (o.xs.length+1) c') (g:=fun _=>.slice p' (o.xs++[e]).length c') fun j hj=>by
  have:j=0:=by omega
  subst this;simp
 exact ⟨B2.wr (by omega),A1.trans (S2.left A1.p)⟩
def S1:Sto:=⟨1,fun _=>0⟩
end
end Go.Proofs.YteemmpkhdllapaaGreatDoor
