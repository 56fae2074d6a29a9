/- Texts of this proof, some in one. No condition. -/
import Derived.Test.YteemmpkhdllapaaGreatDoorY10
set_option linter.unusedSimpArgs false
set_option linter.unusedVariables false
namespace Go.Proofs.YteemmpkhdllapaaGreatDoor
open Go.V Classical
section
variable {c:Cfg} {N:Nat}
theorem rd_wr_same {st:Sto} {p v:Int} (hv:U64 v):(st.wr c p v).rd c p=v:=by
 unfold Sto.rd
 have:wrd (fun i=>(st.wr c p v).M ((p-c.base).toNat+i)) 8=wrd (byteOf v) 8:=wrd_congr fun i hi=>by
  simp only [Sto.wr]
  rw [if_pos (by omega)]
  congr 1
  omega
 rw [this,wrd_byteOf]
 exact Int.emod_eq_of_lt hv.1 hv.2
theorem rd_wr_other {st:Sto} {p q v:Int} (hp:c.base≤p) (hq:c.base≤q) (h:q+8≤p∨p+8≤q):(st.wr c p v).rd c q=st.rd c q:=by
 unfold Sto.rd
 refine wrd_congr fun i hi=>?_
 simp only [Sto.wr]
 rw [if_neg (by omega)]
def Cl (c:Cfg) (N:Nat) (p:Int):Prop:=∃q:Nat,q<N∧p=adr c q
structure Rm (c:Cfg) (N:Nat) (st:Sto):Prop where
 b:0<c.base∧c.base≤9223372036854775808
 n:N≤1024
 r:N*4096≤st.n*c.size
theorem cell_sep {p q:Int} (hp:Cl c N p) (hq:Cl c N q) (h:p≠q):p+4096≤q∨q+4096≤p:=by
 obtain ⟨i,_,rfl⟩:=hp
 obtain ⟨j,_,rfl⟩:=hq
 unfold adr at *
 omega
theorem cell_lo {st:Sto} (H:Rm c N st) {p:Int} (hp:Cl c N p):0<p∧c.base≤p∧p<18446744073709551600:=by
 obtain ⟨i,_,rfl⟩:=hp
 have:=H.b
 have:=H.n
 unfold adr
 omega
theorem cell_th {st:Sto} (H:Rm c N st) {p:Int} (hp:Cl c N p):st.th c p 16=true:=by
 obtain ⟨i,hi,rfl⟩:=hp
 rw [th_iff]
 unfold There adr
 have:=H.r
 generalize st.n*c.size=z at this ⊢
 omega
def Seg (c:Cfg) (st:Sto):Int→List Int→Int→Prop
 | _,[],_=>True
 | b,p::l,e=>st.rd c p=l.headD e∧st.rd c (p+8)=b∧Seg c st p l e
theorem seg_congr {st st':Sto}:∀{l:List Int} {b e:Int},(∀p∈l,st'.rd c p=st.rd c p∧st'.rd c (p+8)=st.rd c (p+8))→Seg c st b l e→Seg c st' b l e
 | [],_,_,_,_=>trivial
 | p::l,b,e,h,H=>by
  have h1:=h p (List.mem_cons_self ..)
  exact ⟨by rw [h1.1];exact H.1,by rw [h1.2];exact H.2.1,seg_congr (fun q hq=>h q (List.mem_cons_of_mem _ hq)) H.2.2⟩
theorem seg_append {st:Sto}:∀{l1 l2:List Int} {b e:Int},Seg c st b (l1++l2) e↔Seg c st b l1 (l2.headD e)∧Seg c st (l1.getLastD b) l2 e
 | [],l2,b,e=>by simp [Seg]
 | p::l1,l2,b,e=>by
  simp only [List.cons_append,Seg,seg_append (l1:=l1)]
  have e1:(l1++l2).headD e=l1.headD (l2.headD e):=by cases l1<;>rfl
  have e2:(p::l1).getLastD b=l1.getLastD p:=by cases l1<;>rfl
  rw [e1,e2]
  constructor
  ·rintro ⟨h1,h2,h3,h4⟩;exact ⟨⟨h1,h2,h3⟩,h4⟩
  ·rintro ⟨⟨h1,h2,h3⟩,h4⟩;exact ⟨h1,h2,h3,h4⟩
theorem wr_far {s0 st:Sto} (R:Rm c N s0) {p q v:Int} (hp:Cl c N p) (hq:Cl c N q) (h:p≠q):((st.wr c p v).rd c q=st.rd c q∧(st.wr c p v).rd c (q+8)=st.rd c (q+8)) ∧
  ((st.wr c (p+8) v).rd c q=st.rd c q∧(st.wr c (p+8) v).rd c (q+8)=st.rd c (q+8)):=by
 have h1:=cell_sep hp hq h
 have h2:=cell_lo R hp
 have h3:=cell_lo R hq
 refine ⟨⟨?_,?_⟩,?_,?_⟩<;>exact rd_wr_other (by omega) (by omega) (by omega)
theorem wr_lo {s0 st:Sto} (R:Rm c N s0) {p v:Int} (hp:Cl c N p):(st.wr c p v).rd c (p+8)=st.rd c (p+8)∧(st.wr c (p+8) v).rd c p=st.rd c p:=by
 have h2:=cell_lo R hp
 exact ⟨rd_wr_other (by omega) (by omega) (by omega),rd_wr_other (by omega) (by omega) (by omega)⟩
theorem seg_far {s0 st:Sto} (R:Rm c N s0) {p v:Int} {l:List Int} {b e:Int} (hp:Cl c N p) (hl:∀q∈l,Cl c N q) (h:p∉l) (H:Seg c st b l e):Seg c (st.wr c p v) b l e∧Seg c (st.wr c (p+8) v) b l e:=by
 have key:∀q∈l,p≠q:=fun q hq e=>h (e▸hq)
 exact ⟨seg_congr (fun q hq=>(wr_far R hp (hl q hq) (key q hq)).1) H,seg_congr (fun q hq=>(wr_far R hp (hl q hq) (key q hq)).2) H⟩
theorem getLastD_mem:∀{l:List Int} {d:Int},l≠[]→l.getLastD d∈l
 | [],_,h=>absurd rfl h
 | [p],_,_=>List.mem_cons_self ..
 | p::q::l,_,_=>List.mem_cons_of_mem _ (getLastD_mem (l:=q::l) (d:=p) (by simp))
theorem seg_last {s0 st:Sto} (R:Rm c N s0) {v:Int} (hv:U64 v):∀{l:List Int} {b e d:Int},l≠[]→(∀q∈l,Cl c N q)→l.Nodup→Seg c st b l e→Seg c (st.wr c (l.getLastD d) v) b l v
 | [],_,_,_,h,_,_,_=>absurd rfl h
 | [p],b,e,d,_,hc,_,H=>by
  have hp:=hc p (List.mem_cons_self ..)
  exact ⟨rd_wr_same hv,by rw [show ([p]:List Int).getLastD d=p from rfl,(wr_lo R hp).1];exact H.2.1,trivial⟩
 | p::q::l,b,e,d,_,hc,hn,H=>by
  have hp:=hc p (List.mem_cons_self ..)
  have hn':=List.nodup_cons.1 hn
  have e1:(p::q::l).getLastD d=(q::l).getLastD p:=rfl
  have hm:(q::l).getLastD p∈q::l:=getLastD_mem (by simp)
  have hne:(q::l).getLastD p≠p:=fun e=>hn'.1 (e▸hm)
  have hf:=(wr_far R (st:=st) (v:=v) (hc _ (List.mem_cons_of_mem _ hm)) hp hne).1
  rw [e1]
  exact ⟨by rw [hf.1];exact H.1,by rw [hf.2];exact H.2.1,seg_last R hv (by simp) (fun q hq=>hc q (List.mem_cons_of_mem _ hq)) hn'.2 H.2.2⟩
theorem seg_first {s0 st:Sto} (R:Rm c N s0) {v p:Int} {l:List Int} {b e:Int} (hv:U64 v) (hc:∀q∈p::l,Cl c N q) (hn:(p::l).Nodup) (H:Seg c st b (p::l) e):Seg c (st.wr c (p+8) v) v (p::l) e:=by
 have hp:=hc p (List.mem_cons_self ..)
 have hn':=List.nodup_cons.1 hn
 exact ⟨by rw [(wr_lo R hp).2];exact H.1,rd_wr_same hv,(seg_far R hp (fun q hq=>hc q (List.mem_cons_of_mem _ hq)) hn'.1 H.2.2).2⟩
structure Lst (c:Cfg) (N:Nat) (x:LS) (l:List Int):Prop where
 hd:x.hd=l.headD 0
 nd:l.Nodup
 cl:∀p∈l,Cl c N p
 sg:Seg c x.st 0 l 0
def Frm (c:Cfg) (l:List Int) (st st':Sto):Prop:=st'.n=st.n∧∀o:Nat,(∀q∈l,o<(q-c.base).toNat∨(q-c.base).toNat+16≤o)→st'.M o=st.M o
theorem Frm.refl (l:List Int) (st:Sto):Frm c l st st:=⟨rfl,fun _ _=>rfl⟩
theorem Frm.trans {l:List Int} {a b d:Sto} (h:Frm c l a b) (k:Frm c l b d):Frm c l a d:=⟨k.1.trans h.1,fun o ho=>(k.2 o ho).trans (h.2 o ho)⟩
theorem frm_wr {l:List Int} {st:Sto} {q v:Int} (hb:c.base≤q) (hq:q∈l):Frm c l st (st.wr c q v)∧Frm c l st (st.wr c (q+8) v):=by
 refine ⟨⟨rfl,fun o ho=>?_⟩,rfl,fun o ho=>?_⟩ <;>
 ·have:=ho q hq
  simp only [Sto.wr]
  rw [if_neg (by omega)]
theorem Frm.rd {l:List Int} {st st':Sto} {r:Int} (R:Rm c N st) (A:Frm c l st st') (hl:∀q∈l,Cl c N q) (hr:Cl c N r) (hn:r∉l):st'.rd c r=st.rd c r∧st'.rd c (r+8)=st.rd c (r+8):=by
 have h3:=cell_lo R hr
 constructor <;>
 ·unfold Sto.rd
  refine wrd_congr fun i hi=>A.2 _ fun q hq=>?_
  have h1:=cell_sep (hl q hq) hr fun e=>hn (e▸hq)
  have h2:=cell_lo R (hl q hq)
  omega
theorem Rm.frm {l:List Int} {st st':Sto} (R:Rm c N st) (A:Frm c l st st'):Rm c N st':=⟨R.b,R.n,by rw [A.1];exact R.r⟩
theorem Lst.frm {l l2:List Int} {st st':Sto} {hd:Int} (H:Lst c N ⟨st,hd⟩ l2) (R:Rm c N st) (A:Frm c l st st') (hl:∀q∈l,Cl c N q) (hn:∀r∈l2,r∉l):Lst c N ⟨st',hd⟩ l2 :=
 ⟨H.hd,H.nd,H.cl,seg_congr (fun p hp=>A.rd R hl (H.cl p hp) (hn p hp)) H.sg⟩
theorem cell_u64 {st:Sto} (R:Rm c N st) {p:Int} (hp:Cl c N p):U64 p:=by have:=cell_lo R hp;exact ⟨by omega,by omega⟩
theorem hd_cell {st:Sto} (R:Rm c N st) {l:List Int} (hc:∀p∈l,Cl c N p):U64 (l.headD 0):=by
 cases l with
 | nil=>simp [U64]
 | cons p l=>exact cell_u64 R (hc p (List.mem_cons_self ..))
theorem push_inv {x:LS} (R:Rm c N x.st) {l:List Int} {p:Int} (H:Lst c N x l) (hp:Cl c N p) (hn:p∉l):(pushU c x p).2=0∧Lst c N (pushU c x p).1 (p::l)∧Frm c (p::l) x.st (pushU c x p).1.st:=by
 have t:=cell_th R hp
 have uh:=hd_cell R H.cl
 have lp:=cell_lo R hp
 have hnb:¬(x.hd≠0∧(x.st.th c x.hd 16=false∨x.st.rd c (x.hd+8)≠0)):=by
  rintro ⟨h1,h2⟩
  cases l with
  | nil=>exact h1 H.hd
  | cons a l =>
   have e:x.hd=a:=H.hd
   rw [e,cell_th R (H.cl a (List.mem_cons_self ..)),H.sg.2.1] at h2
   rcases h2 with h2 | h2
   ·cases h2
   ·exact h2 rfl
 have e:pushU c x p=(⟨(if x.hd≠0 then ((x.st.wr c p x.hd).wr c (p+8) 0).wr c (x.hd+8) p else (x.st.wr c p x.hd).wr c (p+8) 0),p⟩,0):=by
  unfold pushU
  rw [if_neg (by rw [t];simp),if_neg hnb]
 rw [e]
 have s1:=(seg_far R (v:=x.hd) hp H.cl hn H.sg).1
 have s2:=(seg_far R (v:=0) hp H.cl hn s1).2
 have p1:((x.st.wr c p x.hd).wr c (p+8) 0).rd c p=x.hd:=by rw [(wr_lo R hp).2,rd_wr_same (by rw [H.hd];exact uh)]
 have p2:((x.st.wr c p x.hd).wr c (p+8) 0).rd c (p+8)=0:=rd_wr_same (by simp [U64])
 have f1:Frm c (p::l) x.st ((x.st.wr c p x.hd).wr c (p+8) 0):=(frm_wr lp.2.1 (List.mem_cons_self ..)).1.trans (frm_wr lp.2.1 (List.mem_cons_self ..)).2
 cases l with
 | nil =>
  have hz:x.hd=0:=H.hd
  rw [if_neg (by simp [hz])]
  refine ⟨rfl,⟨rfl,by simp,fun q hq=>?_,⟨by rw [p1,hz];rfl,p2,trivial⟩⟩,f1⟩
  have:q=p:=by simpa using hq
  rw [this];exact hp
 | cons a l =>
  have ea:x.hd=a:=H.hd
  have ha:=H.cl a (List.mem_cons_self ..)
  have la:=cell_lo R ha
  have hz:x.hd≠0:=by omega
  have hpa:a≠p:=fun e=>hn (e▸List.mem_cons_self ..)
  rw [if_pos hz,ea]
  rw [ea] at s2 p1 p2 f1
  have s3:=seg_first R (v:=p) (cell_u64 R hp) H.cl H.nd s2
  have f:=(wr_far R (st:=(x.st.wr c p a).wr c (p+8) 0) (v:=p) ha hp hpa).2
  refine ⟨rfl,⟨rfl,List.nodup_cons.2 ⟨hn,H.nd⟩,fun q hq=>?_,⟨by rw [f.1,p1];rfl,by rw [f.2,p2],s3⟩⟩,f1.trans (frm_wr la.2.1 (by simp)).2⟩
  rcases List.mem_cons.1 hq with rfl | hq
  ·exact hp
  ·exact H.cl q hq
theorem lastNext {st:Sto}:∀{l:List Int} {b e d:Int},l≠[]→Seg c st b l e→st.rd c (l.getLastD d)=e
 | [],_,_,_,h,_=>absurd rfl h
 | [p],_,_,_,_,H=>H.1
 | p::q::l,b,e,d,_,H=>by
  show st.rd c ((q::l).getLastD p)=e
  exact lastNext (by simp) H.2.2
theorem remove_inv {x:LS} (R:Rm c N x.st) {l1 l2:List Int} {p:Int} (H:Lst c N x (l1++p::l2)):(removeU c x p).2=0∧Lst c N (removeU c x p).1 (l1++l2)∧Frm c (l1++p::l2) x.st (removeU c x p).1.st:=by
 obtain ⟨hd,nd,cl,sg⟩:=H
 have hp:=cl p (by simp)
 have t:=cell_th R hp
 obtain ⟨g1,g2⟩:=seg_append.1 sg
 obtain ⟨r1,r2,g3⟩:=g2
 have nd':=List.nodup_append.1 nd
 have nd2:=List.nodup_cons.1 nd'.2.1
 have c1:∀q∈l1,Cl c N q:=fun q hq=>cl q (List.mem_append_left _ hq)
 have c2:∀q∈l2,Cl c N q:=fun q hq=>cl q (by simp [hq])
 have g1:Seg c x.st 0 l1 p:=g1
 have dis:∀a∈l1,∀b∈l2,a≠b:=fun a ha b hb=>nd'.2.2 a ha b (List.mem_cons_of_mem _ hb)
 have pl1:p∉l1:=fun h=>nd'.2.2 p h p (List.mem_cons_self ..) rfl
 have un:U64 (l2.headD 0):=hd_cell R c2
 have ub:U64 (l1.getLastD 0):=by
  cases l1 with
  | nil=>simp [U64]
  | cons a l=>exact cell_u64 R (c1 _ (getLastD_mem (by simp)))
 have hs:sndU c x p (l2.headD 0) (l1.getLastD 0)=true:=by
  unfold sndU
  have h1:((l1.getLastD 0 == 0) == (p == x.hd))=true:=by
   cases l1 with
   | nil=>have:x.hd=p:=hd;simp [this]
   | cons a l =>
    have e1:((a::l).getLastD 0 == 0)=false:=by
     have:=cell_lo R (c1 _ (getLastD_mem (l:=a::l) (d:=0) (by simp)))
     exact beq_false_of_ne (by omega)
    have e2:(p == x.hd)=false:=by
     have:x.hd=a:=hd
     rw [this]
     exact beq_false_of_ne fun e=>pl1 (e▸List.mem_cons_self ..)
    rw [e1,e2];rfl
  have h2:(l1.getLastD 0 == 0 || (x.st.th c (l1.getLastD 0) 16 && x.st.rd c (l1.getLastD 0) == p))=true:=by
   cases l1 with
   | nil=>rfl
   | cons a l =>
    have hm:=getLastD_mem (l:=a::l) (d:=0) (by simp)
    have:=lastNext (d:=0) (by simp) g1
    rw [cell_th R (c1 _ hm),this]
    simp
  have h3:(l2.headD 0 == 0 || (x.st.th c (l2.headD 0) 16 && x.st.rd c (l2.headD 0+8) == p))=true:=by
   cases l2 with
   | nil=>rfl
   | cons a l =>
    have e1:x.st.rd c (a+8)=p:=g3.2.1
    show (a == 0 || (x.st.th c a 16 && x.st.rd c (a+8) == p))=true
    rw [cell_th R (c2 a (List.mem_cons_self ..)),e1]
    simp
  rw [h1,h2,h3];rfl
 have e:removeU c x p=(let y:LS:=if l1.getLastD 0=0 then ⟨x.st,l2.headD 0⟩ else ⟨x.st.wr c (l1.getLastD 0) (l2.headD 0),x.hd⟩
  ((if l2.headD 0≠0 then ⟨y.st.wr c (l2.headD 0+8) (l1.getLastD 0),y.hd⟩ else y),0)):=by
  unfold removeU
  rw [if_neg (by rw [t];simp),r1,r2,if_neg (by rw [hs];simp)]
 have ndN:(l1++l2).Nodup:=List.nodup_append.2 ⟨nd'.1,nd2.2,dis⟩
 have clN:∀q∈l1++l2,Cl c N q:=fun q hq=>by
  rcases List.mem_append.1 hq with hq | hq
  ·exact c1 q hq
  ·exact c2 q hq
 have first:∃y:LS,y=(if l1.getLastD 0=0 then (⟨x.st,l2.headD 0⟩ : LS) else ⟨x.st.wr c (l1.getLastD 0) (l2.headD 0),x.hd⟩)∧y.hd=(l1++l2).headD 0∧Seg c y.st 0 l1 (l2.headD 0)∧Seg c y.st p l2 0 ∧
   Frm c (l1++p::l2) x.st y.st:=by
  refine ⟨_,rfl,?_⟩
  cases l1 with
  | nil=>exact ⟨rfl,trivial,g3,Frm.refl _ _⟩
  | cons a l =>
   have hm:=getLastD_mem (l:=a::l) (d:=0) (by simp)
   have lm:=cell_lo R (c1 _ hm)
   have hz:(a::l).getLastD 0≠0:=by omega
   rw [if_neg hz]
   refine ⟨hd,seg_last R un (by simp) c1 nd'.1 g1,(seg_far R (c1 _ hm) c2 (fun h=>dis _ hm _ h rfl) g3).1,(frm_wr lm.2.1 (List.mem_append_left _ hm)).1⟩
 obtain ⟨y,hy,y2,y3,y4,y5⟩:=first
 rw [e]
 simp only [←hy]
 cases l2 with
 | nil =>
  refine ⟨trivial,⟨y2,ndN,clN,?_⟩,y5⟩
  show Seg c y.st 0 (l1++[]) 0
  rw [List.append_nil];exact y3
 | cons a l =>
  have ha:=c2 a (List.mem_cons_self ..)
  have la:=cell_lo R ha
  have hz:(a::l).headD 0≠0:=by show a≠0;omega
  rw [if_pos hz]
  refine ⟨trivial,⟨y2,ndN,clN,?_⟩,y5.trans (frm_wr la.2.1 (by simp)).2⟩
  exact seg_append.2 ⟨(seg_far R ha c1 (fun h=>dis _ h _ (List.mem_cons_self ..) rfl) y3).2,seg_first R ub c2 nd2.2 y4⟩
theorem pop_inv {x:LS} (R:Rm c N x.st) {l:List Int} (H:Lst c N x l):(l=[]∧popU c x=(x,0,9)) ∨
  ∃p l',l=p::l'∧(popU c x).2=(p,0)∧Lst c N (popU c x).1 l'∧Frm c l x.st (popU c x).1.st:=by
 cases l with
 | nil=>exact .inl ⟨rfl,by unfold popU;rw [if_pos (show x.hd=0 from H.hd)]⟩
 | cons p l =>
  have hp:=H.cl p (List.mem_cons_self ..)
  have lp:=cell_lo R hp
  have e:x.hd=p:=H.hd
  obtain ⟨h1,h2,h3⟩:=remove_inv (l1:=[]) (l2:=l) (p:=p) R H
  refine .inr ⟨p,l,rfl,?_⟩
  have:popU c x=((removeU c x p).1,p,0):=by
   unfold popU
   rw [if_neg (by omega),e,if_neg (by simpa using h1)]
  rw [this]
  exact ⟨rfl,h2,h3⟩
theorem walkL_all {st:Sto} (R:Rm c N st):∀{l:List Int} {b:Int} {k:Nat},(∀p∈l,Cl c N p)→l.length≤k→Seg c st b l 0→walkL c st k (l.headD 0) b=l
 | [],b,0,_,_,_=>rfl
 | [],b,k+1,_,_,_=>by simp [walkL]
 | p::l,b,0,_,hk,_=>by simp at hk
 | p::l,b,k+1,hc,hk,H=>by
  have hp:=hc p (List.mem_cons_self ..)
  have lp:=cell_lo R hp
  have t:=cell_th R hp
  have h1:lk2 st c p=b:=by simp only [lk2,t,if_true];exact H.2.1
  have h2:lk1 st c p=l.headD 0:=by simp only [lk1,(th8 t).1,if_true];exact H.1
  have hz:(p == 0)=false:=beq_false_of_ne (by omega)
  show walkL c st (k+1) p b=p::l
  simp only [walkL,h1,h2,t,hz]
  rw [walkL_all R (fun q hq=>hc q (List.mem_cons_of_mem _ hq)) (by simpa using hk) H.2.2]
  simp
theorem pages_len {l:List Int} (nd:l.Nodup) (cl:∀p∈l,Cl c N p):l.length≤N:=by
 have h1:l.Subset ((List.range N).map (adr c)):=fun p hp=>by
  obtain ⟨q,hq,e⟩:=cl p hp
  exact List.mem_map.2 ⟨q,List.mem_range.2 hq,e.symm⟩
 have:=List.Nodup.length_le_of_subset nd h1
 simpa using this
theorem all_inv {x:LS} (R:Rm c N x.st) {l:List Int} (H:Lst c N x l):allL c x=l:=by
 unfold allL
 rw [H.hd]
 refine walkL_all R H.cl (Nat.le_trans (pages_len H.nd H.cl) ?_) H.sg
 unfold roomU
 have:=R.r
 omega
end
end Go.Proofs.YteemmpkhdllapaaGreatDoor
namespace Go.Proofs.YteemmpkhdllapaaGreatDoor
abbrev PBk:=Nat×Nat
def Cov (b:PBk) (q:Nat):Prop:=b.1≤q∧q<b.1+2 ^ b.2
def Dj (a b:PBk):Prop:=a.1+2 ^ a.2≤b.1∨b.1+2 ^ b.2≤a.1
theorem Dj.symm {a b:PBk} (h:Dj a b):Dj b a:=Or.symm h
structure Tile (O P:Nat) (bs:List PBk):Prop where
 al:∀b∈bs,b.2≤O∧b.1 % 2 ^ b.2=0∧b.1+2 ^ b.2≤P
 dj:bs.Pairwise Dj
 cv:∀q,q<P→∃b∈bs,Cov b q
theorem pw_of {α:Type} {R:α→α→Prop} (hs:∀a b,R a b→R b a):∀{l:List α},l.Pairwise R→∀{a b:α},a∈l→b∈l→a≠b→R a b
 | [],_,_,_,h,_,_=>by cases h
 | c::l,H,a,b,ha,hb,hn=>by
  obtain ⟨h1,h2⟩:=List.pairwise_cons.1 H
  rcases List.mem_cons.1 ha with e | ha<;>rcases List.mem_cons.1 hb with e' | hb
  ·exact absurd (e.trans e'.symm) hn
  ·rw [e];exact h1 b hb
  ·rw [e'];exact hs _ _ (h1 a ha)
  ·exact pw_of hs h2 ha hb hn
section
variable {O P:Nat} {bs bs':List PBk} {p q k j:Nat}
theorem Tile.perm (H:Tile O P bs) (h:bs.Perm bs'):Tile O P bs' :=
 ⟨fun b hb=>H.al b (h.mem_iff.2 hb),(h.pairwise_iff (fun hab=>Dj.symm hab)).1 H.dj,fun q hq=>by
  obtain ⟨b,hb,hc⟩:=H.cv q hq
  exact ⟨b,h.mem_iff.1 hb,hc⟩⟩
theorem Tile.uniq (H:Tile O P bs) {a b:PBk} (ha:a∈bs) (hb:b∈bs) (h1:Cov a q) (h2:Cov b q):a=b:=by
 refine Classical.byContradiction fun e=>?_
 have:=pw_of (fun _ _=>Dj.symm) H.dj ha hb e
 unfold Dj at this
 unfold Cov at h1 h2
 omega
theorem Tile.nodup (H:Tile O P bs):bs.Nodup:=by
 refine List.Pairwise.imp ?_ H.dj
 intro a b h e
 subst e
 have:=Nat.two_pow_pos a.2
 unfold Dj at h
 omega
theorem cov_self:Cov (p,k) p:=⟨Nat.le_refl _,by have:=Nat.two_pow_pos k;show p<p+2 ^ k;omega⟩
theorem bud_facts (h:p % 2 ^ k=0):bud p k % 2 ^ k=0∧((bud p k=p+2 ^ k∧dwn p k=p∧p % 2 ^ (k+1)=0)∨(bud p k+2 ^ k=p∧dwn p k=bud p k∧bud p k % 2 ^ (k+1)=0)):=by
 have h0:=Nat.two_pow_pos k
 obtain ⟨q,rfl⟩:=Nat.dvd_of_mod_eq_zero h
 have hdiv:2 ^ k*q / 2 ^ k=q:=Nat.mul_div_cancel_left _ h0
 unfold bud dwn
 rw [hdiv,Nat.pow_succ]
 by_cases e:q % 2=0
 ·obtain ⟨r,rfl⟩:=Nat.dvd_of_mod_eq_zero e
  simp only [e,if_true]
  refine ⟨by rw [Nat.add_mod_right];exact Nat.mul_mod_right _ _,.inl ⟨trivial,trivial,?_⟩⟩
  rw [←Nat.mul_assoc];exact Nat.mul_mod_right _ _
 ·have e2:q=2*(q / 2)+1:=by omega
  simp only [e,if_false]
  generalize q / 2=r at e2
  subst e2
  have e3:2 ^ k*(2*r+1)-2 ^ k=2 ^ k*2*r:=by rw [Nat.mul_add,Nat.mul_one,Nat.add_sub_cancel,Nat.mul_assoc]
  rw [e3]
  refine ⟨by rw [Nat.mul_assoc];exact Nat.mul_mod_right _ _,.inr ⟨?_,trivial,Nat.mul_mod_right _ _⟩⟩
  rw [Nat.mul_add,Nat.mul_one,Nat.mul_assoc]
theorem bud_bud (h:p % 2 ^ k=0):bud (bud p k) k=p:=by
 rw [←xor_bud h,←xor_bud (by rw [xor_bud h];exact (bud_facts h).1),Nat.xor_assoc,Nat.xor_self,Nat.xor_zero]
theorem bud_up (h:p % 2 ^ (k+1)=0):bud (p+2 ^ k) k=p∧bud p k=p+2 ^ k:=by
 have h1:p % 2 ^ k=0:=by
  have hd:2 ^ k ∣ 2 ^ (k+1):=Nat.pow_dvd_pow 2 (by omega)
  exact Nat.mod_eq_zero_of_dvd (Nat.dvd_trans hd (Nat.dvd_of_mod_eq_zero h))
 have e:bud p k=p+2 ^ k:=by
  have h0:=Nat.two_pow_pos k
  obtain ⟨q,rfl⟩:=Nat.dvd_of_mod_eq_zero h
  unfold bud
  rw [if_pos]
  rw [Nat.pow_succ,Nat.mul_assoc,Nat.mul_div_cancel_left _ h0]
  exact Nat.mul_mod_right _ _
 exact ⟨by rw [←e];exact bud_bud h1,e⟩
theorem Tile.split (H:Tile O P ((p,k+1)::bs)):Tile O P ((p,k)::(p+2 ^ k,k)::bs):=by
 have h1:=H.al (p,k+1) (List.mem_cons_self ..)
 obtain ⟨d1,d2⟩:=List.pairwise_cons.1 H.dj
 have e:2 ^ (k+1)=2 ^ k+2 ^ k:=by rw [Nat.pow_succ];omega
 have a1:p % 2 ^ k=0:=Nat.mod_eq_zero_of_dvd (Nat.dvd_trans (Nat.pow_dvd_pow 2 (by omega)) (Nat.dvd_of_mod_eq_zero h1.2.1))
 simp only [e] at h1
 refine ⟨fun b hb=>?_,?_,fun q hq=>?_⟩
 ·rcases List.mem_cons.1 hb with rfl | hb
  ·exact ⟨by simp only [];omega,a1,by simp only [];omega⟩
  rcases List.mem_cons.1 hb with rfl | hb
  ·refine ⟨by simp only [];omega,?_,by simp only [];omega⟩
   show (p+2 ^ k) % 2 ^ k=0
   rw [Nat.add_mod_right];exact a1
  ·exact H.al b (List.mem_cons_of_mem _ hb)
 ·refine List.pairwise_cons.2 ⟨fun b hb=>?_,List.pairwise_cons.2 ⟨fun b hb=>?_,d2⟩⟩
  ·rcases List.mem_cons.1 hb with rfl | hb
   ·exact .inl (Nat.le_refl _)
   ·have:=d1 b hb
    unfold Dj at this ⊢
    simp only [e] at this
    simp only []
    omega
  ·have:=d1 b hb
   unfold Dj at this ⊢
   simp only [e] at this
   simp only []
   omega
 ·obtain ⟨b,hb,hc⟩:=H.cv q hq
  rcases List.mem_cons.1 hb with rfl | hb
  ·unfold Cov at hc
   simp only [e] at hc
   by_cases h:q<p+2 ^ k
   ·exact ⟨_,List.mem_cons_self ..,hc.1,h⟩
   ·refine ⟨(p+2 ^ k,k),List.mem_cons_of_mem _ (List.mem_cons_self ..),?_⟩
    unfold Cov
    simp only []
    omega
  ·exact ⟨b,List.mem_cons_of_mem _ (List.mem_cons_of_mem _ hb),hc⟩
theorem Tile.merge (hk:k<O) (H:Tile O P ((p,k)::(bud p k,k)::bs)):Tile O P ((dwn p k,k+1)::bs):=by
 have h1:=H.al (p,k) (List.mem_cons_self ..)
 have h2:=H.al (bud p k,k) (List.mem_cons_of_mem _ (List.mem_cons_self ..))
 obtain ⟨d1,d2⟩:=List.pairwise_cons.1 H.dj
 obtain ⟨d3,d4⟩:=List.pairwise_cons.1 d2
 have e:2 ^ (k+1)=2 ^ k+2 ^ k:=by rw [Nat.pow_succ];omega
 obtain ⟨f1,f2⟩:=bud_facts (p:=p) (k:=k) h1.2.1
 simp only [] at h1 h2
 refine ⟨fun b hb=>?_,?_,fun q hq=>?_⟩
 ·rcases List.mem_cons.1 hb with rfl | hb
  ·simp only [e]
   rw [←e]
   rcases f2 with ⟨f3,f4,f5⟩ | ⟨f3,f4,f5⟩
   ·exact ⟨hk,by rw [f4];exact f5,by omega⟩
   ·exact ⟨hk,by rw [f4];exact f5,by omega⟩
  ·exact H.al b (List.mem_cons_of_mem _ (List.mem_cons_of_mem _ hb))
 ·refine List.pairwise_cons.2 ⟨fun b hb=>?_,d4⟩
  have g1:=d1 b (List.mem_cons_of_mem _ hb)
  have g2:=d3 b hb
  have hz:=Nat.two_pow_pos b.2
  unfold Dj at g1 g2 ⊢
  simp only [e] at g1 g2 ⊢
  rcases f2 with ⟨f3,f4,f5⟩ | ⟨f3,f4,f5⟩<;>omega
 ·obtain ⟨b,hb,hc⟩:=H.cv q hq
  have hit:(Cov (p,k) q∨Cov (bud p k,k) q)→Cov (dwn p k,k+1) q:=by
   unfold Cov
   simp only [e]
   rcases f2 with ⟨f3,f4,f5⟩ | ⟨f3,f4,f5⟩<;>omega
  rcases List.mem_cons.1 hb with rfl | hb
  ·exact ⟨_,List.mem_cons_self ..,hit (.inl hc)⟩
  rcases List.mem_cons.1 hb with rfl | hb
  ·exact ⟨_,List.mem_cons_self ..,hit (.inr hc)⟩
  ·exact ⟨b,List.mem_cons_of_mem _ hb,hc⟩
theorem Tile.grow (hP:P % 2 ^ O=0) (H:Tile O P bs):Tile O (P+2 ^ O) ((P,O)::bs):=by
 refine ⟨fun b hb=>?_,List.pairwise_cons.2 ⟨fun b hb=>.inr (H.al b hb).2.2,H.dj⟩,fun q hq=>?_⟩
 ·rcases List.mem_cons.1 hb with rfl | hb
  ·exact ⟨Nat.le_refl _,hP,Nat.le_refl _⟩
  ·have:=H.al b hb
   exact ⟨this.1,this.2.1,by omega⟩
 ·by_cases h:q<P
  ·obtain ⟨b,hb,hc⟩:=H.cv q h
   exact ⟨b,List.mem_cons_of_mem _ hb,hc⟩
  ·exact ⟨(P,O),List.mem_cons_self ..,show P≤q∧q<P+2 ^ O by omega⟩
theorem Tile.less (H:Tile O (P+2 ^ O) ((P,O)::bs)):Tile O P bs:=by
 obtain ⟨d1,d2⟩:=List.pairwise_cons.1 H.dj
 refine ⟨fun b hb=>?_,d2,fun q hq=>?_⟩
 ·have h1:=H.al b (List.mem_cons_of_mem _ hb)
  have h2:=d1 b hb
  have h3:=Nat.two_pow_pos b.2
  unfold Dj at h2
  simp only [] at h2
  exact ⟨h1.1,h1.2.1,by omega⟩
 ·obtain ⟨b,hb,hc⟩:=H.cv q (Nat.lt_of_lt_of_le hq (Nat.le_add_right _ _))
  rcases List.mem_cons.1 hb with rfl | hb
  ·have hc:P≤q∧q<P+2 ^ O:=hc
   omega
  ·exact ⟨b,hb,hc⟩
def blks (O:Nat) (F:Nat→List Nat):List PBk:=(List.range (O+1)).flatMap fun k=>(F k).map fun p=>(p,k)
theorem mem_blks {F:Nat→List Nat}:(p,k)∈blks O F↔k≤O∧p∈F k:=by
 unfold blks
 simp only [List.mem_flatMap,List.mem_range,List.mem_map,Prod.mk.injEq]
 constructor
 ·rintro ⟨a,ha,b,hb,rfl,rfl⟩
  exact ⟨by omega,hb⟩
 ·rintro ⟨h1,h2⟩
  exact ⟨k,by omega,p,h2,rfl,rfl⟩
theorem blks_take {F:Nat→List Nat} {l:List Nat} (hk:k≤O) (h:(F k).Perm (p::l)):(blks O F).Perm ((p,k)::blks O (fset F k l)):=by
 have key:∀n,((k<n→((List.range n).flatMap fun k=>(F k).map fun p=>(p,k)).Perm ((p,k)::(List.range n).flatMap fun i=>(fset F k l i).map fun p=>(p,i))) ∧
   (n≤k→((List.range n).flatMap fun k=>(F k).map fun p=>(p,k))=(List.range n).flatMap fun i=>(fset F k l i).map fun p=>(p,i))):=by
  intro n
  induction n with
  | zero=>exact ⟨fun h=>by omega,fun _=>rfl⟩
  | succ n ih =>
   simp only [List.range_succ,List.flatMap_append,List.flatMap_cons,List.flatMap_nil,List.append_nil]
   refine ⟨fun hn=>?_,fun hn=>?_⟩
   ·by_cases e:n=k
    ·subst e
     rw [ih.2 (Nat.le_refl _),fset_same]
     have h1:((F n).map fun p=>(p,n)).Perm ((p,n)::l.map fun p=>(p,n)):=by simpa using h.map fun p=>(p,n)
     exact (h1.append_left _).trans List.perm_middle
    ·rw [fset_ne _ _ e]
     exact (ih.1 (by omega)).append_right _
   ·rw [ih.2 (by omega),fset_ne _ _ (by omega)]
 exact (key (O+1)).1 (by omega)
theorem blks_put {F:Nat→List Nat} (hk:k≤O):(blks O (fset F k (p::F k))).Perm ((p,k)::blks O F):=by
 have:=blks_take (O:=O) (F:=fset F k (p::F k)) (k:=k) (p:=p) (l:=F k) hk (by rw [fset_same])
 have e:fset (fset F k (p::F k)) k (F k)=F:=by
  funext i;unfold fset;split
  ·rename_i h;rw [h]
  ·rfl
 rw [e] at this
 exact this
def NB (O:Nat) (F:Nat→List Nat):Prop:=∀k p,k<O→p∈F k→bud p k∉F k
end
end Go.Proofs.YteemmpkhdllapaaGreatDoor
namespace Go.Proofs.YteemmpkhdllapaaGreatDoor
open Go.V Classical
def Bits (o n:Nat) (bt:Nat→Nat→Bool) (F:Nat→List Nat):Prop :=
 ∀k p,k<o→p % 2 ^ k=0→p<n→bt k (p / 2 ^ (k+1))=(decide (p∈F k) != decide (bud p k∈F k))
structure RepS (S:Nat→Prop) (c:Cfg) (x:BU) (F:Nat→List Nat) (L hs:List PBk):Prop where
 ok:BU.Ok c x
 rm:Rm c x.m.n x.st
 til:Tile x.m.o x.m.n (hs++(L++blks x.m.o F))
 nb:NB x.m.o F
 ls:∀k,k≤x.m.o→Lst c x.m.n ⟨x.st,x.hd k⟩ ((F k).map (adr c))
 pf:∀k p,k≤x.m.o→p∈F k→∀q,Cov (p,k) q→x.m.pg q=plainP (if q=p then 0 else 1) k
 pl:∀b∈L,¬S b.1→∀q,Cov b q→x.m.pg q=plainP (if q=b.1 then 2 else 3) b.2
 bt:Bits x.m.o x.m.n x.m.bt F
 ps:∀p,S p→(p,0)∈L∧x.m.pg p 0=4
abbrev noS:Nat→Prop:=fun _=>False
abbrev Rep:=RepS noS
def PK (L:List PBk) (m m':MS):Prop:=∀b∈L,∀q,Cov b q→m'.pg q=m.pg q
theorem PK.refl (L:List PBk) (m:MS):PK L m m:=fun _ _ _ _=>rfl
theorem PK.trans {L:List PBk} {a b d:MS} (h:PK L a b) (k:PK L b d):PK L a d:=fun x hx q hq=>(k x hx q hq).trans (h x hx q hq)
theorem PK.of {L:List PBk} {a b:MS} (h:b.pg=a.pg):PK L a b:=fun _ _ _ _=>by rw [h]
theorem PK.sub {L L':List PBk} {a b:MS} (h:PK L a b) (hs:∀x∈L',x∈L):PK L' a b:=fun x hx=>h x (hs x hx)
def Kept (L:List PBk) (st st':Sto):Prop:=st'.n=st.n∧∀b∈L,∀o,4096*b.1≤o→o<4096*(b.1+2 ^ b.2)→st'.M o=st.M o
theorem Kept.refl (L:List PBk) (st:Sto):Kept L st st:=⟨rfl,fun _ _ _ _ _=>rfl⟩
theorem Kept.trans {L:List PBk} {a b d:Sto} (h:Kept L a b) (k:Kept L b d):Kept L a d:=⟨k.1.trans h.1,fun x hx o h1 h2=>(k.2 x hx o h1 h2).trans (h.2 x hx o h1 h2)⟩
theorem Kept.sub {L L':List PBk} {a b:Sto} (h:Kept L a b) (hs:∀x∈L',x∈L):Kept L' a b:=⟨h.1,fun x hx=>h.2 x (hs x hx)⟩
theorem adr_inj {c:Cfg} {p q:Nat} (h:adr c p=adr c q):p=q:=by unfold adr at h;omega
theorem adr_mem {c:Cfg} {p:Nat} {l:List Nat}:adr c p∈l.map (adr c)↔p∈l:=by
 rw [List.mem_map]
 exact ⟨fun ⟨q,h1,h2⟩=>adr_inj h2▸h1,fun h=>⟨p,h,rfl⟩⟩
theorem bud_div {p k:Nat} (h:p % 2 ^ k=0):bud p k / 2 ^ (k+1)=p / 2 ^ (k+1):=by
 have h0:=Nat.two_pow_pos k
 obtain ⟨q,rfl⟩:=Nat.dvd_of_mod_eq_zero h
 have hdiv:2 ^ k*q / 2 ^ k=q:=Nat.mul_div_cancel_left _ h0
 unfold bud
 rw [hdiv,Nat.pow_succ,←Nat.div_div_eq_div_mul,←Nat.div_div_eq_div_mul,hdiv]
 split
 ·rw [show 2 ^ k*q+2 ^ k=2 ^ k*(q+1) by rw [Nat.mul_add,Nat.mul_one],Nat.mul_div_cancel_left _ h0];omega
 ·rw [show 2 ^ k*q-2 ^ k=2 ^ k*(q-1) by rw [Nat.mul_sub,Nat.mul_one],Nat.mul_div_cancel_left _ h0];omega
theorem same_pair {p q k:Nat} (hp:p % 2 ^ k=0) (hq:q % 2 ^ k=0) (h:q / 2 ^ (k+1)=p / 2 ^ (k+1)):q=p∨q=bud p k:=by
 have h0:=Nat.two_pow_pos k
 obtain ⟨a,rfl⟩:=Nat.dvd_of_mod_eq_zero hp
 obtain ⟨b,rfl⟩:=Nat.dvd_of_mod_eq_zero hq
 rw [Nat.pow_succ,←Nat.div_div_eq_div_mul,←Nat.div_div_eq_div_mul,Nat.mul_div_cancel_left _ h0,Nat.mul_div_cancel_left _ h0] at h
 unfold bud
 rw [Nat.mul_div_cancel_left _ h0]
 split
 ·have:b=a∨b=a+1:=by omega
  rcases this with rfl | rfl
  ·exact .inl rfl
  ·exact .inr (by rw [Nat.mul_add,Nat.mul_one])
 ·have:b=a∨b=a-1:=by omega
  rcases this with rfl | rfl
  ·exact .inl rfl
  ·exact .inr (by rw [Nat.mul_sub,Nat.mul_one])
theorem bits_toggle {o n k p:Nat} {bt:Nat→Nat→Bool} {F:Nat→List Nat} {l:List Nat} (H:Bits o n bt F) (hp:p % 2 ^ k=0) (hl:∀q,q≠p→(q∈l↔q∈F k)) (hx:p∈l↔¬p∈F k) :
  Bits o n (flipB bt k (p / 2 ^ (k+1))) (fset F k l):=by
 intro j q hj hq hn
 have h:=H j q hj hq hn
 unfold flipB
 by_cases e:j=k
 ·subst e
  rw [fset_same]
  by_cases e2:q / 2 ^ (j+1)=p / 2 ^ (j+1)
  ·rw [if_pos ⟨rfl,e2⟩,h]
   rcases same_pair hp hq e2 with rfl | rfl
   ·have hb:bud q j≠q:=by
     intro e
     have:=(bud_facts hp).2
     have:=Nat.two_pow_pos j
     omega
    have h1:=hl _ hb
    by_cases a:q∈F j<;>by_cases b:bud q j∈F j<;>simp [hx,h1,a,b]
   ·rw [bud_bud hp]
    have hb:bud p j≠p:=by
     intro e
     have:=(bud_facts hp).2
     have:=Nat.two_pow_pos j
     omega
    have h1:=hl _ hb
    by_cases a:p∈F j<;>by_cases b:bud p j∈F j<;>simp [hx,h1,a,b]
  ·rw [if_neg fun hc=>e2 hc.2,h]
   have n1:q≠p:=fun e=>e2 (by rw [e])
   have n2:bud q j≠p:=fun e=>e2 (by rw [←e,bud_div hq])
   simp only [hl q n1,hl _ n2]
 ·rw [if_neg fun hc=>e hc.1,fset_ne _ _ e]
  exact h
section
variable {S:Nat→Prop} {c:Cfg} {x x':BU} {F:Nat→List Nat} {L hs:List PBk} {p k:Nat}
theorem RepS.mem (R:RepS S c x F L hs) (hk:k≤x.m.o) (hp:p∈F k):(p,k)∈hs++(L++blks x.m.o F) :=
 List.mem_append_right _ (List.mem_append_right _ (mem_blks.2 ⟨hk,hp⟩))
theorem RepS.one (R:RepS S c x F L hs) {j:Nat} (hk:k≤x.m.o) (hj:j≤x.m.o) (hp:p∈F k) (hp':p∈F j):j=k:=by
 have:=R.til.uniq (R.mem hj hp') (R.mem hk hp) cov_self cov_self
 cases this;rfl
theorem RepS.kept (R:RepS S c x F L hs) {l:List Nat} {st':Sto} (A:Frm c (l.map (adr c)) x.st st') (hl:∀q∈l,∃b∈hs++blks x.m.o F,Cov b q):Kept L x.st st':=by
 refine ⟨A.1,fun b hb o h1 h2=>A.2 o fun a ha=>?_⟩
 obtain ⟨q,hq,rfl⟩:=List.mem_map.1 ha
 obtain ⟨b',hb',hc⟩:=hl q hq
 refine Classical.byContradiction fun hno=>?_
 have e:(adr c q-c.base).toNat=4096*q:=by unfold adr;omega
 rw [e] at hno
 have nd:=R.til.nodup
 have hcb:Cov b q:=by
  refine ⟨?_,?_⟩
  ·omega
  ·generalize b.1+2 ^ b.2=z at h2 ⊢;omega
 have hbm:b∈hs++(L++blks x.m.o F):=List.mem_append_right _ (List.mem_append_left _ hb)
 rcases List.mem_append.1 hb' with hm | hm
 ·have:=R.til.uniq hbm (List.mem_append_left _ hm) hcb hc
  subst this
  exact (List.nodup_append.1 nd).2.2 b hm b (List.mem_append_left _ hb) rfl
 ·have:=R.til.uniq hbm (List.mem_append_right _ (List.mem_append_right _ hm)) hcb hc
  subst this
  exact (List.nodup_append.1 (List.nodup_append.1 nd).2.1).2.2 b hb b hm rfl
theorem RepS.lists (R:RepS S c x F L hs) {l l':List Nat} {y:LS} (hk:k≤x.m.o) (A:Frm c (l.map (adr c)) x.st y.st) (hy:Lst c x.m.n y (l'.map (adr c))) (hl:∀q∈l,q<x.m.n∧∀j,j≤x.m.o→j≠k→q∉F j) :
  ∀j,j≤x.m.o→Lst c x.m.n ⟨y.st,fset x.hd k y.hd j⟩ ((fset F k l' j).map (adr c)):=by
 intro j hj
 by_cases e:j=k
 ·subst e;rw [fset_same,fset_same];exact hy
 ·rw [fset_ne _ _ e,fset_ne _ _ e]
  refine (R.ls j hj).frm R.rm A (fun q hq=>?_) fun r hr hr'=>?_
  ·obtain ⟨a,ha,rfl⟩:=List.mem_map.1 hq
   exact ⟨a,(hl a ha).1,rfl⟩
  ·obtain ⟨a,ha,rfl⟩:=List.mem_map.1 hr
   exact (hl a (adr_mem.1 hr')).2 j hj e ha
theorem RepS.al (R:RepS S c x F L hs) (hk:k≤x.m.o) (hp:p∈F k):p % 2 ^ k=0∧p+2 ^ k≤x.m.n∧p<x.m.n:=by
 have:=(R.til.al _ (R.mem hk hp)).2
 have h0:=Nat.two_pow_pos k
 simp only [] at this
 exact ⟨this.1,this.2,by omega⟩
theorem leave_core (R:RepS S c x F L hs) (hk:k≤x.m.o) {l1 l2:List Nat} (hF:F k=l1++p::l2) {y:LS} (hy:Lst c x.m.n y ((l1++l2).map (adr c))) (fy:Frm c ((F k).map (adr c)) x.st y.st)
  (ok':BU.Ok c x') (ho:x'.m.o=x.m.o) (hn:x'.m.n=x.m.n) (hpg:x'.m.pg=x.m.pg) (hbt:k<x.m.o→x'.m.bt=flipB x.m.bt k (p / 2 ^ (k+1))) (hbt':k=x.m.o→x'.m.bt=x.m.bt)
  (hst:x'.st=y.st) (hhd:x'.hd=fset x.hd k y.hd):RepS S c x' (fset F k (l1++l2)) L ((p,k)::hs)∧Kept L x.st x'.st∧PK L x.m x'.m:=by
 have hpF:p∈F k:=by rw [hF];simp
 have al:=R.al hk hpF
 have sub:∀j q,q∈fset F k (l1++l2) j→q∈F j:=by
  intro j q hq
  by_cases e:j=k
  ·subst e;rw [fset_same] at hq;rw [hF]
   rcases List.mem_append.1 hq with h | h
   ·exact List.mem_append_left _ h
   ·exact List.mem_append_right _ (List.mem_cons_of_mem _ h)
  ·rwa [fset_ne _ _ e] at hq
 have nd:(F k).Nodup:=by
  have:=(R.ls k hk).nd
  exact List.Pairwise.of_map (adr c) (fun a b h e=>h (by rw [e])) this
 have np:p∉l1++l2:=by
  rw [hF] at nd
  have:=List.nodup_append.1 nd
  have h2:=List.nodup_cons.1 this.2.1
  intro h
  rcases List.mem_append.1 h with h | h
  ·exact this.2.2 p h p (List.mem_cons_self ..) rfl
  ·exact h2.1 h
 refine ⟨⟨ok',?_,?_,?_,?_,?_,?_,?_,by rw [hpg];exact R.ps⟩,?_,PK.of hpg⟩
 ·rw [hn,hst];exact R.rm.frm fy
 ·rw [hn,ho]
  refine R.til.perm ?_
  have h1:=blks_take (O:=x.m.o) (F:=F) (k:=k) (p:=p) (l:=l1++l2) hk (by rw [hF];exact List.perm_middle)
  exact ((h1.append_left L).append_left hs).trans (((List.perm_middle).append_left hs).trans List.perm_middle)
 ·rw [ho];exact fun j q hj hq hb=>R.nb j q hj (sub j q hq) (sub j _ hb)
 ·rw [ho,hn]
  intro j hj
  have:=R.lists hk fy hy (fun q hq=>⟨(R.al hk hq).2.2,fun i hi hne hm=>hne (R.one hk hi hq hm)⟩) j hj
  rw [hst,hhd];exact this
 ·rw [ho,hpg];exact fun j q hj hq=>R.pf j q hj (sub j q hq)
 ·rw [hpg];exact R.pl
 ·rw [ho,hn]
  rcases Nat.lt_or_ge k x.m.o with hlt | hge
  ·rw [hbt hlt]
   refine bits_toggle R.bt al.1 (fun q hq=>?_) ?_
   ·rw [hF];simp [hq]
   ·exact ⟨fun h=>absurd h np,fun h=>absurd hpF h⟩
  ·rw [hbt' (by omega)]
   intro j q hj hq hlt
   rw [fset_ne _ _ (by omega)]
   exact R.bt j q hj hq hlt
 ·rw [hst]
  refine R.kept fy fun q hq=>⟨(q,k),List.mem_append_right _ (mem_blks.2 ⟨hk,hq⟩),cov_self⟩
theorem runP_out {pg:Nat→Nat→Int} {m r q:Nat} {kind:Int} (h:¬Cov (m,r) q):runP pg m r kind q=pg q:=by unfold runP;rw [if_neg (show ¬(m≤q∧q<m+2 ^ r) from h)]
theorem runP_in {pg:Nat→Nat→Int} {m r q:Nat} {kind:Int} (h:Cov (m,r) q):runP pg m r kind q=plainP (if q=m then kind else kind+1) r:=by unfold runP;rw [if_pos (show m≤q∧q<m+2 ^ r from h)]
theorem RepS.apart (R:RepS S c x F L ((p,k)::hs)) {b:PBk} (hb:b∈L++blks x.m.o F) {q:Nat} (hc:Cov b q):¬Cov (p,k) q:=by
 intro h
 have:=R.til.uniq (List.mem_cons_self ..) (List.mem_append_right _ hb) h hc
 subst this
 have nd:=R.til.nodup
 exact (List.nodup_append.1 nd).2.2 (p,k) (List.mem_cons_self ..) (p,k) hb rfl
theorem enter_core (R:RepS S c x F L ((p,k)::hs)) (nb':k<x.m.o→bud p k∉F k)
  (ok':BU.Ok c x') (ho:x'.m.o=x.m.o) (hn:x'.m.n=x.m.n) (hpg:x'.m.pg=runP x.m.pg p k 0) (hbt:k<x.m.o→x'.m.bt=flipB x.m.bt k (p / 2 ^ (k+1))) (hbt':k=x.m.o→x'.m.bt=x.m.bt)
  (hst:x'.st=(pushU c ⟨x.st,x.hd k⟩ (adr c p)).1.st) (hhd:x'.hd=fset x.hd k (pushU c ⟨x.st,x.hd k⟩ (adr c p)).1.hd):RepS S c x' (fset F k (p::F k)) L hs∧Kept L x.st x'.st∧PK L x.m x'.m:=by
 have hal:=R.til.al _ (List.mem_cons_self ..)
 simp only [] at hal
 obtain ⟨hk,al,hP⟩:=hal
 have h0:=Nat.two_pow_pos k
 have hpn:p<x.m.n:=by omega
 have npF:∀j,j≤x.m.o→p∉F j:=fun j hj hm=>R.apart (List.mem_append_right _ (mem_blks.2 ⟨hj,hm⟩)) cov_self cov_self
 obtain ⟨e1,e2,e3⟩:=push_inv (x:=⟨x.st,x.hd k⟩) R.rm (R.ls k hk) (p:=adr c p) ⟨p,hpn,rfl⟩ (fun h=>npF k hk (adr_mem.1 h))
 have e2:Lst c x.m.n (pushU c ⟨x.st,x.hd k⟩ (adr c p)).1 ((p::F k).map (adr c)):=e2
 have e3:Frm c ((p::F k).map (adr c)) x.st (pushU c ⟨x.st,x.hd k⟩ (adr c p)).1.st:=e3
 have pk:PK L x.m x'.m:=fun b hb q hq=>by
  rw [hpg]
  exact runP_out (R.apart (List.mem_append_left _ hb) hq)
 refine ⟨⟨ok',?_,?_,?_,?_,?_,?_,?_,fun q hq=>⟨(R.ps q hq).1,by rw [pk _ (R.ps q hq).1 q cov_self];exact (R.ps q hq).2⟩⟩,?_,pk⟩
 ·rw [hn,hst];exact R.rm.frm e3
 ·rw [hn,ho]
  refine R.til.perm ?_
  have h1:=blks_put (O:=x.m.o) (F:=F) (k:=k) (p:=p) hk
  exact (((h1.append_left L).append_left hs).trans (((List.perm_middle).append_left hs).trans List.perm_middle)).symm
 ·rw [ho]
  intro j q hj hq hb
  by_cases e:j=k
  ·subst e
   rw [fset_same] at hq hb
   rcases List.mem_cons.1 hq with rfl | hq
   ·rcases List.mem_cons.1 hb with hb | hb
    ·have:=(bud_facts al).2;omega
    ·exact nb' hj hb
   ·rcases List.mem_cons.1 hb with hb | hb
    ·have hqa:=(R.al hk hq).1
     have:bud p j=q:=by rw [←hb,bud_bud hqa]
     exact nb' hj (this▸hq)
    ·exact R.nb j q hj hq hb
  ·rw [fset_ne _ _ e] at hq hb
   exact R.nb j q hj hq hb
 ·rw [ho,hn]
  intro j hj
  have:=R.lists hk e3 e2 (fun q hq=>?_) j hj
  ·rw [hst,hhd];exact this
  ·rcases List.mem_cons.1 hq with rfl | hq
   ·exact ⟨hpn,fun j hj _=>npF j hj⟩
   ·exact ⟨(R.al hk hq).2.2,fun i hi hne hm=>hne (R.one hk hi hq hm)⟩
 ·rw [ho,hpg]
  intro j q hj hq r hr
  by_cases e:j=k
  ·subst e
   rw [fset_same] at hq
   rcases List.mem_cons.1 hq with rfl | hq
   ·rw [runP_in hr];simp
   ·rw [runP_out (R.apart (List.mem_append_right _ (mem_blks.2 ⟨hk,hq⟩)) hr)]
    exact R.pf j q hj hq r hr
  ·rw [fset_ne _ _ e] at hq
   rw [runP_out (R.apart (List.mem_append_right _ (mem_blks.2 ⟨hj,hq⟩)) hr)]
   exact R.pf j q hj hq r hr
 ·intro b hb hS q hq
  rw [pk b hb q hq]
  exact R.pl b hb hS q hq
 ·rw [ho,hn]
  rcases Nat.lt_or_ge k x.m.o with hlt | hge
  ·rw [hbt hlt]
   refine bits_toggle R.bt al (fun q hq=>?_) ?_
   ·simp [hq]
   ·exact ⟨fun _=>npF k hk,fun _=>List.mem_cons_self ..⟩
  ·rw [hbt' (by omega)]
   intro j q hj hq hlt
   rw [fset_ne _ _ (by omega)]
   exact R.bt j q hj hq hlt
 ·rw [hst]
  refine R.kept e3 fun q hq=>?_
  rcases List.mem_cons.1 hq with rfl | hq
  ·exact ⟨(q,k),List.mem_append_left _ (List.mem_cons_self ..),cov_self⟩
  ·exact ⟨(q,k),List.mem_append_right _ (mem_blks.2 ⟨hk,hq⟩),cov_self⟩
theorem live_core (R:RepS S c x F L ((p,k)::hs)) (ok':BU.Ok c { x with m:=runU x.m p k 2 }):RepS S c { x with m:=runU x.m p k 2 } F ((p,k)::L) hs∧PK L x.m (runU x.m p k 2):=by
 have hal:=R.til.al _ (List.mem_cons_self ..)
 simp only [] at hal
 have e:runU x.m p k 2={ x.m with pg:=runP x.m.pg p k 2 }:=by unfold runU;rw [if_pos ⟨hal.1,hal.2.1,hal.2.2⟩]
 rw [e] at ok' ⊢
 have pk:PK L x.m { x.m with pg:=runP x.m.pg p k 2 }:=fun b hb q hq=>runP_out (R.apart (List.mem_append_left _ hb) hq)
 refine ⟨⟨ok',R.rm,?_,R.nb,R.ls,fun j q hj hq r hr=>?_,fun b hb hS q hq=>?_,R.bt,fun q hq=>⟨List.mem_cons_of_mem _ (R.ps q hq).1,by rw [pk _ (R.ps q hq).1 q cov_self];exact (R.ps q hq).2⟩⟩,pk⟩
 ·refine R.til.perm ?_
  exact (List.perm_middle (l₁:=hs)).symm
 ·show runP x.m.pg p k 2 r=_
  rw [runP_out (R.apart (List.mem_append_right _ (mem_blks.2 ⟨hj,hq⟩)) hr)]
  exact R.pf j q hj hq r hr
 ·show runP x.m.pg p k 2 q=_
  rcases List.mem_cons.1 hb with rfl | hb
  ·rw [runP_in hq];rfl
  ·rw [runP_out (R.apart (List.mem_append_left _ hb) hq)]
   exact R.pl b hb hS q hq
theorem open_core {L':List PBk} (R:RepS S c x F L hs) (h:L.Perm ((p,k)::L')) (hS:¬S p):RepS S c x F L' ((p,k)::hs):=by
 refine ⟨R.ok,R.rm,R.til.perm ?_,R.nb,R.ls,R.pf,fun b hb=>R.pl b (h.mem_iff.2 (List.mem_cons_of_mem _ hb)),R.bt,fun q hq=>⟨?_,(R.ps q hq).2⟩⟩
 rotate_left
 ·rcases List.mem_cons.1 (h.mem_iff.1 (R.ps q hq).1) with e | e
  ·cases e;exact absurd hq hS
  ·exact e
 exact ((h.append_right _).append_left hs).trans List.perm_middle
theorem RepS.permL {L':List PBk} (R:RepS S c x F L hs) (h:L.Perm L'):RepS S c x F L' hs :=
 ⟨R.ok,R.rm,R.til.perm ((h.append_right _).append_left hs),R.nb,R.ls,R.pf,fun b hb=>R.pl b (h.mem_iff.2 hb),R.bt,fun q hq=>⟨h.mem_iff.1 (R.ps q hq).1,(R.ps q hq).2⟩⟩
theorem RepS.s0 (R:RepS S c x F L hs) {b:PBk} (hb:b∈L) (h:S b.1):b.2=0:=by
 have h1:=(R.ps _ h).1
 have:=R.til.uniq (q:=b.1) (List.mem_append_right _ (List.mem_append_left _ hb)) (List.mem_append_right _ (List.mem_append_left _ h1)) ⟨Nat.le_refl _,by have:=Nat.two_pow_pos b.2;omega⟩ cov_self
 rw [this]
theorem RepS.sF (R:RepS S c x F L hs) (hk:k≤x.m.o) (hp:p∈F k):¬S p:=fun h=>by
 have h1:=(R.ps _ h).1
 have nd:=R.til.nodup
 have:=R.til.uniq (q:=p) (R.mem hk hp) (List.mem_append_right _ (List.mem_append_left _ h1)) cov_self cov_self
 exact (List.nodup_append.1 (List.nodup_append.1 nd).2.1).2.2 _ h1 (p,k) (mem_blks.2 ⟨hk,hp⟩) this.symm
theorem RepS.sn (R:RepS S c x F L hs) (h:S p):p<x.m.n:=by
 have:=(R.til.al _ (List.mem_append_right _ (List.mem_append_left _ (R.ps _ h).1))).2.2
 simp only [] at this
 omega
end
end Go.Proofs.YteemmpkhdllapaaGreatDoor
namespace Go.Proofs.YteemmpkhdllapaaGreatDoor
open Go.V Classical
def aCut (page to:Nat):(Nat→List Nat)→Nat→(Nat→List Nat)
 | F,0=>F
 | F,d+1=>aCut page to (fset F (to+d) ((page+2 ^ (to+d))::F (to+d))) d
def aUp:(Nat→List Nat)→Nat→Nat→Nat→(Nat→List Nat)
 | F,page,k,0=>fset F k (page::F k)
 | F,page,k,d+1=>if bud page k∈F k then aUp (fset F k ((F k).filter (·≠bud page k))) (dwn page k) (k+1) d else fset F k (page::F k)
structure Go' (S:Nat→Prop) (c:Cfg) (x x':BU) (F':Nat→List Nat) (L0 L':List PBk):Prop where
 r:RepS S c x' F' L' []
 k:Kept L0 x.st x'.st
 pk:PK L0 x.m x'.m
 o:x'.m.o=x.m.o
 n:x'.m.n=x.m.n
section
variable {S:Nat→Prop} {c:Cfg} {x x':BU} {F:Nat→List Nat} {L hs:List PBk} {p k:Nat}
theorem turnU_bt (m:MS) {i r:Nat} (hi:i<m.n):(r<m.o→(turnU m i r).1.bt=flipB m.bt r (i / 2 ^ (r+1))∧(turnU m i r).2=!m.bt r (i / 2 ^ (r+1)))∧(r=m.o→(turnU m i r).1.bt=m.bt∧(turnU m i r).2=true):=by
 unfold turnU
 refine ⟨fun h=>?_,fun h=>?_⟩
 ·rw [if_neg (by omega),if_pos ⟨hi,h⟩];exact ⟨rfl,rfl⟩
 ·rw [if_pos h];exact ⟨rfl,rfl⟩
theorem runU_pg (m:MS) {i r:Nat} {kind:Int} (h:r≤m.o∧i % 2 ^ r=0∧i+2 ^ r≤m.n):(runU m i r kind).pg=runP m.pg i r kind:=by unfold runU;rw [if_pos h]
theorem sim_cut {page to:Nat}:∀(d:Nat) (x:BU) (F:Nat→List Nat),RepS S c x F L [(page,to+d)]→Go' S c x (cutU c page to x d) (aCut page to F d) L ((page,to)::L)
 | 0,x,F,R=>⟨(live_core R (run_b R.ok (.inr rfl))).1,Kept.refl _ _,(live_core R (run_b R.ok (.inr rfl))).2,by simp [cutU],by simp [cutU]⟩
 | d+1,x,F,R=>by
  have R1:RepS S c x F L [(page+2 ^ (to+d),to+d),(page,to+d)]:={ R with til:=(R.til.split).perm (.swap _ _ _) }
  have al0:=R.til.al _ (List.mem_cons_self ..)
  have al:=R1.til.al _ (List.mem_cons_self ..)
  simp only [] at al al0
  have h0:=Nat.two_pow_pos (to+d)
  have hlt:page+2 ^ (to+d)<x.m.n:=by omega
  have nbp:to+d<x.m.o→bud (page+2 ^ (to+d)) (to+d)∉F (to+d):=fun _ hm=>by
   rw [(bud_up (p:=page) (k:=to+d) al0.2.1).1] at hm
   have e:=R1.til.uniq (R1.mem al.1 hm) (List.mem_cons_of_mem _ (List.mem_cons_self ..)) cov_self cov_self
   have nd:=R1.til.nodup
   exact (List.nodup_append.1 nd).2.2 (page,to+d) (by simp) (page,to+d) (List.mem_append_right _ (mem_blks.2 ⟨al.1,hm⟩)) rfl
  have hen:(enterU c x (page+2 ^ (to+d)) (to+d)).m=runU x.m (page+2 ^ (to+d)) (to+d) 0:=rfl
  have tb:=turnU_bt (enterU c x (page+2 ^ (to+d)) (to+d)).m (i:=page+2 ^ (to+d)) (r:=to+d) (by simpa using hlt)
  obtain ⟨R2,K2,P2⟩:=enter_core (x':={ enterU c x (page+2 ^ (to+d)) (to+d) with m:=(turnU (enterU c x (page+2 ^ (to+d)) (to+d)).m (page+2 ^ (to+d)) (to+d)).1 }) R1 nbp
   (turn_b (enter_b R.ok _ _)) (by simp) (by simp) (by simp only [turnU_pg];rw [hen];exact runU_pg _ ⟨al.1,al.2.1,al.2.2⟩)
   (fun h=>by rw [(tb.1 (by simpa using h)).1,hen,runU_bt]) (fun h=>by rw [(tb.2 (by simpa using h)).1,hen,runU_bt]) rfl rfl
  have G:=sim_cut d _ _ R2
  exact ⟨G.r,K2.trans G.k,P2.trans G.pk,G.o.trans (by simp),G.n.trans (by simp)⟩
theorem pageU_adr (g:c.Good) {m:MS} {q:Nat} (hq:q<m.n):pageU c m (adr c q)=some q:=by
 have al:c.base % 4096=0:=by
  have:=g.al
  have hd:(4096:Int) ∣ c.size:=⟨((2 ^ c.order.toNat:Nat):Int),by unfold Cfg.size;simp⟩
  exact Int.emod_eq_zero_of_dvd (Int.dvd_trans hd (Int.dvd_of_emod_eq_zero this))
 unfold pageU adr
 have e1:(c.base+4096*(q:Int)-c.base) / 4096=q:=by omega
 rw [if_neg (by omega),e1,Int.toNat_natCast]
theorem sim_take (g:c.Good) {o:Nat} (ho:o≤x.m.o) (R:RepS S c x F L []) :
  (takeU c x o=(x,0,2)∧∀j,o≤j→j≤x.m.o→F j=[]) ∨
  ∃j p l,o≤j∧j≤x.m.o∧F j=p::l∧(∀i,o≤i→i<j→F i=[])∧(takeU c x o).2=(adr c p,0)∧Go' S c x (takeU c x o).1 (aCut p o (fset F j l) (j-o)) L ((p,o)::L):=by
 have eT:takeU c x o=takeF c o x (x.m.o+1-o):=by unfold takeU;rw [if_neg (by omega)];rfl
 rw [eT]
 have key:∀d,d+o≤x.m.o+1→(takeF c o x d=(x,0,2)∧∀j,x.m.o+1-d≤j→j≤x.m.o→F j=[]) ∨
   ∃j p l,x.m.o+1-d≤j∧j≤x.m.o∧F j=p::l∧(∀i,x.m.o+1-d≤i→i<j→F i=[])∧(takeF c o x d).2=(adr c p,0)∧Go' S c x (takeF c o x d).1 (aCut p o (fset F j l) (j-o)) L ((p,o)::L):=by
  intro d
  induction d with
  | zero=>intro _;exact .inl ⟨rfl,fun j h1 h2=>by omega⟩
  | succ d ih =>
   intro hd
   have hj:x.m.o-d≤x.m.o:=by omega
   have e1:x.m.o+1-(d+1)=x.m.o-d:=by omega
   rw [e1]
   rcases pop_inv R.rm (R.ls _ hj) with ⟨h1,h2⟩ | ⟨a,l,h1,h2,h3,h4⟩
   ·have hF:F (x.m.o-d)=[]:=List.map_eq_nil_iff.1 h1
    have e:takeF c o x (d+1)=takeF c o x d:=by rw [takeF];simp only [];rw [h2];simp
    rw [e]
    rcases ih (by omega) with ⟨i1,i2⟩ | ⟨j,p,l,i1,i2,i3,i4,i5⟩
    ·refine .inl ⟨i1,fun j h1 h2=>?_⟩
     by_cases e:j=x.m.o-d
     ·rw [e];exact hF
     ·exact i2 j (by omega) h2
    ·refine .inr ⟨j,p,l,by omega,i2,i3,fun i h1 h2=>?_,i5⟩
     by_cases e:i=x.m.o-d
     ·rw [e];exact hF
     ·exact i4 i (by omega) h2
   ·
    obtain ⟨p,l',hF,rfl,rfl⟩ : ∃p l',F (x.m.o-d)=p::l'∧a=adr c p∧l=l'.map (adr c):=by
     cases hf:F (x.m.o-d) with
     | nil=>rw [hf] at h1;cases h1
     | cons p l'=>rw [hf] at h1;simp only [List.map_cons,List.cons.injEq] at h1;exact ⟨p,l',rfl,h1.1.symm,h1.2.symm⟩
    have al:=R.al hj (p:=p) (by rw [hF];exact List.mem_cons_self ..)
    have tb:=turnU_bt x.m (i:=p) (r:=x.m.o-d) al.2.2
    have e:takeF c o x (d+1)=(cutU c p o { x.put (x.m.o-d) (popU c ⟨x.st,x.hd (x.m.o-d)⟩).1 with m:=(turnU x.m p (x.m.o-d)).1 } (x.m.o-d-o),adr c p,0):=by
     rw [takeF]
     simp only []
     rw [h2]
     simp only [put_m,pageU_adr g al.2.2]
     rfl
    rw [e]
    obtain ⟨R2,K2,P2⟩:=leave_core (l1:=[]) (l2:=l') (p:=p) (x':={ x.put (x.m.o-d) (popU c ⟨x.st,x.hd (x.m.o-d)⟩).1 with m:=(turnU x.m p (x.m.o-d)).1 }) R hj hF h3 h4
     (turn_b (put_b R.ok _ _)) (by simp) (by simp) (by simp) (fun h=>(tb.1 h).1) (fun h=>(tb.2 h).1) rfl rfl
    have R2:RepS S c { x.put (x.m.o-d) (popU c ⟨x.st,x.hd (x.m.o-d)⟩).1 with m:=(turnU x.m p (x.m.o-d)).1 } (fset F (x.m.o-d) l') L [(p,x.m.o-d)]:=R2
    have R3:RepS S c { x.put (x.m.o-d) (popU c ⟨x.st,x.hd (x.m.o-d)⟩).1 with m:=(turnU x.m p (x.m.o-d)).1 } (fset F (x.m.o-d) l') L [(p,o+(x.m.o-d-o))]:=by
     rw [show o+(x.m.o-d-o)=x.m.o-d by omega];exact R2
    have G:=sim_cut (x.m.o-d-o) _ _ R3
    exact .inr ⟨x.m.o-d,p,l',Nat.le_refl _,hj,hF,fun i h1 h2=>by omega,rfl,G.r,K2.trans G.k,P2.trans G.pk,G.o.trans (by simp),G.n.trans (by simp)⟩
 have:=key (x.m.o+1-o) (by omega)
 rw [show x.m.o+1-(x.m.o+1-o)=o by omega] at this
 exact this
theorem filter_split {l1 l2:List Nat} {p:Nat} (h:(l1++p::l2).Nodup):(l1++p::l2).filter (·≠p)=l1++l2:=by
 have h1:=List.nodup_append.1 h
 have h2:=List.nodup_cons.1 h1.2.1
 have a1:l1.filter (·≠p)=l1:=List.filter_eq_self.2 fun q hq=>by
  simp only [ne_eq,decide_not,Bool.not_eq_true',decide_eq_false_iff_not]
  exact fun e=>h1.2.2 q hq p (List.mem_cons_self ..) e
 have a2:l2.filter (·≠p)=l2:=List.filter_eq_self.2 fun q hq=>by
  simp only [ne_eq,decide_not,Bool.not_eq_true',decide_eq_false_iff_not]
  exact fun e=>h2.1 (e▸hq)
 rw [List.filter_append,a1,List.filter_cons_of_neg (by simp),a2]
theorem RepS.ndF (R:RepS S c x F L hs) (hk:k≤x.m.o):(F k).Nodup:=List.Pairwise.of_map (adr c) (fun a b h e=>h (by rw [e])) (R.ls k hk).nd
theorem sim_up:∀(d:Nat) (x:BU) (F:Nat→List Nat) (page k:Nat),k+d=x.m.o→RepS S c x F L [(page,k)]→(upU c x page k d).2=0∧Go' S c x (upU c x page k d).1 (aUp F page k d) L L
 | d,x,F,page,k,hd,R=>by
  have hal:=R.til.al _ (List.mem_cons_self ..)
  simp only [] at hal
  obtain ⟨hk,al,hP⟩:=hal
  have h0:=Nat.two_pow_pos k
  have hpn:page<x.m.n:=by omega
  have tb:=turnU_bt x.m (i:=page) (r:=k) hpn
  have npF:page∉F k:=fun hm=>R.apart (List.mem_append_right _ (mem_blks.2 ⟨hk,hm⟩)) cov_self cov_self
  have enter:(k<x.m.o→bud page k∉F k)→(turnU x.m page k).2=true→(upU c x page k d).2=0∧Go' S c x (upU c x page k d).1 (fset F k (page::F k)) L L:=by
   intro nbp ht
   have e:upU c x page k d=(enterU c { x with m:=(turnU x.m page k).1 } page k,0):=by
    unfold upU;rw [if_pos ht]
   rw [e]
   have hen:(enterU c { x with m:=(turnU x.m page k).1 } page k).m=runU (turnU x.m page k).1 page k 0:=rfl
   obtain ⟨R2,K2,P2⟩:=enter_core (x':=enterU c { x with m:=(turnU x.m page k).1 } page k) R nbp (enter_b (turn_b R.ok) _ _) (by simp) (by simp)
    (by rw [hen,runU_pg _ ⟨by simpa using hk,al,by simpa using hP⟩,turnU_pg]) (fun h=>by rw [hen,runU_bt];exact (tb.1 h).1) (fun h=>by rw [hen,runU_bt];exact (tb.2 h).1) rfl rfl
   exact ⟨rfl,R2,K2,(PK.of (by simp)).trans P2,by simp,by simp⟩
  cases d with
  | zero =>
   have hko:k=x.m.o:=by omega
   exact enter (fun h=>by omega) (tb.2 hko).2
  | succ d =>
   have hko:k<x.m.o:=by omega
   have hb:=R.bt k page hko al hpn
   have hbit:(turnU x.m page k).2=!decide (bud page k∈F k):=by rw [(tb.1 hko).2,hb];simp [npF]
   rw [aUp]
   by_cases hm:bud page k∈F k
   ·rw [if_pos hm]
    have ht:(turnU x.m page k).2=false:=by rw [hbit];simp [hm]
    obtain ⟨l1,l2,hF⟩:=List.append_of_mem hm
    have nd:=R.ndF hk
    have hF':(F k).map (adr c)=l1.map (adr c)++adr c (bud page k)::l2.map (adr c):=by rw [hF];simp
    obtain ⟨r1,r2,r3⟩:=remove_inv (x:=⟨x.st,x.hd k⟩) R.rm (l1:=l1.map (adr c)) (l2:=l2.map (adr c)) (p:=adr c (bud page k)) (by rw [←hF'];exact R.ls k hk)
    have e:upU c x page k (d+1)=upU c (BU.put { x with m:=(turnU x.m page k).1 } k (removeU c ⟨x.st,x.hd k⟩ (adr c (bud page k))).1) (dwn page k) (k+1) d:=by
     rw [upU,if_neg (by rw [ht];simp)]
     simp only []
     rw [if_neg (by simpa using r1)]
    rw [e]
    have hbd:bud page k / 2 ^ (k+1)=page / 2 ^ (k+1):=bud_div al
    obtain ⟨R2,K2,P2⟩:=leave_core (l1:=l1) (l2:=l2) (p:=bud page k) (y:=(removeU c ⟨x.st,x.hd k⟩ (adr c (bud page k))).1)
     (x':=BU.put { x with m:=(turnU x.m page k).1 } k (removeU c ⟨x.st,x.hd k⟩ (adr c (bud page k))).1) R hk hF (by rw [List.map_append];exact r2) (by rw [hF'];exact r3)
     (put_b (turn_b R.ok) _ _) (by simp) (by simp) (by simp) (fun h=>by rw [hbd];exact (tb.1 h).1) (fun h=>by omega) rfl rfl
    have hfl:(F k).filter (·≠bud page k)=l1++l2:=by rw [hF];exact filter_split (hF▸nd)
    rw [hfl]
    have R3:RepS S c (BU.put { x with m:=(turnU x.m page k).1 } k (removeU c ⟨x.st,x.hd k⟩ (adr c (bud page k))).1) (fset F k (l1++l2)) L [(dwn page k,k+1)]:=by
     have T:=R2.til.perm (List.Perm.swap _ _ _)
     exact { R2 with til:=Tile.merge (by simpa using hko) T }
    obtain ⟨i1,i2⟩:=sim_up d _ _ (dwn page k) (k+1) (by simp;omega) R3
    exact ⟨i1,i2.r,K2.trans i2.k,P2.trans i2.pk,i2.o.trans (by simp),i2.n.trans (by simp)⟩
   ·rw [if_neg hm]
    exact enter (fun _=>hm) (by rw [hbit];simp [hm])
theorem live_pg (R:RepS S c x F L hs) (h:(p,k)∈L) (hS:¬S p):x.m.pg p 0=2∧x.m.pg p 1=k:=by
 have:=R.pl _ h hS p cov_self
 rw [this]
 simp [plainP]
theorem liveU_yes (g:c.Good) (R:RepS S c x F L hs) (h:(p,k)∈L) (hS:¬S p):liveU c x.m (adr c p) k=some p:=by
 have al:=R.til.al _ (List.mem_append_right _ (List.mem_append_left _ h))
 have h0:=Nat.two_pow_pos k
 simp only [] at al
 obtain ⟨e1,e2⟩:=live_pg R h hS
 unfold liveU
 rw [pageU_adr g (by omega)]
 simp only []
 rw [if_pos ⟨e1,e2⟩]
theorem pageU_out (g:c.Good) {m:MS} {a:Int} {q:Nat} (h:pageU c m a=some q):q<m.n∧a=adr c q:=by
 have al:c.base % 4096=0:=by
  have:=g.al
  have hd:(4096:Int) ∣ c.size:=⟨((2 ^ c.order.toNat:Nat):Int),by unfold Cfg.size;simp⟩
  exact Int.emod_eq_zero_of_dvd (Int.dvd_trans hd (Int.dvd_of_emod_eq_zero this))
 unfold pageU at h
 split at h
 ·cases h
 ·cases h
  unfold adr
  omega
theorem liveU_no (g:c.Good) (R:RepS S c x F L []) {a o:Int} (h:∀b∈L,¬S b.1→¬(a=adr c b.1∧o=b.2)):liveU c x.m a o=none:=by
 unfold liveU
 split
 ·rfl
 ·rename_i q hq
  obtain ⟨hq1,hq2⟩:=pageU_out g hq
  rw [if_neg]
  rintro ⟨e1,e2⟩
  obtain ⟨b,hb,hc⟩:=R.til.cv q hq1
  rcases List.mem_append.1 (by simpa using hb:b∈L++blks x.m.o F) with hb | hb
  ·by_cases hS:S b.1
   ·have hb0:=R.s0 hb hS
    have eq:q=b.1:=by have:=hc.1;have:=hc.2;rw [hb0] at this;omega
    rw [eq,(R.ps _ hS).2] at e1
    exact absurd e1 (by decide)
   have hp:=R.pl b hb hS q hc
   by_cases e:q=b.1
   ·rw [hp,if_pos e] at e2
    refine h b hb hS ⟨by rw [hq2,e],?_⟩
    rw [←e2];rfl
   ·rw [hp,if_neg e] at e1
    simp [plainP] at e1
  ·obtain ⟨b1,b2⟩:=b
   obtain ⟨g1,g2⟩:=mem_blks.1 hb
   have hp:=R.pf b2 b1 g1 g2 q hc
   rw [hp] at e1
   split at e1<;>simp [plainP] at e1
theorem sim_give (g:c.Good) {L':List PBk} (R:RepS S c x F L []) (h:L.Perm ((p,k)::L')) (hS:¬S p):(giveU c x (adr c p) k).2=0∧Go' S c x (giveU c x (adr c p) k).1 (aUp F p k (x.m.o-k)) L' L':=by
 have hm:(p,k)∈L:=h.mem_iff.2 (List.mem_cons_self ..)
 have al:=R.til.al _ (List.mem_append_right _ (List.mem_append_left _ hm))
 have e:giveU c x (adr c p) k=upU c x p k (x.m.o-k):=by unfold giveU;rw [liveU_yes g R hm hS];simp
 rw [e]
 exact sim_up _ _ _ _ _ (by have:=al.1;simp only [] at this;omega) (open_core R h hS)
theorem give_no (g:c.Good) (R:RepS S c x F L []) {a o:Int} (h:∀b∈L,¬S b.1→¬(a=adr c b.1∧o=b.2)):giveU c x a o=(x,1):=by unfold giveU;rw [liveU_no g R h]
theorem top_some (hn:0<x.st.n) (e:x.m.n=x.st.n*2 ^ x.m.o):topU x=some (x.m.n-2 ^ x.m.o):=by unfold topU;rw [if_pos ⟨hn,e⟩,e]
theorem sim_feed (g:c.Good) {L':List PBk} (R:RepS S c x F L []) (hn:0<x.st.n) (e:x.m.n=x.st.n*2 ^ x.m.o) (h:L.Perm ((x.m.n-2 ^ x.m.o,x.m.o)::L')) (hS:¬S (x.m.n-2 ^ x.m.o)) :
  (feedU c x).2=0∧Go' S c x (feedU c x).1 (aUp F (x.m.n-2 ^ x.m.o) x.m.o 0) L' L':=by
 obtain ⟨h1,h2⟩:=sim_give g R h hS
 rw [Nat.sub_self] at h2
 have ef:feedU c x=giveU c x (adr c (x.m.n-2 ^ x.m.o)) x.m.o:=by
  unfold feedU;rw [top_some hn e];simp only [];rw [if_neg (by rw [h1];decide)]
 rw [ef]
 exact ⟨h1,h2⟩
theorem sim_pull (R:RepS S c x F L []) (hn:0<x.st.n) (e:x.m.n=x.st.n*2 ^ x.m.o) (h:x.m.n-2 ^ x.m.o∈F x.m.o) :
  (pullU c x).2=0∧Go' S c x (pullU c x).1 (fset F x.m.o ((F x.m.o).filter (·≠x.m.n-2 ^ x.m.o))) L ((x.m.n-2 ^ x.m.o,x.m.o)::L):=by
 generalize hq:x.m.n-2 ^ x.m.o=q at h ⊢
 have hp:=R.pf x.m.o q (Nat.le_refl _) h q cov_self
 obtain ⟨l1,l2,hF⟩:=List.append_of_mem h
 have nd:=R.ndF (k:=x.m.o) (Nat.le_refl _)
 have hF':(F x.m.o).map (adr c)=l1.map (adr c)++adr c q::l2.map (adr c):=by rw [hF];simp
 obtain ⟨r1,r2,r3⟩:=remove_inv (x:=⟨x.st,x.hd x.m.o⟩) R.rm (l1:=l1.map (adr c)) (l2:=l2.map (adr c)) (p:=adr c q) (by rw [←hF'];exact R.ls _ (Nat.le_refl _))
 have ep:pullU c x=({ x.put x.m.o (removeU c ⟨x.st,x.hd x.m.o⟩ (adr c q)).1 with m:=runU x.m q x.m.o 2 },0):=by
  unfold pullU
  rw [top_some hn e,hq]
  simp only []
  rw [if_neg (by rw [hp];simp [plainP]),if_neg (by simpa using r1)]
  rfl
 rw [ep]
 obtain ⟨R2,K2,P2⟩:=leave_core (l1:=l1) (l2:=l2) (p:=q) (y:=(removeU c ⟨x.st,x.hd x.m.o⟩ (adr c q)).1) (x':=x.put x.m.o (removeU c ⟨x.st,x.hd x.m.o⟩ (adr c q)).1) R (Nat.le_refl _) hF
  (by rw [List.map_append];exact r2) (by rw [hF'];exact r3) (put_b R.ok _ _) rfl rfl rfl (fun h=>by omega) (fun _=>rfl) rfl rfl
 have hfl:(F x.m.o).filter (·≠q)=l1++l2:=by rw [hF];exact filter_split (hF▸nd)
 rw [hfl]
 exact ⟨rfl,(live_core R2 (run_b R2.ok (.inr rfl))).1,K2,P2.trans (live_core R2 (run_b R2.ok (.inr rfl))).2,by simp,by simp⟩
theorem pull_no (R:RepS S c x F L []) (h:x.m.n-2 ^ x.m.o∉F x.m.o):pullU c x=(x,9):=by
 unfold pullU
 split
 ·rfl
 ·rename_i q hq
  obtain ⟨h1,h2,h3,h4⟩:=topU_lt R.ok hq
  rw [if_pos]
  refine Classical.byContradiction fun hno=>?_
  have e0:x.m.pg q 0=0:=Classical.byContradiction fun e=>hno (.inl e)
  have e1:x.m.pg q 1=x.m.o:=Classical.byContradiction fun e=>hno (.inr e)
  obtain ⟨b,hb,hc⟩:=R.til.cv q h1
  rcases List.mem_append.1 (by simpa using hb:b∈L++blks x.m.o F) with hb | hb
  ·by_cases hS:S b.1
   ·have hb0:=R.s0 hb hS
    have eq:q=b.1:=by have:=hc.1;have:=hc.2;rw [hb0] at this;omega
    rw [eq,(R.ps _ hS).2] at e0
    exact absurd e0 (by decide)
   have hp:=R.pl b hb hS q hc
   rw [hp] at e0
   split at e0<;>simp [plainP] at e0
  ·obtain ⟨b1,b2⟩:=b
   obtain ⟨g1,g2⟩:=mem_blks.1 hb
   have hp:=R.pf b2 b1 g1 g2 q hc
   by_cases e:q=b1
   ·rw [hp] at e1
    simp [plainP] at e1
    subst e
    have:b2=x.m.o:=by omega
    rw [this] at g2
    exact h (h3▸g2)
   ·rw [hp,if_neg e] at e0
    simp [plainP] at e0
end
end Go.Proofs.YteemmpkhdllapaaGreatDoor
namespace Go.Proofs.YteemmpkhdllapaaGreatDoor
open Go.V Classical
def f3 (v0 v1 v2:Value):Nat→Value
 | 0=>v0
 | 1=>v1
 | _=>v2
def f4 (v0 v1 v2 v3:Value):Nat→Value
 | 0=>v0
 | 1=>v1
 | 2=>v2
 | _=>v3
theorem box4 (h:Heap) (v0 v1 v2 v3:Value) (T:TypeId):New h (h.push (.cells #[v0,v1,v2,v3] T)) (blkR h.size 4 (f4 v0 v1 v2 v3)) :=
 (New.box h #[v0,v1,v2,v3] T).conv (fun P=>Blk.congr P fun i hi=>by
  have hi:i<4:=hi
  have:i=0∨i=1∨i=2∨i=3:=by omega
  rcases this with rfl | rfl | rfl | rfl<;>rfl) fun _ e=>e
theorem assign4 {h:Heap} {b:Nat} {f:Nat→Value} (B:Blk h b 4 f) (v0 v1 v2 v3:Value):WrN h ⟨b,0,none⟩ 4∧Stp h (setCs h ⟨b,0,none⟩ 0 [v0,v1,v2,v3]) (blkR b 4 f) (blkR b 4 (f4 v0 v1 v2 v3)):=by
 refine ⟨fun j hj=>by rw [add_mk];exact B.wr (by omega),Stp.sets B [v0,v1,v2,v3] 0 0 fun j hj=>?_⟩
 rw [if_pos ⟨by omega,by simpa using hj⟩]
 have:j=0∨j=1∨j=2∨j=3:=by omega
 rcases this with rfl | rfl | rfl | rfl<;>rfl
theorem f4_cells {h:Heap} {b:Nat} {v0 v1 v2 v3:Value} (B:(blkR b 4 (f4 v0 v1 v2 v3)).P h):cellAt h ⟨b,0,none⟩=some v0∧cellAt h ((⟨b,0,none⟩ : Addr).add 1)=some v1∧cellAt h ((⟨b,0,none⟩ : Addr).add 2)=some v2∧cellAt h ((⟨b,0,none⟩ : Addr).add 3)=some v3 :=
 ⟨B.cell (i:=0) (by omega),by rw [add_mk];exact B.cell (i:=1) (by omega),by rw [add_mk];exact B.cell (i:=2) (by omega),by rw [add_mk];exact B.cell (i:=3) (by omega)⟩
theorem f4_set {h:Heap} {b:Nat} {v0 v1 v2 v3:Value} (B:Blk h b 4 (f4 v0 v1 v2 v3)) (v:Value) :
  (Wr h ((⟨b,0,none⟩ : Addr).add 1)∧Stp h (setC h ((⟨b,0,none⟩ : Addr).add 1) v) (blkR b 4 (f4 v0 v1 v2 v3)) (blkR b 4 (f4 v0 v v2 v3))) ∧
  (Wr h ((⟨b,0,none⟩ : Addr).add 2)∧Stp h (setC h ((⟨b,0,none⟩ : Addr).add 2) v) (blkR b 4 (f4 v0 v1 v2 v3)) (blkR b 4 (f4 v0 v1 v v3))) ∧
  (Wr h ((⟨b,0,none⟩ : Addr).add 3)∧Stp h (setC h ((⟨b,0,none⟩ : Addr).add 3) v) (blkR b 4 (f4 v0 v1 v2 v3)) (blkR b 4 (f4 v0 v1 v2 v))):=by
 refine ⟨?_,?_,?_⟩<;>rw [add_mk,Nat.zero_add] <;>
 ·refine ⟨B.wr (by omega),Stp.set B _ v fun j hj=>?_⟩
  have:j=0∨j=1∨j=2∨j=3:=by omega
  rcases this with rfl | rfl | rfl | rfl<;>rfl
theorem sl_appB {h:Heap} {p:Option Addr} {n c b:Nat} {f:Nat→Value} {zs xs:List Value} {e T:TypeId} (H:(slR p n c zs.length f).P h) (hz:0<zs.length) (hx:xs.length=zs.length) (ho:∀v∈xs,oneC v=true) (hb:2*(n+1)*b≤2 ^ 48) :
  ∃os,AppPre (h.push (.cells xs.toArray T)) p n c (some ⟨h.size,0,none⟩) 1 zs.length b os xs∧∀(p':Option Addr) (c':Nat) (h':Heap),AppRes (h.push (.cells xs.toArray T)) p n c 1 zs e os xs p' c' h' →
   Stp h h' (slR p n c zs.length f) (slR p' (n+1) c' zs.length fun i=>if i<n*zs.length then f i else xs.getD (i-n*zs.length) undef):=by
 have u:Upd (fun _=>False) h (h.push (.cells xs.toArray T)):=push_upd _ _ _
 have H':=(slR p n c zs.length f).st H u fun _ _=>id
 have hr:Go.V.rowAt (h.push (.cells xs.toArray T)) (some ⟨h.size,0,none⟩) xs:=by
  intro j v hj
  have hl:j<xs.length:=(List.getElem?_eq_some_iff.1 hj).1
  have B:=blk_list h xs T xs.length rfl
  have:=B.cell (i:=j) hl
  rw [add_mk,Nat.zero_add,this,List.getD_eq_getElem?_getD,hj];rfl
 obtain ⟨os,h1,h2⟩:=sl_app (e:=e) (b:=b) (m:=1) (xs:=xs) H' hz (by rw [hx];omega) hr ho hb
 exact ⟨os,h1,fun p' c' h' hres=>(Stp.quiet H u).trans (h2 p' c' h' hres)⟩
def runV (l:List (Int×Int)):Nat→Value:=fun i=>.int .i64 (if i % 2=0 then (l.getD (i / 2) (0,0)).1 else (l.getD (i / 2) (0,0)).2)
theorem runV_snoc (l:List (Int×Int)) (e:Int×Int) {i:Nat} (hi:i<(l.length+1)*2):(if i<l.length*2 then runV l i else ([.int .i64 e.1,.int .i64 e.2]:List Value).getD (i-l.length*2) undef)=runV (l++[e]) i:=by
 unfold runV
 split
 ·rename_i h
  rw [List.getD_eq_getElem?_getD,List.getD_eq_getElem?_getD,List.getElem?_append_left (by omega)]
 ·rename_i h
  have h1:i / 2=l.length:=by omega
  have h2:(l++[e]).getD l.length (0,0)=e:=by simp
  rw [h1,h2]
  have:i=l.length*2∨i=l.length*2+1:=by omega
  rcases this with rfl | rfl
  ·rw [Nat.sub_self,if_pos (by omega)];rfl
  ·rw [show l.length*2+1-l.length*2=1 by omega,if_neg (by omega)];rfl
theorem runV_at (l:List (Int×Int)) (i:Nat):runV l (i*2)=.int .i64 (l.getD i (0,0)).1∧runV l (i*2+1)=.int .i64 (l.getD i (0,0)).2:=by
 unfold runV
 rw [if_pos (by omega),if_neg (by omega),show i*2 / 2=i by omega,show (i*2+1) / 2=i by omega]
 exact ⟨rfl,rfl⟩
abbrev dv (o P:Int) (fp:Option Addr) (fn fc:Nat) (vp:Option Addr) (vn vc:Nat):Value:=.agg #[.int .i64 o,.int .i64 P,.slice fp fn fc,.slice vp vn vc]
section
variable {w₀:World} {h:Heap} {K:Value→Heap→Prop} {o P:Int} {fp vp:Option Addr} {fn fc vc:Nat} {l:List (Int×Int)}
theorem ref5_Top_ok {on Pn:Nat} {vn:Nat} (ho:on≤8) (hP:Pn≤1024) (hK:∀h',Upd NoB h h'→K (.int .i64 (if Pn=0 then -1 else (Pn:Int)-(2 ^ on:Nat))) h'):CallV Tryz.prog w₀ F.croftref5_Top [dv on Pn fp fn fc vp vn vc] h K:=by
 refine croftref5_Top.call ?_
 try dsimp only
 have N:=box4 h (.int .i64 (on:Int)) (.int .i64 (Pn:Int)) (.slice fp fn fc) (.slice vp vn vc) T.T_croftref5_Buddy
 have hK:=hK _ N.u
 generalize Array.push h (.cells #[.int .i64 (on:Int),.int .i64 (Pn:Int),.slice fp fn fc,.slice vp vn vc] T.T_croftref5_Buddy)=h1 at N hK ⊢
 obtain ⟨k0,k1,k2,k3⟩:=f4_cells N.p
 refine ⟨_,k1,?_⟩
 by_cases e:Pn=0
 ·rw [if_pos e] at hK
  exact iT (by simp [e]) hK
 ·rw [if_neg e] at hK
  refine iF (beq_false_of_ne (by omega)) ⟨_,k1,_,k0,?_⟩
  have hb:=pow8 ho
  have ew:IntKind.wrap .u64 (on:Int)=(on:Int):=by rw [IntKind.wrap_u64];omega
  rw [ew,shl1 ho]
  have e1:IntKind.wrap .i64 ((Pn:Int)-((2 ^ on:Nat):Int))=(Pn:Int)-((2 ^ on:Nat):Int):=by rw [IntKind.wrap_i64];omega
  rw [e1]
  exact ⟨by omega,hK⟩
theorem row_run {hx:Heap} (R:Row h vp (l.length*2) (runV l)) (u:Upd NoB h hx) {i:Nat} (hi:i<l.length):∃a,vp=some a∧cellAt hx (a.add (Int.toNat (i:Int)*2))=some (.int .i64 (l.getD i (0,0)).1)∧cellAt hx ((a.add (Int.toNat (i:Int)*2)).add 1)=some (.int .i64 (l.getD i (0,0)).2):=by
 rcases R with e | ⟨b,off,rfl,R⟩
 ·omega
 ·refine ⟨_,rfl,?_,?_⟩
  ·rw [add_mk,Int.toNat_natCast,cellAt_upd (R (i*2) (by omega)) u fun e=>e,(runV_at l i).1]
  ·rw [add_mk,add_mk,Int.toNat_natCast,Nat.add_assoc,cellAt_upd (R (i*2+1) (by omega)) u fun e=>e,(runV_at l i).2]
theorem ref5_lives_ok {p q:Int} (hl:l.length≤1073741824) (R:Row h vp (l.length*2) (runV l))
  (hK:∀(h':Heap) (vp':Option Addr) (vc':Nat),New h h' (slR vp' (l.length+1) vc' 2 (runV (l++[(p,q)])))→K (dv o P fp fn fc vp' (l.length+1) vc') h') :
  CallV Tryz.prog w₀ F.croftref5_lives [dv o P fp fn fc vp l.length vc,.int .i64 p,.int .i64 q] h K:=by
 refine croftref5_lives.call ?_
 try dsimp only
 have N5:=box4 h (.int .i64 o) (.int .i64 P) (.slice fp fn fc) (.slice vp l.length vc) T.T_croftref5_Buddy
 generalize hh5:Array.push h (.cells #[.int .i64 o,.int .i64 P,.slice fp fn fc,.slice vp l.length vc] T.T_croftref5_Buddy)=h5 at N5 ⊢
 have N6:=box4 h5 (.int .i64 0) (.int .i64 0) (.slice none 0 0) (.slice none 0 0) T.T_croftref5_Buddy
 generalize hh6:Array.push h5 (.cells #[.int .i64 0,.int .i64 0,.slice none 0 0,.slice none 0 0] T.T_croftref5_Buddy)=h6 at N6 ⊢
 obtain ⟨b0,eb0⟩ : ∃b0,b0=h.size:=⟨_,rfl⟩
 obtain ⟨b1,eb1⟩ : ∃b1,b1=h5.size:=⟨_,rfl⟩
 rw [←eb0] at N5 ⊢
 rw [←eb1] at N6 ⊢
 intro J3 hJ3 L8 hL8
 have I0:Hold h h6 [slR none 0 0 2 (runV l),blkR b1 4 (f4 (.int .i64 0) (.int .i64 0) (.slice none 0 0) (.slice none 0 0)),blkR b0 4 (f4 (.int .i64 o) (.int .i64 P) (.slice fp fn fc) (.slice vp l.length vc))] :=
  (((Hold.nil h).new N5).new N6).new ⟨Upd.refl _ _,sl_nil _ _ _,fun b e=>absurd e (sl_nil_fp b)⟩
 have key:∀(d i:Nat) (y:Option Addr) (cap:Nat) (hx:Heap),i+d=l.length→Hold h hx [slR y i cap 2 (runV l),blkR b1 4 (f4 (.int .i64 0) (.int .i64 0) (.slice none 0 0) (.slice none 0 0)),blkR b0 4 (f4 (.int .i64 o) (.int .i64 P) (.slice fp fn fc) (.slice vp l.length vc))] →
   L8 [.int .i64 p,.int .i64 q,.pointer (some ⟨b0,0,none⟩),.pointer (some ⟨b1,0,none⟩),.slice y i cap,.int .i64 (i:Int)] hx:=by
  intro d
  induction d with
  | zero =>
   intro i y cap hx hi I
   have hi:i=l.length:=by omega
   subst hi
   obtain ⟨k0,k1,k2,k3⟩:=f4_cells (I.at 2)
   refine hL8 _ _ _ _ _ _ _ _ _ ⟨_,_,_,k3,iF (decide_eq_false (by omega)) (hJ3 _ _ _ _ _ _ _ _ ?_)⟩
   obtain ⟨os,q1,q2⟩:=sl_appB (zs:=[.int .i64 0,.int .i64 0]) (xs:=[.int .i64 p,.int .i64 q]) (b:=16) (e:=T.T_croftref5_Run) (T:=T.T_croftref5_Run) (I.at 0) (by decide) rfl (by simp [oneC]) (by omega)
   refine ⟨os,_,q1,fun p' c' h29 hres=>?_⟩
   have I2:=I.step 0 (R:=slR y l.length cap 2 (runV l)) (R':=slR p' (l.length+1) c' 2 (runV (l++[(p,q)]))) ((q2 p' c' h29 hres).conv (fun P=>sl_congr P fun j hj=>runV_snoc l (p,q) hj) fun _ e=>e)
   have I2:Hold h h29 [slR p' (l.length+1) c' 2 (runV (l++[(p,q)])),blkR b1 4 (f4 (.int .i64 0) (.int .i64 0) (.slice none 0 0) (.slice none 0 0)),blkR b0 4 (f4 (.int .i64 o) (.int .i64 P) (.slice fp fn fc) (.slice vp l.length vc))]:=I2
   obtain ⟨w3,S3⟩:=(f4_set (I2.at 2) (.slice p' (l.length+1) c')).2.2
   have I3:=I2.step 2 S3
   refine ⟨w3,?_⟩
   generalize setC h29 ((⟨b0,0,none⟩ : Addr).add 3) (.slice p' (l.length+1) c')=h30 at I3 ⊢
   obtain ⟨k0,k1,k2,k3⟩:=f4_cells (I3.at 2)
   refine ⟨_,k0,_,k1,_,_,_,k2,_,_,_,k3,?_⟩
   obtain ⟨w4,S4⟩:=assign4 (I3.at 1) (.int .i64 o) (.int .i64 P) (.slice fp fn fc) (.slice p' (l.length+1) c')
   have I4:=I3.step 1 S4
   refine ⟨w4,?_⟩
   generalize setCs h30 ⟨b1,0,none⟩ 0 [.int .i64 o,.int .i64 P,.slice fp fn fc,.slice p' (l.length+1) c']=h31 at I4 ⊢
   obtain ⟨k0,k1,k2,k3⟩:=f4_cells (I4.at 1)
   refine ⟨_,k0,_,k1,_,_,_,k2,_,_,_,k3,hK h31 p' c' ?_⟩
   exact (I4.sub (rs':=[slR p' (l.length+1) c' 2 (runV (l++[(p,q)]))]) (.cons_cons _ (.cons _ (.cons _ .slnil)))).toNew
  | succ d ih =>
   intro i y cap hx hi I
   obtain ⟨k0,k1,k2,k3⟩:=f4_cells (I.at 2)
   obtain ⟨a,e1,r1,r2⟩:=row_run R I.u (i:=i) (by omega)
   refine hL8 _ _ _ _ _ _ _ _ _ ⟨_,_,_,k3,iT (decide_eq_true (by omega)) ⟨_,_,_,k3,a,e1,by omega,by omega,_,r1,_,r2,?_⟩⟩
   obtain ⟨os,q1,q2⟩:=sl_appB (zs:=[.int .i64 0,.int .i64 0]) (xs:=[.int .i64 (l.getD i (0,0)).1,.int .i64 (l.getD i (0,0)).2]) (b:=16) (e:=T.T_croftref5_Run) (T:=T.T_croftref5_Run) (I.at 0) (by decide) rfl (by simp [oneC]) (by omega)
   refine ⟨os,_,q1,fun p' c' h29 hres=>?_⟩
   have I2:=I.step 0 (R:=slR y i cap 2 (runV l)) (R':=slR p' (i+1) c' 2 (runV l)) ((q2 p' c' h29 hres).conv (fun P=>sl_congr P fun j hj=>by
    have hj:j<(i+1)*2:=hj
    show (if j<i*2 then runV l j else _)=_
    by_cases hlt:j<i*2
    ·rw [if_pos hlt]
    ·rw [if_neg hlt]
     have:j=i*2∨j=i*2+1:=by omega
     rcases this with rfl | rfl
     ·rw [(runV_at l i).1];simp
     ·rw [(runV_at l i).2];simp) fun _ e=>e)
   rw [show IntKind.wrap .i64 ((i:Int)+1)=((i+1:Nat):Int) by rw [IntKind.wrap_i64];omega]
   exact ih (i+1) p' c' h29 (by omega) I2
 exact key l.length 0 none 0 h6 (by omega) I0
theorem ref5_dies_ok {p:Int} (hl:l.length≤1073741824) (R:Row h vp (l.length*2) (runV l))
  (hK:∀(h':Heap) (vp':Option Addr) (vc':Nat),New h h' (slR vp' (l.filter (·.1≠p)).length vc' 2 (runV (l.filter (·.1≠p))))→K (dv o P fp fn fc vp' (l.filter (·.1≠p)).length vc') h') :
  CallV Tryz.prog w₀ F.croftref5_dies [dv o P fp fn fc vp l.length vc,.int .i64 p] h K:=by
 refine croftref5_dies.call ?_
 try dsimp only
 have N5:=box4 h (.int .i64 o) (.int .i64 P) (.slice fp fn fc) (.slice vp l.length vc) T.T_croftref5_Buddy
 generalize hh5:Array.push h (.cells #[.int .i64 o,.int .i64 P,.slice fp fn fc,.slice vp l.length vc] T.T_croftref5_Buddy)=h5 at N5 ⊢
 have N6:=box4 h5 (.int .i64 0) (.int .i64 0) (.slice none 0 0) (.slice none 0 0) T.T_croftref5_Buddy
 generalize hh6:Array.push h5 (.cells #[.int .i64 0,.int .i64 0,.slice none 0 0,.slice none 0 0] T.T_croftref5_Buddy)=h6 at N6 ⊢
 obtain ⟨b0,eb0⟩ : ∃b0,b0=h.size:=⟨_,rfl⟩
 obtain ⟨b1,eb1⟩ : ∃b1,b1=h5.size:=⟨_,rfl⟩
 rw [←eb0] at N5 ⊢
 rw [←eb1] at N6 ⊢
 intro J3 hJ3 L6 hL6
 have I0:Hold h h6 [slR none ((l.take 0).filter (·.1≠p)).length 0 2 (runV ((l.take 0).filter (·.1≠p))),blkR b1 4 (f4 (.int .i64 0) (.int .i64 0) (.slice none 0 0) (.slice none 0 0)),blkR b0 4 (f4 (.int .i64 o) (.int .i64 P) (.slice fp fn fc) (.slice vp l.length vc))] :=
  (((Hold.nil h).new N5).new N6).new ⟨Upd.refl _ _,sl_nil _ _ _,fun b e=>absurd e (sl_nil_fp b)⟩
 have key:∀(d i:Nat) (y:Option Addr) (cap:Nat) (hx:Heap),i+d=l.length→Hold h hx [slR y ((l.take i).filter (·.1≠p)).length cap 2 (runV ((l.take i).filter (·.1≠p))),blkR b1 4 (f4 (.int .i64 0) (.int .i64 0) (.slice none 0 0) (.slice none 0 0)),blkR b0 4 (f4 (.int .i64 o) (.int .i64 P) (.slice fp fn fc) (.slice vp l.length vc))] →
   L6 [.int .i64 p,.pointer (some ⟨b0,0,none⟩),.pointer (some ⟨b1,0,none⟩),.slice y ((l.take i).filter (·.1≠p)).length cap,.int .i64 (i:Int)] hx:=by
  intro d
  induction d with
  | zero =>
   intro i y cap hx hi I
   have hi:i=l.length:=by omega
   subst hi
   rw [List.take_length] at I ⊢
   obtain ⟨k0,k1,k2,k3⟩:=f4_cells (I.at 2)
   refine hL6 _ _ _ _ _ _ _ _ ⟨_,_,_,k3,iF (decide_eq_false (by omega)) (hJ3 _ _ _ _ _ _ ?_)⟩
   obtain ⟨w3,S3⟩:=(f4_set (I.at 2) (.slice y (l.filter (·.1≠p)).length cap)).2.2
   have I3:=I.step 2 S3
   refine ⟨w3,?_⟩
   generalize setC hx ((⟨b0,0,none⟩ : Addr).add 3) (.slice y (l.filter (·.1≠p)).length cap)=h30 at I3 ⊢
   obtain ⟨k0,k1,k2,k3⟩:=f4_cells (I3.at 2)
   refine ⟨_,k0,_,k1,_,_,_,k2,_,_,_,k3,?_⟩
   obtain ⟨w4,S4⟩:=assign4 (I3.at 1) (.int .i64 o) (.int .i64 P) (.slice fp fn fc) (.slice y (l.filter (·.1≠p)).length cap)
   have I4:=I3.step 1 S4
   refine ⟨w4,?_⟩
   generalize setCs h30 ⟨b1,0,none⟩ 0 [.int .i64 o,.int .i64 P,.slice fp fn fc,.slice y (l.filter (·.1≠p)).length cap]=h31 at I4 ⊢
   obtain ⟨k0,k1,k2,k3⟩:=f4_cells (I4.at 1)
   refine ⟨_,k0,_,k1,_,_,_,k2,_,_,_,k3,hK h31 y cap ?_⟩
   exact (I4.sub (rs':=[slR y (l.filter (·.1≠p)).length cap 2 (runV (l.filter (·.1≠p)))]) (.cons_cons _ (.cons _ (.cons _ .slnil)))).toNew
  | succ d ih =>
   intro i y cap hx hi I
   obtain ⟨k0,k1,k2,k3⟩:=f4_cells (I.at 2)
   obtain ⟨a,e1,r1,r2⟩:=row_run R I.u (i:=i) (by omega)
   have htk:l.take (i+1)=l.take i++[l.getD i (0,0)]:=by
    rw [List.take_add_one,List.getD_eq_getElem?_getD,List.getElem?_eq_getElem (by omega)];rfl
   have hwr:IntKind.wrap .i64 ((i:Int)+1)=((i+1:Nat):Int):=by rw [IntKind.wrap_i64];omega
   refine hL6 _ _ _ _ _ _ _ _ ⟨_,_,_,k3,iT (decide_eq_true (by omega)) fun J7 hJ7=>⟨_,_,_,k3,a,e1,by omega,by omega,_,r1,?_⟩⟩
   by_cases hne:(l.getD i (0,0)).1=p
   ·have ef:(l.take (i+1)).filter (·.1≠p)=(l.take i).filter (·.1≠p):=by rw [htk,List.filter_append];generalize l.getD i (0,0)=e at hne ⊢;simp [hne]
    refine iF (by rw [hne];simp) (hJ7 _ _ _ _ _ _ _ _ ?_)
    rw [hwr]
    have:=ih (i+1) y cap hx (by omega) (by rw [ef];exact I)
    rw [ef] at this
    exact this
   ·have ef:(l.take (i+1)).filter (·.1≠p)=(l.take i).filter (·.1≠p)++[l.getD i (0,0)]:=by rw [htk,List.filter_append];generalize l.getD i (0,0)=e at hne ⊢;simp [hne]
    refine iT (by simpa using hne) ⟨_,_,_,k3,a,e1,by omega,by omega,_,r1,_,r2,?_⟩
    have hfl:((l.take i).filter (·.1≠p)).length≤l.length:=Nat.le_trans (List.length_filter_le _ _) (by simp;omega)
    obtain ⟨os,q1,q2⟩:=sl_appB (zs:=[.int .i64 0,.int .i64 0]) (xs:=[.int .i64 (l.getD i (0,0)).1,.int .i64 (l.getD i (0,0)).2]) (b:=16) (e:=T.T_croftref5_Run) (T:=T.T_croftref5_Run) (I.at 0) (by decide) rfl (by simp [oneC]) (by omega)
    refine ⟨os,_,q1,fun p' c' h29 hres=>hJ7 _ _ _ _ _ _ _ _ ?_⟩
    have I2:=I.step 0 (R:=slR y ((l.take i).filter (·.1≠p)).length cap 2 (runV ((l.take i).filter (·.1≠p)))) (R':=slR p' (((l.take i).filter (·.1≠p)).length+1) c' 2 (runV ((l.take i).filter (·.1≠p)++[l.getD i (0,0)])))
     ((q2 p' c' h29 hres).conv (fun P=>sl_congr P fun j hj=>runV_snoc _ (l.getD i (0,0)) hj) fun _ e=>e)
    rw [hwr]
    have:=ih (i+1) p' c' h29 (by omega) (by rw [ef,List.length_append];exact I2)
    rw [ef,List.length_append] at this
    exact this
 exact key l.length 0 none 0 h6 (by omega) I0
end
end Go.Proofs.YteemmpkhdllapaaGreatDoor
namespace Go.Proofs.YteemmpkhdllapaaGreatDoor
open Go.V Classical
section
variable {w₀:World} {h:Heap} {K:Value→Heap→Prop} {fp vp:Option Addr} {fn fc vc:Nat} {l:List (Int×Int)}
theorem ref5_Come_ok {on Pn:Nat} (ho:on≤8) (hP:Pn≤1024) (hl:l.length≤1073741824) (R:Row h vp (l.length*2) (runV l))
  (hK:∀(h':Heap) (vp':Option Addr) (vc':Nat),New h h' (slR vp' (l.length+1) vc' 2 (runV (l++[((Pn:Int),(on:Int))])))→K (dv on ((Pn+2 ^ on:Nat):Int) fp fn fc vp' (l.length+1) vc') h') :
  CallV Tryz.prog w₀ F.croftref5_Come [dv on Pn fp fn fc vp l.length vc] h K:=by
 refine croftref5_Come.call ?_
 try dsimp only
 have hb:=pow8 ho
 have N5:=box4 h (.int .i64 (on:Int)) (.int .i64 (Pn:Int)) (.slice fp fn fc) (.slice vp l.length vc) T.T_croftref5_Buddy
 generalize hh5:Array.push h (.cells #[.int .i64 (on:Int),.int .i64 (Pn:Int),.slice fp fn fc,.slice vp l.length vc] T.T_croftref5_Buddy)=h5 at N5 ⊢
 have N6:=box4 h5 (.int .i64 0) (.int .i64 0) (.slice none 0 0) (.slice none 0 0) T.T_croftref5_Buddy
 generalize hh6:Array.push h5 (.cells #[.int .i64 0,.int .i64 0,.slice none 0 0,.slice none 0 0] T.T_croftref5_Buddy)=h6 at N6 ⊢
 obtain ⟨b0,eb0⟩ : ∃b0,b0=h.size:=⟨_,rfl⟩
 obtain ⟨b1,eb1⟩ : ∃b1,b1=h5.size:=⟨_,rfl⟩
 rw [←eb0] at N5 ⊢
 rw [←eb1] at N6 ⊢
 have I0:=((Hold.nil h).new N5).new N6
 obtain ⟨k0,k1,k2,k3⟩:=f4_cells (I0.at 1)
 refine ⟨_,k1,_,k0,?_⟩
 have ew:IntKind.wrap .u64 (on:Int)=(on:Int):=by rw [IntKind.wrap_u64];omega
 have e1:IntKind.wrap .i64 ((Pn:Int)+((2 ^ on:Nat):Int))=((Pn+2 ^ on:Nat):Int):=by rw [IntKind.wrap_i64];omega
 rw [ew,shl1 ho,e1]
 obtain ⟨w3,S3⟩:=(f4_set (I0.at 1) (.int .i64 ((Pn+2 ^ on:Nat):Int))).1
 have I1:=I0.step 1 S3
 refine ⟨by omega,w3,?_⟩
 generalize setC h6 ((⟨b0,0,none⟩ : Addr).add 1) (.int .i64 ((Pn+2 ^ on:Nat):Int))=h7 at I1 ⊢
 obtain ⟨k0,k1,k2,k3⟩:=f4_cells (I1.at 1)
 refine ⟨_,k0,_,k1,_,_,_,k2,_,_,_,k3,_,k0,?_⟩
 refine ref5_lives_ok hl (R.upd I1.u fun _ _=>id) fun h8 vp' vc' N8=>⟨_,_,_,_,_,_,_,_,rfl,?_⟩
 have I2:=I1.new N8
 have I2:Hold h h8 [slR vp' (l.length+1) vc' 2 (runV (l++[((Pn:Int),(on:Int))])),blkR b1 4 (f4 (.int .i64 0) (.int .i64 0) (.slice none 0 0) (.slice none 0 0)),blkR b0 4 (f4 (.int .i64 (on:Int)) (.int .i64 ((Pn+2 ^ on:Nat):Int)) (.slice fp fn fc) (.slice vp l.length vc))]:=I2
 obtain ⟨w4,S4⟩:=assign4 (I2.at 1) (.int .i64 (on:Int)) (.int .i64 ((Pn+2 ^ on:Nat):Int)) (.slice fp fn fc) (.slice vp' (l.length+1) vc')
 have I4:=I2.step 1 S4
 refine ⟨w4,?_⟩
 generalize setCs h8 ⟨b1,0,none⟩ 0 [.int .i64 (on:Int),.int .i64 ((Pn+2 ^ on:Nat):Int),.slice fp fn fc,.slice vp' (l.length+1) vc']=h9 at I4 ⊢
 obtain ⟨k0,k1,k2,k3⟩:=f4_cells (I4.at 1)
 refine ⟨_,k0,_,k1,_,_,_,k2,_,_,_,k3,hK h9 vp' vc' ?_⟩
 exact (I4.sub (rs':=[slR vp' (l.length+1) vc' 2 (runV (l++[((Pn:Int),(on:Int))]))]) (.cons_cons _ (.cons _ (.cons _ .slnil)))).toNew
theorem ref5_Go_ok {on Pn:Nat} (ho:on≤8) (hP:Pn≤1024) (h2:2 ^ on≤Pn) (hl:l.length≤1073741824) (R:Row h vp (l.length*2) (runV l))
  (hK:∀(h':Heap) (vp':Option Addr) (vc':Nat),New h h' (slR vp' (l.filter (·.1≠((Pn-2 ^ on:Nat):Int))).length vc' 2 (runV (l.filter (·.1≠((Pn-2 ^ on:Nat):Int))))) →
   K (dv on ((Pn-2 ^ on:Nat):Int) fp fn fc vp' (l.filter (·.1≠((Pn-2 ^ on:Nat):Int))).length vc') h') :
  CallV Tryz.prog w₀ F.croftref5_Go [dv on Pn fp fn fc vp l.length vc] h K:=by
 refine croftref5_Go.call ?_
 try dsimp only
 have hb:=pow8 ho
 have N5:=box4 h (.int .i64 (on:Int)) (.int .i64 (Pn:Int)) (.slice fp fn fc) (.slice vp l.length vc) T.T_croftref5_Buddy
 generalize hh5:Array.push h (.cells #[.int .i64 (on:Int),.int .i64 (Pn:Int),.slice fp fn fc,.slice vp l.length vc] T.T_croftref5_Buddy)=h5 at N5 ⊢
 have N6:=box4 h5 (.int .i64 0) (.int .i64 0) (.slice none 0 0) (.slice none 0 0) T.T_croftref5_Buddy
 generalize hh6:Array.push h5 (.cells #[.int .i64 0,.int .i64 0,.slice none 0 0,.slice none 0 0] T.T_croftref5_Buddy)=h6 at N6 ⊢
 obtain ⟨b0,eb0⟩ : ∃b0,b0=h.size:=⟨_,rfl⟩
 obtain ⟨b1,eb1⟩ : ∃b1,b1=h5.size:=⟨_,rfl⟩
 rw [←eb0] at N5 ⊢
 rw [←eb1] at N6 ⊢
 have I0:=((Hold.nil h).new N5).new N6
 obtain ⟨k0,k1,k2,k3⟩:=f4_cells (I0.at 1)
 refine ⟨_,k0,_,k1,_,_,_,k2,_,_,_,k3,?_⟩
 refine ref5_Top_ok ho hP fun h7 u7=>⟨_,rfl,?_⟩
 have eP:(if Pn=0 then (-1:Int) else (Pn:Int)-(2 ^ on:Nat))=((Pn-2 ^ on:Nat):Int):=by rw [if_neg (by omega)];omega
 rw [eP]
 have I1:=I0.quiet u7
 obtain ⟨k0,k1,k2,k3⟩:=f4_cells (I1.at 1)
 refine ⟨_,k0,_,k1,_,_,_,k2,_,_,_,k3,?_⟩
 refine ref5_dies_ok hl (R.upd I1.u fun _ _=>id) fun h8 vp' vc' N8=>⟨_,_,_,_,_,_,_,_,rfl,?_⟩
 generalize hlf:l.filter (·.1≠((Pn-2 ^ on:Nat):Int))=lf at N8 hK ⊢
 have I2:=I1.new N8
 have I2:Hold h h8 [slR vp' lf.length vc' 2 (runV lf),blkR b1 4 (f4 (.int .i64 0) (.int .i64 0) (.slice none 0 0) (.slice none 0 0)),blkR b0 4 (f4 (.int .i64 (on:Int)) (.int .i64 (Pn:Int)) (.slice fp fn fc) (.slice vp l.length vc))]:=I2
 obtain ⟨w4,S4⟩:=assign4 (I2.at 2) (.int .i64 (on:Int)) (.int .i64 (Pn:Int)) (.slice fp fn fc) (.slice vp' lf.length vc')
 have I4:=I2.step 2 S4
 refine ⟨w4,?_⟩
 generalize setCs h8 ⟨b0,0,none⟩ 0 [.int .i64 (on:Int),.int .i64 (Pn:Int),.slice fp fn fc,.slice vp' lf.length vc']=h9 at I4 ⊢
 obtain ⟨w5,S5⟩:=(f4_set (I4.at 2) (.int .i64 ((Pn-2 ^ on:Nat):Int))).1
 have I5:=I4.step 2 S5
 refine ⟨w5,?_⟩
 generalize setC h9 ((⟨b0,0,none⟩ : Addr).add 1) (.int .i64 ((Pn-2 ^ on:Nat):Int))=h10 at I5 ⊢
 obtain ⟨k0,k1,k2,k3⟩:=f4_cells (I5.at 2)
 refine ⟨_,k0,_,k1,_,_,_,k2,_,_,_,k3,?_⟩
 obtain ⟨w6,S6⟩:=assign4 (I5.at 1) (.int .i64 (on:Int)) (.int .i64 ((Pn-2 ^ on:Nat):Int)) (.slice fp fn fc) (.slice vp' lf.length vc')
 have I6:=I5.step 1 S6
 refine ⟨w6,?_⟩
 generalize setCs h10 ⟨b1,0,none⟩ 0 [.int .i64 (on:Int),.int .i64 ((Pn-2 ^ on:Nat):Int),.slice fp fn fc,.slice vp' lf.length vc']=h11 at I6 ⊢
 obtain ⟨k0,k1,k2,k3⟩:=f4_cells (I6.at 1)
 refine ⟨_,k0,_,k1,_,_,_,k2,_,_,_,k3,hK h11 vp' vc' ?_⟩
 exact (I6.sub (rs':=[slR vp' lf.length vc' 2 (runV lf)]) (.cons_cons _ (.cons _ (.cons _ .slnil)))).toNew
theorem ref5_New_ok {on:Nat} (ho:on≤8)
  (hK:∀(h':Heap) (fp:Option Addr) (fc:Nat),New h h' (slR fp (on+1) fc 1 fun _=>.slice none 0 0)→K (dv on 0 fp (on+1) fc none 0 0) h') :
  CallV Tryz.prog w₀ F.croftref5_New [.int .i64 (on:Int)] h K:=by
 refine croftref5_New.call ?_
 try dsimp only
 have N5:=box4 h (.int .i64 0) (.int .i64 0) (.slice none 0 0) (.slice none 0 0) T.T_croftref5_Buddy
 generalize hh5:Array.push h (.cells #[.int .i64 0,.int .i64 0,.slice none 0 0,.slice none 0 0] T.T_croftref5_Buddy)=h5 at N5 ⊢
 have N6:=box4 h5 (.int .i64 0) (.int .i64 0) (.slice none 0 0) (.slice none 0 0) T.T_croftref5_Buddy
 generalize hh6:Array.push h5 (.cells #[.int .i64 0,.int .i64 0,.slice none 0 0,.slice none 0 0] T.T_croftref5_Buddy)=h6 at N6 ⊢
 obtain ⟨b0,eb0⟩ : ∃b0,b0=h.size:=⟨_,rfl⟩
 obtain ⟨b1,eb1⟩ : ∃b1,b1=h5.size:=⟨_,rfl⟩
 rw [←eb0] at N5 ⊢
 rw [←eb1] at N6 ⊢
 have I0:=((Hold.nil h).new N5).new N6
 obtain ⟨w4,S4⟩:=assign4 (I0.at 0) (.int .i64 (on:Int)) (.int .i64 0) (.slice none 0 0) (.slice none 0 0)
 have I1:=I0.step 0 S4
 refine ⟨w4,?_⟩
 generalize setCs h6 ⟨b1,0,none⟩ 0 [.int .i64 (on:Int),.int .i64 0,.slice none 0 0,.slice none 0 0]=h7 at I1 ⊢
 intro J4 hJ4 L6 hL6
 have I2:Hold h h7 [slR none 0 0 1 (fun _=>.slice none 0 0),blkR b1 4 (f4 (.int .i64 (on:Int)) (.int .i64 0) (.slice none 0 0) (.slice none 0 0)),blkR b0 4 (f4 (.int .i64 0) (.int .i64 0) (.slice none 0 0) (.slice none 0 0))] :=
  I1.new ⟨Upd.refl _ _,sl_nil _ _ _,fun b e=>absurd e (sl_nil_fp b)⟩
 have key:∀(d i:Nat) (y:Option Addr) (cap:Nat) (hx:Heap),i+d=on+1→Hold h hx [slR y i cap 1 (fun _=>.slice none 0 0),blkR b1 4 (f4 (.int .i64 (on:Int)) (.int .i64 0) (.slice y i cap) (.slice none 0 0)),blkR b0 4 (f4 (.int .i64 0) (.int .i64 0) (.slice none 0 0) (.slice none 0 0))] →
   L6 [.int .i64 (on:Int),.pointer (some ⟨b0,0,none⟩),.pointer (some ⟨b1,0,none⟩),.int .i64 (i:Int)] hx:=by
  intro d
  induction d with
  | zero =>
   intro i y cap hx hi I
   have hi:i=on+1:=by omega
   subst hi
   obtain ⟨k0,k1,k2,k3⟩:=f4_cells (I.at 1)
   refine hL6 _ _ _ _ _ (iF (decide_eq_false (by omega)) (hJ4 _ _ _ ⟨_,k0,_,k1,_,_,_,k2,_,_,_,k3,?_⟩))
   obtain ⟨w5,S5⟩:=assign4 (I.at 2) (.int .i64 (on:Int)) (.int .i64 0) (.slice y (on+1) cap) (.slice none 0 0)
   have I5:=I.step 2 S5
   refine ⟨w5,?_⟩
   generalize setCs hx ⟨b0,0,none⟩ 0 [.int .i64 (on:Int),.int .i64 0,.slice y (on+1) cap,.slice none 0 0]=h9 at I5 ⊢
   obtain ⟨k0,k1,k2,k3⟩:=f4_cells (I5.at 2)
   refine ⟨_,k0,_,k1,_,_,_,k2,_,_,_,k3,hK h9 y cap ?_⟩
   exact (I5.sub (rs':=[slR y (on+1) cap 1 (fun _=>.slice none 0 0)]) (.cons_cons _ (.cons _ (.cons _ .slnil)))).toNew
  | succ d ih =>
   intro i y cap hx hi I
   obtain ⟨k0,k1,k2,k3⟩:=f4_cells (I.at 1)
   refine hL6 _ _ _ _ _ (iT (decide_eq_true (by omega)) ⟨_,_,_,k2,?_⟩)
   obtain ⟨os,q1,q2⟩:=sl_app1 (zs:=[.slice none 0 0]) (v:=.slice none 0 0) (b:=24) (e:=T.T_sl_int) (T:=T.T_sl_int) (I.at 0) rfl rfl (by omega)
   refine ⟨os,_,q1,fun p' c' h29 hres=>?_⟩
   have I3:=I.step 0 (R:=slR y i cap 1 (fun _=>.slice none 0 0)) (R':=slR p' (i+1) c' 1 (fun _=>.slice none 0 0)) ((q2 p' c' h29 hres).conv (fun P=>sl_congr P fun j hj=>by split<;>rfl) fun _ e=>e)
   obtain ⟨w5,S5⟩:=(f4_set (I3.at 1) (.slice p' (i+1) c')).2.1
   have I5:=I3.step 1 S5
   refine ⟨w5,?_⟩
   rw [show IntKind.wrap .i64 ((i:Int)+1)=((i+1:Nat):Int) by rw [IntKind.wrap_i64];omega]
   exact ih (i+1) p' c' _ (by omega) I5
 exact key (on+1) 0 none 0 h7 (by omega) I2
end
end Go.Proofs.YteemmpkhdllapaaGreatDoor
namespace Go.Proofs.YteemmpkhdllapaaGreatDoor
open Go.V Classical
def growS (c:Cfg) (st:Sto):Sto:=⟨st.n+1,fun o=>if o<st.n*c.size then st.M o else 0⟩
theorem size_o {c:Cfg} {x:BU} (hx:BU.Ok c x):c.size=4096*2 ^ x.m.o:=by
 have:=hx.o
 unfold Cfg.size
 rw [show c.order.toNat=x.m.o by omega]
section
variable {S:Nat→Prop} {c:Cfg} {x:BU} {F:Nat→List Nat} {L:List PBk}
theorem rd_grow {st:Sto} {p:Int} (hp:c.base≤p) (h:(p-c.base).toNat+8≤st.n*c.size):(growS c st).rd c p=st.rd c p:=by
 unfold Sto.rd
 refine wrd_congr fun i hi=>?_
 simp only [growS]
 rw [if_pos (by omega)]
theorem seg_sto {st st':Sto} {N:Nat} {l:List Int} {b e:Int} (hc:∀p∈l,Cl c N p) (h:∀q:Nat,q<N→st'.rd c (adr c q)=st.rd c (adr c q)∧st'.rd c (adr c q+8)=st.rd c (adr c q+8)) (H:Seg c st b l e):Seg c st' b l e :=
 seg_congr (fun p hp=>by obtain ⟨q,hq,rfl⟩:=hc p hp;exact h q hq) H
theorem grow_eq {m:MS} (h:m.n+2 ^ m.o≤1024):mGrow m={ o:=m.o,n:=m.n+2 ^ m.o,pg:=fun x=>if x<m.n then m.pg x else plainP (if x=m.n then 2 else 3) m.o,bt:=m.bt }:=by
 unfold mGrow;rw [if_neg (by omega)]
theorem grow_b (H:BU.Ok c x) (h:x.m.n+2 ^ x.m.o≤1024) (st':Sto):BU.Ok c { x with st:=st',m:=mGrow x.m }:=by
 refine ⟨mGrow_ok H.m,by rw [grow_eq h];exact H.o,?_⟩
 rw [grow_eq h]
 intro i hi h2
 simp only [] at hi h2 ⊢
 by_cases hl:i<x.m.n
 ·rw [if_pos hl] at h2 ⊢;exact H.b i hl h2
 ·rw [if_neg hl] at h2 ⊢
  by_cases e:i=x.m.n
  ·exact ⟨x.m.o,rfl,Nat.le_refl _,by rw [e];exact H.m.al⟩
  ·rw [if_neg e] at h2
   simp [plainP] at h2
theorem sim_come (g:c.Good) (R:RepS S c x F L []) (e:x.m.n=x.st.n*2 ^ x.m.o) (h:x.m.n+2 ^ x.m.o≤1024) :
  RepS S c ⟨growS c x.st,x.hd,mGrow x.m⟩ F ((x.m.n,x.m.o)::L) []∧(mGrow x.m).o=x.m.o∧(mGrow x.m).n=x.m.n+2 ^ x.m.o ∧
  (∀b∈L,∀o,4096*b.1≤o→o<4096*(b.1+2 ^ b.2)→(growS c x.st).M o=x.st.M o)∧PK L x.m (mGrow x.m):=by
 have ok':=grow_b R.ok h (growS c x.st)
 have eg:=grow_eq h
 have hs:=size_o R.ok
 have hr:=R.rm.r
 have h0:=Nat.two_pow_pos x.m.o
 rw [eg] at ok' ⊢
 refine ⟨⟨ok',⟨R.rm.b,h,?_⟩,?_,R.nb,fun k hk=>?_,fun k p hk hp q hq=>?_,fun b hb hS q hq=>?_,fun k p hk hp hn=>?_,fun q hq=>⟨List.mem_cons_of_mem _ (R.ps q hq).1,?_⟩⟩,rfl,rfl,fun b hb o h1 h2=>?_,fun b hb q hq=>?_⟩
 ·show (x.m.n+2 ^ x.m.o)*4096≤(x.st.n+1)*c.size
  rw [hs,e,←Nat.succ_mul,Nat.mul_assoc,Nat.mul_comm (2 ^ x.m.o) 4096]
  exact Nat.le_refl _
 ·exact Tile.grow R.ok.m.al R.til
 ·have L0:=R.ls k hk
  refine ⟨L0.hd,L0.nd,fun p hp=>?_,seg_sto L0.cl (fun q hq=>?_) L0.sg⟩
  ·obtain ⟨q,hq,e⟩:=L0.cl p hp
   exact ⟨q,by show q<x.m.n+2 ^ x.m.o;omega,e⟩
  ·have e1:(adr c q-c.base).toNat=4096*q:=by unfold adr;omega
   have e2:(adr c q+8-c.base).toNat=4096*q+8:=by unfold adr;omega
   exact ⟨rd_grow (by unfold adr;omega) (by rw [e1];omega),rd_grow (by unfold adr;omega) (by rw [e2];omega)⟩
 ·have hq2:q<x.m.n:=by have:=(R.al hk hp).2.1;have:=hq.2;simp only [] at this;omega
  show (if q<x.m.n then x.m.pg q else _)=_
  rw [if_pos hq2];exact R.pf k p hk hp q hq
 ·show (if q<x.m.n then x.m.pg q else _)=_
  rcases List.mem_cons.1 hb with rfl | hb
  ·have hq:x.m.n≤q:=hq.1
   rw [if_neg (by omega)]
  ·have hq2:q<x.m.n:=by have:=(R.til.al b (List.mem_append_right _ (List.mem_append_left _ hb))).2.2;have:=hq.2;omega
   rw [if_pos hq2];exact R.pl b hb hS q hq
 ·have hk:k<x.m.o:=hk
  by_cases hl:p<x.m.n
  ·exact R.bt k p hk hp hl
  ·have f1:∀q,x.m.n≤q→q∉F k:=fun q hq hm=>by have:=(R.al (Nat.le_of_lt hk) hm).2.2;omega
   have hb1:x.m.n≤bud p k:=by
    refine Nat.le_of_not_lt fun hlt=>?_
    have:=bud_lt hk R.ok.m.al (bud_facts hp).1 hlt
    rw [bud_bud hp] at this
    omega
   have e1:x.m.bt k (p / 2 ^ (k+1))=false:=by
    refine Bool.eq_false_iff.2 fun hbt=>?_
    have h1:=R.ok.m.bi k _ hk hbt
    have hd:p / 2 ^ (k+1)≥x.m.n / 2 ^ (k+1):=Nat.div_le_div_right (by omega)
    omega
   show x.m.bt k (p / 2 ^ (k+1))=_
   rw [e1]
   simp [f1 p (by omega),f1 _ hb1]
 ·show (if q<x.m.n then x.m.pg q else _) 0=_
  rw [if_pos (R.sn hq)];exact (R.ps q hq).2
 ·show (if o<x.st.n*c.size then x.st.M o else 0)=_
  have hal:=(R.til.al b (List.mem_append_right _ (List.mem_append_left _ hb))).2.2
  rw [if_pos]
  have:4096*(b.1+2 ^ b.2)≤4096*x.m.n:=Nat.mul_le_mul_left _ hal
  omega
 ·show (if q<x.m.n then x.m.pg q else _)=_
  have hq2:q<x.m.n:=by have:=(R.til.al b (List.mem_append_right _ (List.mem_append_left _ hb))).2.2;have:=hq.2;omega
  rw [if_pos hq2]
theorem shrink_b (H:BU.Ok c x) (h:2 ^ x.m.o≤x.m.n) (st':Sto):BU.Ok c { x with st:=st',m:=mShrink x.m 1 }:=by
 have h0:=Nat.two_pow_pos x.m.o
 refine ⟨mShrink_ok H.m ?_,H.o,fun i hi h2=>?_⟩
 ·exact (Nat.le_div_iff_mul_le h0).2 (by omega)
 ·simp only [mShrink] at hi h2 ⊢
  exact H.b i (by omega) h2
theorem sim_goes (R:RepS S c x F ((x.m.n-2 ^ x.m.o,x.m.o)::L) []) (e:x.m.n=x.st.n*2 ^ x.m.o) (h:2 ^ x.m.o≤x.m.n) (hS:¬S (x.m.n-2 ^ x.m.o)) :
  RepS S c ⟨⟨x.st.n-1,x.st.M⟩,x.hd,mShrink x.m 1⟩ F L []∧(mShrink x.m 1).o=x.m.o∧(mShrink x.m 1).n=x.m.n-2 ^ x.m.o:=by
 have ok':=shrink_b R.ok h ⟨x.st.n-1,x.st.M⟩
 have hs:=size_o R.ok
 have en:(mShrink x.m 1).n=x.m.n-2 ^ x.m.o:=by simp [mShrink]
 have hn1:1≤x.st.n:=by
  rcases Nat.eq_zero_or_pos x.st.n with h1 | h1
  ·rw [h1] at e;have:=Nat.two_pow_pos x.m.o;omega
  ·exact h1
 have T:Tile x.m.o (x.m.n-2 ^ x.m.o) (L++blks x.m.o F):=by
  have:=R.til
  generalize hq:x.m.n-2 ^ x.m.o=q at this ⊢
  rw [show x.m.n=q+2 ^ x.m.o by omega] at this
  exact Tile.less this
 have hF:∀k p,k≤x.m.o→p∈F k→p+2 ^ k≤x.m.n-2 ^ x.m.o:=fun k p hk hp=>(T.al _ (List.mem_append_right _ (mem_blks.2 ⟨hk,hp⟩))).2.2
 refine ⟨⟨ok',⟨R.rm.b,by rw [en];have:=R.rm.n;omega,?_⟩,?_,R.nb,fun k hk=>?_,R.pf,fun b hb=>R.pl b (List.mem_cons_of_mem _ hb),fun k p hk hp hn=>?_,fun q hq=>⟨(List.mem_cons.1 (R.ps q hq).1).resolve_left fun e=>hS ((Prod.mk.inj e).1▸hq),(R.ps q hq).2⟩⟩,rfl,en⟩
 ·show (mShrink x.m 1).n*4096≤(x.st.n-1)*c.size
  have:x.m.n-2 ^ x.m.o=(x.st.n-1)*2 ^ x.m.o:=by rw [e,Nat.sub_mul,Nat.one_mul]
  rw [en,hs,this,Nat.mul_assoc,Nat.mul_comm (2 ^ x.m.o) 4096]
  exact Nat.le_refl _
 ·show Tile x.m.o (mShrink x.m 1).n _
  rw [en];exact T
 ·have L0:=R.ls k hk
  refine ⟨L0.hd,L0.nd,fun p hp=>?_,seg_congr (st:=x.st) (st':=⟨x.st.n-1,x.st.M⟩) (fun p hp=>⟨rfl,rfl⟩) L0.sg⟩
  obtain ⟨q,hq,rfl⟩:=List.mem_map.1 hp
  have:=hF k q hk hq
  have h0:=Nat.two_pow_pos k
  exact ⟨q,by rw [en];omega,rfl⟩
 ·have hk:k<x.m.o:=hk
  have hn:p<(mShrink x.m 1).n:=hn
  rw [en] at hn
  show cutB (x.m.n-1*2 ^ x.m.o) x.m.bt k (p / 2 ^ (k+1))=_
  rw [Nat.one_mul]
  have al:(x.m.n-2 ^ x.m.o) % 2 ^ x.m.o=0:=by
   have:x.m.n-2 ^ x.m.o=(x.st.n-1)*2 ^ x.m.o:=by rw [e,Nat.sub_mul,Nat.one_mul]
   rw [this];exact Nat.mul_mod_left _ _
  have hlt:p / 2 ^ (k+1)<(x.m.n-2 ^ x.m.o) / 2 ^ (k+1):=by
   have hz:=Nat.two_pow_pos (k+1)
   have hd:2 ^ (k+1) ∣ (x.m.n-2 ^ x.m.o):=Nat.dvd_trans (Nat.pow_dvd_pow 2 (by omega)) (Nat.dvd_of_mod_eq_zero al)
   obtain ⟨t,ht⟩:=hd
   rw [ht,Nat.mul_div_cancel_left _ hz]
   rw [ht] at hn
   exact Nat.div_lt_of_lt_mul hn
  unfold cutB
  rw [decide_eq_true hlt,Bool.true_and]
  exact R.bt k p hk hp (by omega)
end
section
variable {h h':Heap} {c:Cfg} {W:BW} {x:BU}
theorem bu_liftZ (H:(buR c W x).P h) {Z':Nat→Prop} {st':Sto} (S:Stp h h' (spR W.s c W.Z x.st) (spR W.s c Z' st')):Stp h h' (buR c W x) (buR c { W with Z:=Z' } ⟨st',x.hd,x.m⟩) :=
 ((S.right H.2.1.1).left H.2.1).right H
theorem bu_liftw (H:(buR c W x).P h) {m':MS} {w':MW} (ho:m'.o=x.m.o) (S:Stp h h' (mapR W.mb x.m W.w) (mapR W.mb m' w')):Stp h h' (buR c W x) (buR c { W with w:=w' } ⟨x.st,x.hd,m'⟩):=by
 have T:=(S.right H.2.1).right H
 unfold buR
 simp only [ho]
 exact T
end
end Go.Proofs.YteemmpkhdllapaaGreatDoor
