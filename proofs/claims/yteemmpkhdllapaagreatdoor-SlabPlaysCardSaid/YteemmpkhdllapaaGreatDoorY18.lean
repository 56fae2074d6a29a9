/- Texts of this proof, some in one. No condition. -/
import Derived.Test.YteemmpkhdllapaaGreatDoorY17
set_option linter.unusedSimpArgs false
set_option linter.unusedVariables false
namespace Go.Proofs.YteemmpkhdllapaaGreatDoor
open Go.V Classical
section
variable {w₀:World} {h h':Heap} {c:Cfg} {M:RW7} {wb:Nat} {Q:SL} {x:BU} {hp:Nat→Int} {D D':DS} {K:Value→Heap→Prop} {d:List Value}
theorem fillG {p k a n:Nat} (G:GI c x hp D) (hb:(p,k)∈D.V) (h1:4096*p≤a) (h2:a+n≤4096*(p+2 ^ k)) (hdj:∀q∈D.ps,∀j∈D.fr q,a+n≤4096*q+j*wdt (D.cl q)∨4096*q+j*wdt (D.cl q)+8≤a)
  {v:Int} (hv:0≤v∧v<256) (H:(w7R c wb d Q x hp).P h) (hK:∀st' h',GI c (x.ws st') hp D→Stp h h' (w7R c wb d Q x hp) (w7R c wb d Q (x.ws st') hp)→K (.int .i64 0) h') :
  CallV Tryz.prog w₀ F.mem_Space_Fill [gptr Q.pl.B.s,.int .u64 (c.base+(a:Int)),.int .u64 (n:Int),.int .u8 v] h K:=by
 have I:=G.i
 have hbu:=bu_bounds I.w.g I.w.ok.m
 have n1:=I.w.ok.m.n1
 have hsp:=I.ki.span
 have al:=I.w.alb hb
 simp only [] at al
 have e1:(c.base+(a:Int)-c.base).toNat=a:=by omega
 refine mem_Fill_ok (by omega) (by omega) hv (s_sp (w_s H)) (fun _ h1' u1 H1=>?_) fun hn=>absurd (.inr ⟨by omega,by omega⟩) hn
 rw [e1,Int.toNat_natCast] at H1
 let st':Sto:=⟨x.st.n,fun o=>if a≤o∧o<a+n then v else x.st.M o⟩
 have hM:∀o,(o<a∨a+n≤o)→st'.M o=x.st.M o:=fun o ho=>by
  show (if a≤o∧o<a+n then v else x.st.M o)=_
  rw [if_neg (by omega)]
 have S1:=s_sto (st':=st') (w_s H) ⟨u1,H1,fun b e=>.inl e⟩
 have W:WS (fun p=>p∈D.ps) c (x.ws st') D.fl D.V:=⟨I.w.rep.fill hb rfl fun o ho=>hM o (by
  rcases ho with ho | ho
  ·exact .inl (Nat.lt_of_lt_of_le ho h1)
  ·exact .inr (Nat.le_trans h2 ho)),I.w.e,I.w.g⟩
 refine hK st' h1' ⟨⟨W,I.k8,I.nd,I.pn,I.hd,I.pg,I.ch,I.no,fun q hq=>Lnk_congr (fun j hj=>?_) (I.lk q hq)⟩,G.nd,G.n⟩ (w_lift H (.refl Q) S1)
 have hd:=hdj q hq j hj
 have e2:(adr c q+((j*wdt (D.cl q):Nat):Int)-c.base).toNat=4096*q+j*wdt (D.cl q):=by unfold adr;omega
 unfold Sto.rd
 rw [e2]
 exact wrd_congr fun i hi=>hM _ (by omega)
theorem cell_one {p q i j:Nat} (G:GI c x hp D) (h1:p∈D.ps) (h2:i<cnt (D.cl p)) (g1:q∈D.ps) (g2:j<cnt (D.cl q)) (e:4096*p+i*wdt (D.cl p)=4096*q+j*wdt (D.cl q)):q=p∧j=i:=by
 have c1:=(cell_in (G.i.k8 p h1) h2).1
 have c2:=(cell_in (G.i.k8 q g1) g2).1
 have w1:=wdt_pos (D.cl p)
 have w2:=wdt_pos (D.cl q)
 have ep:q=p:=by omega
 subst ep
 exact ⟨rfl,(Nat.mul_right_cancel w1 (by omega:i*wdt (D.cl q)=j*wdt (D.cl q))).symm⟩
set_option maxHeartbeats 1000000 in
theorem fill8_ok {v:Int} (hv:0≤v∧v<256) (G:GI c x hp D) (H:(wpR c wb Q M x hp D).P h) (hK:∀h' st',GI c (x.ws st') hp D→Stp h h' (wpR c wb Q M x hp D) (wpR c wb Q M (x.ws st') hp D)→K (.bool true) h') :
  CallV Tryz.prog w₀ F.croftlaw7_world_fill [gptr wb,.int .u8 v] h K:=by
 refine croftlaw7_world_fill.call fun J1 hJ1 L16 hL16=>?_
 try dsimp only
 have p7:=G.p7
 have tl:=p7.len
 have n1:=G.i.w.ok.m.n1
 have lV:=G.i.w.lenV
 have hn:=G.n
 have cells:∀(st:Sto) (hx:Heap),GI c (x.ws st) hp D→Go.V.Own h hx (wpR c wb Q M x hp D) [wpR c wb Q M (x.ws st) hp D]→J1 [gptr wb,.int .u8 v] hx:=by
  intro st hx G0 I0
  refine hJ1 _ _ _ fun J2 hJ2 L3 hL3=>?_
  have loop:∀(d i:Nat) (st:Sto) (hx:Heap),i+d=D.ps.length→GI c (x.ws st) hp D→Go.V.Own h hx (wpR c wb Q M x hp D) [wpR c wb Q M (x.ws st) hp D]→L3 [gptr wb,.int .u8 v,.int .i64 (i:Int)] hx:=by
   intro d
   induction d with
   | zero =>
    intro i st hx hi G I
    exact hL3 _ _ _ _ ⟨_,rfl,_,_,_,w_cd (I.at 0:(wpR c wb Q M (x.ws st) hp D).P hx).1 12,iF (decide_eq_false (by omega)) (hJ2 _ (hK hx st G I.stp))⟩
   | succ d ih =>
    intro i st hx hi G I
    have H1:(wpR c wb Q M (x.ws st) hp D).P hx:=I.at 0
    obtain ⟨b,eb,q0,q1,q2⟩:=ce_cells (H1.2.1.2.1.2.1.1:(outR7 M D.cl D.fr D.ps).P hx) (i:=i) (by omega)
    have hm:=getD_in (l:=D.ps) (i:=i) (by omega)
    refine hL3 _ _ _ _ ⟨_,rfl,_,_,_,w_cd H1.1 12,iT (decide_eq_true (by omega)) fun J4 hJ4=>⟨_,rfl,_,_,_,w_cd H1.1 12,_,eb,by omega,by omega,_,q0,_,q1,_,_,_,q2,?_⟩⟩
    clear q0 q1 q2
    obtain ⟨p,ep⟩ : ∃p,D.ps.getD i 0=p:=⟨_,rfl⟩
    rw [ep] at hm ⊢
    have hk:=G.i.k8 p hm
    have hlt:=p7.lt p hm
    have N3:=box_l hx [.int .i64 0,.int .i64 0,.slice none 0 0] T.T_croftref7_Cells
    try dsimp only
    generalize Array.push hx (.cells (List.toArray [.int .i64 0,.int .i64 0,.slice none 0 0]) T.T_croftref7_Cells)=h3 at N3 ⊢
    obtain ⟨b5,e5⟩ : ∃b,b=hx.size:=⟨_,rfl⟩
    rw [←e5] at N3 ⊢
    have I3:=I.new N3
    obtain ⟨w4,S4⟩:=assign_l (I3.at 0) (ceL M D.cl D.fr p)
    have I4:=I3.step 0 S4
    refine ⟨w4,fun L7 hL7=>?_⟩
    have inner:∀(d j:Nat) (st:Sto) (hy:Heap),j+d=cnt (D.cl p)→GI c (x.ws st) hp D→Go.V.Own h hy (wpR c wb Q M x hp D) [lR b5 (ceL M D.cl D.fr p),wpR c wb Q M (x.ws st) hp D]→L7 [gptr wb,.int .u8 v,.int .i64 (i:Int),.pointer (some ⟨b5,0,none⟩),.int .i64 (j:Int)] hy:=by
     intro d
     induction d with
     | zero =>
      intro j st hy hj G I
      refine hL7 _ _ _ _ _ _ ⟨_,cell_l (I.at 0) 1,count7_ok hk ⟨_,rfl,iF (decide_eq_false (by omega)) (hJ4 _ _ _ _ ?_)⟩⟩
      rw [show IntKind.wrap .i64 ((i:Int)+1)=((i+1:Nat):Int) by rw [IntKind.wrap_i64];omega]
      exact ih (i+1) st hy (by omega) G I.drop
     | succ d ihd =>
      intro j st hy hj G I
      have Hy:(wpR c wb Q M (x.ws st) hp D).P hy:=I.at 1
      have hjc:j<cnt (D.cl p):=by omega
      have hcc:=(cnt_wdt hk).2.2.2.1
      have wk:=(cnt_wdt hk).2.2.2.2.2
      have wp:=wdt_pos (D.cl p)
      obtain ⟨ev,hw⟩:=cell_adr G (p:=p) (j:=j) (by rw [←G.n];exact hlt) hk hjc
      refine hL7 _ _ _ _ _ _ ⟨_,cell_l (I.at 0) 1,count7_ok hk ⟨_,rfl,iT (decide_eq_true (by omega)) ⟨_,rfl,m9_ok Hy.1 ⟨_,cell_l0 (I.at 0),_,cell_l (I.at 0) 1,?_⟩⟩⟩⟩
      refine at7_ok G.i.w.g G.i.w.ok.m (by omega) fun h8 u8=>⟨_,rfl,?_⟩
      have I8:=I.quiet u8
      have H8:(wpR c wb Q M (x.ws st) hp D).P h8:=I8.at 1
      refine ⟨cell_l (I8.at 0) 1,width7_ok hk ⟨_,rfl,_,rfl,m9_ok H8.1 ?_⟩⟩
      rw [ev]
      have hbu:=bu_bounds G.i.w.g G.i.w.ok.m
      have nx:∀(st:Sto) (hz:Heap),GI c (x.ws st) hp D→Go.V.Own h hz (wpR c wb Q M x hp D) [lR b5 (ceL M D.cl D.fr p),wpR c wb Q M (x.ws st) hp D]→L7 [gptr wb,.int .u8 v,.int .i64 (i:Int),.pointer (some ⟨b5,0,none⟩),.int .i64 (IntKind.wrap .i64 ((j:Int)+1))] hz:=fun st hz G I=>by
       rw [show IntKind.wrap .i64 ((j:Int)+1)=((j+1:Nat):Int) by rw [IntKind.wrap_i64];omega]
       exact ihd (j+1) st hz (by omega) G I
      have m1:=G.i.w.ok.m.n1
      refine Size7_ok (by unfold U64;omega) G.i.w.g G.p7 (H8.2.1.2.1.2.1.1:(outR7 M D.cl D.fr D.ps).P h8) (H8.2.1.2.1.2.1.2.1:(frR7 M D.fr D.ps).P h8) (fun _ h9 u9=>⟨_,rfl,fun J12 hJ12=>qF' rfl (hJ12 _ _ (iF rfl (nx st h9 G (I8.quiet u9))))⟩) fun p' j' hA h9 u9=>⟨_,rfl,fun J12 hJ12=>?_⟩
      have I9:=I8.quiet u9
      have H9:(wpR c wb Q M (x.ws st) hp D).P h9:=I9.at 1
      obtain ⟨a1,a2,a3,a4⟩:=hA
      have hone:=cell_one G hm hjc a1 a2 (by unfold adr at a4;omega)
      obtain ⟨rfl,rfl⟩:=hone
      refine qT (decide_eq_true (by omega)) ⟨_,rfl,_,w_c3 H9.1,_,rfl,_,cell_l (I9.at 0) 1,ground_Space_ok (s_pl (w_s H9.1)) ⟨_,rfl,cell_l (I9.at 0) 1,width7_ok hk ⟨_,rfl,?_⟩⟩⟩
      rw [wU (z:=(wdt (D.cl p'):Int)) (by unfold U64;omega)]
      have I9':=(o8_swap I9).split
      refine fillG G (p:=p') (k:=0) (G.inV p' hm) (by omega) (by have:=(cell_in hk hjc).1;show _≤4096*(p'+1);omega) (fun q hq i hi=>?_) hv H9.1 fun st' h10 G' S=>⟨_,rfl,hJ12 _ _ (iF rfl (nx st' h10 G' (o8_swap ((I9'.step 0 S).join))))⟩
      have hi2:=(G.i.nd q hq).2 i hi
      have c2:=cell_in (G.i.k8 q hq) hi2
      have w16:16≤wdt (D.cl q):=by unfold wdt;have:=Nat.two_pow_pos (D.cl q);omega
      by_cases e:q=p'
      ·subst e
       rcases Nat.lt_trichotomy i j' with h | h | h
       ·have:i*wdt (D.cl q)+wdt (D.cl q)≤j'*wdt (D.cl q):=by rw [←Nat.succ_mul];exact Nat.mul_le_mul_right _ h
        omega
       ·subst h;exact absurd hi a3
       ·have:j'*wdt (D.cl q)+wdt (D.cl q)≤i*wdt (D.cl q):=by rw [←Nat.succ_mul];exact Nat.mul_le_mul_right _ h
        omega
      ·have c1:=(cell_in hk hjc).1
       omega
    exact inner _ 0 st _ (Nat.zero_add _) G I4
  exact loop _ 0 st hx (Nat.zero_add _) G0 I0
 have loop:∀(d i:Nat) (st:Sto) (hx:Heap),i+d=D.V.length→GI c (x.ws st) hp D→Go.V.Own h hx (wpR c wb Q M x hp D) [wpR c wb Q M (x.ws st) hp D]→L16 [gptr wb,.int .u8 v,.int .i64 (i:Int)] hx:=by
  intro d
  induction d with
  | zero =>
   intro i st hx hi G I
   exact hL16 _ _ _ _ ⟨_,rfl,_,_,_,w_cd (I.at 0:(wpR c wb Q M (x.ws st) hp D).P hx).1 11,iF (decide_eq_false (by omega)) (cells st hx G I)⟩
  | succ d ih =>
   intro i st hx hi G I
   have H1:(wpR c wb Q M (x.ws st) hp D).P hx:=I.at 0
   have RL:Row hx M.Y.vp ((prL D.V).length*2) (runV (prL D.V)):=by rw [prL_len];exact sl_row (H1.2.1.1.2.1:(liR M.Y D.V).P hx)
   obtain ⟨a,e1,r1,r2⟩:=row_run RL (Upd.refl _ _) (i:=i) (by rw [prL_len];omega)
   have hbm:D.V.getD i (0,0)∈D.V:=by rw [List.getD_eq_getElem?_getD,List.getElem?_eq_getElem (by omega)];exact List.getElem_mem _
   have eb:(prL D.V).getD i (0,0)=prV (D.V.getD i (0,0)):=by
    rw [List.getD_eq_getElem?_getD,List.getD_eq_getElem?_getD,List.getElem?_map,List.getElem?_eq_getElem (by omega)];rfl
   rw [eb] at r1 r2
   obtain ⟨⟨p,k⟩,epk⟩ : ∃b,D.V.getD i (0,0)=b:=⟨_,rfl⟩
   rw [epk] at hbm r1 r2
   have al:k≤x.m.o∧p % 2 ^ k=0∧p+2 ^ k≤x.m.n:=G.i.w.alb hbm
   have o8:x.m.o≤8:=G.i.w.ok.m.o8
   have h0:=Nat.two_pow_pos k
   refine hL16 _ _ _ _ ⟨_,rfl,_,_,_,w_cd H1.1 11,iT (decide_eq_true (by omega)) ⟨_,rfl,_,_,_,w_cd H1.1 11,a,e1,by omega,by omega,_,r1,_,r2,?_⟩⟩
   have N3:=box_l hx [.int .i64 0,.int .i64 0] T.T_croftref5_Run
   try dsimp only
   generalize Array.push hx (.cells (List.toArray [.int .i64 0,.int .i64 0]) T.T_croftref5_Run)=h3 at N3 ⊢
   obtain ⟨b5,e5⟩ : ∃b,b=hx.size:=⟨_,rfl⟩
   rw [←e5] at N3 ⊢
   have I3:=I.new N3
   obtain ⟨w4,S4⟩:=assign_l (I3.at 0) [.int .i64 (p:Int),.int .i64 (k:Int)]
   have I4:=I3.step 0 S4
   refine ⟨w4,_,rfl,?_⟩
   try dsimp only
   generalize setCs h3 ⟨b5,0,none⟩ 0 [.int .i64 (p:Int),.int .i64 (k:Int)]=h4 at I4 ⊢
   have I4:Go.V.Own h h4 (wpR c wb Q M x hp D) [lR b5 [.int .i64 (p:Int),.int .i64 (k:Int)],wpR c wb Q M (x.ws st) hp D]:=I4
   have H4:(wpR c wb Q M (x.ws st) hp D).P h4:=I4.at 1
   have nx:∀(st:Sto) (hz:Heap),GI c (x.ws st) hp D→Go.V.Own h hz (wpR c wb Q M x hp D) [lR b5 [.int .i64 (p:Int),.int .i64 (k:Int)],wpR c wb Q M (x.ws st) hp D]→L16 [gptr wb,.int .u8 v,.int .i64 (IntKind.wrap .i64 ((i:Int)+1))] hz:=fun st hz G I=>by
    rw [show IntKind.wrap .i64 ((i:Int)+1)=((i+1:Nat):Int) by rw [IntKind.wrap_i64];omega]
    exact ih (i+1) st hz (by omega) G I.drop
   refine m9_ok H4.1 ⟨_,cell_l0 (I4.at 0),find7_ok (by omega) (H4.2.1.2.1.2.1.1:(outR7 M D.cl D.fr D.ps).P h4) (fun hno h5 u5=>⟨_,rfl,fun J20 hJ20=>?_⟩) fun j hj _ h5 u5=>⟨_,rfl,fun J20 hJ20=>qF' (decide_eq_false (by omega)) (hJ20 _ _ (iF rfl (nx st h5 G (I4.quiet u5))))⟩⟩
   have I5:=I4.quiet u5
   have H5:(wpR c wb Q M (x.ws st) hp D).P h5:=I5.at 1
   have B5:=I5.at 0
   refine qT rfl ⟨_,rfl,_,w_c3 H5.1,_,rfl,_,rfl,m9_ok H5.1 ⟨_,cell_l0 B5,_,cell_l B5 1,by rw [IntKind.wrap_u64];omega,ground_Space_ok (s_pl (w_s H5.1)) ⟨_,rfl,cell_l B5 1,cell_l0 B5,d9_ok H5.1 ?_⟩⟩⟩
   refine at7_ok G.i.w.g G.i.w.ok.m (by omega) fun h6 u6=>⟨_,rfl,?_⟩
   have I6':=I5.quiet u6
   have H6:(wpR c wb Q M (x.ws st) hp D).P h6:=I6'.at 1
   refine ⟨cell_l (I6'.at 0) 1,?_⟩
   have es:IntKind.wrap .u64 ((4096:Int)*2 ^ min (Int.toNat (IntKind.wrap .u64 (k:Int))) (IntKind.bits .i64))=((4096*2 ^ k:Nat):Int):=by
    have:k=0∨k=1∨k=2∨k=3∨k=4∨k=5∨k=6∨k=7∨k=8:=by omega
    rcases this with rfl | rfl | rfl | rfl | rfl | rfl | rfl | rfl | rfl<;>decide
   have ea:adr c p=c.base+((4096*p:Nat):Int):=by unfold adr;omega
   have I7:=(o8_swap I6').split
   first | rw [es,ea] | (show CallV _ _ _ [_,_,.int .u64 (IntKind.wrap .u64 ((4096:Int)*2 ^ min (Int.toNat (IntKind.wrap .u64 (k:Int))) (IntKind.bits .i64))),_] _ _;rw [es,ea])
   refine fillG G (p:=p) (k:=k) hbm (Nat.le_refl _) (by rw [Nat.mul_add];exact Nat.le_refl _) (fun q hq j hj=>?_) hv H6.1 fun st' h10 G' S=>⟨_,rfl,hJ20 _ _ (iF rfl (nx st' h10 G' (o8_swap ((I7.step 0 S).join))))⟩
   have c2:=cell_in (G.i.k8 q hq) ((G.i.nd q hq).2 j hj)
   have w16:16≤wdt (D.cl q):=by unfold wdt;have:=Nat.two_pow_pos (D.cl q);omega
   have hout:¬(p≤q∧q<p+2 ^ k):=fun hc=>by
    have:=G.i.w.rep.uniq0 (G.inV q hq) hbm hc
    injection this with e1 e2
    exact hno (e1▸hq)
   rcases Nat.lt_or_ge q p with hl | hl
   ·right;omega
   ·left
    have hl2:p+2 ^ k≤q:=Nat.le_of_not_lt fun h=>hout ⟨hl,h⟩
    have:4096*p+4096*2 ^ k≤4096*q:=by rw [←Nat.mul_add];exact Nat.mul_le_mul_left _ hl2
    omega
 exact loop _ 0 x.st h (Nat.zero_add _) G (Go.V.Own.of H)
end
end Go.Proofs.YteemmpkhdllapaaGreatDoor
namespace Go.Proofs.YteemmpkhdllapaaGreatDoor
open Go.V Classical
section
variable {w₀:World} {h h':Heap} {K:Value→Heap→Prop}
theorem apart8_ok {pa pb:Option Addr} {n m ca cb:Nat} {f g:Nat→Value} (hn:n≤100000) (hm:m≤100000) (H:(andR (slR pa n ca 1 f) (slR pb m cb 1 g)).P h) (hK:∀h',Stp h h' (andR (slR pa n ca 1 f) (slR pb m cb 1 g)) noR→K (.bool true) h') :
  CallV Tryz.prog w₀ F.croftlaw7_apart [.slice pa n ca,.slice pb m cb] h K:=by
 refine croftlaw7_apart.call ?_
 intro J1 hJ1 L15 hL15
 generalize hE:andR (slR pa n ca 1 f) (slR pb m cb 1 g)=E at H hK
 have I0:Go.V.Own h h E [slR pa n ca 1 f,slR pb m cb 1 g]:=by have:=(Go.V.Own.of H);rw [←hE] at this ⊢;exact this.split
 let fa:Nat→Value:=fun _=>.int .i64 1001
 let fb:Nat→Value:=fun _=>.int .i64 1002
 have e4:∀(d i:Nat) (hx:Heap) (p8:Option Addr) (c8:Nat),i+d=m+40→Go.V.Own h hx E [slR p8 (m+40) c8 1 fb]→∀(J5:List Value→Heap→Prop) (hJ5:∀hh,K (.bool true) hh→J5 [] hh) (L6:List Value→Heap→Prop),
   (∀(y1p:Option Addr) (y1n y1c:Nat) (y8p:Option Addr) (y8n y8c:Nat) (y11:Int) (hL6:Heap),(((decide (y11<(IntKind.wrap .i64 (((y1n:Nat):Int)+(40:Int)))))=true→(∃a63:Addr,y8p=some a63∧0≤y11∧y11<(y8n:Nat)∧(∃n64:Int,cellAt hL6 (a63.add (Int.toNat y11*1))=some (.int .i64 n64)∧(((n64 != (1002:Int))=true→K (.bool false) hL6)∧((n64 != (1002:Int))=false→L6 [.slice y1p y1n y1c,.slice y8p y8n y8c,(.int .i64 (IntKind.wrap .i64 (y11+(1:Int))))] hL6)))))∧((decide (y11<(IntKind.wrap .i64 (((y1n:Nat):Int)+(40:Int)))))=false→J5 [] hL6))→L6 [.slice y1p y1n y1c,.slice y8p y8n y8c,.int .i64 y11] hL6) →
   L6 [.slice pb m cb,.slice p8 (m+40) c8,.int .i64 (i:Int)] hx:=by
  intro d
  induction d with
  | zero =>
   intro i hx p8 c8 hi I J5 hJ5 L6 hL6
   refine hL6 _ _ _ _ _ _ _ _ (iF (decide_eq_false (by rw [IntKind.wrap_i64];omega)) (hJ5 _ (hK _ ?_)))
   exact ⟨I.u,trivial,fun b e=>e.elim⟩
  | succ d ih =>
   intro i hx p8 c8 hi I J5 hJ5 L6 hL6
   obtain ⟨b,e,r⟩:=sl_cell (I.at 0) (i:=i) (by omega)
   refine hL6 _ _ _ _ _ _ _ _ (iT (decide_eq_true (by rw [IntKind.wrap_i64];omega)) ⟨_,e,by omega,by omega,1002,by rw [at1];exact r,iF rfl ?_⟩)
   rw [show IntKind.wrap .i64 ((i:Int)+1)=((i+1:Nat):Int) by rw [IntKind.wrap_i64];omega]
   exact ih (i+1) hx p8 c8 (by omega) I J5 hJ5 L6 hL6
 have e3:∀(d i:Nat) (hx:Heap) (p7 p8:Option Addr) (c7 c8:Nat),i+d=n+40→Go.V.Own h hx E [slR p7 (n+40) c7 1 fa,slR p8 (m+40) c8 1 fb]→∀(J4:List Value→Heap→Prop) (hJ4:J4 [.slice pb m cb,.slice p8 (m+40) c8] hx) (L7:List Value→Heap→Prop),
   (∀(y0p:Option Addr) (y0n y0c:Nat) (y1p:Option Addr) (y1n y1c:Nat) (y7p:Option Addr) (y7n y7c:Nat) (y8p:Option Addr) (y8n y8c:Nat) (y10:Int) (hL7:Heap),(((decide (y10<(IntKind.wrap .i64 (((y0n:Nat):Int)+(40:Int)))))=true→(∃a51:Addr,y7p=some a51∧0≤y10∧y10<(y7n:Nat)∧(∃n52:Int,cellAt hL7 (a51.add (Int.toNat y10*1))=some (.int .i64 n52)∧(((n52 != (1001:Int))=true→K (.bool false) hL7)∧((n52 != (1001:Int))=false→L7 [.slice y0p y0n y0c,.slice y1p y1n y1c,.slice y7p y7n y7c,.slice y8p y8n y8c,(.int .i64 (IntKind.wrap .i64 (y10+(1:Int))))] hL7)))))∧((decide (y10<(IntKind.wrap .i64 (((y0n:Nat):Int)+(40:Int)))))=false→J4 [.slice y1p y1n y1c,.slice y8p y8n y8c] hL7))→L7 [.slice y0p y0n y0c,.slice y1p y1n y1c,.slice y7p y7n y7c,.slice y8p y8n y8c,.int .i64 y10] hL7) →
   L7 [.slice pa n ca,.slice pb m cb,.slice p7 (n+40) c7,.slice p8 (m+40) c8,.int .i64 (i:Int)] hx:=by
  intro d
  induction d with
  | zero =>
   intro i hx p7 p8 c7 c8 hi I J4 hJ4 L7 hL7
   exact hL7 _ _ _ _ _ _ _ _ _ _ _ _ _ _ (iF (decide_eq_false (by rw [IntKind.wrap_i64];omega)) hJ4)
  | succ d ih =>
   intro i hx p7 p8 c7 c8 hi I J4 hJ4 L7 hL7
   obtain ⟨b,e,r⟩:=sl_cell (I.at 0) (i:=i) (by omega)
   refine hL7 _ _ _ _ _ _ _ _ _ _ _ _ _ _ (iT (decide_eq_true (by rw [IntKind.wrap_i64];omega)) ⟨_,e,by omega,by omega,1001,by rw [at1];exact r,iF rfl ?_⟩)
   rw [show IntKind.wrap .i64 ((i:Int)+1)=((i+1:Nat):Int) by rw [IntKind.wrap_i64];omega]
   exact ih (i+1) hx p7 p8 c7 c8 (by omega) I J4 hJ4 L7 hL7
 have w1:∀(d i:Nat) (hx:Heap),i+d=n→Go.V.Own h hx E [slR pa n ca 1 (fun j=>if j<i then fa j else f j),slR pb m cb 1 g]→L15 [.slice pa n ca,.slice pb m cb,.int .i64 (i:Int)] hx:=by
  intro d
  induction d with
  | succ d ih =>
   intro i hx hi I
   obtain ⟨b,e,w,S⟩:=sl_set (I.at 0) (o:=i) (by omega) (.int .i64 1001)
   refine hL15 _ _ _ _ _ _ _ _ (iT (decide_eq_true (by omega)) ⟨_,e,by omega,by omega,by rw [at1];exact w,?_⟩)
   have I2:=I.step 0 (R':=slR pa n ca 1 (fun j=>if j<i+1 then fa j else f j)) (S.conv (fun P=>sl_congr P fun j hj=>by
    by_cases h1:j=i
    ·subst h1;rw [if_pos rfl,if_pos (by omega)]
    ·rw [if_neg h1]
     by_cases h2:j<i
     ·rw [if_pos h2,if_pos (by omega)]
     ·rw [if_neg h2,if_neg (by omega)]) fun _ e=>e)
   rw [show IntKind.wrap .i64 ((i:Int)+1)=((i+1:Nat):Int) by rw [IntKind.wrap_i64];omega,at1]
   exact ih (i+1) _ (by omega) I2
  | zero =>
   intro i hx hi I
   have hi:i=n:=by omega
   subst hi
   refine hL15 _ _ _ _ _ _ _ _ (iF (decide_eq_false (by omega)) (hJ1 _ _ _ _ _ _ _ fun J2 hJ2 L13 hL13=>?_))
   have I:=I.as 0 (R:=slR pa i ca 1 (fun j=>if j<i then fa j else f j)) (R':=slR pa i ca 1 fa) (fun P=>sl_congr P fun j hj=>by rw [if_pos (by omega)]) fun _ e=>e
   have I:Go.V.Own h hx E [slR pa i ca 1 fa,slR pb m cb 1 g]:=I
   have w2:∀(d k:Nat) (hx:Heap),k+d=m→Go.V.Own h hx E [slR pa i ca 1 fa,slR pb m cb 1 (fun j=>if j<k then fb j else g j)]→L13 [.slice pa i ca,.slice pb m cb,.int .i64 (k:Int)] hx:=by
    intro d
    induction d with
    | succ d ih =>
     intro k hx hk I
     obtain ⟨b,e,w,S⟩:=sl_set (I.at 1) (o:=k) (by omega) (.int .i64 1002)
     refine hL13 _ _ _ _ _ _ _ _ (iT (decide_eq_true (by omega)) ⟨_,e,by omega,by omega,by rw [at1];exact w,?_⟩)
     have I2:=I.step 1 (R':=slR pb m cb 1 (fun j=>if j<k+1 then fb j else g j)) (S.conv (fun P=>sl_congr P fun j hj=>by
      by_cases h1:j=k
      ·subst h1;rw [if_pos rfl,if_pos (by omega)]
      ·rw [if_neg h1]
       by_cases h2:j<k
       ·rw [if_pos h2,if_pos (by omega)]
       ·rw [if_neg h2,if_neg (by omega)]) fun _ e=>e)
     rw [show IntKind.wrap .i64 ((k:Int)+1)=((k+1:Nat):Int) by rw [IntKind.wrap_i64];omega,at1]
     exact ih (k+1) _ (by omega) I2
    | zero =>
     intro k hx hk I
     have hk:k=m:=by omega
     subst hk
     refine hL13 _ _ _ _ _ _ _ _ (iF (decide_eq_false (by omega)) (hJ2 _ _ _ _ _ _ _ fun J3 hJ3 L8 hL8=>?_))
     have I:=I.as 1 (R:=slR pb k cb 1 (fun j=>if j<k then fb j else g j)) (R':=slR pb k cb 1 fb) (fun P=>sl_congr P fun j hj=>by rw [if_pos (by omega)]) fun _ e=>e
     have I:Go.V.Own h hx E [slR pa i ca 1 fa,slR pb k cb 1 fb]:=I
     have w3:∀(d z:Nat) (hx:Heap) (p7 p8:Option Addr) (c7 c8:Nat),z+d=40→Go.V.Own h hx E [slR p7 (i+z) c7 1 fa,slR p8 (k+z) c8 1 fb]→L8 [.slice pa i ca,.slice pb k cb,.slice p7 (i+z) c7,.slice p8 (k+z) c8,.int .i64 (z:Int)] hx:=by
      intro d
      induction d with
      | zero =>
       intro z hx p7 p8 c7 c8 hz I
       have hz:z=40:=by omega
       subst hz
       refine hL8 _ _ _ _ _ _ _ _ _ _ _ _ _ _ (iF rfl (hJ3 _ _ _ _ _ _ _ _ _ _ _ _ _ fun J4 hJ4 L7 hL7=>?_))
       exact e3 (i+40) 0 hx p7 p8 c7 c8 (by omega) I J4 (hJ4 _ _ _ _ _ _ _ fun J5 hJ5 L6 hL6=>e4 (k+40) 0 hx p8 c8 (by omega) I.drop J5 hJ5 L6 hL6) L7 hL7
      | succ d ih =>
       intro z hx p7 p8 c7 c8 hz I
       refine hL8 _ _ _ _ _ _ _ _ _ _ _ _ _ _ (iT (decide_eq_true (by omega)) ?_)
       obtain ⟨os,q1,q2⟩:=sl_app1 (zs:=[.int .i64 0]) (v:=.int .i64 1001) (b:=8) (e:=T.T_int) (T:=T.T_int) (I.at 0) rfl rfl (by omega)
       refine ⟨os,_,q1,fun p' c' h9 res=>?_⟩
       have I2:=I.step 0 (R:=slR p7 (i+z) c7 1 fa) (R':=slR p' (i+(z+1)) c' 1 fa) ((q2 p' c' h9 res).conv (fun P=>sl_congr P fun j hj=>by split<;>rfl) fun _ e=>e)
       have I2:Go.V.Own h h9 E [slR p' (i+(z+1)) c' 1 fa,slR p8 (k+z) c8 1 fb]:=I2
       obtain ⟨os,q3,q4⟩:=sl_app1 (zs:=[.int .i64 0]) (v:=.int .i64 1002) (b:=8) (e:=T.T_int) (T:=T.T_int) (I2.at 1) rfl rfl (by omega)
       refine ⟨os,_,q3,fun p'' c'' h10 res=>?_⟩
       have I3:=I2.step 1 (R:=slR p8 (k+z) c8 1 fb) (R':=slR p'' (k+(z+1)) c'' 1 fb) ((q4 p'' c'' h10 res).conv (fun P=>sl_congr P fun j hj=>by split<;>rfl) fun _ e=>e)
       rw [show IntKind.wrap .i64 ((z:Int)+1)=((z+1:Nat):Int) by rw [IntKind.wrap_i64];omega]
       exact ih (z+1) h10 p' p'' c' c'' (by omega) I3
     exact w3 40 0 hx pa pb ca cb (by omega) I
   exact w2 m 0 hx (by omega) (I.as 1 (R':=slR pb m cb 1 (fun j=>if j<0 then fb j else g j)) (fun P=>sl_congr P fun j hj=>by rw [if_neg (by omega)]) fun _ e=>e)
 exact w1 n 0 h (by omega) (I0.as 0 (R':=slR pa n ca 1 (fun j=>if j<0 then fa j else f j)) (fun P=>sl_congr P fun j hj=>by rw [if_neg (by omega)]) fun _ e=>e)
end
section
variable {w₀:World} {h h' h0:Heap} {E:Res} {rs:List Res} {c:Cfg} {M:RW7} {wb O:Nat} {Q:SL} {x:BU} {hp:Nat→Int} {D D':DS} {K:Value→Heap→Prop} {o0 o1 o2 a4 p:Int} {o3:Bool}
theorem wp_join (I:Go.V.Own h0 h E (w7R c wb (dvD c M O D) Q x hp::rfD M O D::rs)) (hO:x.m.o=O):Go.V.Own h0 h E (wpR c wb Q M x hp D::rs):=by
 subst hO;exact I.join
theorem ans8 (I:Go.V.Own h0 h E (w7R c wb (dvD c M O D) Q x hp::rs)) (M':RW7) (D':DS):WrN (Array.push h (.cells z7.toArray T.T_croftref7_Slab)) ⟨h.size,0,none⟩ 9 ∧
  ∀X:List Value→Prop,((WrN (setCs (Array.push h (.cells z7.toArray T.T_croftref7_Slab)) ⟨h.size,0,none⟩ 0 (dvD c M' O D')) ((⟨wb,0,none⟩ : Addr).add 5) 9∧Go.V.Own h0 (setCs (setCs (Array.push h (.cells z7.toArray T.T_croftref7_Slab)) ⟨h.size,0,none⟩ 0 (dvD c M' O D')) ((⟨wb,0,none⟩ : Addr).add 5) 0 (dvD c M' O D')) E (w7R c wb (dvD c M' O D') Q x hp::rs))→X (dvD c M' O D')) →
   L_uiiiissss (setCs (Array.push h (.cells z7.toArray T.T_croftref7_Slab)) ⟨h.size,0,none⟩ 0 (dvD c M' O D')) ⟨h.size,0,none⟩ X:=by
 have N3:=box_l h z7 T.T_croftref7_Slab
 generalize Array.push h (.cells z7.toArray T.T_croftref7_Slab)=h3 at N3 ⊢
 have I3:=I.new N3
 obtain ⟨w4,S4⟩:=assign_l (I3.at 0) (dvD c M' O D')
 refine ⟨w4,fun X hX=>?_⟩
 have I4:=I3.step 0 S4
 generalize setCs h3 ⟨h.size,0,none⟩ 0 (dvD c M' O D')=h4 at I4 hX ⊢
 have I4:Go.V.Own h0 h4 E (lR h.size (dvD c M' O D')::w7R c wb (dvD c M O D) Q x hp::rs):=I4
 have B:=I4.at 0
 obtain ⟨w5,S5⟩:=w7_put (d':=dvD c M' O D') (I4.at 1) rfl rfl
 exact ⟨_,cell_l0 B,_,cell_l B 1,_,cell_l B 2,_,cell_l B 3,_,cell_l B 4,_,_,_,cell_l B 5,_,_,_,cell_l B 6,_,_,_,cell_l B 7,_,_,_,cell_l B 8,hX ⟨w5,(I4.step 1 S5).drop⟩⟩
set_option maxHeartbeats 1000000 in
theorem step8_ok (hpu:U64 p) (G:GI c x hp D) (TT:TabH h (wpR c wb Q M x hp D)) (H:(wpR c wb Q M x hp D).P h)
  (hK:∀h' Q' M' x' hp' D',GI c x' hp' D'→Stp h h' (wpR c wb Q M x hp D) (wpR c wb Q' M' x' hp' D')→K (.bool true) h') :
  CallV Tryz.prog w₀ F.croftlaw7_world_step [gptr wb,.agg #[.int .i64 o0,.int .i64 o1,.int .i64 o2,.bool o3,.int .u64 a4],.int .u64 p] h K:=by
 refine croftlaw7_world_step.call ?_
 try dsimp only
 have N1:=box_l h [.int .i64 o0,.int .i64 o1,.int .i64 o2,.bool o3,.int .u64 a4] T.T_croftlaw7_Step
 generalize Array.push h (.cells (List.toArray [.int .i64 o0,.int .i64 o1,.int .i64 o2,.bool o3,.int .u64 a4]) T.T_croftlaw7_Step)=h1 at N1 ⊢
 obtain ⟨b0,eb0⟩ : ∃b0,b0=h.size:=⟨_,rfl⟩
 rw [←eb0] at N1 ⊢
 have I1:Go.V.Own h h1 (wpR c wb Q M x hp D) (wpR c wb Q M x hp D::lR b0 [.int .i64 o0,.int .i64 o1,.int .i64 o2,.bool o3,.int .u64 a4]::[]):=o8_swap ((Go.V.Own.of H).new N1)
 have S1:Go.V.Own h h1 (wpR c wb Q M x hp D) (w7R c wb (dvD c M x.m.o D) Q x hp::rfD M x.m.o D::lR b0 [.int .i64 o0,.int .i64 o1,.int .i64 o2,.bool o3,.int .u64 a4]::[]):=I1.split
 have H1:=I1.at 0
 have fin0:∀(hx:Heap) (rs:List Res),Go.V.Own h hx (wpR c wb Q M x hp D) (wpR c wb Q M x hp D::rs)→K (.bool true) hx:=fun hx rs I=>hK hx Q M x hp D G I.stp
 refine ⟨_,cell_l0 (I1.at 1),?_⟩
 by_cases e1:o0=1
 ·refine iT (by simp [e1]) ⟨_,rfl,m9_ok H1.1 ?_⟩
  refine refGive7 hpu G (S1.at 1) fun h2 M' D' e A S=>⟨_,_,_,_,_,_,_,_,_,_,_,_,_,_,_,_,_,_,rfl,?_⟩
  have I2:=S1.step 1 S
  have I2:Go.V.Own h h2 (wpR c wb Q M x hp D) (w7R c wb (dvD c M x.m.o D) Q x hp::rfD M' x.m.o D'::lR b0 [.int .i64 o0,.int .i64 o1,.int .i64 o2,.bool o3,.int .u64 a4]::[]):=I2
  obtain ⟨w4,hX⟩:=ans8 I2 M' D'
  refine ⟨w4,hX _ fun ⟨w5,I5⟩=>⟨_,rfl,w5,_,rfl,_,w_c4 (I5.at 0),?_⟩⟩
  refine realGive7 hpu G (TT.at I5 0) (I5.at 0) A fun x' hp' h6 G' o' S6=>⟨_,rfl,?_⟩
  rw [beq_self_eq_true]
  exact hK h6 Q M' x' hp' D' G' (wp_join (I5.step 0 S6) o').stp
 refine iF (by simpa using e1) ?_
 by_cases e2:o0=2
 ·refine iT (by simp [e2]) ⟨_,rfl,_,w_c4 H1.1,_,rfl,m9_ok H1.1 ?_⟩
  have ref:∀(h2:Heap) (u:Upd NoB h1 h2) (r:Int),((∀p' j,¬At7 c D.cl D.fr D.ps p p' j)→r=0)→(∀p' j,At7 c D.cl D.fr D.ps p p' j→r=(wdt (D.cl p'):Int)) →
    CallV Tryz.prog w₀ F.croftref7_Size [.agg (dvD c M x.m.o D).toArray,.int .u64 p] h2 fun v52 h52=>∃r52:Int,v52=.int .u64 r52∧K (.bool (r == r52)) h52:=by
   intro h2 u r hno hyes
   have I2:=I1.quiet u
   have H2:=I2.at 0
   refine Size7_ok hpu G.i.w.g G.p7 (H2.2.1.2.1.2.1.1:(outR7 M D.cl D.fr D.ps).P h2) (H2.2.1.2.1.2.1.2.1:(frR7 M D.fr D.ps).P h2) (fun hn h3 u3=>⟨_,rfl,?_⟩) fun p' j hA h3 u3=>⟨_,rfl,?_⟩
   ·rw [hno hn,beq_self_eq_true];exact fin0 h3 _ (I2.quiet u3)
   ·rw [hyes p' j hA,beq_self_eq_true];exact fin0 h3 _ (I2.quiet u3)
  refine sizeX hpu G.i (TT.at S1 0) H1.1 (fun hn h2 u2=>⟨_,rfl,d9_ok (S1.quiet u2 |>.at 0) (ref h2 u2 0 (fun _=>rfl) fun p' j hA=>absurd hA.2.2.2 (hn p' j hA.1 hA.2.1 hA.2.2.1))⟩) fun q j a1 a2 a3 a4 h2 u2=>⟨_,rfl,d9_ok (S1.quiet u2 |>.at 0) (ref h2 u2 _ (fun hn=>absurd ⟨a1,a2,a3,a4⟩ (hn q j)) fun p' j' hA=>?_)⟩
  obtain ⟨rfl,rfl⟩:=At7.uniq G ⟨a1,a2,a3,a4⟩ hA
  rfl
 refine iF (by simpa using e2) ?_
 by_cases e4:o0=4
 ·refine iT (by simp [e4]) ⟨_,cell_l (I1.at 1) 1,?_⟩
  refine back7_ok hpu G H1 fun h2 M' D' e A S=>⟨_,rfl,?_⟩
  have I2:Go.V.Own h h2 (wpR c wb Q M x hp D) (wpR c wb Q M' x hp D'::lR b0 [.int .i64 o0,.int .i64 o1,.int .i64 o2,.bool o3,.int .u64 a4]::[]):=I1.step 0 S
  have S2:=I2.split
  refine ⟨_,rfl,_,w_c3 (S2.at 0),_,cell_l (I2.at 1) 1,realBack7 hpu G (S2.at 0) A fun x' h3 G' o' S3=>⟨_,rfl,?_⟩⟩
  rw [beq_self_eq_true]
  exact hK h3 Q M' x' hp D' G' (wp_join (S2.step 0 S3) o').stp
 refine iF (by simpa using e4) ?_
 by_cases e5:o0=5
 ·refine iT (by simp [e5]) ⟨_,rfl,m9_ok H1.1 ?_⟩
  refine refTrim7 G (S1.at 1) fun h2 M' fl' r A S=>⟨_,_,_,_,_,_,_,_,_,_,_,_,_,_,_,_,_,_,rfl,?_⟩
  have I2:Go.V.Own h h2 (wpR c wb Q M x hp D) (w7R c wb (dvD c M x.m.o D) Q x hp::rfD M' x.m.o ⟨r*2 ^ x.m.o,fl',D.V,D.cl,D.fr,D.pl,D.ps⟩ :: lR b0 [.int .i64 o0,.int .i64 o1,.int .i64 o2,.bool o3,.int .u64 a4]::[]):=S1.step 1 S
  obtain ⟨w4,hX⟩:=ans8 I2 M' ⟨r*2 ^ x.m.o,fl',D.V,D.cl,D.fr,D.pl,D.ps⟩
  refine ⟨w4,hX _ fun ⟨w5,I5⟩=>⟨_,rfl,w5,_,rfl,_,w_c3 (I5.at 0),?_⟩⟩
  refine realTrim7 G (I5.at 0) A fun x' h6 Q' hQ G' o' S6=>⟨_,rfl,?_⟩
  rw [beq_self_eq_true]
  exact hK h6 Q' M' x' hp _ G' (wp_join (I5.step 0 S6) o').stp
 refine iF (by simpa using e5) ?_
 by_cases e6:o0=6
 ·refine iT (by simp [e6]) ⟨_,rfl,_,w_c4 H1.1,Partial_ok (w_s H1.1).1 fun h2 q2 N2=>⟨_,_,_,rfl,?_⟩⟩
  have I2:=I1.new N2
  refine ⟨_,rfl,_,w_c4 (I2.at 1:(wpR c wb Q M x hp D).P h2).1,Partial_ok (w_s (I2.at 1:(wpR c wb Q M x hp D).P h2).1).1 fun h3 q3 N3=>⟨_,_,_,rfl,?_⟩⟩
  have I3:=I2.new N3
  have H3:(wpR c wb Q M x hp D).P h3:=I3.at 2
  refine ⟨_,rfl,m9_ok H3.1 (Heads7_ok (hp:=hp) (pl:=D.pl) G.pl2 G.i.hd (H3.2.1.2.1.1:(frR M.Z 7 D.pl).P h3) fun h4 q4 c4 N4=>⟨_,_,_,rfl,?_⟩)⟩
  have I4:=I3.new N4
  refine ints8_ok (I4.at 2) (I4.at 0) ⟨_,rfl,fun J20 hJ20=>pF rfl (ints8_ok (I4.at 1) (I4.at 2) ⟨_,rfl,hJ20 _ _ (iF rfl ?_)⟩)⟩
  have I5:=(o8_swap I4.drop).join
  refine apart8_ok (by omega) (by omega) (I5.at 0) fun h5 S5=>⟨_,rfl,fun J22 hJ22=>qT rfl ?_⟩
  have I6:=(I5.step 0 S5).drop
  have H6:(wpR c wb Q M x hp D).P h5:=I6.at 0
  refine ⟨_,rfl,_,w_c4 H6.1,_,rfl,m9_ok H6.1 (Partial_ok (w_s H6.1).1 fun h7 q7 N7=>⟨_,_,_,rfl,?_⟩)⟩
  have I7:=I6.new N7
  have H7:(wpR c wb Q M x hp D).P h7:=I7.at 1
  refine d9_ok H7.1 (Heads7_ok (hp:=hp) (pl:=D.pl) G.pl2 G.i.hd (H7.2.1.2.1.1:(frR M.Z 7 D.pl).P h7) fun h8 q8 c8 N8=>⟨_,_,_,rfl,?_⟩)
  have I8:=I7.new N8
  exact ints8_ok (I8.at 1) (I8.at 0) ⟨_,rfl,hJ22 _ _ (fin0 _ _ (I8.drop.drop))⟩
 refine iF (by simpa using e6) ?_
 by_cases e7:o0=7
 ·exact iT (by simp [e7]) ⟨_,cell_l (I1.at 1) 1,opened8_ok G H1 fun h2 Q' S=>⟨_,rfl,hK h2 Q' M x hp D G (I1.step 0 S).stp⟩⟩
 refine iF (by simpa using e7) ?_
 by_cases e8:o0=8
 ·exact iT (by simp [e8]) ⟨_,cell_l (I1.at 1) 1,fill8_ok (by rw [IntKind.wrap_u8];omega) G H1 fun h2 st' G' S=>⟨_,rfl,hK h2 Q M (x.ws st') hp D G' (I1.step 0 S).stp⟩⟩
 refine iF (by simpa using e8) ?_
 by_cases e9:o0=9
 ·exact iT (by simp [e9]) (looks8_ok G H1 fun h2 S=>⟨_,rfl,hK h2 Q M x hp D G (I1.step 0 S).stp⟩)
 exact iF (by simpa using e9) (fin0 h1 _ I1)
end
end Go.Proofs.YteemmpkhdllapaaGreatDoor
namespace Go.Proofs.YteemmpkhdllapaaGreatDoor
open Go.V Classical
def st7Ty:Nat→TypeDesc
 | 3=>.bool
 | 4=>.int .u64
 | _=>.int .i64
def SRow7 (h:Heap) (p:Option Addr) (n c:Nat):Prop :=
 n≤c∧c<9223372036854775808∧(n=0∨∃b o,p=some ⟨b,o,none⟩∧∀i,i<n→∀j,j<5→∃v,cellAt h ⟨b,o+i*5+j,none⟩=some v∧Scal (st7Ty j) v)
theorem st7Row {H:Type} {enc:TypeId×Value→H} {W:World} {t e:TypeId} {fs:Array Field} {p:Option Addr} {n c:Nat} {d:DataW H} {ps:List MemPlace} (ht:Tryz.prog.underlying t=some (.slice e)) (he:Tryz.prog.underlying e=some (.struct fs)) (hm:fs.size=5) (hce:Tryz.prog.cellsOf e=5)
  (hf:∀j,j<5→∃f,fs[j]? = some f∧f.offset=j∧Tryz.prog.cellsOf f.type=1∧Tryz.prog.underlying f.type=some (st7Ty j))
  (h:DataW.Trod enc Tryz.prog W 0 (fun _=>true) true t (.slice p n c) d ps):SRow7 W.heap p n c:=structRow ht he hm (by decide) hce hf h
abbrev stL (z0 z1 z2:Int) (z3:Bool) (z4:Int):List Value:=[.int .i64 z0,.int .i64 z1,.int .i64 z2,.bool z3,.int .u64 z4]
theorem h8_join {h0 h:Heap} {rs:List Res} {c:Cfg} {M:RW7} {wb O:Nat} {Q:SL} {x:BU} {hp:Nat→Int} {D:DS} (I:Hold h0 h (w7R c wb (dvD c M O D) Q x hp::rfD M O D::rs)) (hO:x.m.o=O):Hold h0 h (wpR c wb Q M x hp D::rs):=by
 subst hO;exact I.join
set_option maxHeartbeats 2000000 in
theorem SlabPlays_law {w:World} {a b d:Int} {p:Option Addr} {n cp:Nat} (T0:Tab w.heap) (ha:(Lit.int .u64 a).wf=true) (hb:(Lit.int .i64 b).wf=true) (hd:(Lit.int .i64 d).wf=true) (hs:SRow7 w.heap p n cp) :
  CallV Tryz.prog w F.croftlaw7_SlabPlays [.agg #[.int .u64 a,.int .i64 b,.int .i64 d],.slice p n cp] w.heap fun v h'=>v=.bool true∧Upd NoB w.heap h':=by
 obtain ⟨hn,hc,hr⟩:=hs
 have hfin:∀h',Upd NoB w.heap h'→(fun (r:Value) (h':Heap)=>r=Value.bool true∧Upd NoB w.heap h') (.bool true) h':=fun h' u=>⟨rfl,u⟩
 generalize (fun (r:Value) (h':Heap)=>r=Value.bool true∧Upd NoB w.heap h')=K at hfin ⊢
 refine croftlaw7_SlabPlays.call ?_
 try dsimp only
 have N0:=box_l w.heap [.int .u64 a,.int .i64 b,.int .i64 d] T.T_api_Config
 generalize Array.push w.heap (.cells (List.toArray [.int .u64 a,.int .i64 b,.int .i64 d]) T.T_api_Config)=h0 at N0 ⊢
 have I0:=(Hold.nil w.heap).new N0
 have B0:=I0.at 0
 refine ⟨_,cell_l0 B0,_,cell_l B0 1,_,cell_l B0 2,begin8_ok (wf_u64 ha) fun h1 wb Q1 M1 N1=>⟨_,rfl,fun J3 hJ3=>pF rfl ?_⟩⟩
 have g5:=usual7_good a b d
 generalize usual7 a b d=c at N1 g5
 have W0:=gi0 g5
 generalize BU0 c=x0 at N1 W0
 have I1:=I0.new N1
 refine lives7_ok (T0.upd I1.u id) fun h2 u2=>⟨_,rfl,hJ3 _ _ (iF rfl fun J4 hJ4 L6 hL6=>?_)⟩
 have I2:=I1.quiet u2
 have I2:Hold w.heap h2 [wpR c wb Q1 M1 x0 (fun _=>-1) D0]:=I2.sub (.cons_cons _ (.cons _ .slnil))
 have loop:∀(k i:Nat) (hx:Heap) (Q:SL) (M:RW7) (x:BU) (hp:Nat→Int) (D:DS) (xs:List Int) (tp:Option Addr) (tc:Nat),i+k=n→GI c x hp D→xs.length≤i→i≤600 →
   Hold w.heap hx [slR tp xs.length tc 1 (uL xs),wpR c wb Q M x hp D]→L6 [.slice p n cp,gptr wb,.slice tp xs.length tc,.int .i64 (i:Int)] hx:=by
  intro k
  induction k with
  | zero =>
   intro i hx Q M x hp D xs tp tc hi G hl h4 I
   exact hL6 _ _ _ _ _ _ _ _ _ fun J7 hJ7=>qF' (decide_eq_false (by omega)) (hJ7 _ _ (iF rfl (hJ4 _ _ (looks8_ok G (I.at 1) fun h' S=>⟨_,rfl,hfin _ (I.step 1 S).u⟩))))
  | succ k ih =>
   intro i hx Q M x hp D xs tp tc hi G hl h4 I
   refine hL6 _ _ _ _ _ _ _ _ _ fun J7 hJ7=>qT (decide_eq_true (by omega)) (hJ7 _ _ ?_)
   by_cases h600:(i:Int)<600
   case neg=>exact iF (decide_eq_false h600) (hJ4 _ _ (looks8_ok G (I.at 1) fun h' S=>⟨_,rfl,hfin _ (I.step 1 S).u⟩))
   refine iT (decide_eq_true h600) fun J8 hJ8=>?_
   have ewi:IntKind.wrap .i64 ((i:Int)+1)=((i+1:Nat):Int):=by rw [IntKind.wrap_i64];omega
   have next:∀(hy:Heap) (Q':SL) (M':RW7) (x':BU) (hp':Nat→Int) (D':DS) (xs':List Int) (tp':Option Addr) (tc':Nat),GI c x' hp' D'→xs'.length≤i+1 →
     Hold w.heap hy [slR tp' xs'.length tc' 1 (uL xs'),wpR c wb Q' M' x' hp' D']→J8 [.slice p n cp,gptr wb,.slice tp' xs'.length tc',.int .i64 (i:Int)] hy:=fun hy Q' M' x' hp' D' xs' tp' tc' G' hl' I'=>by
    refine hJ8 _ _ _ _ _ _ _ _ _ ?_
    rw [ewi]
    exact ih (i+1) hy Q' M' x' hp' D' xs' tp' tc' (by omega) G' hl' (by omega) I'
   rcases hr with hr | ⟨b0,off,rfl,hr⟩
   ·omega
   obtain ⟨v0,c0,z0,rfl,w0⟩:=hr i (by omega) 0 (by omega)
   obtain ⟨v1,c1,z1,rfl,w1⟩:=hr i (by omega) 1 (by omega)
   obtain ⟨v2,c2,z2,rfl,w2⟩:=hr i (by omega) 2 (by omega)
   obtain ⟨v3,c3,z3,rfl⟩:=hr i (by omega) 3 (by omega)
   obtain ⟨v4,c4,z4,rfl,w4⟩:=hr i (by omega) 4 (by omega)
   have up:∀{j:Nat} {v:Value},cellAt w.heap ⟨b0,off+i*5+j,none⟩=some v→cellAt hx ⟨b0,off+i*5+j,none⟩=some v:=fun h=>cellAt_upd h I.u id
   have ea:(⟨b0,off,none⟩ : Addr).add (Int.toNat ((i:Nat):Int)*5)=⟨b0,off+i*5,none⟩:=by simp only [add_mk,Int.toNat_natCast]
   refine ⟨_,rfl,by omega,by omega,?_⟩
   rw [ea]
   refine ⟨_,up c0,_,by rw [add_mk];exact up c1,_,by rw [add_mk];exact up c2,_,by rw [add_mk];exact up c3,_,by rw [add_mk];exact up c4,?_⟩
   have N1:=box_l hx [.int .i64 0,.int .i64 0,.int .i64 0,.bool false,.int .u64 0] T.T_croftlaw7_Step
   try dsimp only
   generalize Array.push hx (.cells (List.toArray [.int .i64 0,.int .i64 0,.int .i64 0,.bool false,.int .u64 0]) T.T_croftlaw7_Step)=h7 at N1 ⊢
   obtain ⟨b5,eb5⟩ : ∃b5,b5=Array.size hx:=⟨_,rfl⟩
   rw [←eb5] at N1 ⊢
   have I7:=I.new N1
   obtain ⟨w8,S8⟩:=assign_l (I7.at 0) (stL z0 z1 z2 z3 z4)
   have I8:=I7.step 0 S8
   refine ⟨w8,?_⟩
   try dsimp only
   generalize setCs h7 ⟨b5,0,none⟩ 0 [.int .i64 z0,.int .i64 z1,.int .i64 z2,.bool z3,.int .u64 z4]=h8 at I8 ⊢
   have I8:Hold w.heap h8 [lR b5 (stL z0 z1 z2 z3 z4),slR tp xs.length tc 1 (uL xs),wpR c wb Q M x hp D]:=I8
   have B8:=I8.at 0
   have u4:U64 z4:=wf_u64 w4
   refine ⟨_,cell_l B8 4,fun J11 hJ11=>⟨_,cell_l B8 2,fun J43 hJ43=>?_⟩⟩
   have keep:∀(hy:Heap) (q:Int) (Q':SL) (M':RW7) (x':BU) (hp':Nat→Int) (D':DS),GI c x' hp' D'→Hold w.heap hy [slR tp xs.length tc 1 (uL xs),wpR c wb Q' M' x' hp' D'] →
     ∃os ys:List Value,AppPre (Array.push hy (.cells #[.int .u64 q] T.T_uint64)) tp xs.length tc (some ⟨hy.size,0,none⟩) 1 1 8 os ys∧∀(p':Option Addr) (c':Nat) (h':Heap),AppRes (Array.push hy (.cells #[.int .u64 q] T.T_uint64)) tp xs.length tc 1 [.int .u64 0] T.T_uint64 os ys p' c' h' →
      J8 [.slice (some ⟨b0,off,none⟩) n cp,gptr wb,.slice p' (xs.length+1) c',.int .i64 (i:Int)] h':=by
    intro hy q Q' M' x' hp' D' G' I'
    obtain ⟨os,q1,q2⟩:=sl_app1 (zs:=[.int .u64 0]) (v:=.int .u64 q) (b:=8) (e:=T.T_uint64) (T:=T.T_uint64) (I'.at 0) rfl rfl (by omega)
    refine ⟨os,_,q1,fun p' c' h12 res=>?_⟩
    have el:(xs++[q]).length=xs.length+1:=by simp
    have F4:=I'.step 0 (R:=slR tp xs.length tc 1 (uL xs)) (R':=slR p' (xs++[q]).length c' 1 (uL (xs++[q]))) ((q2 p' c' h12 res).conv (fun P=>by rw [el];exact sl_congr P fun j hj=>uL_snoc xs _ j (by omega)) fun _ e=>e)
    have:=next h12 Q' M' x' hp' D' (xs++[q]) p' c' G' (by omega) F4
    rw [el] at this
    exact this
   have body:∀pa,U64 pa→J11 [.slice (some ⟨b0,off,none⟩) n cp,gptr wb,.slice tp xs.length tc,.int .i64 (i:Int),.pointer (some ⟨b5,0,none⟩),.int .u64 pa] h8:=by
    intro pa hpa
    refine hJ11 _ _ _ _ _ _ _ _ _ _ _ ⟨_,cell_l0 B8,?_⟩
    try dsimp only
    have D9:Hold w.heap h8 [lR b5 (stL z0 z1 z2 z3 z4),slR tp xs.length tc 1 (uL xs),w7R c wb (dvD c M x.m.o D) Q x hp,rfD M x.m.o D]:=(I8.front3.split).perm (List.perm_append_comm (l₁:=[_,_]) (l₂:=[_,_]))
    have HW:(w7R c wb (dvD c M x.m.o D) Q x hp).P h8:=D9.at 2
    have put:∀(bx:Nat) (h10:Heap) (M':RW7) (D':DS) (Q':SL) (x':BU) (hp':Nat→Int),x'.m.o=x.m.o →
      Hold w.heap h10 [lR bx (dvD c M' x.m.o D'),lR b5 (stL z0 z1 z2 z3 z4),slR tp xs.length tc 1 (uL xs),w7R c wb (dvD c M x.m.o D) Q' x' hp',rfD M' x.m.o D'] →
      WrN h10 ((⟨wb,0,none⟩ : Addr).add 5) 9∧Hold w.heap (setCs h10 ((⟨wb,0,none⟩ : Addr).add 5) 0 (dvD c M' x.m.o D')) [lR bx (dvD c M' x.m.o D'),slR tp xs.length tc 1 (uL xs),wpR c wb Q' M' x' hp' D']:=by
     intro bx h10 M' D' Q' x' hp' o' I
     obtain ⟨w5,S5⟩:=w7_put (d':=dvD c M' x.m.o D') (I.at 3) rfl rfl
     have I2:=I.step 3 S5
     generalize setCs h10 ((⟨wb,0,none⟩ : Addr).add 5) 0 (dvD c M' x.m.o D')=h11 at I2 ⊢
     have I2:Hold w.heap h11 [lR bx (dvD c M' x.m.o D'),lR b5 (stL z0 z1 z2 z3 z4),slR tp xs.length tc 1 (uL xs),w7R c wb (dvD c M' x.m.o D') Q' x' hp',rfD M' x.m.o D']:=I2
     have I3:Hold w.heap h11 [lR bx (dvD c M' x.m.o D'),slR tp xs.length tc 1 (uL xs),w7R c wb (dvD c M' x.m.o D') Q' x' hp',rfD M' x.m.o D']:=I2.swap.drop
     have I4:=h8_join (I3.perm (rs':=[w7R c wb (dvD c M' x.m.o D') Q' x' hp',rfD M' x.m.o D',lR bx (dvD c M' x.m.o D'),slR tp xs.length tc 1 (uL xs)]) (List.perm_append_comm (l₁:=[_,_]) (l₂:=[_,_]))) o'
     exact ⟨w5,I4.perm (List.perm_append_comm (l₁:=[_,_]) (l₂:=[_]))⟩
    by_cases e0:z0=0
    ·refine iT (by simp [e0]) fun J12 hJ12=>?_
     have after:∀(bx:Nat) (hy:Heap) (M':RW7) (D':DS) (r:Int) (g:Bool) (e:Int),TakeD7 c x D z1 z3 D' r g e →
       Hold w.heap hy [lR bx (dvD c M' x.m.o D'),lR b5 (stL z0 z1 z2 z3 z4),slR tp xs.length tc 1 (uL xs),w7R c wb (dvD c M x.m.o D) Q x hp,rfD M' x.m.o D'] →
       J12 [.slice (some ⟨b0,off,none⟩) n cp,gptr wb,.slice tp xs.length tc,.int .i64 (i:Int),.pointer (some ⟨b5,0,none⟩),.pointer (some ⟨bx,0,none⟩),.int .u64 r,.bool g,.int .i64 e] hy:=by
      intro bx hy M' D' r g e A I
      refine hJ12 _ _ _ _ _ _ _ _ _ _ _ _ _ _ ⟨_,rfl,_,w_c4 (I.at 3),_,cell_l (I.at 1) 1,_,cell_l (I.at 1) 3,?_⟩
      refine realTake7 G (TabH.of T0 I 3) (I.at 3) A fun x' hp' h10 Q' hQ G' o' S=>⟨_,_,_,rfl,?_⟩
      have I10:=I.step 3 S
      have B10:=I10.at 0
      obtain ⟨w5,I11⟩:=put bx h10 M' D' Q' x' hp' o' I10
      refine ⟨_,cell_l0 B10,_,cell_l B10 1,_,cell_l B10 2,_,cell_l B10 3,_,cell_l B10 4,_,_,_,cell_l B10 5,_,_,_,cell_l B10 6,_,_,_,cell_l B10 7,_,_,_,cell_l B10 8,_,rfl,w5,fun J15 hJ15=>pF (by simp) (hJ15 _ _ fun J16 hJ16=>pF (by simp) (hJ16 _ _ (iF (by simp) ?_)))⟩
      by_cases ee:e=0
      ·exact iT (by simp [ee]) (keep _ r Q' M' x' hp' D' G' I11.drop)
      ·exact iF (by simpa using ee) (next _ Q' M' x' hp' D' xs tp tc G' (by omega) I11.drop)
     refine ⟨_,rfl,m9_ok HW ⟨_,cell_l B8 1,_,cell_l B8 3,?_,?_⟩⟩
     ·refine refTake7 G (D9.at 3) fun h10 M' D' r g e A S=>⟨_,_,_,_,_,_,_,_,_,_,_,_,_,_,_,_,_,_,_,_,rfl,?_⟩
      have D10:=D9.step 3 S
      have N3:=box_l h10 z7 T.T_croftref7_Slab
      try dsimp only
      generalize Array.push h10 (.cells (List.toArray z7) T.T_croftref7_Slab)=h11 at N3 ⊢
      have D11:=D10.new N3
      obtain ⟨w4',S4⟩:=assign_l (D11.at 0) (dvD c M' x.m.o D')
      exact ⟨cell_l (D11.at 1) 3,cell_l (D11.at 1) 1,d9_ok (D11.at 3) ⟨w4',after _ _ M' D' r g e A (D11.step 0 S4)⟩⟩
     ·have N3:=box_l h8 z7 T.T_croftref7_Slab
      try dsimp only
      generalize Array.push h8 (.cells (List.toArray z7) T.T_croftref7_Slab)=h11 at N3 ⊢
      have D11:=D9.new N3
      refine ⟨cell_l (D11.at 1) 3,cell_l (D11.at 1) 1,d9_ok (D11.at 3) (refTake7 G (D11.at 4) fun h10 M' D' r g e A S=>⟨_,_,_,_,_,_,_,_,_,_,_,_,_,_,_,_,_,_,_,_,rfl,?_⟩)⟩
      have D12:=D11.step 4 S
      obtain ⟨w4',S4⟩:=assign_l (D12.at 0) (dvD c M' x.m.o D')
      exact ⟨w4',after _ _ M' D' r g e A (D12.step 0 S4)⟩
    refine iF (by simpa using e0) ⟨_,cell_l0 B8,?_⟩
    by_cases e3:z0=3
    ·refine iT (by simp [e3]) fun J25 hJ25=>?_
     have after:∀(bx:Nat) (hy:Heap) (M':RW7) (fl':Nat→List Nat) (V':List PBk) (P' q:Nat) (g:Bool) (e:Int),NeedD c x D.fl D.V z1 z3 fl' V' P' q g e →
       Hold w.heap hy [lR bx (dvD c M' x.m.o ⟨P',fl',V',D.cl,D.fr,D.pl,D.ps⟩),lR b5 (stL z0 z1 z2 z3 z4),slR tp xs.length tc 1 (uL xs),w7R c wb (dvD c M x.m.o D) Q x hp,rfD M' x.m.o ⟨P',fl',V',D.cl,D.fr,D.pl,D.ps⟩] →
       J25 [.slice (some ⟨b0,off,none⟩) n cp,gptr wb,.slice tp xs.length tc,.int .i64 (i:Int),.pointer (some ⟨b5,0,none⟩),.pointer (some ⟨bx,0,none⟩),.int .i64 (q:Int),.bool g,.int .i64 e] hy:=by
      intro bx hy M' fl' V' P' q g e A I
      refine hJ25 _ _ _ _ _ _ _ _ _ _ _ _ _ _ ⟨_,rfl,_,w_c3 (I.at 3),_,cell_l (I.at 1) 1,_,cell_l (I.at 1) 3,?_⟩
      refine realNeed7 G (I.at 3) A fun r x' h10 Q' hQ G' o' hq0 hqn S=>⟨_,_,_,rfl,?_⟩
      have I10:=I.step 3 S
      have B10:=I10.at 0
      obtain ⟨w5,I11⟩:=put bx h10 M' ⟨P',fl',V',D.cl,D.fr,D.pl,D.ps⟩ Q' x' hp o' I10
      refine ⟨_,cell_l0 B10,_,cell_l B10 1,_,cell_l B10 2,_,cell_l B10 3,_,cell_l B10 4,_,_,_,cell_l B10 5,_,_,_,cell_l B10 6,_,_,_,cell_l B10 7,_,_,_,cell_l B10 8,_,rfl,w5,?_⟩
      try dsimp only
      generalize setCs h10 ((⟨wb,0,none⟩ : Addr).add 5) 0 (dvD c M' x.m.o ⟨P',fl',V',D.cl,D.fr,D.pl,D.ps⟩)=h11 at I11 ⊢
      have B11:=I11.at 0
      refine fun J28 hJ28=>pF (by simp) (hJ28 _ _ fun J29 hJ29=>pF (by simp) fun J34 hJ34=>?_)
      have ok29:∀h12,Upd NoB h11 h12→J29 false h12:=by
       intro h12 u12
       have I12:=I11.quiet u12
       refine hJ29 _ _ fun J30 hJ30=>pF rfl fun J33 hJ33=>?_
       have ok30:J30 false h12:=by
        refine hJ30 _ _ (iF rfl ?_)
        by_cases ee:e=0
        ·exact iT (by simp [ee]) (keep _ r Q' M' x' hp _ G' I12.drop)
        ·exact iF (by simpa using ee) (next _ Q' M' x' hp _ xs tp tc G' (by omega) I12.drop)
       by_cases ee:e=0
       ·exact qF' (by simp [ee]) (hJ33 _ _ ok30)
       ·exact qT (by simpa using ee) (hJ33 _ _ (by rw [hqn ee];exact ok30))
      by_cases ee:e=0
      ·obtain ⟨er,hpg⟩:=hq0 ee
       refine qT (by simp [ee]) ⟨_,cell_l0 B11,_,cell_l B11 1,_,cell_l B11 2,_,cell_l B11 3,_,cell_l B11 4,_,_,_,cell_l B11 5,_,_,_,cell_l B11 6,_,_,_,cell_l B11 7,_,_,_,cell_l B11 8,at7_ok G'.i.w.g G'.i.w.ok.m (by omega) fun h12 u12=>⟨_,rfl,hJ34 _ _ ?_⟩⟩
       rw [er]
       simpa using ok29 h12 u12
      ·exact qF' (by simpa using ee) (hJ34 _ _ (ok29 h11 (Upd.refl _ _)))
     refine ⟨_,rfl,m9_ok HW ⟨_,cell_l B8 1,_,cell_l B8 3,?_,?_⟩⟩
     ·refine refNeed7 G (D9.at 3) fun h10 M' fl' V' P' q g e A S=>⟨_,_,_,_,_,_,_,_,_,_,_,_,_,_,_,_,_,_,_,_,rfl,?_⟩
      have D10:=D9.step 3 S
      have N3:=box_l h10 z7 T.T_croftref7_Slab
      try dsimp only
      generalize Array.push h10 (.cells (List.toArray z7) T.T_croftref7_Slab)=h11 at N3 ⊢
      have D11:=D10.new N3
      obtain ⟨w4',S4⟩:=assign_l (D11.at 0) (dvD c M' x.m.o ⟨P',fl',V',D.cl,D.fr,D.pl,D.ps⟩)
      exact ⟨cell_l (D11.at 1) 3,cell_l (D11.at 1) 1,d9_ok (D11.at 3) ⟨w4',after _ _ M' fl' V' P' q g e A (D11.step 0 S4)⟩⟩
     ·have N3:=box_l h8 z7 T.T_croftref7_Slab
      try dsimp only
      generalize Array.push h8 (.cells (List.toArray z7) T.T_croftref7_Slab)=h11 at N3 ⊢
      have D11:=D9.new N3
      refine ⟨cell_l (D11.at 1) 3,cell_l (D11.at 1) 1,d9_ok (D11.at 3) (refNeed7 G (D11.at 4) fun h10 M' fl' V' P' q g e A S=>⟨_,_,_,_,_,_,_,_,_,_,_,_,_,_,_,_,_,_,_,_,rfl,?_⟩)⟩
      have D12:=D11.step 4 S
      obtain ⟨w4',S4⟩:=assign_l (D12.at 0) (dvD c M' x.m.o ⟨P',fl',V',D.cl,D.fr,D.pl,D.ps⟩)
      exact ⟨w4',after _ _ M' fl' V' P' q g e A (D12.step 0 S4)⟩
    refine iF (by simpa using e3) ⟨_,cell_l0 B8,_,cell_l B8 1,_,cell_l B8 2,_,cell_l B8 3,_,cell_l B8 4,?_⟩
    refine step8_ok hpa G (TabH.of T0 I8 2) (I8.at 2) fun h10 Q' M' x' hp' D' G' S=>⟨_,rfl,iF rfl ?_⟩
    exact next h10 Q' M' x' hp' D' xs tp tc G' (by omega) (I8.step 2 S).drop
   have no:J43 false h8:=hJ43 _ _ (iF rfl (body z4 u4))
   by_cases g1:z2>0
   ·refine qT (decide_eq_true g1) ⟨_,cell_l B8 2,?_⟩
    by_cases g2:z2≤(xs.length:Int)
    ·have ew:IntKind.wrap .i64 (z2-1)=((z2.toNat-1:Nat):Int):=by rw [IntKind.wrap_i64];omega
     rcases sl_uL (I8.at 1) with e | ⟨bt,o,etp,R1⟩
     ·omega
     refine hJ43 _ _ (iT (decide_eq_true g2) ⟨_,cell_l B8 2,_,etp,by rw [ew];omega,by rw [ew];omega,_,by rw [ew,add_mk,Int.toNat_natCast,Nat.mul_one];exact R1 _ (by omega),_,cell_l B8 4,body _ (wUb _)⟩)
    ·rw [decide_eq_false g2];exact no
   ·exact qF' (decide_eq_false g1) no
 exact loop n 0 h2 Q1 M1 x0 _ D0 [] none 0 (Nat.zero_add _) W0 (Nat.le_refl _) (by omega) (I2.new ⟨Upd.refl _ _,sl_nil _ _ _,fun b e=>absurd e (sl_nil_fp b)⟩)
end Go.Proofs.YteemmpkhdllapaaGreatDoor
