/- Texts of this proof, some in one. No condition. -/
import Derived.Test.YteemmpkhdllapaaGreatDoorY13
import Derived.Test.YteemmpkhdllapaaGreatDoorY11
import Derived.Test.YteemmpkhdllapaaGreatDoorY2
set_option linter.unusedSimpArgs false
set_option linter.unusedVariables false
namespace Go.Proofs.YteemmpkhdllapaaGreatDoor
open Go.V Classical
theorem si0 {c:Cfg} (g:c.Good) (cl:Nat→Nat) (fr:Nat→List Nat):SI c (BU0 c) (fun _=>-1) noS (fun _=>[]) [] cl fr (fun _=>[]) :=
 ⟨⟨rep0 g,by show 0=0*_;omega,g⟩,fun _ h=>h.elim,fun _ h=>h.elim,fun _ _=>⟨.nil,fun _=>⟨fun h=>(by cases h),fun h=>h.1.elim⟩⟩,fun _ _=>rfl,fun _ h=>h.elim,fun _ _=>trivial,fun _ h=>h.elim,fun _ h=>h.elim⟩
section
variable {w₀:World} {h h':Heap} {c:Cfg} {wb:Nat} {d:List Value} {Q Q':SL} {x x':BU} {hp hp':Nat→Int} {S:Nat→Prop} {fl:Nat→List Nat} {L L':List PBk} {cl:Nat→Nat} {fr pl:Nat→List Nat} {p k q j:Nat} {K:Value→Heap→Prop}
theorem w_s (H:(w7R c wb d Q x hp).P h):(sR c Q x hp).P h:=H.2.1
theorem w_c0 (H:(w7R c wb d Q x hp).P h):cellAt h (⟨wb,0,none⟩ : Addr)=some (.int .u64 c.base):=cell_l0 (l:=w7L c Q d) H.1
theorem w_c2 (H:(w7R c wb d Q x hp).P h):cellAt h ((⟨wb,0,none⟩ : Addr).add 2)=some (.int .i64 c.order):=cell_l (l:=w7L c Q d) H.1 2
theorem w_c3 (H:(w7R c wb d Q x hp).P h):cellAt h ((⟨wb,0,none⟩ : Addr).add 3)=some (gptr Q.pl.pb):=cell_l (l:=w7L c Q d) H.1 3
theorem w_c4 (H:(w7R c wb d Q x hp).P h):cellAt h ((⟨wb,0,none⟩ : Addr).add 4)=some (gptr Q.sb):=cell_l (l:=w7L c Q d) H.1 4
theorem w_T (T:TabH h (w7R c wb d Q x hp)):TabH h (sR c Q x hp):=⟨T.t,fun e=>T.z (.inr e)⟩
theorem w_lim (H:(w7R c wb d Q x hp).P h):(x.st.n:Int)≤c.limit:=(s_sp (w_s H)).nl
theorem w_lift (H:(w7R c wb d Q x hp).P h) (hS:SL.Same Q Q') (s:Stp h h' (sR c Q x hp) (sR c Q' x' hp')):Stp h h' (w7R c wb d Q x hp) (w7R c wb d Q' x' hp'):=by
 have T:=s.right H
 unfold w7R w7L
 rw [hS.sb,hS.pb]
 exact T
theorem WS.page (W:WS S c x fl ((q,0)::L)) {b:PBk} (hb:b∈L) {o:Nat} (h1:4096*b.1≤o) (h2:o<4096*(b.1+2 ^ b.2)):¬(4096*q≤o∧o<4096*(q+1)):=fun ho=>by
 have nd:=List.nodup_cons.1 W.nd
 have hc:Cov b q:=⟨by omega,by generalize b.1+2 ^ b.2=z at h2 ⊢;omega⟩
 have:=W.rep.uniq0 (List.mem_cons_self ..) (List.mem_cons_of_mem _ hb) hc
 exact nd.1 (this▸hb)
theorem WS.fresh (W:WS S c x fl ((q,0)::L)) (h:∀p,S p→(p,0)∈L):¬S q:=fun hq=>(List.nodup_cons.1 W.nd).1 (h q hq)
theorem takeX {deny:Bool} (I:SI c x hp S fl L cl fr pl) (T:TabH h (w7R c wb d Q x hp)) (H:(w7R c wb d Q x hp).P h) (hk:k<8)
  (h1:∀q l' j f,pl k=q::l'→fr q=j::f→∀x' hp' h' Q',SL.Same Q Q'→SI c x' hp' S fl L cl (fset fr q f) (fset pl k (if f=[] then l' else q::l'))→x'.st=x.st→x'.m.n=x.m.n→x'.m.o=x.m.o →
   Stp h h' (w7R c wb d Q x hp) (w7R c wb d Q' x' hp')→K (.tuple #[.int .u64 (adr c q+((j*wdt k:Nat):Int)),.bool false,.int .i64 0]) h')
  (h2:pl k=[]→(∀j,j≤x.m.o→fl j=[])→(deny=true∨(x.st.n:Int)=c.limit)→∀h' Q',SL.Same Q Q'→Stp h h' (w7R c wb d Q x hp) (w7R c wb d Q' x hp)→K (.tuple #[.int .u64 0,.bool false,.int .i64 2]) h')
  (h3:pl k=[]→∀q b fl' x' hp' h' Q',SL.Same Q Q' →
   ((b=false∧∃j l,j≤x.m.o∧fl j=q::l∧(∀i,i<j→fl i=[])∧fl'=aCut q 0 (fset fl j l) (j-0)∧x'.m.n=x.m.n∧x'.st.n=x.st.n) ∨
    (b=true∧(∀j,j≤x.m.o→fl j=[])∧deny=false∧(x.st.n:Int)<c.limit∧q=x.m.n∧fl'=aCut x.m.n 0 (fset fl x.m.o []) (x.m.o-0)∧x'.m.n=x.m.n+2 ^ x.m.o∧x'.st.n=x.st.n+1)) →
   SI c x' hp' (fun p=>S p∨p=q) fl' ((q,0)::L) (fset cl q k) (fset fr q (List.range' 1 (cnt k-1))) (fset pl k [q])→x'.m.o=x.m.o→Keep L x.st x'.st →
   Stp h h' (w7R c wb d Q x hp) (w7R c wb d Q' x' hp')→K (.tuple #[.int .u64 (adr c q),.bool b,.int .i64 0]) h') :
  CallV Tryz.prog w₀ F.slab_Slab_Take [gptr Q.sb,.int .i64 (k:Int),.bool deny] h K:=by
 refine take_ok hk I.ki (w_T T) (w_s H) fun h4 Q4 hS4 W4 S4=>?_
 have T4:=w_lift H hS4 S4
 have hhd:=I.hd k hk
 cases hpl:pl k with
 | cons q l' =>
  have hm:=(I.plS hk (p:=q) (by rw [hpl];exact List.mem_cons_self ..))
  cases hfr:fr q with
  | nil=>exact absurd hfr hm.2.2.2.2
  | cons j f =>
   have hq:hp k=(q:Int):=by rw [hhd,hpl];rfl
   obtain ⟨t1,t2,t3,t4,t5⟩:=sim_takeC I hk hpl hfr
   have e:takeSU c x hp k deny=((takeC c x hp q k).1,(takeC c x hp q k).2.1,(takeC c x hp q k).2.2,false,0):=by
    unfold takeSU;rw [if_pos (by omega),hq]
   rw [e] at T4 ⊢
   simp only [t1]
   exact h1 q l' j f hpl hfr _ _ h4 Q4 hS4 t2 t3 t4 t5 T4
 | nil =>
  have hneg:¬0≤hp k:=by rw [hhd,hpl];decide
  rcases sim_need I.w (w_lim H) 0 deny with ⟨ho,_⟩ | ⟨on,eo,ho,hcase⟩
  ·exact absurd ho (by omega)
  have eo:on=0:=by omega
  subst eo
  have fin:∀(q:Nat) (b:Bool) (fl':Nat→List Nat),(needU c x 0 deny).2=(adr c q,b,0)→WS S c (needU c x 0 deny).1 fl' ((q,0)::L)→(needU c x 0 deny).1.m.o=x.m.o→Keep L x.st (needU c x 0 deny).1.st→PK L x.m (needU c x 0 deny).1.m →
    (∀x':BU,x'.m.n=(needU c x 0 deny).1.m.n→x'.st.n=(needU c x 0 deny).1.st.n →
    ((b=false∧∃j l,j≤x.m.o∧fl j=q::l∧(∀i,i<j→fl i=[])∧fl'=aCut q 0 (fset fl j l) (j-0)∧x'.m.n=x.m.n∧x'.st.n=x.st.n) ∨
    (b=true∧(∀j,j≤x.m.o→fl j=[])∧deny=false∧(x.st.n:Int)<c.limit∧q=x.m.n∧fl'=aCut x.m.n 0 (fset fl x.m.o []) (x.m.o-0)∧x'.m.n=x.m.n+2 ^ x.m.o∧x'.st.n=x.st.n+1))) →
    K (.tuple #[.int .u64 (takeSU c x hp k deny).2.2.1,.bool (takeSU c x hp k deny).2.2.2.1,.int .i64 (takeSU c x hp k deny).2.2.2.2]) h4:=by
   intro q b fl' e2 W' o' K' P' hcase
   have hqS:=W'.fresh fun p hp=>(I.w.rep.ps p hp).1
   have I1:=I.pool' W' K' P'
   obtain ⟨t1,t2,t3,t4,t5,t6⟩:=sim_bornC I1 hk (List.mem_cons_self ..) hqS hpl
   have eq:(((needU c x 0 deny).2.1-c.base) / 4096).toNat=q:=by rw [e2];unfold adr;omega
   have e:takeSU c x hp k deny=((takeC c (bornU c (needU c x 0 deny).1 hp q k).1 (bornU c (needU c x 0 deny).1 hp q k).2 q k).1,(takeC c (bornU c (needU c x 0 deny).1 hp q k).1 (bornU c (needU c x 0 deny).1 hp q k).2 q k).2.1,
     (takeC c (bornU c (needU c x 0 deny).1 hp q k).1 (bornU c (needU c x 0 deny).1 hp q k).2 q k).2.2,b,0):=by
    unfold takeSU
    rw [if_neg hneg,if_neg (by rw [e2];simp)]
    simp only [eq]
    rw [e2]
   rw [e] at T4 ⊢
   simp only [t1]
   refine h3 hpl q b fl' _ _ h4 Q4 hS4 (hcase _ t3 t5) t2 (t4.trans o') ?_ T4
   intro z hz o h1 h2
   rw [t6 o (W'.page hz h1 h2)]
   exact K' z hz o h1 h2
  rcases hcase with ⟨j,q,l,j1,j2,hF,hi,e2,W',M⟩ | ⟨hF,hd,e2⟩ | ⟨hF,hd,hl,e2,W',o',n',s',K',P'⟩
  ·exact fin q false _ e2 W' M.o M.k.2 M.pk fun x' n1 s1=>.inl ⟨rfl,j,l,j2,hF,fun i h=>hi i (by omega) h,rfl,n1.trans M.n,s1.trans M.k.1⟩
  ·have e:takeSU c x hp k deny=(x,hp,0,false,2):=by unfold takeSU;rw [if_neg hneg,e2,if_pos (by simp)]
   rw [e] at T4 ⊢
   exact h2 hpl (fun j hj=>hF j (by omega) hj) hd h4 Q4 hS4 T4
  ·exact fin x.m.n true _ e2 W' o' K' P' fun x' n1 s1=>.inr ⟨rfl,fun j hj=>hF j (by omega) hj,hd,hl,rfl,rfl,n1.trans n',s1.trans s'⟩
theorem SI.lens (I:SI c x hp S fl L cl fr pl) (h:S q) (hj:j<cnt (cl q)) (hn:j∉fr q):(fr q).length+1≤cnt (cl q):=by
 obtain ⟨h1,h2⟩:=I.nd q h
 have:=List.Nodup.length_le_of_subset (List.nodup_cons.2 ⟨hn,h1⟩) (l₂:=List.range (cnt (cl q))) fun i hi=>by
  rcases List.mem_cons.1 hi with e | e
  ·exact List.mem_range.2 (e▸hj)
  ·exact List.mem_range.2 (h2 i e)
 simpa using this
theorem giveX {a:Int} (ha:U64 a) (I:SI c x hp S fl L cl fr pl) (T:TabH h (w7R c wb d Q x hp)) (H:(w7R c wb d Q x hp).P h)
  (hn:(∀q j,S q→j<cnt (cl q)→j∉fr q→a≠adr c q+((j*wdt (cl q):Nat):Int))→∀h',Stp h h' (w7R c wb d Q x hp) (w7R c wb d Q x hp)→K (.int .i64 1) h')
  (hc:∀q j,S q→j<cnt (cl q)→j∉fr q→a=adr c q+((j*wdt (cl q):Nat):Int)→(fr q).length+1<cnt (cl q)→∀x' hp' h',SI c x' hp' S fl L cl (fset fr q (j::fr q)) (fset pl (cl q) (if fr q=[] then q::pl (cl q) else pl (cl q))) →
   x'.m.n=x.m.n→x'.m.o=x.m.o→x'.st.n=x.st.n→(∀o,¬(4096*q+j*wdt (cl q)≤o∧o<4096*q+j*wdt (cl q)+8)→x'.st.M o=x.st.M o)→Stp h h' (w7R c wb d Q x hp) (w7R c wb d Q x' hp')→K (.int .i64 0) h')
  (hl:∀q j L',S q→j<cnt (cl q)→j∉fr q→a=adr c q+((j*wdt (cl q):Nat):Int)→(fr q).length+1=cnt (cl q)→L.Perm ((q,0)::L')→∀x' hp' h',SI c x' hp' (fun p=>S p∧p≠q) (aUp fl q 0 x.m.o) L' cl (fset fr q []) (fset pl (cl q) ((pl (cl q)).filter (·≠q))) →
   x'.m.n=x.m.n→x'.m.o=x.m.o→Kept L' x.st x'.st→Stp h h' (w7R c wb d Q x hp) (w7R c wb d Q x' hp')→K (.int .i64 0) h') :
  CallV Tryz.prog w₀ F.slab_Slab_Give [gptr Q.sb,.int .u64 a] h K:=by
 refine sgive_ok ha I.ki (w_T T) (w_s H) fun h1 W1 S1=>?_
 have T1:=w_lift H (.refl Q) S1
 cases hf:findU c x.m a with
 | none =>
  have e:giveSU c x hp a=(x,hp,1):=by unfold giveSU;rw [hf]
  rw [e] at T1 ⊢
  refine hn (fun q j hS hj hnj ea=>?_) h1 T1
  rw [ea,findU_cell I hS hj hnj] at hf
  cases hf
 | some r =>
  obtain ⟨q,j⟩:=r
  obtain ⟨hS,hj,hnj,ea⟩:=findU_some I hf
  have hle:=I.lens hS hj hnj
  by_cases hlt:(fr q).length+1<cnt (cl q)
  ·obtain ⟨g0,g1,g2,g3,g4,g5⟩:=sim_giveC I hS rfl hj hnj hlt ea
   rw [g0]
   exact hc q j hS hj hnj ea hlt _ _ h1 g1 g2 g3 g4 g5 T1
  ·have hL:L.Perm ((q,0)::L.erase (q,0)):=List.perm_cons_erase (I.w.rep.ps q hS).1
   obtain ⟨g0,g1,g2,g3,g4⟩:=sim_giveL I hS rfl hj hnj (by omega) ea hL
   rw [g0]
   exact hl q j _ hS hj hnj ea (by omega) hL _ _ h1 g1 g2 g3 g4 T1
theorem sizeX {a:Int} (ha:U64 a) (I:SI c x hp S fl L cl fr pl) (T:TabH h (w7R c wb d Q x hp)) (H:(w7R c wb d Q x hp).P h)
  (hn:(∀q j,S q→j<cnt (cl q)→j∉fr q→a≠adr c q+((j*wdt (cl q):Nat):Int))→∀h',Upd NoB h h'→K (.int .u64 0) h')
  (hc:∀q j,S q→j<cnt (cl q)→j∉fr q→a=adr c q+((j*wdt (cl q):Nat):Int)→∀h',Upd NoB h h'→K (.int .u64 (wdt (cl q):Int)) h') :
  CallV Tryz.prog w₀ F.slab_Slab_Size [gptr Q.sb,.int .u64 a] h K:=by
 refine size_ok ha I.ki (w_T T) (w_s H) fun h1 u1=>?_
 unfold sizeU
 cases hf:findU c x.m a with
 | none =>
  refine hn (fun q j hS hj hnj ea=>?_) h1 u1
  rw [ea,findU_cell I hS hj hnj] at hf
  cases hf
 | some r =>
  obtain ⟨q,j⟩:=r
  obtain ⟨hS,hj,hnj,ea⟩:=findU_some I hf
  simp only []
  rw [(I.pg q hS).k2,Int.toNat_natCast]
  exact hc q j hS hj hnj ea h1 u1
theorem needX7 {o:Int} {deny:Bool} (I:SI c x hp S fl L cl fr pl) (H:(w7R c wb d Q x hp).P h)
  (hb:(o<0∨o>x.m.o)→∀h' Q',SL.Same Q Q'→Stp h h' (w7R c wb d Q x hp) (w7R c wb d Q' x hp)→K (.tuple #[.int .u64 0,.bool false,.int .i64 1]) h')
  (hm:∀on:Nat,o=on→on≤x.m.o→(∀j,on≤j→j≤x.m.o→fl j=[])→(deny=true∨(x.st.n:Int)=c.limit)→∀h' Q',SL.Same Q Q'→Stp h h' (w7R c wb d Q x hp) (w7R c wb d Q' x hp)→K (.tuple #[.int .u64 0,.bool false,.int .i64 2]) h')
  (hg:∀on:Nat,o=on→on≤x.m.o→∀q b fl' x' h' Q',SL.Same Q Q' →
   ((b=false∧∃j l,on≤j∧j≤x.m.o∧fl j=q::l∧(∀i,on≤i→i<j→fl i=[])∧fl'=aCut q on (fset fl j l) (j-on)∧x'.m.n=x.m.n∧x'.st.n=x.st.n) ∨
    (b=true∧(∀j,on≤j→j≤x.m.o→fl j=[])∧deny=false∧(x.st.n:Int)<c.limit∧q=x.m.n∧fl'=aCut x.m.n on (fset fl x.m.o []) (x.m.o-on)∧x'.m.n=x.m.n+2 ^ x.m.o∧x'.st.n=x.st.n+1)) →
   SI c x' hp S fl' ((q,on)::L) cl fr pl→x'.m.o=x.m.o→Keep L x.st x'.st→Stp h h' (w7R c wb d Q x hp) (w7R c wb d Q' x' hp)→K (.tuple #[.int .u64 (adr c q),.bool b,.int .i64 0]) h') :
  CallV Tryz.prog w₀ F.region_Pool_Need [gptr Q.pl.pb,.int .i64 o,.bool deny] h K:=by
 refine need_u I.ki (w_s H) fun h1 Q1 hS1 W1 _ S1=>?_
 have T1:=w_lift H hS1 S1
 rcases sim_need I.w (w_lim H) o deny with ⟨ho,e⟩ | ⟨on,eo,ho,⟨j,q,l,j1,j2,hF,hi,e2,W',M⟩ | ⟨hF,hd,e⟩ | ⟨hF,hd,hl,e2,W',o',n',s',K',P'⟩⟩
 ·rw [e] at T1 ⊢;exact hb ho h1 Q1 hS1 T1
 ·rw [e2]
  exact hg on eo ho q false _ _ h1 Q1 hS1 (.inl ⟨rfl,j,l,j1,j2,hF,hi,rfl,M.n,M.k.1⟩) (I.pool' W' M.k.2 M.pk) M.o M.k.2 T1
 ·rw [e] at T1 ⊢;exact hm on eo ho hF hd h1 Q1 hS1 T1
 ·rw [e2]
  exact hg on eo ho _ true _ _ h1 Q1 hS1 (.inr ⟨rfl,hF,hd,hl,rfl,rfl,n',s'⟩) (I.pool' W' K' P') o' K' T1
theorem backX (I:SI c x hp S fl L cl fr pl) (H:(w7R c wb d Q x hp).P h) (hL:L.Perm ((p,k)::L')) (hS:¬S p)
  (hK:∀x' h',SI c x' hp S (aUp fl p k (x.m.o-k)) L' cl fr pl→Mv x x' L'→Stp h h' (w7R c wb d Q x hp) (w7R c wb d Q x' hp)→K (.int .i64 0) h') :
  CallV Tryz.prog w₀ F.region_Pool_Give [gptr Q.pl.pb,.int .u64 (adr c p),.int .i64 (k:Int)] h K:=by
 have al:=I.w.rep.til.al _ (List.mem_append_right _ (List.mem_append_left _ (hL.mem_iff.2 (List.mem_cons_self ..))))
 have n1:=I.w.ok.m.n1
 have h0:=Nat.two_pow_pos k
 simp only [] at al
 refine give_u (adr_u64 I.w.g I.w.ok.m (by omega)) I.ki (w_s H) fun h1 W1 S1=>?_
 obtain ⟨e,G⟩:=sim_give I.w.g I.w.rep hL hS
 obtain ⟨W',M⟩:=I.w.mv G
 rw [e]
 refine hK _ h1 (I.pool W' (fun q hq=>M.pk _ (W'.rep.ps q hq).1 q cov_self) fun q hq o h1 h2=>M.k.2 (q,0) (W'.rep.ps q hq).1 o h1 (by simpa using h2)) M (w_lift H (.refl Q) S1)
theorem backXN {a o:Int} (ha:U64 a) (I:SI c x hp S fl L cl fr pl) (H:(w7R c wb d Q x hp).P h) (hL:∀b∈L,¬S b.1→¬(a=adr c b.1∧o=b.2))
  (hK:∀h',Stp h h' (w7R c wb d Q x hp) (w7R c wb d Q x hp)→K (.int .i64 1) h') :
  CallV Tryz.prog w₀ F.region_Pool_Give [gptr Q.pl.pb,.int .u64 a,.int .i64 o] h K:=by
 refine give_u ha I.ki (w_s H) fun h1 W1 S1=>?_
 have e:=give_no I.w.g I.w.rep hL
 rw [e] at S1 ⊢
 exact hK h1 (w_lift H (.refl Q) S1)
theorem trimX (I:SI c x hp S fl L cl fr pl) (H:(w7R c wb d Q x hp).P h)
  (hK:∀x' fl' Q' h',SL.Same Q Q'→trimF x.m.o x.st.n fl=(x'.st.n,fl')→SI c x' hp S fl' L cl fr pl→x'.m.o=x.m.o→x'.st.n≤x.st.n→Keep L x.st x'.st→Stp h h' (w7R c wb d Q x hp) (w7R c wb d Q' x' hp)→K (.int .i64 ((x.st.n-x'.st.n:Nat):Int)) h') :
  CallV Tryz.prog w₀ F.region_Pool_Trim [gptr Q.pl.pb] h K:=by
 refine trimPS I.w (s_pl (w_s H)) fun x' fl' P' h' e1 e2 e3 W' o' n' K' P'' S'=>?_
 exact hK x' fl' ⟨Q.sb,P'⟩ h' ⟨rfl,e1,e2.1,e2.2.1,e2.2.2⟩ e3 (I.pool' W' K' P'') o' n' K' (w_lift H ⟨rfl,e1,e2.1,e2.2.1,e2.2.2⟩ (s_pool (w_s H) e1 S'))
end
end Go.Proofs.YteemmpkhdllapaaGreatDoor
namespace Go.Proofs.YteemmpkhdllapaaGreatDoor
open Go.V Classical
def C7:Cfg:=⟨65536,1,1⟩
theorem usual7_C7:usual7 65536 1 1=C7:=by unfold usual7;split<;>rfl
theorem bu7_o:(BU0 C7).m.o=1:=clamp_o good1
section
variable {w₀:World} {h:Heap} {K:Value→Heap→Prop}
theorem beginX {a b d:Int} (ha:U64 a)
  (hK:∀(h':Heap) (wb:Nat) (Q:SL) (l:List Value),l.length=9→New h h' (w7R (usual7 a b d) wb l Q (BU0 (usual7 a b d)) fun _=>-1)→K (gptr wb) h') :
  CallV Tryz.prog w₀ F.croftlaw7_begin [.agg #[.int .u64 a,.int .i64 b,.int .i64 d]] h K :=
 begin7_ok ha fun h' wb Q on fp qp fc qc _ N=>hK h' wb Q _ rfl (N.conv (fun P=>P.1) fun _ e=>.inl e)
theorem lives7_ok (T:Tab h) (hK:∀h',Upd NoB h h'→K (.bool true) h'):CallV Tryz.prog w₀ F.croftlaw7_lives [] h K:=by
 refine croftlaw7_lives.call ?_
 try dsimp only
 refine beginX (by unfold U64;omega) fun h1 wb Q1 l hl N1=>⟨_,rfl,iF rfl ?_⟩
 rw [usual7_C7] at N1
 have I0:=si0 good1 (fun _=>0) (fun _=>[])
 have bo:(BU0 C7).m.o=1:=bu7_o
 have bn:(BU0 C7).m.n=0:=rfl
 have bs:(BU0 C7).st.n=0:=rfl
 have I0:SI C7 (BU0 C7) (fun _=>-1) noS (fun _=>[]) [] (fun _=>0) (fun _=>[]) (fun _=>[]):=I0
 generalize BU0 C7=x0 at N1 I0 bo bn bs
 have J1:=(Hold.nil h).new N1
 refine ⟨_,rfl,_,w_c4 (J1.at 0),?_⟩
 refine takeX (k:=0) (deny:=true) I0 (TabH.of T J1 0) (J1.at 0) (by omega) (fun q l' j f e=>(by cases e)) (fun _ _ _ h2 Q2 q2 S2=>⟨_,_,_,rfl,?_⟩) (fun _ q b fl' x' hp' h' Q' _ hcase=>?_)
 case refine_2 =>
  rcases hcase with ⟨_,j,l,_,hF,_⟩ | ⟨_,_,hd,_⟩
  ·cases hF
  ·cases hd
 have J2:=J1.step 0 S2
 refine ⟨_,rfl,_,by have:=w_c4 (J2.at 0);exact this,?_⟩
 refine takeX (k:=7) (deny:=false) I0 (TabH.of T J2 0) (J2.at 0) (by omega) (fun q l' j f e=>(by cases e)) (fun _ _ hd _ _ _ _=>absurd hd (by rw [bs];decide)) (fun _ q b fl' x3 hp3 h3 Q3 q3 hcase I3 o3 _ S3=>?_)
 rcases hcase with ⟨_,j,l,_,hF,_⟩ | ⟨rfl,_,_,_,rfl,efl,n3,s3⟩
 ·cases hF
 rw [bn] at I3 n3
 have eadr:adr C7 x0.m.n=65536:=by rw [bn];decide
 rw [eadr]
 refine ⟨_,_,_,rfl,?_⟩
 have J3:=J2.step 0 S3
 have e7:List.range' 1 (cnt 7-1)=[1]:=by decide
 rw [e7] at I3
 refine ⟨_,rfl,_,by have:=w_c4 (J3.at 0);exact this,?_⟩
 refine takeX (k:=7) (deny:=false) I3 (TabH.of T J3 0) (J3.at 0) (by omega) (fun q l' j f e ef x4 hp4 h4 Q4 q4 I4 st4 n4 o4 S4=>?_) (fun e=>by rw [fset_same] at e;cases e) (fun e=>by rw [fset_same] at e;cases e)
 rw [fset_same] at e
 cases e
 rw [fset_same] at ef
 cases ef
 refine ⟨_,_,_,rfl,?_⟩
 have J4:=J3.step 0 S4
 have H4:=J4.at 0
 have c3:=w_c3 H4
 have c4:=w_c4 H4
 refine ⟨_,rfl,_,c3,_,rfl,_,c4,Partial_ok (w_s H4).1 fun h5 q5 N5=>⟨_,_,_,rfl,?_⟩⟩
 have J5:=J4.new N5
 have H5:=J5.at 1
 refine ⟨w_c3 H5,?_⟩
 have R5:Row h5 q5 8 (iL (ptL hp4)):=by have:=sl_row (J5.at 0);rwa [Nat.mul_one] at this
 refine Open_ok R5 fun h6 sb6 N6=>⟨_,_,rfl,fun J7 hJ7=>pF rfl (hJ7 _ _ fun J8 hJ8=>pF rfl ⟨_,rfl,_,w_c4 ((J5.new N6).at 2),?_⟩)⟩
 have J6:=J5.new N6
 refine Partial_ok (J6.at 0) fun h7 q7 N7=>⟨_,_,_,rfl,?_⟩
 have J7':=J6.new N7
 refine ⟨w_c4 (J7'.at 3),Partial_ok (w_s (J7'.at 3)).1 fun h8 q8 N8=>⟨_,_,_,rfl,?_⟩⟩
 have J8':=J7'.new N8
 have R7:Row h8 q7 (ptL hp4).length (iL (ptL hp4)):=by have:=sl_row (J8'.at 1);rw [ptL_len];rwa [Nat.mul_one] at this
 have R8:Row h8 q8 (ptL hp4).length (iL (ptL hp4)):=by have:=sl_row (J8'.at 0);rw [ptL_len];rwa [Nat.mul_one] at this
 have key:=ints7_ok (w₀:=w₀) (cp:=8) (cq:=8) (K:=fun v71 h71=>∃r71:Bool,v71=.bool r71∧J8 (!r71) h71) (by rw [ptL_len];omega) R7 R8 ⟨_,rfl,?_⟩
 ·rw [ptL_len] at key;exact key
 have H8:=J8'.at 4
 have T8:=TabH.of T J8' 4
 have hS:∀p,(noS p∨p=0)↔p=0:=fun p=>⟨fun h=>h.elim False.elim id,.inr⟩
 refine hJ8 _ _ (iF (by simp) fun J9 hJ9=>qT rfl (hJ9 _ _ fun J10 hJ10=>qT rfl (hJ10 _ _ fun J11 hJ11=>qT rfl (hJ11 _ _ fun J12 hJ12=>qT rfl (hJ12 _ _ fun J13 hJ13=>qT rfl (hJ13 _ _ fun J14 hJ14=>qT rfl (hJ14 _ _ fun J15 hJ15 =>
  qT (by decide) (hJ15 _ _ fun J16 hJ16=>qT rfl (hJ16 _ _ fun J17 hJ17=>qT rfl ⟨_,rfl,_,w_c4 H8,?_⟩)))))))))
 have cl0:fset (fun _:Nat=>0) 0 7 0=7:=fset_same _ _ _
 have w7:wdt 7=2048:=by decide
 refine sizeX (by unfold U64;omega) I4 T8 H8 (fun hn=>?_) fun q j hq hj hnj ea h9 u9=>⟨_,rfl,hJ17 _ _ fun J18 hJ18=>?_⟩
 ·exact absurd rfl (hn 0 1 (.inr rfl) (by rw [cl0];decide) (by rw [fset_same];simp))
 have hq:q=0:=(hS q).1 hq
 subst hq
 rw [cl0,w7]
 have J9':=J8'.quiet u9
 have H9:=J9'.at 4
 refine qT rfl ⟨_,rfl,_,w_c4 H9,?_⟩
 refine sizeX (by unfold U64;omega) I4 (TabH.of T J9' 4) H9 (fun _ h10 u10=>⟨_,rfl,hJ18 _ _ (hK h10 (J9'.quiet u10).u)⟩) fun q j hq hj hnj ea=>?_
 have hq:q=0:=(hS q).1 hq
 subst hq
 rw [cl0,w7] at ea
 exact absurd ea (by unfold adr C7;simp only [];omega)
end
end Go.Proofs.YteemmpkhdllapaaGreatDoor
namespace Go.Proofs.YteemmpkhdllapaaGreatDoor
open Go.V Classical
def nV (l:List Nat):Nat→Value:=fun i=>.int .i64 ((l.getD i 0:Nat):Int)
theorem nV_snoc (l:List Nat) (e:Nat) {i:Nat} (hi:i<(l.length+1)*1):(if i=l.length then Value.int .i64 (e:Int) else nV l i)=nV (l++[e]) i:=by
 unfold nV
 rw [List.getD_eq_getElem?_getD,List.getD_eq_getElem?_getD]
 by_cases h:i=l.length
 ·subst h;rw [if_pos rfl];simp
 ·rw [if_neg h,List.getElem?_append_left (by omega)]
structure RW5 where
 fp:Option Addr
 fc:Nat
 lp:Nat→Option Addr
 lc:Nat→Nat
 vp:Option Addr
 vc:Nat
abbrev prV (b:PBk):Int×Int:=((b.1:Int),(b.2:Int))
abbrev prL (L:List PBk):List (Int×Int):=L.map prV
abbrev fOut (Y:RW5) (fl:Nat→List Nat):Nat→Value:=fun k=>.slice (Y.lp k) (fl k).length (Y.lc k)
abbrev inR (Y:RW5) (O:Nat) (fl:Nat→List Nat):Res:=allR (O+1) fun k=>slR (Y.lp k) (fl k).length (Y.lc k) 1 (nV (fl k))
abbrev frR (Y:RW5) (O:Nat) (fl:Nat→List Nat):Res:=andR (slR Y.fp (O+1) Y.fc 1 (fOut Y fl)) (inR Y O fl)
abbrev liR (Y:RW5) (L:List PBk):Res:=slR Y.vp L.length Y.vc 2 (runV (prL L))
abbrev rfR (Y:RW5) (O:Nat) (fl:Nat→List Nat) (L:List PBk):Res:=andR (frR Y O fl) (liR Y L)
abbrev pv (Y:RW5) (O P:Nat) (L:List PBk):Value:=dv (O:Int) (P:Int) Y.fp (O+1) Y.fc Y.vp L.length Y.vc
theorem at1 (b k:Nat):(⟨b,0,none⟩ : Addr).add (Int.toNat (k:Int)*1)=⟨b,k,none⟩:=by rw [add_mk,Int.toNat_natCast,Nat.mul_one,Nat.zero_add]
theorem prL_len (L:List PBk):(prL L).length=L.length:=by simp
section
variable {w₀:World} {h h0 hx:Heap} {K:Value→Heap→Prop} {Y:RW5} {O:Nat} {fl:Nat→List Nat} {L:List PBk}
theorem fr_cell (H:(frR Y O fl).P h) {k:Nat} (hk:k≤O):∃b,Y.fp=some ⟨b,0,none⟩∧cellAt h ⟨b,k,none⟩=some (.slice (Y.lp k) (fl k).length (Y.lc k)):=sl_cell H.1 (i:=k) (by omega)
theorem fr_row (H:(frR Y O fl).P h) {k:Nat} (hk:k≤O):(slR (Y.lp k) (fl k).length (Y.lc k) 1 (nV (fl k))).P h:=H.2.1.1 k (by omega)
theorem in_put {k:Nat} {l':List Nat} {p' f':Option Addr} {c' fc':Nat} (H:(andR (slR p' l'.length c' 1 (nV l')) (inR Y O fl)).P h) :
  (inR { Y with fp:=f',fc:=fc',lp:=fset Y.lp k p',lc:=fset Y.lc k c' } O (fset fl k l')).P h∧∀b,(inR { Y with fp:=f',fc:=fc',lp:=fset Y.lp k p',lc:=fset Y.lc k c' } O (fset fl k l')).fp b→(andR (slR p' l'.length c' 1 (nV l')) (inR Y O fl)).fp b:=by
 obtain ⟨HN,H2,H4⟩:=H
 have old:∀i,i≠k→((slR (fset Y.lp k p' i) (fset fl k l' i).length (fset Y.lc k c' i) 1 (nV (fset fl k l' i)))=slR (Y.lp i) (fl i).length (Y.lc i) 1 (nV (fl i))):=fun i hi=>by rw [fset_ne _ _ hi,fset_ne _ _ hi,fset_ne _ _ hi]
 have new:((slR (fset Y.lp k p' k) (fset fl k l' k).length (fset Y.lc k c' k) 1 (nV (fset fl k l' k)))=slR p' l'.length c' 1 (nV l')):=by rw [fset_same,fset_same,fset_same]
 refine ⟨⟨fun i hi=>?_,fun i hi j hj hij x ex ex'=>?_⟩,fun x ⟨i,hi,ex⟩=>?_⟩
 ·by_cases ei:i=k
  ·subst ei
   show (slR (fset Y.lp i p' i) (fset fl i l' i).length (fset Y.lc i c' i) 1 (nV (fset fl i l' i))).P _
   rw [new];exact HN
  ·show (slR (fset Y.lp k p' i) (fset fl k l' i).length (fset Y.lc k c' i) 1 (nV (fset fl k l' i))).P _
   rw [old i ei];exact H2.1 i hi
 ·have f1:(slR (fset Y.lp k p' i) (fset fl k l' i).length (fset Y.lc k c' i) 1 (nV (fset fl k l' i))).fp x:=ex
  have f2:(slR (fset Y.lp k p' j) (fset fl k l' j).length (fset Y.lc k c' j) 1 (nV (fset fl k l' j))).fp x:=ex'
  clear ex ex'
  by_cases ei:i=k
  ·have ej:j≠k:=fun e=>hij (ei.trans e.symm)
   rw [old j ej] at f2
   subst ei
   rw [new] at f1
   exact H4 x f1 ⟨j,hj,f2⟩
  ·rw [old i ei] at f1
   by_cases ej:j=k
   ·subst ej
    rw [new] at f2
    exact H4 x f2 ⟨i,hi,f1⟩
   ·rw [old j ej] at f2
    exact H2.2 i hi j hj hij x f1 f2
 ·have ex:(slR (fset Y.lp k p' i) (fset fl k l' i).length (fset Y.lc k c' i) 1 (nV (fset fl k l' i))).fp x:=ex
  by_cases ei:i=k
  ·subst ei;rw [new] at ex;exact .inl ex
  ·rw [old i ei] at ex;exact .inr ⟨i,hi,ex⟩
theorem own_with {h':Heap} {E:Res} {rs:List Res} {k:Nat} {l':List Nat} {p' f':Option Addr} {c' fc':Nat} (I:Go.V.Own h hx E (slR p' l'.length c' 1 (nV l')::frR Y O fl::rs))
  (N:New hx h' (slR f' (O+1) fc' 1 fun i=>if i=k then .slice p' l'.length c' else fOut Y fl i)) :
  Go.V.Own h h' E (frR { Y with fp:=f',fc:=fc',lp:=fset Y.lp k p',lc:=fset Y.lc k c' } O (fset fl k l')::rs):=by
 have N':New hx h' (slR f' (O+1) fc' 1 (fOut { Y with fp:=f',fc:=fc',lp:=fset Y.lp k p',lc:=fset Y.lc k c' } (fset fl k l'))):=N.conv (fun P=>sl_congr P fun i hi=>by
  by_cases ei:i=k
  ·subst ei
   rw [if_pos rfl]
   show _=Value.slice (fset Y.lp i p' i) (fset fl i l' i).length (fset Y.lc i c' i)
   rw [fset_same,fset_same,fset_same]
  ·rw [if_neg ei]
   show _=Value.slice (fset Y.lp k p' i) (fset fl k l' i).length (fset Y.lc k c' i)
   rw [fset_ne _ _ ei,fset_ne _ _ ei,fset_ne _ _ ei]) fun _ e=>e
 have I1:=I.new N'
 have I2:=(I1.perm (rs':=frR Y O fl::slR p' l'.length c' 1 (nV l')::_::rs) ((List.Perm.swap _ _ _).trans ((List.Perm.cons _ (.swap _ _ _)).trans (.swap _ _ _)))).split.drop
 have I3:=(I2.perm (rs':=slR p' l'.length c' 1 (nV l')::inR Y O fl::_::rs) (.swap _ _ _)).join
 have I4:=I3.as 0 (R:=andR (slR p' l'.length c' 1 (nV l')) (inR Y O fl)) (R':=inR { Y with fp:=f',fc:=fc',lp:=fset Y.lp k p',lc:=fset Y.lc k c' } O (fset fl k l')) (fun P=>(in_put P).1) (fun b e=>(in_put (f':=f') (fc':=fc') (k:=k) (I3.at 0)).2 b e)
 exact (I4.perm (rs':=slR f' (O+1) fc' 1 (fOut { Y with fp:=f',fc:=fc',lp:=fset Y.lp k p',lc:=fset Y.lc k c' } (fset fl k l'))::inR { Y with fp:=f',fc:=fc',lp:=fset Y.lp k p',lc:=fset Y.lc k c' } O (fset fl k l')::rs) (.swap _ _ _)).join
abbrev z4:Nat→Value:=f4 (.int .i64 0) (.int .i64 0) (.slice none 0 0) (.slice none 0 0)
theorem ref5_with_ok {o P:Int} {k:Nat} {fp vp lp:Option Addr} {fc vn vc ln lc:Nat} {g:Nat→Value} (hO:O≤8) (hg:∀i,i≤O→∃a b c,g i=.slice a b c) (R:Row h fp (O+1) g)
  (hK:∀h' fp' fc',New h h' (slR fp' (O+1) fc' 1 fun i=>if i=k then .slice lp ln lc else g i)→K (dv o P fp' (O+1) fc' vp vn vc) h') :
  CallV Tryz.prog w₀ F.croftref5_with [dv o P fp (O+1) fc vp vn vc,.int .i64 (k:Int),.slice lp ln lc] h K:=by
 refine croftref5_with.call ?_
 try dsimp only
 have N5:=box4 h (.int .i64 o) (.int .i64 P) (.slice fp (O+1) fc) (.slice vp vn vc) T.T_croftref5_Buddy
 generalize hh5:Array.push h (.cells #[.int .i64 o,.int .i64 P,.slice fp (O+1) fc,.slice vp vn vc] T.T_croftref5_Buddy)=h5 at N5 ⊢
 have N6:=box4 h5 (.int .i64 0) (.int .i64 0) (.slice none 0 0) (.slice none 0 0) T.T_croftref5_Buddy
 generalize hh6:Array.push h5 (.cells #[.int .i64 0,.int .i64 0,.slice none 0 0,.slice none 0 0] T.T_croftref5_Buddy)=h6 at N6 ⊢
 obtain ⟨b0,eb0⟩ : ∃b0,b0=h.size:=⟨_,rfl⟩
 obtain ⟨b1,eb1⟩ : ∃b1,b1=h5.size:=⟨_,rfl⟩
 rw [←eb0] at N5 ⊢
 rw [←eb1] at N6 ⊢
 intro J3 hJ3 L6 hL6
 have I0:Hold h h6 [slR none 0 0 1 (fun i=>if i=k then .slice lp ln lc else g i),blkR b1 4 z4,blkR b0 4 (f4 (.int .i64 o) (.int .i64 P) (.slice fp (O+1) fc) (.slice vp vn vc))] :=
  (((Hold.nil h).new N5).new N6).new ⟨Upd.refl _ _,sl_nil _ _ _,fun b e=>absurd e (sl_nil_fp b)⟩
 have key:∀(d i:Nat) (y:Option Addr) (cap:Nat) (hx:Heap),i+d=O+1→Hold h hx [slR y i cap 1 (fun i=>if i=k then .slice lp ln lc else g i),blkR b1 4 z4,blkR b0 4 (f4 (.int .i64 o) (.int .i64 P) (.slice fp (O+1) fc) (.slice vp vn vc))] →
   L6 [.int .i64 (k:Int),.slice lp ln lc,.pointer (some ⟨b0,0,none⟩),.pointer (some ⟨b1,0,none⟩),.slice y i cap,.int .i64 (i:Int)] hx:=by
  intro d
  induction d with
  | zero =>
   intro i y cap hx hi I
   have hi:i=O+1:=by omega
   subst hi
   obtain ⟨k0,k1,k2,k3⟩:=f4_cells (I.at 2)
   refine hL6 _ _ _ _ _ _ _ _ _ _ _ ⟨_,_,_,k2,iF (decide_eq_false (by omega)) (hJ3 _ _ _ _ _ _ ?_)⟩
   obtain ⟨w3,S3⟩:=(f4_set (I.at 2) (.slice y (O+1) cap)).2.1
   have I3:=I.step 2 S3
   refine ⟨w3,?_⟩
   generalize setC hx ((⟨b0,0,none⟩ : Addr).add 2) (.slice y (O+1) cap)=h30 at I3 ⊢
   obtain ⟨k0,k1,k2,k3⟩:=f4_cells (I3.at 2)
   refine ⟨_,k0,_,k1,_,_,_,k2,_,_,_,k3,?_⟩
   obtain ⟨w4,S4⟩:=assign4 (I3.at 1) (.int .i64 o) (.int .i64 P) (.slice y (O+1) cap) (.slice vp vn vc)
   have I4:=I3.step 1 S4
   refine ⟨w4,?_⟩
   generalize setCs h30 ⟨b1,0,none⟩ 0 [.int .i64 o,.int .i64 P,.slice y (O+1) cap,.slice vp vn vc]=h31 at I4 ⊢
   obtain ⟨k0,k1,k2,k3⟩:=f4_cells (I4.at 1)
   refine ⟨_,k0,_,k1,_,_,_,k2,_,_,_,k3,hK h31 y cap ?_⟩
   exact (I4.sub (rs':=[slR y (O+1) cap 1 (fun i=>if i=k then .slice lp ln lc else g i)]) (.cons_cons _ (.cons _ (.cons _ .slnil)))).toNew
  | succ d ih =>
   intro i y cap hx hi I
   obtain ⟨k0,k1,k2,k3⟩:=f4_cells (I.at 2)
   refine hL6 _ _ _ _ _ _ _ _ _ _ _ ⟨_,_,_,k2,iT (decide_eq_true (by omega)) fun J7 hJ7=>?_⟩
   have fin:∀(v:Value),v=(if i=k then .slice lp ln lc else g i)→oneC v=true→∃os xs:List Value,AppPre (Array.push hx (.cells #[v] T.T_sl_int)) y i cap (some (⟨hx.size,0,none⟩ : Addr)) 1 1 24 os xs∧∀(p22:Option Addr) (c22:Nat) (h22:Heap),AppRes (Array.push hx (.cells #[v] T.T_sl_int)) y i cap 1 [.slice none 0 0] T.T_sl_int os xs p22 c22 h22 →
     J7 [.int .i64 (k:Int),.slice lp ln lc,.pointer (some ⟨b0,0,none⟩),.pointer (some ⟨b1,0,none⟩),.slice p22 (i+1) c22,.int .i64 (i:Int)] h22:=by
    intro v hv ho
    obtain ⟨os,q1,q2⟩:=sl_app1 (zs:=[.slice none 0 0]) (v:=v) (b:=24) (e:=T.T_sl_int) (T:=T.T_sl_int) (I.at 0) rfl ho (by omega)
    refine ⟨os,_,q1,fun p' c' h29 hres=>hJ7 _ _ _ _ _ _ _ _ _ _ _ ?_⟩
    have I2:=I.step 0 (R:=slR y i cap 1 (fun i=>if i=k then .slice lp ln lc else g i)) (R':=slR p' (i+1) c' 1 (fun i=>if i=k then .slice lp ln lc else g i)) ((q2 p' c' h29 hres).conv (fun P=>sl_congr P fun j hj=>by
     by_cases e:j=i
     ·rw [if_pos e,e,hv]
     ·rw [if_neg e]) fun _ e=>e)
    rw [show IntKind.wrap .i64 ((i:Int)+1)=((i+1:Nat):Int) by rw [IntKind.wrap_i64];omega]
    exact ih (i+1) p' c' h29 (by omega) I2
   by_cases e:i=k
   ·exact iT (beq_iff_eq.2 (by omega)) (fin _ (by rw [if_pos e]) rfl)
   ·obtain ⟨ga,gb,gc,eg⟩:=hg i (by omega)
    rcases R.upd I.u fun _ _=>id with e0 | ⟨b,off,rfl,R1⟩
    ·omega
    refine iF (beq_eq_false_iff_ne.2 (by omega)) ⟨_,_,_,k2,_,rfl,by omega,by omega,ga,gb,gc,(by rw [add_mk,Int.toNat_natCast,Nat.mul_one,R1 i (by omega),eg]),fin _ (by rw [if_neg e,eg]) rfl⟩
 exact key (O+1) 0 none 0 h6 (by omega) I0
end
end Go.Proofs.YteemmpkhdllapaaGreatDoor
namespace Go.Proofs.YteemmpkhdllapaaGreatDoor
open Go.V Classical
section
variable {w₀:World} {h h0 hx:Heap} {K:Value→Heap→Prop} {Y:RW5} {O:Nat} {fl:Nat→List Nat} {L:List PBk} {P:Int} {vp:Option Addr} {vn vc:Nat}
theorem ref5_Is_ok {k p:Nat} (hO:O≤8) (hk:k≤O) (hl:(fl k).length≤100000) (H:(frR Y O fl).P h) (hK:∀h',Upd NoB h h'→K (.bool (decide (p∈fl k))) h') :
  CallV Tryz.prog w₀ F.croftref5_Is [dv (O:Int) P Y.fp (O+1) Y.fc vp vn vc,.int .i64 (k:Int),.int .i64 (p:Int)] h K:=by
 refine croftref5_Is.call ?_
 try dsimp only
 have N5:=box4 h (.int .i64 (O:Int)) (.int .i64 P) (.slice Y.fp (O+1) Y.fc) (.slice vp vn vc) T.T_croftref5_Buddy
 generalize Array.push h (.cells #[.int .i64 (O:Int),.int .i64 P,.slice Y.fp (O+1) Y.fc,.slice vp vn vc] T.T_croftref5_Buddy)=h5 at N5 ⊢
 obtain ⟨b0,eb0⟩ : ∃b0,b0=h.size:=⟨_,rfl⟩
 rw [←eb0] at N5 ⊢
 intro J2 hJ2 L3 hL3
 have I:=(Go.V.Own.of H).new N5
 obtain ⟨k0,k1,k2,k3⟩:=f4_cells (I.at 0)
 obtain ⟨bf,efp,vk⟩:=fr_cell (I.at 1) hk
 have RI:(slR (Y.lp k) (fl k).length (Y.lc k) 1 (nV (fl k))).P h5:=fr_row (I.at 1) hk
 have key:∀(d i:Nat),i+d=(fl k).length→(∀j,j<i→(fl k).getD j 0≠p)→L3 [.int .i64 (k:Int),.int .i64 (p:Int),.pointer (some ⟨b0,0,none⟩),.int .i64 (i:Int)] h5:=by
  intro d
  induction d with
  | zero =>
   intro i hi hno
   have hi:i=(fl k).length:=by omega
   subst hi
   refine hL3 _ _ _ _ _ ⟨_,_,_,k2,_,efp,by omega,by omega,_,_,_,by rw [at1];exact vk,iF (decide_eq_false (by omega)) (hJ2 _ ?_)⟩
   have:=hK h5 N5.u
   rwa [decide_eq_false (fun hm=>by
    obtain ⟨j,hj,e⟩:=List.mem_iff_getElem.1 hm
    exact hno j hj (by rw [List.getD_eq_getElem?_getD,List.getElem?_eq_getElem hj];exact e))] at this
  | succ d ih =>
   intro i hi hno
   obtain ⟨bl,elp,vi⟩:=sl_cell RI (i:=i) (by omega)
   refine hL3 _ _ _ _ _ ⟨_,_,_,k2,_,efp,by omega,by omega,_,_,_,by rw [at1];exact vk,iT (decide_eq_true (by omega)) ⟨_,_,_,k2,_,efp,by omega,by omega,_,_,_,by rw [at1];exact vk,_,elp,by omega,by omega,_,by rw [at1];exact vi,?_⟩⟩
   by_cases e:(fl k).getD i 0=p
   ·refine iT (beq_iff_eq.2 (by rw [e])) ?_
    have:=hK h5 N5.u
    rwa [decide_eq_true (by rw [←e,List.getD_eq_getElem?_getD,List.getElem?_eq_getElem (by omega)];exact List.getElem_mem _)] at this
   ·refine iF (beq_eq_false_iff_ne.2 (by omega)) ?_
    rw [show IntKind.wrap .i64 ((i:Int)+1)=((i+1:Nat):Int) by rw [IntKind.wrap_i64];omega]
    refine ih (i+1) (by omega) fun j hj=>?_
    by_cases ej:j=i
    ·rw [ej];exact e
    ·exact hno j (by omega)
 exact key (fl k).length 0 (by omega) fun j hj=>by omega
theorem ref5_IsLive_ok {o p q:Int} {fp:Option Addr} {fn fc:Nat} {l:List (Int×Int)} (hl:l.length≤1073741824) (R:Row h vp (l.length*2) (runV l)) (hK:∀h',Upd NoB h h'→K (.bool (decide ((p,q)∈l))) h') :
  CallV Tryz.prog w₀ F.croftref5_IsLive [dv o P fp fn fc vp l.length vc,.int .i64 p,.int .i64 q] h K:=by
 refine croftref5_IsLive.call ?_
 try dsimp only
 have N5:=box4 h (.int .i64 o) (.int .i64 P) (.slice fp fn fc) (.slice vp l.length vc) T.T_croftref5_Buddy
 generalize Array.push h (.cells #[.int .i64 o,.int .i64 P,.slice fp fn fc,.slice vp l.length vc] T.T_croftref5_Buddy)=h5 at N5 ⊢
 obtain ⟨b0,eb0⟩ : ∃b0,b0=h.size:=⟨_,rfl⟩
 rw [←eb0] at N5 ⊢
 intro J2 hJ2 L3 hL3
 obtain ⟨k0,k1,k2,k3⟩:=f4_cells N5.p
 have key:∀(d i:Nat),i+d=l.length→(∀j,j<i→l.getD j (0,0)≠(p,q))→L3 [.int .i64 p,.int .i64 q,.pointer (some ⟨b0,0,none⟩),.int .i64 (i:Int)] h5:=by
  intro d
  induction d with
  | zero =>
   intro i hi hno
   have hi:i=l.length:=by omega
   subst hi
   refine hL3 _ _ _ _ _ ⟨_,_,_,k3,iF (decide_eq_false (by omega)) (hJ2 _ ?_)⟩
   have:=hK h5 N5.u
   rwa [decide_eq_false (fun hm=>by
    obtain ⟨j,hj,e⟩:=List.mem_iff_getElem.1 hm
    exact hno j hj (by rw [List.getD_eq_getElem?_getD,List.getElem?_eq_getElem hj];exact e))] at this
  | succ d ih =>
   intro i hi hno
   obtain ⟨a,e1,r1,r2⟩:=row_run R N5.u (i:=i) (by omega)
   refine hL3 _ _ _ _ _ ⟨_,_,_,k3,iT (decide_eq_true (by omega)) ⟨_,_,_,k3,a,e1,by omega,by omega,_,r1,fun J4 hJ4=>?_⟩⟩
   have no:l.getD i (0,0)≠(p,q)→J4 false h5:=fun hne=>hJ4 _ _ (iF rfl (by
    rw [show IntKind.wrap .i64 ((i:Int)+1)=((i+1:Nat):Int) by rw [IntKind.wrap_i64];omega]
    refine ih (i+1) (by omega) fun j hj=>?_
    by_cases ej:j=i
    ·rw [ej];exact hne
    ·exact hno j (by omega)))
   by_cases ep:(l.getD i (0,0)).1=p
   ·refine qT (beq_iff_eq.2 ep) ⟨_,_,_,k3,a,e1,by omega,by omega,_,r2,?_⟩
    by_cases eq:(l.getD i (0,0)).2=q
    ·rw [beq_iff_eq.2 eq]
     refine hJ4 _ _ (iT rfl ?_)
     have:=hK h5 N5.u
     rwa [decide_eq_true (by rw [←ep,←eq,List.getD_eq_getElem?_getD,List.getElem?_eq_getElem (by omega)];exact List.getElem_mem _)] at this
    ·rw [beq_eq_false_iff_ne.2 eq]
     exact no fun e=>eq (by rw [e])
   ·exact qF' (beq_eq_false_iff_ne.2 ep) (no fun e=>ep (by rw [e]))
 exact key l.length 0 (by omega) fun j hj=>by omega
theorem ref5_enter_ok {k p:Nat} (hO:O≤8) (hk:k≤O) (hl:(fl k).length≤100000) (H:(frR Y O fl).P h)
  (hK:∀h' Y',Y'.vp=Y.vp→Y'.vc=Y.vc→Stp h h' (frR Y O fl) (frR Y' O (fset fl k (p::fl k)))→K (dv (O:Int) P Y'.fp (O+1) Y'.fc vp vn vc) h') :
  CallV Tryz.prog w₀ F.croftref5_enter [dv (O:Int) P Y.fp (O+1) Y.fc vp vn vc,.int .i64 (k:Int),.int .i64 (p:Int)] h K:=by
 refine croftref5_enter.call ?_
 try dsimp only
 have N5:=box4 h (.int .i64 (O:Int)) (.int .i64 P) (.slice Y.fp (O+1) Y.fc) (.slice vp vn vc) T.T_croftref5_Buddy
 generalize Array.push h (.cells #[.int .i64 (O:Int),.int .i64 P,.slice Y.fp (O+1) Y.fc,.slice vp vn vc] T.T_croftref5_Buddy)=h5 at N5 ⊢
 have N6:=box4 h5 (.int .i64 0) (.int .i64 0) (.slice none 0 0) (.slice none 0 0) T.T_croftref5_Buddy
 generalize Array.push h5 (.cells #[.int .i64 0,.int .i64 0,.slice none 0 0,.slice none 0 0] T.T_croftref5_Buddy)=h6 at N6 ⊢
 have N7:=sl_lit h6 #[.int .i64 (p:Int)] T.T_int 1 1 rfl
 generalize Array.push h6 (.cells #[.int .i64 (p:Int)] T.T_int)=h7 at N7 ⊢
 obtain ⟨b0,eb0⟩ : ∃b0,b0=h.size:=⟨_,rfl⟩
 obtain ⟨b1,eb1⟩ : ∃b1,b1=h5.size:=⟨_,rfl⟩
 rw [←eb0] at N5 ⊢
 rw [←eb1] at N6 ⊢
 intro J4 hJ4 L7 hL7
 have I0:=(((Go.V.Own.of H).new N5).new N6).new (N7.conv (R':=slR (some ⟨h6.size,0,none⟩) (0+1) 1 1 (nV (p::fl k))) (fun P=>sl_congr P fun i hi=>by
  have hi:i<1:=hi
  have:i=0:=by omega
  subst this;rfl) fun _ e=>e)
 have key:∀(d i:Nat) (y:Option Addr) (cap:Nat) (hx:Heap),i+d=(fl k).length→Go.V.Own h hx (frR Y O fl) [slR y (i+1) cap 1 (nV (p::fl k)),blkR b1 4 z4,blkR b0 4 (f4 (.int .i64 (O:Int)) (.int .i64 P) (.slice Y.fp (O+1) Y.fc) (.slice vp vn vc)),frR Y O fl] →
   L7 [.int .i64 (k:Int),.pointer (some ⟨b0,0,none⟩),.pointer (some ⟨b1,0,none⟩),.slice y (i+1) cap,.int .i64 (i:Int)] hx:=by
  intro d
  induction d with
  | zero =>
   intro i y cap hx hi I
   have hi:i=(fl k).length:=by omega
   subst hi
   obtain ⟨k0,k1,k2,k3⟩:=f4_cells (I.at 2)
   have HF:(frR Y O fl).P hx:=I.at 3
   obtain ⟨bf,efp,vk⟩:=fr_cell HF hk
   have RO:Row hx Y.fp (O+1) (fOut Y fl):=by have:=sl_row HF.1;rwa [Nat.mul_one] at this
   refine hL7 _ _ _ _ _ _ _ _ ⟨_,_,_,k2,_,efp,by omega,by omega,_,_,_,by rw [at1];exact vk,iF (decide_eq_false (by omega)) (hJ4 _ _ _ _ _ _ _ ⟨_,k0,_,k1,_,_,_,k2,_,_,_,k3,ref5_with_ok hO (fun i hi=>⟨_,_,_,rfl⟩) RO fun h8 fp' fc' N8=>⟨_,_,_,_,_,_,_,_,rfl,?_⟩⟩)⟩
   have I1:=own_with (Y:=Y) (fl:=fl) (l':=p::fl k) (k:=k) (I.perm (rs':=[slR y (p::fl k).length cap 1 (nV (p::fl k)),frR Y O fl,blkR b1 4 z4,blkR b0 4 (f4 (.int .i64 (O:Int)) (.int .i64 P) (.slice Y.fp (O+1) Y.fc) (.slice vp vn vc))]) (.cons _ ((List.Perm.swap _ _ _).trans (.cons _ (.swap _ _ _))))) N8
   obtain ⟨w4,S4⟩:=assign4 (I1.at 1) (.int .i64 (O:Int)) (.int .i64 P) (.slice fp' (O+1) fc') (.slice vp vn vc)
   have I2:=I1.step 1 S4
   refine ⟨w4,?_⟩
   generalize setCs h8 ⟨b1,0,none⟩ 0 [.int .i64 (O:Int),.int .i64 P,.slice fp' (O+1) fc',.slice vp vn vc]=h9 at I2 ⊢
   obtain ⟨k0,k1,k2,k3⟩:=f4_cells (I2.at 1)
   exact ⟨_,k0,_,k1,_,_,_,k2,_,_,_,k3,hK h9 { Y with fp:=fp',fc:=fc',lp:=fset Y.lp k y,lc:=fset Y.lc k cap } rfl rfl (I2.one 0)⟩
  | succ d ih =>
   intro i y cap hx hi I
   obtain ⟨k0,k1,k2,k3⟩:=f4_cells (I.at 2)
   have HF:(frR Y O fl).P hx:=I.at 3
   obtain ⟨bf,efp,vk⟩:=fr_cell HF hk
   obtain ⟨bl,elp,vi⟩:=sl_cell (fr_row HF hk) (i:=i) (by omega)
   obtain ⟨os,q1,q2⟩:=sl_app1 (zs:=[.int .i64 0]) (v:=.int .i64 (((fl k).getD i 0:Nat):Int)) (b:=8) (e:=T.T_int) (T:=T.T_int) (I.at 0) rfl rfl (by omega)
   refine hL7 _ _ _ _ _ _ _ _ ⟨_,_,_,k2,_,efp,by omega,by omega,_,_,_,by rw [at1];exact vk,iT (decide_eq_true (by omega)) ⟨_,_,_,k2,_,efp,by omega,by omega,_,_,_,by rw [at1];exact vk,_,elp,by omega,by omega,_,by rw [at1];exact vi,os,_,q1,fun p' c' h8 res=>?_⟩⟩
   have I1:=I.step 0 (R:=slR y (i+1) cap 1 (nV (p::fl k))) (R':=slR p' (i+1+1) c' 1 (nV (p::fl k))) ((q2 p' c' h8 res).conv (fun P=>sl_congr P fun j hj=>by
    by_cases e:j=i+1
    ·rw [if_pos e,e];unfold nV;rw [List.getD_cons_succ]
    ·rw [if_neg e]) fun _ e=>e)
   rw [show IntKind.wrap .i64 ((i:Int)+1)=((i+1:Nat):Int) by rw [IntKind.wrap_i64];omega]
   exact ih (i+1) p' c' h8 (by omega) I1
 exact key (fl k).length 0 _ _ h7 (by omega) I0
theorem ref5_leave_ok {k p:Nat} (hO:O≤8) (hk:k≤O) (hl:(fl k).length≤100000) (H:(frR Y O fl).P h)
  (hK:∀h' Y',Y'.vp=Y.vp→Y'.vc=Y.vc→Stp h h' (frR Y O fl) (frR Y' O (fset fl k ((fl k).filter (·≠p))))→K (dv (O:Int) P Y'.fp (O+1) Y'.fc vp vn vc) h') :
  CallV Tryz.prog w₀ F.croftref5_leave [dv (O:Int) P Y.fp (O+1) Y.fc vp vn vc,.int .i64 (k:Int),.int .i64 (p:Int)] h K:=by
 refine croftref5_leave.call ?_
 try dsimp only
 have N5:=box4 h (.int .i64 (O:Int)) (.int .i64 P) (.slice Y.fp (O+1) Y.fc) (.slice vp vn vc) T.T_croftref5_Buddy
 generalize Array.push h (.cells #[.int .i64 (O:Int),.int .i64 P,.slice Y.fp (O+1) Y.fc,.slice vp vn vc] T.T_croftref5_Buddy)=h5 at N5 ⊢
 have N6:=box4 h5 (.int .i64 0) (.int .i64 0) (.slice none 0 0) (.slice none 0 0) T.T_croftref5_Buddy
 generalize Array.push h5 (.cells #[.int .i64 0,.int .i64 0,.slice none 0 0,.slice none 0 0] T.T_croftref5_Buddy)=h6 at N6 ⊢
 obtain ⟨b0,eb0⟩ : ∃b0,b0=h.size:=⟨_,rfl⟩
 obtain ⟨b1,eb1⟩ : ∃b1,b1=h5.size:=⟨_,rfl⟩
 rw [←eb0] at N5 ⊢
 rw [←eb1] at N6 ⊢
 intro J3 hJ3 L6 hL6
 have I0:=(((Go.V.Own.of H).new N5).new N6).new (R:=slR none ([]:List Nat).length 0 1 (nV [])) ⟨Upd.refl _ _,sl_nil _ _ _,fun b e=>absurd e (sl_nil_fp b)⟩
 have key:∀(d i:Nat) (y:Option Addr) (cap:Nat) (hx:Heap) (l:List Nat),i+d=(fl k).length→l=((fl k).take i).filter (·≠p)→Go.V.Own h hx (frR Y O fl) [slR y l.length cap 1 (nV l),blkR b1 4 z4,blkR b0 4 (f4 (.int .i64 (O:Int)) (.int .i64 P) (.slice Y.fp (O+1) Y.fc) (.slice vp vn vc)),frR Y O fl] →
   L6 [.int .i64 (k:Int),.int .i64 (p:Int),.pointer (some ⟨b0,0,none⟩),.pointer (some ⟨b1,0,none⟩),.slice y l.length cap,.int .i64 (i:Int)] hx:=by
  intro d
  induction d with
  | zero =>
   intro i y cap hx l hi hle I
   have hi:i=(fl k).length:=by omega
   subst hi
   rw [List.take_length] at hle
   obtain ⟨k0,k1,k2,k3⟩:=f4_cells (I.at 2)
   have HF:(frR Y O fl).P hx:=I.at 3
   obtain ⟨bf,efp,vk⟩:=fr_cell HF hk
   have RO:Row hx Y.fp (O+1) (fOut Y fl):=by have:=sl_row HF.1;rwa [Nat.mul_one] at this
   refine hL6 _ _ _ _ _ _ _ _ _ ⟨_,_,_,k2,_,efp,by omega,by omega,_,_,_,by rw [at1];exact vk,iF (decide_eq_false (by omega)) (hJ3 _ _ _ _ _ _ _ ⟨_,k0,_,k1,_,_,_,k2,_,_,_,k3,ref5_with_ok hO (fun i hi=>⟨_,_,_,rfl⟩) RO fun h8 fp' fc' N8=>⟨_,_,_,_,_,_,_,_,rfl,?_⟩⟩)⟩
   have I1:=own_with (Y:=Y) (fl:=fl) (l':=l) (k:=k) (I.perm (rs':=[slR y l.length cap 1 (nV l),frR Y O fl,blkR b1 4 z4,blkR b0 4 (f4 (.int .i64 (O:Int)) (.int .i64 P) (.slice Y.fp (O+1) Y.fc) (.slice vp vn vc))]) (.cons _ ((List.Perm.swap _ _ _).trans (.cons _ (.swap _ _ _))))) N8
   obtain ⟨w4,S4⟩:=assign4 (I1.at 1) (.int .i64 (O:Int)) (.int .i64 P) (.slice fp' (O+1) fc') (.slice vp vn vc)
   have I2:=I1.step 1 S4
   refine ⟨w4,?_⟩
   generalize setCs h8 ⟨b1,0,none⟩ 0 [.int .i64 (O:Int),.int .i64 P,.slice fp' (O+1) fc',.slice vp vn vc]=h9 at I2 ⊢
   obtain ⟨k0,k1,k2,k3⟩:=f4_cells (I2.at 1)
   rw [←hle] at hK
   exact ⟨_,k0,_,k1,_,_,_,k2,_,_,_,k3,hK h9 { Y with fp:=fp',fc:=fc',lp:=fset Y.lp k y,lc:=fset Y.lc k cap } rfl rfl (I2.one 0)⟩
  | succ d ih =>
   intro i y cap hx l hi hle I
   obtain ⟨k0,k1,k2,k3⟩:=f4_cells (I.at 2)
   have HF:(frR Y O fl).P hx:=I.at 3
   obtain ⟨bf,efp,vk⟩:=fr_cell HF hk
   obtain ⟨bl,elp,vi⟩:=sl_cell (fr_row HF hk) (i:=i) (by omega)
   have hll:l.length≤i:=by
    rw [hle]
    refine Nat.le_trans (List.length_filter_le _ _) ?_
    rw [List.length_take];omega
   have htk:(fl k).take (i+1)=(fl k).take i++[(fl k).getD i 0]:=by
    rw [List.take_add_one,List.getD_eq_getElem?_getD,List.getElem?_eq_getElem (by omega)];rfl
   have hwr:IntKind.wrap .i64 ((i:Int)+1)=((i+1:Nat):Int):=by rw [IntKind.wrap_i64];omega
   refine hL6 _ _ _ _ _ _ _ _ _ ⟨_,_,_,k2,_,efp,by omega,by omega,_,_,_,by rw [at1];exact vk,iT (decide_eq_true (by omega)) fun J7 hJ7=>⟨_,_,_,k2,_,efp,by omega,by omega,_,_,_,by rw [at1];exact vk,_,elp,by omega,by omega,_,by rw [at1];exact vi,?_⟩⟩
   by_cases e:(fl k).getD i 0=p
   ·refine iF (by rw [bne_eq_false_iff_eq,e]) (hJ7 _ _ _ _ _ _ _ _ _ ?_)
    rw [hwr]
    exact ih (i+1) y cap hx l (by omega) (by rw [htk,List.filter_append,←hle];simp [←e]) I
   ·obtain ⟨os,q1,q2⟩:=sl_app1 (zs:=[.int .i64 0]) (v:=.int .i64 (((fl k).getD i 0:Nat):Int)) (b:=8) (e:=T.T_int) (T:=T.T_int) (I.at 0) rfl rfl (by omega)
    refine iT (by rw [bne_iff_ne];omega) ⟨_,_,_,k2,_,efp,by omega,by omega,_,_,_,by rw [at1];exact vk,_,elp,by omega,by omega,_,by rw [at1];exact vi,os,_,q1,fun p' c' h8 res=>hJ7 _ _ _ _ _ _ _ _ _ ?_⟩
    have el:(l++[(fl k).getD i 0]).length=l.length+1:=by simp
    have I1:=I.step 0 (R:=slR y l.length cap 1 (nV l)) (R':=slR p' (l++[(fl k).getD i 0]).length c' 1 (nV (l++[(fl k).getD i 0]))) ((q2 p' c' h8 res).conv (fun P=>by
     rw [el]
     exact sl_congr P fun j hj=>nV_snoc l _ hj) fun _ e=>e)
    rw [hwr]
    have:=ih (i+1) p' c' h8 (l++[(fl k).getD i 0]) (by omega) (by rw [htk,List.filter_append,←hle,List.filter_cons,if_pos (by simpa using e)];rfl) I1
    rw [el] at this
    exact this
 exact key (fl k).length 0 none 0 h6 [] (by omega) rfl I0
end
end Go.Proofs.YteemmpkhdllapaaGreatDoor
namespace Go.Proofs.YteemmpkhdllapaaGreatDoor
open Go.V Classical
structure FlOk (O:Nat) (fl:Nat→List Nat):Prop where
 len:∀k,k≤O→(fl k).length≤2000
 nd:∀k,k≤O→(fl k).Nodup
 bd:∀k,k≤O→∀p∈fl k,p≤2000
theorem filter_head {p:Nat} {l:List Nat} (h:(p::l).Nodup):(p::l).filter (·≠p)=l:=by
 have h1:=(List.nodup_cons.1 h).1
 rw [List.filter_cons,if_neg (by simp)]
 exact List.filter_eq_self.2 fun a ha=>by
  have:a≠p:=fun e=>h1 (by rw [←e];exact ha)
  simpa using this
theorem prL_snoc (L:List PBk) (b:PBk):prL (L++[b])=prL L++[prV b]:=by simp
theorem prL_filter (L:List PBk) (p:Nat):(prL L).filter (·.1≠(p:Int))=prL (L.filter (·.1≠p)):=by
 unfold prL
 rw [List.filter_map]
 congr 1
 refine List.filter_congr fun b _=>?_
 show decide ((b.1:Int)≠(p:Int))=decide (b.1≠p)
 exact decide_eq_decide.2 (by omega)
theorem mem_prL {L:List PBk} {p q:Nat}:(((p:Int),(q:Int))∈prL L)↔(p,q)∈L:=by
 unfold prL
 rw [List.mem_map]
 constructor
 ·rintro ⟨b,hb,e⟩
  have e1:(b.1:Int)=p:=congrArg Prod.fst e
  have e2:(b.2:Int)=q:=congrArg Prod.snd e
  have:b=(p,q):=by cases b;simp at e1 e2 ⊢;omega
  rw [←this];exact hb
 ·exact fun h=>⟨_,h,rfl⟩
theorem shlI {k:Nat} (hk:k≤8):IntKind.wrap .i64 ((1:Int)*2 ^ min (Int.toNat (IntKind.wrap .u64 (k:Int))) (IntKind.bits .i64))=((2 ^ k:Nat):Int):=by
 have:k=0∨k=1∨k=2∨k=3∨k=4∨k=5∨k=6∨k=7∨k=8:=by omega
 rcases this with rfl | rfl | rfl | rfl | rfl | rfl | rfl | rfl | rfl<;>rfl
section
variable {w₀:World} {h h0 hx:Heap} {K:Value→Heap→Prop} {Y:RW5} {O P:Nat} {fl:Nat→List Nat} {L:List PBk}
theorem lives5_ok {o P:Int} {fp vp:Option Addr} {fn fc vc p q:Nat} (hl:L.length≤1000000) (H:(slR vp L.length vc 2 (runV (prL L))).P h)
  (hK:∀h' vp' vc',New h h' (slR vp' (L++[(p,q)]).length vc' 2 (runV (prL (L++[(p,q)]))))→K (dv o P fp fn fc vp' (L++[(p,q)]).length vc') h') :
  CallV Tryz.prog w₀ F.croftref5_lives [dv o P fp fn fc vp L.length vc,.int .i64 (p:Int),.int .i64 (q:Int)] h K:=by
 have key:=ref5_lives_ok (w₀:=w₀) (o:=o) (P:=P) (fp:=fp) (fn:=fn) (fc:=fc) (vc:=vc) (K:=K) (l:=prL L) (p:=(p:Int)) (q:=(q:Int)) (by rw [prL_len];omega) (by rw [prL_len];exact sl_row H) fun h' vp' vc' N=>by
  have el:(L++[(p,q)]).length=L.length+1:=by simp
  have:=hK h' vp' vc' (by rw [el,prL_snoc];rw [prL_len] at N;exact N)
  rw [el] at this
  rw [prL_len]
  exact this
 rw [prL_len] at key
 exact key
theorem dies5_ok {o P:Int} {fp vp:Option Addr} {fn fc vc p:Nat} (hl:L.length≤1000000) (H:(slR vp L.length vc 2 (runV (prL L))).P h)
  (hK:∀h' vp' vc',New h h' (slR vp' (L.filter (·.1≠p)).length vc' 2 (runV (prL (L.filter (·.1≠p)))))→K (dv o P fp fn fc vp' (L.filter (·.1≠p)).length vc') h') :
  CallV Tryz.prog w₀ F.croftref5_dies [dv o P fp fn fc vp L.length vc,.int .i64 (p:Int)] h K:=by
 have key:=ref5_dies_ok (w₀:=w₀) (o:=o) (P:=P) (fp:=fp) (fn:=fn) (fc:=fc) (vc:=vc) (K:=K) (l:=prL L) (p:=(p:Int)) (by rw [prL_len];omega) (by rw [prL_len];exact sl_row H) fun h' vp' vc' N=>by
  have:=hK h' vp' vc' (by rw [prL_filter,prL_len] at N;exact N)
  rw [prL_filter,prL_len]
  exact this
 rw [prL_len] at key
 exact key
theorem ref5_cut_ok {p a b:Nat} (hO:O≤8) (ha:a≤O) (hb:b≤a) (hp:p≤100000) (hl:∀j,j≤O→(fl j).length≤90000) (hL:L.length≤1000000) (H:(rfR Y O fl L).P h)
  (hK:∀h' Y',Stp h h' (rfR Y O fl L) (rfR Y' O (aCut p b fl (a-b)) (L++[(p,b)]))→K (pv Y' O P (L++[(p,b)])) h') :
  CallV Tryz.prog w₀ F.croftref5_cut [pv Y O P L,.int .i64 (p:Int),.int .i64 (a:Int),.int .i64 (b:Int)] h K:=by
 refine croftref5_cut.call ?_
 try dsimp only
 have N5:=box4 h (.int .i64 (O:Int)) (.int .i64 (P:Int)) (.slice Y.fp (O+1) Y.fc) (.slice Y.vp L.length Y.vc) T.T_croftref5_Buddy
 generalize Array.push h (.cells #[.int .i64 (O:Int),.int .i64 (P:Int),.slice Y.fp (O+1) Y.fc,.slice Y.vp L.length Y.vc] T.T_croftref5_Buddy)=h5 at N5 ⊢
 have N6:=box4 h5 (.int .i64 0) (.int .i64 0) (.slice none 0 0) (.slice none 0 0) T.T_croftref5_Buddy
 generalize Array.push h5 (.cells #[.int .i64 0,.int .i64 0,.slice none 0 0,.slice none 0 0] T.T_croftref5_Buddy)=h6 at N6 ⊢
 obtain ⟨b0,eb0⟩ : ∃b0,b0=h.size:=⟨_,rfl⟩
 obtain ⟨b1,eb1⟩ : ∃b1,b1=h5.size:=⟨_,rfl⟩
 rw [←eb0] at N5 ⊢
 rw [←eb1] at N6 ⊢
 intro J3 hJ3 L6 hL6
 have I0:Go.V.Own h h6 (rfR Y O fl L) [blkR b1 4 z4,blkR b0 4 (f4 (.int .i64 (O:Int)) (.int .i64 (P:Int)) (.slice Y.fp (O+1) Y.fc) (.slice Y.vp L.length Y.vc)),frR Y O fl,liR Y L]:=((Go.V.Own.of H).split.new N5).new N6
 have key:∀(d:Nat) (Y1:RW5) (F1:Nat→List Nat) (hx:Heap),b+d≤O→(∀j,j≤O→(F1 j).length+d≤100000)→aCut p b F1 d=aCut p b fl (a-b) →
   Go.V.Own h hx (rfR Y O fl L) [blkR b1 4 z4,blkR b0 4 (f4 (.int .i64 (O:Int)) (.int .i64 (P:Int)) (.slice Y1.fp (O+1) Y1.fc) (.slice Y.vp L.length Y.vc)),frR Y1 O F1,liR Y L] →
   L6 [.int .i64 (p:Int),.int .i64 (b:Int),.pointer (some ⟨b0,0,none⟩),.pointer (some ⟨b1,0,none⟩),.int .i64 (((b+d:Nat):Int)-1)] hx:=by
  intro d
  induction d with
  | zero =>
   intro Y1 F1 hx hbd hl1 he I
   obtain ⟨k0,k1,k2,k3⟩:=f4_cells (I.at 1)
   refine hL6 _ _ _ _ _ _ (iF (decide_eq_false (by omega)) (hJ3 _ _ _ _ _ ⟨_,k0,_,k1,_,_,_,k2,_,_,_,k3,lives5_ok hL (I.at 3) fun h8 vp' vc' N8=>⟨_,_,_,_,_,_,_,_,rfl,?_⟩⟩))
   have I1:=I.new N8
   obtain ⟨w4,S4⟩:=assign4 (I1.at 1) (.int .i64 (O:Int)) (.int .i64 (P:Int)) (.slice Y1.fp (O+1) Y1.fc) (.slice vp' (L++[(p,b)]).length vc')
   have I2:=I1.step 1 S4
   refine ⟨w4,?_⟩
   generalize setCs h8 ⟨b1,0,none⟩ 0 [.int .i64 (O:Int),.int .i64 (P:Int),.slice Y1.fp (O+1) Y1.fc,.slice vp' (L++[(p,b)]).length vc']=h9 at I2 ⊢
   obtain ⟨k0,k1,k2,k3⟩:=f4_cells (I2.at 1)
   refine ⟨_,k0,_,k1,_,_,_,k2,_,_,_,k3,?_⟩
   have S:=I2.two 3 0
   rw [←he] at hK
   exact hK h9 { Y1 with vp:=vp',vc:=vc' } S
  | succ d ih =>
   intro Y1 F1 hx hbd hl1 he I
   obtain ⟨k0,k1,k2,k3⟩:=f4_cells (I.at 1)
   have ey:((b+(d+1):Nat):Int)-1=((b+d:Nat):Int):=by omega
   rw [ey]
   refine hL6 _ _ _ _ _ _ (iT (decide_eq_true (by omega)) ⟨_,k0,_,k1,_,_,_,k2,_,_,_,k3,by rw [IntKind.wrap_u64];omega,?_⟩)
   rw [shlI (show b+d≤8 by omega)]
   have h8:=pow8 (show b+d≤8 by omega)
   rw [show IntKind.wrap .i64 ((p:Int)+((2 ^ (b+d):Nat):Int))=((p+2 ^ (b+d):Nat):Int) by rw [IntKind.wrap_i64];omega]
   refine ref5_enter_ok (Y:=Y1) (fl:=F1) hO (by omega) (by have:=hl1 (b+d) (by omega);omega) (I.at 2) fun h8 Y2 ev ec S2=>⟨_,_,_,_,_,_,_,_,rfl,?_⟩
   have I1:=I.step 2 S2
   obtain ⟨w4,S4⟩:=assign4 (I1.at 1) (.int .i64 (O:Int)) (.int .i64 (P:Int)) (.slice Y2.fp (O+1) Y2.fc) (.slice Y.vp L.length Y.vc)
   have I2:=I1.step 1 S4
   refine ⟨w4,?_⟩
   rw [show IntKind.wrap .i64 (((b+d:Nat):Int)-1)=((b+d:Nat):Int)-1 by rw [IntKind.wrap_i64];omega]
   refine ih Y2 _ _ (by omega) (fun j hj=>?_) he I2
   by_cases ej:j=b+d
   ·rw [ej,fset_same,List.length_cons]
    have:=hl1 (b+d) (by omega)
    omega
   ·rw [fset_ne _ _ ej]
    have:=hl1 j hj
    omega
 have:=key (a-b) Y fl h6 (by omega) (fun j hj=>by have:=hl j hj;omega) rfl I0
 rw [show IntKind.wrap .i64 ((a:Int)-1)=((b+(a-b):Nat):Int)-1 by rw [IntKind.wrap_i64];omega]
 exact this
theorem ref5_Take_ok {z:Int} (hO:O≤8) (f:FlOk O fl) (hL:L.length≤1000000) (H:(rfR Y O fl L).P h)
  (hb:(z<0∨z>O)→∀h',Upd NoB h h'→K (.tuple #[pv Y O P L,.int .i64 0,.int .i64 1]) h')
  (h0:∀on:Nat,z=on→on≤O→(∀j,on≤j→j≤O→fl j=[])→∀h',Upd NoB h h'→K (.tuple #[pv Y O P L,.int .i64 0,.int .i64 2]) h')
  (h1:∀on:Nat,z=on→on≤O→∀j p l,on≤j→j≤O→fl j=p::l→(∀i,on≤i→i<j→fl i=[])→∀h' Y',Stp h h' (rfR Y O fl L) (rfR Y' O (aCut p on (fset fl j l) (j-on)) (L++[(p,on)]))→K (.tuple #[pv Y' O P (L++[(p,on)]),.int .i64 (p:Int),.int .i64 0]) h') :
  CallV Tryz.prog w₀ F.croftref5_Take [pv Y O P L,.int .i64 z] h K:=by
 refine croftref5_Take.call ?_
 try dsimp only
 have N5:=box4 h (.int .i64 (O:Int)) (.int .i64 (P:Int)) (.slice Y.fp (O+1) Y.fc) (.slice Y.vp L.length Y.vc) T.T_croftref5_Buddy
 generalize Array.push h (.cells #[.int .i64 (O:Int),.int .i64 (P:Int),.slice Y.fp (O+1) Y.fc,.slice Y.vp L.length Y.vc] T.T_croftref5_Buddy)=h5 at N5 ⊢
 have N6:=box4 h5 (.int .i64 0) (.int .i64 0) (.slice none 0 0) (.slice none 0 0) T.T_croftref5_Buddy
 generalize Array.push h5 (.cells #[.int .i64 0,.int .i64 0,.slice none 0 0,.slice none 0 0] T.T_croftref5_Buddy)=h6 at N6 ⊢
 obtain ⟨b0,eb0⟩ : ∃b0,b0=h.size:=⟨_,rfl⟩
 obtain ⟨b1,eb1⟩ : ∃b1,b1=h5.size:=⟨_,rfl⟩
 rw [←eb0] at N5 ⊢
 rw [←eb1] at N6 ⊢
 have I0:Go.V.Own h h6 (rfR Y O fl L) [blkR b1 4 z4,blkR b0 4 (f4 (.int .i64 (O:Int)) (.int .i64 (P:Int)) (.slice Y.fp (O+1) Y.fc) (.slice Y.vp L.length Y.vc)),frR Y O fl,liR Y L]:=((Go.V.Own.of H).split.new N5).new N6
 have u6:Upd NoB h h6:=N5.u.nx N6.u fun _ e _=>e
 obtain ⟨k0,k1,k2,k3⟩:=f4_cells (I0.at 1)
 have quiet:Upd NoB h (setCs h6 ⟨b1,0,none⟩ 0 [.int .i64 (O:Int),.int .i64 (P:Int),.slice Y.fp (O+1) Y.fc,.slice Y.vp L.length Y.vc])∧WrN h6 ⟨b1,0,none⟩ 4∧(blkR b1 4 (f4 (.int .i64 (O:Int)) (.int .i64 (P:Int)) (.slice Y.fp (O+1) Y.fc) (.slice Y.vp L.length Y.vc))).P (setCs h6 ⟨b1,0,none⟩ 0 [.int .i64 (O:Int),.int .i64 (P:Int),.slice Y.fp (O+1) Y.fc,.slice Y.vp L.length Y.vc]):=by
  obtain ⟨w4,S4⟩:=assign4 (I0.at 0) (.int .i64 (O:Int)) (.int .i64 (P:Int)) (.slice Y.fp (O+1) Y.fc) (.slice Y.vp L.length Y.vc)
  exact ⟨u6.nx S4.u fun b e hb=>by
   have e:b=b1:=e
   have:=N5.u.1
   omega,w4,S4.p⟩
 obtain ⟨uq,wq,Bq⟩:=quiet
 generalize hq9:setCs h6 ⟨b1,0,none⟩ 0 [.int .i64 (O:Int),.int .i64 (P:Int),.slice Y.fp (O+1) Y.fc,.slice Y.vp L.length Y.vc]=h9 at uq Bq ⊢
 obtain ⟨q0,q1,q2,q3⟩:=f4_cells Bq
 intro J3 hJ3
 have refused:(z<0∨z>O)→J3 true h6:=fun hz=>hJ3 _ _ ⟨fun _=>⟨_,k0,_,k1,_,_,_,k2,_,_,_,k3,wq,by rw [hq9];exact ⟨_,q0,_,q1,_,_,_,q2,_,_,_,q3,hb hz h9 uq⟩⟩,fun e=>by cases e⟩
 by_cases hn:z<0
 ·exact pT (decide_eq_true hn) (refused (.inl hn))
 refine pF (decide_eq_false hn) ⟨_,k0,?_⟩
 by_cases hz:z>O
 ·rw [decide_eq_true hz];exact refused (.inr hz)
 rw [decide_eq_false hz]
 obtain ⟨on,rfl⟩ : ∃on:Nat,z=on:=⟨z.toNat,by omega⟩
 have hon:on≤O:=by omega
 refine hJ3 _ _ (iF rfl fun J5 hJ5 L7 hL7=>?_)
 have key:∀(d i:Nat),on≤i→i+d=O+1→(∀m,on≤m→m<i→fl m=[])→L7 [.int .i64 (on:Int),.pointer (some ⟨b0,0,none⟩),.pointer (some ⟨b1,0,none⟩),.int .i64 (i:Int)] h6:=by
  intro d
  induction d with
  | zero =>
   intro i hoi hi hno
   refine hL7 _ _ _ _ _ ⟨_,k0,iF (decide_eq_false (by omega)) (hJ5 _ _ _ ⟨_,k0,_,k1,_,_,_,k2,_,_,_,k3,wq,by rw [hq9];exact ⟨_,q0,_,q1,_,_,_,q2,_,_,_,q3,h0 on rfl hon (fun j hj1 hj2=>hno j hj1 (by omega)) h9 uq⟩⟩)⟩
  | succ d ih =>
   intro i hoi hi hno
   have hiO:i≤O:=by omega
   have HF:(frR Y O fl).P h6:=I0.at 2
   obtain ⟨bf,efp,vi⟩:=fr_cell HF hiO
   refine hL7 _ _ _ _ _ ⟨_,k0,iT (decide_eq_true (by omega)) ⟨_,_,_,k2,_,efp,by omega,by omega,_,_,_,by rw [at1];exact vi,?_⟩⟩
   cases hF:fl i with
   | nil =>
    refine iF (by simp) ?_
    rw [show IntKind.wrap .i64 ((i:Int)+1)=((i+1:Nat):Int) by rw [IntKind.wrap_i64];omega]
    refine ih (i+1) (by omega) (by omega) fun m hm1 hm2=>?_
    by_cases e:m=i
    ·rw [e];exact hF
    ·exact hno m hm1 (by omega)
   | cons p l =>
    have hnd:=f.nd i hiO
    rw [hF] at hnd
    have hpb:=f.bd i hiO p (by rw [hF];exact List.mem_cons_self ..)
    have hlen:0<(fl i).length:=by rw [hF];simp
    obtain ⟨bl,elp,v0⟩:=sl_cell (fr_row HF hiO) (i:=0) (by omega)
    have e0:nV (fl i) 0=.int .i64 (p:Int):=by unfold nV;rw [hF];rfl
    rw [e0] at v0
    refine iT (decide_eq_true (by simp)) ⟨_,_,_,k2,_,efp,by omega,by omega,_,_,_,by rw [at1];exact vi,_,elp,by omega,by omega,(p:Int),by rw [show Int.toNat (0:Int)*1=0 from rfl,add_mk];exact v0,_,k0,_,k1,_,_,_,k2,_,_,_,k3,?_⟩
    refine ref5_leave_ok (Y:=Y) (fl:=fl) hO hiO (by have:=f.len i hiO;omega) HF fun h7 Y1 ev ec S1=>⟨_,_,_,_,_,_,_,_,rfl,?_⟩
    rw [hF,filter_head hnd] at S1
    have I1:=I0.step 2 S1
    have I1:Go.V.Own h h7 (rfR Y O fl L) [blkR b1 4 z4,blkR b0 4 (f4 (.int .i64 (O:Int)) (.int .i64 (P:Int)) (.slice Y.fp (O+1) Y.fc) (.slice Y.vp L.length Y.vc)),frR Y1 O (fset fl i l),liR Y L]:=I1
    have I2:Go.V.Own h h7 (rfR Y O fl L) [rfR Y1 O (fset fl i l) L,blkR b1 4 z4]:=by
     have:=(I1.perm (rs':=[frR Y1 O (fset fl i l),liR Y L,blkR b1 4 z4,blkR b0 4 (f4 (.int .i64 (O:Int)) (.int .i64 (P:Int)) (.slice Y.fp (O+1) Y.fc) (.slice Y.vp L.length Y.vc))]) (List.perm_append_comm (l₁:=[_,_]) (l₂:=[_,_]))).join.sub (.cons_cons _ (.cons_cons _ (.cons _ .slnil)))
     unfold rfR liR
     rw [ev,ec]
     exact this
    rw [←ev,←ec]
    refine ref5_cut_ok (Y:=Y1) (fl:=fset fl i l) (L:=L) hO hiO hoi (by omega) (fun j hj=>by
     by_cases ej:j=i
     ·rw [ej,fset_same];have:=f.len i hiO;rw [hF] at this;simp at this;omega
     ·rw [fset_ne _ _ ej];have:=f.len j hj;omega) hL (I2.at 0) fun h8 Y2 S2=>⟨_,_,_,_,_,_,_,_,rfl,?_⟩
    have I3:=I2.step 0 S2
    obtain ⟨w4,S4⟩:=assign4 (I3.at 1) (.int .i64 (O:Int)) (.int .i64 (P:Int)) (.slice Y2.fp (O+1) Y2.fc) (.slice Y2.vp (L++[(p,on)]).length Y2.vc)
    have I4:=I3.step 1 S4
    refine ⟨w4,?_⟩
    generalize setCs h8 ⟨b1,0,none⟩ 0 [.int .i64 (O:Int),.int .i64 (P:Int),.slice Y2.fp (O+1) Y2.fc,.slice Y2.vp (L++[(p,on)]).length Y2.vc]=h10 at I4 ⊢
    obtain ⟨t0,t1,t2,t3⟩:=f4_cells (I4.at 1)
    exact ⟨_,t0,_,t1,_,_,_,t2,_,_,_,t3,h1 on rfl hon i p l hoi hiO hF hno h10 Y2 (I4.one 0)⟩
 exact key (O+1-on) on (Nat.le_refl _) (by omega) fun m h1 h2=>by omega
end
end Go.Proofs.YteemmpkhdllapaaGreatDoor
namespace Go.Proofs.YteemmpkhdllapaaGreatDoor
open Go.V Classical
theorem bv_clr5 {p k:Nat} (hk:k≤8) (hp:p<4096) :
  IntKind.wrap .i64 (((BitVec.ofInt (IntKind.bits .i64) (p:Int) &&& ~~~ (BitVec.ofInt (IntKind.bits .i64) ((2 ^ k:Nat):Int))).toNat:Int))=(dwn p k:Int):=by
 have h8:=pow8 hk
 have e:∀x y:BitVec 64,x &&& ~~~ y=x ^^^ (x &&& y):=fun x y=>by
  apply BitVec.eq_of_getLsbD_eq
  intro i hi
  rw [BitVec.getLsbD_and,BitVec.getLsbD_not,BitVec.getLsbD_xor,BitVec.getLsbD_and]
  cases x.getLsbD i<;>cases y.getLsbD i<;>simp [hi]
 have t1:(BitVec.ofInt 64 (p:Int)).toNat=p:=bv_toNat (by omega)
 have t2:(BitVec.ofInt 64 ((2 ^ k:Nat):Int)).toNat=2 ^ k:=bv_toNat (by omega)
 have e2:(BitVec.ofInt 64 (p:Int) &&& ~~~ (BitVec.ofInt 64 ((2 ^ k:Nat):Int))).toNat=dwn p k:=by
  rw [e,BitVec.toNat_xor,BitVec.toNat_and,t1,t2,clr_dwn]
 rw [show (BitVec.ofInt (IntKind.bits .i64) (p:Int) &&& ~~~ (BitVec.ofInt (IntKind.bits .i64) ((2 ^ k:Nat):Int))).toNat=dwn p k from e2,IntKind.wrap_i64]
 have:dwn p k≤p:=by unfold dwn;split<;>omega
 omega
theorem bv_xor5 {p k:Nat} (hk:k≤8) (hp:p<4096) (h:p % 2 ^ k=0) :
  IntKind.wrap .i64 (((BitVec.ofInt (IntKind.bits .i64) (p:Int) ^^^ BitVec.ofInt (IntKind.bits .i64) ((2 ^ k:Nat):Int)).toNat:Int))=(bud p k:Int):=by
 have h8:=pow8 hk
 rw [BitVec.toNat_xor,bv_toNat (by omega),bv_toNat (by omega),xor_bud h,IntKind.wrap_i64]
 have:bud p k≤p+256:=by unfold bud;split<;>omega
 omega
section
variable {w₀:World} {h h0 hx:Heap} {K:Value→Heap→Prop} {Y:RW5} {O P:Nat} {fl:Nat→List Nat} {L:List PBk}
theorem isLive5_ok {o P p q:Int} {fp vp:Option Addr} {fn fc vc:Nat} (hl:L.length≤1000000) (H:(slR vp L.length vc 2 (runV (prL L))).P h) (hK:∀h',Upd NoB h h'→K (.bool (decide ((p,q)∈prL L))) h') :
  CallV Tryz.prog w₀ F.croftref5_IsLive [dv o P fp fn fc vp L.length vc,.int .i64 p,.int .i64 q] h K:=by
 have key:=ref5_IsLive_ok (w₀:=w₀) (o:=o) (P:=P) (p:=p) (q:=q) (fp:=fp) (fn:=fn) (fc:=fc) (vc:=vc) (K:=K) (l:=prL L) (by rw [prL_len];omega) (by rw [prL_len];exact sl_row H) hK
 rw [prL_len] at key
 exact key
theorem ref5_Give_ok {pz z:Int} (hO:O≤8) (f:∀k,k≤O→(fl k).length≤2000) (hL:L.length≤1000000) (al:∀b∈L,b.1≤2000∧b.2≤O∧b.1 % 2 ^ b.2=0) (H:(rfR Y O fl L).P h)
  (hb:(pz,z)∉prL L→∀h',Upd NoB h h'→K (.tuple #[pv Y O P L,.int .i64 1]) h')
  (hg:∀p on:Nat,pz=p→z=on→(p,on)∈L→∀h' Y',Stp h h' (rfR Y O fl L) (rfR Y' O (aUp fl p on (O-on)) (L.filter (·.1≠p)))→K (.tuple #[pv Y' O P (L.filter (·.1≠p)),.int .i64 0]) h') :
  CallV Tryz.prog w₀ F.croftref5_Give [pv Y O P L,.int .i64 pz,.int .i64 z] h K:=by
 refine croftref5_Give.call ?_
 try dsimp only
 have N5:=box4 h (.int .i64 (O:Int)) (.int .i64 (P:Int)) (.slice Y.fp (O+1) Y.fc) (.slice Y.vp L.length Y.vc) T.T_croftref5_Buddy
 generalize Array.push h (.cells #[.int .i64 (O:Int),.int .i64 (P:Int),.slice Y.fp (O+1) Y.fc,.slice Y.vp L.length Y.vc] T.T_croftref5_Buddy)=h5 at N5 ⊢
 have N6:=box4 h5 (.int .i64 0) (.int .i64 0) (.slice none 0 0) (.slice none 0 0) T.T_croftref5_Buddy
 generalize Array.push h5 (.cells #[.int .i64 0,.int .i64 0,.slice none 0 0,.slice none 0 0] T.T_croftref5_Buddy)=h6 at N6 ⊢
 obtain ⟨b0,eb0⟩ : ∃b0,b0=h.size:=⟨_,rfl⟩
 obtain ⟨b1,eb1⟩ : ∃b1,b1=h5.size:=⟨_,rfl⟩
 rw [←eb0] at N5 ⊢
 rw [←eb1] at N6 ⊢
 have I0:Go.V.Own h h6 (rfR Y O fl L) [blkR b1 4 z4,blkR b0 4 (f4 (.int .i64 (O:Int)) (.int .i64 (P:Int)) (.slice Y.fp (O+1) Y.fc) (.slice Y.vp L.length Y.vc)),frR Y O fl,liR Y L]:=((Go.V.Own.of H).split.new N5).new N6
 have u6:Upd NoB h h6:=N5.u.nx N6.u fun _ e _=>e
 obtain ⟨k0,k1,k2,k3⟩:=f4_cells (I0.at 1)
 refine ⟨_,k0,_,k1,_,_,_,k2,_,_,_,k3,isLive5_ok hL (I0.at 3) fun h7 u7=>⟨_,rfl,?_⟩⟩
 have I7:=I0.quiet u7
 have u67:Upd NoB h h7:=u6.nx u7 fun _ e _=>e
 obtain ⟨k0,k1,k2,k3⟩:=f4_cells (I7.at 1)
 by_cases hin:(pz,z)∈prL L
 case neg =>
  rw [decide_eq_false hin]
  obtain ⟨w4,S4⟩:=assign4 (I7.at 0) (.int .i64 (O:Int)) (.int .i64 (P:Int)) (.slice Y.fp (O+1) Y.fc) (.slice Y.vp L.length Y.vc)
  have I8:=I7.step 0 S4
  refine iT rfl ⟨_,k0,_,k1,_,_,_,k2,_,_,_,k3,w4,?_⟩
  have S5:Upd NoB h _:=u67.nx S4.u fun b e hb=>by
   have e:b=b1:=e
   have:=N5.u.1
   omega
  generalize setCs h7 ⟨b1,0,none⟩ 0 [.int .i64 (O:Int),.int .i64 (P:Int),.slice Y.fp (O+1) Y.fc,.slice Y.vp L.length Y.vc]=h9 at I8 S5 ⊢
  obtain ⟨q0,q1,q2,q3⟩:=f4_cells (I8.at 0)
  exact ⟨_,q0,_,q1,_,_,_,q2,_,_,_,q3,hb hin h9 S5⟩
 rw [decide_eq_true hin]
 obtain ⟨⟨p,on⟩,hpo,epo⟩:=List.mem_map.1 hin
 have ep:(p:Int)=pz:=congrArg Prod.fst epo
 have eo:(on:Int)=z:=congrArg Prod.snd epo
 subst ep eo
 obtain ⟨hp1,ho1,hal⟩:=al _ hpo
 simp only [] at hp1 ho1 hal
 refine iF rfl ⟨_,k0,_,k1,_,_,_,k2,_,_,_,k3,dies5_ok hL (I7.at 3) fun h8 vp' vc' N8=>⟨_,_,_,_,_,_,_,_,rfl,?_⟩⟩
 have I8:=I7.new N8
 obtain ⟨w4,S4⟩:=assign4 (I8.at 2) (.int .i64 (O:Int)) (.int .i64 (P:Int)) (.slice Y.fp (O+1) Y.fc) (.slice vp' (L.filter (·.1≠p)).length vc')
 have I9:=I8.step 2 S4
 refine ⟨w4,fun J7 hJ7 L10 hL10=>?_⟩
 generalize setCs h8 ⟨b0,0,none⟩ 0 [.int .i64 (O:Int),.int .i64 (P:Int),.slice Y.fp (O+1) Y.fc,.slice vp' (L.filter (·.1≠p)).length vc']=h9 at I9 ⊢
 have I9:Go.V.Own h h9 (rfR Y O fl L) [slR vp' (L.filter (·.1≠p)).length vc' 2 (runV (prL (L.filter (·.1≠p)))),blkR b1 4 z4,blkR b0 4 (f4 (.int .i64 (O:Int)) (.int .i64 (P:Int)) (.slice Y.fp (O+1) Y.fc) (.slice vp' (L.filter (·.1≠p)).length vc')),frR Y O fl]:=I9.sub (.cons_cons _ (.cons_cons _ (.cons_cons _ (.cons_cons _ (.cons _ .slnil)))))
 have hgp:=hg p on rfl rfl hpo
 generalize L.filter (·.1≠p)=L' at I9 hgp ⊢
 have fin:∀(k q:Nat) (Y1:RW5) (F1:Nat→List Nat) (hx:Heap),k≤O→(F1 k).length≤2000→fset F1 k (q::F1 k)=aUp fl p on (O-on) →
   Go.V.Own h hx (rfR Y O fl L) [slR vp' L'.length vc' 2 (runV (prL L')),blkR b1 4 z4,blkR b0 4 (f4 (.int .i64 (O:Int)) (.int .i64 (P:Int)) (.slice Y1.fp (O+1) Y1.fc) (.slice vp' L'.length vc')),frR Y1 O F1] →
   J7 [.int .i64 (q:Int),.pointer (some ⟨b0,0,none⟩),.pointer (some ⟨b1,0,none⟩),.int .i64 (k:Int)] hx:=by
  intro k q Y1 F1 hx hkO hlk he I
  obtain ⟨k0,k1,k2,k3⟩:=f4_cells (I.at 2)
  refine hJ7 _ _ _ _ _ ⟨_,k0,_,k1,_,_,_,k2,_,_,_,k3,ref5_enter_ok (Y:=Y1) (fl:=F1) hO hkO (by omega) (I.at 3) fun h10 Y2 ev ec S2=>⟨_,_,_,_,_,_,_,_,rfl,?_⟩⟩
  have I1:=I.step 3 S2
  obtain ⟨w5,S5⟩:=assign4 (I1.at 1) (.int .i64 (O:Int)) (.int .i64 (P:Int)) (.slice Y2.fp (O+1) Y2.fc) (.slice vp' L'.length vc')
  have I2:=I1.step 1 S5
  refine ⟨w5,?_⟩
  generalize setCs h10 ⟨b1,0,none⟩ 0 [.int .i64 (O:Int),.int .i64 (P:Int),.slice Y2.fp (O+1) Y2.fc,.slice vp' L'.length vc']=h11 at I2 ⊢
  obtain ⟨k0,k1,k2,k3⟩:=f4_cells (I2.at 1)
  have S:=I2.two 3 0
  rw [he] at S
  exact ⟨_,k0,_,k1,_,_,_,k2,_,_,_,k3,hgp h11 { Y2 with vp:=vp',vc:=vc' } S⟩
 have key:∀(d k q:Nat) (Y1:RW5) (F1:Nat→List Nat) (hx:Heap),k+d=O→q≤2000→q % 2 ^ k=0→(∀j,j≤O→(F1 j).length≤2000)→aUp F1 q k d=aUp fl p on (O-on) →
   Go.V.Own h hx (rfR Y O fl L) [slR vp' L'.length vc' 2 (runV (prL L')),blkR b1 4 z4,blkR b0 4 (f4 (.int .i64 (O:Int)) (.int .i64 (P:Int)) (.slice Y1.fp (O+1) Y1.fc) (.slice vp' L'.length vc')),frR Y1 O F1] →
   L10 [.int .i64 (q:Int),.pointer (some ⟨b0,0,none⟩),.pointer (some ⟨b1,0,none⟩),.int .i64 (k:Int)] hx:=by
  intro d
  induction d with
  | zero =>
   intro k q Y1 F1 hx hkd hq hqa hl1 he I
   obtain ⟨k0,k1,k2,k3⟩:=f4_cells (I.at 2)
   exact hL10 _ _ _ _ _ ⟨_,k0,iF (decide_eq_false (by omega)) (fin k q Y1 F1 hx (by omega) (hl1 k (by omega)) he I)⟩
  | succ d ih =>
   intro k q Y1 F1 hx hkd hq hqa hl1 he I
   obtain ⟨k0,k1,k2,k3⟩:=f4_cells (I.at 2)
   have hk8:k≤8:=by omega
   refine hL10 _ _ _ _ _ ⟨_,k0,iT (decide_eq_true (by omega)) ⟨by rw [IntKind.wrap_u64];omega,_,k0,_,k1,_,_,_,k2,_,_,_,k3,?_⟩⟩
   rw [shlI hk8,bv_xor5 hk8 (by omega) hqa,bv_clr5 hk8 (by omega)]
   refine ref5_Is_ok (Y:=Y1) (fl:=F1) hO (by omega) (by have:=hl1 k (by omega);omega) (I.at 3) fun h10 u10=>⟨_,rfl,?_⟩
   have I1:=I.quiet u10
   have hA:aUp F1 q k (d+1)=if bud q k∈F1 k then aUp (fset F1 k ((F1 k).filter (·≠bud q k))) (dwn q k) (k+1) d else fset F1 k (q::F1 k):=rfl
   by_cases hm:bud q k∈F1 k
   ·rw [if_pos hm] at hA
    rw [decide_eq_true hm]
    obtain ⟨k0,k1,k2,k3⟩:=f4_cells (I1.at 2)
    refine iF rfl ⟨_,k0,_,k1,_,_,_,k2,_,_,_,k3,ref5_leave_ok (Y:=Y1) (fl:=F1) hO (by omega) (by have:=hl1 k (by omega);omega) (I1.at 3) fun h11 Y2 ev ec S2=>⟨_,_,_,_,_,_,_,_,rfl,?_⟩⟩
    have I2:=I1.step 3 S2
    obtain ⟨w5,S5⟩:=assign4 (I2.at 2) (.int .i64 (O:Int)) (.int .i64 (P:Int)) (.slice Y2.fp (O+1) Y2.fc) (.slice vp' L'.length vc')
    have I3:=I2.step 2 S5
    refine ⟨w5,by rw [IntKind.wrap_u64];omega,?_⟩
    obtain ⟨d1,d2⟩:=dwn_al hqa
    rw [show IntKind.wrap .i64 ((k:Int)+1)=((k+1:Nat):Int) by rw [IntKind.wrap_i64];omega]
    refine ih (k+1) (dwn q k) Y2 _ _ (by omega) (by omega) d1 (fun j hj=>?_) (by rw [←hA,he]) I3
    by_cases ej:j=k
    ·rw [ej,fset_same]
     exact Nat.le_trans (List.length_filter_le _ _) (hl1 k (by omega))
    ·rw [fset_ne _ _ ej];exact hl1 j hj
   ·rw [if_neg hm] at hA
    rw [decide_eq_false hm]
    exact iT rfl (fin k q Y1 F1 h10 (by omega) (hl1 k (by omega)) (by rw [←hA,he]) I1)
 exact key (O-on) on p Y fl h9 (by omega) hp1 hal f rfl I9
end
end Go.Proofs.YteemmpkhdllapaaGreatDoor
namespace Go.Proofs.YteemmpkhdllapaaGreatDoor
open Go.V Classical
section
variable {w₀:World} {h h0 hx:Heap} {K:Value→Heap→Prop} {Y:RW5} {O P:Nat} {fl:Nat→List Nat} {L:List PBk}
theorem ref5_Feed_ok (hO:O≤8) (hP:P≤1024) (h2:P≠0→2 ^ O≤P) (f:∀k,k≤O→(fl k).length≤2000) (hL:L.length≤1000000) (al:∀b∈L,b.1≤2000∧b.2≤O∧b.1 % 2 ^ b.2=0) (H:(rfR Y O fl L).P h)
  (hb:¬(P≠0∧(P-2 ^ O,O)∈L)→∀h',Upd NoB h h'→K (.tuple #[pv Y O P L,.int .i64 9]) h')
  (hg:P≠0→(P-2 ^ O,O)∈L→∀h' Y',Stp h h' (rfR Y O fl L) (rfR Y' O (fset fl O ((P-2 ^ O)::fl O)) (L.filter (·.1≠P-2 ^ O)))→K (.tuple #[pv Y' O P (L.filter (·.1≠P-2 ^ O)),.int .i64 0]) h') :
  CallV Tryz.prog w₀ F.croftref5_Feed [pv Y O P L] h K:=by
 refine croftref5_Feed.call ?_
 try dsimp only
 have N5:=box4 h (.int .i64 (O:Int)) (.int .i64 (P:Int)) (.slice Y.fp (O+1) Y.fc) (.slice Y.vp L.length Y.vc) T.T_croftref5_Buddy
 generalize Array.push h (.cells #[.int .i64 (O:Int),.int .i64 (P:Int),.slice Y.fp (O+1) Y.fc,.slice Y.vp L.length Y.vc] T.T_croftref5_Buddy)=h5 at N5 ⊢
 have N6:=box4 h5 (.int .i64 0) (.int .i64 0) (.slice none 0 0) (.slice none 0 0) T.T_croftref5_Buddy
 generalize Array.push h5 (.cells #[.int .i64 0,.int .i64 0,.slice none 0 0,.slice none 0 0] T.T_croftref5_Buddy)=h6 at N6 ⊢
 obtain ⟨b0,eb0⟩ : ∃b0,b0=h.size:=⟨_,rfl⟩
 obtain ⟨b1,eb1⟩ : ∃b1,b1=h5.size:=⟨_,rfl⟩
 rw [←eb0] at N5 ⊢
 rw [←eb1] at N6 ⊢
 have I0:Go.V.Own h h6 (rfR Y O fl L) [blkR b1 4 z4,blkR b0 4 (f4 (.int .i64 (O:Int)) (.int .i64 (P:Int)) (.slice Y.fp (O+1) Y.fc) (.slice Y.vp L.length Y.vc)),rfR Y O fl L]:=((Go.V.Own.of H).new N5).new N6
 have u6:Upd NoB h h6:=N5.u.nx N6.u fun _ e _=>e
 obtain ⟨k0,k1,k2,k3⟩:=f4_cells (I0.at 1)
 refine ⟨_,k0,_,k1,_,_,_,k2,_,_,_,k3,ref5_Top_ok hO hP fun h7 u7=>⟨_,rfl,fun J4 hJ4=>?_⟩⟩
 have I7:=I0.quiet u7
 have u67:Upd NoB h h7:=u6.nx u7 fun _ e _=>e
 have no:∀hx,Upd NoB h hx→Go.V.Own h hx (rfR Y O fl L) [blkR b1 4 z4,blkR b0 4 (f4 (.int .i64 (O:Int)) (.int .i64 (P:Int)) (.slice Y.fp (O+1) Y.fc) (.slice Y.vp L.length Y.vc)),rfR Y O fl L]→¬(P≠0∧(P-2 ^ O,O)∈L)→J4 true hx:=by
  intro hx ux I hn
  obtain ⟨k0,k1,k2,k3⟩:=f4_cells (I.at 1)
  obtain ⟨w4,S4⟩:=assign4 (I.at 0) (.int .i64 (O:Int)) (.int .i64 (P:Int)) (.slice Y.fp (O+1) Y.fc) (.slice Y.vp L.length Y.vc)
  refine hJ4 _ _ ⟨fun _=>⟨_,k0,_,k1,_,_,_,k2,_,_,_,k3,w4,?_⟩,fun e=>by cases e⟩
  have I8:=I.step 0 S4
  have S5:Upd NoB h _:=ux.nx S4.u fun b e hb=>by
   have e:b=b1:=e
   have:=N5.u.1
   omega
  generalize setCs hx ⟨b1,0,none⟩ 0 [.int .i64 (O:Int),.int .i64 (P:Int),.slice Y.fp (O+1) Y.fc,.slice Y.vp L.length Y.vc]=h9 at I8 S5 ⊢
  obtain ⟨q0,q1,q2,q3⟩:=f4_cells (I8.at 0)
  exact ⟨_,q0,_,q1,_,_,_,q2,_,_,_,q3,hb hn h9 S5⟩
 by_cases hP0:P=0
 ·rw [if_pos hP0]
  exact pT rfl (no h7 u67 I7 fun hn=>hn.1 hP0)
 rw [if_neg hP0]
 have h2P:=h2 hP0
 have et:(P:Int)-((2 ^ O:Nat):Int)=((P-2 ^ O:Nat):Int):=by omega
 obtain ⟨k0,k1,k2,k3⟩:=f4_cells (I7.at 1)
 refine pF (decide_eq_false (by omega)) ⟨_,k0,_,k1,_,_,_,k2,_,_,_,k3,_,k0,_,k1,_,_,_,k2,_,_,_,k3,_,k0,ref5_Top_ok hO hP fun h8 u8=>⟨_,rfl,?_⟩⟩
 rw [if_neg hP0,et]
 have I8:=I7.quiet u8
 have u8':Upd NoB h h8:=u67.nx u8 fun _ e _=>e
 obtain ⟨k0,k1,k2,k3⟩:=f4_cells (I8.at 1)
 have HR:(rfR Y O fl L).P h8:=I8.at 2
 refine ⟨k0,k0,k1,k2,k3,isLive5_ok hL HR.2.1 fun h9 u9=>⟨_,rfl,?_⟩⟩
 have I9:=I8.quiet u9
 have u9':Upd NoB h h9:=u8'.nx u9 fun _ e _=>e
 by_cases hin:(P-2 ^ O,O)∈L
 case neg =>
  rw [decide_eq_false fun hm=>hin (mem_prL.1 hm)]
  exact no h9 u9' I9 fun hn=>hin hn.2
 rw [decide_eq_true (mem_prL.2 hin)]
 obtain ⟨k0,k1,k2,k3⟩:=f4_cells (I9.at 1)
 refine hJ4 _ _ ⟨fun e=>(by cases e),fun _=>⟨_,k0,_,k1,_,_,_,k2,_,_,_,k3,_,k0,_,k1,_,_,_,k2,_,_,_,k3,_,k0,ref5_Top_ok hO hP fun h10 u10=>⟨_,rfl,?_⟩⟩⟩
 rw [if_neg hP0,et]
 have I10:=I9.quiet u10
 obtain ⟨k0,k1,k2,k3⟩:=f4_cells (I10.at 1)
 refine ⟨k0,k0,k1,k2,k3,ref5_Give_ok hO f hL al (I10.at 2) (fun hn=>absurd (mem_prL.2 hin) hn) fun p on ep eo hpo h11 Y' S=>⟨_,_,_,_,_,_,_,_,_,rfl,?_⟩⟩
 obtain rfl:P-2 ^ O=p:=by omega
 obtain rfl:O=on:=by omega
 rw [Nat.sub_self] at S
 have I11:=I10.step 2 S
 obtain ⟨w4,S4⟩:=assign4 (I11.at 0) (.int .i64 (O:Int)) (.int .i64 (P:Int)) (.slice Y'.fp (O+1) Y'.fc) (.slice Y'.vp (L.filter (·.1≠P-2 ^ O)).length Y'.vc)
 have I12:=I11.step 0 S4
 refine ⟨w4,?_⟩
 generalize setCs h11 ⟨b1,0,none⟩ 0 [.int .i64 (O:Int),.int .i64 (P:Int),.slice Y'.fp (O+1) Y'.fc,.slice Y'.vp (L.filter (·.1≠P-2 ^ O)).length Y'.vc]=h12 at I12 ⊢
 obtain ⟨q0,q1,q2,q3⟩:=f4_cells (I12.at 0)
 exact ⟨_,q0,_,q1,_,_,_,q2,_,_,_,q3,hg hP0 hin h12 Y' (I12.one 2)⟩
end
end Go.Proofs.YteemmpkhdllapaaGreatDoor
namespace Go.Proofs.YteemmpkhdllapaaGreatDoor
open Go.V Classical
section
variable {w₀:World} {h h0 hx:Heap} {K:Value→Heap→Prop} {Y:RW5} {O P:Nat} {fl:Nat→List Nat} {L:List PBk}
theorem ref5_Pull_ok (hO:O≤8) (hP:P≤1024) (h2:P≠0→2 ^ O≤P) (f:∀k,k≤O→(fl k).length≤2000) (hL:L.length≤1000000) (H:(rfR Y O fl L).P h)
  (hb:¬(P≠0∧P-2 ^ O∈fl O)→∀h',Upd NoB h h'→K (.tuple #[pv Y O P L,.int .i64 9]) h')
  (hg:P≠0→P-2 ^ O∈fl O→∀h' Y',Stp h h' (rfR Y O fl L) (rfR Y' O (fset fl O ((fl O).filter (·≠P-2 ^ O))) (L++[(P-2 ^ O,O)]))→K (.tuple #[pv Y' O P (L++[(P-2 ^ O,O)]),.int .i64 0]) h') :
  CallV Tryz.prog w₀ F.croftref5_Pull [pv Y O P L] h K:=by
 refine croftref5_Pull.call ?_
 try dsimp only
 have N5:=box4 h (.int .i64 (O:Int)) (.int .i64 (P:Int)) (.slice Y.fp (O+1) Y.fc) (.slice Y.vp L.length Y.vc) T.T_croftref5_Buddy
 generalize Array.push h (.cells #[.int .i64 (O:Int),.int .i64 (P:Int),.slice Y.fp (O+1) Y.fc,.slice Y.vp L.length Y.vc] T.T_croftref5_Buddy)=h5 at N5 ⊢
 have N6:=box4 h5 (.int .i64 0) (.int .i64 0) (.slice none 0 0) (.slice none 0 0) T.T_croftref5_Buddy
 generalize Array.push h5 (.cells #[.int .i64 0,.int .i64 0,.slice none 0 0,.slice none 0 0] T.T_croftref5_Buddy)=h6 at N6 ⊢
 obtain ⟨b0,eb0⟩ : ∃b0,b0=h.size:=⟨_,rfl⟩
 obtain ⟨b1,eb1⟩ : ∃b1,b1=h5.size:=⟨_,rfl⟩
 rw [←eb0] at N5 ⊢
 rw [←eb1] at N6 ⊢
 have I0:Go.V.Own h h6 (rfR Y O fl L) [blkR b1 4 z4,blkR b0 4 (f4 (.int .i64 (O:Int)) (.int .i64 (P:Int)) (.slice Y.fp (O+1) Y.fc) (.slice Y.vp L.length Y.vc)),frR Y O fl,liR Y L]:=((Go.V.Own.of H).split.new N5).new N6
 have u6:Upd NoB h h6:=N5.u.nx N6.u fun _ e _=>e
 obtain ⟨k0,k1,k2,k3⟩:=f4_cells (I0.at 1)
 refine ⟨_,k0,_,k1,_,_,_,k2,_,_,_,k3,ref5_Top_ok hO hP fun h7 u7=>⟨_,rfl,fun J4 hJ4=>?_⟩⟩
 have I7:=I0.quiet u7
 have u67:Upd NoB h h7:=u6.nx u7 fun _ e _=>e
 have no:∀hx,Upd NoB h hx→Go.V.Own h hx (rfR Y O fl L) [blkR b1 4 z4,blkR b0 4 (f4 (.int .i64 (O:Int)) (.int .i64 (P:Int)) (.slice Y.fp (O+1) Y.fc) (.slice Y.vp L.length Y.vc)),frR Y O fl,liR Y L]→¬(P≠0∧P-2 ^ O∈fl O)→J4 true hx:=by
  intro hx ux I hn
  obtain ⟨k0,k1,k2,k3⟩:=f4_cells (I.at 1)
  obtain ⟨w4,S4⟩:=assign4 (I.at 0) (.int .i64 (O:Int)) (.int .i64 (P:Int)) (.slice Y.fp (O+1) Y.fc) (.slice Y.vp L.length Y.vc)
  refine hJ4 _ _ ⟨fun _=>⟨_,k0,_,k1,_,_,_,k2,_,_,_,k3,w4,?_⟩,fun e=>by cases e⟩
  have I8:=I.step 0 S4
  have S5:Upd NoB h _:=ux.nx S4.u fun b e hb=>by
   have e:b=b1:=e
   have:=N5.u.1
   omega
  generalize setCs hx ⟨b1,0,none⟩ 0 [.int .i64 (O:Int),.int .i64 (P:Int),.slice Y.fp (O+1) Y.fc,.slice Y.vp L.length Y.vc]=h9 at I8 S5 ⊢
  obtain ⟨q0,q1,q2,q3⟩:=f4_cells (I8.at 0)
  exact ⟨_,q0,_,q1,_,_,_,q2,_,_,_,q3,hb hn h9 S5⟩
 by_cases hP0:P=0
 ·rw [if_pos hP0]
  exact pT rfl (no h7 u67 I7 fun hn=>hn.1 hP0)
 rw [if_neg hP0]
 have h2P:=h2 hP0
 have et:(P:Int)-((2 ^ O:Nat):Int)=((P-2 ^ O:Nat):Int):=by omega
 obtain ⟨k0,k1,k2,k3⟩:=f4_cells (I7.at 1)
 refine pF (decide_eq_false (by omega)) ⟨_,k0,_,k1,_,_,_,k2,_,_,_,k3,_,k0,_,k0,_,k1,_,_,_,k2,_,_,_,k3,ref5_Top_ok hO hP fun h8 u8=>⟨_,rfl,?_⟩⟩
 rw [if_neg hP0,et]
 have I8:=I7.quiet u8
 have u8':Upd NoB h h8:=u67.nx u8 fun _ e _=>e
 obtain ⟨k0,k1,k2,k3⟩:=f4_cells (I8.at 1)
 refine ⟨k0,k0,k1,k2,k3,ref5_Is_ok (Y:=Y) (fl:=fl) hO (Nat.le_refl _) (by have:=f O (Nat.le_refl _);omega) (I8.at 2) fun h9 u9=>⟨_,rfl,?_⟩⟩
 have I9:=I8.quiet u9
 have u9':Upd NoB h h9:=u8'.nx u9 fun _ e _=>e
 by_cases hin:P-2 ^ O∈fl O
 case neg =>
  rw [decide_eq_false hin]
  exact no h9 u9' I9 fun hn=>hin hn.2
 rw [decide_eq_true hin]
 obtain ⟨k0,k1,k2,k3⟩:=f4_cells (I9.at 1)
 refine hJ4 _ _ ⟨fun e=>(by cases e),fun _=>⟨_,k0,_,k1,_,_,_,k2,_,_,_,k3,_,k0,_,k0,_,k1,_,_,_,k2,_,_,_,k3,_,k0,_,k1,_,_,_,k2,_,_,_,k3,_,k0,ref5_Top_ok hO hP fun h10 u10=>⟨_,rfl,?_⟩⟩⟩
 rw [if_neg hP0,et]
 have I10:=I9.quiet u10
 obtain ⟨k0,k1,k2,k3⟩:=f4_cells (I10.at 1)
 refine ⟨k0,k0,k1,k2,k3,k0,k0,k1,k2,k3,ref5_leave_ok (Y:=Y) (fl:=fl) hO (Nat.le_refl _) (by have:=f O (Nat.le_refl _);omega) (I10.at 2) fun h11 Y1 ev ec S=>⟨_,_,_,_,_,_,_,_,rfl,?_⟩⟩
 have I11:=I10.step 2 S
 obtain ⟨k0,k1,k2,k3⟩:=f4_cells (I11.at 1)
 refine ⟨k0,k0,k1,k2,k3,ref5_Top_ok hO hP fun h12 u12=>⟨_,rfl,?_⟩⟩
 rw [if_neg hP0,et]
 have I12:=I11.quiet u12
 obtain ⟨k0,k1,k2,k3⟩:=f4_cells (I12.at 1)
 refine ⟨k0,lives5_ok hL (I12.at 3) fun h13 vp' vc' N13=>⟨_,_,_,_,_,_,_,_,rfl,?_⟩⟩
 have I13:=I12.new N13
 obtain ⟨w4,S4⟩:=assign4 (I13.at 1) (.int .i64 (O:Int)) (.int .i64 (P:Int)) (.slice Y1.fp (O+1) Y1.fc) (.slice vp' (L++[(P-2 ^ O,O)]).length vc')
 have I14:=I13.step 1 S4
 refine ⟨w4,?_⟩
 generalize setCs h13 ⟨b1,0,none⟩ 0 [.int .i64 (O:Int),.int .i64 (P:Int),.slice Y1.fp (O+1) Y1.fc,.slice vp' (L++[(P-2 ^ O,O)]).length vc']=h14 at I14 ⊢
 obtain ⟨q0,q1,q2,q3⟩:=f4_cells (I14.at 1)
 exact ⟨_,q0,_,q1,_,_,_,q2,_,_,_,q3,hg hP0 hin h14 { Y1 with vp:=vp',vc:=vc' } (I14.two 3 0)⟩
theorem come5_ok (hO:O≤8) (hP:P≤1024) (hL:L.length≤1000000) (H:(rfR Y O fl L).P h)
  (hK:∀h' Y',Stp h h' (rfR Y O fl L) (rfR Y' O fl (L++[(P,O)]))→K (pv Y' O (P+2 ^ O) (L++[(P,O)])) h') :
  CallV Tryz.prog w₀ F.croftref5_Come [pv Y O P L] h K:=by
 have key:=ref5_Come_ok (w₀:=w₀) (on:=O) (Pn:=P) (fp:=Y.fp) (fn:=O+1) (fc:=Y.fc) (vp:=Y.vp) (vc:=Y.vc) (l:=prL L) (K:=K) hO hP (by rw [prL_len];omega) (by rw [prL_len];exact sl_row H.2.1) fun h' vp' vc' N=>by
  rw [prL_len] at N ⊢
  have el:(L++[(P,O)]).length=L.length+1:=by simp
  have N':New h h' (slR vp' (L++[(P,O)]).length vc' 2 (runV (prL (L++[(P,O)])))):=by rw [el,prL_snoc];exact N
  have I:=((Go.V.Own.of H).split.new N')
  have:=hK h' { Y with vp:=vp',vc:=vc' } (I.two 1 0)
  unfold pv at this
  rw [el] at this
  exact this
 rw [prL_len] at key
 exact key
theorem go5_ok (hO:O≤8) (hP:P≤1024) (h2:2 ^ O≤P) (hL:L.length≤1000000) (H:(rfR Y O fl L).P h)
  (hK:∀h' Y',Stp h h' (rfR Y O fl L) (rfR Y' O fl (L.filter (·.1≠P-2 ^ O)))→K (pv Y' O (P-2 ^ O) (L.filter (·.1≠P-2 ^ O))) h') :
  CallV Tryz.prog w₀ F.croftref5_Go [pv Y O P L] h K:=by
 have key:=ref5_Go_ok (w₀:=w₀) (on:=O) (Pn:=P) (fp:=Y.fp) (fn:=O+1) (fc:=Y.fc) (vp:=Y.vp) (vc:=Y.vc) (l:=prL L) (K:=K) hO hP h2 (by rw [prL_len];omega) (by rw [prL_len];exact sl_row H.2.1) fun h' vp' vc' N=>by
  rw [prL_filter,prL_len] at N ⊢
  have I:=((Go.V.Own.of H).split.new N)
  exact hK h' { Y with vp:=vp',vc:=vc' } (I.two 1 0)
 rw [prL_len] at key
 exact key
end
end Go.Proofs.YteemmpkhdllapaaGreatDoor
namespace Go.Proofs.YteemmpkhdllapaaGreatDoor
open Go.V Classical
def pgsV (G:Nat→Nat→Int):Nat→Value:=fun i=>pcl (i % 11) (G (i / 11) (i % 11))
def paintP (kind:Int) (order i:Nat):Nat→Int
 | 0=>if i=0 then kind else kind+1
 | 1=>(order:Int)
 | 4=>-1
 | 5=>-1
 | 6=>-1
 | _=>0
def paintT (G:Nat→Nat→Int) (page order:Nat) (kind:Int) (i:Nat):Nat→Nat→Int:=fun q j=>if page≤q∧q<page+i then paintP kind order (q-page) j else G q j
theorem pgsV_set {G G':Nat→Nat→Int} {r n:Nat} {vs:List Value} (hl:vs.length=11) (hr:∀j,j<11→vs.getD j undef=pcl j (G' r j)) (hq:∀q,q≠r→G' q=G q) (i:Nat):(if r*11≤i∧i<r*11+vs.length then vs.getD (i-r*11) undef else pgsV G i)=pgsV G' i:=by
 unfold pgsV
 rw [hl]
 by_cases h:r*11≤i∧i<r*11+11
 ·rw [if_pos h]
  have e1:i / 11=r:=by omega
  have e2:i-r*11=i % 11:=by omega
  rw [e2,hr _ (by omega),e1]
 ·rw [if_neg h,hq _ (by omega)]
section
variable {w₀:World} {h h0 hx:Heap} {K:Value→Heap→Prop} {G:Nat→Nat→Int} {p:Option Addr} {n c:Nat}
theorem ref5_paint_ok {page order:Nat} {kind:Int} (ho:order≤8) (hp:page≤100000) (hn:n≤100000) (hkd:0≤kind∧kind≤100) (H:(slR p n c 11 (pgsV G)).P h)
  (hK:∀h',Stp h h' (slR p n c 11 (pgsV G)) (slR p n c 11 (pgsV (paintT G page order kind (2 ^ order))))→K (.tuple #[]) h') :
  CallV Tryz.prog w₀ F.croftref5_paint [.slice p n c,.int .i64 (page:Int),.int .i64 (order:Int),.int .i64 kind] h K:=by
 refine croftref5_paint.call ?_
 try dsimp only
 intro L1 hL1
 have h8:=pow8 ho
 have key:∀(d i:Nat) (hx:Heap),i+d=2 ^ order→Stp h hx (slR p n c 11 (pgsV G)) (slR p n c 11 (pgsV (paintT G page order kind i))) →
   L1 [.slice p n c,.int .i64 (page:Int),.int .i64 (order:Int),.int .i64 kind,.int .i64 (i:Int)] hx:=by
  intro d
  induction d with
  | zero =>
   intro i hx hi S
   have hi:i=2 ^ order:=by omega
   subst hi
   refine hL1 _ _ _ _ _ _ _ _ ⟨by rw [IntKind.wrap_u64];omega,fun J2 hJ2=>?_⟩
   rw [shlI ho]
   exact qF' (decide_eq_false (by omega)) (hJ2 _ _ (iF rfl (hK hx S)))
  | succ d ih =>
   intro i hx hi S
   have ew:IntKind.wrap .i64 ((page:Int)+(i:Int))=((page+i:Nat):Int):=by rw [IntKind.wrap_i64];omega
   refine hL1 _ _ _ _ _ _ _ _ ⟨by rw [IntKind.wrap_u64];omega,fun J2 hJ2=>?_⟩
   rw [shlI ho,ew]
   refine qT (decide_eq_true (by omega)) (hJ2 _ _ ?_)
   by_cases hlt:page+i<n
   case neg =>
    refine iF (decide_eq_false (by omega)) (hK hx (S.conv (fun P=>sl_congr P fun x hx=>?_) fun _ e=>e))
    unfold pgsV paintT
    have:x / 11<n:=by omega
    by_cases hq:page≤x / 11
    ·rw [if_pos ⟨hq,by omega⟩,if_pos ⟨hq,by omega⟩]
    ·rw [if_neg fun e=>hq e.1,if_neg fun e=>hq e.1]
   refine iT (decide_eq_true (by omega)) fun J3 hJ3=>?_
   obtain ⟨b,e,w,S1⟩:=sl_sets S.p ((page+i)*11) [.int .i64 kind,.int .i64 (order:Int),.int .i64 0,.int .i64 0,.int .i64 (-1),.int .i64 (-1),.int .i64 (-1),.int .u64 0,.int .u64 0,.int .u64 0,.int .u64 0] (by simp;omega) (by simp)
   subst e
   have ea:(⟨b,0,none⟩ : Addr).add (Int.toNat ((page+i:Nat):Int)*11)=⟨b,(page+i)*11,none⟩:=by rw [add_mk,Int.toNat_natCast,Nat.zero_add]
   rw [ew]
   refine ⟨_,rfl,by omega,by omega,?_⟩
   rw [ea]
   refine ⟨w,?_⟩
   have tail:∀hy,Stp hx hy (slR (some ⟨b,0,none⟩) n c 11 (pgsV (paintT G page order kind i))) (slR (some ⟨b,0,none⟩) n c 11 (pgsV (paintT G page order kind (i+1))))→J3 [.slice (some ⟨b,0,none⟩) n c,.int .i64 (page:Int),.int .i64 (order:Int),.int .i64 kind,.int .i64 (i:Int)] hy:=fun hy S2=>by
    refine hJ3 _ _ _ _ _ _ _ _ ?_
    rw [show IntKind.wrap .i64 ((i:Int)+1)=((i+1:Nat):Int) by rw [IntKind.wrap_i64];omega]
    exact ih (i+1) hy (by omega) (S.trans S2)
   have ne:∀q,q≠page+i→paintT G page order kind (i+1) q=paintT G page order kind i q:=fun q hq=>by
    unfold paintT
    funext j
    by_cases h1:page≤q∧q<page+i
    ·rw [if_pos h1,if_pos ⟨h1.1,by omega⟩]
    ·rw [if_neg h1,if_neg fun e=>h1 ⟨e.1,by omega⟩]
   have at':∀j,paintT G page order kind (i+1) (page+i) j=paintP kind order i j:=fun j=>by
    unfold paintT
    rw [if_pos ⟨by omega,by omega⟩,show page+i-page=i by omega]
   by_cases hi0:i=0
   ·subst hi0
    refine iF (decide_eq_false (by omega)) (tail _ (S1.conv (fun P=>sl_congr P fun x hx=>pgsV_set (n:=n) rfl (fun j hj=>?_) ne x) fun _ e=>e))
    rw [at']
    have:j=0∨j=1∨j=2∨j=3∨j=4∨j=5∨j=6∨j=7∨j=8∨j=9∨j=10:=by omega
    rcases this with rfl | rfl | rfl | rfl | rfl | rfl | rfl | rfl | rfl | rfl | rfl<;>rfl
   ·obtain ⟨b',e',w',S2⟩:=sl_set S1.p (o:=(page+i)*11) (by omega) (.int .i64 (kind+1))
    cases e'
    refine iT (decide_eq_true (by omega)) ⟨_,rfl,by omega,by omega,?_⟩
    rw [ea]
    refine ⟨w',?_⟩
    rw [show IntKind.wrap .i64 (kind+1)=kind+1 by rw [IntKind.wrap_i64];omega]
    refine tail _ ((S1.trans S2).conv (fun P=>sl_congr P fun x hx=>?_) fun _ e=>e)
    have hset:=pgsV_set (G:=paintT G page order kind i) (G':=paintT G page order kind (i+1)) (r:=page+i) (n:=n) (vs:=[.int .i64 (kind+1),.int .i64 (order:Int),.int .i64 0,.int .i64 0,.int .i64 (-1),.int .i64 (-1),.int .i64 (-1),.int .u64 0,.int .u64 0,.int .u64 0,.int .u64 0]) rfl (fun j hj=>by
     rw [at']
     have:j=0∨j=1∨j=2∨j=3∨j=4∨j=5∨j=6∨j=7∨j=8∨j=9∨j=10:=by omega
     rcases this with rfl | rfl | rfl | rfl | rfl | rfl | rfl | rfl | rfl | rfl | rfl
     ·show _=pcl 0 (paintP kind order i 0)
      unfold paintP
      rw [if_neg hi0];rfl
     all_goals rfl) ne x
    rw [←hset]
    by_cases hx0:x=(page+i)*11
    ·rw [if_pos hx0,if_pos ⟨by omega,by simp;omega⟩,hx0,Nat.sub_self];rfl
    ·rw [if_neg hx0]
     show (if (page+i)*11≤x∧x<(page+i)*11+11 then _ else _)=(if (page+i)*11≤x∧x<(page+i)*11+11 then _ else _)
     by_cases h1:(page+i)*11≤x∧x<(page+i)*11+11
     ·rw [if_pos h1,if_pos h1]
      obtain ⟨z,hz⟩ : ∃z,x-(page+i)*11=z+1:=⟨x-(page+i)*11-1,by omega⟩
      rw [hz];rfl
     ·rw [if_neg h1,if_neg h1]
 have e0:paintT G page order kind 0=G:=by
  unfold paintT
  funext q j
  rw [if_neg (by omega)]
 exact key (2 ^ order) 0 h (by omega) (by rw [e0];exact Stp.quiet H (Upd.refl _ _))
end
end Go.Proofs.YteemmpkhdllapaaGreatDoor
