/- croftlaw5: what the document answers, and the program with it: Take, Give, Shrink, Feed, Pull; users write. No condition. -/
import Derived.Test.YtnlcmfdmbgnpfaaGreatZAO
import Derived.Test.YtnlcmfdmbgnpfaaGreatZA6
set_option linter.unusedSimpArgs false
set_option linter.unusedVariables false
namespace Go.Proofs.YtnlcmfdmbgnpfaaGreat
open Go.V Classical

def GiveD (c : Cfg) (o : Nat) (fl : Nat → List Nat) (V : List PBk) (a z : Int) (fl' : Nat → List Nat) (V' : List PBk) (e : Int) : Prop :=
  (∃ p on : Nat, (p, on) ∈ V ∧ a = adr c p ∧ z = on ∧ fl' = aUp fl p on (o - on) ∧ V' = V.filter (·.1 ≠ p) ∧ e = 0) ∨ ((∀ b ∈ V, ¬ (a = adr c b.1 ∧ z = b.2)) ∧ fl' = fl ∧ V' = V ∧ e = 1)

def ShrinkD (c : Cfg) (fl : Nat → List Nat) (V : List PBk) (a f t : Int) (fl' : Nat → List Nat) (V' : List PBk) (e : Int) : Prop :=
  (∃ p i j : Nat, (p, i) ∈ V ∧ a = adr c p ∧ f = i ∧ t = j ∧ j ≤ i ∧ fl' = aCut p j fl (i - j) ∧ V' = V.filter (·.1 ≠ p) ++ [(p, j)] ∧ e = 0) ∨ ((t < 0 ∨ t > f ∨ ∀ b ∈ V, ¬ (a = adr c b.1 ∧ f = b.2)) ∧ fl' = fl ∧ V' = V ∧ e = 1)

def TakeD (o : Nat) (fl : Nat → List Nat) (V : List PBk) (z : Int) (fl' : Nat → List Nat) (V' : List PBk) (pg : Nat) (e : Int) : Prop :=
  ((z < 0 ∨ z > o) ∧ fl' = fl ∧ V' = V ∧ pg = 0 ∧ e = 1) ∨ (∃ on : Nat, z = on ∧ on ≤ o ∧ (∀ j, on ≤ j → j ≤ o → fl j = []) ∧ fl' = fl ∧ V' = V ∧ pg = 0 ∧ e = 2) ∨
  (∃ on j p : Nat, ∃ l, z = on ∧ on ≤ o ∧ on ≤ j ∧ j ≤ o ∧ fl j = p :: l ∧ (∀ i, on ≤ i → i < j → fl i = []) ∧ fl' = aCut p on (fset fl j l) (j - on) ∧ V' = V ++ [(p, on)] ∧ pg = p ∧ e = 0)

def FeedD (o P : Nat) (fl : Nat → List Nat) (V : List PBk) (fl' : Nat → List Nat) (V' : List PBk) (e : Int) : Prop :=
  (P ≠ 0 ∧ (P - 2 ^ o, o) ∈ V ∧ fl' = fset fl o ((P - 2 ^ o) :: fl o) ∧ V' = V.filter (·.1 ≠ P - 2 ^ o) ∧ e = 0) ∨ (¬ (P ≠ 0 ∧ (P - 2 ^ o, o) ∈ V) ∧ fl' = fl ∧ V' = V ∧ e = 9)

def PullD (o P : Nat) (fl : Nat → List Nat) (V : List PBk) (fl' : Nat → List Nat) (V' : List PBk) (e : Int) : Prop :=
  (P ≠ 0 ∧ P - 2 ^ o ∈ fl o ∧ fl' = fset fl o ((fl o).filter (· ≠ P - 2 ^ o)) ∧ V' = V ++ [(P - 2 ^ o, o)] ∧ e = 0) ∨ (¬ (P ≠ 0 ∧ P - 2 ^ o ∈ fl o) ∧ fl' = fl ∧ V' = V ∧ e = 9)

section
variable {w₀ : World} {h h' : Heap} {c : Cfg} {Y : RW5} {B : BW} {x : BU} {fl fl' : Nat → List Nat} {V V' : List PBk} {K : Value → Heap → Prop} {a z f t e : Int} {pg : Nat}

theorem refGive (W : WI c x fl V) (H : (rfR Y x.m.o fl V).P h) (hK : ∀ h' Y' fl' V' e, GiveD c x.m.o fl V a z fl' V' e → Stp h h' (rfR Y x.m.o fl V) (rfR Y' x.m.o fl' V') → K (.tuple #[pv Y' x.m.o x.m.n V', .int .i64 e]) h') :
    CallV Tryz.prog w₀ F.croftref5_Give [pv Y x.m.o x.m.n V, .int .i64 (pgI (pageU c x.m a)), .int .i64 z] h K := by
  have hlen := W.lenV
  refine ref5_Give_ok W.ok.m.o8 W.fl5 (by omega) W.al5 H (fun hn h' u => hK h' Y fl V 1 (.inr ⟨fun b hb hc => hn (pg_live W |>.2 ⟨b, hb, hc⟩), rfl, rfl, rfl⟩) (Stp.quiet H u)) fun p on ep eo hpo h' Y' S => ?_
  refine hK h' Y' _ _ 0 (.inl ⟨p, on, hpo, ?_, eo, rfl, rfl, rfl⟩) S
  cases hp : pageU c x.m a with
  | none => rw [hp] at ep; have : (-1 : Int) = p := ep; omega
  | some q =>
    rw [hp] at ep
    have ep : (q : Int) = p := ep
    obtain rfl : q = p := by omega
    exact (pageU_out W.g hp).2

theorem realGive (W : WI c x fl V) (H : (buR c B x).P h) (ha : U64 a) (G : GiveD c x.m.o fl V a z fl' V' e) (hK : ∀ x' h', WI c x' fl' V' → x'.m.o = x.m.o → x'.m.n = x.m.n → Stp h h' (buR c B x) (buR c B x') → K (.int .i64 e) h') :
    CallV Tryz.prog w₀ F.buddy_Buddy_Give [.pointer (some ⟨B.b, 0, none⟩), .int .u64 a, .int .i64 z] h K := by
  rcases G with ⟨p, on, hpo, rfl, rfl, rfl, rfl, rfl⟩ | ⟨hn, rfl, rfl, rfl⟩
  · exact giveB W H (W.out hpo) fun x' h' W' M S => hK x' h' W' M.o M.n S
  · exact giveBN W H ha hn fun h' S => hK x h' W rfl rfl S

theorem refShrink (W : WI c x fl V) (H : (rfR Y x.m.o fl V).P h) (hK : ∀ h' Y' fl' V' e, ShrinkD c fl V a f t fl' V' e → Stp h h' (rfR Y x.m.o fl V) (rfR Y' x.m.o fl' V') → K (.tuple #[pv Y' x.m.o x.m.n V', .int .i64 e]) h') :
    CallV Tryz.prog w₀ F.croftref5_Shrink [pv Y x.m.o x.m.n V, .int .i64 (pgI (pageU c x.m a)), .int .i64 f, .int .i64 t] h K := by
  have hlen := W.lenV
  refine ref5_Shrink_ok W.ok.m.o8 W.fl5 (by omega) W.al5 H (fun hn h' u => hK h' Y fl V 1 (.inr ⟨hn.imp id fun h => h.imp id fun hn b hb hc => hn (pg_live W |>.2 ⟨b, hb, hc⟩), rfl, rfl, rfl⟩) (Stp.quiet H u)) fun p i j ep ei ej hji hpo h' Y' S => ?_
  refine hK h' Y' _ _ 0 (.inl ⟨p, i, j, hpo, ?_, ei, ej, hji, rfl, rfl, rfl⟩) S
  cases hp : pageU c x.m a with
  | none => rw [hp] at ep; have : (-1 : Int) = p := ep; omega
  | some q =>
    rw [hp] at ep
    have ep : (q : Int) = p := ep
    obtain rfl : q = p := by omega
    exact (pageU_out W.g hp).2

theorem realShrink (W : WI c x fl V) (H : (buR c B x).P h) (ha : U64 a) (G : ShrinkD c fl V a f t fl' V' e) (hK : ∀ x' h', WI c x' fl' V' → x'.m.o = x.m.o → x'.m.n = x.m.n → Stp h h' (buR c B x) (buR c B x') → K (.int .i64 e) h') :
    CallV Tryz.prog w₀ F.buddy_Buddy_Shrink [.pointer (some ⟨B.b, 0, none⟩), .int .u64 a, .int .i64 f, .int .i64 t] h K := by
  rcases G with ⟨p, i, j, hpo, rfl, rfl, rfl, hji, rfl, rfl, rfl⟩ | ⟨hn, rfl, rfl, rfl⟩
  · exact shrinkB W H hji (W.out hpo) fun x' h' W' M _ S => hK x' h' (W'.perm (List.perm_append_comm (l₁ := [(p, j)]))) M.o M.n S
  · exact shrinkBN W H ha hn fun h' S => hK x h' W rfl rfl S

theorem refTake (W : WI c x fl V) (H : (rfR Y x.m.o fl V).P h) (hK : ∀ h' Y' fl' V' pg e, TakeD x.m.o fl V z fl' V' pg e → Stp h h' (rfR Y x.m.o fl V) (rfR Y' x.m.o fl' V') → K (.tuple #[pv Y' x.m.o x.m.n V', .int .i64 (pg : Int), .int .i64 e]) h') :
    CallV Tryz.prog w₀ F.croftref5_Take [pv Y x.m.o x.m.n V, .int .i64 z] h K := by
  have hlen := W.lenV
  refine ref5_Take_ok W.ok.m.o8 W.flOk (by omega) H (fun hb h' u => hK h' Y fl V 0 1 (.inl ⟨hb, rfl, rfl, rfl, rfl⟩) (Stp.quiet H u)) (fun on ez ho he h' u => hK h' Y fl V 0 2 (.inr (.inl ⟨on, ez, ho, he, rfl, rfl, rfl, rfl⟩)) (Stp.quiet H u)) fun on ez ho j p l j1 j2 hF hi h' Y' S => ?_
  exact hK h' Y' _ _ p 0 (.inr (.inr ⟨on, j, p, l, ez, ho, j1, j2, hF, hi, rfl, rfl, rfl, rfl⟩)) S

theorem realTake (W : WI c x fl V) (H : (buR c B x).P h) (G : TakeD x.m.o fl V z fl' V' pg e) (hK : ∀ x' h' (q : Int), WI c x' fl' V' → x'.m.o = x.m.o → x'.m.n = x.m.n → (e = 0 → q = adr c pg ∧ pg < x.m.n) → (e ≠ 0 → q = 0) → Stp h h' (buR c B x) (buR c B x') → K (.tuple #[.int .u64 q, .int .i64 e]) h') :
    CallV Tryz.prog w₀ F.buddy_Buddy_Take [.pointer (some ⟨B.b, 0, none⟩), .int .i64 z] h K := by
  rcases G with ⟨hb, rfl, rfl, rfl, rfl⟩ | ⟨on, rfl, ho, he, rfl, rfl, rfl, rfl⟩ | ⟨on, j, p, l, rfl, ho, j1, j2, hF, hi, rfl, rfl, rfl, rfl⟩
  · exact takeBN W H hb fun h' S => hK x h' 0 W rfl rfl (fun h => by cases h) (fun _ => rfl) S
  · exact takeB W H ho (fun _ h' S => hK x h' 0 W rfl rfl (fun h => by cases h) (fun _ => rfl) S) fun j p l j1 j2 hF => by rw [he j j1 j2] at hF; cases hF
  · refine takeB W H ho (fun he => by rw [he j j1 j2] at hF; cases hF) fun j' p' l' j1' j2' hF' hi' x' h' W' M S => ?_
    have ej : j' = j := by
      rcases Nat.lt_trichotomy j' j with hl | hl | hl
      · rw [hi j' j1' hl] at hF'; cases hF'
      · exact hl
      · rw [hi' j j1 hl] at hF; cases hF
    subst ej
    rw [hF] at hF'
    obtain ⟨rfl, rfl⟩ := List.cons.inj hF'
    have al := W.rep.al j2 (p := pg) (by rw [hF]; exact List.mem_cons_self ..)
    exact hK x' h' _ (W'.perm (List.perm_append_comm (l₁ := [(pg, on)]))) M.o M.n (fun _ => ⟨rfl, al.2.2⟩) (fun h => absurd rfl h) S

theorem refFeed (W : WI c x fl V) (H : (rfR Y x.m.o fl V).P h) (hK : ∀ h' Y' fl' V' e, FeedD x.m.o x.m.n fl V fl' V' e → Stp h h' (rfR Y x.m.o fl V) (rfR Y' x.m.o fl' V') → K (.tuple #[pv Y' x.m.o x.m.n V', .int .i64 e]) h') :
    CallV Tryz.prog w₀ F.croftref5_Feed [pv Y x.m.o x.m.n V] h K := by
  have hlen := W.lenV
  exact ref5_Feed_ok W.ok.m.o8 W.ok.m.n1 W.le5 W.fl5 (by omega) W.al5 H (fun hn h' u => hK h' Y fl V 9 (.inr ⟨hn, rfl, rfl, rfl⟩) (Stp.quiet H u)) fun hP hin h' Y' S => hK h' Y' _ _ 0 (.inl ⟨hP, hin, rfl, rfl, rfl⟩) S

theorem WS.none0 {S : Nat → Prop} (W : WS S c x fl V) (h : x.m.n = 0) {b : PBk} (hb : b ∈ V) : False := by
  have al := W.alb hb
  have h0 := Nat.two_pow_pos b.2
  omega

theorem realFeed (W : WI c x fl V) (H : (buR c B x).P h) (G : FeedD x.m.o x.m.n fl V fl' V' e) (hK : ∀ x' h', WI c x' fl' V' → x'.m.o = x.m.o → x'.m.n = x.m.n → Stp h h' (buR c B x) (buR c B x') → K (.int .i64 e) h') :
    CallV Tryz.prog w₀ F.buddy_Buddy_Feed [.pointer (some ⟨B.b, 0, none⟩)] h K := by
  rcases G with ⟨hP, hin, rfl, rfl, rfl⟩ | ⟨hn, rfl, rfl, rfl⟩
  · exact feedB W H (W.st0 hP) (W.out hin) fun x' h' W' M S => hK x' h' W' M.o M.n S
  · refine feedBN W H (fun b hb hc => ?_) fun h' S => hK x h' W rfl rfl S
    by_cases hP : x.m.n = 0
    · exact W.none0 hP hb
    · exact hn ⟨hP, by obtain ⟨b1, b2⟩ := b; obtain ⟨h1, h2⟩ := hc; simp only [] at h1 h2; rw [h1, h2] at hb; exact hb⟩

theorem refPull (W : WI c x fl V) (H : (rfR Y x.m.o fl V).P h) (hK : ∀ h' Y' fl' V' e, PullD x.m.o x.m.n fl V fl' V' e → Stp h h' (rfR Y x.m.o fl V) (rfR Y' x.m.o fl' V') → K (.tuple #[pv Y' x.m.o x.m.n V', .int .i64 e]) h') :
    CallV Tryz.prog w₀ F.croftref5_Pull [pv Y x.m.o x.m.n V] h K := by
  have hlen := W.lenV
  exact ref5_Pull_ok W.ok.m.o8 W.ok.m.n1 W.le5 W.fl5 (by omega) H (fun hn h' u => hK h' Y fl V 9 (.inr ⟨hn, rfl, rfl, rfl⟩) (Stp.quiet H u)) fun hP hin h' Y' S => hK h' Y' _ _ 0 (.inl ⟨hP, hin, rfl, rfl, rfl⟩) S

theorem realPull (W : WI c x fl V) (H : (buR c B x).P h) (G : PullD x.m.o x.m.n fl V fl' V' e) (hK : ∀ x' h', WI c x' fl' V' → x'.m.o = x.m.o → x'.m.n = x.m.n → Stp h h' (buR c B x) (buR c B x') → K (.int .i64 e) h') :
    CallV Tryz.prog w₀ F.buddy_Buddy_Pull [.pointer (some ⟨B.b, 0, none⟩)] h K := by
  rcases G with ⟨hP, hin, rfl, rfl, rfl⟩ | ⟨hn, rfl, rfl, rfl⟩
  · exact pullB W H (W.st0 hP) hin fun x' h' W' M S => hK x' h' (W'.perm (List.perm_append_comm (l₁ := [(x.m.n - 2 ^ x.m.o, x.m.o)]))) M.o M.n S
  · refine pullBN W H (fun hin => ?_) fun h' S => hK x h' W rfl rfl S
    have al := W.rep.al (Nat.le_refl _) hin
    exact hn ⟨by omega, hin⟩

theorem fillB {p k : Nat} (W : WI c x fl V) (hb : (p, k) ∈ V) {v : Int} (hv : 0 ≤ v ∧ v < 256) (H : (buR c B x).P h)
    (hK : ∀ st' h', WI c ⟨st', x.hd, x.m⟩ fl V → Stp h h' (buR c B x) (buR c B ⟨st', x.hd, x.m⟩) → K (.int .i64 0) h') :
    CallV Tryz.prog w₀ F.mem_Space_Fill [.pointer (some ⟨B.s, 0, none⟩), .int .u64 (adr c p), .int .u64 ((4096 * 2 ^ k : Nat) : Int), .int .u8 v] h K := by
  obtain ⟨t, hu, hle, k8, hp4⟩ := live_there W hb W.g
  have h8 := pow8 k8
  refine mem_Fill_ok hu (by omega) hv (bu_sp H) (fun _ h1 u1 H1 => ?_) fun hn => absurd t hn
  have e1 : (adr c p - c.base).toNat = 4096 * p := by unfold adr; omega
  rw [e1, Int.toNat_natCast] at H1
  have e2 : 4096 * p + 4096 * 2 ^ k = 4096 * (p + 2 ^ k) := by rw [Nat.mul_add]
  rw [e2] at H1
  let st' : Sto := ⟨x.st.n, fun o => if 4096 * p ≤ o ∧ o < 4096 * (p + 2 ^ k) then v else x.st.M o⟩
  have hM : ∀ o, (o < 4096 * p ∨ 4096 * (p + 2 ^ k) ≤ o) → st'.M o = x.st.M o := fun o ho => by
    show (if 4096 * p ≤ o ∧ o < 4096 * (p + 2 ^ k) then v else x.st.M o) = _
    rw [if_neg (by omega)]
  have S1 : Stp h h1 (spR B.s c B.Z x.st) (spR B.s c B.Z st') := ⟨u1, H1, fun b e => .inl e⟩
  exact hK st' h1 ⟨W.rep.fill hb rfl hM, W.e, W.g⟩ (bu_liftsp H S1)
end
end Go.Proofs.YtnlcmfdmbgnpfaaGreat
