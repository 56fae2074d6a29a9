/- croftlaw5: what the document's contracts ask of a world; an answer of the document's put into the world; at, page. No condition. -/
import Derived.Test.YtnlcmfdmbgnpfaaGreatZAG
set_option linter.unusedSimpArgs false
set_option linter.unusedVariables false
namespace Go.Proofs.YtnlcmfdmbgnpfaaGreat
open Go.V Classical

theorem perm_out : ∀ {V : List PBk} {p k : Nat}, (V.map Prod.fst).Nodup → (p, k) ∈ V → V.Perm ((p, k) :: V.filter (·.1 ≠ p))
  | [], p, k, _, h => by cases h
  | (q, j) :: V, p, k, nd, h => by
    have nd' : (q :: V.map Prod.fst).Nodup := nd
    have n1 := List.nodup_cons.1 nd'
    by_cases e : q = p
    · subst e
      have hj : j = k := by
        rcases List.mem_cons.1 h with e | h
        · injection e with _ e2; exact e2.symm
        · exact absurd (List.mem_map.2 ⟨_, h, rfl⟩) n1.1
      subst hj
      have hf : ((q, j) :: V).filter (·.1 ≠ q) = V := by
        rw [List.filter_cons_of_neg (by simp)]
        refine List.filter_eq_self.2 fun a ha => ?_
        have : a.1 ≠ q := fun e => n1.1 (e ▸ List.mem_map.2 ⟨a, ha, rfl⟩)
        simpa using this
      rw [hf]
    · have hV : (p, k) ∈ V := by
        rcases List.mem_cons.1 h with e' | h
        · injection e' with e1 _; exact absurd e1.symm e
        · exact h
      rw [List.filter_cons_of_pos (by simpa using e)]
      exact ((perm_out n1.2 hV).cons _).trans (.swap _ _ _)

section
variable {w₀ : World} {h h' : Heap} {c : Cfg} {Q : WZ} {x : BU} {fl : Nat → List Nat} {V : List PBk} {K : Value → Heap → Prop} {S : Nat → Prop} {L : List PBk}

theorem WS.fsts (W : WS S c x fl L) : (L.map Prod.fst).Nodup := by
  refine List.Pairwise.map _ (fun a b hab e => ?_) (List.pairwise_append.1 (by simpa using W.rep.til.dj)).1
  have h1 := Nat.two_pow_pos a.2
  have h2 := Nat.two_pow_pos b.2
  unfold Dj at hab
  omega

theorem WS.out (W : WS S c x fl L) {p k : Nat} (h : (p, k) ∈ L) : L.Perm ((p, k) :: L.filter (·.1 ≠ p)) := perm_out W.fsts h

theorem WS.alb (W : WS S c x fl L) {b : PBk} (hb : b ∈ L) : b.2 ≤ x.m.o ∧ b.1 % 2 ^ b.2 = 0 ∧ b.1 + 2 ^ b.2 ≤ x.m.n := W.rep.til.al _ (List.mem_append_right _ (List.mem_append_left _ hb))

theorem WS.al5 (W : WS S c x fl L) : ∀ b ∈ L, b.1 ≤ 2000 ∧ b.2 ≤ x.m.o ∧ b.1 % 2 ^ b.2 = 0 := fun b hb => by
  obtain ⟨h1, h2, h3⟩ := W.alb hb
  have := W.ok.m.n1
  exact ⟨by omega, h1, h2⟩

theorem WS.fl5 (W : WS S c x fl L) : ∀ k, k ≤ x.m.o → (fl k).length ≤ 2000 := W.flOk.len

theorem WS.lenV (W : WS S c x fl L) : L.length ≤ 1024 := by
  have n1 := W.ok.m.n1
  have sub : (L.map Prod.fst).Subset (List.range x.m.n) := fun q hq => by
    obtain ⟨b, hb, rfl⟩ := List.mem_map.1 hq
    have al := W.alb hb
    have h1 := Nat.two_pow_pos b.2
    exact List.mem_range.2 (by omega)
  have := List.Nodup.length_le_of_subset W.fsts sub
  simp at this
  omega

theorem WS.le5 (W : WS S c x fl L) (h : x.m.n ≠ 0) : 2 ^ x.m.o ≤ x.m.n := by
  rw [W.e] at h ⊢
  refine Nat.le_mul_of_pos_left _ (Nat.pos_of_ne_zero fun e => h ?_)
  rw [e, Nat.zero_mul]

theorem WS.st0 (W : WS S c x fl L) (h : x.m.n ≠ 0) : 0 < x.st.n := Nat.pos_of_ne_zero fun e => h (by rw [W.e, e, Nat.zero_mul])

theorem shrink_no (g : c.Good) (R : RepS S c x fl L []) {a f t : Int} (h : t < 0 ∨ t > f ∨ ∀ b ∈ L, ¬ S b.1 → ¬ (a = adr c b.1 ∧ f = b.2)) : shrinkU c x a f t = (x, 1) := by
  unfold shrinkU
  rcases h with h | h | h
  · cases liveU c x.m a f with
    | none => rfl
    | some q => simp only []; rw [if_pos (.inl h)]
  · cases liveU c x.m a f with
    | none => rfl
    | some q => simp only []; rw [if_pos (.inr h)]
  · rw [liveU_no g R h]

theorem shrinkBN (W : WI c x fl L) {B : BW} (H : (buR c B x).P h) {a f t : Int} (ha : U64 a) (hL : t < 0 ∨ t > f ∨ ∀ b ∈ L, ¬ (a = adr c b.1 ∧ f = b.2)) (hK : ∀ h', Stp h h' (buR c B x) (buR c B x) → K (.int .i64 1) h') :
    CallV Tryz.prog w₀ F.buddy_Buddy_Shrink [.pointer (some ⟨B.b, 0, none⟩), .int .u64 a, .int .i64 f, .int .i64 t] h K := by
  refine bu_Shrink_ok ha W.ok H fun h' ok' o' S => ?_
  have e := shrink_no (a := a) (f := f) (t := t) W.g W.rep (hL.imp id fun h => h.imp id fun h b hb _ => h b hb)
  rw [e] at S ⊢
  exact hK h' S

theorem pg_live (W : WI c x fl V) {a z : Int} : ((pgI (pageU c x.m a), z) ∈ prL V) ↔ ∃ b ∈ V, a = adr c b.1 ∧ z = b.2 := by
  constructor
  · intro hm
    obtain ⟨b, hb, e⟩ := List.mem_map.1 hm
    obtain ⟨e1, e2⟩ := Prod.mk.inj e
    refine ⟨b, hb, ?_, e2.symm⟩
    cases hp : pageU c x.m a with
    | none =>
      rw [hp] at e1
      have : ((b.1 : Nat) : Int) = -1 := e1
      omega
    | some q =>
      rw [hp] at e1
      have e1 : ((b.1 : Nat) : Int) = (q : Int) := e1
      have : q = b.1 := by omega
      subst this
      exact (pageU_out W.g hp).2
  · rintro ⟨b, hb, rfl, rfl⟩
    have al := W.alb hb
    have h0 := Nat.two_pow_pos b.2
    rw [pageU_adr W.g (by omega)]
    exact List.mem_map.2 ⟨b, hb, rfl⟩

theorem wz_join' {h0 : Heap} {E : Res} {rs : List Res} {O P n : Nat} (I : Go.V.Own h0 h E (blkR Q.wb 10 (wzF c Q O P n) :: rfR Q.Y O fl V :: buR c Q.W x :: rs)) (hO : x.m.o = O) (hP : x.m.n = P) (hn : V.length = n) :
    Go.V.Own h0 h E (wzR c Q x fl V :: rs) := by subst hO hP hn; exact wz_join I

theorem wzb_cell {O P n : Nat} (B : (blkR Q.wb 10 (wzF c Q O P n)).P h) {i : Nat} (hi : i < 10) : cellAt h ((⟨Q.wb, 0, none⟩ : Addr).add i) = some (wzF c Q O P n i) := by rw [add_mk, Nat.zero_add]; exact B.cell hi

theorem wz_answer {h0 : Heap} {E : Res} {rs : List Res} {O P n P' n' : Nat} {Y' : RW5} (I : Go.V.Own h0 h E (blkR Q.wb 10 (wzF c Q O P n) :: rs)) :
    WrN (Array.push h (.cells #[.int .i64 0, .int .i64 0, .slice none 0 0, .slice none 0 0] T.T_croftref5_Buddy)) ⟨h.size, 0, none⟩ 4 ∧
    ∀ h3, h3 = setCs (Array.push h (.cells #[.int .i64 0, .int .i64 0, .slice none 0 0, .slice none 0 0] T.T_croftref5_Buddy)) ⟨h.size, 0, none⟩ 0 [.int .i64 (O : Int), .int .i64 (P' : Int), .slice Y'.fp (O + 1) Y'.fc, .slice Y'.vp n' Y'.vc] →
      cellAt h3 ⟨h.size, 0, none⟩ = some (.int .i64 (O : Int)) ∧ cellAt h3 ((⟨h.size, 0, none⟩ : Addr).add 1) = some (.int .i64 (P' : Int)) ∧ cellAt h3 ((⟨h.size, 0, none⟩ : Addr).add 2) = some (.slice Y'.fp (O + 1) Y'.fc) ∧ cellAt h3 ((⟨h.size, 0, none⟩ : Addr).add 3) = some (.slice Y'.vp n' Y'.vc) ∧
      WrN h3 ((⟨Q.wb, 0, none⟩ : Addr).add 6) 4 ∧
      Go.V.Own h0 (setCs h3 ((⟨Q.wb, 0, none⟩ : Addr).add 6) 0 [.int .i64 (O : Int), .int .i64 (P' : Int), .slice Y'.fp (O + 1) Y'.fc, .slice Y'.vp n' Y'.vc]) E (blkR Q.wb 10 (wzF c { Q with Y := Y' } O P' n') :: rs) := by
  have N := box4 h (.int .i64 0) (.int .i64 0) (.slice none 0 0) (.slice none 0 0) T.T_croftref5_Buddy
  generalize Array.push h (.cells #[.int .i64 0, .int .i64 0, .slice none 0 0, .slice none 0 0] T.T_croftref5_Buddy) = h2 at N ⊢
  have I2 := I.new N
  obtain ⟨w4, S4⟩ := assign4 (I2.at 0) (.int .i64 (O : Int)) (.int .i64 (P' : Int)) (.slice Y'.fp (O + 1) Y'.fc) (.slice Y'.vp n' Y'.vc)
  have I3 := I2.step 0 S4
  refine ⟨w4, fun h3 e3 => ?_⟩
  rw [← e3] at I3
  obtain ⟨k0, k1, k2, k3⟩ := f4_cells (I3.at 0)
  obtain ⟨w5, S5⟩ := wz_put (I3.at 1) Y' P' n'
  exact ⟨k0, k1, k2, k3, w5, (I3.step 1 S5).drop⟩

theorem atZ_ok (g : c.Good) {q : Nat} (hq : q < 4096) (B : cellAt h (⟨Q.wb, 0, none⟩ : Addr) = some (.int .u64 c.base)) (hm : x.m.Ok) (hK : K (.int .u64 (adr c q)) h) :
    CallV Tryz.prog w₀ F.croftlaw5_world_at [.pointer (some ⟨Q.wb, 0, none⟩), .int .i64 (q : Int)] h K := by
  refine croftlaw5_world_at.call ⟨_, rfl, _, B, ?_⟩
  have hb := bu_bounds g hm
  have e : IntKind.wrap .u64 (c.base + IntKind.wrap .u64 ((4096 : Int) * IntKind.wrap .u64 (q : Int))) = adr c q := by
    simp only [IntKind.wrap_u64]
    unfold adr
    omega
  rw [e]
  exact hK

theorem pageZ_ok {p : Int} (hp : U64 p) (W : WI c x fl V) (H : (wzR c Q x fl V).P h) (hK : K (.int .i64 (pgI (pageU c x.m p))) h) :
    CallV Tryz.prog w₀ F.croftlaw5_world_page [.pointer (some ⟨Q.wb, 0, none⟩), .int .u64 p] h K := by
  refine croftlaw5_world_page.call ?_
  unfold croftlaw5_world_page.vc
  have hb := bu_bounds W.g W.ok.m
  have p0 := hp.1
  have p1 := hp.2
  have bad : (p < c.base ∨ p % 4096 ≠ 0 ∨ (x.m.n : Int) ≤ (p - c.base) / 4096) → K (.int .i64 (-1)) h := fun hc => by
    have e : pageU c x.m p = none := by unfold pageU; rw [if_pos hc]
    rw [e] at hK; exact hK
  refine ⟨_, rfl, _, wz_c0 H, fun J1 hJ1 => ?_⟩
  by_cases a1 : p < c.base
  · exact pT (decide_eq_true a1) (hJ1 _ _ fun J2 hJ2 => pT rfl (hJ2 _ _ (iT rfl (bad (.inl a1)))))
  refine pF (decide_eq_false a1) ⟨by omega, hJ1 _ _ fun J2 hJ2 => ?_⟩
  have em : Int.tmod p 4096 = p % 4096 := Int.tmod_eq_emod_of_nonneg p0
  rw [em]
  by_cases a2 : p % 4096 = 0
  · refine pF (eq_b a2) ⟨_, rfl, _, wz_c0 H, _, rfl, _, wz_cell H (i := 7) (by omega), hJ2 _ _ ?_⟩
    have e1 : IntKind.wrap .u64 (p - c.base) = p - c.base := by rw [IntKind.wrap_u64]; omega
    have e2 : IntKind.wrap .u64 ((4096 : Int) * IntKind.wrap .u64 ((x.m.n : Nat) : Int)) = 4096 * (x.m.n : Int) := by simp only [IntKind.wrap_u64]; omega
    have e3 : Int.tdiv (p - c.base) 4096 = (p - c.base) / 4096 := Int.tdiv_eq_ediv_of_nonneg (by omega)
    rw [e1, e2]
    by_cases a3 : (x.m.n : Int) ≤ (p - c.base) / 4096
    · exact iT (decide_eq_true (by omega)) (bad (.inr (.inr a3)))
    · refine iF (decide_eq_false (by omega)) ⟨_, rfl, _, wz_c0 H, by omega, ?_⟩
      have e : pageU c x.m p = some ((p - c.base) / 4096).toNat := by unfold pageU; rw [if_neg (by omega)]
      rw [e] at hK
      have ev : IntKind.wrap .i64 (IntKind.wrap .u64 (Int.tdiv (IntKind.wrap .u64 (p - c.base)) 4096)) = (((p - c.base) / 4096).toNat : Int) := by
        rw [e1, e3, IntKind.wrap_u64, IntKind.wrap_i64]; omega
      rw [ev]
      exact hK
  · exact pT (ne_b a2) (hJ2 _ _ (iT rfl (bad (.inr (.inl a2)))))
end
end Go.Proofs.YtnlcmfdmbgnpfaaGreat
