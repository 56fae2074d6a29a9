/- buddy: what its calls do to what its state stands for. No condition. -/
import Derived.Test.YtnlcmfdmbgnpfaaGreatZBW
set_option linter.unusedSimpArgs false
set_option linter.unusedVariables false
namespace Go.Proofs.YtnlcmfdmbgnpfaaGreat
open Go.V Classical

section
variable {w₀ : World} {h h' : Heap} {S : Nat → Prop} {c : Cfg} {B : BW} {x : BU} {K : Value → Heap → Prop} {fl : Nat → List Nat} {L L' : List PBk} {p k : Nat}

theorem takeB (W : WS S c x fl L) (H : (buR c B x).P h) {o : Nat} (ho : o ≤ x.m.o)
    (h2 : (∀ j, o ≤ j → j ≤ x.m.o → fl j = []) → ∀ h', Stp h h' (buR c B x) (buR c B x) → K (.tuple #[.int .u64 0, .int .i64 2]) h')
    (h0 : ∀ j p l, o ≤ j → j ≤ x.m.o → fl j = p :: l → (∀ i, o ≤ i → i < j → fl i = []) → ∀ x' h', WS S c x' (aCut p o (fset fl j l) (j - o)) ((p, o) :: L) → Mv x x' L → Stp h h' (buR c B x) (buR c B x') → K (.tuple #[.int .u64 (adr c p), .int .i64 0]) h') :
    CallV Tryz.prog w₀ F.buddy_Buddy_Take [.pointer (some ⟨B.b, 0, none⟩), .int .i64 (o : Int)] h K := by
  refine bu_Take_ok W.ok H fun h' ok' o' S => ?_
  rcases sim_take W.g ho W.rep with ⟨e, hF⟩ | ⟨j, p, l, j1, j2, hF, hi, e, G⟩
  · rw [e] at S ⊢
    exact h2 hF h' S
  · obtain ⟨W', M⟩ := W.mv G
    rw [e]
    exact h0 j p l j1 j2 hF hi _ h' W' M S

theorem takeBN (W : WS S c x fl L) (H : (buR c B x).P h) {o : Int} (ho : o < 0 ∨ o > x.m.o) (hK : ∀ h', Stp h h' (buR c B x) (buR c B x) → K (.tuple #[.int .u64 0, .int .i64 1]) h') :
    CallV Tryz.prog w₀ F.buddy_Buddy_Take [.pointer (some ⟨B.b, 0, none⟩), .int .i64 o] h K := by
  refine bu_Take_ok W.ok H fun h' ok' o' S => ?_
  have e : takeU c x o = (x, 0, 1) := by unfold takeU; rw [if_pos ho]
  rw [e] at S ⊢
  exact hK h' S

theorem giveBS (W : WS S c x fl L) (H : (buR c B x).P h) (hL : L.Perm ((p, k) :: L')) (hS : ¬ S p)
    (hK : ∀ x' h', WS S c x' (aUp fl p k (x.m.o - k)) L' → Mv x x' L' → Stp h h' (buR c B x) (buR c B x') → K (.int .i64 0) h') :
    CallV Tryz.prog w₀ F.buddy_Buddy_Give [.pointer (some ⟨B.b, 0, none⟩), .int .u64 (adr c p), .int .i64 (k : Int)] h K := by
  have al := W.rep.til.al _ (List.mem_append_right _ (List.mem_append_left _ (hL.mem_iff.2 (List.mem_cons_self ..))))
  have n1 := W.ok.m.n1
  have h0 := Nat.two_pow_pos k
  simp only [] at al
  refine bu_Give_ok (adr_u64 W.g W.ok.m (by omega)) W.ok H fun h' ok' o' S => ?_
  obtain ⟨e, G⟩ := sim_give W.g W.rep hL hS
  obtain ⟨W', M⟩ := W.mv G
  rw [e]
  exact hK _ h' W' M S

theorem giveB (W : WI c x fl L) (H : (buR c B x).P h) (hL : L.Perm ((p, k) :: L'))
    (hK : ∀ x' h', WI c x' (aUp fl p k (x.m.o - k)) L' → Mv x x' L' → Stp h h' (buR c B x) (buR c B x') → K (.int .i64 0) h') :
    CallV Tryz.prog w₀ F.buddy_Buddy_Give [.pointer (some ⟨B.b, 0, none⟩), .int .u64 (adr c p), .int .i64 (k : Int)] h K := giveBS W H hL id hK

theorem giveBNS (W : WS S c x fl L) (H : (buR c B x).P h) {a o : Int} (ha : U64 a) (hL : ∀ b ∈ L, ¬ S b.1 → ¬ (a = adr c b.1 ∧ o = b.2)) (hK : ∀ h', Stp h h' (buR c B x) (buR c B x) → K (.int .i64 1) h') :
    CallV Tryz.prog w₀ F.buddy_Buddy_Give [.pointer (some ⟨B.b, 0, none⟩), .int .u64 a, .int .i64 o] h K := by
  refine bu_Give_ok ha W.ok H fun h' ok' o' S => ?_
  have e := give_no W.g W.rep hL
  rw [e] at S ⊢
  exact hK h' S

theorem giveBN (W : WS S c x fl L) (H : (buR c B x).P h) {a o : Int} (ha : U64 a) (hL : ∀ b ∈ L, ¬ (a = adr c b.1 ∧ o = b.2)) (hK : ∀ h', Stp h h' (buR c B x) (buR c B x) → K (.int .i64 1) h') :
    CallV Tryz.prog w₀ F.buddy_Buddy_Give [.pointer (some ⟨B.b, 0, none⟩), .int .u64 a, .int .i64 o] h K := giveBNS W H ha (fun b hb _ => hL b hb) hK

theorem shrinkB (W : WI c x fl L) (H : (buR c B x).P h) {t : Nat} (ht : t ≤ k) (hL : L.Perm ((p, k) :: L'))
    (hK : ∀ x' h', WI c x' (aCut p t fl (k - t)) ((p, t) :: L') → Mv x x' L' → Kept [(p, t)] x.st x'.st → Stp h h' (buR c B x) (buR c B x') → K (.int .i64 0) h') :
    CallV Tryz.prog w₀ F.buddy_Buddy_Shrink [.pointer (some ⟨B.b, 0, none⟩), .int .u64 (adr c p), .int .i64 (k : Int), .int .i64 (t : Int)] h K := by
  have al := W.rep.til.al _ (List.mem_append_right _ (List.mem_append_left _ (hL.mem_iff.2 (List.mem_cons_self ..))))
  have n1 := W.ok.m.n1
  have h0 := Nat.two_pow_pos k
  simp only [] at al
  refine bu_Shrink_ok (adr_u64 W.g W.ok.m (by omega)) W.ok H fun h' ok' o' S => ?_
  obtain ⟨e, G⟩ := sim_shrink W.g ht W.rep hL id
  obtain ⟨W', M⟩ := W.mv G
  have hK2 : Kept [(p, t)] x.st (shrinkU c x (adr c p) k t).1.st := by
    have hm : (p, k) ∈ L := hL.mem_iff.2 (List.mem_cons_self ..)
    have e : shrinkU c x (adr c p) k t = (cutU c p t x (k - t), 0) := by unfold shrinkU; rw [liveU_yes W.g W.rep hm id]; simp only []; rw [if_neg (by omega)]; simp
    rw [e]
    refine cut_keep (S := noS) (L := L') _ _ fl ?_
    rw [show t + (k - t) = k by omega]
    exact open_core W.rep hL id
  rw [e]
  exact hK _ h' W' M hK2 S

theorem feedBS (W : WS S c x fl L) (H : (buR c B x).P h) (hn : 0 < x.st.n) (hL : L.Perm ((x.m.n - 2 ^ x.m.o, x.m.o) :: L')) (hS : ¬ S (x.m.n - 2 ^ x.m.o))
    (hK : ∀ x' h', WS S c x' (aUp fl (x.m.n - 2 ^ x.m.o) x.m.o 0) L' → Mv x x' L' → Stp h h' (buR c B x) (buR c B x') → K (.int .i64 0) h') :
    CallV Tryz.prog w₀ F.buddy_Buddy_Feed [.pointer (some ⟨B.b, 0, none⟩)] h K := by
  refine bu_Feed_ok W.ok H fun h' ok' o' S => ?_
  obtain ⟨e, G⟩ := sim_feed W.g W.rep hn W.e hL hS
  obtain ⟨W', M⟩ := W.mv G
  rw [e]
  exact hK _ h' W' M S

theorem feedB (W : WI c x fl L) (H : (buR c B x).P h) (hn : 0 < x.st.n) (hL : L.Perm ((x.m.n - 2 ^ x.m.o, x.m.o) :: L'))
    (hK : ∀ x' h', WI c x' (aUp fl (x.m.n - 2 ^ x.m.o) x.m.o 0) L' → Mv x x' L' → Stp h h' (buR c B x) (buR c B x') → K (.int .i64 0) h') :
    CallV Tryz.prog w₀ F.buddy_Buddy_Feed [.pointer (some ⟨B.b, 0, none⟩)] h K := feedBS W H hn hL id hK

theorem feedBN (W : WS S c x fl L) (H : (buR c B x).P h) (hL : ∀ b ∈ L, ¬ (b.1 = x.m.n - 2 ^ x.m.o ∧ b.2 = x.m.o)) (hK : ∀ h', Stp h h' (buR c B x) (buR c B x) → K (.int .i64 9) h') :
    CallV Tryz.prog w₀ F.buddy_Buddy_Feed [.pointer (some ⟨B.b, 0, none⟩)] h K := by
  refine bu_Feed_ok W.ok H fun h' ok' o' S => ?_
  have e := feed_no W.g W.rep fun b hb _ => hL b hb
  rw [e] at S ⊢
  exact hK h' S

theorem pullB (W : WS S c x fl L) (H : (buR c B x).P h) (hn : 0 < x.st.n) (hF : x.m.n - 2 ^ x.m.o ∈ fl x.m.o)
    (hK : ∀ x' h', WS S c x' (fset fl x.m.o ((fl x.m.o).filter (· ≠ x.m.n - 2 ^ x.m.o))) ((x.m.n - 2 ^ x.m.o, x.m.o) :: L) → Mv x x' L → Stp h h' (buR c B x) (buR c B x') → K (.int .i64 0) h') :
    CallV Tryz.prog w₀ F.buddy_Buddy_Pull [.pointer (some ⟨B.b, 0, none⟩)] h K := by
  refine bu_Pull_ok W.ok H fun h' ok' o' S => ?_
  obtain ⟨e, G⟩ := sim_pull W.rep hn W.e hF
  obtain ⟨W', M⟩ := W.mv G
  rw [e]
  exact hK _ h' W' M S

theorem pullBN (W : WS S c x fl L) (H : (buR c B x).P h) (hF : x.m.n - 2 ^ x.m.o ∉ fl x.m.o) (hK : ∀ h', Stp h h' (buR c B x) (buR c B x) → K (.int .i64 9) h') :
    CallV Tryz.prog w₀ F.buddy_Buddy_Pull [.pointer (some ⟨B.b, 0, none⟩)] h K := by
  refine bu_Pull_ok W.ok H fun h' ok' o' S => ?_
  have e := pull_no W.rep hF
  rw [e] at S ⊢
  exact hK h' S

theorem headsB (W : WS S c x fl L) (H : (buR c B x).P h) (hK : ∀ h' p cap, New h h' (slR p (hdL c fl x.m.o).length cap 1 (uL (hdL c fl x.m.o))) → K (.slice p (hdL c fl x.m.o).length (hdL c fl x.m.o).length) h') :
    CallV Tryz.prog w₀ F.buddy_Buddy_Heads [.pointer (some ⟨B.b, 0, none⟩)] h K := by
  have o8 := W.ok.m.o8
  rw [hdL_len] at hK
  refine bu_Heads_ok (by omega) (bu_bop H) fun h' p cap hc N => hK h' p cap (N.conv (fun A => sl_congr A fun i hi => ?_) fun _ e => e)
  have hi : i < x.m.o + 1 := by omega
  have e := (W.rep.ls i (by omega)).hd
  simp only [] at e
  show Value.int .u64 (x.hd i) = .int .u64 ((hdL c fl x.m.o).getD i 0)
  rw [e]
  unfold hdL
  rw [List.getD_eq_getElem?_getD, List.getElem?_map, List.getElem?_range hi]
  simp only [Option.map_some, Option.getD_some]

theorem freeB (W : WS S c x fl L) (H : (buR c B x).P h) {o : Nat} (ho : o ≤ x.m.o)
    (hK : ∀ h' p cap, Stp h h' (buR c B x) (andR (buR c B x) (slR p ((fl o).map (adr c)).length cap 1 (uL ((fl o).map (adr c))))) → K (.slice p ((fl o).map (adr c)).length cap) h') :
    CallV Tryz.prog w₀ F.buddy_Buddy_Free [.pointer (some ⟨B.b, 0, none⟩), .int .i64 (o : Int)] h K := by
  refine bu_Free_ok W.ok H (fun hc => absurd hc (by omega)) fun k h' p cap ek hk S => ?_
  have ek : k = o := by omega
  subst ek
  have e : freeL c x k = (fl k).map (adr c) := all_inv W.rep.rm (W.rep.ls k hk)
  rw [e] at S ⊢
  exact hK h' p cap S

theorem freeBN (W : WS S c x fl L) (H : (buR c B x).P h) {o : Int} (ho : o < 0 ∨ o > x.m.o) (hK : K (.slice none 0 0) h) :
    CallV Tryz.prog w₀ F.buddy_Buddy_Free [.pointer (some ⟨B.b, 0, none⟩), .int .i64 o] h K :=
  bu_Free_ok W.ok H (fun _ => hK) fun k h' p cap ek hk _ => absurd ho (by omega)

theorem room (W : WS S c x fl L) (hl : (x.st.n : Int) < c.limit) : x.m.n + 2 ^ x.m.o ≤ 1024 := by
  have h1 := W.g.pg
  have h2 : c.order.toNat = x.m.o := by have := W.ok.o; omega
  rw [h2] at h1
  have h3 : ((x.st.n + 1 : Nat) : Int) * ((2 ^ x.m.o : Nat) : Int) ≤ c.limit * ((2 ^ x.m.o : Nat) : Int) := Int.mul_le_mul_of_nonneg_right (by omega) (Int.natCast_nonneg _)
  have h4 : (((x.st.n + 1) * 2 ^ x.m.o : Nat) : Int) ≤ 1024 := by rw [Int.natCast_mul]; exact Int.le_trans h3 h1
  rw [W.e, ← Nat.succ_mul]
  exact Int.ofNat_le.1 h4

theorem comeS (W : WS S c x fl L) (hl : (x.st.n : Int) < c.limit) : WS S c ⟨growS c x.st, x.hd, mGrow x.m⟩ fl ((x.m.n, x.m.o) :: L) ∧ (mGrow x.m).o = x.m.o ∧ (mGrow x.m).n = x.m.n + 2 ^ x.m.o ∧
    (∀ b ∈ L, ∀ o, 4096 * b.1 ≤ o → o < 4096 * (b.1 + 2 ^ b.2) → (growS c x.st).M o = x.st.M o) ∧ PK L x.m (mGrow x.m) := by
  obtain ⟨R, eo, en, hM, pk⟩ := sim_come W.g W.rep W.e (room W hl)
  refine ⟨⟨R, ?_, W.g⟩, eo, en, hM, pk⟩
  show (mGrow x.m).n = (x.st.n + 1) * 2 ^ (mGrow x.m).o
  rw [eo, en, Nat.succ_mul, ← W.e]

theorem goS (W : WS S c x fl ((x.m.n - 2 ^ x.m.o, x.m.o) :: L)) (hn : 0 < x.st.n) (hS : ¬ S (x.m.n - 2 ^ x.m.o)) : WS S c ⟨⟨x.st.n - 1, x.st.M⟩, x.hd, mShrink x.m 1⟩ fl L ∧ (mShrink x.m 1).o = x.m.o ∧ (mShrink x.m 1).n = x.m.n - 2 ^ x.m.o := by
  have e := W.e
  have hle : 2 ^ x.m.o ≤ x.m.n := by
    rw [e]
    exact Nat.le_mul_of_pos_left _ hn
  obtain ⟨R, eo, en⟩ := sim_goes W.rep e hle hS
  refine ⟨⟨R, ?_, W.g⟩, eo, en⟩
  show (mShrink x.m 1).n = (x.st.n - 1) * 2 ^ (mShrink x.m 1).o
  rw [eo, en, e, Nat.sub_mul, Nat.one_mul]

end
end Go.Proofs.YtnlcmfdmbgnpfaaGreat
