/- Chapter 4's law PageKept. No condition. -/
import Derived.Test.YtnplkinakaepdaaPH
set_option linter.unusedSimpArgs false
set_option linter.unusedVariables false
namespace Go.Proofs.Ytnplkinakaepdaa
open Go.V Classical

def markP : Nat → Int := fun j => if j = 0 then 77 else 0

/-- Pages marked up to one. -/
def mkPg (pg : Nat → Nat → Int) (K : Nat) : Nat → Nat → Int := fun i => if i < K then markP else pg i

/-- Words marked up to one. -/
noncomputable def mkW (s : MS) (K J : Nat) (k j : Nat) : Value := .int .u64 (if k < K ∨ (k = K ∧ j < J) then (77 : Int) else (wd (s.bt k) j : Int))

noncomputable def wrdR (s : MS) (wp : Nat → Option Addr) (wc : Nat → Nat) (K J : Nat) : Nat → Res := fun k => slR (wp k) (nw (s.n / 2 ^ (k + 1))) (wc k) 1 (mkW s K J k)

theorem nw_small {n k : Nat} (hn : n ≤ 1024) : nw (n / 2 ^ (k + 1)) ≤ 16384 := by have := npair hn k; unfold nw; omega

set_option maxHeartbeats 4000000 in
theorem PageKept_law {w : World} {a0 : Int} {p : Option Addr} {n cp : Nat} (h0 : (Lit.int .i64 a0).wf = true) (hs : POps w.heap p n cp) :
    CallV Try.prog w F.croftlaw4_PageKept [.int .i64 a0, .slice p n cp] w.heap fun v h' => v = .bool true ∧ Upd NoB w.heap h' := by
  obtain ⟨o, hnc, hcp, hat, hok⟩ := hs
  refine croftlaw4_PageKept.call ?_
  unfold croftlaw4_PageKept.vc
  refine pg_awake_ok fun h13 u13 => ⟨true, rfl, iF rfl (pm_New_ok fun h16 mb w16 N16 => ⟨_, rfl, ?_⟩)⟩
  have I0 := ((Hold.nil w.heap).quiet u13).new N16
  refine pm_Grow_ok (mNew_ok a0) (I0.at 0) fun h36 w36 S36 => ⟨rfl, ?_⟩
  have I36 := I0.step 0 S36
  have gok : (mGrow (mNew a0)).Ok := mGrow_ok (mNew_ok a0)
  have gmd : Made (mGrow (mNew a0)) := by
    have h : Made (mNew a0) := fun x hx => absurd hx (by simp [mNew])
    have := mCall_made (o := ⟨1, 0, 0, 0, false⟩) (mNew_ok a0) h
    simpa [mCall] using this
  generalize mGrow (mNew a0) = s0 at *
  intro J4 k4 L48 hL48
  have calls : ∀ (r i : Nat) (hx : Heap) (wm : MW), i + r = n → Hold w.heap hx [mapR mb (runs o s0 i) wm] → L48 [.slice p n cp, .pointer (some ⟨mb, 0, none⟩), .int .i64 (i : Int)] hx := by
    intro r
    induction r with
    | succ r ih =>
      intro i hx wm hi I
      obtain ⟨b, off, eb, hc⟩ := hat.one (i := i) (by omega)
      have e1 : IntKind.wrap .i64 ((i : Int) + 1) = ((i + 1 : Nat) : Int) := by rw [IntKind.wrap_i64]; omega
      refine hL48 _ _ _ _ _ _ (iT (by simp; omega) ?_)
      rw [eb]
      simp only [jor, jand, cellAt_new, add_mk, List.getElem?_toArray, Nat.zero_add, List.getElem?_cons_zero, List.getElem?_cons_succ, Option.some.injEq, Value.int.injEq, Value.bool.injEq, Value.pointer.injEq, Value.slice.injEq, true_and, and_true, exists_eq_left', exists_eq', and_assoc, exists_and_left, Int.toNat_natCast]
      refine ⟨by omega, by omega, ?_⟩
      have c5 := hc hx I.u
      refine ⟨_, c5 0 (by omega), _, c5 1 (by omega), _, c5 2 (by omega), _, c5 3 (by omega), _, c5 4 (by omega), ?_⟩
      refine call_ok (hok i (by omega)) (runs_ok (k := i) gok fun j hj => hok j (by omega)) (I.at 0) fun h28 w' S => ⟨_, rfl, ?_⟩
      rw [e1, ← eb]
      exact ih (i + 1) h28 w' (by omega) (I.step 0 S)
    | zero =>
      intro i hx wm hi I
      have : i = n := by omega
      subst this
      have sok : (runs o s0 i).Ok := runs_ok gok hok
      have smd : Made (runs o s0 i) := runs_made gok gmd hok
      generalize runs o s0 i = s at *
      have n1 := sok.n1
      have o8 := sok.o8
      refine hL48 _ _ _ _ _ _ (iF (by simp) (k4 _ _ (pm_Plain_ok sok (I.at 0) fun h51 gp gc qp qc wp wc N51 => ⟨_, _, _, _, _, _, rfl, ?_⟩)))
      have I51 := I.new N51
      refine pm_Plain_ok sok (I51.at 1) fun h56 gp2 gc2 qp2 qc2 wp2 wc2 N56 => ⟨_, _, _, _, _, _, rfl, ?_⟩
      have I56 := I51.new N56
      obtain ⟨d1, d2⟩ := plain_in (I56.at 1)
      have gn : ∀ (hz : Heap), Upd NoB h56 hz → Row hz gp2 (s.n * 11) (pgF s.pg) := fun hz u => (plain_in (I56.at 0)).1.upd u fun _ _ => id
      refine pm_Open_ok (by omega) (by omega) d1 d2 (fun F h64 mbq wq N64 => ⟨_, _, rfl, ?_⟩) fun nF h64 u64 => ⟨_, _, rfl, ?_⟩
      case refine_2 =>
        have hg : Gone s.pg s.n := by
          rcases Classical.em (Gone s.pg s.n) with h | h
          · exact h
          · exact absurd (open_ok sok smd h) nF
        refine gone_ok (by omega) (gn h64 u64) ⟨_, rfl, ?_⟩
        rw [decide_eq_true hg]
        exact iT rfl ⟨rfl, (I56.quiet u64).u⟩
      have hg : ¬ Gone s.pg s.n := fun hg => open_gone hg F
      have N64 := open_again sok N64
      refine gone_ok (by omega) (gn h64 N64.u) ⟨_, rfl, ?_⟩
      rw [decide_eq_false hg]
      refine iF rfl (iF rfl ?_)
      have I64 := I56.new N64
      obtain ⟨wmk, Nmk⟩ := pg_lay h64 markP
      refine ⟨wmk, ?_⟩
      have IA := (I64.front3.split.swap.split).new Nmk
      -- the things: the mark, the row of pair bits, their words, the pages; the other map; what was told again; the map
      let RS : Res → Res → List Res := fun PG WR => [pgR h64.size markP, slR qp s.o qc 1 fun k => .slice (wp k) (nw (s.n / 2 ^ (k + 1))) (wc k), WR, PG, mapR mbq s wq, plainR s gp2 gc2 qp2 qc2 wp2 wc2, mapR mb s wm]
      have eW : ∀ k, k < s.o → (slR (wp k) (nw (s.n / 2 ^ (k + 1))) (wc k) 1 fun j => .int .u64 (wd (s.bt k) j)) = wrdR s wp wc 0 0 k := fun k hk => by
        unfold wrdR mkW
        simp
      have eP : mkPg s.pg 0 = s.pg := by funext i; unfold mkPg; rw [if_neg (Nat.not_lt_zero _)]
      have IB : Hold w.heap _ (RS (slR gp s.n gc 11 (pgF (mkPg s.pg 0))) (allR s.o (wrdR s wp wc 0 0))) := (IA.as 3 (R := slR gp s.n gc 11 (pgF s.pg)) (R' := slR gp s.n gc 11 (pgF (mkPg s.pg 0))) (fun P => by rw [eP]; exact P) fun _ e => e).as 2 (R := allR s.o fun k => slR (wp k) (nw (s.n / 2 ^ (k + 1))) (wc k) 1 fun j => .int .u64 (wd (s.bt k) j)) (R' := allR s.o (wrdR s wp wc 0 0)) (allR_congr eW) (fun b e => allR_fp eW b e)
      clear IA
      intro J11 k11 L46 hL46
      -- marking the pages
      have l46 : ∀ (r i : Nat) (hy : Heap), i + r = s.n → Hold w.heap hy (RS (slR gp s.n gc 11 (pgF (mkPg s.pg i))) (allR s.o (wrdR s wp wc 0 0))) →
          L46 [.pointer (some ⟨mb, 0, none⟩), .slice gp s.n gc, .slice qp s.o qc, .slice gp2 s.n gc2, .slice qp2 s.o qc2, .pointer (some ⟨mbq, 0, none⟩), .pointer (some ⟨h64.size, 0, none⟩), .int .i64 (i : Int)] hy := by
        intro r
        induction r with
        | succ r ih =>
          intro i hy hi IY
          have e1 : IntKind.wrap .i64 ((i : Int) + 1) = ((i + 1 : Nat) : Int) := by rw [IntKind.wrap_i64]; omega
          obtain ⟨b, eb, hw, S⟩ := sl_sets (IY.at 3 (R := slR gp s.n gc 11 (pgF (mkPg s.pg i)))) (i * 11) (pgL markP) (by show i * 11 + 11 ≤ s.n * 11; omega) (by show 0 < 11; omega)
          refine hL46 _ _ _ _ _ _ _ _ _ _ _ _ _ _ _ _ _ (iT (by simp; omega) (pgR_ld (IY.at 0) ?_))
          rw [eb]
          simp only [jor, jand, cellAt_new, add_mk, List.getElem?_toArray, Nat.zero_add, List.getElem?_cons_zero, List.getElem?_cons_succ, Option.some.injEq, Value.int.injEq, Value.bool.injEq, Value.pointer.injEq, Value.slice.injEq, true_and, and_true, exists_eq_left', exists_eq', and_assoc, exists_and_left, Int.toNat_natCast]
          refine ⟨by omega, by omega, hw, ?_⟩
          rw [e1, ← eb]
          refine ih (i + 1) _ (by omega) (IY.step 3 (R' := slR gp s.n gc 11 (pgF (mkPg s.pg (i + 1)))) (S.conv (fun P => sl_congr P fun x hx => ?_) fun _ e => e))
          have hl : (pgL markP).length = 11 := rfl
          rw [hl]
          split
          · rename_i hx'
            obtain ⟨j, hj, rfl⟩ : ∃ j, j < 11 ∧ x = i * 11 + j := ⟨x - i * 11, by omega, by omega⟩
            rw [pgF_at _ hj, show i * 11 + j - i * 11 = j by omega]
            have : mkPg s.pg (i + 1) i = markP := by unfold mkPg; rw [if_pos (by omega)]
            rw [this]
            exact pgL_getD markP hj _
          · unfold pgF
            have : mkPg s.pg i (x / 11) = mkPg s.pg (i + 1) (x / 11) := by
              unfold mkPg
              by_cases h1 : x / 11 < i
              · rw [if_pos h1, if_pos (by omega)]
              · rw [if_neg h1, if_neg (by omega)]
            rw [this]
        | zero =>
          intro i hy hi IY
          have : i = s.n := by omega
          subst this
          refine hL46 _ _ _ _ _ _ _ _ _ _ _ _ _ _ _ _ _ (iF (by simp) (k11 _ _ _ _ _ _ _ _ _ _ _ _ _ _ _ _ ?_))
          intro J12 k12 L42 hL42
          -- marking the words
          have l42 : ∀ (r k : Nat) (hz : Heap), k + r = s.o → Hold w.heap hz (RS (slR gp s.n gc 11 (pgF (mkPg s.pg s.n))) (allR s.o (wrdR s wp wc k 0))) →
              L42 [.pointer (some ⟨mb, 0, none⟩), .slice gp s.n gc, .slice qp s.o qc, .slice gp2 s.n gc2, .slice qp2 s.o qc2, .pointer (some ⟨mbq, 0, none⟩), .pointer (some ⟨h64.size, 0, none⟩), .int .i64 (k : Int)] hz := by
            intro r
            induction r with
            | succ r ihk =>
              intro k hz hk IZ
              have hko : k < s.o := by omega
              have ek : IntKind.wrap .i64 ((k : Int) + 1) = ((k + 1 : Nat) : Int) := by rw [IntKind.wrap_i64]; omega
              have hnw := nw_small (k := k) n1
              refine hL42 _ _ _ _ _ _ _ _ _ _ _ _ _ _ _ _ _ (iT (by simp; omega) ?_)
              intro J43 k43 L44 hL44
              have l44 : ∀ (r j : Nat) (hv : Heap), j + r = nw (s.n / 2 ^ (k + 1)) → Hold w.heap hv (RS (slR gp s.n gc 11 (pgF (mkPg s.pg s.n))) (allR s.o (wrdR s wp wc k j))) →
                  L44 [.pointer (some ⟨mb, 0, none⟩), .slice gp s.n gc, .slice qp s.o qc, .slice gp2 s.n gc2, .slice qp2 s.o qc2, .pointer (some ⟨mbq, 0, none⟩), .pointer (some ⟨h64.size, 0, none⟩), .int .i64 (k : Int), .int .i64 (j : Int)] hv := by
                intro r
                induction r with
                | succ r ihj =>
                  intro j hv hj IV
                  have ej : IntKind.wrap .i64 ((j : Int) + 1) = ((j + 1 : Nat) : Int) := by rw [IntKind.wrap_i64]; omega
                  obtain ⟨b, eb, hc⟩ := sl_cell (IV.at 1 (R := slR qp s.o qc 1 fun k => .slice (wp k) (nw (s.n / 2 ^ (k + 1))) (wc k))) (i := k) (by omega)
                  have WA := IV.at 2 (R := allR s.o (wrdR s wp wc k j))
                  obtain ⟨b2, eb2, hw, S⟩ := sl_set (WA.1 k hko) (o := j) (by omega) (.int .u64 (77 : Int))
                  refine hL44 _ _ _ _ _ _ _ _ _ _ _ _ _ _ _ _ _ _ ?_
                  rw [eb]
                  simp only [jor, jand, cellAt_new, add_mk, List.getElem?_toArray, Nat.zero_add, List.getElem?_cons_zero, List.getElem?_cons_succ, Option.some.injEq, Value.int.injEq, Value.bool.injEq, Value.pointer.injEq, Value.slice.injEq, true_and, and_true, exists_eq_left', exists_eq', and_assoc, exists_and_left, Int.toNat_natCast, Nat.mul_one, hc]
                  refine ⟨by omega, by omega, iT (by simp; omega) ?_⟩
                  rw [eb2]
                  simp only [jor, jand, cellAt_new, add_mk, List.getElem?_toArray, Nat.zero_add, List.getElem?_cons_zero, List.getElem?_cons_succ, Option.some.injEq, Value.int.injEq, Value.bool.injEq, Value.pointer.injEq, Value.slice.injEq, true_and, and_true, exists_eq_left', exists_eq', and_assoc, exists_and_left, Int.toNat_natCast, Nat.mul_one]
                  refine ⟨by omega, by omega, by omega, by omega, hw, ?_⟩
                  rw [ej, ← eb]
                  refine ihj (j + 1) _ (by omega) (IV.step 2 (R' := allR s.o (wrdR s wp wc k (j + 1))) (Stp.all' k hko (S.conv (R2 := wrdR s wp wc k (j + 1) k) (fun P => sl_congr P fun x hx => ?_) fun _ e => e) WA fun x hx => ?_))
                  · unfold mkW
                    by_cases h1 : x = j
                    · subst h1; simp
                    · rw [if_neg h1]
                      by_cases h2 : x < j
                      · have h3 : x < j + 1 := by omega
                        simp [h2, h3]
                      · have h3 : ¬ x < j + 1 := by omega
                        simp [h2, h3]
                  · by_cases h1 : x = k
                    · subst h1; simp
                    · rw [if_neg h1]
                      unfold wrdR
                      congr 1
                      funext y
                      unfold mkW
                      have : (x < k ∨ (x = k ∧ y < j)) ↔ (x < k ∨ (x = k ∧ y < j + 1)) := by omega
                      simp only [this]
                | zero =>
                  intro j hv hj IV
                  have : j = nw (s.n / 2 ^ (k + 1)) := by omega
                  obtain ⟨b, eb, hc⟩ := sl_cell (IV.at 1 (R := slR qp s.o qc 1 fun k => .slice (wp k) (nw (s.n / 2 ^ (k + 1))) (wc k))) (i := k) (by omega)
                  refine hL44 _ _ _ _ _ _ _ _ _ _ _ _ _ _ _ _ _ _ ?_
                  rw [eb]
                  simp only [jor, jand, cellAt_new, add_mk, List.getElem?_toArray, Nat.zero_add, List.getElem?_cons_zero, List.getElem?_cons_succ, Option.some.injEq, Value.int.injEq, Value.bool.injEq, Value.pointer.injEq, Value.slice.injEq, true_and, and_true, exists_eq_left', exists_eq', and_assoc, exists_and_left, Int.toNat_natCast, Nat.mul_one, hc]
                  refine ⟨by omega, by omega, iF (by simp; omega) (k43 _ _ _ _ _ _ _ _ _ _ _ _ _ _ _ _ _ ?_)⟩
                  rw [ek, ← eb]
                  refine ihk (k + 1) hv (by omega) (IV.as 2 (R := allR s.o (wrdR s wp wc k j)) (R' := allR s.o (wrdR s wp wc (k + 1) 0)) (fun P => ⟨fun x hx => sl_congr (P.1 x hx) fun y hy => ?_, P.2⟩) fun _ e => e)
                  unfold mkW
                  have : (x < k ∨ (x = k ∧ y < j)) ↔ (x < k + 1 ∨ (x = k + 1 ∧ y < 0)) := by
                    constructor
                    · rintro (h | h)
                      · left; omega
                      · left; omega
                    · rintro (h | h)
                      · by_cases h2 : x = k
                        · subst h2; right; exact ⟨rfl, by omega⟩
                        · left; omega
                      · omega
                  simp only [this]
              exact l44 _ 0 hz (Nat.zero_add _) IZ
            | zero =>
              intro k hz hk IZ
              have : k = s.o := by omega
              subst this
              refine hL42 _ _ _ _ _ _ _ _ _ _ _ _ _ _ _ _ _ (iF (by simp) (k12 _ _ _ _ _ _ _ _ _ _ _ _ _ _ _ _ ?_))
              intro J13 k13 L37 hL37
              -- appending to the words
              have l37 : ∀ (r k : Nat) (hv : Heap), k + r = s.o → Hold w.heap hv (RS (slR gp s.n gc 11 (pgF (mkPg s.pg s.n))) (allR s.o (wrdR s wp wc s.o 0))) →
                  L37 [.pointer (some ⟨mb, 0, none⟩), .slice gp s.n gc, .slice qp s.o qc, .slice gp2 s.n gc2, .slice qp2 s.o qc2, .pointer (some ⟨mbq, 0, none⟩), .pointer (some ⟨h64.size, 0, none⟩), .int .i64 (k : Int)] hv := by
                intro r
                induction r with
                | succ r ihk =>
                  intro k hv hk IV
                  have hko : k < s.o := by omega
                  have ek : IntKind.wrap .i64 ((k : Int) + 1) = ((k + 1 : Nat) : Int) := by rw [IntKind.wrap_i64]; omega
                  have hnw := nw_small (k := k) n1
                  obtain ⟨b, eb, hc⟩ := sl_cell (IV.at 1 (R := slR qp s.o qc 1 fun k => .slice (wp k) (nw (s.n / 2 ^ (k + 1))) (wc k))) (i := k) (by omega)
                  refine hL37 _ _ _ _ _ _ _ _ _ _ _ _ _ _ _ _ _ (iT (by simp; omega) ?_)
                  intro J38 k38
                  rw [eb]
                  simp only [jor, jand, cellAt_new, add_mk, List.getElem?_toArray, Nat.zero_add, List.getElem?_cons_zero, List.getElem?_cons_succ, Option.some.injEq, Value.int.injEq, Value.bool.injEq, Value.pointer.injEq, Value.slice.injEq, true_and, and_true, exists_eq_left', exists_eq', and_assoc, exists_and_left, Int.toNat_natCast, Nat.mul_one, hc]
                  refine ⟨by omega, by omega, ?_⟩
                  intro L39 hL39
                  let AR : Option Addr → Nat → Nat → (Nat → Value) → Nat → Res := fun q m d g i => if i = k then aliasR (wp k) (nw (s.n / 2 ^ (k + 1))) (wc k) (mkW s s.o 0 k) q m d g else wrdR s wp wc s.o 0 i
                  have l39 : ∀ (r i : Nat) (hq : Heap) (q : Option Addr) (d : Nat) (g : Nat → Value), i + r = 5 → Hold w.heap hq (RS (slR gp s.n gc 11 (pgF (mkPg s.pg s.n))) (allR s.o (AR q (nw (s.n / 2 ^ (k + 1)) + i) d g))) →
                      L39 [.pointer (some ⟨mb, 0, none⟩), .slice gp s.n gc, .slice (some ⟨b, 0, none⟩) s.o qc, .slice gp2 s.n gc2, .slice qp2 s.o qc2, .pointer (some ⟨mbq, 0, none⟩), .pointer (some ⟨h64.size, 0, none⟩), .int .i64 (k : Int), .slice q (nw (s.n / 2 ^ (k + 1)) + i) d, .int .i64 (i : Int)] hq := by
                    intro r
                    induction r with
                    | succ r ihi =>
                      intro i hq q d g hi IQ
                      have ei : IntKind.wrap .i64 ((i : Int) + 1) = ((i + 1 : Nat) : Int) := by rw [IntKind.wrap_i64]; omega
                      have WA := IQ.at 2 (R := allR s.o (AR q (nw (s.n / 2 ^ (k + 1)) + i) d g))
                      have WK := WA.1 k hko
                      simp only [AR, if_true] at WK
                      obtain ⟨os, hpre, hS⟩ := alias_app (e := T.T_uint64) (T := T.T_uint64) (b := 8) (zs := [(.int .u64 (0 : Int))]) (v := .int .u64 (77 : Int)) WK rfl rfl (by omega)
                      refine hL39 _ _ _ _ _ _ _ _ _ _ _ _ _ _ _ _ _ _ _ _ _ (iT (by simp; omega) ⟨os, _, hpre, fun p' c' h' hres => ?_⟩)
                      have S := hS p' c' h' hres
                      rw [ei]
                      refine ihi (i + 1) h' p' c' (fun x => if x = nw (s.n / 2 ^ (k + 1)) + i then .int .u64 (77 : Int) else g x) (by omega) (IQ.step 2 (R' := allR s.o (AR p' (nw (s.n / 2 ^ (k + 1)) + (i + 1)) c' fun x => if x = nw (s.n / 2 ^ (k + 1)) + i then .int .u64 (77 : Int) else g x)) (Stp.all' k hko (R' := AR p' (nw (s.n / 2 ^ (k + 1)) + (i + 1)) c' (fun x => if x = nw (s.n / 2 ^ (k + 1)) + i then .int .u64 (77 : Int) else g x) k) (by simp only [AR, if_true]; exact S) WA fun x hx => ?_))
                      by_cases h1 : x = k
                      · subst h1; simp
                      · simp only [h1, if_false, AR]
                    | zero =>
                      intro i hq q d g hi IQ
                      refine hL39 _ _ _ _ _ _ _ _ _ _ _ _ _ _ _ _ _ _ _ _ _ (iF (by simp; omega) (k38 _ _ _ _ _ _ _ _ _ _ _ _ _ _ _ _ _ ?_))
                      rw [ek, ← eb]
                      refine ihk (k + 1) hq (by omega) (IQ.step 2 (R := allR s.o (AR q (nw (s.n / 2 ^ (k + 1)) + i) d g)) (R' := allR s.o (wrdR s wp wc s.o 0)) ?_)
                      have WA := IQ.at 2 (R := allR s.o (AR q (nw (s.n / 2 ^ (k + 1)) + i) d g))
                      refine Stp.all' k hko (R' := wrdR s wp wc s.o 0 k) ⟨Upd.refl _ _, ?_, fun b e => .inl ?_⟩ WA fun x hx => ?_
                      · have WK := WA.1 k hko
                        simp only [AR, if_true] at WK
                        exact WK.1
                      · simp only [AR, if_true]; exact Or.inl e
                      · by_cases h1 : x = k
                        · subst h1; simp
                        · simp only [h1, if_false, AR]
                  refine l39 5 0 hv (wp k) (wc k) (mkW s s.o 0 k) (by omega) (IV.step 2 (R := allR s.o (wrdR s wp wc s.o 0)) ?_)
                  have WA := IV.at 2 (R := allR s.o (wrdR s wp wc s.o 0))
                  refine Stp.all' k hko (R' := aliasR (wp k) (nw (s.n / 2 ^ (k + 1))) (wc k) (mkW s s.o 0 k) (wp k) (nw (s.n / 2 ^ (k + 1))) (wc k) (mkW s s.o 0 k)) ⟨Upd.refl _ _, alias_start (WA.1 k hko), fun b e => .inl (e.elim id id)⟩ WA fun x hx => ?_
                  by_cases h1 : x = k
                  · subst h1; simp [AR]
                  · simp only [h1, if_false, AR]
                | zero =>
                  intro k hv hk IV
                  have : k = s.o := by omega
                  subst this
                  refine hL37 _ _ _ _ _ _ _ _ _ _ _ _ _ _ _ _ _ (iF (by simp) (k13 _ _ _ _ _ _ _ _ _ _ _ _ _ _ _ _ ?_))
                  intro J14 k14 L34 hL34
                  -- appending to the pages
                  have l34 : ∀ (r i : Nat) (hq : Heap) (q : Option Addr) (d : Nat) (pg' : Nat → Nat → Int), i + r = 5 → (∀ x, x < s.n → pg' x = markP) → Hold w.heap hq (RS (slR q (s.n + i) d 11 (pgF pg')) (allR s.o (wrdR s wp wc s.o 0))) →
                      L34 [.pointer (some ⟨mb, 0, none⟩), .slice gp s.n gc, .slice qp s.o qc, .slice gp2 s.n gc2, .slice qp2 s.o qc2, .pointer (some ⟨mbq, 0, none⟩), .pointer (some ⟨h64.size, 0, none⟩), .slice q (s.n + i) d, .int .i64 (i : Int)] hq := by
                    intro r
                    induction r with
                    | succ r ihi =>
                      intro i hq q d pg' hi hpg IQ
                      have ei : IntKind.wrap .i64 ((i : Int) + 1) = ((i + 1 : Nat) : Int) := by rw [IntKind.wrap_i64]; omega
                      obtain ⟨os, hpre, hS⟩ := sl_appPg markP (IQ.at 3 (R := slR q (s.n + i) d 11 (pgF pg'))) (by omega)
                      refine hL34 _ _ _ _ _ _ _ _ _ _ _ _ _ _ _ _ _ _ _ _ (iT (by simp; omega) (pgR_ld (IQ.at 0) ⟨os, _, hpre, fun p' c' h' hres => ?_⟩))
                      have S := hS p' c' h' hres
                      rw [ei]
                      refine ihi (i + 1) h' p' c' (putP pg' (s.n + i) markP) (by omega) (fun x hx => ?_) (IQ.step 3 S)
                      rw [putP_ne' (by omega)]; exact hpg x hx
                    | zero =>
                      intro i hq q d pg' hi hpg IQ
                      refine hL34 _ _ _ _ _ _ _ _ _ _ _ _ _ _ _ _ _ _ _ _ (iF (by simp; omega) (k14 _ _ _ _ _ _ _ _ _ _ _ _ _ _ _ _ _ _ _ ?_))
                      intro J15 k15 L33 hL33
                      have l33 : ∀ (r x : Nat), x + r = s.n → L33 [.pointer (some ⟨mb, 0, none⟩), .slice gp s.n gc, .slice qp s.o qc, .slice gp2 s.n gc2, .slice qp2 s.o qc2, .pointer (some ⟨mbq, 0, none⟩), .pointer (some ⟨h64.size, 0, none⟩), .slice q (s.n + i) d, .int .i64 (x : Int)] hq := by
                        intro r
                        induction r with
                        | succ r ihx =>
                          intro x hx
                          have ex : IntKind.wrap .i64 ((x : Int) + 1) = ((x + 1 : Nat) : Int) := by rw [IntKind.wrap_i64]; omega
                          obtain ⟨b, eb, hc⟩ := mq_pageS2 (IQ.at 3 (R := slR q (s.n + i) d 11 (pgF pg'))) (i := x) (by omega)
                          refine hL33 _ _ _ _ _ _ _ _ _ _ _ _ _ _ _ _ _ _ _ _ (iT (by simp; omega) ?_)
                          rw [eb]
                          simp only [jor, jand, cellAt_new, add_mk, List.getElem?_toArray, Nat.zero_add, List.getElem?_cons_zero, List.getElem?_cons_succ, Option.some.injEq, Value.int.injEq, Value.bool.injEq, Value.pointer.injEq, Value.slice.injEq, true_and, and_true, exists_eq_left', exists_eq', and_assoc, exists_and_left, Int.toNat_natCast]
                          refine ⟨by omega, by omega, ld_page hc (pgR_ld (IQ.at 0) ?_)⟩
                          rw [eq_page, ex, ← eb]
                          have := hpg x (by omega)
                          exact iF (by simp [this]) (ihx (x + 1) (by omega))
                        | zero =>
                          intro x hx
                          have : x = s.n := by omega
                          subst this
                          refine hL33 _ _ _ _ _ _ _ _ _ _ _ _ _ _ _ _ _ _ _ _ (iF (by simp) (k15 _ _ _ _ _ _ _ _ _ _ _ _ ?_))
                          intro J16 k16 L30 hL30
                          have l30 : ∀ (r k : Nat), k + r = s.o → L30 [.pointer (some ⟨mb, 0, none⟩), .slice qp s.o qc, .slice gp2 s.n gc2, .slice qp2 s.o qc2, .pointer (some ⟨mbq, 0, none⟩), .int .i64 (k : Int)] hq := by
                            intro r
                            induction r with
                            | succ r ihk =>
                              intro k hk
                              have hko : k < s.o := by omega
                              have ek : IntKind.wrap .i64 ((k : Int) + 1) = ((k + 1 : Nat) : Int) := by rw [IntKind.wrap_i64]; omega
                              have hnw := nw_small (k := k) n1
                              obtain ⟨b, eb, hc⟩ := sl_cell (IQ.at 1 (R := slR qp s.o qc 1 fun k => .slice (wp k) (nw (s.n / 2 ^ (k + 1))) (wc k))) (i := k) (by omega)
                              have WK := (IQ.at 2 (R := allR s.o (wrdR s wp wc s.o 0))).1 k hko
                              refine hL30 _ _ _ _ _ _ _ _ _ _ _ _ _ (iT (by simp; omega) ?_)
                              intro J31 k31 L32 hL32
                              have l32 : ∀ (r j : Nat), j + r = nw (s.n / 2 ^ (k + 1)) → L32 [.pointer (some ⟨mb, 0, none⟩), .slice qp s.o qc, .slice gp2 s.n gc2, .slice qp2 s.o qc2, .pointer (some ⟨mbq, 0, none⟩), .int .i64 (k : Int), .int .i64 (j : Int)] hq := by
                                intro r
                                induction r with
                                | succ r ihj =>
                                  intro j hj
                                  have ej : IntKind.wrap .i64 ((j : Int) + 1) = ((j + 1 : Nat) : Int) := by rw [IntKind.wrap_i64]; omega
                                  obtain ⟨b2, eb2, hc2⟩ := sl_cell WK (i := j) (by omega)
                                  have ev : mkW s s.o 0 k j = .int .u64 (77 : Int) := by unfold mkW; rw [if_pos (.inl hko)]
                                  rw [ev] at hc2
                                  refine hL32 _ _ _ _ _ _ _ _ _ _ _ _ _ _ ?_
                                  rw [eb]
                                  simp only [jor, jand, cellAt_new, add_mk, List.getElem?_toArray, Nat.zero_add, List.getElem?_cons_zero, List.getElem?_cons_succ, Option.some.injEq, Value.int.injEq, Value.bool.injEq, Value.pointer.injEq, Value.slice.injEq, true_and, and_true, exists_eq_left', exists_eq', and_assoc, exists_and_left, Int.toNat_natCast, Nat.mul_one, hc]
                                  refine ⟨by omega, by omega, iT (by simp; omega) ?_⟩
                                  rw [eb2]
                                  simp only [jor, jand, cellAt_new, add_mk, List.getElem?_toArray, Nat.zero_add, List.getElem?_cons_zero, List.getElem?_cons_succ, Option.some.injEq, Value.int.injEq, Value.bool.injEq, Value.pointer.injEq, Value.slice.injEq, true_and, and_true, exists_eq_left', exists_eq', and_assoc, exists_and_left, Int.toNat_natCast, Nat.mul_one, hc2]
                                  refine ⟨by omega, by omega, by omega, by omega, iF (by simp) ?_⟩
                                  rw [ej, ← eb]
                                  exact ihj (j + 1) (by omega)
                                | zero =>
                                  intro j hj
                                  refine hL32 _ _ _ _ _ _ _ _ _ _ _ _ _ _ ?_
                                  rw [eb]
                                  simp only [jor, jand, cellAt_new, add_mk, List.getElem?_toArray, Nat.zero_add, List.getElem?_cons_zero, List.getElem?_cons_succ, Option.some.injEq, Value.int.injEq, Value.bool.injEq, Value.pointer.injEq, Value.slice.injEq, true_and, and_true, exists_eq_left', exists_eq', and_assoc, exists_and_left, Int.toNat_natCast, Nat.mul_one, hc]
                                  refine ⟨by omega, by omega, iF (by simp; omega) (k31 _ _ _ _ _ _ _ _ _ _ _ _ _ ?_)⟩
                                  rw [ek, ← eb]
                                  exact ihk (k + 1) (by omega)
                              exact l32 _ 0 (Nat.zero_add _)
                            | zero =>
                              intro k hk
                              have : k = s.o := by omega
                              subst this
                              refine hL30 _ _ _ _ _ _ _ _ _ _ _ _ _ (iF (by simp) (k16 _ _ _ _ _ _ _ _ _ ?_))
                              refine pm_Plain_ok sok (IQ.at 4) fun h168 gp3 gc3 qp3 qc3 wp3 wc3 N168 => ⟨_, _, _, _, _, _, rfl, ?_⟩
                              have I168 := IQ.new N168
                              refine pm_Plain_ok sok (I168.at 7) fun h173 gp4 gc4 qp4 qc4 wp4 wc4 N173 => ⟨_, _, _, _, _, _, rfl, ?_⟩
                              have I173 := I168.new N173
                              have P4 := I173.at 0 (R := plainR s gp4 gc4 qp4 qc4 wp4 wc4)
                              have P3 := I173.at 1 (R := plainR s gp3 gc3 qp3 qc3 wp3 wc3)
                              have P2 := I173.at 7 (R := plainR s gp2 gc2 qp2 qc2 wp2 wc2)
                              refine SamePages_ok (by omega) (sl_row P2.1) (sl_row P3.1) fun b hb => ⟨_, rfl, ?_⟩
                              have : b = true := hb.2 ⟨rfl, fun _ _ _ _ => rfl⟩
                              subst this
                              intro J20 k20
                              refine pF rfl (SamePages_ok (by omega) (sl_row P2.1) (sl_row P4.1) fun b hb => ⟨_, rfl, ?_⟩)
                              have : b = true := hb.2 ⟨rfl, fun _ _ _ _ => rfl⟩
                              subst this
                              refine k20 _ _ ?_
                              intro J21 k21
                              refine pF rfl (k21 _ _ ?_)
                              intro J22 k22
                              refine pF (by simp) (k22 _ _ (iF (by simp) ?_))
                              intro J23 k23 L24 hL24
                              have l24 : ∀ (r k : Nat), k + r = s.o → L24 [.slice qp2 s.o qc2, .slice qp3 s.o qc3, .slice qp4 s.o qc4, .int .i64 (k : Int)] h173 := by
                                intro r
                                induction r with
                                | zero =>
                                  intro k hk
                                  have : k = s.o := by omega
                                  subst this
                                  exact hL24 _ _ _ _ _ _ _ _ _ _ _ (iF (by simp) (k23 _ ⟨rfl, I173.u⟩))
                                | succ r ihk =>
                                  intro k hk
                                  have hko : k < s.o := by omega
                                  obtain ⟨b2, e2, c2⟩ := sl_cell P2.2.1.1 (i := k) (by omega)
                                  obtain ⟨b3, e3, c3⟩ := sl_cell P3.2.1.1 (i := k) (by omega)
                                  obtain ⟨b4, e4, c4⟩ := sl_cell P4.2.1.1 (i := k) (by omega)
                                  have ek : IntKind.wrap .i64 ((k : Int) + 1) = ((k + 1 : Nat) : Int) := by rw [IntKind.wrap_i64]; omega
                                  have W2 := P2.2.1.2.1.1 k hko
                                  have W3 := P3.2.1.2.1.1 k hko
                                  have W4 := P4.2.1.2.1.1 k hko
                                  have hnw := nw_small (k := k) n1
                                  refine hL24 _ _ _ _ _ _ _ _ _ _ _ (iT (by simp; omega) ?_)
                                  intro J25 k25
                                  rw [e2, e3, e4]
                                  simp only [jor, jand, cellAt_new, add_mk, List.getElem?_toArray, Nat.zero_add, List.getElem?_cons_zero, List.getElem?_cons_succ, Option.some.injEq, Value.int.injEq, Value.bool.injEq, Value.pointer.injEq, Value.slice.injEq, true_and, and_true, exists_eq_left', exists_eq', and_assoc, exists_and_left, Int.toNat_natCast, Nat.mul_one, c2, c3, c4]
                                  refine ⟨by omega, by omega, by omega, by omega, ?_⟩
                                  intro J26 k26
                                  refine pF (by simp) ⟨by omega, by omega, by omega, by omega, k26 _ _ (iF (by simp) ?_)⟩
                                  intro L27 hL27
                                  have inner : ∀ (r j : Nat), j + r = nw (s.n / 2 ^ (k + 1)) → L27 [.slice (some ⟨b2, 0, none⟩) s.o qc2, .slice (some ⟨b3, 0, none⟩) s.o qc3, .slice (some ⟨b4, 0, none⟩) s.o qc4, .int .i64 (k : Int), .int .i64 (j : Int)] h173 := by
                                    intro r
                                    induction r with
                                    | zero =>
                                      intro j hj
                                      refine hL27 _ _ _ _ _ _ _ _ _ _ _ _ ?_
                                      simp only [jor, jand, cellAt_new, add_mk, List.getElem?_toArray, Nat.zero_add, List.getElem?_cons_zero, List.getElem?_cons_succ, Option.some.injEq, Value.int.injEq, Value.bool.injEq, Value.pointer.injEq, Value.slice.injEq, true_and, and_true, exists_eq_left', exists_eq', and_assoc, exists_and_left, Int.toNat_natCast, Nat.mul_one, c2]
                                      refine ⟨by omega, by omega, iF (by simp; omega) (k25 _ _ _ _ _ _ _ _ _ _ _ ?_)⟩
                                      rw [ek, ← e2, ← e3, ← e4]
                                      exact ihk (k + 1) (by omega)
                                    | succ r ihj =>
                                      intro j hj
                                      obtain ⟨d2, f2, x2⟩ := sl_cell W2 (i := j) (by omega)
                                      obtain ⟨d3, f3, x3⟩ := sl_cell W3 (i := j) (by omega)
                                      obtain ⟨d4, f4, x4⟩ := sl_cell W4 (i := j) (by omega)
                                      have ej : IntKind.wrap .i64 ((j : Int) + 1) = ((j + 1 : Nat) : Int) := by rw [IntKind.wrap_i64]; omega
                                      refine hL27 _ _ _ _ _ _ _ _ _ _ _ _ ?_
                                      simp only [jor, jand, cellAt_new, add_mk, List.getElem?_toArray, Nat.zero_add, List.getElem?_cons_zero, List.getElem?_cons_succ, Option.some.injEq, Value.int.injEq, Value.bool.injEq, Value.pointer.injEq, Value.slice.injEq, true_and, and_true, exists_eq_left', exists_eq', and_assoc, exists_and_left, Int.toNat_natCast, Nat.mul_one, c2, c3, c4]
                                      refine ⟨by omega, by omega, iT (by simp; omega) ?_⟩
                                      rw [f2, f3, f4]
                                      simp only [jor, jand, cellAt_new, add_mk, List.getElem?_toArray, Nat.zero_add, List.getElem?_cons_zero, List.getElem?_cons_succ, Option.some.injEq, Value.int.injEq, Value.bool.injEq, Value.pointer.injEq, Value.slice.injEq, true_and, and_true, exists_eq_left', exists_eq', and_assoc, exists_and_left, Int.toNat_natCast, Nat.mul_one, x2, x3, x4]
                                      refine ⟨by omega, by omega, by omega, by omega, by omega, by omega, by omega, by omega, ?_⟩
                                      intro J28 k28
                                      refine pF (by simp) ⟨by omega, by omega, by omega, by omega, by omega, by omega, by omega, by omega, k28 _ _ (iF (by simp) ?_)⟩
                                      rw [ej]
                                      exact ihj (j + 1) (by omega)
                                  exact inner _ 0 (Nat.zero_add _)
                              exact l24 s.o 0 (by omega)
                          exact l30 s.o 0 (by omega)
                      exact l33 s.n 0 (by omega)
                  exact l34 5 0 hv gp gc (mkPg s.pg s.n) (by omega) (fun x hx => by unfold mkPg; rw [if_pos hx]) IV
              exact l37 s.o 0 hz (by omega) (IZ.as 2 (R := allR s.o (wrdR s wp wc s.o 0)) (R' := allR s.o (wrdR s wp wc s.o 0)) id fun _ e => e)
          exact l42 s.o 0 hy (by omega) IY
      exact l46 s.n 0 _ (by omega) IB
  exact calls n 0 h36 w36 (by omega) I36

end Go.Proofs.Ytnplkinakaepdaa
