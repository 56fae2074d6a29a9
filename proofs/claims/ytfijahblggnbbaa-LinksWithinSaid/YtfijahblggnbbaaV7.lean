/- A function that defers one closure, which calls what makes a thrown fault an answer. No condition. -/
import Derived.Test.YtfijahblggnbbaaV6
import Derived.Defers
import Derived.Recover
set_option linter.unusedSimpArgs false
set_option linter.unusedVariables false
namespace Go.V

/-- A deferred call, over heaps. -/
def CallsDE (P : Program) (w₀ : World) (f : FuncId) (args : Array Value) (u : FrameMode) (h : Heap) (R : Ending → FrameMode → Heap → Prop) : Prop :=
  ∀ n, CallsD P f args u (on w₀ h n) fun e u' w' => ∃ h' n', w' = on w₀ h' n' ∧ R e u' h'

/-- What a caught fault leaves in the error's cell. -/
def caughtK (t : TypeId) (c : List PanicEntry) (h : Heap) (a : Addr) (K : Heap → Prop) : Prop :=
  match c with
  | [⟨.iface s (.agg l), false, false⟩] => match l.toList with
    | [.int .i64 x] => Nat.beq s t = true ∧ Wr (h.push (.cells #[.int .i64 x] t)) a ∧ K (setC (h.push (.cells #[.int .i64 x] t)) a (.int .i64 x))
    | _ => False
  | _ => False

/-- The closure: nothing at a return; at a fault the error's cell. -/
structure Catches (P : Program) (w₀ : World) (g : FuncId) (t : TypeId) : Prop where
  can : callable P g = true
  idle : ∀ (a : Addr) (h : Heap), CallsDE P w₀ g #[.pointer (some a)] .returning h fun e u' h' => e = .returned (.tuple #[]) ∧ u' = .returning ∧ h' = h
  turns : ∀ (a : Addr) (h : Heap) (x : Int), Wr (h.push (.cells #[.int .i64 x] t)) a →
    CallsDE P w₀ g #[.pointer (some a)] (.panicking [⟨.iface t (.agg #[.int .i64 x]), false, false⟩]) h fun e u' h' =>
      e = .returned (.tuple #[]) ∧ u' = .panicking [⟨.iface t (.agg #[.int .i64 x]), true, false⟩] ∧ h' = setC (h.push (.cells #[.int .i64 x] t)) a (.int .i64 x)

section
variable {P : Program} {w₀ : World}

theorem catches_of {g cg : FuncId} {t : TypeId} {fn : Func} {id : Nat} {o1 o2 : Oper} {ats : Array TypeId}
    (hf : P.funcs[g]? = some fn) (hb : fn.body = some (.region id #[o1, o2] false)) (hN : fn.ntmps = 3) (hres : fn.results = #[])
    (h1 : o1.op = .call { callee := .builtin .recover, args := #[], argTypes := #[] }) (h1d : o1.dst = some 1) (h1g : o1.guard = none)
    (h2 : o2.op = .call { callee := .value (.func cg), args := #[.tmp 1, .tmp 0], argTypes := ats }) (h2d : o2.dst = some 2) (h2g : o2.guard = none)
    (hg : callable P g = true) (hcg : callable P cg = true)
    (hidle : ∀ (a : Addr) (h : Heap), CallV P w₀ cg [.nilIface, .pointer (some a)] h fun _ h' => h' = h)
    (hturn : ∀ (a : Addr) (h : Heap) (x : Int), Wr (h.push (.cells #[.int .i64 x] t)) a →
      CallV P w₀ cg [.iface t (.agg #[.int .i64 x]), .pointer (some a)] h fun _ h' => h' = setC (h.push (.cells #[.int .i64 x] t)) a (.int .i64 x)) :
    Catches P w₀ g t := by
  have hrec : ∀ ρ w, (execOp ρ o1).run P w = .ok .recover w := by
    intro ρ w
    simp only [execOp, h1, resolve, Sem.run_bind, Sem.run_pure, Result.andThen_ok, invoke, Array.map_empty]
    rfl
  have hcal : ∀ (tm : Array Value) (df : List Deferred) (x y : Value) (w : World), tm[1]? = some x → tm[0]? = some y → (execOp (Act.eval { tmps := tm, defers := df }) o2).run P w = .ok (.enter cg #[x, y]) w := by
    intro tm df x y w hx hy
    have e1 : (Act.eval { tmps := tm, defers := df } (.tmp 1)) = x := by simp [Act.eval, hx]
    have e0 : (Act.eval { tmps := tm, defers := df } (.tmp 0)) = y := by simp [Act.eval, hy]
    simp only [execOp, h2, resolve, Sem.run_bind, Sem.run_pure, Result.andThen_ok, Deferred.ofValue, invoke]
    rw [show (Act.eval { tmps := tm, defers := df } (.func cg)) = .func (.func cg) #[] #[] from rfl]
    simp only [Sem.run_bind, Sem.run_pure, Result.andThen_ok, invoke]
    rw [callable_run P hcg]
    simp [e1, e0]
  have key : ∀ (u u' : FrameMode) (v : Value) (a : Addr) (h h' : Heap),
      (∀ c₀ cs, c₀.mode = u → recoverD (c₀ :: cs) = some (v, { c₀ with mode := u' } :: cs) ∨ (recoverD (c₀ :: cs) = none ∧ v = .nilIface ∧ u' = u)) →
      CallV P w₀ cg [v, .pointer (some a)] h (fun _ h'' => h'' = h') →
      CallsDE P w₀ g #[.pointer (some a)] u h fun e u'' h'' => e = .returned (.tuple #[]) ∧ u'' = u' ∧ h'' = h' := by
    intro u u' v a h h' hu hc n
    refine callsD_of_wpS hf hb fun c₀ cs hm => wpS_region ?_
    have hr := hu c₀ cs hm
    have hw1 : ∀ y, Region.wanted o1 y = true := fun y => by simp only [Region.wanted, h1g]
    have hw2 : ∀ y, Region.wanted o2 y = true := fun y => by simp only [Region.wanted, h2g]
    have e1 : (#[o1, o2] : Array Oper)[0]? = some o1 := rfl
    have e2 : (#[o1, o2] : Array Oper)[1]? = some o2 := rfl
    have hi : (#[Value.pointer (some a)] ++ Array.replicate (fn.ntmps - (#[Value.pointer (some a)] : Array Value).size) undef) = #[Value.pointer (some a), undef, undef] := by rw [hN]; rfl
    rw [hi]
    have fin : ∀ (c' : List Frame), c' = { c₀ with mode := u' } :: cs →
        wpOpsS P #[o1, o2] (bodyPostS P fn c₀ cs (fun e u'' w' => ∃ h'' n', w' = on w₀ h'' n' ∧ e = .returned (.tuple #[]) ∧ u'' = u' ∧ h'' = h')) [1] { tmps := #[Value.pointer (some a), v, undef], defers := [] } c' (on w₀ h n) := by
      rintro c' rfl
      simp only [wpOpsS, e2, hw2, if_true]
      rw [hcal _ _ v (.pointer (some a)) _ rfl rfl]
      show Oper.upon _ _ _ _ _ (.ok (.enter cg #[v, .pointer (some a)]) (on w₀ h n))
      rw [Oper.upon_enter]
      refine (hc n).mono ?_
      rintro e w' ⟨h'', n', rfl, hq⟩
      cases e with
      | returned x =>
        have hq : h'' = h' := hq
        subst hq
        refine ⟨by rw [h2d]; rfl, u', rfl, .tuple #[], ?_, h'', n', rfl, rfl, rfl, rfl⟩
        simp [results, hres]
      | panicked ch => exact hq.elim
      | outgrown => exact hq.elim
    have hl : List.range (#[o1, o2] : Array Oper).size = [0, 1] := rfl
    rw [hl, wpOpsS]
    simp only [e1, hw1, if_true, hrec]
    rcases hr with hr | ⟨hr, rfl, rfl⟩
    · rw [hr]
      simp only [h1d]
      exact fin _ rfl
    · rw [hr]
      simp only [h1d]
      exact fin _ (by rw [← hm])
  refine ⟨hg, fun a h => ?_, fun a h x hx => ?_⟩
  · exact key .returning .returning .nilIface a h h (fun c₀ cs hm => .inr ⟨by simp only [recoverD, hm], rfl, rfl⟩) (hidle a h)
  · exact key _ (.panicking [⟨.iface t (.agg #[.int .i64 x]), true, false⟩]) _ a h _ (fun c₀ cs hm => .inl (by simp only [recoverD, hm])) (hturn a h x hx)

/-- The ends of a function that defers that closure. -/
def endM (P : Program) (t : TypeId) (e : Addr) (rs : List ResultVar) (K : Value → Heap → Prop) : Exit → Env → Heap → Prop
  | .normal, E, h => resF P rs E h fun vs => K (oneV vs) h
  | .ret, E, h => resF P rs E h fun vs => K (oneV vs) h
  | .panic c, E, h => caughtK t c h e fun h' => resF P rs E h' fun vs => K (oneV vs) h'
  | _, _, _ => False

/-- Behind the deferring. -/
def deferE (P : Program) (w₀ : World) (N : Nat) (g : FuncId) (t : TypeId) (e d : Nat) (rest : Code) (ann : Ann) (rs : List ResultVar) (K : Value → Heap → Prop) : Exit → Env → Heap → Prop
  | .normal, E, h => match get E e with
    | some (.pointer (some a)) => vc P w₀ N rest ann ((d, .func (.func g) #[] #[.pointer (some a)]) :: E) h (endM P t a rs K)
    | _ => False
  | _, _, _ => False

theorem callV_of_vcD (hm : P.follows .mixedOrders = true) {f g : FuncId} {t : TypeId} {fn : Func} {c₀ rest : Code} {id : Nat} {o1 o2 : Oper} {d e : Nat} {ann₀ ann : Ann} {N : Nat} {args : List Value} {h : Heap} {K : Value → Heap → Prop}
    (hf : P.funcs[f]? = some fn) (hb : fn.body = some (.seq c₀ (.seq (.region id #[o1, o2] false) rest))) (hN : fn.ntmps = N) (hl : Nat.ble args.length N = true) (hn0 : noLab ann₀ = true) (hn1 : noLab ann = true)
    (h1 : o1.op = .makeFunc (.func g) #[] #[.tmp e]) (h1d : o1.dst = some d) (h1g : o1.guard = none)
    (h2 : o2.op = .defer { callee := .value (.tmp d), args := #[], argTypes := #[] }) (h2d : o2.dst = none) (h2g : o2.guard = none) (hd : Nat.blt d N = true)
    (hcat : Catches P w₀ g t)
    (H : vc P w₀ N c₀ ann₀ (argE 0 args) h (deferE P w₀ N g t e d rest ann fn.results.toList K)) : CallV P w₀ f args h K := by
  intro n
  have hl' := Nat.le_of_ble_eq_true hl
  refine calls_of_wp_defers hf hb ?_
  have hE : Holds N [] (argE 0 args) { tmps := args.toArray ++ Array.replicate (fn.ntmps - args.toArray.size) undef, defers := [] } := by
    refine ⟨by simp [hN]; omega, rfl, fun t v hv => ?_⟩
    obtain ⟨_, h2⟩ := get_argE hv
    rw [Nat.sub_zero] at h2
    have ht : t < args.length := (List.getElem?_eq_some_iff.1 h2).1
    rw [Array.getElem?_append_left (by simpa using ht)]
    simpa using h2
  have hend : ∀ (a : Addr) (E' : Env) (a' : Act) (h' : Heap) (ex : Exit),
      Holds N [{ target := .fn (.func g) #[.pointer (some a)], args := #[] }] E' a' → endM P t a fn.results.toList K ex E' h' →
      ∀ n', bodyPostD P fn (fun e w' => ∃ h'' n'', w' = on w₀ h'' n'' ∧ callPost K (fun _ _ => False) e h'') ex a' (on w₀ h' n') := by
    intro a E' a' h' ex hE' hq n'
    have hinv : ∀ w : World, (invoke (.fn (.func g) #[.pointer (some a)]) #[]).run P w = .ok (.enter g #[.pointer (some a)]) w := by
      intro w
      simp only [invoke]
      rw [callable_run P hcat.can]
      rfl
    have done : ∀ (h'' : Heap), (resF P fn.results.toList E' h'' fun vs => K (oneV vs) h'') → ∀ n'', Leaves P fn a'.tmps (fun e w' => ∃ h'' n'', w' = on w₀ h'' n'' ∧ callPost K (fun _ _ => False) e h'') [] .returning (on w₀ h'' n'') := by
      intro h'' hr n''
      obtain ⟨vs, hK, hres⟩ := results_run (w₀ := w₀) (fn := fn) hr hE' n''
      exact ⟨_, hres, h'', n'', rfl, hK⟩
    have hret : (resF P fn.results.toList E' h' fun vs => K (oneV vs) h') → Leaves P fn a'.tmps (fun e w' => ∃ h'' n'', w' = on w₀ h'' n'' ∧ callPost K (fun _ _ => False) e h'') a'.defers .returning (on w₀ h' n') := by
      intro hr
      rw [hE'.2.1]
      refine leaves_cons (by simp) (hinv _) ?_
      refine ((hcat.idle a h') n').mono ?_
      rintro e' u' w' ⟨h'', n'', rfl, rfl, rfl, rfl⟩
      exact done _ hr n''
    cases ex with
    | normal => exact hret hq
    | ret => exact hret hq
    | panic c =>
      simp only [endM, caughtK] at hq
      split at hq
      case h_2 => exact hq.elim
      rename_i s l
      split at hq
      case h_2 => exact hq.elim
      rename_i x hlx
      obtain ⟨hs, hwr, hq⟩ := hq
      have hs := Nat.eq_of_beq_eq_true hs
      subst hs
      have : l = #[Value.int .i64 x] := Array.toList_inj.1 hlx
      subst this
      show Leaves P fn a'.tmps _ a'.defers _ _
      rw [hE'.2.1]
      refine leaves_cons (by simp) (hinv _) ?_
      refine ((hcat.turns a h' x hwr) n').mono ?_
      rintro e' u' w' ⟨h'', n'', rfl, rfl, rfl, rfl⟩
      exact done _ hq n''
    | exit i => exact hq.elim
    | goto i => exact hq.elim
    | outgrown => exact hq.elim
  have hW : WA none P w₀ (.seq c₀ (.seq (.region id #[o1, o2] false) rest)) (fun ex a' h' => ∀ n', bodyPostD P fn (fun e w' => ∃ h'' n'', w' = on w₀ h'' n'' ∧ callPost K (fun _ _ => False) e h'') ex a' (on w₀ h' n'))
      { tmps := args.toArray ++ Array.replicate (fn.ntmps - args.toArray.size) undef, defers := [] } h := by
    refine WA_seq (WA_mono ?_ (vc_sound (r := none) (D := []) hm c₀ ann₀ _ h _ _ hn0 H hE))
    rintro ex a' h' ⟨E', hE', hq⟩
    cases ex with
    | normal =>
      simp only [deferE] at hq
      split at hq
      case h_2 => exact hq.elim
      rename_i a hga
      refine WA_seq (WA_region ?_)
      have hl2 : List.range (#[o1, o2] : Array Oper).size = [0, 1] := rfl
      have e1 : (#[o1, o2] : Array Oper)[0]? = some o1 := rfl
      have e2 : (#[o1, o2] : Array Oper)[1]? = some o2 := rfl
      have hw1 : ∀ y, Region.wanted o1 y = true := fun y => by simp only [Region.wanted, h1g]
      have hw2 : ∀ y, Region.wanted o2 y = true := fun y => by simp only [Region.wanted, h2g]
      rw [hl2]
      intro n1
      unfold wpOpIn
      simp only [e1, hw1, if_true]
      refine ⟨fun _ _ => trivial, ?_⟩
      rw [Oper.semAt_eq _ _ _ (by rw [h1]; simp)]
      have hx1 : ∀ w : World, (execOp a'.eval o1).run P w = .ok (.value (.func (.func g) #[] #[.pointer (some a)])) w := by
        intro w
        have : a'.eval (.tmp e) = .pointer (some a) := hE'.val (x := .tmp e) hga
        simp [execOp, h1, Instr.makeFunc, this]
      rw [hx1]
      refine ⟨h', n1, rfl, ?_⟩
      intro n2
      unfold wpOpIn
      simp only [e2, hw2, if_true]
      refine ⟨fun _ _ => trivial, ?_⟩
      have hdN : d < N := Nat.le_of_ble_eq_true hd
      have hE2 : Holds N [] ((d, .func (.func g) #[] #[.pointer (some a)]) :: E') (a'.put o1.dst (.func (.func g) #[] #[.pointer (some a)])) := by rw [h1d]; exact hE'.put hdN _
      have hx2 : ∀ w : World, (Oper.semAt (Fr none).round (a'.put o1.dst (.func (.func g) #[] #[.pointer (some a)])).eval o2).run P w = .ok (.defer { target := .fn (.func g) #[.pointer (some a)], args := #[] }) w := by
        intro w
        have : (a'.put o1.dst (.func (.func g) #[] #[.pointer (some a)])).eval (.tmp d) = .func (.func g) #[] #[.pointer (some a)] := hE2.val (x := .tmp d) (by simp [V.val, get])
        show (Oper.semAt none _ o2).run P w = _
        rw [Oper.semAt_none]
        simp [execOp, h2, resolve, this, Deferred.ofValue]
      rw [hx2]
      refine ⟨h', n2, rfl, ?_⟩
      have hE3 : Holds N [{ target := .fn (.func g) #[.pointer (some a)], args := #[] }] ((d, .func (.func g) #[] #[.pointer (some a)]) :: E')
          (Act.put { (a'.put o1.dst (.func (.func g) #[] #[.pointer (some a)])) with defers := { target := .fn (.func g) #[.pointer (some a)], args := #[] } :: (a'.put o1.dst (.func (.func g) #[] #[.pointer (some a)])).defers } o2.dst undef) := by
        rw [h2d]
        refine ⟨hE2.1, ?_, hE2.2.2⟩
        show _ :: (a'.put o1.dst (.func (.func g) #[] #[.pointer (some a)])).defers = _
        rw [hE2.2.1]
      have := vc_sound (r := none) (D := [{ target := .fn (.func g) #[.pointer (some a)], args := #[] }]) hm rest ann _ h' _ _ hn1 hq hE3
      refine WA_mono ?_ this
      rintro ex a'' h'' ⟨E'', hE'', hq''⟩
      exact hend a E'' a'' h'' ex hE'' hq''
    | _ => exact hq.elim
  have hW' := wpIn_wide.1 (hW n)
  refine wp_mono hW' ?_
  rintro ex a w ⟨h', n', rfl, hq⟩
  exact hq n'

end
end Go.V
