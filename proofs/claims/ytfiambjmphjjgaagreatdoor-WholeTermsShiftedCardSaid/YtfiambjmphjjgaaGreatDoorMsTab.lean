/- Part of a proof: a checked evaluator of the program (the table of functions, and a run of one of them). No condition. -/
import Derived.Test.YtfiambjmphjjgaaGreatDoorMsSeq2
/-! the table of functions, and a run of one of them -/
noncomputable section
namespace Go.Proofs.YtfiambjmphjjgaaGreatDoor.Ms
set_option linter.unusedVariables false
set_option linter.unusedSimpArgs false
section
variable {α : Type}
def T.lft : T α → T α
  | .e => .e
  | .n l _ _ => l
def T.rgt : T α → T α
  | .e => .e
  | .n _ _ r => r
def T.val : T α → Option α
  | .e => none
  | .n _ x _ => x
theorem T.getN_s (t : T α) (m : Nat) : t.getN m = if m = 0 then t.val else if m % 2 = 1 then t.lft.getN (m / 2) else t.rgt.getN (m / 2 - 1) := by
  cases t with
  | e => simp [T.getN_e, T.lft, T.rgt, T.val]
  | n l x r => exact T.getN_n l r x m
def setPF (v : α) (q : Nat) (n : Nat) (t : T α) (k : T α → Bool) : Bool :=
  Nat.rec (motive := fun _ => Nat → T α → (T α → Bool) → Bool) (fun _ _ _ => false)
    (fun _ ih n t k =>
      Bool.rec
        (Bool.rec (T.rec (ih (Nat.sub (Nat.div n (nat_lit 2)) (nat_lit 1)) .e fun r => k (.n .e none r)) (fun l x r _ _ => ih (Nat.sub (Nat.div n (nat_lit 2)) (nat_lit 1)) r fun r => k (.n l x r)) t)
          (T.rec (ih (Nat.div n (nat_lit 2)) .e fun l => k (.n l none .e)) (fun l x r _ _ => ih (Nat.div n (nat_lit 2)) l fun l => k (.n l x r)) t)
          (Nat.beq (Nat.mod n (nat_lit 2)) (nat_lit 1)))
        (T.rec (k (.n .e (some v) .e)) (fun l _ r _ _ => k (.n l (some v) r)) t) (Nat.beq n (nat_lit 0))) q n t k
theorem setPF_succ (v : α) (q n : Nat) (t : T α) (k : T α → Bool) : setPF v (q + 1) n t k =
    Bool.rec (motive := fun _ => Bool) (Bool.rec (motive := fun _ => Bool) (setPF v q (n / 2 - 1) t.rgt fun r => k (.n t.lft t.val r)) (setPF v q (n / 2) t.lft fun l => k (.n l t.val t.rgt)) (Nat.beq (n % 2) 1)) (k (.n t.lft (some v) t.rgt)) (Nat.beq n 0) := by
  cases t <;> rfl
theorem setPF_ok {v : α} : ∀ {q n : Nat} {t : T α} {k : T α → Bool}, setPF v q n t k = true → ∃ t', k t' = true ∧ ∀ m, t'.getN m = if m = n then some v else t.getN m := by
  intro q
  induction q with
  | zero => intro n t k h; cases h
  | succ q ih =>
    intro n t k h
    rw [setPF_succ, brec, brec] at h
    split at h
    · rename_i h0
      have h0 : n = 0 := by simpa [Nat.beq_eq] using h0
      subst h0
      refine ⟨_, h, fun m => ?_⟩
      rw [T.getN_n, T.getN_s t]
      split <;> rfl
    · rename_i h0
      have h0 : n ≠ 0 := by simpa [Nat.beq_eq] using h0
      split at h
      · rename_i h1
        have h1 : n % 2 = 1 := by simpa [Nat.beq_eq] using h1
        obtain ⟨l', hk, hg⟩ := ih h
        refine ⟨_, hk, fun m => ?_⟩
        rw [T.getN_n, T.getN_s t, hg]
        by_cases e0 : m = 0
        · have : m ≠ n := by omega
          simp [e0]; omega
        · by_cases e1 : m % 2 = 1
          · simp only [e0, e1, if_true, if_false]
            by_cases e2 : m = n
            · subst e2; simp
            · have : m / 2 ≠ n / 2 := by omega
              simp [this, e2]
          · have : m ≠ n := by omega
            simp [e0, e1, this]
      · rename_i h1
        have h1 : n % 2 ≠ 1 := by simpa [Nat.beq_eq] using h1
        obtain ⟨r', hk, hg⟩ := ih h
        refine ⟨_, hk, fun m => ?_⟩
        rw [T.getN_n, T.getN_s t, hg]
        by_cases e0 : m = 0
        · have : m ≠ n := by omega
          simp [e0]; omega
        · by_cases e1 : m % 2 = 1
          · have : m ≠ n := by omega
            simp [e0, e1, this]
          · simp only [e0, e1, if_false]
            by_cases e2 : m = n
            · subst e2; simp
            · have : m / 2 - 1 ≠ n / 2 - 1 := by omega
              simp [this, e2]
theorem setP_ok {t : T α} {n : Nat} {v : α} {k : T α → Bool} (h : t.setP n v k = true) : ∃ t', k t' = true ∧ ∀ m, t'.getN m = if m = n then some v else t.getN m :=
  setPF_ok (q := 64) h
end
def codesG (l : List Fe) (t : T FE) (k : T FE → Bool) : Bool := List.rec (motive := fun _ => T FE → (T FE → Bool) → Bool) (fun t k => k t) (fun x _ ih t k => Fe.rec (fun n f => t.setP n f fun t => ih t k) x) l t k
theorem codesG_ok : ∀ {l : List Fe} {t : T FE} {k : T FE → Bool}, codesG l t k = true → ∃ t', k t' = true ∧ ∀ n fe, t'.getN n = some fe → t.getN n = some fe ∨ ⟨n, fe⟩ ∈ l := by
  intro l
  induction l with
  | nil => intro t k h; exact ⟨t, h, fun n fe e => .inl e⟩
  | cons x l ih =>
    intro t k h
    obtain ⟨n, f⟩ := x
    obtain ⟨t1, h1, g1⟩ := setP_ok (t := t) (n := n) (v := f) (k := fun t => codesG l t k) h
    obtain ⟨t2, h2, g2⟩ := ih h1
    refine ⟨t2, h2, fun m fe e => ?_⟩
    rcases g2 m fe e with e2 | e2
    · rw [g1] at e2
      split at e2
      · rename_i hm
        injection e2 with e2
        subst hm; subst e2
        exact .inr (by simp)
      · exact .inl e2
    · exact .inr (by simp [e2])
theorem codesK_ok {l : List Fe} {k : T FE → Bool} (h : codesK l k = true) : ∃ t, k t = true ∧ ∀ n fe, t.getN n = some fe → ⟨n, fe⟩ ∈ l := by
  obtain ⟨t, h1, h2⟩ := codesG_ok (l := l) (t := .e) h
  refine ⟨t, h1, fun n fe e => ?_⟩
  rcases h2 n fe e with e2 | e2
  · cases e2
  · exact e2
section
variable {P : Program} {cands : List Nat} {mnames : List String}
/-- a function's code, out of the program -/
def trN (P : Program) (cands : List Nat) (mnames : List String) (n : Nat) : Option FE :=
  ((P.funcs[n]?).bind fun fn => Bool.rec (trF P cands mnames fn) none (fn.name == "runtime.NumGoroutine")).map dF
theorem trN_ok {n : Nat} {fe : FE} (h : trN P cands mnames n = some fe) (ds : List Nat) : FeOK P cands mnames ds n fe := by
  unfold trN at h
  cases hf : P.funcs[n]? with
  | none => rw [hf] at h; cases h
  | some fn =>
    rw [hf] at h
    simp only [Option.bind_some] at h
    cases hb : (fn.name == "runtime.NumGoroutine") with
    | true => rw [hb] at h; cases h
    | false =>
      rw [hb] at h
      cases hd : trF P cands mnames fn with
      | none => simp only [hd] at h; cases h
      | some d =>
        simp only [hd] at h
        have h : some (dF d) = some fe := h
        injection h with h
        subst h
        exact ⟨fn, d, hf, hb, hd, rfl⟩
/-- what stood stands on -/
def Old (w w' : World) : Prop := (∀ (b : Nat) (o : Obj), w.heap[b]? = some o → w'.heap[b]? = some o) ∧ w.heap.size ≤ w'.heap.size ∧ w'.os = w.os ∧ w'.tape = w.tape ∧ w'.output = w.output
def CodeList (P : Program) (cands : List Nat) (mnames : List String) (l : List Fe) : Prop := (l.map fun x => trN P cands mnames x.n) = l.map fun x => some x.f
theorem codeList_ok {l : List Fe} (h : CodeList P cands mnames l) (ds : List Nat) : ∀ x ∈ l, FeOK P cands mnames ds x.n x.f :=
  fun x hx => trN_ok (List.map_inj_left.1 h x hx) ds
/-- a run from nothing -/
def runT (l : List Fe) (lf n f : Nat) : Bool := codesK l fun P => callK P lf n f [] .e (.o .h) fun v _ _ => v.onB fun b => b
theorem run_ok (hmix : P.follows .mixedOrders = true) {ds : List Nat} {l : List Fe} (hl : ∀ x ∈ l, FeOK P cands mnames ds x.n x.f) {lf n f : Nat} (h : runT l lf n f = true)
    (hcall : ∀ args w, (callFunc f args).run P w = .ok (.enter f args) w) {w : World} (hw : ∃ o, w.heap[GL]? = some o ∧ TabO o) :
    Calls P f #[] w fun e w' => e = .returned (.bool true) ∧ Old w w' := by
  obtain ⟨t, h, ht⟩ := codesK_ok (k := fun P => callK P lf n f [] .e (.o .h) fun v _ _ => v.onB fun b => b) h
  obtain ⟨v, h', nx', h2, hs⟩ := (call_ok hmix (fun f fe e => hl _ (ht f fe e)) lf n).1 f [] .e (.o .h) _ h
  obtain ⟨b, rfl, rfl⟩ := onB_ok h2
  have hwr : WR (fun _ => none) .e (.o .h) w := ⟨fun c x h => (by cases h), fun c x h => (by cases h), fun c x c' x' ob h => (by cases h), rfl, hw⟩
  have hR : ∀ u w', Does (fun _ => none) (.o .h) w (.b true) h' nx' u w' → u = .bool true ∧ Old w w' := by
    rintro u w' ⟨g', hv, hw', hx⟩
    cases hv
    exact ⟨rfl, fun b o hb => hx.keep b o hb rfl, hx.size, hx.os, hx.tape, hx.output⟩
  rcases hs _ [] w .nil hwr with ⟨u, w', e | ⟨e, _⟩, hd⟩ | ⟨f', args, e, hc⟩
  · rw [hcall] at e; cases e
  · rw [hcall] at e; cases e
  · rw [hcall] at e
    cases e
    exact hc.mono fun e w' ⟨u, he, hd⟩ => by
      obtain ⟨h1, h2⟩ := hR u w' hd
      exact ⟨by rw [he, h1], h2⟩
theorem callFunc_enter {f : Nat} {fn : Func} (hf : P.funcs[f]? = some fn) (hname : (fn.name == "runtime.NumGoroutine") = false) (hb : fn.body.isNone = false) (args : Array Value) (w : World) : (callFunc f args).run P w = .ok (.enter f args) w := by
  simp only [callFunc, Sem.run_bind, run_program, Result.andThen_ok, hf, hname, hb, Bool.false_eq_true, if_false, Sem.run_pure]
end
end Go.Proofs.YtfiambjmphjjgaaGreatDoor.Ms
