/- Part of a proof: a checked evaluator of the program (plain lemmas on the evaluator's helpers). No condition. -/
import Derived.Test.YtfiambjmphjjgaaGreatDoorMsEv
import Derived.IntWalk
import Derived.Laws.Bits64
/-! plain lemmas on the evaluator's helpers -/
namespace Go.Proofs.YtfiambjmphjjgaaGreatDoor.Ms
set_option linter.unusedVariables false
set_option linter.unusedSimpArgs false

theorem Ps.num_succ (p : Ps) : p.succ.num = p.num + 1 := by
  induction p with
  | h => rfl
  | o p ih => simp [Ps.succ, Ps.num]
  | i p ih => simp [Ps.succ, Ps.num, ih]; omega
theorem Ps.num_pos (p : Ps) : 0 < p.num := by
  induction p with
  | h => simp [Ps.num]
  | o p ih => simp [Ps.num, ih]
  | i p ih => simp [Ps.num]
section trees
variable {α β : Type}
theorem T.get_e (p : Ps) : (T.e : T α).get p = none := by cases p <;> rfl
theorem T.get_h (l r : T α) (x : Option α) : (T.n l x r).get .h = x := rfl
theorem T.get_o (l r : T α) (x : Option α) (p : Ps) : (T.n l x r).get (.o p) = l.get p := rfl
theorem T.get_i (l r : T α) (x : Option α) (p : Ps) : (T.n l x r).get (.i p) = r.get p := rfl
noncomputable def T.put (t : T α) (p : Ps) (v : α) : T α := T.setF v p t id
theorem T.setF_eq (v : α) (p : Ps) : ∀ {β : Type} (t : T α) (k : T α → β), T.setF v p t k = k (t.put p v) := by
  induction p with
  | h => intro β t k; cases t <;> rfl
  | o p ih =>
    intro β t k
    cases t with
    | e => exact (ih .e _).trans (congrArg k ((ih .e (fun l => T.n l none .e)).symm))
    | n l x r => exact (ih l _).trans (congrArg k ((ih l (fun l => T.n l x r)).symm))
  | i p ih =>
    intro β t k
    cases t with
    | e => exact (ih .e _).trans (congrArg k ((ih .e (fun r => T.n .e none r)).symm))
    | n l x r => exact (ih r _).trans (congrArg k ((ih r (fun r => T.n l x r)).symm))
theorem T.setK_eq (t : T α) (p : Ps) (v : α) (k : T α → β) : t.setK p v k = k (t.put p v) := T.setF_eq v p t k
theorem T.put_h (t : T α) (v : α) : ∃ l r, t.put .h v = .n l (some v) r ∧ (∀ q, l.get q = t.get (.o q)) ∧ (∀ q, r.get q = t.get (.i q)) := by
  cases t with
  | e => exact ⟨.e, .e, rfl, fun q => by simp [T.get_e], fun q => by simp [T.get_e]⟩
  | n l x r => exact ⟨l, r, rfl, fun q => rfl, fun q => rfl⟩
theorem T.get_put (v : α) (p : Ps) : ∀ (t : T α) (q : Ps), (t.put p v).get q = if q = p then some v else t.get q := by
  induction p with
  | h =>
    intro t q
    obtain ⟨l, r, e, hl, hr⟩ := T.put_h t v
    rw [e]
    cases q with
    | h => simp [T.get_h]
    | o q => simp [T.get_o, hl]
    | i q => simp [T.get_i, hr]
  | o p ih =>
    intro t q
    cases t with
    | e =>
      have : (T.e : T α).put (.o p) v = .n (T.put .e p v) none .e := T.setF_eq v p .e _
      rw [this]
      cases q with
      | h => simp [T.get_h, T.get_e]
      | o q => simp [T.get_o, ih, T.get_e]
      | i q => simp [T.get_i, T.get_e]
    | n l x r =>
      have : (T.n l x r).put (.o p) v = .n (T.put l p v) x r := T.setF_eq v p l _
      rw [this]
      cases q with
      | h => simp [T.get_h]
      | o q => simp [T.get_o, ih]
      | i q => simp [T.get_i]
  | i p ih =>
    intro t q
    cases t with
    | e =>
      have : (T.e : T α).put (.i p) v = .n .e none (T.put .e p v) := T.setF_eq v p .e _
      rw [this]
      cases q with
      | h => simp [T.get_h, T.get_e]
      | o q => simp [T.get_o, T.get_e]
      | i q => simp [T.get_i, ih, T.get_e]
    | n l x r =>
      have : (T.n l x r).put (.i p) v = .n l x (T.put r p v) := T.setF_eq v p r _
      rw [this]
      cases q with
      | h => simp [T.get_h]
      | o q => simp [T.get_o]
      | i q => simp [T.get_i, ih]
theorem T.getN_e (n : Nat) : (T.e : T α).getN n = none := rfl
theorem brec {β : Sort _} (b : Bool) (x y : β) : Bool.rec (motive := fun _ => β) x y b = if b = true then y else x := by cases b <;> rfl
theorem T.getN_n (l r : T α) (x : Option α) (n : Nat) : (T.n l x r).getN n = if n = 0 then x else if n % 2 = 1 then l.getN (n / 2) else r.getN (n / 2 - 1) := by
  show Bool.rec (motive := fun _ => Option α) (Bool.rec (motive := fun _ => Option α) (r.getN (n / 2 - 1)) (l.getN (n / 2)) (Nat.beq (n % 2) 1)) x (Nat.beq n 0) = _
  rw [brec, brec]
  simp [Nat.beq_eq]
theorem T.setN_ok {v : α} {t : T α} : ∀ {n : Nat} {k : T α → Bool}, t.setN n v k = true → ∃ t', k t' = true ∧ ∀ m, t'.getN m = if m = n then some v else t.getN m := by
  induction t with
  | e =>
    intro n k h
    have h' : Bool.rec (motive := fun _ => Bool) false (k (.n .e (some v) .e)) (Nat.beq n 0) = true := h
    rw [brec] at h'
    split at h'
    · rename_i h0
      have h0 : n = 0 := by simpa [Nat.beq_eq] using h0
      subst h0
      refine ⟨_, h', fun m => ?_⟩
      rw [T.getN_n]
      simp [T.getN_e]
    · simp at h'
  | n l x r ihl ihr =>
    intro n k h
    have h' : Bool.rec (motive := fun _ => Bool) (Bool.rec (motive := fun _ => Bool) (r.setN (n / 2 - 1) v fun r => k (.n l x r)) (l.setN (n / 2) v fun l => k (.n l x r)) (Nat.beq (n % 2) 1)) (k (.n l (some v) r)) (Nat.beq n 0) = true := h
    rw [brec, brec] at h'
    split at h'
    · rename_i h0
      have h0 : n = 0 := by simpa [Nat.beq_eq] using h0
      subst h0
      refine ⟨_, h', fun m => ?_⟩
      rw [T.getN_n, T.getN_n]
      split <;> rfl
    · rename_i h0
      have h0 : n ≠ 0 := by simpa [Nat.beq_eq] using h0
      split at h'
      · rename_i h1
        have h1 : n % 2 = 1 := by simpa [Nat.beq_eq] using h1
        obtain ⟨l', hk, hg⟩ := ihl h'
        refine ⟨_, hk, fun m => ?_⟩
        rw [T.getN_n, T.getN_n, hg]
        by_cases e0 : m = 0
        · have : m ≠ n := by omega
          simp [e0]; omega
        · by_cases e1 : m % 2 = 1
          · simp only [e0, e1, if_true, if_false]
            by_cases e2 : m = n
            · subst e2; simp
            · have : m / 2 ≠ n / 2 := by omega
              simp [this, e2]
          · have : m ≠ n := by omega
            simp [e0, e1, this]
      · rename_i h1
        have h1 : n % 2 ≠ 1 := by simpa [Nat.beq_eq] using h1
        obtain ⟨r', hk, hg⟩ := ihr h'
        refine ⟨_, hk, fun m => ?_⟩
        rw [T.getN_n, T.getN_n, hg]
        by_cases e0 : m = 0
        · have : m ≠ n := by omega
          simp [e0]; omega
        · by_cases e1 : m % 2 = 1
          · have : m ≠ n := by omega
            simp [e0, e1, this]
          · simp only [e0, e1, if_false]
            by_cases e2 : m = n
            · subst e2; simp
            · have : m / 2 - 1 ≠ n / 2 - 1 := by omega
              simp [this, e2]
end trees

theorem fN_eq (n : Nat) (k : Nat → Bool) : fN n k = k n := by cases n <;> rfl
theorem fI_eq (v : Int) (k : Int → Bool) : fI v k = k v := by
  cases v with
  | ofNat n => exact fN_eq n fun n => k (.ofNat n)
  | negSucc n => exact fN_eq n fun n => k (.negSucc n)
theorem orec {α : Type} {x : Option α} {f : α → Bool} (h : Option.rec (motive := fun _ => Bool) false f x = true) : ∃ a, x = some a ∧ f a = true := by
  cases x with
  | none => cases h
  | some a => exact ⟨a, rfl, h⟩
theorem bfalse {b : Bool} {x : Bool} (h : Bool.rec (motive := fun _ => Bool) false x b = true) : b = true ∧ x = true := by
  cases b with
  | false => cases h
  | true => exact ⟨rfl, h⟩
theorem lenL_aux {α : Type} (l : List α) : ∀ (n : Nat) (k : Nat → Bool),
    List.rec (motive := fun _ => Nat → (Nat → Bool) → Bool) (fun n k => k n) (fun _ _ ih n k => ih (Nat.succ n) k) l n k = k (n + l.length) := by
  induction l with
  | nil => intro n k; rfl
  | cons x l ih => intro n k; exact (ih (Nat.succ n) k).trans (by congr 1; simp; omega)
theorem lenL_eq {α : Type} (l : List α) (k : Nat → Bool) : lenL l k = k l.length := (lenL_aux l 0 k).trans (by simp)
theorem evs_eq (env : Env) (l : List Ev) : ∀ (k : List AV → Bool), evs env l k = k (l.map (· env)) := by
  induction l with
  | nil => intro k; rfl
  | cons x l ih => intro k; exact ih _
theorem ldK_ok {t : T AV} : ∀ {n o : Nat} {k : List AV → Bool}, ldK t o n k = true → ∃ l, k l = true ∧ l.length = n ∧ ∀ i, i < n → t.getN (o + i) = l[i]? := by
  intro n
  induction n with
  | zero => intro o k h; exact ⟨[], h, rfl, fun i hi => by omega⟩
  | succ n ih =>
    intro o k h
    obtain ⟨v, hv, hk⟩ := orec (f := fun v => ldK t (o + 1) n fun vs => k (v :: vs)) (x := t.getN o) h
    obtain ⟨l, h1, h2, h3⟩ := ih hk
    refine ⟨v :: l, h1, by simp [h2], fun i hi => ?_⟩
    cases i with
    | zero => simpa using hv
    | succ i => have := h3 i (by omega); rw [show o + (i + 1) = o + 1 + i by omega, this]; rfl
theorem stK_ok {l : List AV} : ∀ {t : T AV} {o : Nat} {k : T AV → Bool}, stK t o l k = true → ∃ t', k t' = true ∧ ∀ m, t'.getN m = if o ≤ m ∧ m < o + l.length then l[m - o]? else t.getN m := by
  induction l with
  | nil => intro t o k h; exact ⟨t, h, fun m => by simp; intro _ _; omega⟩
  | cons v l ih =>
    intro t o k h
    obtain ⟨t1, h1, g1⟩ := T.setN_ok (t := t) (n := o) (v := v) (k := fun t => stK t (o + 1) l k) h
    obtain ⟨t2, h2, g2⟩ := ih h1
    refine ⟨t2, h2, fun m => ?_⟩
    rw [g2, g1]
    by_cases e : m = o
    · subst e
      have : ¬ (m + 1 ≤ m ∧ m < m + 1 + l.length) := by omega
      simp [this]
    · by_cases e1 : o + 1 ≤ m ∧ m < o + 1 + l.length
      · have e2 : o ≤ m ∧ m < o + (v :: l).length := by simp; omega
        rw [if_pos e1, if_pos e2, show m - o = (m - (o + 1)) + 1 by omega]; rfl
      · have e2 : ¬ (o ≤ m ∧ m < o + (v :: l).length) := by simp; omega
        rw [if_neg e1, if_neg e2, if_neg e]
theorem dropN_eq {α : Type} (n : Nat) : ∀ (l : List α), dropN n l = l.drop n := by
  induction n with
  | zero => intro l; rfl
  | succ n ih => intro l; cases l with | nil => rfl | cons x l => exact ih l
theorem headK_ok {α : Type} {l : List α} {k : α → Bool} (h : headK l k = true) : ∃ x r, l = x :: r ∧ k x = true := by
  cases l with
  | nil => cases h
  | cons x l => exact ⟨x, l, rfl, h⟩
theorem takeK_ok {α : Type} {n : Nat} : ∀ {l : List α} {k : List α → Bool}, takeK n l k = true → n ≤ l.length ∧ k (l.take n) = true := by
  induction n with
  | zero => intro l k h; exact ⟨Nat.zero_le _, h⟩
  | succ n ih =>
    intro l k h
    cases l with
    | nil => cases h
    | cons x l => obtain ⟨h1, h2⟩ := ih (l := l) (k := fun r => k (x :: r)) h; exact ⟨by simp; omega, h2⟩
theorem overK0_ok {vs : List AV} : ∀ {l : List AV} {k : List AV → Bool}, overK l 0 vs k = true → vs.length ≤ l.length ∧ k (vs ++ l.drop vs.length) = true := by
  induction vs with
  | nil => intro l k h; exact ⟨Nat.zero_le _, h⟩
  | cons v vs ih =>
    intro l k h
    cases l with
    | nil => cases h
    | cons x l => obtain ⟨h1, h2⟩ := ih (l := l) (k := fun r => k (v :: r)) h; exact ⟨by simp; omega, h2⟩
theorem overK_ok {o : Nat} : ∀ {l vs : List AV} {k : List AV → Bool}, overK l o vs k = true → o + vs.length ≤ l.length ∧ k (l.take o ++ (vs ++ l.drop (o + vs.length))) = true := by
  induction o with
  | zero => intro l vs k h; have := overK0_ok h; simpa using this
  | succ o ih =>
    intro l vs k h
    cases l with
    | nil => cases h
    | cons x l =>
      obtain ⟨h1, h2⟩ := ih (l := l) (k := fun r => k (x :: r)) h
      refine ⟨by simp; omega, ?_⟩
      rw [show o + 1 + vs.length = (o + vs.length) + 1 by omega]
      exact h2
theorem repK_aux {α : Type} (z : List α) (n : Nat) : ∀ (r : List α) (k : List α → Bool),
    Nat.rec (motive := fun _ => List α → (List α → Bool) → Bool) (fun r k => k r) (fun _ ih r k => ih (z ++ r) k) n r k = k ((List.replicate n z).flatten ++ r) := by
  induction n with
  | zero => intro r k; rfl
  | succ n ih =>
    intro r k
    refine (ih (z ++ r) k).trans ?_
    congr 1
    rw [List.replicate_succ', List.flatten_append]; simp
theorem repK_eq {α : Type} (z : List α) (n : Nat) (k : List α → Bool) : repK z n k = k (List.replicate n z).flatten := (repK_aux z n [] k).trans (by simp)
theorem buildT_aux {l : List AV} : ∀ {pre : List AV} {t : T AV} {k : Nat → T AV → Bool}, (∀ i, t.getN i = pre[i]?) →
    List.rec (motive := fun _ => Nat → T AV → (Nat → T AV → Bool) → Bool) (fun n t k => k n t)
      (fun v _ ih n t k => t.setN n v fun t => ih (Nat.succ n) t k) l pre.length t k = true →
    ∃ t', k (pre ++ l).length t' = true ∧ ∀ i, t'.getN i = (pre ++ l)[i]? := by
  induction l with
  | nil => intro pre t k hg h; exact ⟨t, by simpa using h, fun i => by simpa using hg i⟩
  | cons v l ih =>
    intro pre t k hg h
    obtain ⟨t1, h1, g1⟩ := T.setN_ok h
    have := ih (pre := pre ++ [v]) (t := t1) (k := k) (fun i => by
      rw [g1, hg]
      by_cases e : i = pre.length
      · subst e; simp
      · simp only [e, if_false]
        rcases Nat.lt_or_ge i pre.length with h | h
        · rw [List.getElem?_append_left h]
        · rw [List.getElem?_append_right h, List.getElem?_eq_none h]
          rw [List.getElem?_eq_none]; simp; omega) (by simpa using h1)
    simpa using this
theorem buildT_ok {l : List AV} {k : Nat → T AV → Bool} (h : buildT l k = true) : ∃ t, k l.length t = true ∧ ∀ i, t.getN i = l[i]? := by
  have := buildT_aux (l := l) (pre := []) (t := .e) (k := k) (fun i => by simp [T.getN_e]) h
  simpa using this
theorem memN_ok {n : Nat} {l : List Nat} (h : memN n l = true) : n ∈ l := by
  induction l with
  | nil => cases h
  | cons x l ih =>
    have h' : Bool.rec (motive := fun _ => Bool) (memN n l) true (Nat.beq n x) = true := h
    rw [brec] at h'
    split at h'
    · rename_i e; have : n = x := by simpa [Nat.beq_eq] using e
      simp [this]
    · exact List.mem_cons_of_mem _ (ih h')
theorem lookN_ok {n : Nat} {l : List Tb} {k : Nat → Bool} (h : lookN n l k = true) : ∃ f, (⟨n, f⟩ : Tb) ∈ l ∧ k f = true := by
  induction l with
  | nil => cases h
  | cons x l ih =>
    obtain ⟨a, b⟩ := x
    have h' : Bool.rec (motive := fun _ => Bool) (lookN n l k) (k b) (Nat.beq n a) = true := h
    rw [brec] at h'
    split at h'
    · rename_i e; have : n = a := by simpa [Nat.beq_eq] using e
      exact ⟨b, by simp [this], h'⟩
    · obtain ⟨f, h1, h2⟩ := ih h'
      exact ⟨f, List.mem_cons_of_mem _ h1, h2⟩
theorem memS_ok {s : String} {n : Nat} {l : List Ts} (h : memS s n l = true) : (⟨s, n⟩ : Ts) ∈ l := by
  induction l with
  | nil => cases h
  | cons x l ih =>
    obtain ⟨a, b⟩ := x
    have h' : Bool.rec (motive := fun _ => Bool) (memS s n l) (Bool.rec (motive := fun _ => Bool) (memS s n l) true (decide (s = a))) (Nat.beq n b) = true := h
    rw [brec, brec] at h'
    split at h'
    · rename_i e; have e : n = b := by simpa [Nat.beq_eq] using e
      split at h'
      · rename_i e2; have e2 : s = a := by simpa using e2
        simp [e, e2]
      · exact List.mem_cons_of_mem _ (ih h')
    · exact List.mem_cons_of_mem _ (ih h')
/-! destructors -/
section
variable {v : AV}
theorem onB_ok {k : Bool → Bool} (h : v.onB k = true) : ∃ b, v = .b b ∧ k b = true := by cases v <;> first | exact ⟨_, rfl, h⟩ | cases h
theorem onI_ok {k : IntKind → Int → Bool} (h : v.onI k = true) : ∃ j n, v = .i j n ∧ k j n = true := by cases v <;> first | exact ⟨_, _, rfl, h⟩ | cases h
theorem onS_ok {k : ByteArray → Bool} (h : v.onS k = true) : ∃ b, v = .s b ∧ k b = true := by cases v <;> first | exact ⟨_, rfl, h⟩ | cases h
theorem onP_ok {k : Ps → Nat → Nat → Bool} (h : v.onP k = true) : ∃ a o e, v = .p a o e ∧ k a o e = true := by cases v <;> first | exact ⟨_, _, _, rfl, h⟩ | cases h
theorem onM_ok {k : Ps → Bool} (h : v.onM k = true) : ∃ a, v = .m a ∧ k a = true := by cases v <;> first | exact ⟨_, rfl, h⟩ | cases h
theorem onF_ok {k : Fn → List AV → List AV → Bool} (h : v.onF k = true) : ∃ f a b, v = .f f a b ∧ k f a b = true := by cases v <;> first | exact ⟨_, _, _, rfl, h⟩ | cases h
theorem onIf_ok {kz : Bool} {k : Nat → AV → Bool} (h : v.onIf kz k = true) : (v = .iz ∧ kz = true) ∨ ∃ t x, v = .ifc t x ∧ k t x = true := by cases v <;> first | exact .inl ⟨rfl, h⟩ | exact .inr ⟨_, _, rfl, h⟩ | cases h
theorem onAgg_ok {k : List AV → Bool} (h : v.onAgg k = true) : ∃ l, v = .agg l ∧ k l = true := by cases v <;> first | exact ⟨_, rfl, h⟩ | cases h
theorem onTup_ok {k : List AV → Bool} (h : v.onTup k = true) : ∃ l, v = .tup l ∧ k l = true := by cases v <;> first | exact ⟨_, rfl, h⟩ | cases h
theorem onCells_ok {k : List AV → Bool} (h : v.onCells k = true) : (∃ l, v = .agg l ∧ k l = true) ∨ (v.one = true ∧ k [v] = true) := by cases v <;> first | exact .inl ⟨_, rfl, h⟩ | exact .inr ⟨rfl, h⟩ | cases h
theorem onSl_ok {kn : Bool} {ke : Nat → Bool} {ks : Ps → Nat → Nat → Nat → Nat → Bool} {ko : Ps → Nat → Nat → Nat → Bool} (h : v.onSl kn ke ks ko = true) :
    (v = .sn ∧ kn = true) ∨ (∃ s, v = .se s ∧ ke s = true) ∨ (∃ a s o n c, v = .sl a s o n c ∧ ks a s o n c = true) ∨ (∃ a s o n, v = .so a s o n ∧ ko a s o n = true) := by
  cases v <;> first
    | exact .inl ⟨rfl, h⟩
    | exact .inr (.inl ⟨_, rfl, h⟩)
    | exact .inr (.inr (.inl ⟨_, _, _, _, _, rfl, h⟩))
    | exact .inr (.inr (.inr ⟨_, _, _, _, rfl, h⟩))
    | cases h
theorem onNat_ok {v : Int} {k : Nat → Bool} (h : onNat v k = true) : ∃ n : Nat, v = n ∧ k n = true := by cases v <;> first | exact ⟨_, rfl, h⟩ | cases h
theorem onN_ok {k : Nat → Bool} (h : v.onN k = true) : ∃ j, ∃ n : Nat, v = .i j n ∧ k n = true := by
  obtain ⟨j, n, rfl, h⟩ := onI_ok h
  obtain ⟨n, rfl, h⟩ := onNat_ok h
  exact ⟨j, n, rfl, h⟩
end
theorem hC_ok {h : Hp} {a : Ps} {k : Nat → Bool → Nat → T AV → Bool} (e : hC h a k = true) : ∃ s g n t, h.get a = some (.c s g n t) ∧ k s g n t = true := by
  obtain ⟨ob, h1, h2⟩ := orec e
  cases ob <;> first | exact ⟨_, _, _, _, h1, h2⟩ | cases h2
theorem hM_ok {h : Hp} {a : Ps} {k : List ME → Nat → Bool} (e : hM h a k = true) : ∃ es c, h.get a = some (.m es c) ∧ k es c = true := by
  obtain ⟨ob, h1, h2⟩ := orec e
  cases ob <;> first | exact ⟨_, _, h1, h2⟩ | cases h2
theorem hSi_ok {h : Hp} {a : Ps} {k : ByteArray → Nat → Bool} (e : hSi h a k = true) : ∃ s p, h.get a = some (.si s p) ∧ k s p = true := by
  obtain ⟨ob, h1, h2⟩ := orec e
  cases ob <;> first | exact ⟨_, _, h1, h2⟩ | cases h2
/-! numbers -/
theorem kEq_ok {j k : IntKind} (h : kEq j k = true) : j = k := by cases j <;> cases k <;> first | rfl | cases h
theorem ieq_eq (a b : Int) : ieq a b = (a == b) := by
  rw [Bool.eq_iff_iff, beq_iff_eq]
  cases a with
  | ofNat a => cases b with
    | ofNat b => show Nat.beq a b = true ↔ _; rw [Nat.beq_eq]; exact ⟨fun h => by rw [h], fun h => by injection h⟩
    | negSucc b => exact ⟨(fun h => by cases h), (fun h => by cases h)⟩
  | negSucc a => cases b with
    | ofNat b => exact ⟨(fun h => by cases h), (fun h => by cases h)⟩
    | negSucc b => show Nat.beq a b = true ↔ _; rw [Nat.beq_eq]; exact ⟨fun h => by rw [h], fun h => by injection h⟩
theorem ilt_eq (a b : Int) : ilt a b = decide (a < b) := by
  rw [Bool.eq_iff_iff, decide_eq_true_iff]
  cases a with
  | ofNat a => cases b with
    | ofNat b => show Nat.ble (a + 1) b = true ↔ (a : Int) < (b : Int); rw [Nat.ble_eq]; omega
    | negSucc b => exact ⟨(fun h => by cases h), (fun h => by have h : (a : Int) < Int.negSucc b := h; omega)⟩
  | negSucc a => cases b with
    | ofNat b => exact ⟨(fun _ => by show Int.negSucc a < (b : Int); omega), fun _ => rfl⟩
    | negSucc b => show Nat.ble (b + 1) a = true ↔ _; rw [Nat.ble_eq]; omega
theorem wr_eq (k : IntKind) (v : Int) : wr k v = k.wrap v := by
  cases k <;> try rfl
  · cases v with
    | ofNat n =>
      show Bool.rec (motive := fun _ => Int) (IntKind.i64.wrap (.ofNat n)) (.ofNat n) (Nat.ble n 9223372036854775807) = _
      rw [brec]; split
      · rename_i h; have h : n ≤ 9223372036854775807 := Nat.le_of_ble_eq_true h
        exact (IntWalk.i64_in (n : Int) (by omega)).symm
      · rfl
    | negSucc n =>
      show Bool.rec (motive := fun _ => Int) (IntKind.i64.wrap (.negSucc n)) (.negSucc n) (Nat.ble n 9223372036854775807) = _
      rw [brec]; split
      · rename_i h; have h : n ≤ 9223372036854775807 := Nat.le_of_ble_eq_true h
        exact (IntWalk.i64_in (Int.negSucc n) (by omega)).symm
      · rfl
  · cases v with
    | ofNat n =>
      show Int.ofNat (n % 18446744073709551616) = IntKind.u64.wrap (n : Int)
      rw [IntKind.wrap_u64]; exact Int.natCast_emod n 18446744073709551616
    | negSucc n => rfl
end Go.Proofs.YtfiambjmphjjgaaGreatDoor.Ms
