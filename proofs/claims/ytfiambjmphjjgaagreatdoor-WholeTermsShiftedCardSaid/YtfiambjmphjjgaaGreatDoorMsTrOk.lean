/- Part of a proof: a checked evaluator of the program (what trOp gives does what the operation does). No condition. -/
import Derived.Test.YtfiambjmphjjgaaGreatDoorMsMap
import Derived.Laws.LoneSync
/-! what trOp gives does what the operation does -/
noncomputable section
namespace Go.Proofs.YtfiambjmphjjgaaGreatDoor.Ms
set_option linter.unusedVariables false
set_option linter.unusedSimpArgs false
section
variable {P : Program} {cands : List Nat} {mnames : List String} {N : Nat}
theorem rd_up {s d t : TypeId} {x : Operand} {y : O} (hs : P.underlying s = some (.pointer t)) (hd : P.underlying d = some .unsafePointer) (hsz : (P.info? t).map (fun i => decide (i.size = 0)) = some false) (hy : trO x = some y) : RdS P (.convert s d x) (r_up (dO y)) := by
  intro env h k hk
  obtain ⟨a0, o0, e0, e, hk⟩ := onP_ok hk
  obtain ⟨s', sg, n, t', hg, hk⟩ := hC_ok hk
  obtain ⟨h1, hk⟩ := bfalse hk
  have h1 : 1 ≤ e0 := Nat.le_of_ble_eq_true h1
  obtain ⟨v, hv, hk⟩ := orec hk
  refine ⟨_, hk, fun g nx a w o ho hx hw => ?_⟩
  have h2 := hx x (by simp [Op.operands]) y hy
  have h3 := h2
  rw [e] at h2
  generalize hz : a.eval x = z at h2 h3
  cases h2 with
  | p c gx _ _ _ hc ha he =>
    subst ha
    obtain ⟨u, hu, _⟩ := hw.load1 hc hg (o := o0) (by omega) hv
    refine ⟨_, ?_, h3⟩
    simp only [execOp, ho, hz, Sem.run_bind, run_convert_to_unsafe hs hd hsz hu, Result.andThen_ok, Sem.run_pure]
theorem trR_ok {op : Op} {d : DR} (h : trR P op = some d) : RdS P op (dR d) := by
  cases op with
  | load t a =>
    obtain ⟨s, hs, h⟩ := obind h
    obtain ⟨a', ha, h⟩ := obind h
    obtain ⟨b, hb, h⟩ := obind h
    injection h with h; subst h
    cases b with
    | true => exact rd_ldn hb ha hs
    | false => exact rd_ld hb ha hs
  | convert a b x =>
    simp only [trR] at h
    split at h
    · rename_i e ha hb
      split at h
      · rename_i he
        split at h
        · obtain ⟨y, hy, rfl⟩ := omap h; exact rd_b2s ha hb he hy
        · cases h
      · cases h
    · rename_i t ha hb
      split at h
      · rename_i hsz
        obtain ⟨y, hy, rfl⟩ := omap h; exact rd_up ha hb hsz hy
      · cases h
    · cases h
  | lookup t x y ok =>
    simp only [trR] at h
    split at h
    · rename_i k e ht
      obtain ⟨z, hz, h⟩ := obind h
      obtain ⟨ky, hk, h⟩ := obind h
      obtain ⟨x', hx, h⟩ := obind h
      obtain ⟨y', hy, h⟩ := obind h
      injection h with h; subst h
      cases hi : P.info? e with
      | none => simp [hi] at hz
      | some i =>
        cases hzv : i.zero with
        | none => simp [hi, hzv] at hz
        | some zv => simp [hi, hzv] at hz; exact rd_lk ht hi hzv hz hk hx hy
    · cases h
  | call c =>
    simp only [trR] at h
    split at h
    · rename_i hc
      split at h
      · rename_i x k e ha ht
        obtain ⟨y, hy, rfl⟩ := omap h
        cases h0 : c.argTypes[0]? with
        | none => simp [h0] at ht
        | some t => exact rd_ml hc ha h0 (by simpa [h0] using ht) hy
      · cases h
    · cases h
  | _ => cases h
theorem trM_ok {op : Op} {d : DM} (h : trM P op = some d) : MkS P op (dM d) := by
  cases op with
  | alloc e =>
    obtain ⟨s, hs, h⟩ := obind h
    obtain ⟨z, hz, h⟩ := obind h
    injection h with h; subst h
    exact mk_al hs hz
  | box e v =>
    obtain ⟨s, hs, h⟩ := obind h
    split at h
    · cases h
    · obtain ⟨y, hy, h⟩ := obind h
      injection h with h; subst h
      exact mk_bx hy
  | buildSlice t len ps =>
    simp only [trM] at h
    split at h
    · rename_i e ht
      obtain ⟨s, hs, h⟩ := obind h
      split at h
      · cases h
      · rename_i hle
        obtain ⟨z, hz, h⟩ := obind h
        obtain ⟨r, hr, h⟩ := obind h
        injection h with h; subst h
        exact mk_bsl ht hs (by simpa using hle) hz hr
    · cases h
  | makeSlice t l c =>
    simp only [trM] at h
    split at h
    · rename_i e ht
      obtain ⟨i, hi, h⟩ := obind h
      split at h
      · cases h
      · rename_i hb
        obtain ⟨z, hz, h⟩ := obind h
        obtain ⟨l', hl, h⟩ := obind h
        obtain ⟨c', hc, h⟩ := obind h
        injection h with h; subst h
        exact mk_mks ht hi (by simpa using hb) hz hl hc
    · cases h
  | _ => cases h
theorem trA_ok {op : Op} {d : DA} (h : trA P cands op = some d) : AcS P op (dA d) := by
  cases op with
  | store t a v =>
    obtain ⟨s, hs, h⟩ := obind h
    obtain ⟨a', ha, h⟩ := obind h
    obtain ⟨v', hv, h⟩ := obind h
    obtain ⟨b, hb, h⟩ := obind h
    cases b with
    | true => injection h with h; subst h; exact ac_stn hs ha hv
    | false =>
      simp only [Bool.false_eq_true, if_false] at h
      split at h
      · rename_i h1
        injection h with h9; subst h9
        exact ac_st hb (hs.trans (by rw [h1])) ha hv
      · cases h
  | convert a b x =>
    simp only [trA] at h
    split at h
    · rename_i e1 e ha hb
      split at h
      · rename_i he
        split at h
        · rename_i hab
          have hab : a = b := by simpa using hab
          subst hab
          obtain ⟨y, hy, rfl⟩ := omap h
          exact ac_mkb hb he hy
        · cases h
      · cases h
    · cases h
  | makeMap t r =>
    cases r with
    | none =>
      simp only [trA] at h
      split at h
      · rename_i k e ht
        injection h with h; subst h
        exact ac_mkm ht
      · cases h
    | some _ => cases h
  | mapUpdate t m k v =>
    simp only [trA] at h
    split at h
    · rename_i kt e ht
      obtain ⟨ky, hk, h⟩ := obind h
      obtain ⟨m', hm, h⟩ := obind h
      obtain ⟨k', hk', h⟩ := obind h
      obtain ⟨v', hv, h⟩ := obind h
      injection h with h; subst h
      exact ac_mu ht hk hm hk' hv
    · cases h
  | range t x =>
    simp only [trA] at h
    split at h
    · rename_i ht
      obtain ⟨y, hy, rfl⟩ := omap h
      exact ac_rgs ht hy
    · cases h
  | next x str =>
    cases str with
    | true => obtain ⟨y, hy, rfl⟩ := omap h; exact ac_nxs hy
    | false => cases h
  | call c =>
    simp only [trA] at h
    split at h
    · rename_i f hc
      obtain ⟨ys, hy, h⟩ := obind h
      injection h with h; subst h
      exact ac_call hc hy
    · rename_i x hne hc
      obtain ⟨x', hx, h⟩ := obind h
      obtain ⟨ys, hy, h⟩ := obind h
      injection h with h; subst h
      exact ac_callv hc hx hy
    · rename_i r name hc
      obtain ⟨x', hx, h⟩ := obind h
      obtain ⟨ys, hy, h⟩ := obind h
      injection h with h; subst h
      exact ac_inv hc hx hy
    · rename_i hc
      split at h
      · rename_i x y k e ha ht
        obtain ⟨ky, hk, h⟩ := obind h
        obtain ⟨x', hx, h⟩ := obind h
        obtain ⟨y', hy, h⟩ := obind h
        injection h with h; subst h
        cases h0 : c.argTypes[0]? with
        | none => simp [h0] at ht
        | some t => exact ac_del hc ha h0 (by simpa [h0] using ht) hk hx hy
      · cases h
    · rename_i hc
      split at h
      · rename_i x y t u ha hat
        split at h
        · rename_i e e' ht hu
          obtain ⟨i, hi, h⟩ := obind h
          obtain ⟨z, hz, h⟩ := obind h
          split at h
          · cases h
          · rename_i hb
            obtain ⟨x', hx, h⟩ := obind h
            obtain ⟨y', hy, h⟩ := obind h
            injection h with h; subst h
            simp at hb
            exact ac_app hc ha hat ht hu hi hz (by omega) hx hy
        · cases h
      · cases h
    · cases h
  | _ => cases h
/-- an operation, whatever it is -/
theorem trOp_ok {op : Op} {d : DOp} (h : trOp P cands mnames op = some d) :
    (∃ x, d = .p x ∧ PvS P op (dP x)) ∨ (∃ x, d = .r x ∧ RdS P op (dR x)) ∨ (∃ x, d = .m x ∧ MkS P op (dM x)) ∨ (∃ x, d = .a x ∧ AcS P op (dA x)) := by
  unfold trOp at h
  split at h
  · rename_i x hx; injection h with h; subst h; exact .inl ⟨x, rfl, trP_ok hx⟩
  · split at h
    · rename_i x hx; injection h with h; subst h; exact .inr (.inl ⟨x, rfl, trR_ok hx⟩)
    · split at h
      · rename_i x hx; injection h with h; subst h; exact .inr (.inr (.inl ⟨x, rfl, trM_ok hx⟩))
      · split at h
        · rename_i x hx; injection h with h; subst h; exact .inr (.inr (.inr ⟨x, rfl, trA_ok hx⟩))
        · injection h with h; subst h; exact .inl ⟨.bad, rfl, fun env k hk => by cases hk⟩
end
end Go.Proofs.YtfiambjmphjjgaaGreatDoor.Ms
