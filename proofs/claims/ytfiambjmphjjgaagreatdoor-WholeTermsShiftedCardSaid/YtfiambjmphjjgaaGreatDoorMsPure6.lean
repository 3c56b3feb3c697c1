/- Part of a proof: a checked evaluator of the program (what trP gives does what the operation does). No condition. -/
import Derived.Test.YtfiambjmphjjgaaGreatDoorMsPure5
/-! what trP gives does what the operation does -/
noncomputable section
namespace Go.Proofs.YtfiambjmphjjgaaGreatDoor.Ms
set_option linter.unusedVariables false
set_option linter.unusedSimpArgs false
section
variable {P : Program} {cands : List Nat} {mnames : List String}
theorem trBin_ok {op : BinOp} {t z : TypeId} {x y : Operand} {d : DP} (h : trBin P op t x y = some d) : PvS P (.binOp op t x y z) (dP d) := by
  unfold trBin at h
  split at h
  · rename_i k hu
    split at h
    · rename_i a c ha
      obtain ⟨x', hx, h⟩ := obind h
      obtain ⟨y', hy, h⟩ := obind h
      injection h with h; subst h
      cases op <;> simp only [arOf] at ha <;> first
        | (injection ha with ha; subst ha; first
            | exact pv_ar hx hy ar_add | exact pv_ar hx hy ar_sub | exact pv_ar hx hy ar_mul | exact pv_ar hx hy ar_quo | exact pv_ar hx hy ar_rem | exact pv_ar hx hy ar_and | exact pv_ar hx hy ar_or
            | exact pv_ar hx hy ar_andn | exact pv_sh hx hy sh_shl | exact pv_sh hx hy sh_shr)
        | cases ha
    · rename_i c hc hcm
      obtain ⟨x', hx, h⟩ := obind h
      obtain ⟨y', hy, h⟩ := obind h
      injection h with h; subst h
      exact pv_cm hx hy (cm_all _ _ hc)
    · cases h
  · rename_i hu
    obtain ⟨ng, hn, h⟩ := obind h
    obtain ⟨x', hx, h⟩ := obind h
    obtain ⟨y', hy, h⟩ := obind h
    injection h with h; subst h
    exact pv_eqb hu hn hx hy
  · rename_i hu
    obtain ⟨ng, hn, h⟩ := obind h
    obtain ⟨x', hx, h⟩ := obind h
    obtain ⟨y', hy, h⟩ := obind h
    injection h with h; subst h
    exact pv_eqst hn hx hy
  · rename_i e hu
    obtain ⟨ng, hn, h⟩ := obind h
    obtain ⟨v, hv, h⟩ := obind h
    injection h with h; subst h
    exact pv_nil (nil_p hu) hn hv
  · rename_i e hu
    obtain ⟨ng, hn, h⟩ := obind h
    obtain ⟨v, hv, h⟩ := obind h
    injection h with h; subst h
    exact pv_nil (nil_s hu) hn hv
  · rename_i hu
    obtain ⟨ng, hn, h⟩ := obind h
    obtain ⟨v, hv, h⟩ := obind h
    injection h with h; subst h
    exact pv_nil (nil_f hu) hn hv
  · rename_i hu
    obtain ⟨ng, hn, h⟩ := obind h
    obtain ⟨v, hv, h⟩ := obind h
    injection h with h; subst h
    exact pv_nil (nil_i hu) hn hv
  · cases h
theorem byteK_ok {l : List UInt8} : ∀ {n : Nat} {k : UInt8 → Bool}, byteK l n k = true → ∃ b, l[n]? = some b ∧ k b = true := by
  induction l with
  | nil => intro n k h; cases h
  | cons b l ih =>
    intro n k h
    cases n with
    | zero => exact ⟨b, rfl, h⟩
    | succ n =>
      obtain ⟨c, h1, h2⟩ := ih (n := n) (k := k) h
      exact ⟨c, by simpa using h1, h2⟩
theorem bytes_at {s : ByteArray} {n : Nat} {b : UInt8} (h : s.data.toList[n]? = some b) : s[n]? = some b := by
  have h1 : n < s.data.toList.length := (List.getElem?_eq_some_iff.1 h).1
  have h2 : n < s.size := by simpa using h1
  rw [getElem?_pos s n h2]
  have h3 : s.data[n]'h2 = b := by
    have := (List.getElem?_eq_some_iff.1 h).2
    simpa using this
  exact congrArg some h3
theorem pv_sx {t : TypeId} {x i : Operand} {x' i' : O} (ht : P.underlying t = some .string) (hx' : trO x = some x') (hi' : trO i = some i') : PvS P (.index t x i) (p_sx (dO x') (dO i')) := by
  intro env k h
  obtain ⟨s, e1, h⟩ := onS_ok h
  obtain ⟨j, n, e2, h⟩ := onN_ok h
  obtain ⟨b, hb, h⟩ := byteK_ok h
  rw [fN_eq] at h
  refine ⟨_, h, fun g a w o ho hx => ?_⟩
  have h1 := hx x (by simp [Op.operands]) x' hx'
  have h2 := hx i (by simp [Op.operands]) i' hi'
  rw [e1] at h1
  rw [e2] at h2
  generalize hz : a.eval x = z at h1
  generalize hy : a.eval i = y at h2
  cases h1
  cases h2
  refine ⟨.int .u8 b.toNat, ?_, .i _ _⟩
  have hr : (Instr.index t (.string s) (.int j n)).run P w = .ok (.int .u8 b.toNat) w := by
    have h0 : (0 : Int) ≤ (n : Int) := by omega
    simp only [Instr.index, asIntOf, Sem.run_bind, Sem.run_pure, Result.andThen_ok, run_und ht, h0, if_true, Int.toNat_natCast, bytes_at hb]
  simp only [execOp, ho, hz, hy, Sem.run_bind, hr, Result.andThen_ok, Sem.run_pure]
theorem trP_ok {op : Op} {d : DP} (h : trP P cands mnames op = some d) : PvS P op (dP d) := by
  cases op with
  | move x => obtain ⟨y, hy, rfl⟩ := omap h; exact pv_mv (.inl rfl) hy
  | assign x => obtain ⟨y, hy, rfl⟩ := omap h; exact pv_mv (.inr rfl) hy
  | pick c a b =>
    obtain ⟨c', hc, h⟩ := obind h
    obtain ⟨a', ha, h⟩ := obind h
    obtain ⟨b', hb, h⟩ := obind h
    injection h with h; subst h
    exact pv_pick hc ha hb
  | build t ps => exact pv_bld h
  | binOp op t x y z => exact trBin_ok h
  | unOp op t x =>
    cases op with
    | not => obtain ⟨y, hy, rfl⟩ := omap h; exact pv_no hy
    | neg =>
      simp only [trP] at h
      split at h
      · obtain ⟨y, hy, rfl⟩ := omap h; exact pv_neg hy
      · cases h
    | _ => cases h
  | convert s t x =>
    simp only [trP] at h
    split at h
    · rename_i j k hs ht
      obtain ⟨y, hy, rfl⟩ := omap h
      exact pv_cv hs ht hy
    · cases h
  | makeInterface t x =>
    simp only [trP] at h
    split at h
    · cases h
    · cases h
    · rename_i hn h0
      cases hd : P.underlying t with
      | none => exact absurd hd h0
      | some d =>
        obtain ⟨y, hy, rfl⟩ := omap h
        exact pv_mi hd (fun m e => hn m (by rw [hd, e])) hy
  | makeFunc fn fs cs =>
    obtain ⟨fs', hf, h⟩ := obind h
    obtain ⟨cs', hc, h⟩ := obind h
    injection h with h; subst h
    exact pv_mf hf hc
  | slice t x lo hi mx =>
    simp only [trP] at h
    split at h
    · rename_i e ht
      obtain ⟨s, hs, h⟩ := obind h
      split at h
      · cases h
      · rename_i hb
        obtain ⟨x', hx, h⟩ := obind h
        obtain ⟨l, hl, h⟩ := obind h
        obtain ⟨hh, hh', h⟩ := obind h
        obtain ⟨m, hm, h⟩ := obind h
        injection h with h; subst h
        refine pv_slc ht hs ?_ hx hl hh' hm
        rintro ⟨h1, h2⟩
        apply hb
        cases hi <;> simp at h1
        simp [h2]
    · cases h
  | fieldAddr t x i =>
    simp only [trP] at h
    split at h
    · rename_i fs ht
      obtain ⟨f, hf, h⟩ := obind h
      obtain ⟨s, hs, h⟩ := obind h
      split at h
      · cases h
      · rename_i h0
        obtain ⟨y, hy, h⟩ := obind h
        injection h with h; subst h
        exact pv_fa ht hf hs h0 hy
    · cases h
  | field t x i =>
    simp only [trP] at h
    split at h
    · rename_i fs ht
      obtain ⟨f, hf, h⟩ := obind h
      obtain ⟨s, hs, h⟩ := obind h
      obtain ⟨y, hy, h⟩ := obind h
      obtain ⟨b, hb, h⟩ := obind h
      injection h with h; subst h
      cases b with
      | true => exact pv_flds ht hf hs hb hy
      | false => exact pv_fld ht hf hb hy
    · cases h
  | indexAddr t x i =>
    simp only [trP] at h
    split at h
    · rename_i e ht
      obtain ⟨s, hs, h⟩ := obind h
      split at h
      · cases h
      · obtain ⟨x', hx, h⟩ := obind h
        obtain ⟨i', hi, h⟩ := obind h
        injection h with h; subst h
        exact pv_ixs ht hs hx hi
    · rename_i n e ht
      obtain ⟨s, hs, h⟩ := obind h
      split at h
      · cases h
      · obtain ⟨x', hx, h⟩ := obind h
        obtain ⟨i', hi, h⟩ := obind h
        injection h with h; subst h
        exact pv_ixa ht hs hx hi
    · cases h
  | index t x i =>
    simp only [trP] at h
    split at h
    · rename_i n e ht
      split at h
      · rename_i hc
        simp only [Bool.and_eq_true, decide_eq_true_eq] at hc
        obtain ⟨x', hx, h⟩ := obind h
        obtain ⟨i', hi, h⟩ := obind h
        injection h with h; subst h
        exact pv_ixv ht hc.1 hc.2 hx hi
      · cases h
    · rename_i ht
      obtain ⟨x', hx, h⟩ := obind h
      obtain ⟨i', hi, h⟩ := obind h
      injection h with h; subst h
      exact pv_sx ht hx hi
    · cases h
  | typeAssert x xt b ok =>
    cases ok with
    | false => cases h
    | true =>
      simp only [trP] at h
      split at h
      · rename_i want hb
        split at h
        · rename_i hz
          obtain ⟨y, hy, h⟩ := obind h
          injection h with h; subst h
          exact pv_ta hb (by simpa using hz) hy (fun t ht => miss_yes (by simpa using (List.mem_filter.1 ht).2)) (fun t ht => miss_no (by simpa using (List.mem_filter.1 ht).2))
        · cases h
      · cases h
  | extract x i => obtain ⟨y, hy, rfl⟩ := omap h; exact pv_ext hy
  | nilCheck x => obtain ⟨y, hy, rfl⟩ := omap h; exact pv_nc hy
  | call c =>
    simp only [trP] at h
    split at h
    · rename_i hc
      split at h
      · rename_i x e ha ht
        obtain ⟨y, hy, rfl⟩ := omap h
        cases h0 : c.argTypes[0]? with
        | none => simp [h0] at ht
        | some t => exact pv_len hc ha h0 (by simpa [h0] using ht) hy
      · rename_i x ha ht
        obtain ⟨y, hy, rfl⟩ := omap h
        cases h0 : c.argTypes[0]? with
        | none => simp [h0] at ht
        | some t => exact pv_lens hc ha h0 (by simpa [h0] using ht) hy
      · cases h
    · rename_i hc
      split at h
      · rename_i x y ha
        obtain ⟨x', hx, h⟩ := obind h
        obtain ⟨y', hy, h⟩ := obind h
        injection h with h; subst h
        exact pv_mx hx hy ha true hc
      · cases h
    · rename_i hc
      split at h
      · rename_i x y ha
        obtain ⟨x', hx, h⟩ := obind h
        obtain ⟨y', hy, h⟩ := obind h
        injection h with h; subst h
        exact pv_mx hx hy ha false hc
      · cases h
    · cases h
  | _ => cases h
end
end Go.Proofs.YtfiambjmphjjgaaGreatDoor.Ms
