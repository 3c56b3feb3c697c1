/- Part of a proof: a checked evaluator of the program (math/bits.TrailingZeros64). No condition. -/
import Derived.Test.YtfiambjmphjjgaaGreatDoorMsExt
/-! math/bits.TrailingZeros64 -/
noncomputable section
namespace Go.Proofs.YtfiambjmphjjgaaGreatDoor.Ms
set_option linter.unusedVariables false
set_option linter.unusedSimpArgs false
section
variable {P : Program} {f : Nat} {fn : Func}
def tzG (m n : Nat) : Nat := Nat.rec (motive := fun _ => Nat → Nat) (fun _ => 0) (fun _ ih n => Bool.rec (Nat.succ (ih (Nat.div n 2))) 0 (Nat.beq (Nat.mod n 2) 1)) m n
theorem tzG_eq : ∀ (m n : Nat), tzG m n = Lib.ctzFrom m n := by
  intro m
  induction m with
  | zero => intro n; rfl
  | succ m ih =>
    intro n
    have h : tzG (m + 1) n = Bool.rec (motive := fun _ => Nat) (Nat.succ (tzG m (n / 2))) 0 (Nat.beq (n % 2) 1) := rfl
    rw [h, Lib.ctzFrom]
    by_cases e : n % 2 = 1
    · rw [e]; rfl
    · have : Nat.beq (n % 2) 1 = false := by
        cases hb : Nat.beq (n % 2) 1 with
        | false => rfl
        | true => exact absurd (Nat.eq_of_beq_eq_true hb) e
      rw [this, if_neg e, ih]
      exact Nat.add_comm _ 1
theorem tzM_eq (n : Nat) : tzM n = Lib.ctzFrom 64 n := tzG_eq 64 n
theorem ext_tz (hcall : ∀ args w, (callFunc f args).run P w = .ok (.enter f args) w)
    (h : ∀ x : Nat, 1 ≤ x → x < 18446744073709551616 → ∀ w, (∀ j, j < Lib.deBruijn64tab.length → w.cell? ⟨GL, j, none⟩ = some (.int .u8 (Lib.deBruijn64tab.getD j 0))) →
      Calls P f #[.int .u64 x] w fun e w' => e = .returned (.int .i64 (Lib.ctz 64 x)) ∧ w' = w) : ExtOK P f y_tz := by
  intro cf _ vs h' nx k hk
  unfold y_tz at hk
  split at hk
  · obtain ⟨j, z, e, hk⟩ := onI_ok hk
    obtain ⟨n, e2, hk⟩ := onNat_ok hk
    obtain ⟨p1, hk9⟩ := bfalse hk
    obtain ⟨p2, p3⟩ := and_ok p1
    obtain ⟨p4, p5⟩ := and_ok p3
    have p6 := kEq_ok p2
    have p7 : 1 ≤ n := Nat.le_of_ble_eq_true p4
    have p8 : n ≤ 18446744073709551615 := Nat.le_of_ble_eq_true p5
    subst p6; subst e2; subst e
    rw [fN_eq, tzM_eq] at hk9
    refine ⟨_, _, _, hk9, fun g us w hu hw => ?_⟩
    cases hu with
    | cons _ u _ us h3 h4 =>
      cases h4
      cases h3
      obtain ⟨_, o, q1, cc, el, fr, rfl, q2⟩ := hw.gl
      refine .inr ⟨f, _, hcall _ w, (h n p7 (by omega) w fun j hj => ?_).mono fun e w' he => ?_⟩
      · rw [cell_at q1]; exact q2 j hj
      · obtain ⟨rfl, rfl⟩ := he
        refine ⟨_, rfl, g, ?_, hw, .refl _ _ _⟩
        have : Lib.ctz 64 n = Lib.ctzFrom 64 n := by unfold Lib.ctz; rw [if_neg (by omega)]
        rw [this]
        exact .i _ _
  · cases hk
end
end Go.Proofs.YtfiambjmphjjgaaGreatDoor.Ms
