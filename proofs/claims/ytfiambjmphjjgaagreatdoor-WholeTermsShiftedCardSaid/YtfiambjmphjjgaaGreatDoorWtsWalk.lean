/- Part of a proof of WholeTermsShifted: the walks of the functions of package place, and of the law behind its fixed facts. Condition: what wakes33 does is told. -/
import Derived.Test.YtfiambjmphjjgaaGreatDoorProg
import Derived.WalkKit
import Derived.WalkSpells
import Derived.IntWalk
import Derived.Laws.Bits64b
import Derived.Shelf.Spec.TrailingZeros
namespace Go.Proofs.YtfiambjmphjjgaaGreatDoor.wts
set_option linter.unusedVariables false
set_option linter.unusedSimpArgs false
open Go.RowKit
def cntI (t i : Int) : Int := IntKind.u32.wrap (IntKind.u32.wrap t - IntKind.u32.wrap i)
set_option maxHeartbeats 400000 in
theorem cnt_any (t i : Int) (w : World) : Calls Tryz.prog 7 #[.int .i32 t, .int .i32 i] w fun e w' => e = .returned (.int .u32 (cntI t i)) ∧ w = w' := by
  go_enter Tryz.func7, Tryz.ntmps7
  go_wp2
  go_ret
  exact ⟨rfl, rfl⟩
def isPow (n : Int) : Bool := decide (0 < n) && (bits .and .i64 n (wrap64 (n - 1)) == 0)
theorem pow_hi {n : Int} (h : 0 < n) : isPow n = (bits .and .i64 n (wrap64 (n - 1)) == 0) := by unfold isPow; simp [h]
theorem pow_lo {n : Int} (h : ¬ 0 < n) : isPow n = false := by unfold isPow; rw [decide_eq_false h]; rfl
set_option maxHeartbeats 400000 in
theorem pow_any (n : Int) (w : World) : Calls Tryz.prog 67 #[.int .i64 n] w fun e w' => e = .returned (.bool (isPow n)) ∧ w = w' := by
  by_cases h : 0 < n
  · rw [pow_hi h]
    go_enter Tryz.func67, Tryz.ntmps67
    go_wp2
    go_ret
    exact ⟨rfl, rfl⟩
  · rw [pow_lo h]
    go_enter Tryz.func67, Tryz.ntmps67
    go_wp2
    go_ret
    exact ⟨rfl, rfl⟩
def isTermB (n : Int) : Bool := isPow n && decide (256 ≤ n) && decide (n ≤ 8192)
set_option maxHeartbeats 400000 in
theorem term_any (n : Int) (w : World) : Calls Tryz.prog 27 #[.int .i64 n] w fun e w' => e = .returned (.bool (isTermB n)) ∧ w = w' := by
  cases h : isPow n with
  | false =>
    have e : isTermB n = false := by unfold isTermB; rw [h]; rfl
    rw [e]
    have hp := pow_any n w
    rw [h] at hp
    go_enter Tryz.func27, Tryz.ntmps27
    go_wp2_with (go_at_call 67; refine hp.mono ?_; rintro e w' ⟨rfl, rfl⟩)
    go_ret
    exact ⟨rfl, rfl⟩
  | true =>
    have hp := pow_any n w
    rw [h] at hp
    by_cases h1 : 256 ≤ n
    · have e : isTermB n = decide (n ≤ 8192) := by unfold isTermB; rw [h, decide_eq_true h1]; rfl
      rw [e]
      go_enter Tryz.func27, Tryz.ntmps27
      go_wp2_with (go_at_call 67; refine hp.mono ?_; rintro e w' ⟨rfl, rfl⟩)
      go_ret
      exact ⟨rfl, rfl⟩
    · have e : isTermB n = false := by unfold isTermB; rw [h, decide_eq_false h1]; rfl
      rw [e]
      go_enter Tryz.func27, Tryz.ntmps27
      go_wp2_with (go_at_call 67; refine hp.mono ?_; rintro e w' ⟨rfl, rfl⟩)
      go_ret
      exact ⟨rfl, rfl⟩
/-- may a position be told -/
def posB (c o s : Int) : Bool := isTermB s && decide (0 ≤ o) && decide (o ≤ s) && decide (c < 2147483648)
def posV (c o s : Int) : Int := wrap64 (wrap64 (wrap64 c * s) + o)
set_option maxHeartbeats 400000 in
theorem pos_good (t i o s : Int) (w : World) (h1 : isTermB s = true) (h2 : 0 ≤ o) (h3 : o ≤ s) (h4 : cntI t i < 2147483648) : Calls Tryz.prog 5 #[.int .i32 t, .int .i32 i, .int .i64 o, .int .i64 s] w fun e w' => e = .returned (.tuple #[.int .i64 (posV (cntI t i) o s), .int .i64 0]) ∧ w = w' := by
  have hp := term_any s
  rw [h1] at hp
  generalize hc : cntI t i = c at h4
  have hq := cnt_any t i
  rw [hc] at hq
  clear h1 hc
  go_enter Tryz.func5, Tryz.ntmps5
  go_wp2_with (first | (go_at_call 27; refine (hp _).mono ?_; rintro e w' ⟨rfl, rfl⟩) | (go_at_call 7; refine (hq _).mono ?_; rintro e w' ⟨rfl, rfl⟩))
  go_ret2
  exact ⟨rfl, rfl⟩
set_option maxHeartbeats 400000 in
theorem pos_bad1 (t i o s : Int) (w : World) (h1 : isTermB s = false) : Calls Tryz.prog 5 #[.int .i32 t, .int .i32 i, .int .i64 o, .int .i64 s] w fun e w' => e = .returned (.tuple #[.int .i64 0, .int .i64 1]) ∧ w = w' := by
  have hp := term_any s
  rw [h1] at hp
  generalize hc : cntI t i = c
  have hq := cnt_any t i
  rw [hc] at hq
  clear h1 hc
  go_enter Tryz.func5, Tryz.ntmps5
  go_wp2_with (first | (go_at_call 27; refine (hp _).mono ?_; rintro e w' ⟨rfl, rfl⟩) | (go_at_call 7; refine (hq _).mono ?_; rintro e w' ⟨rfl, rfl⟩))
  go_ret2
  exact ⟨rfl, rfl⟩
set_option maxHeartbeats 400000 in
theorem pos_bad2 (t i o s : Int) (w : World) (h1 : isTermB s = true) (h2 : o < 0) : Calls Tryz.prog 5 #[.int .i32 t, .int .i32 i, .int .i64 o, .int .i64 s] w fun e w' => e = .returned (.tuple #[.int .i64 0, .int .i64 1]) ∧ w = w' := by
  have hp := term_any s
  rw [h1] at hp
  generalize hc : cntI t i = c
  have hq := cnt_any t i
  rw [hc] at hq
  clear h1 hc
  go_enter Tryz.func5, Tryz.ntmps5
  go_wp2_with (first | (go_at_call 27; refine (hp _).mono ?_; rintro e w' ⟨rfl, rfl⟩) | (go_at_call 7; refine (hq _).mono ?_; rintro e w' ⟨rfl, rfl⟩))
  go_ret2
  exact ⟨rfl, rfl⟩
set_option maxHeartbeats 400000 in
theorem pos_bad3 (t i o s : Int) (w : World) (h1 : isTermB s = true) (h2 : 0 ≤ o) (h3 : s < o) : Calls Tryz.prog 5 #[.int .i32 t, .int .i32 i, .int .i64 o, .int .i64 s] w fun e w' => e = .returned (.tuple #[.int .i64 0, .int .i64 1]) ∧ w = w' := by
  have hp := term_any s
  rw [h1] at hp
  generalize hc : cntI t i = c
  have hq := cnt_any t i
  rw [hc] at hq
  clear h1 hc
  go_enter Tryz.func5, Tryz.ntmps5
  go_wp2_with (first | (go_at_call 27; refine (hp _).mono ?_; rintro e w' ⟨rfl, rfl⟩) | (go_at_call 7; refine (hq _).mono ?_; rintro e w' ⟨rfl, rfl⟩))
  go_ret2
  exact ⟨rfl, rfl⟩
set_option maxHeartbeats 400000 in
theorem pos_bad4 (t i o s : Int) (w : World) (h1 : isTermB s = true) (h2 : 0 ≤ o) (h3 : o ≤ s) (h4 : 2147483648 ≤ cntI t i) : Calls Tryz.prog 5 #[.int .i32 t, .int .i32 i, .int .i64 o, .int .i64 s] w fun e w' => e = .returned (.tuple #[.int .i64 0, .int .i64 1]) ∧ w = w' := by
  have hp := term_any s
  rw [h1] at hp
  generalize hc : cntI t i = c at h4
  have hq := cnt_any t i
  rw [hc] at hq
  clear h1 hc
  go_enter Tryz.func5, Tryz.ntmps5
  go_wp2_with (first | (go_at_call 27; refine (hp _).mono ?_; rintro e w' ⟨rfl, rfl⟩) | (go_at_call 7; refine (hq _).mono ?_; rintro e w' ⟨rfl, rfl⟩))
  go_ret2
  exact ⟨rfl, rfl⟩
def pV (c o s : Int) : Int := if posB c o s then posV c o s else 0
def pE (c o s : Int) : Int := if posB c o s then 0 else 1
theorem pos_any (t i o s : Int) (w : World) : Calls Tryz.prog 5 #[.int .i32 t, .int .i32 i, .int .i64 o, .int .i64 s] w fun e w' => e = .returned (.tuple #[.int .i64 (pV (cntI t i) o s), .int .i64 (pE (cntI t i) o s)]) ∧ w = w' := by
  cases h1 : isTermB s with
  | false =>
    have e : posB (cntI t i) o s = false := by unfold posB; rw [h1]; rfl
    unfold pV pE; rw [e]; exact pos_bad1 t i o s w h1
  | true =>
    by_cases h2 : 0 ≤ o
    · by_cases h3 : o ≤ s
      · by_cases h4 : cntI t i < 2147483648
        · have e : posB (cntI t i) o s = true := by unfold posB; rw [h1, decide_eq_true h2, decide_eq_true h3, decide_eq_true h4]; rfl
          unfold pV pE; rw [e]; exact pos_good t i o s w h1 h2 h3 h4
        · have e : posB (cntI t i) o s = false := by unfold posB; rw [decide_eq_false h4, Bool.and_false]
          unfold pV pE; rw [e]; exact pos_bad4 t i o s w h1 h2 h3 (by omega)
      · have e : posB (cntI t i) o s = false := by unfold posB; rw [decide_eq_false h3, Bool.and_false, Bool.false_and]
        unfold pV pE; rw [e]; exact pos_bad3 t i o s w h1 h2 (by omega)
    · have e : posB (cntI t i) o s = false := by unfold posB; rw [decide_eq_false h2, Bool.and_false, Bool.false_and, Bool.false_and]
      unfold pV pE; rw [e]; exact pos_bad2 t i o s w h1 (by omega)
/-! Term -/
theorem maxp_lo (s : Int) (w : World) (h1 : isTermB s = false) : Calls Tryz.prog 68 #[.int .i64 s] w fun e w' => e = .returned (.int .i64 0) ∧ w = w' := by
  have hp := term_any s
  rw [h1] at hp
  clear h1
  go_enter Tryz.func68, Tryz.ntmps68
  go_wp2_with (first | (go_at_call 27; refine (hp _).mono ?_; rintro e w' ⟨rfl, rfl⟩))
  go_ret
  exact ⟨rfl, rfl⟩
theorem maxp_hi (s : Int) (w : World) (h1 : isTermB s = true) : Calls Tryz.prog 68 #[.int .i64 s] w fun e w' => e = .returned (.int .i64 (wrap64 (s * 2147483648))) ∧ w = w' := by
  have hp := term_any s
  rw [h1] at hp
  clear h1
  go_enter Tryz.func68, Tryz.ntmps68
  go_wp2_with (first | (go_at_call 27; refine (hp _).mono ?_; rintro e w' ⟨rfl, rfl⟩))
  go_ret
  exact ⟨rfl, rfl⟩
def maxP (s : Int) : Int := if isTermB s then wrap64 (s * 2147483648) else 0
theorem maxp_any (s : Int) (w : World) : Calls Tryz.prog 68 #[.int .i64 s] w fun e w' => e = .returned (.int .i64 (maxP s)) ∧ w = w' := by
  unfold maxP
  cases h1 : isTermB s with
  | false => exact maxp_lo s w h1
  | true => exact maxp_hi s w h1
def isW (p s : Int) : Bool := decide (0 ≤ p) && decide (p < maxP s)
set_option maxHeartbeats 400000 in
theorem within_any (p s : Int) (w : World) : Calls Tryz.prog 28 #[.int .i64 p, .int .i64 s] w fun e w' => e = .returned (.bool (isW p s)) ∧ w = w' := by
  have hp := maxp_any s
  generalize hm : maxP s = m at hp
  by_cases h : 0 ≤ p
  · have e : isW p s = decide (p < m) := by unfold isW; rw [decide_eq_true h, hm]; rfl
    rw [e]
    clear hm e
    go_enter Tryz.func28, Tryz.ntmps28
    go_wp2_with (go_at_call 68; refine (hp _).mono ?_; rintro e w' ⟨rfl, rfl⟩)
    go_ret
    exact ⟨rfl, rfl⟩
  · have e : isW p s = false := by unfold isW; rw [decide_eq_false h]; rfl
    rw [e]
    clear hm e
    go_enter Tryz.func28, Tryz.ntmps28
    go_wp2_with (go_at_call 68; refine (hp _).mono ?_; rintro e w' ⟨rfl, rfl⟩)
    go_ret
    exact ⟨rfl, rfl⟩
set_option maxHeartbeats 400000 in
theorem term_bad (p i s : Int) (w : World) (h : isW p s = false) : Calls Tryz.prog 6 #[.int .i64 p, .int .i32 i, .int .i64 s] w fun e w' => e = .returned (.tuple #[.int .i32 0, .int .i64 1]) ∧ w = w' := by
  have hp := within_any p s
  rw [h] at hp
  clear h
  go_enter Tryz.func6, Tryz.ntmps6
  go_wp2_with (go_at_call 28; refine (hp _).mono ?_; rintro e w' ⟨rfl, rfl⟩)
  go_ret2
  exact ⟨rfl, rfl⟩
set_option maxHeartbeats 400000 in
theorem log_good (n : Nat) (k : Nat) (w : World) (h : isPow n = true) (hT : Calls Tryz.prog 69 #[.int .u64 n] w fun e w' => e = .returned (.int .i64 k) ∧ w' = w) (hn : n ≤ 8192) : Calls Tryz.prog 29 #[.int .i64 n] w fun e w' => e = .returned (.tuple #[.int .i64 k, .bool true]) ∧ w = w' := by
  have hp := pow_any n
  rw [h] at hp
  clear h
  go_enter Tryz.func29, Tryz.ntmps29
  go_wp2_with (first | (go_at_call 67; refine (hp _).mono ?_; rintro e w' ⟨rfl, rfl⟩) | (go_at_call 69; refine hT.mono ?_; rintro e w' ⟨rfl, rfl⟩))
  go_ret2
  exact ⟨rfl, rfl⟩
set_option maxHeartbeats 400000 in
theorem term_good (p i s : Int) (k : Nat) (w : World) (h : isW p s = true) (hk : k < 64) (hL : Calls Tryz.prog 29 #[.int .i64 s] w fun e w' => e = .returned (.tuple #[.int .i64 k, .bool true]) ∧ w = w') : Calls Tryz.prog 6 #[.int .i64 p, .int .i32 i, .int .i64 s] w fun e w' => e = .returned (.tuple #[.int .i32 (wrap32 ((i + p / 2 ^ k) % 4294967296)), .int .i64 0]) ∧ w = w' := by
  have hp := within_any p s
  rw [h] at hp
  clear h
  go_enter Tryz.func6, Tryz.ntmps6
  go_wp2_with (first | (go_at_call 28; refine (hp _).mono ?_; rintro e w' ⟨rfl, rfl⟩) | (go_at_call 29; refine hL.mono ?_; rintro e w' ⟨rfl, rfl⟩))
  go_ret2
  exact ⟨rfl, rfl⟩
def packV (t o : Int) : Int := bits BinOp.or IntKind.u64 (t % 4294967296 * 4294967296) (IntKind.u64.wrap o)
set_option maxHeartbeats 400000 in
theorem pack_any (t o : Int) (w : World) : Calls Tryz.prog 9 #[.int .i32 t, .int .u32 o] w fun e w' => e = .returned (.int .u64 (packV t o)) ∧ w = w' := by
  go_enter Tryz.func9, Tryz.ntmps9
  go_wp2
  go_ret
  exact ⟨rfl, rfl⟩
set_option maxHeartbeats 400000 in
theorem unpack_any (r : Int) (w : World) : Calls Tryz.prog 8 #[.int .u64 r] w fun e w' => e = .returned (.tuple #[.int .i32 (wrap32 (r / 4294967296 % 4294967296)), .int .u32 (r % 4294967296)]) ∧ w = w' := by
  go_enter Tryz.func8, Tryz.ntmps8
  go_wp2
  go_ret2
  exact ⟨rfl, rfl⟩
theorem packV_eq (t o : Int) (h0 : 0 ≤ o) (h1 : o < 4294967296) : packV t o = t % 4294967296 * 4294967296 + o := by
  unfold packV
  obtain ⟨a, ha⟩ : ∃ a : Nat, t % 4294967296 = a := ⟨(t % 4294967296).toNat, by omega⟩
  obtain ⟨b, rfl⟩ : ∃ b : Nat, o = b := ⟨o.toNat, by omega⟩
  have e1 : IntKind.u64.wrap (b : Int) = (b : Int) := by rw [IntKind.wrap_u64]; omega
  have e2 : (a : Int) * 4294967296 = ((a * 4294967296 : Nat) : Int) := by omega
  have ha2 : a < 4294967296 := by omega
  rw [ha, e1, e2, bits_or_u64_nat _ _ (by omega) (by omega)]
  have : a * 4294967296 ||| b = a * 4294967296 + b := by
    have := Nat.two_pow_add_eq_or_of_lt (i := 32) (b := b) (by omega) a
    rw [Nat.mul_comm]
    simpa using this.symm
  rw [this]
  omega
theorem cnt_shift (t i b : Int) : cntI (wrap32 (t + b)) (wrap32 (i + b)) = cntI t i := by
  unfold cntI wrap32; simp only [wrap_u32']; omega
theorem pow_pos_of {s : Int} (h : isTermB s = true) : isPow s = true ∧ 256 ≤ s ∧ s ≤ 8192 := by
  unfold isTermB at h
  simp only [Bool.and_eq_true, decide_eq_true_eq] at h
  exact ⟨h.1.1, h.1.2, h.2⟩
theorem isW_term {p s : Int} (h : isW p s = true) : isTermB s = true := by
  unfold isW maxP at h
  cases hs : isTermB s with
  | true => rfl
  | false => rw [hs] at h; simp at h; omega
theorem unpack_pack (t o : Int) (h0 : 0 ≤ o) (h1 : o < 4294967296) (w : World) : Calls Tryz.prog 8 #[.int .u64 (packV t o)] w fun e w' => e = .returned (.tuple #[.int .i32 (wrap32 t), .int .u32 o]) ∧ w = w' := by
  have h := unpack_any (packV t o) w
  have e := packV_eq t o h0 h1
  have e1 : wrap32 (packV t o / 4294967296 % 4294967296) = wrap32 t := by rw [e]; unfold wrap32; omega
  have e2 : packV t o % 4294967296 = o := by rw [e]; omega
  rw [e1, e2] at h
  exact h
set_option maxRecDepth 100000 in
set_option maxHeartbeats 1000000 in
theorem law_bad (t i o s p b : Int) (w : World) (Q : World → Prop) (hw : Calls Tryz.prog 4 #[] w fun e w' => e = .returned (.bool true) ∧ Q w') (hW : isW p s = false) :
    Calls Tryz.prog 3 #[.int .i32 t, .int .i32 i, .int .i64 o, .int .i64 s, .int .i64 p, .int .i32 b] w fun e w' => e = .returned (.bool true) ∧ Q w' := by
  have hp1 := pos_any t i o s
  have hp2 := pos_any (wrap32 (t + b)) (wrap32 (i + b)) o s
  rw [cnt_shift] at hp2
  have hq1 := cnt_any t i
  have hq2 := cnt_any (wrap32 (t + b)) (wrap32 (i + b))
  rw [cnt_shift] at hq2
  generalize pV (cntI t i) o s = pv at hp1 hp2
  generalize pE (cntI t i) o s = pe at hp1 hp2
  generalize cntI t i = c at hq1 hq2
  have ht1 := fun w => term_bad p i s w hW
  have ht2 := fun w => term_bad p (wrap32 (i + b)) s w hW
  have hk1 := pack_any (wrap32 (t + b)) (o % 4294967296)
  have hu1 := unpack_pack (wrap32 (t + b)) (o % 4294967296) (by omega) (by omega)
  have e1 : wrap32 (wrap32 (t + b)) = wrap32 (t + b) := by unfold wrap32; omega
  rw [e1] at hu1
  generalize packV (wrap32 (t + b)) (o % 4294967296) = pk at hk1 hu1
  clear e1 hW
  go_enter Tryz.func3, Tryz.ntmps3
  go_wp2_with (first | (go_at_call 4; ((with_reducible refine hw.mono ?_); rintro e w1 ⟨rfl, hQ⟩)) | (go_at_call 5; ((with_reducible refine (hp1 _).mono ?_); rintro e w' ⟨rfl, rfl⟩)) | (go_at_call 5; ((with_reducible refine (hp2 _).mono ?_); rintro e w' ⟨rfl, rfl⟩)) | (go_at_call 6; ((with_reducible refine (ht1 _).mono ?_); rintro e w' ⟨rfl, rfl⟩)) | (go_at_call 6; ((with_reducible refine (ht2 _).mono ?_); rintro e w' ⟨rfl, rfl⟩)) | (go_at_call 7; ((with_reducible refine (hq1 _).mono ?_); rintro e w' ⟨rfl, rfl⟩)) | (go_at_call 7; ((with_reducible refine (hq2 _).mono ?_); rintro e w' ⟨rfl, rfl⟩)) | (go_at_call 9; ((with_reducible refine (hk1 _).mono ?_); rintro e w' ⟨rfl, rfl⟩)) | (go_at_call 8; ((with_reducible refine (hu1 _).mono ?_); rintro e w' ⟨rfl, rfl⟩)))
  go_ret
  exact ⟨rfl, hQ⟩
set_option maxRecDepth 100000 in
set_option maxHeartbeats 1000000 in
theorem law_good (t i o s p b : Int) (w : World) (Q : World → Prop) (hw : Calls Tryz.prog 4 #[] w fun e w' => e = .returned (.bool true) ∧ Q w') (hW : isW p s = true) (hT : ∀ w1, Q w1 → ∀ n : Nat, 1 ≤ n → n < 18446744073709551616 → Calls Tryz.prog 69 #[.int .u64 n] w1 fun e w' => e = .returned (.int .i64 (Lib.ctz 64 n)) ∧ w' = w1) :
    Calls Tryz.prog 3 #[.int .i32 t, .int .i32 i, .int .i64 o, .int .i64 s, .int .i64 p, .int .i32 b] w fun e w' => e = .returned (.bool true) ∧ Q w' := by
  have hp1 := pos_any t i o s
  have hp2 := pos_any (wrap32 (t + b)) (wrap32 (i + b)) o s
  rw [cnt_shift] at hp2
  have hq1 := cnt_any t i
  have hq2 := cnt_any (wrap32 (t + b)) (wrap32 (i + b))
  rw [cnt_shift] at hq2
  generalize pV (cntI t i) o s = pv at hp1 hp2
  generalize pE (cntI t i) o s = pe at hp1 hp2
  generalize cntI t i = c at hq1 hq2
  obtain ⟨hs1, hs2, hs3⟩ := pow_pos_of (isW_term hW)
  obtain ⟨n, rfl⟩ : ∃ n : Nat, s = n := ⟨s.toNat, by omega⟩
  have hk : Lib.ctz 64 n < 64 := (Lib.lowest_bit 64 n (by omega) (by omega)).2
  have hL := fun w1 (hQ : Q w1) => log_good n (Lib.ctz 64 n) w1 hs1 (hT w1 hQ n (by omega) (by omega)) (by omega)
  generalize Lib.ctz 64 n = k at hk hL
  have ht1 := fun w1 (hQ : Q w1) => term_good p i n k w1 hW hk (hL w1 hQ)
  have ht2 := fun w1 (hQ : Q w1) => term_good p (wrap32 (i + b)) n k w1 hW hk (hL w1 hQ)
  generalize p / 2 ^ k = q at ht1 ht2
  have f1 : wrap32 (wrap32 ((i + q) % 4294967296) + b) = wrap32 ((wrap32 (i + b) + q) % 4294967296) := by unfold wrap32; omega
  have f2 : (wrap32 (wrap32 ((i + q) % 4294967296) + b) == wrap32 ((wrap32 (i + b) + q) % 4294967296)) = true := by rw [f1]; simp
  have f3 : (wrap32 (wrap32 ((i + q) % 4294967296) + b) != wrap32 ((wrap32 (i + b) + q) % 4294967296)) = false := by rw [f1]; simp
  generalize wrap32 ((wrap32 (i + b) + q) % 4294967296) = y at ht2 f2 f3
  generalize wrap32 ((i + q) % 4294967296) = x at ht1 f2 f3
  clear f1 hL hk hs1 hs2 hs3 hT
  have hk1 := pack_any (wrap32 (t + b)) (o % 4294967296)
  have hu1 := unpack_pack (wrap32 (t + b)) (o % 4294967296) (by omega) (by omega)
  have e1 : wrap32 (wrap32 (t + b)) = wrap32 (t + b) := by unfold wrap32; omega
  rw [e1] at hu1
  generalize packV (wrap32 (t + b)) (o % 4294967296) = pk at hk1 hu1
  clear e1 hW
  go_enter Tryz.func3, Tryz.ntmps3
  go_wp2_with (first | (go_at_call 4; ((with_reducible refine hw.mono ?_); rintro e w1 ⟨rfl, hQ⟩)) | (go_at_call 5; ((with_reducible refine (hp1 _).mono ?_); rintro e w' ⟨rfl, rfl⟩)) | (go_at_call 5; ((with_reducible refine (hp2 _).mono ?_); rintro e w' ⟨rfl, rfl⟩)) | (go_at_call 6; ((with_reducible refine (ht1 _ hQ).mono ?_); rintro e w' ⟨rfl, rfl⟩)) | (go_at_call 6; ((with_reducible refine (ht2 _ hQ).mono ?_); rintro e w' ⟨rfl, rfl⟩)) | (go_at_call 7; ((with_reducible refine (hq1 _).mono ?_); rintro e w' ⟨rfl, rfl⟩)) | (go_at_call 7; ((with_reducible refine (hq2 _).mono ?_); rintro e w' ⟨rfl, rfl⟩)) | (go_at_call 9; ((with_reducible refine (hk1 _).mono ?_); rintro e w' ⟨rfl, rfl⟩)) | (go_at_call 8; ((with_reducible refine (hu1 _).mono ?_); rintro e w' ⟨rfl, rfl⟩)))
  go_ret
  exact ⟨rfl, hQ⟩
end Go.Proofs.YtfiambjmphjjgaaGreatDoor.wts
