/- Part of a proof: a checked evaluator of the program (append). No condition. -/
import Derived.Test.YtfiambjmphjjgaaGreatDoorMsAct
/-! append -/
noncomputable section
namespace Go.Proofs.YtfiambjmphjjgaaGreatDoor.Ms
set_option linter.unusedVariables false
set_option linter.unusedSimpArgs false
section
variable {P : Program}
theorem growBy_le (n : Nat) : ∀ (r c : Nat), Builtin.growBy n r c ≤ 2 ^ r * (c + 768) := by
  intro r
  induction r with
  | zero => intro c; simp [Builtin.growBy]
  | succ r ih =>
    intro c
    unfold Builtin.growBy
    split
    · calc c ≤ c + 768 := by omega
        _ ≤ 2 ^ (r + 1) * (c + 768) := Nat.le_mul_of_pos_left _ (Nat.two_pow_pos _)
    · refine Nat.le_trans (ih _) ?_
      rw [Nat.pow_succ, Nat.mul_assoc]
      exact Nat.mul_le_mul_left _ (by omega)
theorem next_le (need cap : Nat) (h : cap < need) (hn : need ≤ 1000000) : Builtin.nextslicecap need cap ≤ 20000000 := by
  unfold Builtin.nextslicecap
  split
  · omega
  · split
    · omega
    · have := growBy_le need 4 cap
      rw [show (2 : Nat) ^ 4 = 16 from rfl] at this
      exact Nat.le_trans this (by omega)
theorem mul_small {a b c : Nat} (ha : a ≤ 20000000) (hb : b ≤ 1000000) (hc : c = a * b) : c ≤ 20000000000000 := by
  subst hc
  exact Nat.le_trans (Nat.mul_le_mul ha hb) (by decide)
theorem run_first (s n : Nat) (b : Option Addr) (m c : Nat) (news : List Value) (w : World) (h0 : b = none → news = []) (hb : ∀ ad, b = some ad → (loadCells ad (n * s)).run P w = .ok news.toArray w) :
    (Builtin.firstCells s n (.slice b m c)).run P w = .ok news.toArray w := by
  cases b with
  | none => rw [h0 rfl]; rfl
  | some ad => exact hb ad rfl
/-- an append that has room -/
theorem run_append_in {t u e e' : TypeId} {i : TypeInfo} (ht : P.underlying t = some (.slice e)) (hu : P.underlying u = some (.slice e')) (hi : P.info? e = some i) (ty : TypeId) (base : Option Addr) (sLen sCap : Nat)
    (yb : Option Addr) (m yc : Nat) (news : List Value) (w w' : World) (hroom : sLen + m ≤ sCap) (h0 : yb = none → news = []) (hb : ∀ ad, yb = some ad → (loadCells ad (m * i.size)).run P w = .ok news.toArray w)
    (hst : ∀ b, base = some b → (storeCells (b.add (sLen * i.size)) news).run P w = .ok () w') (hst0 : base = none → w' = w) :
    (Builtin.append_ #[t, u] ty #[.slice base sLen sCap, .slice yb m yc]).run P w = .ok (.slice base (sLen + m) sCap) w' := by
  have hf := run_first (P := P) i.size m yb m yc news w h0 hb
  cases base with
  | none =>
    have := hst0 rfl
    subst this
    simp [Builtin.append_, run_und ht, run_und hu, run_size (show szT P e = some i.size by simp [szT, hi]), Builtin.lenOf, hroom, hf]
  | some b =>
    simp [Builtin.append_, run_und ht, run_und hu, run_size (show szT P e = some i.size by simp [szT, hi]), Builtin.lenOf, hroom, hf, hst b rfl]
/-- an append that has none -/
theorem run_append_new {t u e e' : TypeId} {i : TypeInfo} {zv : Value} (ht : P.underlying t = some (.slice e)) (hu : P.underlying u = some (.slice e')) (hi : P.info? e = some i) (hz : i.zero = some zv) (hzs : zv.cells.size = i.size) (ty : TypeId) (base : Option Addr) (sLen sCap : Nat)
    (yb : Option Addr) (m yc : Nat) (olds news : List Value) (w : World) (hroom : ¬ sLen + m ≤ sCap) (hsmall : sLen + m ≤ 1000000) (hby : i.bytes ≤ 1000000) 
    (h0 : yb = none → news = []) (hb : ∀ ad, yb = some ad → (loadCells ad (m * i.size)).run P w = .ok news.toArray w)
    (h0' : base = none → olds = []) (hb' : ∀ ad, base = some ad → (loadCells ad (sLen * i.size)).run P w = .ok olds.toArray w) :
    ∃ (newCap : Nat) (rest : List Value) (dr : Nat), sLen + m ≤ newCap ∧ rest.length = (newCap - (sLen + m)) * i.size ∧
      (Builtin.append_ #[t, u] ty #[.slice base sLen sCap, .slice yb m yc]).run P w = .ok (.slice (some ⟨w.heap.size, 0, none⟩) (sLen + m) newCap) { w with drawn := dr, heap := w.heap.push (.cells ((olds ++ news) ++ rest).toArray e) } := by
  generalize hw1 : ({ w with drawn := w.drawn + 1 } : World) = w1
  generalize hnc : (Question.appendCap (sLen + m) sCap e).cut (w.tape w.drawn (.appendCap (sLen + m) sCap e)) = newCap
  have hge : sLen + m ≤ newCap := by rw [← hnc]; simp [Question.cut]
  have hloads : ∀ (ad : Addr) (n : Nat) (l : List Value), (loadCells ad n).run P w = .ok l.toArray w → (loadCells ad n).run P w1 = .ok l.toArray w1 := by
    intro ad n l hl
    subst hw1
    -- a draw turns no cell
    have gen : ∀ (n i : Nat) (acc : Array Value) (r : Array Value), (loadCellsFrom ad i n acc).run P w = .ok r w → (loadCellsFrom ad i n acc).run P { w with drawn := w.drawn + 1 } = .ok r { w with drawn := w.drawn + 1 } := by
      intro n
      induction n with
      | zero => intro i acc r h; simp only [loadCellsFrom, Sem.run_pure] at h ⊢; injection h with h; rw [h]
      | succ n ih =>
        intro i acc r h
        simp only [loadCellsFrom, Sem.run_bind, run_load] at h ⊢
        have hc : ({ w with drawn := w.drawn + 1 } : World).cell? (ad.add i) = w.cell? (ad.add i) := rfl
        rw [hc]
        cases hcell : w.cell? (ad.add i) with
        | some v =>
          rw [hcell] at h
          exact ih _ _ _ h
        | none =>
          rw [hcell] at h
          simp only at h ⊢
          have hfar : ({ w with drawn := w.drawn + 1 } : World).farLoad P (ad.add i) (Mode.plain == Mode.atomic) = w.farLoad P (ad.add i) (Mode.plain == Mode.atomic) := rfl
          rw [hfar]
          cases hf : w.farLoad P (ad.add i) (Mode.plain == Mode.atomic) with
          | ok x =>
            rw [hf] at h
            exact ih _ _ _ h
          | error e => rw [hf] at h; cases h
    exact gen n 0 #[] _ hl
  have hf := run_first (P := P) i.size m yb m yc news w1 h0 (fun ad e => hloads _ _ _ (hb ad e))
  have hf' := run_first (P := P) i.size sLen base sLen sCap olds w1 h0' (fun ad e => hloads _ _ _ (hb' ad e))
  have hzr : ∀ w, (zeroValue e).run P w = .ok zv w := fun w => by simp [zeroValue, run_info hi, hz]
  have hrestlen : (Builtin.zeroCells zv.cells (newCap - (sLen + m))).toList.length = (newCap - (sLen + m)) * i.size := by simp [Builtin.zeroCells, hzs]
  refine ⟨newCap, (Builtin.zeroCells zv.cells (newCap - (sLen + m))).toList, w.drawn + 1, hge, hrestlen, ?_⟩
  have hmax : ¬ (((sLen + m : Nat) : Int) > IntKind.i64.max) := by rw [IntKind.max_i64]; omega
  have hmax' : ¬ ((sLen : Int) + (m : Int) > IntKind.i64.max) := by rw [IntKind.max_i64]; omega
  have hnext : ¬ (Builtin.nextslicecap (sLen + m) sCap * i.bytes > 2 ^ 48) := by
    have h1 := mul_small (next_le (sLen + m) sCap (by omega) hsmall) hby rfl
    have h48 : (2 : Nat) ^ 48 = 281474976710656 := by decide
    rw [h48]; omega
  have hchoose : (choose (.appendCap (sLen + m) sCap e)).run P w = .ok newCap w1 := by
    rw [run_choose]
    simp only [Question.forced, Bool.false_eq_true, if_false, hnc, hw1]
  unfold Builtin.append_
  simp only [List.getElem?_toArray, List.getElem?_cons_zero, List.getElem?_cons_succ, Sem.run_bind, run_und ht, run_und hu, Result.andThen_ok, run_size (show szT P e = some i.size by simp [szT, hi]), Sem.run_pure, Bool.false_eq_true, if_false,
    Builtin.lenOf, if_neg hroom, run_info hi]
  rw [if_neg (fun h => hmax h.1)]
  simp only [Sem.run_bind, run_info hi, Result.andThen_ok, if_neg hnext, hchoose, run_askRoom, hf', Bool.not_false, if_true, hf, hzr, newRow, heap_new, Sem.run_pure]
  subst hw1
  simp
  congr 2
  apply Array.ext'
  simp
end
end Go.Proofs.YtfiambjmphjjgaaGreatDoor.Ms
