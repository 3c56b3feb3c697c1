/- Part of a proof: a checked evaluator of the program (ranging over a map of one entry at most). No condition. -/
import Derived.Test.YtfiambjmphjjgaaGreatDoorMsJunk
/-! ranging over a map of one entry at most -/
noncomputable section
namespace Go.Proofs.YtfiambjmphjjgaaGreatDoor.Ms
set_option linter.unusedVariables false
set_option linter.unusedSimpArgs false
section
variable {P : Program} {w : World} {r m clk : Nat} {e : MapEntry} {t k el : TypeId}
theorem run_range_map {es : Array MapEntry} (ht : P.underlying t = some (.map k el)) (hm : w.heap[m]? = some (.map es clk)) :
    (Instr.range t (.map (some m))).run P w = .ok (.pointer (some ⟨w.heap.size, 0, none⟩)) { w with heap := w.heap.push (.mapIter (some m) clk #[] clk) } := by
  simp only [Instr.range, Sem.run_bind, run_und ht, Result.andThen_ok, run_getObj hm, Sem.run_pure, run_newObj]
theorem run_next_none {ty : TypeId} (hr : w.heap[r]? = some (.mapIter (some m) clk #[] clk)) (hm : w.heap[m]? = some (.map #[] clk)) :
    (Instr.next (.pointer (some ⟨r, 0, none⟩)) false ty).run P w = .ok (.tuple #[.bool false]) w := by
  simp [Instr.next, run_getObj hr, run_getObj hm, Result.andThen, Question.forced]
theorem run_next_one {ty : TypeId} (hr : w.heap[r]? = some (.mapIter (some m) clk #[] clk)) (hm : w.heap[m]? = some (.map #[e] clk)) (hb : e.born < clk) :
    (Instr.next (.pointer (some ⟨r, 0, none⟩)) false ty).run P w = .ok (.tuple #[.bool true, e.key, e.val]) { w with heap := w.heap.setIfInBounds r (.mapIter (some m) clk #[e.born] clk) } := by
  have hn : ¬ clk ≤ e.born := by omega
  simp [Instr.next, run_getObj hr, run_getObj hm, Result.andThen, Question.forced, hb, hn, run_setObj _ hr]
theorem run_next_over {ty : TypeId} (hr : w.heap[r]? = some (.mapIter (some m) clk #[e.born] clk)) (hm : w.heap[m]? = some (.map #[e] clk)) (hb : e.born < clk) :
    (Instr.next (.pointer (some ⟨r, 0, none⟩)) false ty).run P w = .ok (.tuple #[.bool false]) w := by
  have hn : ¬ clk ≤ e.born := by omega
  simp [Instr.next, run_getObj hr, run_getObj hm, Result.andThen, Question.forced, hn]
theorem run_entry_one (hr : w.heap[r]? = some (.mapIter (some m) clk #[e.born] clk)) (hm : w.heap[m]? = some (.map #[e] clk)) :
    (Instr.entry (.pointer (some ⟨r, 0, none⟩))).run P w = .ok (.tuple #[e.key, e.val]) w := by
  simp [Instr.entry, run_getObj hr, run_getObj hm, Result.andThen]
end
section
variable {F : Fence} {n : Nat} {P : Program} {Q : Exit → Act → World → Prop} {a : Act} {w : World} {c : Code}
/-- a loop, round by round, within a fence -/
def LoopIn (F : Fence) (n : Nat) (P : Program) (c : Code) (Q : Exit → Act → World → Prop) (a : Act) (w : World) : Prop :=
  ∀ (b : Frame) (k : List Item) (cs : List Frame), b.roundOf = F.round → F.fn b.fn → F.room (cs.length + 1 + n) →
    ∃ e a' w', Q e a' w' ∧ ArrivesIn (Machine.fenced P F) P (lone (b.atR a (.code c :: .inLoop c :: k)) cs w) b k cs e a' w'
theorem loopIn_round (h : c.wpIn F n P (Exit.then (LoopIn F n P c Q) Q) a w) : LoopIn F n P c Q a w := by
  intro b k cs hro hb hr
  obtain ⟨e, a₁, w₁, hq, harr⟩ := h b (.inLoop c :: k) cs hro hb hr
  cases e with
  | normal =>
    obtain ⟨e₂, a₂, w₂, hq₂, harr₂⟩ := hq b k cs hro hb hr
    exact ⟨e₂, a₂, w₂, hq₂, .of_steps (StepsIn.trans harr (.one (fenced_calm hb hr rfl) stepR_inLoop)) harr₂⟩
  | exit id => exact ⟨_, a₁, w₁, hq, .pass (x := .inLoop c) rfl (fun _ _ => .inl (by simp)) harr⟩
  | goto l => exact ⟨_, a₁, w₁, hq, .pass (x := .inLoop c) rfl (fun _ _ => .inl (by simp)) harr⟩
  | ret => exact ⟨_, a₁, w₁, hq, .pass (x := .inLoop c) rfl (fun _ _ => .inl (by simp)) harr⟩
  | panic ch => exact ⟨_, a₁, w₁, hq, .pass (x := .inLoop c) rfl (fun _ _ => .inl (by simp)) harr⟩
  | outgrown => exact ⟨_, a₁, w₁, hq, .pass (x := .inLoop c) rfl (fun _ _ => .inl (by simp)) harr⟩
theorem loopIn_of (h : LoopIn F n P c Q a w) : (Code.loop c).wpIn F n P Q a w := by
  intro b k cs hro hb hr
  obtain ⟨e, a', w', hq, harr⟩ := h b k cs hro hb hr
  exact ⟨e, a', w', hq, .of_steps (.one (fenced_calm hb hr rfl) stepR_loop) harr⟩
end
end Go.Proofs.YtfiambjmphjjgaaGreatDoor.Ms
