/- Part of a proof: a checked evaluator of the program (blocks that stand outside the relation). No condition. -/
import Derived.Test.YtfiambjmphjjgaaGreatDoorMsLift
/-! blocks that stand outside the relation -/
noncomputable section
namespace Go.Proofs.YtfiambjmphjjgaaGreatDoor.Ms
set_option linter.unusedVariables false
set_option linter.unusedSimpArgs false
theorem WR.outside {g : G} {h : Hp} {nx : Ps} {w w' : World} (hw : WR g h nx w) (hk : ∀ b, g b ≠ none ∨ b = GL → ∀ o, w.heap[b]? = some o → w'.heap[b]? = some o) : WR g h nx w' where
  obj := fun c x hc => by
    obtain ⟨ob, o, h1, h2, h3⟩ := hw.obj c x hc
    exact ⟨ob, o, h1, hk c (.inl (by rw [hc]; simp)) o h2, h3⟩
  lt := hw.lt
  one := hw.one
  gl := hw.gl.keep hw.gl.1 fun o ho => hk GL (.inr rfl) o ho
/-- 'Ex' over blocks that stood below a bound -/
structure ExB (n0 : Nat) (g : G) (nx : Ps) (w : World) (g' : G) (nx' : Ps) (w' : World) : Prop where
  up : GUp g g'
  new : ∀ c x, g' c = some x → g c = none → n0 ≤ c ∧ (nx.num ≤ x.a.num ∨ ∃ c0 x0, g c0 = some x0 ∧ x0.a = x.a)
  keep : ∀ b o, b < n0 → w.heap[b]? = some o → g b = none → w'.heap[b]? = some o
  size : w.heap.size ≤ w'.heap.size
  nx : nx.num ≤ nx'.num
  os : w'.os = w.os
  tape : w'.tape = w.tape
  output : w'.output = w.output
theorem Ex.b {g : G} {nx : Ps} {w : World} {g' : G} {nx' : Ps} {w' : World} (h : Ex g nx w g' nx' w') {n0 : Nat} (hn : n0 ≤ w.heap.size) : ExB n0 g nx w g' nx' w' :=
  ⟨h.up, fun c x h1 h2 => ⟨Nat.le_trans hn (h.new c x h1 h2).1, (h.new c x h1 h2).2⟩, fun b o _ hb hg => h.keep b o hb hg, h.size, h.nx, h.os, h.tape, h.output⟩
theorem ExB.ex {g : G} {nx : Ps} {w : World} {g' : G} {nx' : Ps} {w' : World} (h : ExB w.heap.size g nx w g' nx' w') : Ex g nx w g' nx' w' :=
  ⟨h.up, h.new, fun b o hb hg => h.keep b o (by
    rcases Nat.lt_or_ge b w.heap.size with hlt | hge
    · exact hlt
    · simp [Array.getElem?_eq_none hge] at hb) hb hg, h.size, h.nx, h.os, h.tape, h.output⟩
theorem ExB.junk {n0 : Nat} {g : G} {nx : Ps} {w w' : World} (hk : ∀ b o, b < n0 → w.heap[b]? = some o → w'.heap[b]? = some o) (hs : w.heap.size ≤ w'.heap.size) (ho : w'.os = w.os) (ht : w'.tape = w.tape) (hp : w'.output = w.output) : ExB n0 g nx w g nx w' :=
  ⟨.refl g, (fun c x h h' => by rw [h] at h'; cases h'), fun b o hb h1 _ => hk b o hb h1, hs, Nat.le_refl _, ho, ht, hp⟩
theorem ExB.trans {n0 : Nat} {g : G} {nx : Ps} {w : World} {g' : G} {nx' : Ps} {w' : World} {g'' : G} {nx'' : Ps} {w'' : World}
    (h : ExB n0 g nx w g' nx' w') (k : ExB n0 g' nx' w' g'' nx'' w'') : ExB n0 g nx w g'' nx'' w'' where
  up := h.up.trans k.up
  new := fun c x hx hn => by
    cases e : g' c with
    | some x1 =>
      obtain ⟨h1, h2⟩ := h.new c x1 e hn
      obtain ⟨x2, e2, a2, _⟩ := k.up c x1 e
      rw [hx] at e2; cases e2
      exact ⟨h1, by rw [a2]; exact h2⟩
    | none =>
      obtain ⟨h1, h2⟩ := k.new c x hx e
      refine ⟨h1, ?_⟩
      rcases h2 with h2 | ⟨c0, x0, e0, a0⟩
      · exact .inl (Nat.le_trans h.nx h2)
      · cases e1 : g c0 with
        | some x1 =>
          obtain ⟨x2, e2, a2, _⟩ := h.up c0 x1 e1
          rw [e0] at e2; cases e2
          exact .inr ⟨c0, x1, e1, a2.symm.trans a0⟩
        | none =>
          obtain ⟨_, h4⟩ := h.new c0 x0 e0 e1
          rcases h4 with h4 | ⟨c2, x2, e2, a2⟩
          · exact .inl (a0 ▸ h4)
          · exact .inr ⟨c2, x2, e2, a2.trans a0⟩
  keep := fun b o hlt hb hn => by
    have h1 := h.keep b o hlt hb hn
    cases e : g' b with
    | none => exact k.keep b o hlt h1 e
    | some x => have := (h.new b x e hn).1; omega
  size := Nat.le_trans h.size k.size
  nx := Nat.le_trans h.nx k.nx
  os := k.os.trans h.os
  tape := k.tape.trans h.tape
  output := k.output.trans h.output
end Go.Proofs.YtfiambjmphjjgaaGreatDoor.Ms
