/- Part of a proof: what a world that only grew still shows of an old one, and how a row's end follows. No condition. -/
import Derived.Test.YtfiambjmphjjgaaGreatDoorMsWakes
import Derived.WalkKit
import Derived.ProofKit
import Derived.OpenShut
import Derived.Deep.DeepHandedRow
import Derived.Lib.LaidTab
namespace Go.Proofs.YtfiambjmphjjgaaGreatDoor.Ms
open Go.ChangeShapes Go.WideShapes Go.ChangeAt Go.RowKit
theorem Old.refl (w : World) : Old w w := ⟨fun _ _ h => h, Nat.le_refl _, rfl, rfl, rfl⟩
theorem Old.trans {a b c : World} (h : Old a b) (k : Old b c) : Old a c :=
  ⟨fun x o hx => k.1 x o (h.1 x o hx), Nat.le_trans h.2.1 k.2.1, k.2.2.1.trans h.2.2.1, k.2.2.2.1.trans h.2.2.2.1, k.2.2.2.2.trans h.2.2.2.2⟩
theorem Old.alloc (w : World) (o : Obj) : Old w (w.alloc o) := ⟨fun _ _ h => heap_push_old w o h, by show w.heap.size ≤ (w.heap.push o).size; simp, rfl, rfl, rfl⟩
theorem Old.frozen {w w' : World} (h : Old w w') (a : Addr) (ha : a.block < w.heap.size) : w'.frozen? a = w.frozen? a := by
  have e := Array.getElem?_eq_getElem ha
  unfold World.frozen?
  rw [h.1 _ _ e, e]
theorem Old.cell {w w' : World} (h : Old w w') {a : Addr} {v : Value} (ha : w.cell? a = some v) : w'.cell? a = some v := by
  unfold World.cell? at ha ⊢
  cases e : w.heap[a.block]? with
  | none => rw [e] at ha; cases ha
  | some o => rw [e] at ha; rw [h.1 _ _ e]; exact ha
theorem Old.kept {w w' : World} (h : Old w w') (may : MemPlace → Prop) : w.keptBut w' may := by
  refine ⟨h.2.2.1, h.2.2.2.2, fun i hi => ?_⟩
  have e := Array.getElem?_eq_getElem hi
  rw [h.1 _ _ e, e]
  generalize w.heap[i] = o
  cases o <;> first | exact ⟨rfl, rfl, rfl, fun _ _ => rfl⟩ | exact .inr ⟨rfl, rfl⟩ | rfl
/-- a row's end, where the world only grew -/
theorem post_of_old {H : Type} {enc : TypeId × Value → H} {P : Program} {f : Func} {s : ChangeSpec} {apart fresh handsOn again : Bool} {W W' : World} {args : Array Value} {v : Value} {ds gs : List (DataW H)} {before pa pv : List MemPlace}
    (hW : DataW.Whole enc P f.params.toList s.vars apart W args.toList ds gs before) (hO : Old W W') (hps : before = pa ++ pv)
    (hres : ∀ (b : Nat) (sp : Nat → Bool) (hd : Bool), DataW.TrodAll enc P W' b sp hd f.resultTypes.toList (v.resultList f.resultTypes.size) (s.fn H (ds ++ gs)).results [])
    (hargs : ∀ sp : Nat → Bool, (∀ p ∈ before, sp p.block = true) → DataW.TrodAll enc P W' 0 sp true f.params.toList args.toList (s.fn H (ds ++ gs)).args pa)
    (hvars : ∀ sp : Nat → Bool, (∀ p ∈ before, sp p.block = true) → DataW.TrodVars enc P W' sp s.vars (s.fn H (ds ++ gs)).vars pv)
    (hok : ∀ (j : Nat) (t : TypeId) (r : Value), f.resultTypes[j]? = some t → (v.resultList f.resultTypes.size)[j]? = some r → Value.okWide P W' .any 0 t r) :
    s.post enc P f apart fresh handsOn again W args v W' := by
  have hlt : ∀ p ∈ before, p.block < W.heap.size := fun p hp => hW.lt p hp
  have hsp : ∀ p ∈ before, (fun b => decide (b < W.heap.size)) p.block = true := fun p hp => decide_eq_true (hlt p hp)
  subst hps
  have hall : ∀ p, p ∈ [] ++ pa ++ pv ↔ p ∈ pa ++ pv := fun p => by simp
  refine ⟨ds, gs, pa ++ pv, [], pa, pv, hW, hres _ _ _, hargs _ hsp, hvars _ hsp, hO.kept _, fun _ => ?_⟩
  obtain ⟨_, _, _, _, _, hz, hn⟩ := hW
  have hr := trodAll_append (hargs (fun _ => true) fun _ _ => rfl) (hres 0 (fun _ => true) true)
  refine ⟨hok, _, _, [] ++ pa ++ pv, ⟨[] ++ pa, pv, hr, hvars (fun _ => true) fun _ _ => rfl, rfl, fun b off hp => ?_, fun ha => ?_⟩, fun p hp _ => (hall p).1 hp⟩
  · have hm := (hall _).1 hp
    rw [hO.frozen _ (hlt _ hm)]
    exact hz b off hm
  · simpa using hn ha

/-- the table of math/bits.TrailingZeros64 -/
def tabZ : List Int := Lib.deBruijn64tab.map fun n : Nat => (n : Int)
theorem gTab : Tryz.prog.globalNamed "math/bits.deBruijn64tab" = some 0 := by kernel_rfl
theorem gTabType : (Tryz.prog.globals[0]?).map (·.type) = some 270 := by kernel_rfl
theorem cellsT : Tryz.prog.cellsOf 270 = 64 := by kernel_rfl
theorem cellsU : Tryz.prog.cellsOf 5 = 1 := by kernel_rfl
theorem tab_stands {W : World} {rest : List (String × DataW Unit)} (h : laidMet Tryz.prog (("math/bits.deBruijn64tab", Lib.tabData .u8 tabZ) :: rest) W) : ∃ o, W.heap[GL]? = some o ∧ TabO o := by
  have ht : Lib.TabIs Tryz.prog W "math/bits.deBruijn64tab" .u8 tabZ := Lib.tabIs_of_head gTab gTabType Tryz.underlying270 Tryz.underlying5 cellsU cellsT h
  have hc : ∀ j, j < Lib.deBruijn64tab.length → W.cell? ⟨0, j, none⟩ = some (.int .u8 (Lib.deBruijn64tab.getD j 0)) := fun j hj => by
    rw [ht.cell gTab j (by simpa [tabZ] using hj)]
    have : tabZ.getD j 0 = ((Lib.deBruijn64tab.getD j 0 : Nat) : Int) := by
      unfold tabZ
      simp [List.getD, hj]
    rw [this]
  have h0 := hc 0 (by decide)
  unfold World.cell? at h0
  cases e : W.heap[0]? with
  | none => simp [e] at h0
  | some o =>
    cases o <;> simp [e] at h0
    rename_i cc el fr
    exact ⟨_, rfl, cc, el, fr, rfl, fun j hj => by rw [← cell_at e]; exact hc j hj⟩
theorem tab_cells {W : World} (h : ∃ o, W.heap[GL]? = some o ∧ TabO o) : ∀ j, j < Lib.deBruijn64tab.length → W.cell? ⟨GL, j, none⟩ = some (.int .u8 (Lib.deBruijn64tab.getD j 0)) := by
  obtain ⟨_, e, cc, el, fr, rfl, h⟩ := h
  intro j hj
  rw [cell_at e]; exact h j hj
theorem tab_old {W W' : World} (h : ∃ o, W.heap[GL]? = some o ∧ TabO o) (hO : Old W W') : ∃ o, W'.heap[GL]? = some o ∧ TabO o := by
  obtain ⟨o, e, h⟩ := h
  exact ⟨o, hO.1 _ _ e, h⟩
/-- a world for the witness: the settled one, the table holding what its initialiser lays -/
noncomputable def tabWorld (os : Os) : World :=
  { World.holding Tryz.prog os ⟨#[], #[], []⟩ with heap := (World.holding Tryz.prog os ⟨#[], #[], []⟩).heap.modify 0 fun
      | .cells _ t frozen => .cells (tabZ.map fun z => Value.int .u8 z).toArray t frozen
      | o => o }
end Go.Proofs.YtfiambjmphjjgaaGreatDoor.Ms
