/- Part of a proof over this seat's program: what the function that maps.Keys hands out does over a map of no entry, and of one. No condition. -/
import Derived.Test.YtfiambjmphjjgaaGreatDoorMsTab
import Derived.RangeFuncSeq
import Derived.WalkKit
import Derived.OwnWalkIn
import Derived.TacticsInMore
import Derived.RegionIn
import Derived.LoopNIn
import Derived.LoopIn
import Derived.Test.YtfiambjmphjjgaaGreatDoorProg
namespace Go.Proofs.YtfiambjmphjjgaaGreatDoor.Ms
set_option linter.unusedVariables false
set_option linter.unusedSimpArgs false
open Go.RowKit
set_option maxRecDepth 100000 in
set_option maxHeartbeats 1000000 in
theorem keys1_none (n l Bm m clk : Nat) (W : World) (R : Ending → World → Prop) (hm : W.cell? ⟨Bm, 0, none⟩ = some (.map (some m))) (hmap : W.heap[m]? = some (.map #[] clk))
    (hR : R (.returned (.tuple #[])) (W.alloc (.mapIter (some m) clk #[] clk))) :
    CallsIn Fence.wide n Tryz.prog 72 #[.func (.yield l) #[] #[], .pointer (some ⟨Bm, 0, none⟩)] W R := by
  refine callsIn_of_wp Tryz.func72 rfl trivial ?_ rfl
  simp only [Tryz.ntmps72, List.size_toArray, List.length_cons, List.length_nil, Nat.reduceAdd, Nat.reduceSub, Array.replicate_succ, Array.replicate_zero, List.push_toArray, List.append_toArray, List.nil_append, List.cons_append]
  gi_wp2
  rw [run_range_map Tryz.underlying93 hmap]
  simp only [Result.andThen_ok, Oper.uponIn_value]
  gi_wp2
  refine loopIn_of (loopIn_round ?_)
  have hr : (W.alloc (.mapIter (some m) clk #[] clk)).heap[W.heap.size]? = some (.mapIter (some m) clk #[] clk) := heap_push_new W _
  have hm1 : (W.alloc (.mapIter (some m) clk #[] clk)).heap[m]? = some (.map #[] clk) := heap_push_old W _ hmap
  gi_wp2
  rw [run_next_none hr hm1]
  simp only [Result.andThen_ok, Oper.uponIn_value]
  gi_wp2
  go_end0
  exact hR
set_option maxRecDepth 100000 in
set_option maxHeartbeats 1000000 in
theorem keys1_one (n l Bm m clk : Nat) (en : MapEntry) (W : World) (R : Ending → World → Prop) (hm : W.cell? ⟨Bm, 0, none⟩ = some (.map (some m))) (hmap : W.heap[m]? = some (.map #[en] clk)) (hb : en.born < clk) (k0 k1 k2 k3 : Value) (hkey : en.key = .agg #[k0, k1, k2, k3]) (o0 : k0.oneCell' = true) (o1 : k1.oneCell' = true) (o2 : k2.oneCell' = true) (o3 : k3.oneCell' = true) (hn : 1 ≤ n)
    (hY : ∀ W1 : World, (∀ b o, b < W.heap.size → W.heap[b]? = some o → W1.heap[b]? = some o) → W1.heap.size = W.heap.size + 2 → W1.os = W.os → W1.tape = W.tape → W1.output = W.output →
      YieldAt Fence.wide (n - 1) Tryz.prog l #[.agg #[k0, k1, k2, k3]] W1 fun e W' => e = .returned (.bool true) ∧ W'.heap[W.heap.size]? = W1.heap[W.heap.size]? ∧ (∃ en', W'.heap[m]? = some (.map #[en'] clk) ∧ en'.born = en.born) ∧ R (.returned (.tuple #[])) W') :
    CallsIn Fence.wide n Tryz.prog 72 #[.func (.yield l) #[] #[], .pointer (some ⟨Bm, 0, none⟩)] W R := by
  refine callsIn_of_wp Tryz.func72 rfl trivial ?_ rfl
  simp only [Tryz.ntmps72, List.size_toArray, List.length_cons, List.length_nil, Nat.reduceAdd, Nat.reduceSub, Array.replicate_succ, Array.replicate_zero, List.push_toArray, List.append_toArray, List.nil_append, List.cons_append]
  gi_wp2
  rw [run_range_map Tryz.underlying93 hmap]
  simp only [Result.andThen_ok, Oper.uponIn_value]
  gi_wp2
  refine loopIn_of (loopIn_round ?_)
  have hr : (W.alloc (.mapIter (some m) clk #[] clk)).heap[W.heap.size]? = some (.mapIter (some m) clk #[] clk) := heap_push_new W _
  have hm1 : (W.alloc (.mapIter (some m) clk #[] clk)).heap[m]? = some (.map #[en] clk) := heap_push_old W _ hmap
  gi_wp2
  obtain ⟨W2, hW2, hos2, hta2, hou2, hn2⟩ : ∃ W2 : World, W2.heap = (W.heap.push (.mapIter (some m) clk #[] clk)).setIfInBounds W.heap.size (.mapIter (some m) clk #[en.born] clk) ∧ W2.os = W.os ∧ W2.tape = W.tape ∧ W2.output = W.output ∧
      ∀ ty, (Instr.next (.pointer (some ⟨W.heap.size, 0, none⟩)) false ty).run Tryz.prog (W.alloc (.mapIter (some m) clk #[] clk)) = .ok (.tuple #[.bool true, en.key, en.val]) W2 := by
    refine ⟨_, ?_, ?_, ?_, ?_, fun ty => run_next_one hr hm1 hb⟩ <;> rfl
  rw [hn2]
  simp only [Result.andThen_ok, Oper.uponIn_value]
  have hr2 : W2.heap[W.heap.size]? = some (.mapIter (some m) clk #[en.born] clk) := by rw [hW2]; simp
  have hlt : m < W.heap.size := (Array.getElem?_eq_some_iff.1 hmap).1
  have hm2 : W2.heap[m]? = some (.map #[en] clk) := by
    rw [hW2, Array.getElem?_setIfInBounds_ne (by omega)]; exact hm1
  gi_wp2
  rw [run_entry_one hr2 hm2, hkey]
  simp only [Result.andThen_ok, Oper.uponIn_value]
  gi_wp2
  have hsz2 : W2.heap.size = W.heap.size + 1 := by rw [hW2]; simp
  obtain ⟨W3, hW3⟩ : ∃ W3 : World, W2.alloc (Obj.cells #[Value.int IntKind.i64 0, Value.int IntKind.i32 0, Value.int IntKind.i32 0, Value.bool false] 103) = W3 := ⟨_, rfl⟩
  rw [hW3]
  have hc3 : W3.heap[W.heap.size + 1]? = some (Obj.cells #[Value.int IntKind.i64 0, Value.int IntKind.i32 0, Value.int IntKind.i32 0, Value.bool false] 103) := by rw [← hW3, ← hsz2]; exact World.alloc_heap_new W2 _
  obtain ⟨W4, s1, s2⟩ := run_storeCells_fr Tryz.prog 0 [k0, k1, k2, k3] 0 hc3 (.inl rfl) (by simp) (by simp [o0, o1, o2, o3])
  have s1' : ((Sem.run Tryz.prog (store ⟨W.heap.size + 1, 0, none⟩ k0) W3).andThen fun _ w' => (Sem.run Tryz.prog (store ⟨W.heap.size + 1, 1, none⟩ k1) w').andThen fun _ w' =>
      (Sem.run Tryz.prog (store ⟨W.heap.size + 1, 2, none⟩ k2) w').andThen fun _ w' => Sem.run Tryz.prog (store ⟨W.heap.size + 1, 3, none⟩ k3) w') = .ok () W4 := by
    have h0 : (storeCells ⟨W.heap.size + 1, 0, none⟩ [k0, k1, k2, k3] 0) = (do store ⟨W.heap.size + 1, 0, none⟩ k0; store ⟨W.heap.size + 1, 1, none⟩ k1; store ⟨W.heap.size + 1, 2, none⟩ k2; store ⟨W.heap.size + 1, 3, none⟩ k3) := by
      simp [storeCells, Addr.add]
    rw [h0] at s1
    simpa only [Sem.run_bind] using s1
  obtain ⟨cc', d1, d2, d3⟩ := s2.cell
  have c0 : W4.cell? ⟨W.heap.size + 1, 0, none⟩ = some k0 := by rw [cell_at d1, d3]; rfl
  have c1 : W4.cell? ⟨W.heap.size + 1, 1, none⟩ = some k1 := by rw [cell_at d1, d3]; rfl
  have c2 : W4.cell? ⟨W.heap.size + 1, 2, none⟩ = some k2 := by rw [cell_at d1, d3]; rfl
  have c3 : W4.cell? ⟨W.heap.size + 1, 3, none⟩ = some k3 := by rw [cell_at d1, d3]; rfl
  rw [s1']
  simp only [Result.andThen_ok, Oper.uponIn_skip]
  gi_wp2
  obtain ⟨fn, tmps, assign, body, hy, hR⟩ := hY W4 (fun b o hlt' hb' => by
    rw [s2.oth _ (by omega), ← hW3]
    show (W2.heap.push _)[b]? = _
    rw [Array.getElem?_push_lt (by omega), ← Array.getElem?_eq_getElem, hW2, Array.getElem?_setIfInBounds_ne (by omega)]
    exact heap_push_old W _ hb') (by rw [s2.size, ← hW3]; show (W2.heap.push _).size = _; rw [Array.size_push, hsz2]) (s2.os.trans (by rw [← hW3]; exact hos2)) (s2.tape.trans (by rw [← hW3]; exact hta2)) (s2.output.trans (by rw [← hW3]; exact hou2))
  simp only [hy, Result.andThen_ok]
  rw [Oper.uponIn_round]
  refine ⟨fun _ => hn, hR.mono ?_⟩
  rintro e W5 ⟨rfl, q1, ⟨en', hm5, q2⟩, q3⟩
  gi_wp2
  have hr5 : W5.heap[W.heap.size]? = some (.mapIter (some m) clk #[en.born] clk) := by
    rw [q1, s2.oth _ (by omega), ← hW3]
    show (W2.heap.push _)[W.heap.size]? = _
    rw [Array.getElem?_push_lt (by omega)]
    simpa [Array.getElem?_eq_getElem (show W.heap.size < W2.heap.size by omega)] using hr2
  rw [← q2] at hr5
  refine loopIn_round ?_
  gi_wp2
  rw [run_next_over hr5 hm5 (by omega)]
  simp only [Result.andThen_ok, Oper.uponIn_value]
  gi_wp2
  go_end0
  exact q3
theorem keys_none : KeysNone Tryz.prog 72 := keys1_none
theorem keys_one : KeysOne Tryz.prog 72 4 := by
  intro n l Bm m clk en W R h1 h2 h3 us h4 h5 h6 h7 h8
  match us, h5, h6, h4, h8 with
  | [k0, k1, k2, k3], _, h6, h4, h8 =>
    exact keys1_one n l Bm m clk en W R h1 h2 h3 k0 k1 k2 k3 h4 (h6 k0 (by simp)) (h6 k1 (by simp)) (h6 k2 (by simp)) (h6 k3 (by simp)) h7 h8
end Go.Proofs.YtfiambjmphjjgaaGreatDoor.Ms
