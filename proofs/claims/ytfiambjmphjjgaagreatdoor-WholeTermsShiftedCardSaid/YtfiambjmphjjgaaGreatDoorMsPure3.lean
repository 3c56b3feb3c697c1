/- Part of a proof: a checked evaluator of the program (operations that only compute: the rest). No condition. -/
import Derived.Test.YtfiambjmphjjgaaGreatDoorMsPure2
import Derived.Laws.Tables
/-! operations that only compute: the rest -/
noncomputable section
namespace Go.Proofs.YtfiambjmphjjgaaGreatDoor.Ms
set_option linter.unusedVariables false
set_option linter.unusedSimpArgs false
/-- cells put over others, one by one -/
theorem fold_put (off : Nat) : ∀ (l : List Value) (k : Nat) (cs : Array Value), off + k + l.length ≤ cs.size →
    ((l.zipIdx k).foldl (fun (cs : Array Value) (p : Value × Nat) => cs.setIfInBounds (off + p.2) p.1) cs).size = cs.size ∧
    ∀ i, ((l.zipIdx k).foldl (fun (cs : Array Value) (p : Value × Nat) => cs.setIfInBounds (off + p.2) p.1) cs)[i]? = if off + k ≤ i ∧ i < off + k + l.length then l[i - (off + k)]? else cs[i]? := by
  intro l
  induction l with
  | nil => intro k cs h; exact ⟨rfl, fun i => by simp; intro _ _; omega⟩
  | cons v l ih =>
    intro k cs h
    simp only [List.length_cons] at h
    obtain ⟨h1, h2⟩ := ih (k + 1) (cs.setIfInBounds (off + k) v) (by simp; omega)
    rw [List.zipIdx_cons, List.foldl_cons]
    refine ⟨by rw [h1]; simp, fun i => ?_⟩
    rw [h2]
    by_cases e : i = off + k
    · subst e
      have e1 : ¬ (off + (k + 1) ≤ off + k ∧ off + k < off + (k + 1) + l.length) := by omega
      have e2 : off + k ≤ off + k ∧ off + k < off + k + (v :: l).length := by simp
      rw [if_neg e1, if_pos e2]
      have : off + k < cs.size := by omega
      simp [this]
    · by_cases e1 : off + (k + 1) ≤ i ∧ i < off + (k + 1) + l.length
      · have e2 : off + k ≤ i ∧ i < off + k + (v :: l).length := by simp; omega
        rw [if_pos e1, if_pos e2, show i - (off + k) = (i - (off + (k + 1))) + 1 by omega]; rfl
      · have e2 : ¬ (off + k ≤ i ∧ i < off + k + (v :: l).length) := by simp; omega
        rw [if_neg e1, if_neg e2, Array.getElem?_setIfInBounds_ne (Ne.symm e)]
theorem put_cells (off : Nat) (vs cs : Array Value) (h : off + vs.size ≤ cs.size) :
    (vs.zipIdx.foldl (fun (cs : Array Value) (p : Value × Nat) => match p with | (c, j) => cs.setIfInBounds (off + j) c) cs) = (cs.toList.take off ++ (vs.toList ++ cs.toList.drop (off + vs.size))).toArray := by
  have h1 := fold_put off vs.toList 0 cs (by simpa using h)
  have e : vs.zipIdx.foldl (fun (cs : Array Value) (p : Value × Nat) => match p with | (c, j) => cs.setIfInBounds (off + j) c) cs = ((vs.toList.zipIdx 0).foldl (fun (cs : Array Value) (p : Value × Nat) => cs.setIfInBounds (off + p.2) p.1) cs) := by
    rw [← Array.foldl_toList, Array.toList_zipIdx]
  rw [e]
  apply Array.ext_getElem?
  intro i
  rw [h1.2 i]
  simp only [Nat.add_zero, Array.length_toList, List.getElem?_toArray]
  by_cases e1 : i < off
  · have : ¬ (off ≤ i ∧ i < off + vs.size) := by omega
    rw [if_neg this, List.getElem?_append_left (by simp; omega)]
    simp [e1]
  · rw [List.getElem?_append_right (by simp; omega)]
    have h0 : (List.take off cs.toList).length = off := by simp; omega
    rw [h0]
    by_cases e2 : i < off + vs.size
    · rw [if_pos ⟨by omega, e2⟩, List.getElem?_append_left (by simp; omega)]
    · have : ¬ (off ≤ i ∧ i < off + vs.size) := by omega
      rw [if_neg this, List.getElem?_append_right (by simp; omega)]
      simp [List.getElem?_drop]
      congr 1; omega
section
variable {P : Program} {cands : List Nat} {mnames : List String}
theorem cells_ok {g : G} {v : AV} {u : Value} (h : VR g v u) {k : List AV → Bool} (hk : v.onCells k = true) : ∃ l, k l = true ∧ VRs g l u.cells.toList ∧ (∀ x ∈ l, x.one = true) ∧ (v = .agg l ∨ (v.one = true ∧ l = [v])) := by
  rcases onCells_ok hk with ⟨l, rfl, hk⟩ | ⟨h1, hk⟩
  · cases h with
    | agg _ us h ho =>
      refine ⟨l, hk, h, fun x hx => ?_, .inl rfl⟩
      obtain ⟨i, hi, e⟩ := List.getElem_of_mem hx
      obtain ⟨u', e', hv⟩ := h.get (i := i) (v := x) (by simp [hi, e])
      rw [← hv.one]; exact ho _ (List.mem_of_getElem? e')
  · refine ⟨[v], hk, ?_, by simpa using h1, .inr ⟨h1, rfl⟩⟩
    have : u.cells.toList = [u] := by cases h <;> first | rfl | cases h1
    rw [this]; exact .cons _ _ _ _ h .nil
theorem trParts_cons {place : Nat → Option (Nat × Nat)} {p : Nat × Operand} {ps : List (Nat × Operand)} {r : List (Nat × Nat × O)} (h : trParts place (p :: ps) = some r) :
    ∃ o n y r', place p.1 = some (o, n) ∧ trO p.2 = some y ∧ n ≠ 0 ∧ trParts place ps = some r' ∧ r = (o, n, y) :: r' := by
  unfold trParts at h
  rw [List.mapM_cons] at h
  obtain ⟨q, h1, h⟩ := obind h
  obtain ⟨r', h2, h⟩ := obind h
  obtain ⟨⟨o, n⟩, h3, h1⟩ := obind h1
  obtain ⟨y, h4, h1⟩ := obind h1
  split at h1
  · cases h1
  · rename_i hn
    injection h1 with h1; injection h with h
    subst h1; subst h
    exact ⟨o, n, y, r', h3, h4, hn, h2, rfl⟩
theorem fill_ok {place : Nat → Option (Nat × Nat)} {env : Env} : ∀ {ps : List (Nat × Operand)} {r : List (Nat × Nat × O)} {z : List AV} {k : List AV → Bool},
    trParts place ps = some r → fillK env z (r.map dPt) k = true →
    ∃ l, k l = true ∧ l.length = z.length ∧ ∀ g (a : Act) (zc : List Value), VRs g z zc → (∀ x ∈ z, x.one = true) → (∀ p ∈ ps, OpR g env a p.2) →
      ∃ lc, Instr.fill place zc.toArray (ps.map fun p => (p.1, a.eval p.2)) = some lc.toArray ∧ VRs g l lc ∧ ∀ x ∈ l, x.one = true := by
  intro ps
  induction ps with
  | nil =>
    intro r z k h hk
    have : r = [] := by simpa [trParts] using h.symm
    subst this
    exact ⟨z, hk, rfl, fun g a zc h ho _ => ⟨zc, rfl, h, ho⟩⟩
  | cons p ps ih =>
    intro r z k h hk
    obtain ⟨o, n, y, r', h1, h2, h3, h4, rfl⟩ := trParts_cons h
    have hk' : (dO y env).onCells (fun l => lenL l fun m => Bool.rec (motive := fun _ => Bool) false (overK z o l fun z => fillK env z (r'.map dPt) k) (Nat.beq m n)) = true := hk
    have key : ∃ l0, (lenL l0 fun m => Bool.rec (motive := fun _ => Bool) false (overK z o l0 fun z => fillK env z (r'.map dPt) k) (Nat.beq m n)) = true ∧
        ((dO y env = .agg l0) ∨ ((dO y env).one = true ∧ l0 = [dO y env])) := by
      rcases onCells_ok hk' with ⟨l0, e, hk⟩ | ⟨e, hk⟩
      · exact ⟨l0, hk, .inl e⟩
      · exact ⟨_, hk, .inr ⟨e, rfl⟩⟩
    obtain ⟨l0, hk0, hl0⟩ := key
    rw [lenL_eq] at hk0
    obtain ⟨hn, hk0⟩ := bfalse hk0
    have hn : l0.length = n := Nat.eq_of_beq_eq_true hn
    obtain ⟨hle, hk0⟩ := overK_ok hk0
    have hcells : ∀ g u, VR g (dO y env) u → VRs g l0 u.cells.toList ∧ ∀ x ∈ l0, x.one = true := by
      intro g u hu
      rcases hl0 with e | ⟨e, rfl⟩
      · rw [e] at hu
        obtain ⟨l, hkl, h5, h6, h7⟩ := cells_ok hu (k := fun l => decide (l.length = l0.length)) (by simp [AV.onCells])
        rcases h7 with h7 | ⟨h7, _⟩
        · injection h7 with h7; subst h7; exact ⟨h5, h6⟩
        · cases h7
      · obtain ⟨l, hkl, h5, h6, h7⟩ := cells_ok hu (k := fun _ => true) (by cases hh : dO y env <;> first | rfl | (rw [hh] at e; cases e))
        rcases h7 with h7 | ⟨_, h7⟩
        · rw [h7] at e; cases e
        · subst h7; exact ⟨h5, h6⟩
    obtain ⟨l, hkl, hlen, hl⟩ := ih h4 hk0
    refine ⟨l, hkl, by rw [hlen]; simp; omega, fun g a zc hz hzo hop => ?_⟩
    obtain ⟨hu, huo⟩ := hcells g (a.eval p.2) (hop p (by simp) y h2)
    have hsz : (a.eval p.2).cells.size = n := by have := hu.length; simp at this; omega
    have hzl := hz.length
    obtain ⟨lc, e1, e2, e3⟩ := hl g a (zc.take o ++ ((a.eval p.2).cells.toList ++ zc.drop (o + l0.length))) ((hz.take o).append (hu.append (hz.drop _)))
      (fun x hx => by
        rcases List.mem_append.1 hx with hx | hx
        · exact hzo x (List.mem_of_mem_take hx)
        · rcases List.mem_append.1 hx with hx | hx
          · exact huo x hx
          · exact hzo x (List.mem_of_mem_drop hx)) (fun q hq => hop q (by simp [hq]))
    refine ⟨lc, ?_, e2, e3⟩
    rw [List.map_cons]
    show (match place p.1 with
      | none => none
      | some (off, size) => if (a.eval p.2).cells.size ≠ size || off + (a.eval p.2).cells.size > zc.toArray.size then none
        else Instr.fill place ((a.eval p.2).cells.zipIdx.foldl (fun cs (c, j) => cs.setIfInBounds (off + j) c) zc.toArray) (ps.map fun (p : Nat × Operand) => (p.1, a.eval p.2))) = _
    rw [h1]
    have hc : ((a.eval p.2).cells.size ≠ n || o + (a.eval p.2).cells.size > zc.toArray.size) = false := by simp [hsz]; omega
    simp only [hc]
    rw [put_cells o _ _ (by simp; omega), hsz]
    rw [← hn]
    exact e1
theorem zeroT_ok {t : TypeId} {z : List AV} (h : zeroT P t = some z) : ∃ i zv, P.info? t = some i ∧ i.zero = some zv ∧ zv.cells.size = i.size ∧ z.length = i.size ∧ ∀ g, VRs g z zv.cells.toList ∧ ∀ x ∈ z, x.one = true := by
  unfold zeroT at h
  obtain ⟨i, h1, h⟩ := obind h
  obtain ⟨zv, h2, h⟩ := obind h
  obtain ⟨l, h3, h⟩ := obind h
  split at h
  · rename_i hl
    injection h with h; subst h
    have hg : ∀ g, VRs g l zv.cells.toList ∧ ∀ x ∈ l, x.one = true := fun g => by
      obtain ⟨a1, a2⟩ := VRs.of_flat (g := g) h3
      refine ⟨a1, fun x hx => ?_⟩
      obtain ⟨j, hj, e⟩ := List.getElem_of_mem hx
      obtain ⟨u', e', hv⟩ := a1.get (i := j) (v := x) (by simp [hj, e])
      rw [← hv.one]; exact a2 _ (List.mem_of_getElem? e')
    have := (hg (fun _ => none)).1.length
    exact ⟨i, zv, h1, h2, by simp at this; omega, hl, hg⟩
  · cases h
/-- the parts' values -/
theorem parts_map (a : Act) (ps : Array (Nat × Operand)) : (ps.map fun p => match p with | (i, x) => (i, a.eval x)).toList = ps.toList.map fun p => (p.1, a.eval p.2) := by simp
theorem parts_op {t : TypeId} {ps : Array (Nat × Operand)} {g : G} {env : Env} {a : Act} (h : ∀ x ∈ (Op.build t ps).operands, OpR g env a x) : ∀ p ∈ ps.toList, OpR g env a p.2 :=
  fun p hp => h p.2 (by simp only [Op.operands, List.mem_toArray, List.mem_map]; exact ⟨p, hp, rfl⟩)
theorem pv_bld {t : TypeId} {ps : Array (Nat × Operand)} {x : DP} (h : trP P cands mnames (.build t ps) = some x) : PvS P (.build t ps) (dP x) := by
  simp only [trP] at h
  obtain ⟨z, hz, h⟩ := obind h
  obtain ⟨i, zv, hi, hzv, hsz, hzl, hzz⟩ := zeroT_ok hz
  have main : ∀ (place : Nat → Option (Nat × Nat)) r, trParts place ps.toList = some r → (∀ parts, P.built t parts = Instr.fill place zv.cells parts) → PvS P (.build t ps) (p_bld z (r.map dPt)) := by
    intro place r hr hb env k hk
    obtain ⟨l, h1, h2, h3⟩ := fill_ok hr hk
    refine ⟨_, h1, fun g a w o ho hx => ?_⟩
    obtain ⟨lc, e1, e2, e3⟩ := h3 g a zv.cells.toList (hzz g).1 (hzz g).2 (parts_op hx)
    refine ⟨.agg lc.toArray, ?_, .agg l lc e2 fun u hu => ?_⟩
    · have hrun : (Instr.build t (ps.map fun p => match p with | (i, x) => (i, a.eval x))).run P w = .ok (.agg lc.toArray) w :=
        run_build w t _ _ (by rw [hb, parts_map]; simpa using e1)
      simp only [execOp, ho, Sem.run_bind, hrun, Result.andThen_ok, Sem.run_pure]
    · obtain ⟨j, hj, e⟩ := List.getElem_of_mem hu
      have hj' : j < l.length := by rw [← e2.length]; exact hj
      obtain ⟨u', e', hv⟩ := e2.get (i := j) (v := l[j]) (by simp [hj'])
      have : u' = u := by simpa [hj, e] using e'.symm
      subst this
      rw [hv.one]; exact e3 _ (List.getElem_mem hj')
  split at h
  · rename_i fs hu
    obtain ⟨places, hp, h⟩ := obind h
    obtain ⟨r, hr, rfl⟩ := omap h
    exact main _ r hr fun parts => by simp [Program.built, hi, hu, hzv, hp]
  · rename_i n e hu
    obtain ⟨ie, hie, h⟩ := obind h
    obtain ⟨r, hr, rfl⟩ := omap h
    exact main _ r hr fun parts => by simp [Program.built, hi, hu, hzv, hie]
  · cases h
end
end Go.Proofs.YtfiambjmphjjgaaGreatDoor.Ms
