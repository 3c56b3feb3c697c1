/- Part of a proof: a checked evaluator of the program (functions without a Go text). No condition. -/
import Derived.Test.YtfiambjmphjjgaaGreatDoorMsRun
import Derived.Test.YtfiambjmphjjgaaGreatDoorMsX
import Derived.Laws.LoneSync
/-! functions without a Go text -/
noncomputable section
namespace Go.Proofs.YtfiambjmphjjgaaGreatDoor.Ms
set_option linter.unusedVariables false
set_option linter.unusedSimpArgs false
section
variable {P : Program} {f : Nat} {fn : Func}
theorem setCell1 {g : G} {h : Hp} {nx : Ps} {w : World} (hw : WR g h nx w) (P : Program) {c : Nat} {x : GI} (hc : g c = some x) {s n : Nat} {t t' : T AV} (hg : h.get x.a = some (.c s true n t))
    {o : Nat} {v : AV} {u : Value} (hv : VR g v u) (ho : v.one = true) (hle : o < x.L) (ht : ∀ m, t'.getN m = if m = o then some v else t.getN m) :
    (∃ z, w.cell? ⟨c, o, none⟩ = some z) ∧ w.frozen? ⟨c, o, none⟩ = false ∧ WR g (h.put x.a (.c s true n t')) nx (w.setCell ⟨c, o, none⟩ u) ∧ Ex g nx w g nx (w.setCell ⟨c, o, none⟩ u) := by
  obtain ⟨_, _, _, cc, el, fr, h1, h2, h3, h4, h5⟩ := hw.cells hc hg
  have hlt : o < cc.size := by omega
  have hcell : w.cell? ⟨c, o, none⟩ = some cc[o] := by rw [cell_at h1]; simp [hlt]
  have hfz : w.frozen? ⟨c, o, none⟩ = false := by
    obtain ⟨f1, f2⟩ := fr
    simp only [World.frozen?, h1]
    simp at h4 ⊢
    omega
  obtain ⟨w', r1, r2, r3⟩ := hw.store P hc hg (o := o) (l := [v]) (us := [u]) (.cons _ _ _ _ hv .nil) (by simpa using ho) (by simp; omega) (setN_list ht)
  have hadd : Addr.add ⟨c, o, none⟩ 0 = ⟨c, o, none⟩ := by
    unfold Addr.add; split
    · rfl
    · rfl
  have hrun : (store ⟨c, o, none⟩ u).run P w = .ok () (w.setCell ⟨c, o, none⟩ u) := by
    rw [run_store P w _ u .plain (by rw [hv.one]; exact ho), hcell]
    simp [hfz]
  have : w' = w.setCell ⟨c, o, none⟩ u := by
    simp only [storeCells, Sem.run_bind, hadd, hrun, Result.andThen_ok, Sem.run_pure] at r1
    injection r1 with _ r1
    exact r1.symm
  subst this
  exact ⟨⟨_, hcell⟩, hfz, r2, r3⟩
theorem ext_load (hf : P.funcs[f]? = some fn) (hname : (fn.name == "runtime.NumGoroutine") = false) (hb : fn.body.isNone = true) (hn : Extern.findNext fn = none) (j : IntKind)
    (he : Extern.find fn = some (Extern.Atomic.loadT (.int j))) : ExtOK P f (y_load j) := by
  intro cf _ vs h nx k hk
  unfold y_load at hk
  split at hk
  · obtain ⟨a0, o0, e0, e, hk⟩ := onP_ok hk
    obtain ⟨s, sg, n, t, hg, hk⟩ := hC_ok hk
    obtain ⟨v, hv, hk⟩ := orec hk
    obtain ⟨j', z, e2, hk⟩ := onI_ok hk
    obtain ⟨p1, hk9⟩ := bfalse hk
    obtain ⟨p2, p3⟩ := and_ok p1
    have p4 := kEq_ok p2
    have p5 : 1 ≤ e0 := Nat.le_of_ble_eq_true p3
    subst p4
    subst e2
    subst e
    refine ⟨_, _, _, hk9, fun g us w hu hw => ?_⟩
    cases hu with
    | cons _ u _ us h3 h4 =>
      cases h4
      cases h3 with
      | p c gx _ _ _ hc ha hle =>
        subst ha
        obtain ⟨u, q1, q2, _⟩ := hw.load1 hc hg (o := o0) (by omega) hv
        cases q2
        exact .inl ⟨_, w, .inl (run_call_load hf hname hb hn j he q1), g, .i _ _, hw, .refl _ _ _⟩
  · cases hk
theorem ext_add (hf : P.funcs[f]? = some fn) (hname : (fn.name == "runtime.NumGoroutine") = false) (hb : fn.body.isNone = true) (hn : Extern.findNext fn = none) (j : IntKind)
    (he : Extern.find fn = some (Extern.Atomic.update (Op.intArith .add) j true)) : ExtOK P f (y_add j) := by
  intro cf _ vs h nx k hk
  unfold y_add at hk
  split at hk
  · obtain ⟨jy, y, e1, hk⟩ := onI_ok hk
    obtain ⟨a0, o0, e0, e, hk⟩ := onP_ok hk
    obtain ⟨s, sg, n, t, hg, hk⟩ := hC_ok hk
    obtain ⟨v, hv, hk⟩ := orec hk
    obtain ⟨j', z, e2, hk⟩ := onI_ok hk
    obtain ⟨h1, hk9⟩ := bfalse hk
    obtain ⟨p0, p1⟩ := and_ok h1
    obtain ⟨p2, p3⟩ := and_ok p1
    obtain ⟨p4, p5⟩ := and_ok p3
    have p6 := kEq_ok p2
    have p7 := kEq_ok p4
    have p8 : 1 ≤ e0 := Nat.le_of_ble_eq_true p5
    subst p0; subst p6; subst p7; subst e2; subst e; subst e1
    rw [fI_eq] at hk9
    obtain ⟨t1, hk8, ht1⟩ := T.setN_ok hk9
    simp only [T.setK_eq] at hk8
    refine ⟨_, _, _, hk8, fun g us w hu hw => ?_⟩
    cases hu with
    | cons _ u _ us h4 h5 =>
      cases h5 with
      | cons _ u2 _ us h6 h7 =>
        cases h7
        cases h6
        cases h4 with
        | p c gx _ _ _ hc ha hle =>
          subst ha
          obtain ⟨u, q1, q2, _⟩ := hw.load1 hc hg (o := o0) (by omega) hv
          cases q2
          obtain ⟨_, r1, r2, r3⟩ := setCell1 hw P hc hg (VR.i j _) rfl (by omega) ht1
          refine .inl ⟨_, _, .inl (run_call_add hf hname hb hn j he q1 r1 (s := j.wrap (z + y)) ?_), g, ?_, ?_, ?_⟩
          · simp [Op.intArith]
          · rw [wr_eq]; exact .i _ _
          · rw [wr_eq] at r2; exact r2
          · rw [wr_eq] at r3; exact r3
  · cases hk
theorem ext_sto (hf : P.funcs[f]? = some fn) (hname : (fn.name == "runtime.NumGoroutine") = false) (hb : fn.body.isNone = true) (hn : Extern.findNext fn = none) (j : IntKind)
    (he : Extern.find fn = some Extern.Atomic.storeT) : ExtOK P f (y_sto j) := by
  intro cf _ vs h nx k hk
  unfold y_sto at hk
  split at hk
  · obtain ⟨jy, y, e1, hk⟩ := onI_ok hk
    obtain ⟨a0, o0, e0, e, hk⟩ := onP_ok hk
    obtain ⟨s, sg, n, t, hg, hk⟩ := hC_ok hk
    obtain ⟨h1, hk9⟩ := bfalse hk
    obtain ⟨p0, p1⟩ := and_ok h1
    obtain ⟨p2, p3⟩ := and_ok p1
    have p6 := kEq_ok p2
    have p8 : 1 ≤ e0 := Nat.le_of_ble_eq_true p3
    subst p0; subst p6; subst e; subst e1
    obtain ⟨t1, hk8, ht1⟩ := T.setN_ok hk9
    simp only [T.setK_eq] at hk8
    refine ⟨_, _, _, hk8, fun g us w hu hw => ?_⟩
    cases hu with
    | cons _ u _ us h4 h5 =>
      cases h5 with
      | cons _ u2 _ us h6 h7 =>
        cases h7
        cases h6
        cases h4 with
        | p c gx _ _ _ hc ha hle =>
          subst ha
          obtain ⟨⟨z, q1⟩, r1, r2, r3⟩ := setCell1 hw P hc hg (VR.i j y) rfl (by omega) ht1
          exact .inl ⟨_, _, .inl (run_call_store hf hname hb hn he q1 r1), g, .tup [] [] .nil, r2, r3⟩
  · cases hk
theorem ext_cas (hf : P.funcs[f]? = some fn) (hname : (fn.name == "runtime.NumGoroutine") = false) (hb : fn.body.isNone = true) (hn : Extern.findNext fn = none) (j : IntKind)
    (he : Extern.find fn = some (Extern.Atomic.casT (.int j))) : ExtOK P f (y_cas j) := by
  intro cf _ vs h nx k hk
  unfold y_cas at hk
  split at hk
  · obtain ⟨jy, y, e1, hk⟩ := onI_ok hk
    obtain ⟨jz, z', e3, hk⟩ := onI_ok hk
    obtain ⟨a0, o0, e0, e, hk⟩ := onP_ok hk
    obtain ⟨s, sg, n, t, hg, hk⟩ := hC_ok hk
    obtain ⟨v, hv, hk⟩ := orec hk
    obtain ⟨j', z, e2, hk⟩ := onI_ok hk
    obtain ⟨h1, hk9⟩ := bfalse hk
    obtain ⟨p0, p1⟩ := and_ok h1
    obtain ⟨p2, p3⟩ := and_ok p1
    obtain ⟨p4, p5⟩ := and_ok p3
    obtain ⟨p9, p10⟩ := and_ok p5
    have p6 := kEq_ok p2
    have p7 := kEq_ok p4
    have p11 := kEq_ok p9
    have p8 : 1 ≤ e0 := Nat.le_of_ble_eq_true p10
    subst p0; subst p6; subst p7; subst p11; subst e2; subst e; subst e1; subst e3
    rw [ieq_eq] at hk9
    by_cases hzy : z = y
    · have : (z == y) = true := by simpa using hzy
      rw [this] at hk9
      subst hzy
      obtain ⟨t1, hk8, ht1⟩ := T.setN_ok hk9
      simp only [T.setK_eq] at hk8
      refine ⟨_, _, _, hk8, fun g us w hu hw => ?_⟩
      cases hu with
      | cons _ u _ us h4 h5 =>
        cases h5 with
        | cons _ u2 _ us h6 h7 =>
          cases h7 with
          | cons _ u3 _ us h8 h9 =>
            cases h9
            cases h6
            cases h8
            cases h4 with
            | p c gx _ _ _ hc ha hle =>
              subst ha
              obtain ⟨u, q1, q2, _⟩ := hw.load1 hc hg (o := o0) (by omega) hv
              cases q2
              obtain ⟨_, r1, r2, r3⟩ := setCell1 hw P hc hg (VR.i j z') rfl (by omega) ht1
              exact .inl ⟨_, _, .inl (run_call_cas_hit hf hname hb hn j he q1 r1), g, .b true, r2, r3⟩
    · have : (z == y) = false := by simpa using hzy
      rw [this] at hk9
      have hk8 : k (.b false) h nx = true := hk9
      refine ⟨_, _, _, hk8, fun g us w hu hw => ?_⟩
      cases hu with
      | cons _ u _ us h4 h5 =>
        cases h5 with
        | cons _ u2 _ us h6 h7 =>
          cases h7 with
          | cons _ u3 _ us h8 h9 =>
            cases h9
            cases h6
            cases h8
            cases h4 with
            | p c gx _ _ _ hc ha hle =>
              subst ha
              obtain ⟨u, q1, q2, _⟩ := hw.load1 hc hg (o := o0) (by omega) hv
              cases q2
              obtain ⟨t1, _, ht1⟩ : ∃ t1 : T AV, True ∧ ∀ m, t1.getN m = if m = o0 then some (.i j z) else t.getN m :=
                ⟨t, trivial, fun m => by by_cases e : m = o0 <;> simp [e, hv]⟩
              obtain ⟨_, r1, _, _⟩ := setCell1 hw P hc hg (VR.i j z) rfl (by omega) ht1
              exact .inl ⟨_, _, .inl (run_call_cas_miss hf hname hb hn j he q1 r1 hzy), g, .b false, hw, .refl _ _ _⟩
  · cases hk
theorem ext_mark0 (hf : P.funcs[f]? = some fn) (hname : (fn.name == "runtime.NumGoroutine") = false) (hb : fn.body.isNone = true) (hn : Extern.findNext fn = none) (m : Mark)
    (he : Extern.find fn = some (fun _ => do mark m; pure Extern.Race.none_)) : ExtOK P f y_mark0 := by
  intro cf _ vs h nx k hk
  unfold y_mark0 at hk
  split at hk
  · refine ⟨_, _, _, hk, fun g us w hu hw => ?_⟩
    cases hu
    exact .inl ⟨_, w, .inl (run_call_mark0 hf hname hb hn m he w), g, .tup [] [] .nil, hw, .refl _ _ _⟩
  · cases hk
theorem ext_mark1 (hf : P.funcs[f]? = some fn) (hname : (fn.name == "runtime.NumGoroutine") = false) (hb : fn.body.isNone = true) (hn : Extern.findNext fn = none) (m : Addr → Mark)
    (he : Extern.find fn = some (Extern.Race.marked m)) : ExtOK P f y_mark1 := by
  intro cf _ vs h nx k hk
  unfold y_mark1 at hk
  split at hk
  · obtain ⟨a0, o0, e0, e, hk9⟩ := onP_ok hk
    refine ⟨_, _, _, hk9, fun g us w hu hw => ?_⟩
    subst e
    cases hu with
    | cons _ u _ us h3 h4 =>
      cases h4
      cases h3
      exact .inl ⟨_, w, .inl (run_call_marked hf hname hb hn m he _ w), g, .tup [] [] .nil, hw, .refl _ _ _⟩
  · cases hk
end
end Go.Proofs.YtfiambjmphjjgaaGreatDoor.Ms
