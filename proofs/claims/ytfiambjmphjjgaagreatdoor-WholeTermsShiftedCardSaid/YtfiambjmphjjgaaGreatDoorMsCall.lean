/- Part of a proof: a checked evaluator of the program (calls). No condition. -/
import Derived.Test.YtfiambjmphjjgaaGreatDoorMsApp3
/-! calls -/
noncomputable section
namespace Go.Proofs.YtfiambjmphjjgaaGreatDoor.Ms
set_option linter.unusedVariables false
set_option linter.unusedSimpArgs false
section
variable {P : Program} {cands : List Nat}
theorem StepR.congr {s s' : Sem Next} {w : World} {R : Value → World → Prop} (h : StepR P s w R) (e : s'.run P w = s.run P w) : StepR P s' w R := by
  rcases h with ⟨u, w', h1, h2⟩ | ⟨f, args, h1, h2⟩
  · exact .inl ⟨u, w', by rw [e]; exact h1, h2⟩
  · exact .inr ⟨f, args, by rw [e]; exact h1, h2⟩
theorem args_vrs {g : G} {env : Env} {a : Act} {xs : List Operand} {ys : List O} (h : xs.mapM trO = some ys) (hx : ∀ x ∈ xs, OpR g env a x) : VRs g ((ys.map dO).map (· env)) (xs.map a.eval) := by
  have := mapM_opR (g := g) (env := env) (a := a) h hx
  rw [List.map_map]
  simpa [Function.comp_def] using this
theorem ac_call {c : Call} {f : Nat} {ys : List O} (hc : c.callee = .value (.func f)) (ha : c.args.toList.mapM trO = some ys) : AcS P (.call c) (a_call f (ys.map dO)) := by
  intro cf hcf env h nx k hk
  have hk' : evs env (ys.map dO) (fun vs => cf f vs h nx k) = true := hk
  rw [evs_eq] at hk'
  obtain ⟨v, h', nx', hk, hcall⟩ := hcf _ _ _ _ _ hk'
  refine ⟨v, h', nx', hk, fun g a w o ho hx hw => ?_⟩
  have hv := args_vrs (g := g) (env := env) (a := a) ha (fun x hx' => hx x (by simp [Op.operands, Call.operands, hc]; exact .inr (by simpa using hx')))
  refine (hcall g _ w hv hw).congr ?_
  have : (c.args.toList.map a.eval).toArray = c.args.map a.eval := Array.ext' (by simp)
  rw [this]
  simp [execOp, ho, resolve, hc, Act.eval, Deferred.ofValue, invoke]
theorem ac_callv {c : Call} {x : Operand} {x' : O} {ys : List O} (hc : c.callee = .value x) (hx' : trO x = some x') (ha : c.args.toList.mapM trO = some ys) : AcS P (.call c) (a_callv (dO x') (ys.map dO)) := by
  intro cf hcf env h nx k hk
  obtain ⟨fn, fs, cs, e, hk⟩ := onF_ok hk
  cases fn with
  | func f =>
    have hk' : evs env (ys.map dO) (fun vs => cf f (fs ++ (vs ++ cs)) h nx k) = true := hk
    rw [evs_eq] at hk'
    obtain ⟨v, h', nx', hk, hcall⟩ := hcf _ _ _ _ _ hk'
    refine ⟨v, h', nx', hk, fun g a w o ho hx hw => ?_⟩
    have hv := args_vrs (g := g) (env := env) (a := a) ha (fun x hx' => hx x (by simp [Op.operands, Call.operands, hc]; exact .inr (by simpa using hx')))
    have h1 := hx x (by simp [Op.operands, Call.operands, hc]) x' hx'
    rw [e] at h1
    generalize hz : a.eval x = z at h1
    cases h1 with
    | f _ _ _ us ds hf hd =>
      refine (hcall g _ w (hf.append (hv.append hd)) hw).congr ?_
      have : (us ++ (c.args.toList.map a.eval ++ ds)).toArray = Array.mk us ++ c.args.map a.eval ++ Array.mk ds := Array.ext' (by simp)
      rw [this]
      simp [execOp, ho, resolve, hc, hz, Deferred.ofValue, invoke]
  | _ => cases hk
theorem okMethod_ok {name : String} {t' : Nat} {r : Tb} (h : okMethod P name t' = some r) (w : World) (v : Value) : r.t = t' ∧ (method (P.types.size + Made.depth) t' v name).run P w = .ok (r.f, v) w := by
  unfold okMethod at h
  obtain ⟨i, hi, h⟩ := obind h
  obtain ⟨m, hm, h⟩ := obind h
  split at h
  · cases h
  · rename_i hp
    obtain ⟨f, hf, h⟩ := obind h
    split at h
    · cases h
    · rename_i hb
      split at h
      · rename_i e hu
        injection h with h
        subst h
        refine ⟨rfl, ?_⟩
        obtain ⟨n, hn⟩ : ∃ n, P.types.size + Made.depth = n + 1 := ⟨P.types.size + Made.depth - 1, by unfold Made.depth; omega⟩
        have hpe : m.path = #[] := by simpa using hp
        obtain ⟨f1, f2⟩ := f
        have hf2 : f2 = true := by simpa using hb
        subst hf2
        rw [hn]
        simp only [method, Sem.run_bind, run_info hi, Result.andThen_ok, hm, hpe, follow, Sem.run_pure, hf, receiverAt, run_und hu, Place.get]
      · cases h
theorem ac_inv {c : Call} {x : Operand} {x' : O} {ys : List O} {name : String} (hc : c.callee = .invoke x name) (hx' : trO x = some x') (ha : c.args.toList.mapM trO = some ys) :
    AcS P (.call c) (a_inv (cands.filterMap (okMethod P name)) (dO x') (ys.map dO)) := by
  intro cf hcf env h nx k hk
  rcases onIf_ok hk with ⟨_, hk⟩ | ⟨t, rv, e, hk⟩
  · cases hk
  · obtain ⟨f, hm, hk⟩ := lookN_ok hk
    rw [evs_eq] at hk
    obtain ⟨v, h', nx', hk, hcall⟩ := hcf _ _ _ _ _ hk
    refine ⟨v, h', nx', hk, fun g a w o ho hx hw => ?_⟩
    have hv := args_vrs (g := g) (env := env) (a := a) ha (fun x hx' => hx x (by simp [Op.operands, Call.operands, hc]; exact .inr (by simpa using hx')))
    have h1 := hx x (by simp [Op.operands, Call.operands, hc]) x' hx'
    rw [e] at h1
    generalize hz : a.eval x = z at h1
    cases h1 with
    | ifc _ _ u hu =>
      refine (hcall g _ w (.cons _ _ _ _ hu hv) hw).congr ?_
      obtain ⟨t', _, hmm⟩ := List.mem_filterMap.1 hm
      obtain ⟨e1, e2⟩ := okMethod_ok hmm w u
      have e1 : t = t' := e1
      subst e1
      have : (u :: c.args.toList.map a.eval).toArray = #[u] ++ c.args.map a.eval := Array.ext' (by simp)
      rw [this]
      generalize hM : c.args.map a.eval = M
      have hx0 : #[Value.iface t u] ++ M = (Value.iface t u :: M.toList).toArray := Array.ext' (by simp)
      have hx1 : (Value.iface t u :: M.toList).toArray[0]? = some (Value.iface t u) := rfl
      have hx2 : (Value.iface t u :: M.toList).toArray.extract 1 (Value.iface t u :: M.toList).toArray.size = M := Array.ext' (by simp; exact List.take_of_length_le (by simp))
      simp only [execOp, ho, resolve, hc, hz, hM, Sem.run_bind, Sem.run_pure, Result.andThen_ok, invoke, hx0, hx1, hx2, callMethod, run_program, e2]
end
end Go.Proofs.YtfiambjmphjjgaaGreatDoor.Ms
