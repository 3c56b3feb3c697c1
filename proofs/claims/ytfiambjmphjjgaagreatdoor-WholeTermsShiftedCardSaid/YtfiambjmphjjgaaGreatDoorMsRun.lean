/- Part of a proof: a checked evaluator of the program (functions). No condition. -/
import Derived.Test.YtfiambjmphjjgaaGreatDoorMsIc
import Derived.Defers
/-! functions -/
noncomputable section
namespace Go.Proofs.YtfiambjmphjjgaaGreatDoor.Ms
set_option linter.unusedVariables false
set_option linter.unusedSimpArgs false
section
variable {P : Program} {cands : List Nat} {mnames : List String}
theorem bindK_ok : ∀ (m k : Nat) {vs : List AV} {env : Env} {K : Env → Bool}, k + m ≤ 256 → bindK ((List.range' k m).map sT) vs env K = true →
    vs.length = m ∧ ∃ env', K env' = true ∧ ∀ n, n < 256 → Env.at env' n = if k ≤ n ∧ n < k + m then vs.getD (n - k) undA else Env.at env n := by
  intro m
  induction m with
  | zero =>
    intro k vs env K _ h
    cases vs with
    | nil => exact ⟨rfl, env, h, fun n _ => by rw [if_neg (by omega)]⟩
    | cons _ _ => cases h
  | succ m ih =>
    intro k vs env K hle h
    rw [List.range'_succ, List.map_cons] at h
    cases vs with
    | nil => cases h
    | cons v vs =>
      have h' : sT k v env (fun env => bindK ((List.range' (k + 1) m).map sT) vs env K) = true := h
      rw [sAll k (by omega)] at h'
      obtain ⟨h1, env', h2, h3⟩ := ih (k + 1) (by omega) h'
      refine ⟨by simp [h1], env', h2, fun n hn => ?_⟩
      rw [h3 n hn, Env.at_put _ _ _ _ (by omega) hn]
      by_cases e : n = k
      · subst e
        rw [if_neg (by omega), if_pos rfl, if_pos (by omega), Nat.sub_self]; rfl
      · by_cases e2 : k + 1 ≤ n ∧ n < k + 1 + m
        · rw [if_pos e2, if_pos (by omega)]
          have : n - k = (n - (k + 1)) + 1 := by omega
          rw [this]; rfl
        · rw [if_neg e2, if_neg e, if_neg (by omega)]
theorem env0_at (n : Nat) (hn : n < 256) : Env.at env0 n = undA := by
  have h1 : ∀ i, env8.g i = env4 := fun i => by unfold N8.g; split <;> rfl
  have h2 : ∀ i, env4.g i = undA := fun i => by unfold N4.g; split <;> rfl
  have h3 : ∀ i, N8.g env0 i = env8 := fun i => by unfold N8.g; split <;> rfl
  unfold Env.at
  rw [h3, h1, h2]
/-- one result -/
theorem res_ok {r : ResultVar} {d : DV} (hr : trV P r = some d) {env : Env} {h : Hp} {k : AV → Bool} (hk : dV d env h k = true) : ∃ v, k v = true ∧ ∀ g nx (tmps : Array Value) w, (∀ n, n < 256 → VR g (Env.at env n) (tmps.getD n undef)) → WR g h nx w →
    ∃ u, ((match r with | .tmp t => pure (tmps.getD t undef) | .cell a t => do loadVar t (← asAddr (tmps.getD a undef)) : Sem Value)).run P w = .ok u w ∧ VR g v u := by
  cases r with
  | tmp t =>
    simp only [trV] at hr
    split at hr
    · rename_i ht
      injection hr with hr; subst hr
      have hk : k (tT t env) = true := hk
      rw [tAll t ht] at hk
      exact ⟨_, hk, fun g nx tmps w hv hw => ⟨_, rfl, hv t ht⟩⟩
    · cases hr
  | cell a t =>
    simp only [trV] at hr
    obtain ⟨s, hs, hr⟩ := obind hr
    obtain ⟨b, hb, hr⟩ := obind hr
    split at hr
    · rename_i ha
      injection hr with hr; subst hr
      cases b with
      | false =>
        have hk : r_ld (tT a) env h k = true := hk
        obtain ⟨a0, o0, e0, e, hk⟩ := onP_ok hk
        obtain ⟨s', sg, n, t', hg, hk⟩ := hC_ok hk
        obtain ⟨h1, hk⟩ := bfalse hk
        have h1 : 1 ≤ e0 := Nat.le_of_ble_eq_true h1
        obtain ⟨v, hv, hk⟩ := orec hk
        refine ⟨v, hk, fun g nx tmps w hev hw => ?_⟩
        have h2 := hev a ha
        have e : Env.at env a = .p a0 o0 e0 := by rw [tAll a ha] at e; exact e
        rw [e] at h2
        generalize hz : tmps.getD a undef = z at h2
        cases h2 with
        | p c gx _ _ _ hc ha he =>
          subst ha
          obtain ⟨u, hu, hvu, _⟩ := hw.load1 hc hg (o := o0) (by omega) hv
          refine ⟨u, ?_, hvu⟩
          simp only [hz, asAddr, loadVar, Sem.run_bind, Sem.run_pure, Result.andThen_ok, run_agg hb]
          simp [hu]
      | true =>
        have hk : r_ldn s (tT a) env h k = true := hk
        obtain ⟨a0, o0, e0, e, hk⟩ := onP_ok hk
        obtain ⟨s', sg, n, t', hg, hk⟩ := hC_ok hk
        obtain ⟨h1, hk⟩ := bfalse hk
        have h1 : s ≤ e0 := Nat.le_of_ble_eq_true h1
        obtain ⟨l, hk, hlen, hgl⟩ := ldK_ok hk
        refine ⟨_, hk, fun g nx tmps w hev hw => ?_⟩
        have h2 := hev a ha
        have e : Env.at env a = .p a0 o0 e0 := by rw [tAll a ha] at e; exact e
        rw [e] at h2
        generalize hz : tmps.getD a undef = z at h2
        cases h2 with
        | p c gx _ _ _ hc ha he =>
          subst ha
          obtain ⟨u, hr, hv⟩ := loadVar_agg hw hb hs hc hg hlen (by omega) hgl
          refine ⟨u, ?_, hv⟩
          simp only [hz, asAddr, Sem.run_bind, Sem.run_pure, Result.andThen_ok, hr]
    · cases hr
theorem resK_ok : ∀ {rs : List ResultVar} {ds : List DV}, rs.mapM (trV P) = some ds → ∀ {env : Env} {h : Hp} {k : List AV → Bool}, resK (ds.map dV) env h k = true →
    ∃ vs, k vs = true ∧ ∀ g nx (tmps : Array Value) w, (∀ n, n < 256 → VR g (Env.at env n) (tmps.getD n undef)) → WR g h nx w →
      ∃ us, (rs.mapM (fun r => (match r with | .tmp t => pure (tmps.getD t undef) | .cell a t => do loadVar t (← asAddr (tmps.getD a undef)) : Sem Value))).run P w = .ok us w ∧ VRs g vs us := by
  intro rs
  induction rs with
  | nil =>
    intro ds h env hp k hk
    simp at h
    subst h
    exact ⟨[], hk, fun g nx tmps w _ _ => ⟨[], rfl, .nil⟩⟩
  | cons r rs ih =>
    intro ds h env hp k hk
    rw [List.mapM_cons] at h
    obtain ⟨d, h1, h⟩ := obind h
    obtain ⟨ds', h2, h⟩ := obind h
    injection h with h; subst h
    have hk : dV d env hp (fun v => resK (ds'.map dV) env hp fun vs => k (v :: vs)) = true := hk
    obtain ⟨v, hk, hs⟩ := res_ok h1 hk
    obtain ⟨vs, hk, hss⟩ := ih h2 hk
    refine ⟨v :: vs, hk, fun g nx tmps w hev hw => ?_⟩
    obtain ⟨u, r1, r2⟩ := hs g nx tmps w hev hw
    obtain ⟨us, r3, r4⟩ := hss g nx tmps w hev hw
    refine ⟨u :: us, ?_, .cons _ _ _ _ r2 r4⟩
    rw [List.mapM_cons]
    simp only [Sem.run_bind, r1, r3, Result.andThen_ok, Sem.run_pure]
theorem resV_ok {g : G} {vs : List AV} {us : List Value} (h : VRs g vs us) : VR g (resV vs) (if h : us.toArray.size = 1 then us.toArray[0] else .tuple us.toArray) := by
  cases h with
  | nil => exact .tup [] [] .nil
  | cons v u l us h hs =>
    cases hs with
    | nil => exact h
    | cons v2 u2 l us h2 hs =>
      have : ¬ (u :: u2 :: us).toArray.size = 1 := by simp
      rw [dif_neg this]
      exact .tup _ _ (.cons _ _ _ _ h (.cons _ _ _ _ h2 hs))
/-- a function that is entered as a deferred call -/
def DOK (P : Program) (cf : CF) (f : Nat) : Prop := ∀ vs h nx k, cf f vs h nx k = true → ∃ v h' nx', k v h' nx' = true ∧ ∀ g us w u, VRs g vs us → WR g h nx w →
  CallsD P f us.toArray u w fun e u' w' => u' = u ∧ ∃ z, e = .returned z ∧ Does g nx w v h' nx' z w'
/-- what a table of functions must be -/
def ExtOK (P : Program) (f : Nat) (e : Xf) : Prop := ∀ cf, CallsOK P cf → ∀ vs h nx k, e cf vs h nx k = true → ∃ v h' nx', k v h' nx' = true ∧ ∀ g us w, VRs g vs us → WR g h nx w → StepR P (callFunc f us.toArray) w (Does g nx w v h' nx')
def ExtD (P : Program) (ds : List Nat) (f : Nat) (e : Xf) : Prop := ∀ cf, CallsOK P cf → (∀ f ∈ ds, DOK P cf f) → ∀ vs h nx k, e cf vs h nx k = true → ∃ v h' nx', k v h' nx' = true ∧ ∀ g us w, VRs g vs us → WR g h nx w → StepR P (callFunc f us.toArray) w (Does g nx w v h' nx')
theorem ExtOK.d {f : Nat} {e : Xf} (h : ExtOK P f e) (ds : List Nat) : ExtD P ds f e := fun cf hcf _ => h cf hcf
def FeOK (P : Program) (cands : List Nat) (mnames : List String) (ds : List Nat) (f : Nat) : FE → Prop
  | .ext e => f ∉ ds ∧ ExtD P ds f e
  | fe => ∃ fn d, P.funcs[f]? = some fn ∧ (fn.name == "runtime.NumGoroutine") = false ∧ trF P cands mnames fn = some d ∧ dF d = fe
def TabOK (P : Program) (cands : List Nat) (mnames : List String) (ds : List Nat) (tab : T FE) : Prop := ∀ f fe, tab.getN f = some fe → FeOK P cands mnames ds f fe
/-- a function's code -/
theorem code_wp (hmix : P.follows .mixedOrders = true) {cf : CF} (ih : CallsOK P cf) {lf : Nat} {fn : Func} {d : DF} (h3 : trF P cands mnames fn = some d) {np : List Dv} {body : IC} {res : List Rd} (h4 : dF d = .code np body res)
    {vs : List AV} {h : Hp} {nx : Ps} {k : KV} (hk : bindK np vs env0 (fun env => icK cf lf body env h nx fun x env h nx =>
        X.rec (resK res env h fun rs => k (resV rs) h nx) (fun _ => false) (resK res env h fun rs => k (resV rs) h nx) x) = true) :
    ∃ b, fn.body = some b ∧ ∃ v h' nx', k v h' nx' = true ∧ ∀ g us w, VRs g vs us → WR g h nx w →
      b.wp P (bodyPost P fn fun e w' => ∃ z, e = .returned z ∧ Does g nx w v h' nx' z w') { tmps := us.toArray ++ Array.replicate (fn.ntmps - us.toArray.size) undef, defers := [] } w := by
  unfold trF at h3
  obtain ⟨b, hb, h3⟩ := obind h3
  split at h3
  · cases h3
  · rename_i hsz
    obtain ⟨dc, hdc, h3⟩ := obind h3
    obtain ⟨dv, hdv, h3⟩ := obind h3
    injection h3 with h3
    subst h3
    unfold dF at h4
    injection h4 with e1 e2 e3
    subst e1; subst e2; subst e3
    change bindK (List.map sT (List.range (fn.params.size + fn.nfree))) vs env0 _ = true at hk
    rw [List.range_eq_range'] at hk
    obtain ⟨hlen, env, hk, henv⟩ := bindK_ok _ 0 (by omega) hk
    obtain ⟨x, env', h', nx', hk, hs⟩ := ic_ok hmix ih hdc hk
    have hres : x ≠ .exit (match x with | .exit i => i | _ => 0) ∧ resK (dv.map dV) env' h' (fun rs => k (resV rs) h' nx') = true := by
      cases x with
      | nrm => exact ⟨by simp, hk⟩
      | exit i => cases hk
      | ret => exact ⟨by simp, hk⟩
    obtain ⟨hx, hk⟩ := hres
    obtain ⟨rs, hk, hrs⟩ := resK_ok hdv hk
    refine ⟨b, hb, resV rs, h', nx', hk, fun g us w hv hw => hs g _ w _ ⟨fun n hn => ?_, ?_⟩ hw fun g' a' w' q1 q2 q3 q4 q5 => ?_⟩
    · rw [henv n hn, env0_at n hn]
      have hl := hv.length
      by_cases e : n < fn.params.size + fn.nfree
      · rw [if_pos (by omega), Nat.sub_zero]
        have hnv : n < vs.length := by omega
        obtain ⟨u, h5, h6⟩ := hv.get (i := n) (v := vs[n]) (by simp [hnv])
        have h7 : vs.getD n undA = vs[n] := by simp [List.getD, hnv]
        have h8 : (us.toArray ++ Array.replicate (fn.ntmps - us.toArray.size) undef).getD n undef = u := by
          rw [Array.getD_eq_getD_getElem?, Array.getElem?_append_left (by simp; omega)]
          simp [h5]
        rw [h7, h8]; exact h6
      · rw [if_neg (by omega)]
        have h8 : (us.toArray ++ Array.replicate (fn.ntmps - us.toArray.size) undef).getD n undef = undef := by
          rw [Array.getD_eq_getD_getElem?, Array.getElem?_append_right (by simp; omega)]
          rw [Array.getElem?_replicate]
          split <;> rfl
        rw [h8]
        exact .tup [] [] .nil
    · simp; omega
    · obtain ⟨ws, r1, r2⟩ := hrs g' nx' a'.tmps w' q1.ev q4
      have r3 : (results fn a'.tmps).run P w' = .ok (if h : ws.toArray.size = 1 then ws.toArray[0] else .tuple ws.toArray) w' := by
        unfold results
        rw [Sem.run_bind]
        have : (fn.results.mapM fun r => (match r with | .tmp t => pure (a'.tmps.getD t undef) | .cell a t => do loadVar t (← asAddr (a'.tmps.getD a undef)) : Sem Value)).run P w' = .ok ws.toArray w' := by
          rw [Array.mapM_eq_mapM_toList, Sem.run_map, r1]
          rfl
        erw [this]
        rfl
      cases x with
      | nrm => exact ⟨q2, _, r3, _, rfl, g', resV_ok r2, q4, q5⟩
      | exit i => exact absurd rfl hx
      | ret => exact ⟨q2, _, r3, _, rfl, g', resV_ok r2, q4, q5⟩
theorem callK_succ {tab : T FE} {lf n : Nat} {f : Nat} {vs : List AV} {h : Hp} {nx : Ps} {k : KV} (hk : callK tab lf (n + 1) f vs h nx k = true) :
    ∃ fe, tab.getN f = some fe ∧ FE.rec (motive := fun _ => Bool)
      (fun np body res => bindK np vs env0 fun env => icK (callK tab lf n) lf body env h nx fun x env h nx =>
        X.rec (resK res env h fun rs => k (resV rs) h nx) (fun _ => false) (resK res env h fun rs => k (resV rs) h nx) x)
      (fun e => e (callK tab lf n) vs h nx k) fe = true := orec hk
theorem call_ok (hmix : P.follows .mixedOrders = true) {ds : List Nat} {tab : T FE} (htab : TabOK P cands mnames ds tab) (lf : Nat) : ∀ n, CallsOK P (callK tab lf n) ∧ ∀ f ∈ ds, DOK P (callK tab lf n) f := by
  intro n
  induction n with
  | zero => exact ⟨fun f vs h nx k hk => (by cases hk), fun f _ vs h nx k hk => (by cases hk)⟩
  | succ n ih =>
    refine ⟨fun f vs h nx k hk => ?_, fun f hf vs h nx k hk => ?_⟩
    · obtain ⟨fe, hfe, hk⟩ := callK_succ hk
      have hok := htab f fe hfe
      cases fe with
      | ext e => exact hok.2 _ ih.1 ih.2 vs h nx k hk
      | code np body res =>
        obtain ⟨fn, d, h1, h2, h3, h4⟩ := hok
        obtain ⟨b, hb, v, h', nx', hk, hs⟩ := code_wp hmix ih.1 h3 h4 hk
        refine ⟨v, h', nx', hk, fun g us w hv hw => .inr ⟨f, us.toArray, ?_, calls_of_wp h1 hb (hs g us w hv hw)⟩⟩
        simp only [callFunc, Sem.run_bind, run_program, Result.andThen_ok, h1, h2, hb, Option.isNone_some, Bool.false_eq_true, if_false, Sem.run_pure]
    · obtain ⟨fe, hfe, hk⟩ := callK_succ hk
      have hok := htab f fe hfe
      cases fe with
      | ext e => exact absurd hf hok.1
      | code np body res =>
        obtain ⟨fn, d, h1, h2, h3, h4⟩ := hok
        obtain ⟨b, hb, v, h', nx', hk, hs⟩ := code_wp hmix ih.1 h3 h4 hk
        exact ⟨v, h', nx', hk, fun g us w u hv hw => callsD_of_wp h1 hb (hs g us w hv hw)⟩
end
end Go.Proofs.YtfiambjmphjjgaaGreatDoor.Ms
