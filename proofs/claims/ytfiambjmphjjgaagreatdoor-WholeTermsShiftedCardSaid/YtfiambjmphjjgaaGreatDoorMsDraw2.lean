/- Part of a proof: a checked evaluator of the program (regions that draw an order). No condition. -/
import Derived.Test.YtfiambjmphjjgaaGreatDoorMsDraw
/-! regions that draw an order -/
noncomputable section
namespace Go.Proofs.YtfiambjmphjjgaaGreatDoor.Ms
set_option linter.unusedVariables false
set_option linter.unusedSimpArgs false
def Rc.sk (r : Rc) : Sk := ⟨r.ix, r.st, r.dst, r.names, r.act, r.tied, r.rep⟩
theorem pN_eq (p : Ps) : pN p = p.num := by
  induction p with
  | h => rfl
  | o p ih => show Nat.mul 2 (pN p) = _; rw [ih]; rfl
  | i p ih => show Nat.succ (Nat.mul 2 (pN p)) = _; rw [ih]; rfl
section
variable {P : Program} {cands : List Nat} {mnames : List String} {N : Nat} {ops : Array Oper} {nx0 : Ps} {M : Nat} {F : Fs}
theorem Chain.congr {f f' : Nat → AV} {k n : Nat} {rs : List Rc} (h : Chain P N ops F nx0 M f k n rs) (hf : ∀ t, t < 256 → f t = f' t) : Chain P N ops F nx0 M f' k n rs := by
  induction h generalizing f' with
  | nil f n => exact .nil f' n
  | cons r rs f k n n' hst hd hs hid hn hlo _ ih =>
    refine .cons r rs f' k n n' hst hd (fun K h1 h2 h3 g a w Kc Q ht => ?_) hid hn hlo (ih fun t ht => ?_)
    · exact hs K h1 h2 h3 g a w Kc Q fun t hm hlt => by rw [hf t hlt]; exact ht t hm hlt
    · unfold upd; split
      · rfl
      · exact hf t ht
def loopK (cf : CF) (l : List DRun) (pd : List Pd) (env : Env) (h : Hp) (nx : Ps) (k : KE) : Bool :=
  List.rec (motive := fun _ => List Pd → Env → Hp → Ps → Bool) (fun pd env h nx => againK h pd fun _ => k env h nx)
    (fun x _ ih pd env h nx => x cf pd env h nx ih) l pd env h nx
theorem loopK_nil (cf : CF) (pd : List Pd) (env : Env) (h : Hp) (nx : Ps) (k : KE) : loopK cf [] pd env h nx k = againK h pd fun _ => k env h nx := rfl
theorem loopK_cons (cf : CF) (x : DRun) (l : List DRun) (pd : List Pd) (env : Env) (h : Hp) (nx : Ps) (k : KE) : loopK cf (x :: l) pd env h nx k = x cf pd env h nx fun pd env h nx => loopK cf l pd env h nx k := rfl
/-- a step of which the stage stays -/
theorem Loc.stay {i : Nat} {o : Oper} {env : Env} {v : AV} {K : Nat} {st : Nat} {tied : Bool} {rep : Nat}
    (h : Loc P ops i o env v (fun g w => WR g (F K).1 (F K).2 w) (fun g w g' w' => g' = g ∧ w' = w)) :
    StepAt P N ops F nx0 (Env.at env) ⟨i, st, o.dst, namesOf ops o, v, false, tied, rep, none, 0⟩ K := by
  intro g a w Kc Q hn _ hw _ hK
  refine h g a w Kc Q hn hw fun g' u w' hv ⟨e1, e2⟩ => ?_
  subst e1; subst e2
  exact hK g' u w' hv hw (.refl _ _ _) (fun c x h1 h2 => by rw [h1] at h2; cases h2) (fun h => by cases h)
structure StOk (P : Program) (cands : List Nat) (mnames : List String) (N : Nat) (ops : Array Oper) (x : DDI) : Prop where
  o : ∃ o, ops[x.j]? = some o ∧ trIo P cands mnames N ops o = some x.io
  rep : x.io.op.act = true → x.rep = 0
/-- what is drawn from one run in the canonical order -/
structure Outs (P : Program) (N : Nat) (ops : Array Oper) (nx0 : Ps) (st : Nat) (pre : Fs) (l : List DDI) (pd : List Pd) (env : Env) (h : Hp) (nx : Ps) (k : KE) (F : Fs) (M : Nat) (env' : Env) (h' : Hp) (nx' : Ps) (rs : List Rc) : Prop where
  k : k env' h' nx' = true
  pre : ∀ K, K < st → F K = pre K
  ch : Chain P N ops F nx0 M (Env.at env) st nx.num rs
  fin : F M = (h', nx')
  val : ∀ t, t < 256 → valS (fun _ => true) (Env.at env) rs t = Env.at env' t
  grow : Grow h nx (F st).1 (F st).2
  mono : ∀ K, st ≤ K → K ≤ M → nx.num ≤ (F K).2.num
  sk : rs.map Rc.sk = skOf ops st l
  pd : ∀ p ∈ pd, ∀ K, st ≤ K → K ≤ st + p.n → K ≤ M → p.q (F K).1 = true
theorem upd_eq {env env1 : Env} {d : Option Nat} {v : AV} (he : ∀ t, t < 256 → Env.at env1 t = upd (Env.at env) d v t) {rs : List Rc} {env' : Env}
    (hv : ∀ t, t < 256 → valS (fun _ => true) (Env.at env1) rs t = Env.at env' t) : ∀ t, t < 256 → valS (fun _ => true) (upd (Env.at env) d v) rs t = Env.at env' t := fun t ht => by
  rw [← hv t ht]
  exact valS_congr _ _ _ _ _ _ (he t ht).symm fun _ _ _ => rfl
/-- a step that leaves the abstract heap alone -/
theorem outs_stay {x : DDI} {l : List DDI} {o : Oper} (hi : ops[x.j]? = some o) (hact : x.io.op.act = false) {st : Nat} {pre : Fs} {pd pd' : List Pd} {env env1 : Env} {h : Hp} {nx : Ps} {k : KE} {env' : Env} {h' : Hp} {nx' : Ps} {rs : List Rc} {v : AV}
    (he : ∀ t, t < 256 → Env.at env1 t = upd (Env.at env) o.dst v t) (hd : ∀ d, o.dst = some d → d < 256 ∧ d < N) (hpd : ∀ p ∈ pd, p ∈ pd')
    (hs : ∀ K, st ≤ K → (x.io.op.pend = true → K ≤ st + x.rep) → K ≤ M → Loc P ops x.j o env v (fun g w => WR g (F K).1 (F K).2 w) (fun g w g' w' => g' = g ∧ w' = w))
    (ho : Outs P N ops nx0 st pre l pd' env1 h nx k F M env' h' nx' rs) :
    Outs P N ops nx0 st pre (x :: l) pd env h nx k F M env' h' nx' (⟨x.j, st, o.dst, namesOf ops o, v, false, x.io.op.pend, x.rep, none, 0⟩ :: rs) where
  k := ho.k
  pre := ho.pre
  ch := .cons _ _ _ _ _ nx.num rfl hd (fun K h1 h2 h3 => (hs K h1 h2 h3).stay) (fun p hp => by cases hp) (Nat.le_refl _) (fun h => by cases h) (ho.ch.congr he)
  fin := ho.fin
  val := upd_eq he ho.val
  grow := ho.grow
  mono := ho.mono
  sk := by
    simp only [List.map_cons, ho.sk, skOf, hact, Rc.sk, skDst, skNm, hi, Bool.false_or, Bool.false_eq_true, if_false, Nat.add_zero, Option.bind_some]
  pd := fun p hp => ho.pd p (hpd p hp)
theorem dGq_none (d : Dv) (r : DRun) : dGq none d r = r := rfl
theorem dGq_ok {io : DIo} {o : Oper} (htr : trIo P cands mnames N ops o = some io) {r : DRun} {cf : CF} {pd : List Pd} {env : Env} {h : Hp} {nx : Ps} {k : KD} (hk : dGq io.g (dD io.d) r cf pd env h nx k = true) :
    (Wn ops o env true ∧ r cf pd env h nx k = true) ∨ (Wn ops o env false ∧ dD io.d undA env (fun env => k pd env h nx) = true) := by
  refine gd_cases htr ?_
  cases hg : io.g with
  | none => rw [hg] at hk; exact hk
  | some tb => obtain ⟨t, b⟩ := tb; rw [hg] at hk; exact hk
theorem dIo_cases {io : DIo} {o : Oper} (htr : trIo P cands mnames N ops o = some io) {cf : CF} {env : Env} {h : Hp} {nx : Ps} {k : KE} (hk : dIo io cf env h nx k = true) :
    (Wn ops o env true ∧ dU (dD io.d) io.op cf env h nx k = true) ∨ (Wn ops o env false ∧ dD io.d undA env (fun env => k env h nx) = true) := by
  refine gd_cases htr ?_
  unfold dIo at hk
  cases hg : io.g with
  | none => rw [hg] at hk; exact hk
  | some tb => obtain ⟨t, b⟩ := tb; rw [hg] at hk; exact hk
theorem extract {cf : CF} (hcf : CallsOK P cf) : ∀ (l : List DDI), (∀ x ∈ l, StOk P cands mnames N ops x) → ∀ (pd : List Pd) (env : Env) (h : Hp) (nx : Ps) (k : KE) (st : Nat) (pre : Fs), nx0.num ≤ nx.num →
    loopK cf (l.map dDI) pd env h nx k = true → ∃ F M env' h' nx' rs, Outs P N ops nx0 st pre l pd env h nx k F M env' h' nx' rs := by
  intro l
  induction l with
  | nil =>
    intro _ pd env h nx k st pre _ hk
    obtain ⟨h1, h2⟩ := againK_ok (show againK h pd (fun _ => k env h nx) = true from hk)
    refine ⟨fun K => if K < st then pre K else (h, nx), st, env, h, nx, [], h2, fun K hK => by simp [hK], .nil _ _, by simp, fun t _ => rfl, by simp [Grow.refl], fun K h3 h4 => ?_, rfl, fun p hp K h3 h4 h5 => ?_⟩
    · have : ¬ K < st := by omega
      simp [this]
    · have : ¬ K < st := by omega
      simp only [this, if_false]
      exact h1 p hp
  | cons x l ih =>
    intro hl pd env h nx k st pre hn0 hk
    obtain ⟨⟨o, hi, htr⟩, hrep⟩ := hl x (by simp)
    have ih := ih fun y hy => hl y (by simp [hy])
    obtain ⟨hop, hd, _⟩ := trIo_ok htr
    have hk : dDI x cf pd env h nx (fun pd env h nx => loopK cf (l.map dDI) pd env h nx k) = true := hk
    -- the step is left out
    have skipped : x.io.op.act = false → Wn ops o env false → dD x.io.d undA env (fun env => loopK cf (l.map dDI) pd env h nx k) = true → ∃ F M env' h' nx' rs, Outs P N ops nx0 st pre (x :: l) pd env h nx k F M env' h' nx' rs := by
      intro hact hw hk
      obtain ⟨env1, e1, e2, e3⟩ := dD_at hd undA env
      rw [e1] at hk
      obtain ⟨F, M, env', h', nx', rs, hout⟩ := ih pd env1 h nx k st pre hn0 hk
      exact ⟨F, M, env', h', nx', _, outs_stay hi hact e2 e3 (fun p hp => hp) (fun K _ _ _ => .skip hi hw fun g w _ => ⟨rfl, rfl⟩) hout⟩
    unfold dDI at hk
    rcases trOp_ok hop with ⟨p, hx, hs⟩ | ⟨p, hx, hs⟩ | ⟨p, hx, hs⟩ | ⟨p, hx, hs⟩
    · -- it computes
      rw [hx] at hk
      have hk : dIo x.io cf env h nx (fun env h nx => loopK cf (l.map dDI) pd env h nx k) = true := hk
      have hact : x.io.op.act = false := by rw [hx]; rfl
      rcases dIo_cases htr hk with ⟨hw, hk⟩ | ⟨hw, hk⟩
      · rw [hx] at hk
        obtain ⟨v, hv, hs⟩ := hs env _ hk
        obtain ⟨env1, e1, e2, e3⟩ := dD_at hd v env
        rw [e1] at hv
        obtain ⟨F, M, env', h', nx', rs, hout⟩ := ih pd env1 h nx k st pre hn0 hv
        refine ⟨F, M, env', h', nx', _, outs_stay hi hact e2 e3 (fun p hp => hp) (fun K _ _ _ => .done hi hw fun g a w hn _ => ?_) hout⟩
        obtain ⟨u, h1, h2⟩ := hs g a w o rfl (opR_of_names hn)
        exact .inl ⟨u, w, .inl h1, g, h2, rfl, rfl⟩
      · exact skipped hact hw hk
    · -- it reads
      rw [hx] at hk
      have hact : x.io.op.act = false := by rw [hx]; rfl
      have hpend : x.io.op.pend = true := by rw [hx]; rfl
      rcases dGq_ok htr hk with ⟨hw, hk⟩ | ⟨hw, hk⟩
      · have hk : dR p env h (fun v => dD x.io.d v env fun env' => loopK cf (l.map dDI) (⟨x.rep, fun h => dR p env h fun v' => avEq 5 v v'⟩ :: pd) env' h nx k) = true := hk
        obtain ⟨v, hv, _⟩ := hs env h _ hk
        obtain ⟨env1, e1, e2, e3⟩ := dD_at hd v env
        rw [e1] at hv
        obtain ⟨F, M, env', h', nx', rs, hout⟩ := ih _ env1 h nx k st pre hn0 hv
        refine ⟨F, M, env', h', nx', _, outs_stay hi hact e2 e3 (fun p hp => by simp [hp]) (fun K h1 h2 h3 => .done hi hw fun g a w hn hwr => ?_) hout⟩
        have hq := hout.pd ⟨x.rep, fun h => dR p env h fun v' => avEq 5 v v'⟩ (by simp) K h1 (h2 hpend) h3
        obtain ⟨v', hv', hs'⟩ := hs env (F K).1 _ hq
        have := avEq_ok 5 _ _ hv'
        subst this
        obtain ⟨u, h4, h5⟩ := hs' g (F K).2 a w o rfl (opR_of_names hn) hwr
        exact .inl ⟨u, w, .inl h4, g, h5, rfl, rfl⟩
      · exact skipped hact hw hk
    · -- it makes a block
      rw [hx] at hk
      have hact : x.io.op.act = false := by rw [hx]; rfl
      have hpend : x.io.op.pend = true := by rw [hx]; rfl
      rcases dGq_ok htr hk with ⟨hw, hk⟩ | ⟨hw, hk⟩
      · have hk : dM p env (fun s l0 mk => newK h nx s l0 fun n h nx' => dD x.io.d (mk nx n) env fun env => loopK cf (l.map dDI) (⟨x.rep, mkHolds nx s l0⟩ :: pd) env h nx' k) = true := hk
        obtain ⟨s, l0, mk, hv, hs⟩ := hs env _ hk
        obtain ⟨t, ht, hv⟩ := newK_ok hv
        obtain ⟨env1, e1, e2, e3⟩ := dD_at hd (mk nx l0.length) env
        rw [e1] at hv
        obtain ⟨F, M, env', h', nx', rs, hout⟩ := ih _ env1 _ nx.succ k st pre (by rw [Ps.num_succ]; omega) hv
        refine ⟨F, M, env', h', nx', ⟨x.j, st, o.dst, namesOf ops o, mk nx l0.length, false, true, x.rep, some nx, 0⟩ :: rs, hout.k, hout.pre,
          .cons _ _ _ _ _ nx.succ.num rfl e3 (fun K h1 h2 h3 => ?_) (fun p hp => ?_) (by rw [Ps.num_succ]; omega) (fun h => by cases h) (hout.ch.congr e2), hout.fin, upd_eq e2 hout.val, ?_, fun K h1 h2 => ?_, ?_, fun p hp => hout.pd p (by simp [hp])⟩
        · -- the block is made, at any of its stages
          obtain ⟨t', ht1, ht2⟩ := mkHolds_ok (hout.pd ⟨x.rep, mkHolds nx s l0⟩ (by simp) K h1 (h2 rfl) h3)
          have hlt : nx.num < (F K).2.num := by have := hout.mono K h1 h3; rw [Ps.num_succ] at this; omega
          intro g a w Kc Q hn _ hwr hno hK
          refine Loc.done (pre := fun g w => WR g (F K).1 (F K).2 w ∧ ∀ c y, g c = some y → y.a ≠ nx) (post := fun g w g' w' => WR g' (F K).1 (F K).2 w' ∧ Ex g nx0 w g' nx0 w' ∧ ∀ c y, g' c = some y → g c = none → y.a = nx)
            hi hw (fun g a w hn ⟨hwr, hno⟩ => ?_) g a w Kc Q hn ⟨hwr, fun c y hy => hno nx rfl c y hy⟩ fun g' u w' hv' ⟨p1, p2, p3⟩ =>
              hK g' u w' hv' p1 p2 (fun c y q1 q2 => .inl (by rw [p3 c y q1 q2])) (fun h => by cases h)
          obtain ⟨us, u, el, a1, a2, a3, a4⟩ := hs g nx a w o rfl (opR_of_names hn) hwr.fresh
          refine .inl ⟨u, _, .inl a3, _, a4, hwr.attach ht1 ht2 hlt hno a1 a2 el, Ex.attach hwr.fresh _ hn0, fun c y hy hyn => ?_⟩
          by_cases e : c = w.heap.size
          · subst e; simp [gNew] at hy; rw [← hy]
          · simp [gNew, e, hyn] at hy
        · injection hp with hp
          subst hp
          refine ⟨rfl, Nat.le_refl _, by rw [Ps.num_succ]; omega, fun K h1 h2 => ?_⟩
          have := hout.mono K h1 h2; rw [Ps.num_succ] at this; omega
        · refine ⟨fun b hb => ?_, ?_⟩
          · rw [hout.grow.1 b (by rw [Ps.num_succ]; omega), T.get_put, if_neg (fun e => by rw [e] at hb; omega)]
          · have := hout.grow.2; rw [Ps.num_succ] at this; omega
        · have := hout.mono K h1 h2; rw [Ps.num_succ] at this; omega
        · simp only [List.map_cons, hout.sk, skOf, hact, hpend, Rc.sk, skDst, skNm, hi, Bool.false_or, Bool.false_eq_true, if_false, Nat.add_zero, Option.bind_some]
      · exact skipped hact hw hk
    · -- it acts
      rw [hx] at hk
      have hact : x.io.op.act = true := by rw [hx]; rfl
      have hrep := hrep hact
      have hk : againK h pd (fun pd => dIo x.io cf env h nx fun env h nx' => Bool.rec false (loopK cf (l.map dDI) pd env h nx' k) (Nat.ble (pN nx) (pN nx'))) = true := hk
      obtain ⟨hq, hk⟩ := againK_ok hk
      -- done or left out
      have hdone : ∃ v env1 h1 nx1, (∀ t, t < 256 → Env.at env1 t = upd (Env.at env) o.dst v t) ∧ (∀ d, o.dst = some d → d < 256 ∧ d < N) ∧ Nat.ble (pN nx) (pN nx1) = true ∧ loopK cf (l.map dDI) (pd.filterMap decP) env1 h1 nx1 k = true ∧
          Loc P ops x.j o env v (fun g w => WR g h nx w) (fun g w g' w' => WR g' h1 nx1 w' ∧ Ex g nx w g' nx1 w') := by
        rcases dIo_cases htr hk with ⟨hw, hk⟩ | ⟨hw, hk⟩
        · rw [hx] at hk
          obtain ⟨v, h1, nx1, hv, hs⟩ := hs cf hcf env h nx _ hk
          obtain ⟨env1, e1, e2, e3⟩ := dD_at hd v env
          rw [e1] at hv
          obtain ⟨hb, hv⟩ := bfalse hv
          exact ⟨v, env1, h1, nx1, e2, e3, hb, hv, .done hi hw fun g a w hn hwr => hs g a w o rfl (opR_of_names hn) hwr⟩
        · obtain ⟨env1, e1, e2, e3⟩ := dD_at hd undA env
          rw [e1] at hk
          obtain ⟨hb, hk⟩ := bfalse hk
          exact ⟨undA, env1, h, nx, e2, e3, hb, hk, .skip hi hw fun g w hw => ⟨hw, .refl _ _ _⟩⟩
      obtain ⟨v, env1, h1, nx1, e2, e3, hb, hv, hloc⟩ := hdone
      have hb : nx.num ≤ nx1.num := by have := Nat.le_of_ble_eq_true hb; rwa [pN_eq, pN_eq] at this
      obtain ⟨F, M, env', h', nx', rs, hout⟩ := ih _ env1 h1 nx1 k (st + 1) (fun K => if K = st then (h, nx) else pre K) (Nat.le_trans hn0 hb) hv
      have hF : F st = (h, nx) := by rw [hout.pre st (by omega)]; simp
      refine ⟨F, M, env', h', nx', ⟨x.j, st, o.dst, namesOf ops o, v, true, true, x.rep, none, nx1.num⟩ :: rs, hout.k, fun K hK => ?_,
        .cons _ _ _ _ _ nx1.num rfl e3 (fun K k1 k2 k3 => ?_) (fun p hp => by cases hp) hb (fun _ => Nat.le_refl _) (hout.ch.congr e2), hout.fin, upd_eq e2 hout.val, ?_, fun K k1 k2 => ?_, ?_, fun p hp K k1 k2 k3 => ?_⟩
      · rw [hout.pre K (by omega), if_neg (by omega)]
      · have hK : K = st := by have : K ≤ st + x.rep := k2 rfl; omega
        subst hK
        intro g a w Kc Q hn _ hwr _ hK
        have hwr : WR g h nx w := by rw [hF] at hwr; exact hwr
        refine hloc g a w Kc Q hn hwr fun g' u w' hv' ⟨p1, p2⟩ => hK g' u w' hv' (p1.grow hout.grow) (p2.weak hn0) (fun c y q1 q2 => ?_) (fun _ c y q => p1.lt c y q)
        rw [hF]
        exact .inr (p2.new c y q1 q2).2
      · rw [hF]; exact .refl _ _
      · by_cases e : K = st
        · rw [e, hF]; exact Nat.le_refl _
        · exact Nat.le_trans hb (hout.mono K (by omega) k2)
      · simp only [List.map_cons, hout.sk, skOf, hact, Rc.sk, skDst, skNm, hi, Bool.true_or, if_true, Option.bind_some]
      · by_cases e : K = st
        · rw [e, hF]; exact hq p hp
        · cases hpn : p.n with
          | zero => omega
          | succ m =>
            exact hout.pd ⟨m, p.q⟩ (List.mem_filterMap.2 ⟨p, hp, by unfold decP; rw [hpn]⟩) K (by omega) (by simp only; omega) k3
end
end Go.Proofs.YtfiambjmphjjgaaGreatDoor.Ms
