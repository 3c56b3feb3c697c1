/- Part of a proof: a checked evaluator of the program (what is done one behind the other). No condition. -/
import Derived.Test.YtfiambjmphjjgaaGreatDoorMsTrOk
import Derived.Orders
/-! what is done one behind the other -/
noncomputable section
namespace Go.Proofs.YtfiambjmphjjgaaGreatDoor.Ms
set_option linter.unusedVariables false
set_option linter.unusedSimpArgs false
section
variable {P : Program} {cands : List Nat} {mnames : List String} {N : Nat}
/-- the frame: all that is named of it -/
structure FR (N : Nat) (g : G) (env : Env) (a : Act) : Prop where
  ev : EV g env a
  sz : N ≤ a.tmps.size
theorem EV.up {g g' : G} {env : Env} {a : Act} (h : EV g env a) (hu : GUp g g') : EV g' env a := fun n hn => (h n hn).up hu
theorem put_none (a : Act) (v : Value) : a.put none v = a := rfl
theorem put_some (a : Act) (d : Nat) (v : Value) : (a.put (some d) v).tmps = a.tmps.setIfInBounds d v := rfl
theorem put_defers (a : Act) (d : Option Tmp) (v : Value) : (a.put d v).defers = a.defers := by cases d <;> rfl
theorem put_size (a : Act) (d : Option Tmp) (v : Value) : (a.put d v).tmps.size = a.tmps.size := by cases d <;> simp [Act.put]
theorem EV.put {g : G} {env : Env} {a : Act} (h : EV g env a) {d : Nat} (hd : d < a.tmps.size) (hd2 : d < 256) {v : AV} {u : Value} (hv : VR g v u) : EV g (Env.put env d v) (a.put (some d) u) := by
  intro n hn
  rw [Env.at_put _ _ _ _ hd2 hn, put_some]
  by_cases e : n = d
  · subst e; rw [if_pos rfl]; simpa [hd] using hv
  · rw [if_neg e]
    have : (a.tmps.setIfInBounds d u).getD n undef = a.tmps.getD n undef := by
      simp only [Array.getD_eq_getD_getElem?, Array.getElem?_setIfInBounds_ne (Ne.symm e)]
    rw [this]; exact h n hn
/-- where an operation puts its value -/
theorem dD_ok {dst : Option Tmp} {d : Option Nat} (hd : trD N dst = some d) (v : AV) (env : Env) : ∃ env', (∀ k, dD d v env k = k env') ∧
    ∀ g (a : Act) u, FR N g env a → VR g v u → FR N g env' (a.put dst u) := by
  cases dst with
  | none =>
    simp only [trD] at hd
    injection hd with hd; subst hd
    exact ⟨env, fun k => rfl, fun g a u h _ => h⟩
  | some t =>
    simp only [trD] at hd
    split at hd
    · rename_i ht
      injection hd with hd; subst hd
      refine ⟨Env.put env t v, fun k => by show sT t v env k = _; rw [sAll t ht.2], fun g a u h hv => ⟨h.ev.put (Nat.lt_of_lt_of_le ht.1 h.sz) ht.2 hv, by rw [put_size]; exact h.sz⟩⟩
    · cases hd
theorem step_wp {o : Oper} {a : Act} {w : World} {R : Value → World → Prop} {K : Act → World → Prop} {Q : Exit → Act → World → Prop} (h : StepR P (execOp a.eval o) w R) (hk : ∀ u w', R u w' → K (a.put o.dst u) w') : o.wp P a w K Q := by
  unfold Oper.wp
  rcases h with ⟨u, w', h1, h2⟩ | ⟨f, args, h1, h2⟩
  · rcases h1 with h1 | ⟨h1, rfl⟩
    · rw [h1]; exact hk u w' h2
    · rw [h1]; exact hk undef w' h2
  · rw [h1]
    refine h2.mono fun e w' he => ?_
    obtain ⟨u, rfl, hr⟩ := he
    exact hk u w' hr
/-- an operation without its place and guard -/
theorem dU_ok {o : Oper} {op : DOp} (htr : trOp P cands mnames o.op = some op) {cf : CF} (hcf : CallsOK P cf) {d : Dv} {env : Env} {h : Hp} {nx : Ps} {k : KE} (hk : dU d op cf env h nx k = true) :
    ∃ v h' nx', d v env (fun env => k env h' nx') = true ∧ ∀ g (a : Act) w, (∀ x ∈ o.op.operands, OpR g env a x) → WR g h nx w → StepR P (execOp a.eval o) w (Does g nx w v h' nx') := by
  rcases trOp_ok htr with ⟨x, rfl, hs⟩ | ⟨x, rfl, hs⟩ | ⟨x, rfl, hs⟩ | ⟨x, rfl, hs⟩
  · obtain ⟨v, hv, hs⟩ := hs env _ hk
    refine ⟨v, h, nx, hv, fun g a w hx hw => ?_⟩
    obtain ⟨u, h1, h2⟩ := hs g a w o rfl hx
    exact .inl ⟨u, w, .inl h1, g, h2, hw, .refl _ _ _⟩
  · obtain ⟨v, hv, hs⟩ := hs env h _ hk
    refine ⟨v, h, nx, hv, fun g a w hx hw => ?_⟩
    obtain ⟨u, h1, h2⟩ := hs g nx a w o rfl hx hw
    exact .inl ⟨u, w, .inl h1, g, h2, hw, .refl _ _ _⟩
  · obtain ⟨s, l, mk, hv, hs⟩ := hs env _ hk
    obtain ⟨t, ht, hv⟩ := newK_ok hv
    refine ⟨_, _, _, hv, fun g a w hx hw => ?_⟩
    obtain ⟨us, u, el, h1, h2, h3, h4⟩ := hs g nx a w o rfl hx hw.fresh
    have h5 := hw.newCells (rest := []) (s := s) h1 h2 ht el
    rw [List.append_nil] at h5
    exact .inl ⟨u, _, .inl h3, _, h4, h5, Ex.newCells hw _ _ _ _⟩
  · exact hs cf hcf env h nx _ hk |>.imp fun v ⟨h', nx', h1, h2⟩ => ⟨h', nx', h1, fun g a w hx hw => h2 g a w o rfl hx hw⟩
theorem gdK_ok {x : Ev} {b : Bool} {env : Env} {ky kn : Bool} (h : gdK x b env ky kn = true) : (x env = .b b ∧ ky = true) ∨ ((∀ c, x env = .b c → c ≠ b) ∧ kn = true) := by
  unfold gdK at h
  generalize x env = v at h
  cases v with
  | b c =>
    have h' : Bool.rec (motive := fun _ => Bool) kn ky (c == b) = true := h
    by_cases e : c = b
    · subst e; simp at h'; exact .inl ⟨rfl, h'⟩
    · have : (c == b) = false := by simpa using e
      rw [this] at h'
      exact .inr ⟨fun c' hc => by injection hc with hc; subst hc; exact e, h'⟩
  | _ => exact .inr ⟨fun c hc => (by cases hc), h⟩
/-- the guard of an operation -/
theorem wanted_ok {g : G} {env : Env} {a : Act} {ops : Array Oper} {o : Oper} {j t : Nat} {b : Bool} (hg : o.guard = some (j, b)) (hj : (ops[j]?).bind (·.dst) = some t) (_ht : t < 256) (hv : VR g (Env.at env t) (a.tmps.getD t undef)) :
    (Env.at env t = .b b → Region.wanted o (yielded ops a.tmps) = true) ∧ ((∀ c, Env.at env t = .b c → c ≠ b) → Region.wanted o (yielded ops a.tmps) = false) := by
  have hw : Region.wanted o (yielded ops a.tmps) = (yielded ops a.tmps j == some b) := by unfold Region.wanted; rw [hg]
  have hy : yielded ops a.tmps j = match a.tmps[t]? with | some (.bool b) => some b | _ => none := by unfold yielded; rw [hj]; rfl
  rw [hw, hy]
  rw [Array.getD_eq_getD_getElem?] at hv
  constructor
  · intro e
    rw [e] at hv
    cases ht : a.tmps[t]? with
    | none => rw [ht] at hv; exact nomatch hv
    | some u =>
      rw [ht] at hv
      cases hv
      simp
  · intro hne
    cases ht : a.tmps[t]? with
    | none => rfl
    | some u =>
      rw [ht] at hv
      simp only [Option.getD_some] at hv
      cases u <;> first | rfl | skip
      rename_i c
      generalize hz : Env.at env t = z at hv
      cases hv
      have := hne c hz
      simpa using this
/-- an operation, with its place and guard -/
theorem io_ok {ops : Array Oper} {i : Nat} {o : Oper} (hi : ops[i]? = some o) {io : DIo} (htr : trIo P cands mnames N ops o = some io) {cf : CF} (hcf : CallsOK P cf) {env : Env} {h : Hp} {nx : Ps} {k : KE} (hk : dIo io cf env h nx k = true) :
    ∃ env' h' nx', k env' h' nx' = true ∧ ∀ g (a : Act) w (K : Act → World → Prop) Q, FR N g env a → WR g h nx w →
      (∀ g' a' w', FR N g' env' a' → a'.defers = a.defers → a'.tmps.size = a.tmps.size → WR g' h' nx' w' → Ex g nx w g' nx' w' → K a' w') → wpOp P ops Q i K a w := by
  unfold trIo at htr
  obtain ⟨op, hop, htr⟩ := obind htr
  obtain ⟨d, hd, htr⟩ := obind htr
  obtain ⟨gd, hgd, htr⟩ := obind htr
  injection htr with htr; subst htr
  -- the operation done
  have hdone : dU (dD d) op cf env h nx k = true → ∃ env' h' nx', k env' h' nx' = true ∧ ∀ g (a : Act) w (K : Act → World → Prop) Q, FR N g env a → WR g h nx w →
      (∀ g' a' w', FR N g' env' a' → a'.defers = a.defers → a'.tmps.size = a.tmps.size → WR g' h' nx' w' → Ex g nx w g' nx' w' → K a' w') → o.wp P a w K Q := by
    intro hk
    obtain ⟨v, h', nx', hv, hs⟩ := dU_ok hop hcf hk
    obtain ⟨env', he, hput⟩ := dD_ok hd v env
    rw [he] at hv
    refine ⟨env', h', nx', hv, fun g a w K Q hf hw hK => step_wp (hs g a w (fun x _ => opR_of_EV hf.ev x) hw) fun u w' ⟨g', h1, h2, h3⟩ => ?_⟩
    exact hK g' _ w' (hput g' a u ⟨hf.ev.up h3.up, hf.sz⟩ h1) (put_defers _ _ _) (put_size _ _ _) h2 h3
  cases hg : o.guard with
  | none =>
    rw [hg] at hgd
    injection hgd with hgd; subst hgd
    obtain ⟨env', h', nx', hv, hs⟩ := hdone hk
    refine ⟨env', h', nx', hv, fun g a w K Q hf hw hK => ?_⟩
    have hwant : Region.wanted o (yielded ops a.tmps) = true := by unfold Region.wanted; rw [hg]
    unfold wpOp
    rw [hi]
    simp only [hwant, if_true]
    exact .inl (hs g a w K Q hf hw hK)
  | some jb =>
    obtain ⟨j, b⟩ := jb
    rw [hg] at hgd
    obtain ⟨t, ht, hgd⟩ := obind hgd
    split at hgd
    · rename_i ht2
      injection hgd with hgd; subst hgd
      rcases gdK_ok hk with ⟨e, hk⟩ | ⟨e, hk⟩
      · have e : Env.at env t = .b b := by rw [tAll t ht2] at e; exact e
        obtain ⟨env', h', nx', hv, hs⟩ := hdone hk
        refine ⟨env', h', nx', hv, fun g a w K Q hf hw hK => ?_⟩
        have hwant := (wanted_ok (ops := ops) hg ht ht2 (hf.ev t ht2)).1 e
        unfold wpOp
        rw [hi]
        simp only [hwant, if_true]
        exact .inl (hs g a w K Q hf hw hK)
      · have e : ∀ c, Env.at env t = .b c → c ≠ b := by rw [tAll t ht2] at e; exact e
        obtain ⟨env', he, hput⟩ := dD_ok hd undA env
        have hk : dD d undA env (fun env => k env h nx) = true := hk
        rw [he] at hk
        refine ⟨env', h, nx, hk, fun g a w K Q hf hw hK => ?_⟩
        have hwant := (wanted_ok (ops := ops) hg ht ht2 (hf.ev t ht2)).2 e
        unfold wpOp
        rw [hi]
        simp only [hwant, Bool.false_eq_true, if_false]
        exact hK g _ w (hput g a undef hf (.tup [] [] .nil)) (put_defers _ _ _) (put_size _ _ _) hw (.refl _ _ _)
    · cases hgd
/-- a list of operations -/
inductive Pairs (P : Program) (cands : List Nat) (mnames : List String) (N : Nat) (ops : Array Oper) : List Nat → List DIo → Prop
  | nil : Pairs P cands mnames N ops [] []
  | cons (i : Nat) (o : Oper) (io : DIo) (is : List Nat) (ios : List DIo) (hi : ops[i]? = some o) (h : trIo P cands mnames N ops o = some io) (hs : Pairs P cands mnames N ops is ios) : Pairs P cands mnames N ops (i :: is) (io :: ios)
theorem ops_ok {ops : Array Oper} {is : List Nat} {ios : List DIo} (hp : Pairs P cands mnames N ops is ios) {cf : CF} (hcf : CallsOK P cf) : ∀ {env : Env} {h : Hp} {nx : Ps} {k : KE}, opsK cf (ios.map dIo) env h nx k = true →
    ∃ env' h' nx', k env' h' nx' = true ∧ ∀ g (a : Act) w Q, FR N g env a → WR g h nx w →
      (∀ g' a' w', FR N g' env' a' → a'.defers = a.defers → a'.tmps.size = a.tmps.size → WR g' h' nx' w' → Ex g nx w g' nx' w' → Q Exit.normal a' w') → wpOps P ops Q is a w := by
  induction hp with
  | nil =>
    intro env h nx k hk
    exact ⟨env, h, nx, hk, fun g a w Q hf hw hK => hK g a w hf rfl rfl hw (.refl _ _ _)⟩
  | cons i o io is ios hi htr _ ih =>
    intro env h nx k hk
    have hk' : dIo io cf env h nx (fun env h nx => opsK cf (ios.map dIo) env h nx k) = true := hk
    obtain ⟨env1, h1, nx1, hk1, hs1⟩ := io_ok hi htr hcf hk'
    obtain ⟨env2, h2, nx2, hk2, hs2⟩ := ih hk1
    refine ⟨env2, h2, nx2, hk2, fun g a w Q hf hw hK => ?_⟩
    rw [wpOps_cons]
    refine hs1 g a w _ Q hf hw fun g1 a1 w1 hf1 hd1 hz1 hw1 hx1 => ?_
    refine hs2 g1 a1 w1 Q hf1 hw1 fun g2 a2 w2 hf2 hd2 hz2 hw2 hx2 => ?_
    exact hK g2 a2 w2 hf2 (hd2.trans hd1) (hz2.trans hz1) hw2 (hx1.trans hx2)
theorem pairs_range {ops : Array Oper} {ios : List DIo} (h : ops.toList.mapM (trIo P cands mnames N ops) = some ios) : Pairs P cands mnames N ops (List.range ops.size) ios := by
  have gen : ∀ (l : List Oper) (k : Nat) (ios : List DIo), (∀ i, l[i]? = ops[k + i]?) → l.mapM (trIo P cands mnames N ops) = some ios → Pairs P cands mnames N ops (List.range' k l.length) ios := by
    intro l
    induction l with
    | nil => intro k ios _ h; simp at h; subst h; exact .nil
    | cons o l ih =>
      intro k ios hl h
      rw [List.mapM_cons] at h
      obtain ⟨io, h1, h⟩ := obind h
      obtain ⟨ios', h2, h⟩ := obind h
      injection h with h; subst h
      rw [List.length_cons, List.range'_succ]
      exact .cons k o io _ _ (by have := hl 0; simpa using this.symm) h1 (ih (k + 1) ios' (fun i => by have := hl (i + 1); simpa [Nat.add_assoc, Nat.add_comm 1 i] using this) h2)
  have := gen ops.toList 0 ios (fun i => by simp) h
  rw [List.range_eq_range']
  simpa using this
end
end Go.Proofs.YtfiambjmphjjgaaGreatDoor.Ms
