/- Part of a proof: a checked evaluator of the program (regions that draw an order: the parts). No condition. -/
import Derived.Test.YtfiambjmphjjgaaGreatDoorMsSim2
/-! regions that draw an order: the parts -/
noncomputable section
namespace Go.Proofs.YtfiambjmphjjgaaGreatDoor.Ms
set_option linter.unusedVariables false
set_option linter.unusedSimpArgs false
theorem allE_ok {f : AV → AV → Bool} (hf : ∀ a b, f a b = true → a = b) : ∀ {l l' : List AV}, allE f l l' = true → l = l' := by
  intro l
  induction l with
  | nil => intro l' h; cases l' with | nil => rfl | cons _ _ => cases h
  | cons x l ih =>
    intro l' h
    cases l' with
    | nil => cases h
    | cons y l' =>
      have h' : Bool.rec (motive := fun _ => Bool) false (allE f l l') (f x y) = true := h
      obtain ⟨h1, h2⟩ := bfalse h'
      rw [hf x y h1, ih h2]
theorem Ps.beq_ok {a b : Ps} (h : a.beq b = true) : a = b := by unfold Ps.beq at h; simpa using h
theorem avEq_ok : ∀ (n : Nat) (a b : AV), avEq n a b = true → a = b := by
  intro n
  induction n with
  | zero => intro a b h; cases h
  | succ n ih =>
    intro a b h
    unfold avEq at h
    dsimp only at h
    have h' := h
    clear h
    split at h'
    all_goals try simp only [Bool.and_eq_true] at h'
    · rw [eq_of_beq h']
    · obtain ⟨h1, h2⟩ := h'
      rw [ieq_eq] at h2
      rw [kEq_ok h1, eq_of_beq h2]
    · rw [of_decide_eq_true h']
    · obtain ⟨⟨h1, h2⟩, h3⟩ := h'
      rw [Ps.beq_ok h1, Nat.eq_of_beq_eq_true h2, Nat.eq_of_beq_eq_true h3]
    · rfl
    · rfl
    · rfl
    · rfl
    · rfl
    · obtain ⟨⟨⟨⟨h1, h2⟩, h3⟩, h4⟩, h5⟩ := h'
      rw [Ps.beq_ok h1, Nat.eq_of_beq_eq_true h2, Nat.eq_of_beq_eq_true h3, Nat.eq_of_beq_eq_true h4, Nat.eq_of_beq_eq_true h5]
    · obtain ⟨⟨⟨h1, h2⟩, h3⟩, h4⟩ := h'
      rw [Ps.beq_ok h1, Nat.eq_of_beq_eq_true h2, Nat.eq_of_beq_eq_true h3, Nat.eq_of_beq_eq_true h4]
    · rw [Nat.eq_of_beq_eq_true h']
    · rw [Ps.beq_ok h']
    · obtain ⟨⟨h1, h2⟩, h3⟩ := h'
      rw [of_decide_eq_true h1, allE_ok ih h2, allE_ok ih h3]
    · obtain ⟨h1, h2⟩ := h'
      rw [Nat.eq_of_beq_eq_true h1, ih _ _ h2]
    · rw [allE_ok ih h']
    · rw [allE_ok ih h']
    · cases h'
def decP (p : Pd) : Option Pd := match p.n with | 0 => none | m + 1 => some ⟨m, p.q⟩
theorem againK_ok {h : Hp} {l : List Pd} : ∀ {k : List Pd → Bool}, againK h l k = true → (∀ p ∈ l, p.q h = true) ∧ k (l.filterMap decP) = true := by
  induction l with
  | nil => intro k hk; exact ⟨by simp, hk⟩
  | cons x l ih =>
    intro k hk
    obtain ⟨n, q⟩ := x
    have hk' : Bool.rec (motive := fun _ => Bool) false (Nat.rec (againK h l k) (fun m _ => againK h l fun r => k (⟨m, q⟩ :: r)) n) (q h) = true := hk
    obtain ⟨h1, h2⟩ := bfalse hk'
    cases n with
    | zero =>
      obtain ⟨h3, h4⟩ := ih h2
      exact ⟨by simpa [h1] using h3, h4⟩
    | succ n =>
      obtain ⟨h3, h4⟩ := ih h2
      exact ⟨by simpa [h1] using h3, h4⟩
theorem mkHolds_ok {a : Ps} {s : Nat} {l : List AV} {h : Hp} (hk : mkHolds a s l h = true) : ∃ t, h.get a = some (.c s true l.length t) ∧ ∀ i, i < l.length → t.getN i = l[i]? := by
  obtain ⟨s', sg, n, t, hg, hk⟩ := hC_ok hk
  rw [lenL_eq] at hk
  obtain ⟨h1, h2⟩ := bfalse hk
  simp only [Bool.and_eq_true] at h1
  obtain ⟨h3, h4, h5⟩ := h1
  obtain ⟨l', h6, h7, h8⟩ := ldK_ok h2
  have := allE_ok (avEq_ok 4) h6
  subst this
  subst h3
  rw [← Nat.eq_of_beq_eq_true h4, ← Nat.eq_of_beq_eq_true h5] at hg
  refine ⟨t, hg, fun i hi => ?_⟩
  have := h8 i (by omega)
  simpa using this
/-- a copy of a block that stands already -/
theorem WR.attach {g : G} {h : Hp} {nx : Ps} {w : World} (hw : WR g h nx w) {id : Ps} {s : Nat} {l : List AV} {us : List Value} {t : T AV} (hg : h.get id = some (.c s true l.length t)) (ht : ∀ i, i < l.length → t.getN i = l[i]?)
    (hid : id.num < nx.num) (hno : ∀ c x, g c = some x → x.a ≠ id) (hl : VRs g l us) (ho : ∀ v ∈ l, v.one = true) (el : TypeId) :
    WR (gNew g w.heap.size ⟨id, l.length, s, us.length⟩) h nx { w with heap := w.heap.push (.cells us.toArray el) } where
  obj := fun c y hy => by
    by_cases e : c = w.heap.size
    · subst e
      simp [gNew] at hy
      subst hy
      refine ⟨_, _, hg, heap_push_new w _, rfl, Nat.le_refl _, fun _ => rfl, _, el, (0, 0), rfl, by simp, by simp [hl.length], .inl rfl, fun i hi => ?_⟩
      have hi : i < l.length := hi
      obtain ⟨u, h1, h2⟩ := hl.get (i := i) (v := l[i]) (by simp [hi])
      exact ⟨l[i], u, by rw [ht i hi]; simp [hi], by simpa using h1, h2.up (gNew_up hw.fresh), ho _ (List.getElem_mem hi)⟩
    · simp [gNew, e] at hy
      obtain ⟨ob', o', h1, h2, h3⟩ := hw.obj c y hy
      exact ⟨ob', o', h1, heap_push_old w _ h2, h3.up (gNew_up hw.fresh)⟩
  gl := hw.gl.push _ _
  lt := fun c y hy => by
    by_cases e : c = w.heap.size
    · subst e; simp [gNew] at hy; subst hy; exact hid
    · simp [gNew, e] at hy
      exact hw.lt c y hy
  one := fun c y c' y' ob' hy hy' ha hg' hal => by
    by_cases e : c = w.heap.size
    · by_cases e' : c' = w.heap.size
      · rw [e, e']
      · exfalso
        simp [gNew, e] at hy
        simp [gNew, e'] at hy'
        exact hno c' y' hy' (by rw [← ha, ← hy])
    · by_cases e' : c' = w.heap.size
      · exfalso
        simp [gNew, e'] at hy'
        simp [gNew, e] at hy
        exact hno c y hy (by rw [ha, ← hy'])
      · simp [gNew, e] at hy
        simp [gNew, e'] at hy'
        exact hw.one c y c' y' ob' hy hy' ha hg' hal
theorem Ex.attach {g : G} {w : World} (hf : g w.heap.size = none) (o : Obj) {x : GI} {n0 : Ps} (hx : n0.num ≤ x.a.num) :
    Ex g n0 w (gNew g w.heap.size x) n0 { w with heap := w.heap.push o } where
  up := gNew_up hf
  new := fun c y hy hn => by
    by_cases e : c = w.heap.size
    · subst e
      simp [gNew] at hy
      subst hy
      exact ⟨Nat.le_refl _, .inl hx⟩
    · simp [gNew, e, hn] at hy
  keep := fun b o' hb _ => heap_push_old w o hb
  size := by simp
  nx := Nat.le_refl _
  os := rfl
  tape := rfl
  output := rfl
/-- more blocks that nothing is a copy of -/
def Grow (h : Hp) (nx : Ps) (h' : Hp) (nx' : Ps) : Prop := (∀ b : Ps, b.num < nx.num → h'.get b = h.get b) ∧ nx.num ≤ nx'.num
theorem Grow.refl (h : Hp) (nx : Ps) : Grow h nx h nx := ⟨fun _ _ => rfl, Nat.le_refl _⟩
theorem WR.grow {g : G} {h : Hp} {nx : Ps} {w : World} (hw : WR g h nx w) {h' : Hp} {nx' : Ps} (hg : Grow h nx h' nx') : WR g h' nx' w where
  obj := fun c x hx => by
    obtain ⟨ob, o, h1, h2, h3⟩ := hw.obj c x hx
    exact ⟨ob, o, by rw [hg.1 _ (hw.lt c x hx), h1], h2, h3⟩
  gl := hw.gl
  lt := fun c x hx => Nat.lt_of_lt_of_le (hw.lt c x hx) hg.2
  one := fun c x c' x' ob hx hx' ha hob hal => hw.one c x c' x' ob hx hx' ha (by rw [← hg.1 _ (hw.lt c x hx)]; exact hob) hal
theorem opR_of_names {g : G} {env : Env} {a : Act} {ops : Array Oper} {o : Oper} (h : ∀ t ∈ namesOf ops o, t < 256 → VR g (Env.at env t) (a.tmps.getD t undef)) : ∀ x ∈ o.op.operands, OpR g env a x := by
  intro x hx y hy
  cases x with
  | tmp t =>
    simp only [trO] at hy
    split at hy
    · rename_i ht
      injection hy with hy; subst hy
      show VR g (tT t env) _
      rw [tAll t ht]
      refine h t ?_ ht
      unfold namesOf
      refine List.mem_append_left _ (List.mem_append_right _ (List.mem_filterMap.2 ⟨.tmp t, by simpa using hx, rfl⟩))
    · cases hy
  | const v =>
    simp only [trO, Option.map_eq_some_iff] at hy
    obtain ⟨u, hu, rfl⟩ := hy
    exact cvV_ok hu
  | func f =>
    simp only [trO] at hy
    injection hy with hy; subst hy
    exact .f _ [] [] [] [] .nil .nil
  | global _ => cases hy
section
variable {P : Program} {cands : List Nat} {mnames : List String} {N : Nat} {ops : Array Oper} {i : Nat} {o : Oper}
abbrev Nm (ops : Array Oper) (o : Oper) (env : Env) (g : G) (a : Act) : Prop := ∀ t ∈ namesOf ops o, t < 256 → VR g (Env.at env t) (a.tmps.getD t undef)
/-- what one step does, by what it names alone -/
def Loc (P : Program) (ops : Array Oper) (i : Nat) (o : Oper) (env : Env) (v : AV) (pre : G → World → Prop) (post : G → World → G → World → Prop) : Prop :=
  ∀ g (a : Act) w (K : Act → World → Prop) Q, Nm ops o env g a → pre g w → (∀ g' u w', VR g' v u → post g w g' w' → K (a.put o.dst u) w') → wpOp P ops Q i K a w
/-- the guard of a step holds, or not -/
def Wn (ops : Array Oper) (o : Oper) (env : Env) (b : Bool) : Prop := ∀ g (a : Act), Nm ops o env g a → Region.wanted o (yielded ops a.tmps) = b
theorem Loc.done {env : Env} {v : AV} {pre : G → World → Prop} {post : G → World → G → World → Prop} (hi : ops[i]? = some o) (hw : Wn ops o env true)
    (h : ∀ g (a : Act) w, Nm ops o env g a → pre g w → StepR P (execOp a.eval o) w fun u w' => ∃ g', VR g' v u ∧ post g w g' w') : Loc P ops i o env v pre post := by
  intro g a w K Q hn hp hK
  unfold wpOp
  rw [hi]
  simp only [hw g a hn, if_true]
  exact .inl (step_wp (h g a w hn hp) fun u w' ⟨g', h1, h2⟩ => hK g' u w' h1 h2)
theorem Loc.skip {env : Env} {pre : G → World → Prop} {post : G → World → G → World → Prop} (hi : ops[i]? = some o) (hw : Wn ops o env false) (hp : ∀ g w, pre g w → post g w g w) : Loc P ops i o env undA pre post := by
  intro g a w K Q hn hpr hK
  unfold wpOp
  rw [hi]
  simp only [hw g a hn, Bool.false_eq_true, if_false]
  exact hK g undef w (.tup [] [] .nil) (hp g w hpr)
theorem wn_none {env : Env} (h : o.guard = none) : Wn ops o env true := fun g a _ => by unfold Region.wanted; rw [h]
theorem wn_some {env : Env} {j t : Nat} {b : Bool} (hg : o.guard = some (j, b)) (hj : (ops[j]?).bind (·.dst) = some t) (ht : t < 256) :
    (Env.at env t = .b b → Wn ops o env true) ∧ ((∀ c, Env.at env t = .b c → c ≠ b) → Wn ops o env false) := by
  have hm : t ∈ namesOf ops o := by
    unfold namesOf
    rw [hg]
    show t ∈ _ ++ ((ops[j]?).bind (·.dst)).toList
    rw [hj]
    exact List.mem_append_right _ (by simp)
  exact ⟨fun e g a hn => (wanted_ok (ops := ops) hg hj ht (hn t hm ht)).1 e, fun e g a hn => (wanted_ok (ops := ops) hg hj ht (hn t hm ht)).2 e⟩
theorem trIo_ok {io : DIo} (htr : trIo P cands mnames N ops o = some io) : trOp P cands mnames o.op = some io.op ∧ trD N o.dst = some io.d ∧ trG ops o.guard = some io.g := by
  unfold trIo at htr
  obtain ⟨op, hop, htr⟩ := obind htr
  obtain ⟨d, hd, htr⟩ := obind htr
  obtain ⟨gd, hgd, htr⟩ := obind htr
  injection htr with htr; subst htr
  exact ⟨hop, hd, hgd⟩
/-- a guard, either way -/
theorem gd_cases {io : DIo} (htr : trIo P cands mnames N ops o = some io) {env : Env} {x y : Bool} (hk : (match io.g with | none => x | some (t, b) => gdK (tT t) b env x y) = true) :
    (Wn ops o env true ∧ x = true) ∨ (Wn ops o env false ∧ y = true) := by
  obtain ⟨_, _, hgd⟩ := trIo_ok htr
  cases hg : o.guard with
  | none =>
    rw [hg] at hgd
    simp only [trG] at hgd
    injection hgd with hgd
    rw [← hgd] at hk
    exact .inl ⟨wn_none hg, hk⟩
  | some jb =>
    obtain ⟨j, b⟩ := jb
    rw [hg] at hgd
    obtain ⟨t, ht, hgd⟩ := obind hgd
    split at hgd
    · rename_i ht2
      injection hgd with hgd
      rw [← hgd] at hk
      have hk : gdK (tT t) b env x y = true := hk
      rcases gdK_ok hk with ⟨e, hk⟩ | ⟨e, hk⟩
      · rw [tAll t ht2] at e
        exact .inl ⟨(wn_some hg ht ht2).1 e, hk⟩
      · rw [tAll t ht2] at e
        exact .inr ⟨(wn_some hg ht ht2).2 e, hk⟩
    · cases hgd
theorem dD_at {dst : Option Tmp} {d : Option Nat} (hd : trD N dst = some d) (v : AV) (env : Env) : ∃ env', (∀ k, dD d v env k = k env') ∧ (∀ t, t < 256 → Env.at env' t = upd (Env.at env) dst v t) ∧ ∀ t, dst = some t → t < 256 ∧ t < N := by
  cases dst with
  | none =>
    simp only [trD] at hd
    injection hd with hd; subst hd
    exact ⟨env, fun k => rfl, fun t _ => rfl, fun t h => by cases h⟩
  | some t =>
    simp only [trD] at hd
    split at hd
    · rename_i ht
      injection hd with hd; subst hd
      refine ⟨Env.put env t v, fun k => by show sT t v env k = _; rw [sAll t ht.2], fun n hn => ?_, fun t' e => by injection e with e; subst e; exact ⟨ht.2, ht.1⟩⟩
      rw [Env.at_put _ _ _ _ ht.2 hn]
      unfold upd
      by_cases e : n = t
      · subst e; simp
      · have : ¬ (some t = some n) := fun h => e (by injection h with h; exact h.symm)
        rw [if_neg e, if_neg this]
    · cases hd
end
end Go.Proofs.YtfiambjmphjjgaaGreatDoor.Ms
