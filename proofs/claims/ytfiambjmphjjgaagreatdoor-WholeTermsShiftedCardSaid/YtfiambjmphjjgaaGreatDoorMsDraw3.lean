/- Part of a proof: a checked evaluator of the program (the order's check; a whole region). No condition. -/
import Derived.Test.YtfiambjmphjjgaaGreatDoorMsDraw2
/-! the order's check; a whole region -/
noncomputable section
namespace Go.Proofs.YtfiambjmphjjgaaGreatDoor.Ms
set_option linter.unusedVariables false
set_option linter.unusedSimpArgs false
theorem nd_le : ∀ (n : Nat) (l : List Nat), l.Nodup → (∀ j ∈ l, j < n) → l.length ≤ n := by
  intro n
  induction n with
  | zero =>
    intro l _ h
    cases l with
    | nil => exact Nat.le_refl _
    | cons x l => have := h x (by simp); omega
  | succ n ih =>
    intro l hn h
    have h1 := ih (l.erase n) (hn.erase n) fun j hj => by
      have h2 := (hn.mem_erase_iff).1 hj
      have := h j h2.2
      have := h2.1
      omega
    rw [List.length_erase] at h1
    split at h1 <;> omega
theorem ndB_ok : ∀ {l : List Nat}, ndB l = true → l.Nodup := by
  intro l
  induction l with
  | nil => intro _; exact List.nodup_nil
  | cons x l ih =>
    intro h
    simp only [ndB, Bool.and_eq_true, List.all_eq_true] at h
    refine List.nodup_cons.2 ⟨fun hx => ?_, ih h.2⟩
    have := h.1 x hx
    simp at this
theorem canonB_ok {bf : Array Nat} : ∀ {sk : List Sk}, canonB bf sk = true → ∀ pre r post, sk = pre ++ r :: post → ∀ x ∈ r :: post, bB bf x.ix r.ix = false := by
  intro sk
  induction sk with
  | nil => intro _ pre r post h; simp at h
  | cons y l ih =>
    intro h pre r post he x hx
    simp only [canonB, Bool.and_eq_true, List.all_eq_true] at h
    cases pre with
    | nil =>
      simp only [List.nil_append, List.cons.injEq] at he
      obtain ⟨rfl, rfl⟩ := he
      have := h.1 x hx
      simpa using this
    | cons z pre =>
      simp only [List.cons_append, List.cons.injEq] at he
      exact ih h.2 pre r post he.2 x hx
theorem maskOk_ok {ops : Array Oper} {bf : Array Nat} (h : maskOk ops bf = true) {i : Nat} {o : Oper} (hi : ops[i]? = some o) :
    bf.getD i 0 < 2 ^ ops.size ∧ (∀ e ∈ o.after, Region.binds .any e = true → bB bf e.on i = true ∧ e.on < ops.size) ∧
    ∀ j, bB bf j i = true → ∃ e ∈ o.after, Region.binds .any e = true ∧ (e.on = j ∨ bB bf j e.on = true) := by
  have hlt : i < ops.size := (Array.getElem?_eq_some_iff.1 hi).1
  unfold maskOk at h
  rw [List.all_eq_true] at h
  have h1 := h i (List.mem_range.2 hlt)
  rw [hi] at h1
  simp only [Bool.and_eq_true, decide_eq_true_eq, Array.all_eq_true_iff_forall_mem, Bool.or_eq_true, Bool.not_eq_true', List.all_eq_true, List.mem_range] at h1
  obtain ⟨⟨h1, h2⟩, h3⟩ := h1
  refine ⟨h1, fun e he hb => ?_, fun j hj => ?_⟩
  · rcases h2 e he with h4 | h4
    · rw [hb] at h4; cases h4
    · exact h4
  · have hjl : j < ops.size := by
      rcases Nat.lt_or_ge j ops.size with h4 | h4
      · exact h4
      · exfalso
        have : (bf.getD i 0).testBit j = false := Nat.testBit_lt_two_pow (Nat.lt_of_lt_of_le h1 (Nat.pow_le_pow_right (by decide) h4))
        unfold bB at hj
        rw [this] at hj; cases hj
    rcases h3 j hjl with h4 | h4
    · rw [hj] at h4; cases h4
    · obtain ⟨e, he, hb⟩ := Array.any_eq_true'.1 h4
      simp only [Bool.and_eq_true, Bool.or_eq_true, beq_iff_eq] at hb
      exact ⟨e, he, hb.1, hb.2⟩
theorem ord_of_chk {ops : Array Oper} {bf : Array Nat} {rs : List Rc} {sk : List Sk} (hsk : rs.map Rc.sk = sk) (h : ordChk ops bf sk = true) : Ord ops (fun j i => bB bf j i = true) rs := by
  unfold ordChk at h
  simp only [Bool.and_eq_true] at h
  obtain ⟨⟨⟨⟨⟨⟨h1, h2⟩, h3⟩, h4⟩, h5⟩, h6⟩, h7⟩ := h
  have hm : ∀ r ∈ rs, r.sk ∈ sk := fun r hr => by rw [← hsk]; exact List.mem_map_of_mem hr
  have hacts : ∀ y ∈ rs, y.act = true → y.tied = true ∧ y.rep = 0 ∧ ∀ x ∈ rs, (y.st < x.st → bB bf y.ix x.ix = true) ∧ (x.tied = true → x.st + x.rep ≤ y.st → x.ix = y.ix ∨ bB bf x.ix y.ix = true) := by
    intro y hy ha
    unfold actsB at h7
    rw [List.all_eq_true] at h7
    have h8 := h7 y.sk (List.mem_filter.2 ⟨hm y hy, ha⟩)
    simp only [Bool.and_eq_true, List.all_eq_true, beq_iff_eq, Bool.or_eq_true, Bool.not_eq_true', decide_eq_false_iff_not] at h8
    obtain ⟨⟨h8, h9⟩, h10⟩ := h8
    refine ⟨h8, h9, fun x hx => ?_⟩
    obtain ⟨h11, h12⟩ := h10 x.sk (hm x hx)
    refine ⟨fun h => h11.resolve_left fun h' => h' h, fun ht hle => ?_⟩
    rcases h12 with ((h12 | h12) | h12) | h12
    · have : x.tied = false := h12
      rw [ht] at this; cases this
    · exact absurd hle h12
    · exact .inl h12
    · exact .inr h12
  refine ⟨fun j o hj => ?_, fun r hr => ?_, ?_, fun pre r post he x hx => ?_, fun i o j hi hb => (maskOk_ok h5 hi).2.2 j hb, fun i o hi e he hb => (maskOk_ok h5 hi).2.1 e he hb, fun x hx r hr t hd ht => ?_, fun x hx t hd => ?_,
    fun x hx y hy ha hlt => ((hacts y hy ha).2.2 x hx).1 hlt, fun x hx y hy ha htd hle => ((hacts y hy ha).2.2 x hx).2 htd hle, fun x hx ha => ⟨(hacts x hx ha).1, (hacts x hx ha).2.1⟩⟩
  · have hlt : j < ops.size := (Array.getElem?_eq_some_iff.1 hj).1
    rw [List.all_eq_true] at h1
    have := h1 j (List.mem_range.2 hlt)
    rw [List.any_eq_true] at this
    obtain ⟨x, hx, he⟩ := this
    rw [← hsk] at hx
    obtain ⟨r, hr, rfl⟩ := List.mem_map.1 hx
    exact ⟨r, hr, (by simpa using he : r.sk.ix = j)⟩
  · rw [List.all_eq_true] at h2
    have := h2 r.sk (hm r hr)
    have hlt : r.sk.ix < ops.size := by simpa using this
    have hlt : r.ix < ops.size := hlt
    exact ⟨_, Array.getElem?_eq_getElem hlt⟩
  · have := ndB_ok h3
    rw [← hsk, List.map_map] at this
    exact this
  · have := canonB_ok h4 (pre.map Rc.sk) r.sk (post.map Rc.sk) (by rw [← hsk, he]; simp) x.sk (by
      rcases List.mem_cons.1 hx with rfl | hx
      · simp
      · exact List.mem_cons_of_mem _ (List.mem_map_of_mem hx))
    intro hb
    have hb : bB bf x.sk.ix r.sk.ix = true := hb
    rw [this] at hb; cases hb
  · unfold tmpB at h6
    rw [List.all_eq_true] at h6
    have h8 := h6 x.sk (hm x hx)
    have hd' : x.sk.dst = some t := hd
    rw [hd'] at h8
    simp only [Bool.and_eq_true, List.all_eq_true, Bool.or_eq_true, Bool.not_eq_true', beq_iff_eq] at h8
    have ht' : r.sk.names.contains t = true := by simpa using (show t ∈ r.sk.names from ht)
    rcases h8.2 r.sk (hm r hr) with ((h9 | h9) | h9) | h9
    · rw [ht'] at h9; cases h9
    · exact .inl h9
    · exact .inr (.inl h9)
    · exact .inr (.inr h9)
  · unfold tmpB at h6
    rw [List.all_eq_true] at h6
    have h8 := h6 x.sk (hm x hx)
    have hd' : x.sk.dst = some t := hd
    rw [hd'] at h8
    simp only [Bool.and_eq_true] at h8
    have := h8.1
    have : t ∈ x.sk.names := by simpa using this
    exact this
section
variable {P : Program} {cands : List Nat} {mnames : List String} {N : Nat} {ops : Array Oper}
theorem trDraw_ok {ds : List DDI} (h : trDraw P cands mnames N ops = some ds) : (∀ x ∈ ds, StOk P cands mnames N ops x) ∧ ordChk ops (Region.before ops) (skOf ops 0 ds) = true := by
  unfold trDraw at h
  obtain ⟨ios, _, h⟩ := obind h
  simp only [] at h
  obtain ⟨ds', hds, h⟩ := obind h
  split at h
  · rename_i hc
    injection h with h
    subst h
    have gen : ∀ (js : List Nat) (ds : List DDI) (f : Nat → Option DDI), js.mapM f = some ds → ∀ x ∈ ds, ∃ j, f j = some x := by
      intro js
      induction js with
      | nil => intro ds f h x hx; simp at h; subst h; cases hx
      | cons j js ih =>
        intro ds f h x hx
        rw [List.mapM_cons] at h
        obtain ⟨y, h1, h⟩ := obind h
        obtain ⟨ys, h2, h⟩ := obind h
        injection h with h; subst h
        rcases List.mem_cons.1 hx with rfl | hx
        · exact ⟨j, h1⟩
        · exact ih ys f h2 x hx
    refine ⟨fun x hx => ?_, hc⟩
    obtain ⟨j, hj⟩ := gen _ _ _ hds x hx
    obtain ⟨o, ho, hj⟩ := obind hj
    obtain ⟨io, hio, hj⟩ := obind hj
    injection hj with hj
    subst hj
    refine ⟨⟨o, ho, hio⟩, fun ha => ?_⟩
    have ha : io.op.act = true := ha
    have : io.op.pend = false := by cases hx : io.op <;> rw [hx] at ha <;> first | rfl | cases ha
    simp [this]
  · cases h
theorem draw_ok {ds : List DDI} (htr : trDraw P cands mnames N ops = some ds) {cf : CF} (hcf : CallsOK P cf) {env : Env} {h : Hp} {nx : Ps} {k : KE} (hk : drawK cf (ds.map dDI) env h nx k = true) :
    ∃ env' h' nx', k env' h' nx' = true ∧ ∀ g (a : Act) w Q, FR N g env a → WR g h nx w →
      (∀ g' a' w', FR N g' env' a' → a'.defers = a.defers → a'.tmps.size = a.tmps.size → WR g' h' nx' w' → Ex g nx w g' nx' w' → Q Exit.normal a' w') →
      wpAny P .any ops Q ops.size (Array.replicate ops.size false) a w := by
  obtain ⟨hst, hord⟩ := trDraw_ok htr
  obtain ⟨F, M, env', h', nx', rs, ho⟩ := extract (nx0 := nx) hcf ds hst [] env h nx k 0 (fun _ => (h, nx)) (Nat.le_refl _) hk
  refine ⟨env', h', nx', ho.k, fun g a w Q hf hw hK => ?_⟩
  have ho2 := ord_of_chk ho.sk hord
  have hlen : (rs.filter fun x => !(Array.replicate ops.size false).getD x.ix false).length ≤ ops.size := by
    have h1 : (rs.map Rc.ix).Nodup := ho2.nd
    have h2 : ∀ j ∈ rs.map Rc.ix, j < ops.size := fun j hj => by
      obtain ⟨r, hr, rfl⟩ := List.mem_map.1 hj
      obtain ⟨o, ho⟩ := ho2.rng r hr
      exact (Array.getElem?_eq_some_iff.1 ho).1
    have h3 : (rs.map Rc.ix).length ≤ (List.range ops.size).length := by rw [List.length_range]; exact nd_le _ _ h1 h2
    simp at h3
    exact Nat.le_trans (List.length_filter_le _ _) h3
  have hall : ∀ i, (Array.replicate ops.size false).getD i false = false := fun i => by
    by_cases hi : i < ops.size <;> simp [hi]
  refine sim ho2 ho.ch (g0 := g) (w0 := w) (a0 := a) (fun g' a' w' q1 q2 q3 q4 q5 q6 => ?_) ops.size _ a w g 0 ⟨hw.grow ho.grow, fun t ht => ?_, hf.sz, rfl, rfl, .refl _ _ _, fun r _ _ => ?_, fun i j hi => ?_, fun r hr p hp _ hle c x hx hxp => ?_, Nat.zero_le _, by simp⟩ hlen
  · rw [ho.fin] at q1
    refine hK g' a' w' ⟨fun t ht => ?_, q3⟩ q4 q5 q1 (q6.strong ?_)
    · rw [← ho.val t ht]; exact q2 t ht
    · have := ho.mono M (Nat.zero_le _) (Nat.le_refl _)
      rw [ho.fin] at this; exact this
  · rw [valS_none _ _ _ _ fun x _ _ => hall x.ix]
    exact hf.ev t ht
  · rw [hall]; simp
  · rw [hall] at hi; cases hi
  · have h1 := ho.ch.id_ge r hr p hp
    have h2 := hw.lt c x hx
    rw [hxp] at h2; omega
end
end Go.Proofs.YtfiambjmphjjgaaGreatDoor.Ms
