/- Part of a proof: a checked evaluator of the program (the simulation). No condition. -/
import Derived.Test.YtfiambjmphjjgaaGreatDoorMsSim
/-! the simulation -/
noncomputable section
namespace Go.Proofs.YtfiambjmphjjgaaGreatDoor.Ms
set_option linter.unusedVariables false
set_option linter.unusedSimpArgs false
structure Ord (ops : Array Oper) (B : Nat → Nat → Prop) (rs : List Rc) : Prop where
  ex : ∀ j o, ops[j]? = some o → ∃ r ∈ rs, r.ix = j
  rng : ∀ r ∈ rs, ∃ o, ops[r.ix]? = some o
  nd : (rs.map Rc.ix).Nodup
  canon : ∀ pre r post, rs = pre ++ r :: post → ∀ x ∈ r :: post, ¬ B x.ix r.ix
  clos : ∀ i o j, ops[i]? = some o → B j i → ∃ e ∈ o.after, Region.binds .any e = true ∧ (e.on = j ∨ B j e.on)
  direct : ∀ i o, ops[i]? = some o → ∀ e ∈ o.after, Region.binds .any e = true → B e.on i ∧ e.on < ops.size
  tmp : ∀ x ∈ rs, ∀ r ∈ rs, ∀ t, x.dst = some t → t ∈ r.names → x.ix = r.ix ∨ B x.ix r.ix ∨ B r.ix x.ix
  dstn : ∀ x ∈ rs, ∀ t, x.dst = some t → t ∈ x.names
  acts : ∀ x ∈ rs, ∀ y ∈ rs, y.act = true → y.st < x.st → B y.ix x.ix
  later : ∀ x ∈ rs, ∀ y ∈ rs, y.act = true → x.tied = true → x.st + x.rep ≤ y.st → x.ix = y.ix ∨ B x.ix y.ix
  actt : ∀ x ∈ rs, x.act = true → x.tied = true ∧ x.rep = 0
section
variable {P : Program} {N : Nat} {ops : Array Oper} {F : Fs} {nx0 : Ps} {M : Nat} {rs : List Rc} {f0 : Nat → AV} {B : Nat → Nat → Prop} {n0 : Nat} {g0 : G} {w0 : World} {a0 : Act}
structure Inv (N : Nat) (ops : Array Oper) (F : Fs) (nx0 : Ps) (M : Nat) (rs : List Rc) (f0 : Nat → AV) (B : Nat → Nat → Prop) (g0 : G) (w0 : World) (a0 : Act) (listed : Array Bool) (a : Act) (w : World) (g : G) (k : Nat) : Prop where
  wr : WR g (F k).1 (F k).2 w
  ts : ∀ t, t < 256 → VR g (valS (fun j => listed.getD j false) f0 rs t) (a.tmps.getD t undef)
  sz : N ≤ a.tmps.size
  df : a.defers = a0.defers
  sz0 : a.tmps.size = a0.tmps.size
  ex : Ex g0 nx0 w0 g nx0 w
  act : ∀ r ∈ rs, r.act = true → (listed.getD r.ix false = true ↔ r.st < k)
  clos : ∀ i j, listed.getD i false = true → B j i → listed.getD j false = true
  no : ∀ r ∈ rs, ∀ p, r.id = some p → listed.getD r.ix false = false → r.st ≤ k → ∀ c x, g c = some x → x.a ≠ p
  le : k ≤ M
  ls : listed.size = ops.size
theorem Ex.weak {g : G} {nx : Ps} {w : World} {g' : G} {nx' : Ps} {w' : World} (h : Ex g nx w g' nx' w') {n0 : Ps} (hn : n0.num ≤ nx.num) : Ex g n0 w g' n0 w' :=
  ⟨h.up, fun c x h1 h2 => by
    obtain ⟨h3, h4⟩ := h.new c x h1 h2
    exact ⟨h3, h4.imp (fun h => Nat.le_trans hn h) (fun h => h)⟩, h.keep, h.size, Nat.le_refl _, h.os, h.tape, h.output⟩
theorem Ex.strong {g : G} {nx : Ps} {w : World} {g' : G} {w' : World} (h : Ex g nx w g' nx w') {nx' : Ps} (hn : nx.num ≤ nx'.num) : Ex g nx w g' nx' w' :=
  ⟨h.up, h.new, h.keep, h.size, hn, h.os, h.tape, h.output⟩
theorem nd_split {pre post : List Rc} {r : Rc} (h : ((pre ++ r :: post).map Rc.ix).Nodup) : (∀ x ∈ pre, x.ix ≠ r.ix) ∧ (∀ x ∈ post, x.ix ≠ r.ix) := by
  rw [List.map_append, List.map_cons, List.nodup_append] at h
  obtain ⟨h1, h2, h3⟩ := h
  rw [List.nodup_cons] at h2
  exact ⟨fun x hx e => h3 _ (List.mem_map_of_mem hx) _ (by simp) e, fun x hx e => h2.1 (e ▸ List.mem_map_of_mem hx)⟩
theorem nd_inj (h : (rs.map Rc.ix).Nodup) {x y : Rc} (hx : x ∈ rs) (hy : y ∈ rs) (e : x.ix = y.ix) : x = y := by
  obtain ⟨pre, post, rfl⟩ := List.append_of_mem hy
  obtain ⟨h1, h2⟩ := nd_split h
  rcases List.mem_append.1 hx with hx | hx
  · exact absurd e (h1 x hx)
  · rcases List.mem_cons.1 hx with rfl | hx
    · rfl
    · exact absurd e (h2 x hx)
theorem getD_tf {listed : Array Bool} {i : Nat} (h : i < listed.size) : listed.getD i true = listed.getD i false := by simp [h]
theorem getD_set {listed : Array Bool} {i j : Nat} (h : i < listed.size) : (listed.setIfInBounds i true).getD j false = if j = i then true else listed.getD j false := by
  by_cases e : j = i
  · subst e; simp [h]
  · rw [getD_set_ne false (Ne.symm e), if_neg e]
theorem filter_lt {listed : Array Bool} {r : Rc} (hr : r ∈ rs) (h0 : listed.getD r.ix false = false) (hl : r.ix < listed.size) :
    (rs.filter fun x => !(listed.setIfInBounds r.ix true).getD x.ix false).length < (rs.filter fun x => !listed.getD x.ix false).length := by
  have key : ∀ l : List Rc, (l.filter fun x => !(listed.setIfInBounds r.ix true).getD x.ix false).length ≤ (l.filter fun x => !listed.getD x.ix false).length ∧
      (r ∈ l → (l.filter fun x => !(listed.setIfInBounds r.ix true).getD x.ix false).length < (l.filter fun x => !listed.getD x.ix false).length) := by
    intro l
    induction l with
    | nil => exact ⟨Nat.le_refl _, fun h => by cases h⟩
    | cons y l ih =>
      simp only [List.filter_cons]
      rw [getD_set hl]
      by_cases e : y.ix = r.ix
      · rw [if_pos e, e, h0]
        simp only [Bool.not_true, Bool.not_false, if_true, Bool.false_eq_true, if_false, List.length_cons]
        exact ⟨by omega, fun _ => by omega⟩
      · rw [if_neg e]
        by_cases e2 : listed.getD y.ix false = true
        · simp only [e2, Bool.not_true, Bool.false_eq_true, if_false]
          refine ⟨ih.1, fun h => ih.2 ?_⟩
          rcases List.mem_cons.1 h with rfl | h
          · exact absurd rfl e
          · exact h
        · simp only [Bool.not_eq_true] at e2
          simp only [e2, Bool.not_false, if_true, List.length_cons]
          refine ⟨by omega, fun h => ?_⟩
          rcases List.mem_cons.1 h with rfl | h
          · exact absurd rfl e
          · have := ih.2 h; omega
  exact (key rs).2 hr
/-- where nothing is ready all is listed -/
theorem all_listed (ho : Ord ops B rs) {listed : Array Bool} (hs : listed.size = ops.size) (hr : Region.ready .any ops listed = []) : ∀ r ∈ rs, listed.getD r.ix false = true := by
  have key : ∀ post pre, rs = pre ++ post → (∀ x ∈ pre, listed.getD x.ix false = true) → ∀ x ∈ post, listed.getD x.ix false = true := by
    intro post
    induction post with
    | nil => intro pre _ _ x hx; cases hx
    | cons r post ih =>
      intro pre he hp
      have hrs : r ∈ rs := by rw [he]; simp
      have h1 : listed.getD r.ix false = true := by
        cases h0 : listed.getD r.ix false with
        | true => rfl
        | false =>
          exfalso
          obtain ⟨o, hor⟩ := ho.rng r hrs
          have hlt : r.ix < ops.size := (Array.getElem?_eq_some_iff.1 hor).1
          have : r.ix ∈ Region.ready .any ops listed := by
            rw [mem_ready]
            refine ⟨by rw [getD_tf (by omega)]; exact h0, o, hor, fun e hee hb => ?_⟩
            obtain ⟨h2, h3⟩ := ho.direct _ _ hor e hee hb
            obtain ⟨x, hx, hxe⟩ := ho.ex e.on _ (Array.getElem?_eq_getElem h3)
            rw [← hxe]
            rw [he] at hx
            rcases List.mem_append.1 hx with hx | hx
            · exact hp x hx
            · exact absurd (hxe ▸ h2) (ho.canon pre r post he x hx)
          rw [hr] at this
          cases this
      intro x hx
      rcases List.mem_cons.1 hx with rfl | hx
      · exact h1
      · exact ih (pre ++ [r]) (by rw [he, List.append_assoc]; rfl) (fun y hy => by
          rcases List.mem_append.1 hy with hy | hy
          · exact hp y hy
          · rw [List.mem_singleton.1 hy]; exact h1) x hx
  exact key rs [] rfl (by simp)
theorem sim (ho : Ord ops B rs) (hc : Chain P N ops F nx0 M f0 0 n0 rs) {Q : Exit → Act → World → Prop}
    (hQ : ∀ g a w, WR g (F M).1 (F M).2 w → (∀ t, t < 256 → VR g (valS (fun _ => true) f0 rs t) (a.tmps.getD t undef)) → N ≤ a.tmps.size → a.defers = a0.defers → a.tmps.size = a0.tmps.size → Ex g0 nx0 w0 g nx0 w → Q .normal a w) :
    ∀ (fuel : Nat) (listed : Array Bool) (a : Act) (w : World) g k, Inv N ops F nx0 M rs f0 B g0 w0 a0 listed a w g k → (rs.filter fun x => !listed.getD x.ix false).length ≤ fuel → wpAny P .any ops Q fuel listed a w := by
  intro fuel
  have hend : ∀ (listed : Array Bool) (a : Act) (w : World) g k, Inv N ops F nx0 M rs f0 B g0 w0 a0 listed a w g k → (∀ r ∈ rs, listed.getD r.ix false = true) → Q .normal a w := by
    intro listed a w g k hi hall
    have hk : k = M := by
      rcases Nat.lt_or_ge k M with h | h
      · obtain ⟨y, h1, h2, h3⟩ := hc.ex_act k (Nat.zero_le _) h
        have := (hi.act y h1 h2).1 (hall y h1); omega
      · exact Nat.le_antisymm hi.le h
    subst hk
    refine hQ g a w hi.wr (fun t ht => ?_) hi.sz hi.df hi.sz0 hi.ex
    rw [valS_congr (fun _ => true) (fun j => listed.getD j false) f0 f0 t rs rfl fun x hx _ => (hall x hx).symm]
    exact hi.ts t ht
  induction fuel with
  | zero =>
    intro listed a w g k hi hf
    have hnil : (rs.filter fun x => !listed.getD x.ix false) = [] := List.length_eq_zero_iff.1 (by omega)
    have hall : ∀ r ∈ rs, listed.getD r.ix false = true := fun r hr => by
      have := List.filter_eq_nil_iff.1 hnil r hr
      simpa using this
    refine ⟨?_, hend listed a w g k hi hall⟩
    cases hr : Region.ready .any ops listed with
    | nil => rfl
    | cons j l =>
      exfalso
      have hj : j ∈ Region.ready .any ops listed := by rw [hr]; simp
      obtain ⟨h0, o, hoj, _⟩ := mem_ready.1 hj
      obtain ⟨r, hrs, hrj⟩ := ho.ex j o hoj
      have hlt : j < ops.size := (Array.getElem?_eq_some_iff.1 hoj).1
      have := hall r hrs
      rw [hrj, ← getD_tf (by rw [hi.ls]; exact hlt), h0] at this
      cases this
  | succ fuel ih =>
    intro listed a w g k hi hf
    refine ⟨fun hr => hend listed a w g k hi (all_listed ho hi.ls hr), fun j hj => ?_⟩
    obtain ⟨h0, o, hoj, hall⟩ := mem_ready.1 hj
    have hlt : j < ops.size := (Array.getElem?_eq_some_iff.1 hoj).1
    rw [getD_tf (by rw [hi.ls]; exact hlt)] at h0
    obtain ⟨r, hrs, rfl⟩ := ho.ex j o hoj
    -- what stands ahead of r is listed
    have hpred : ∀ i, B i r.ix → listed.getD i false = true := fun i hb => by
      obtain ⟨e, he, hbe, h⟩ := ho.clos _ _ _ hoj hb
      rcases h with h | h
      · rw [← h]; exact hall e he hbe
      · exact hi.clos _ _ (hall e he hbe) h
    -- nothing that r stands ahead of is listed
    have hsucc : ∀ i, B r.ix i → listed.getD i false = false := fun i hb => by
      cases e : listed.getD i false with
      | false => rfl
      | true => rw [hi.clos _ _ e hb] at h0; cases h0
    obtain ⟨pre, post, he⟩ := List.append_of_mem hrs
    have hnd := ho.nd
    rw [he] at hnd
    obtain ⟨hnd1, hnd2⟩ := nd_split hnd
    obtain ⟨c1, c2, c3, c4, c5⟩ := Chain.split (he ▸ hc)
    have hcanpost : ∀ x ∈ r :: post, ¬ B x.ix r.ix := ho.canon pre r post he
    have hcanpre : ∀ x ∈ pre, ¬ B r.ix x.ix := fun x hx hb => by
      obtain ⟨p1, p2, hp⟩ := List.append_of_mem hx
      exact ho.canon p1 x (p2 ++ r :: post) (by rw [he, hp]; simp) r (by simp) hb
    have hmpre : ∀ x ∈ pre, x ∈ rs := fun x hx => by rw [he]; simp [hx]
    have hmpost : ∀ x ∈ post, x ∈ rs := fun x hx => by rw [he]; simp [hx]
    have hpreL : ∀ x ∈ pre, ∀ t ∈ r.names, x.dst = some t → listed.getD x.ix false = true := fun x hx t ht hd => by
      rcases ho.tmp x (hmpre x hx) r hrs t hd ht with h | h | h
      · exact absurd h (hnd1 x hx)
      · exact hpred _ h
      · exact absurd h (hcanpre x hx)
    have hpostL : ∀ x ∈ post, ∀ t ∈ r.names, x.dst = some t → listed.getD x.ix false = false := fun x hx t ht hd => by
      rcases ho.tmp x (hmpost x hx) r hrs t hd ht with h | h | h
      · exact absurd h (hnd2 x hx)
      · exact absurd h (hcanpost x (by simp [hx]))
      · exact hsucc _ h
    -- its stage
    have hst : r.st ≤ k := by
      rcases Nat.lt_or_ge k r.st with h | h
      · obtain ⟨y, h1, h2, h3⟩ := hc.ex_act k (Nat.zero_le _) (by
          have : r.st ≤ M := by
            rcases Nat.lt_or_ge M r.st with hm | hm
            · exfalso
              obtain ⟨pre', post', he'⟩ := List.append_of_mem hrs
              have hst := hc.le
              have gen : ∀ (f : Nat → AV) (k n : Nat) (l : List Rc), Chain P N ops F nx0 M f k n l → ∀ x ∈ l, x.st ≤ M := by
                intro f k n l h
                induction h with
                | nil => intro x hx; cases hx
                | cons r rs f k n n' hst _ _ _ _ _ h ih =>
                  intro x hx
                  rcases List.mem_cons.1 hx with rfl | hx
                  · have := h.le; omega
                  · exact ih x hx
              have := gen _ _ _ _ hc r hrs
              omega
            · exact hm
          omega)
        have hy := hpred _ (ho.acts r hrs y h1 h2 (by omega))
        have := (hi.act y h1 h2).1 hy
        omega
      · exact h
    have hhi : r.tied = true → k ≤ r.st + r.rep := fun htd => by
      rcases Nat.lt_or_ge (r.st + r.rep) k with h | h
      · exfalso
        obtain ⟨y, h1, h2, h3⟩ := hc.ex_act (r.st + r.rep) (Nat.zero_le _) (Nat.lt_of_lt_of_le h hi.le)
        have hy := (hi.act y h1 h2).2 (by omega)
        rcases ho.later r hrs y h1 h2 htd (by omega) with h4 | h4
        · rw [← h4, h0] at hy; cases hy
        · rw [hsucc _ h4] at hy; cases hy
      · exact h
    have hstep := c3 k hst hhi hi.le
    refine hstep g a w _ Q (fun t ht ht2 => ?_) hi.sz hi.wr (fun p hp => hi.no r hrs p hp h0 hst) fun g' u w' hv hw' hx' hnew hlo => ?_
    · have : valS (fun j => listed.getD j false) f0 rs t = valS (fun _ => true) f0 pre t := by
        rw [he, valS_append, valS, if_neg (by simp [h0]), valS_none _ _ _ _ fun x hx hd => hpostL x hx t ht hd]
        exact valS_congr _ _ _ _ _ _ rfl fun x hx hd => hpreL x hx t ht hd
      rw [← this]
      exact hi.ts t ht2
    · have hsl : r.ix < listed.size := by rw [hi.ls]; exact hlt
      have hkM : k + r.dk ≤ M := by
        unfold Rc.dk
        by_cases ha : r.act = true
        · rw [if_pos ha]
          have h1 := hc.act_lt r hrs ha
          have h2 := hhi (ho.actt r hrs ha).1
          rw [(ho.actt r hrs ha).2] at h2
          omega
        · rw [if_neg ha]; exact hi.le
      refine ih (listed.setIfInBounds r.ix true) (a.put r.dst u) w' g' (k + r.dk) ?_ (by have := filter_lt hrs h0 hsl; omega)
      refine ⟨hw', fun t ht => ?_, by rw [put_size]; exact hi.sz, (put_defers _ _ _).trans hi.df, (put_size _ _ _).trans hi.sz0, hi.ex.trans hx', ?_, ?_, ?_, hkM, by simp [hi.ls]⟩
      · by_cases hd : r.dst = some t
        · have hlast : valS (fun j => (listed.setIfInBounds r.ix true).getD j false) f0 rs t = r.v := by
            rw [he, valS_append, valS, if_pos (by simp [getD_set hsl]), valS_none]
            · simp [upd, hd]
            · intro x hx hxd
              rw [getD_set hsl, if_neg (hnd2 x hx)]
              exact hpostL x hx t (ho.dstn r hrs t hd) hxd
          rw [hlast, hd]
          have h1 : t < a.tmps.size := Nat.lt_of_lt_of_le (c2 t hd).2 hi.sz
          have : (a.put (some t) u).tmps.getD t undef = u := by rw [put_some]; simp [h1]
          rw [this]; exact hv
        · have hsame : valS (fun j => (listed.setIfInBounds r.ix true).getD j false) f0 rs t = valS (fun j => listed.getD j false) f0 rs t :=
            valS_congr _ _ _ _ _ _ rfl fun x hx hxd => by
              rw [getD_set hsl]
              split
              · rename_i e
                exact absurd (nd_inj ho.nd hx hrs e ▸ hxd) hd
              · rfl
          rw [hsame]
          have : (a.put r.dst u).tmps.getD t undef = a.tmps.getD t undef := by
            cases hdd : r.dst with
            | none => rfl
            | some d =>
              have hne : d ≠ t := fun e => hd (hdd.trans (congrArg some e))
              rw [put_some]
              simp only [Array.getD_eq_getD_getElem?, Array.getElem?_setIfInBounds_ne hne]
          rw [this]
          exact (hi.ts t ht).up hx'.up
      · intro y hy hya
        rw [getD_set hsl]
        split
        · rename_i e
          have := nd_inj ho.nd hy hrs e
          subst this
          have h2 := hhi (ho.actt y hy hya).1
          rw [(ho.actt y hy hya).2] at h2
          simp [Rc.dk, hya]; omega
        · rename_i e
          rw [hi.act y hy hya]
          by_cases ha : r.act = true
          · have h2 := hhi (ho.actt r hrs ha).1
            rw [(ho.actt r hrs ha).2] at h2
            have hne : y.st ≠ k := fun hyk => by
              rcases ho.later y hy r hrs ha (ho.actt y hy hya).1 (by rw [(ho.actt y hy hya).2]; omega) with h | h
              · exact e h
              · rcases ho.later r hrs y hy hya (ho.actt r hrs ha).1 (by rw [(ho.actt r hrs ha).2]; omega) with h' | h'
                · exact e h'.symm
                · have h3 := hpred _ h
                  rw [hsucc _ h'] at h3; cases h3
            simp [Rc.dk, ha]; omega
          · simp [Rc.dk, ha]
      · intro i j hij hb
        rw [getD_set hsl] at hij ⊢
        split
        · rfl
        · split at hij
          · rename_i e; subst e; exact hpred _ hb
          · exact hi.clos i j hij hb
      · intro y hy p hp hyl hyk c x hc'
        rw [getD_set hsl] at hyl
        split at hyl
        · cases hyl
        · rename_i e
          by_cases hyk' : y.st ≤ k
          · -- an id of an earlier stage
            cases hgc : g c with
            | some x0 =>
              obtain ⟨x', h1, h2, _⟩ := hx'.up c x0 hgc
              rw [hc'] at h1; cases h1
              rw [h2]
              exact hi.no y hy p hp hyl hyk' c x0 hgc
            | none =>
              intro hxp
              obtain ⟨ypre, ypost, hye⟩ := List.append_of_mem hy
              obtain ⟨_, _, _, y4, _⟩ := Chain.split (hye ▸ hc)
              obtain ⟨_, yid, ypre', ypost'⟩ := y4 p hp
              rcases hnew c x hc' hgc with h1 | h1 | ⟨c0, x0, h1, h2⟩
              · rw [hxp] at h1
                have hne : r ≠ y := fun h => e (by rw [h])
                rw [hye] at hrs
                rcases List.mem_append.1 hrs with h | h
                · have := ypre' r h p h1; omega
                · rcases List.mem_cons.1 h with h | h
                  · exact hne h
                  · have := ypost' r h p h1; omega
              · have := yid k hyk' hi.le
                rw [hxp] at h1; omega
              · exact hi.no y hy p hp hyl hyk' c0 x0 h1 (h2.trans hxp)
          · -- of the stage that begins
            have ha : r.act = true := by
              cases h : r.act with
              | true => rfl
              | false => simp [Rc.dk, h] at hyk; omega
            have h2 := hhi (ho.actt r hrs ha).1
            rw [(ho.actt r hrs ha).2] at h2
            have hyp : y ∈ post := by
              rw [he] at hy
              rcases List.mem_append.1 hy with h | h
              · have := c1 y h; omega
              · rcases List.mem_cons.1 h with h | h
                · exact absurd (by rw [h]) e
                · exact h
            have h3 := c5 ha y hyp p hp
            have h4 := hlo ha c x hc'
            intro hxp
            rw [hxp] at h4; omega
end
end Go.Proofs.YtfiambjmphjjgaaGreatDoor.Ms
