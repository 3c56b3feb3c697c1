/- Part of a proof: a checked evaluator of the program (the relation between the abstract heap and a world). No condition. -/
import Derived.Test.YtfiambjmphjjgaaGreatDoorMsLem
import Derived.Lib.TrailingZeros
import Derived.Calls
import Derived.Laws.Sem
/-! the relation between the abstract heap and a world -/
noncomputable section
namespace Go.Proofs.YtfiambjmphjjgaaGreatDoor.Ms
set_option linter.unusedVariables false
set_option linter.unusedSimpArgs false
/-- what a concrete block is a copy of: an abstract block, how many cells are known, an element's cells, all cells -/
structure GI where
  a : Ps
  L : Nat
  s : Nat
  T : Nat
abbrev G := Nat → Option GI
mutual
inductive VR (g : G) : AV → Value → Prop
  | b (v : Bool) : VR g (.b v) (.bool v)
  | i (k : IntKind) (v : Int) : VR g (.i k v) (.int k v)
  | s (v : ByteArray) : VR g (.s v) (.string v)
  | pn : VR g .pn (.pointer none)
  | p (c : Nat) (x : GI) (a : Ps) (o e : Nat) (hc : g c = some x) (ha : x.a = a) (he : o + e ≤ x.L) : VR g (.p a o e) (.pointer (some ⟨c, o, none⟩))
  | sn : VR g .sn (.slice none 0 0)
  | se (s c o n : Nat) : VR g (.se s) (.slice (some ⟨c, o, none⟩) 0 n)
  | sl (c : Nat) (x : GI) (a : Ps) (s o n k : Nat) (hc : g c = some x) (ha : x.a = a) (hs : x.s = s) (hn : n ≤ k) (hL : o + k * s ≤ x.L) : VR g (.sl a s o n k) (.slice (some ⟨c, o, none⟩) n k)
  | so (c : Nat) (x : GI) (a : Ps) (s o n k : Nat) (hc : g c = some x) (ha : x.a = a) (hs : x.s = s) (hn : n ≤ k) (hL : o + n * s ≤ x.L) (hT : o + k * s ≤ x.T) : VR g (.so a s o n) (.slice (some ⟨c, o, none⟩) n k)
  | mn : VR g .mn (.map none)
  | m (c : Nat) (x : GI) (a : Ps) (hc : g c = some x) (ha : x.a = a) : VR g (.m a) (.map (some c))
  | f (fn : Fn) (fs cs : List AV) (us ds : List Value) (hf : VRs g fs us) (hc : VRs g cs ds) : VR g (.f fn fs cs) (.func fn ⟨us⟩ ⟨ds⟩)
  | fz : VR g .fz .nilFunc
  | ifc (t : Nat) (v : AV) (u : Value) (h : VR g v u) : VR g (.ifc t v) (.iface t u)
  | iz : VR g .iz .nilIface
  | agg (l : List AV) (us : List Value) (h : VRs g l us) (ho : ∀ u ∈ us, u.oneCell' = true) : VR g (.agg l) (.agg ⟨us⟩)
  | tup (l : List AV) (us : List Value) (h : VRs g l us) : VR g (.tup l) (.tuple ⟨us⟩)
inductive VRs (g : G) : List AV → List Value → Prop
  | nil : VRs g [] []
  | cons (v : AV) (u : Value) (l : List AV) (us : List Value) (h : VR g v u) (hs : VRs g l us) : VRs g (v :: l) (u :: us)
end

/-- more is known -/
def GUp (g g' : G) : Prop := ∀ c x, g c = some x → ∃ x', g' c = some x' ∧ x'.a = x.a ∧ x'.s = x.s ∧ x'.T = x.T ∧ x.L ≤ x'.L
theorem GUp.refl (g : G) : GUp g g := fun _ x h => ⟨x, h, rfl, rfl, rfl, Nat.le_refl _⟩
theorem GUp.trans {g g' g'' : G} (h : GUp g g') (k : GUp g' g'') : GUp g g'' := fun c x hx => by
  obtain ⟨x1, h1, a1, s1, t1, l1⟩ := h c x hx
  obtain ⟨x2, h2, a2, s2, t2, l2⟩ := k c x1 h1
  exact ⟨x2, h2, a2.trans a1, s2.trans s1, t2.trans t1, Nat.le_trans l1 l2⟩
theorem VR.up {g g' : G} (hu : GUp g g') {v : AV} {u : Value} (h : VR g v u) : VR g' v u := by
  refine VR.rec (motive_1 := fun v u _ => VR g' v u) (motive_2 := fun l us _ => VRs g' l us) ?_ ?_ ?_ ?_ ?_ ?_ ?_ ?_ ?_ ?_ ?_ ?_ ?_ ?_ ?_ ?_ ?_ ?_ ?_ h
  · exact fun v => .b v
  · exact fun k v => .i k v
  · exact fun v => .s v
  · exact .pn
  · intro c x a o e hc ha he
    obtain ⟨x', h1, h2, h3, h4, h5⟩ := hu c x hc
    exact .p c x' a o e h1 (h2.trans ha) (by omega)
  · exact .sn
  · exact fun s c o n => .se s c o n
  · intro c x a s o n k hc ha hs hn hL
    obtain ⟨x', h1, h2, h3, h4, h5⟩ := hu c x hc
    exact .sl c x' a s o n k h1 (h2.trans ha) (h3.trans hs) hn (by omega)
  · intro c x a s o n k hc ha hs hn hL hT
    obtain ⟨x', h1, h2, h3, h4, h5⟩ := hu c x hc
    exact .so c x' a s o n k h1 (h2.trans ha) (h3.trans hs) hn (by omega) (by omega)
  · exact .mn
  · intro c x a hc ha
    obtain ⟨x', h1, h2, h3, h4, h5⟩ := hu c x hc
    exact .m c x' a h1 (h2.trans ha)
  · exact fun fn fs cs us ds _ _ h1 h2 => .f fn fs cs us ds h1 h2
  · exact .fz
  · exact fun t v u _ h => .ifc t v u h
  · exact .iz
  · exact fun l us _ ho h => .agg l us h ho
  · exact fun l us _ h => .tup l us h
  · exact .nil
  · exact fun v u l us _ _ h hs => .cons v u l us h hs
theorem VRs.up {g g' : G} (hu : GUp g g') {l : List AV} {us : List Value} (h : VRs g l us) : VRs g' l us := by
  induction l generalizing us with
  | nil => cases h; exact .nil
  | cons v l ih => cases h with | cons _ u _ us h hs => exact .cons v u l us (h.up hu) (ih hs)
theorem VRs.length {g : G} {l : List AV} {us : List Value} (h : VRs g l us) : us.length = l.length := by
  induction l generalizing us with
  | nil => cases h; rfl
  | cons v l ih => cases h with | cons _ u _ us h hs => simp [ih hs]
theorem VRs.get {g : G} {l : List AV} {us : List Value} (h : VRs g l us) : ∀ {i : Nat} {v : AV}, l[i]? = some v → ∃ u, us[i]? = some u ∧ VR g v u := by
  induction l generalizing us with
  | nil => intro i v hi; simp at hi
  | cons w l ih =>
    cases h with
    | cons _ u _ us h hs =>
      intro i v hi
      cases i with
      | zero => simp at hi; subst hi; exact ⟨u, rfl, h⟩
      | succ i => exact ih hs (by simpa using hi)
theorem VRs.of_get {g : G} {l : List AV} : ∀ {us : List Value}, us.length = l.length → (∀ (i : Nat) (v : AV), l[i]? = some v → ∃ u, us[i]? = some u ∧ VR g v u) → VRs g l us := by
  induction l with
  | nil => intro us h _; cases us with | nil => exact .nil | cons _ _ => simp at h
  | cons w l ih =>
    intro us h hg
    cases us with
    | nil => simp at h
    | cons u us =>
      obtain ⟨u', e, hu⟩ := hg 0 w rfl
      simp at e; subst e
      exact .cons w u l us hu (ih (by simpa using h) fun i v hi => hg (i + 1) v (by simpa using hi))
theorem VRs.append {g : G} {l l' : List AV} {us us' : List Value} (h : VRs g l us) (h' : VRs g l' us') : VRs g (l ++ l') (us ++ us') := by
  induction l generalizing us with
  | nil => cases h; exact h'
  | cons v l ih => cases h with | cons _ u _ us h hs => exact .cons v u _ _ h (ih hs)
theorem VRs.take {g : G} {l : List AV} {us : List Value} (h : VRs g l us) : ∀ n, VRs g (l.take n) (us.take n) := by
  induction l generalizing us with
  | nil => cases h; intro n; simp; exact .nil
  | cons v l ih => cases h with | cons _ u _ us h hs => intro n; cases n with | zero => exact .nil | succ n => exact .cons v u _ _ h (ih hs n)
theorem VRs.drop {g : G} {l : List AV} {us : List Value} (h : VRs g l us) : ∀ n, VRs g (l.drop n) (us.drop n) := by
  induction l generalizing us with
  | nil => cases h; intro n; simp; exact .nil
  | cons v l ih => cases h with | cons _ u _ us h hs => intro n; cases n with | zero => exact .cons v u _ _ h hs | succ n => exact ih hs n
theorem VRs.flat {g : G} {l : List AV} {us : List Value} (h : VRs g l us) : ∀ n, VRs g (List.replicate n l).flatten (List.replicate n us).flatten := by
  intro n
  induction n with
  | zero => exact .nil
  | succ n ih => simpa [List.replicate_succ] using h.append ih
theorem VR.one {g : G} {v : AV} {u : Value} (h : VR g v u) : u.oneCell' = v.one := by cases h <;> rfl

/-- a map's entries -/
inductive ER (g : G) : List ME → List MapEntry → Prop
  | nil : ER g [] []
  | cons (e : ME) (e' : MapEntry) (l : List ME) (l' : List MapEntry) (hk : VR g e.k e'.key) (hv : VR g e.v e'.val) (hb : e.born = e'.born) (hs : ER g l l') : ER g (e :: l) (e' :: l')
theorem ER.up {g g' : G} (hu : GUp g g') {l : List ME} {l' : List MapEntry} (h : ER g l l') : ER g' l l' := by
  induction h with
  | nil => exact .nil
  | cons e e' l l' hk hv hb _ ih => exact .cons e e' l l' (hk.up hu) (hv.up hu) hb ih

/-- a block -/
def OR (g : G) (x : GI) (ob : Ob) (o : Obj) : Prop :=
  match ob with
  | .c s sg n t => x.s = s ∧ x.L ≤ n ∧ (sg = true → x.L = n) ∧ ∃ cc el fr, o = .cells cc el fr ∧ cc.size = x.T ∧ x.L ≤ x.T ∧ (fr.1 = fr.2 ∨ x.T ≤ fr.1) ∧
      ∀ i, i < x.L → ∃ v u, t.getN i = some v ∧ cc[i]? = some u ∧ VR g v u ∧ v.one = true
  | .m es clk => ∃ es', o = .map es' clk ∧ ER g es es'.toList
  | .si s pos => x.L = 0 ∧ o = .stringIter s pos
  | .mi .. => False
theorem OR.up {g g' : G} (hu : GUp g g') {x : GI} {ob : Ob} {o : Obj} (h : OR g x ob o) : OR g' x ob o := by
  cases ob with
  | c s sg n t =>
    obtain ⟨h1, h2, h3, cc, el, fr, h4, h5, h6, h7, h8⟩ := h
    exact ⟨h1, h2, h3, cc, el, fr, h4, h5, h6, h7, fun i hi => by
      obtain ⟨v, u, a, b, c, d⟩ := h8 i hi
      exact ⟨v, u, a, b, c.up hu, d⟩⟩
  | m es clk => obtain ⟨es', h1, h2⟩ := h; exact ⟨es', h1, h2.up hu⟩
  | si s pos => exact h
  | mi => exact h
/-- is it the only copy -/
def Ob.alone : Ob → Bool
  | .c _ sg _ _ => sg
  | _ => true
/-- a table that stands from the beginning, and is never turned -/
abbrev GL : Nat := 0
def TabO (o : Obj) : Prop := ∃ cc el fr, o = .cells cc el fr ∧ ∀ j, j < Lib.deBruijn64tab.length → cc[j]? = some (.int .u8 (Lib.deBruijn64tab.getD j 0))
def GB (g : G) (w : World) : Prop := g GL = none ∧ ∃ o, w.heap[GL]? = some o ∧ TabO o
theorem GB.keep {g g' : G} {w w' : World} (h : GB g w) (hg : g' GL = none) (hk : ∀ o, w.heap[GL]? = some o → w'.heap[GL]? = some o) : GB g' w' := by
  obtain ⟨_, o, h1, h2⟩ := h
  exact ⟨hg, o, hk o h1, h2⟩
structure WR (g : G) (h : Hp) (nx : Ps) (w : World) : Prop where
  obj : ∀ c x, g c = some x → ∃ ob o, h.get x.a = some ob ∧ w.heap[c]? = some o ∧ OR g x ob o
  lt : ∀ c x, g c = some x → x.a.num < nx.num
  one : ∀ c x c' x' ob, g c = some x → g c' = some x' → x.a = x'.a → h.get x.a = some ob → ob.alone = true → c = c'
  gl : GB g w

/-- what a run leaves -/
structure Ex (g : G) (nx : Ps) (w : World) (g' : G) (nx' : Ps) (w' : World) : Prop where
  up : GUp g g'
  new : ∀ c x, g' c = some x → g c = none → w.heap.size ≤ c ∧ (nx.num ≤ x.a.num ∨ ∃ c0 x0, g c0 = some x0 ∧ x0.a = x.a)
  keep : ∀ b o, w.heap[b]? = some o → g b = none → w'.heap[b]? = some o
  size : w.heap.size ≤ w'.heap.size
  nx : nx.num ≤ nx'.num
  os : w'.os = w.os
  tape : w'.tape = w.tape
  output : w'.output = w.output
theorem Ex.refl (g : G) (nx : Ps) (w : World) : Ex g nx w g nx w :=
  ⟨.refl g, (fun c x h h' => by rw [h] at h'; cases h'), fun _ _ h _ => h, Nat.le_refl _, Nat.le_refl _, rfl, rfl, rfl⟩
theorem Ex.trans {g : G} {nx : Ps} {w : World} {g' : G} {nx' : Ps} {w' : World} {g'' : G} {nx'' : Ps} {w'' : World}
    (h : Ex g nx w g' nx' w') (k : Ex g' nx' w' g'' nx'' w'') : Ex g nx w g'' nx'' w'' where
  up := h.up.trans k.up
  new := fun c x hx hn => by
    cases e : g' c with
    | some x1 =>
      obtain ⟨h1, h2⟩ := h.new c x1 e hn
      obtain ⟨x2, e2, a2, _⟩ := k.up c x1 e
      rw [hx] at e2; cases e2
      exact ⟨h1, by rw [a2]; exact h2⟩
    | none =>
      obtain ⟨h1, h2⟩ := k.new c x hx e
      refine ⟨Nat.le_trans h.size h1, ?_⟩
      rcases h2 with h2 | ⟨c0, x0, e0, a0⟩
      · exact .inl (Nat.le_trans h.nx h2)
      · cases e1 : g c0 with
        | some x1 =>
          obtain ⟨x2, e2, a2, _⟩ := h.up c0 x1 e1
          rw [e0] at e2; cases e2
          exact .inr ⟨c0, x1, e1, a2.symm.trans a0⟩
        | none =>
          obtain ⟨_, h4⟩ := h.new c0 x0 e0 e1
          rcases h4 with h4 | ⟨c2, x2, e2, a2⟩
          · exact .inl (a0 ▸ h4)
          · exact .inr ⟨c2, x2, e2, a2.trans a0⟩
  keep := fun b o hb hn => by
    have h1 := h.keep b o hb hn
    cases e : g' b with
    | none => exact k.keep b o h1 e
    | some x =>
      have := (h.new b x e hn).1
      have : b < w.heap.size := by
        rcases Nat.lt_or_ge b w.heap.size with hlt | hge
        · exact hlt
        · simp [Array.getElem?_eq_none hge] at hb
      omega
  size := Nat.le_trans h.size k.size
  nx := Nat.le_trans h.nx k.nx
  os := k.os.trans h.os
  tape := k.tape.trans h.tape
  output := k.output.trans h.output
theorem WR.bound {g : G} {h : Hp} {nx : Ps} {w : World} (hw : WR g h nx w) {c : Nat} {x : GI} (hc : g c = some x) : c < w.heap.size := by
  obtain ⟨ob, o, _, h2, _⟩ := hw.obj c x hc
  rcases Nat.lt_or_ge c w.heap.size with hlt | hge
  · exact hlt
  · simp [Array.getElem?_eq_none hge] at h2
theorem WR.fresh {g : G} {h : Hp} {nx : Ps} {w : World} (hw : WR g h nx w) : g w.heap.size = none := by
  cases e : g w.heap.size with
  | none => rfl
  | some x => have := hw.bound e; omega
/-- draws turn nothing -/
theorem WR.drawn {g : G} {h : Hp} {nx : Ps} {w : World} (hw : WR g h nx w) (n : Nat) : WR g h nx { w with drawn := n } := ⟨hw.obj, hw.lt, hw.one, hw.gl⟩
theorem Ex.drawn (g : G) (nx : Ps) (w : World) (n : Nat) : Ex g nx w g nx { w with drawn := n } :=
  ⟨.refl g, (fun c x h h' => by rw [h] at h'; cases h'), fun _ _ h _ => h, Nat.le_refl _, Nat.le_refl _, rfl, rfl, rfl⟩
end Go.Proofs.YtfiambjmphjjgaaGreatDoor.Ms
