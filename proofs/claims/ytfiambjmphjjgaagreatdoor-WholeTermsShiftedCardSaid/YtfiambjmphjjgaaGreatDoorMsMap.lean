/- Part of a proof: a checked evaluator of the program (maps, and ranging over a string). No condition. -/
import Derived.Test.YtfiambjmphjjgaaGreatDoorMsMap0
import Derived.Laws.RangeString
/-! maps, and ranging over a string -/
noncomputable section
namespace Go.Proofs.YtfiambjmphjjgaaGreatDoor.Ms
set_option linter.unusedVariables false
set_option linter.unusedSimpArgs false
section
variable {P : Program}
def ncO : Obj → Bool | .cells .. => false | _ => true
theorem run_getObj {w : World} {r : Nat} {o : Obj} (h : w.heap[r]? = some o) (hn : ncO o = true := by rfl) : (getObj r).run P w = .ok o w := by
  cases o <;> first | (cases hn; done) | simp [getObj, Sem.run, h]
theorem run_setObj {w : World} {r : Nat} {o : Obj} (o' : Obj) (h : w.heap[r]? = some o) (hn : ncO o = true := by rfl) : (setObj r o').run P w = .ok () { w with heap := w.heap.setIfInBounds r o' } := by
  cases o <;> first | (cases hn; done) | simp [setObj, Sem.run, h]
/-- a block put anew -/
theorem WR.set {g : G} {h : Hp} {nx : Ps} {w : World} (hw : WR g h nx w) {c : Nat} {x : GI} (hc : g c = some x) {ob ob' : Ob} (hg : h.get x.a = some ob) (hal : ob.alone = true) {o' : Obj} (ho : OR g x ob' o') :
    WR g (h.put x.a ob') nx { w with heap := w.heap.setIfInBounds c o' } where
  obj := fun b y hy => by
    have hcb := hw.bound hc
    by_cases e : b = c
    · subst e
      rw [hc] at hy; cases hy
      exact ⟨ob', o', (by rw [T.get_put]; simp), by simp [hcb], ho⟩
    · obtain ⟨ob2, o2, h1, h2, h3⟩ := hw.obj b y hy
      refine ⟨ob2, o2, ?_, ?_, h3⟩
      · rw [T.get_put, if_neg, h1]
        intro e2
        exact e (hw.one c x b y _ hc hy e2.symm hg hal).symm
      · show (w.heap.setIfInBounds c o')[b]? = _
        rw [Array.getElem?_setIfInBounds_ne (Ne.symm e)]; exact h2
  gl := hw.gl.write hc fun b hb => by show (w.heap.setIfInBounds c o')[b]? = _; rw [Array.getElem?_setIfInBounds_ne (Ne.symm hb)]
  lt := hw.lt
  one := fun b y b' y' ob2 hy hy' ha hg' hal2 => by
    rw [T.get_put] at hg'
    split at hg'
    · rename_i e
      exact (hw.one c x b y _ hc hy e.symm hg hal).symm.trans (hw.one c x b' y' _ hc hy' (e.symm.trans ha) hg hal)
    · exact hw.one b y b' y' ob2 hy hy' ha hg' hal2
theorem Ex.set {g : G} {nx : Ps} {w : World} {c : Nat} {x : GI} (hc : g c = some x) (o' : Obj) : Ex g nx w g nx { w with heap := w.heap.setIfInBounds c o' } :=
  Ex.write hc (by simp) (fun b hb => by show (w.heap.setIfInBounds c o')[b]? = _; rw [Array.getElem?_setIfInBounds_ne (Ne.symm hb)]) rfl rfl rfl
theorem rd_lk {t kt e : TypeId} {x y : Operand} {x' y' : O} {ok : Bool} {ky : Kk} {i : TypeInfo} {zv : Value} {z : AV} (ht : P.underlying t = some (.map kt e)) (hi : P.info? e = some i) (hz : i.zero = some zv) (hzc : cvF zv = some z)
    (hk : kkT P kt = some ky) (hx : trO x = some x') (hy : trO y = some y') : RdS P (.lookup t x y ok) (dR (.lk ok ky z x' y')) := by
  -- what is looked up, without the second result
  have core : ∀ (env : Env) (h : Hp) (kn : Bool) (kh : Nat → ME → Bool), ((dO x' env).onM fun a => hM h a fun es _ => dKk ky (dO y' env) (findK (dO y' env) es kn kh)) = true →
      (kn = true ∧ ∀ g nx (a : Act) w, OpR g env a x → OpR g env a y → WR g h nx w → (Instr.lookup t (a.eval x) (a.eval y) ok).run P w = .ok (if ok then .tuple #[zv, .bool false] else zv) w) ∨
      (∃ i e, kh i e = true ∧ ∀ g nx (a : Act) w, OpR g env a x → OpR g env a y → WR g h nx w → ∃ u, VR g e.v u ∧ (Instr.lookup t (a.eval x) (a.eval y) ok).run P w = .ok (if ok then .tuple #[u, .bool true] else u) w) := by
    intro env h kn kh hh
    obtain ⟨a0, e1, hh⟩ := onM_ok hh
    obtain ⟨es, clk, hg, hh⟩ := hM_ok hh
    obtain ⟨hck, hf⟩ := keyfind_ok (P := P) hk hh
    have hzero : ∀ w, (zeroValue e).run P w = .ok zv w := fun w => by simp only [zeroValue, Sem.run_bind, run_info hi, Result.andThen_ok, hz, Sem.run_pure]
    rcases hf with ⟨h1, h2⟩ | ⟨i, en, h1, h2, h3⟩
    · refine .inl ⟨h1, fun g nx a w ox oy hw => ?_⟩
      have h4 := ox x' hx
      have h5 := oy y' hy
      rw [e1] at h4
      generalize a.eval x = zx at h4
      cases h4 with
      | m c gx _ hc ha =>
        subst ha
        obtain ⟨es', h6, h7⟩ := hw.map hc hg
        simp only [Instr.lookup, Sem.run_bind, run_und ht, Result.andThen_ok, run_getObj h6, Sem.run_pure, hck g _ es'.isEmpty w h5, h2 g _ es'.toList w h5 h7, hzero]
        all_goals (cases ok <;> rfl)
    · refine .inr ⟨i, en, h2, fun g nx a w ox oy hw => ?_⟩
      have h4 := ox x' hx
      have h5 := oy y' hy
      rw [e1] at h4
      generalize a.eval x = zx at h4
      cases h4 with
      | m c gx _ hc ha =>
        subst ha
        obtain ⟨es', h6, h7⟩ := hw.map hc hg
        obtain ⟨e', h8, h9, _⟩ := h3 g _ es'.toList w h5 h7
        refine ⟨e'.val, (h7.get h1 h8).2.1, ?_⟩
        simp only [Instr.lookup, Sem.run_bind, run_und ht, Result.andThen_ok, run_getObj h6, Sem.run_pure, hck g _ es'.isEmpty w h5, h9]
        all_goals (cases ok <;> rfl)
  intro env h k hk'
  cases ok with
  | false =>
    have hk' : ((dO x' env).onM fun a => hM h a fun es _ => dKk ky (dO y' env) (findK (dO y' env) es (k z) fun _ e => k e.v)) = true := hk'
    rcases core env h _ _ hk' with ⟨h1, h2⟩ | ⟨i, en, h1, h2⟩
    · refine ⟨z, h1, fun g nx a w o ho hx hw => ⟨zv, ?_, (cvF_ok hzc).1⟩⟩
      simp only [execOp, ho, Sem.run_bind, h2 g nx a w (hx x (by simp [Op.operands])) (hx y (by simp [Op.operands])) hw, Result.andThen_ok, Sem.run_pure]
      try rfl
    · refine ⟨_, h1, fun g nx a w o ho hx hw => ?_⟩
      obtain ⟨u, h3, h4⟩ := h2 g nx a w (hx x (by simp [Op.operands])) (hx y (by simp [Op.operands])) hw
      refine ⟨u, ?_, h3⟩
      simp only [execOp, ho, Sem.run_bind, h4, Result.andThen_ok, Sem.run_pure]
      try rfl
  | true =>
    have hk' : ((dO x' env).onM fun a => hM h a fun es _ => dKk ky (dO y' env) (findK (dO y' env) es (k (.tup [z, .b false])) fun _ e => k (.tup [e.v, .b true]))) = true := hk'
    rcases core env h _ _ hk' with ⟨h1, h2⟩ | ⟨i, en, h1, h2⟩
    · refine ⟨_, h1, fun g nx a w o ho hx hw => ⟨.tuple #[zv, .bool false], ?_, .tup _ _ (.cons _ _ _ _ (cvF_ok hzc).1 (.cons _ _ _ _ (.b false) .nil))⟩⟩
      simp only [execOp, ho, Sem.run_bind, h2 g nx a w (hx x (by simp [Op.operands])) (hx y (by simp [Op.operands])) hw, Result.andThen_ok, Sem.run_pure]
      try rfl
    · refine ⟨_, h1, fun g nx a w o ho hx hw => ?_⟩
      obtain ⟨u, h3, h4⟩ := h2 g nx a w (hx x (by simp [Op.operands])) (hx y (by simp [Op.operands])) hw
      refine ⟨.tuple #[u, .bool true], ?_, .tup _ _ (.cons _ _ _ _ h3 (.cons _ _ _ _ (.b true) .nil))⟩
      simp only [execOp, ho, Sem.run_bind, h4, Result.andThen_ok, Sem.run_pure]
      try rfl
theorem ac_mkm {t k e : TypeId} (_ht : P.underlying t = some (.map k e)) : AcS P (.makeMap t none) a_mkm := by
  intro cf _ env h nx kk hk
  have hk : h.setK nx (.m [] 0) (fun h => kk (.m nx) h nx.succ) = true := hk
  rw [T.setK_eq] at hk
  refine ⟨_, _, _, hk, fun g a w o ho hx hw => ?_⟩
  refine .inl ⟨.map (some w.heap.size), { w with heap := w.heap.push (.map #[] 0) }, .inl ?_, gNew g w.heap.size ⟨nx, 0, 0, 0⟩, .m w.heap.size ⟨nx, 0, 0, 0⟩ nx (by simp [gNew]) rfl, hw.new_ _ _ rfl ⟨#[], rfl, .nil⟩, Ex.newCells hw 0 0 0 _⟩
  simp only [execOp, ho, Option.map_none, Instr.makeMap, Sem.run_bind, Sem.run_pure, Result.andThen_ok, run_newObj]
theorem ac_rgs {t : TypeId} {x : Operand} {x' : O} (ht : P.underlying t = some .string) (hx' : trO x = some x') : AcS P (.range t x) (a_rgs (dO x')) := by
  intro cf _ env h nx kk hk
  obtain ⟨b, e, hk⟩ := onS_ok hk
  rw [T.setK_eq] at hk
  refine ⟨_, _, _, hk, fun g a w o ho hx hw => ?_⟩
  have h1 := hx x (by simp [Op.operands]) x' hx'
  rw [e] at h1
  generalize hz : a.eval x = z at h1
  cases h1
  refine .inl ⟨.pointer (some ⟨w.heap.size, 0, none⟩), { w with heap := w.heap.push (.stringIter b 0) }, .inl ?_, gNew g w.heap.size ⟨nx, 0, 0, 0⟩, .p w.heap.size ⟨nx, 0, 0, 0⟩ nx 0 0 (by simp [gNew]) rfl (by simp), hw.new_ _ _ rfl ⟨rfl, rfl⟩, Ex.newCells hw 0 0 0 _⟩
  simp only [execOp, ho, hz, Instr.range, Sem.run_bind, run_und ht, Sem.run_pure, Result.andThen_ok, run_newObj]
theorem WR.si {g : G} {h : Hp} {nx : Ps} {w : World} (hw : WR g h nx w) {c : Nat} {x : GI} (hc : g c = some x) {s : ByteArray} {pos : Nat} (hg : h.get x.a = some (.si s pos)) : x.L = 0 ∧ w.heap[c]? = some (.stringIter s pos) := by
  obtain ⟨ob, o, h1, h2, h3⟩ := hw.obj c x hc
  rw [hg] at h1
  injection h1 with h1
  subst h1
  obtain ⟨h4, rfl⟩ := h3
  exact ⟨h4, h2⟩
theorem ac_nxs {x : Operand} {x' : O} (hx' : trO x = some x') : AcS P (.next x true) (a_nxs (dO x')) := by
  intro cf _ env h nx kk hk
  obtain ⟨a0, o0, e0, e, hk⟩ := onP_ok hk
  obtain ⟨b, pos, hg, hk⟩ := hSi_ok hk
  by_cases hlt : pos < b.size
  · have hb : Nat.ble (Nat.succ pos) b.size = true := Nat.ble_eq_true_of_le hlt
    rw [hb] at hk
    have hk : (h.setK a0 (.si b (pos + (Utf8.decode b pos).2)) fun h => kk (.tup [.b true, .i .i64 (.ofNat pos), .i .i32 (Utf8.decode b pos).1]) h nx) = true := hk
    rw [T.setK_eq] at hk
    refine ⟨_, _, _, hk, fun g a w o ho hx hw => ?_⟩
    have h1 := hx x (by simp [Op.operands]) x' hx'
    rw [e] at h1
    generalize hz : a.eval x = z at h1
    cases h1 with
    | p c gx _ _ _ hc ha he =>
      subst ha
      obtain ⟨h2, h3⟩ := hw.si hc hg
      have : o0 = 0 := by omega
      subst this
      refine .inl ⟨.tuple #[.bool true, goInt pos, .int .i32 (Utf8.decode b pos).1], _, .inl ?_, g, .tup _ _ (.cons _ _ _ _ (.b true) (.cons _ _ _ _ (.i _ _) (.cons _ _ _ _ (.i _ _) .nil))), hw.set hc hg rfl (o' := .stringIter b (pos + (Utf8.decode b pos).2)) ⟨h2, rfl⟩, Ex.set hc _⟩
      simp only [execOp, ho, hz, Instr.next, Sem.run_bind, run_getObj h3, Result.andThen_ok, hlt, if_true, run_setObj _ h3, Sem.run_pure]
  · have hb : Nat.ble (Nat.succ pos) b.size = false := by
      cases hq : Nat.ble (Nat.succ pos) b.size with
      | false => rfl
      | true => exact absurd (Nat.le_of_ble_eq_true hq) (by omega)
    rw [hb] at hk
    have hk : kk (.tup [.b false]) h nx = true := hk
    refine ⟨_, _, _, hk, fun g a w o ho hx hw => ?_⟩
    have h1 := hx x (by simp [Op.operands]) x' hx'
    rw [e] at h1
    generalize hz : a.eval x = z at h1
    cases h1 with
    | p c gx _ _ _ hc ha he =>
      subst ha
      obtain ⟨h2, h3⟩ := hw.si hc hg
      have : o0 = 0 := by omega
      subst this
      refine .inl ⟨.tuple #[.bool false], w, .inl ?_, g, .tup _ _ (.cons _ _ _ _ (.b false) .nil), hw, .refl _ _ _⟩
      simp only [execOp, ho, hz, Instr.next, Sem.run_bind, run_getObj h3, Result.andThen_ok, hlt, if_false, Sem.run_pure]
theorem rd_ml {c : Call} {x : Operand} {x' : O} {t k e : TypeId} (hc : c.callee = .builtin .len) (ha : c.args.toList = [x]) (ht : c.argTypes[0]? = some t) (hu : P.underlying t = some (.map k e)) (hx' : trO x = some x') : RdS P (.call c) (r_ml (dO x')) := by
  intro env h kk hk
  obtain ⟨a0, e1, hk⟩ := onM_ok hk
  obtain ⟨es, clk, hg, hk⟩ := hM_ok hk
  rw [lenL_eq] at hk
  refine ⟨_, hk, fun g nx a w o ho hx hw => ?_⟩
  have hargs : c.args = #[x] := Array.ext' (by simpa using ha)
  have h1 := hx x (by simp [Op.operands, Call.operands, hc, hargs]) x' hx'
  rw [e1] at h1
  generalize hz : a.eval x = z at h1
  cases h1 with
  | m cc gx _ hgc hga =>
    subst hga
    obtain ⟨es', h2, h3⟩ := hw.map hgc hg
    refine ⟨.int .i64 es.length, ?_, .i _ _⟩
    have hlen : es'.size = es.length := by rw [← h3.length]; simp
    have hb : (Builtin.len_ c.argTypes o.type #[Value.map (some cc)]).run P w = .ok (.int .i64 es.length) w := by
      have e1 : (#[Value.map (some cc)] : Array Value)[0]? = some (Value.map (some cc)) := rfl
      simp only [Builtin.len_, ht, e1, Sem.run_bind, run_und hu, Result.andThen_ok, run_getObj h2, Sem.run_pure, goInt, hlen]
    simp [execOp, ho, resolve, hc, hargs, hz, Deferred.ofValue, invoke, builtin, hb, Result.andThen]
theorem ac_del {c : Call} {x y : Operand} {x' y' : O} {t kt e : TypeId} {ky : Kk} (hc : c.callee = .builtin .delete) (ha : c.args.toList = [x, y]) (h0 : c.argTypes[0]? = some t) (ht : P.underlying t = some (.map kt e)) (hk : kkT P kt = some ky)
    (hx' : trO x = some x') (hy' : trO y = some y') : AcS P (.call c) (a_del (dKk ky) (dO x') (dO y')) := by
  intro cf _ env h nx kk hh
  obtain ⟨a0, e1, hh⟩ := onM_ok hh
  obtain ⟨es, clk, hg, hh⟩ := hM_ok hh
  obtain ⟨hck, hf⟩ := keyfind_ok (P := P) hk hh
  rcases hf with ⟨h1, h2⟩ | ⟨i, en, h1, h2, h3⟩
  · refine ⟨_, _, _, h1, fun g a w o ho hx hw => ?_⟩
    have hargs : c.args = #[x, y] := Array.ext' (by simpa using ha)
    have h4 := hx x (by simp [Op.operands, Call.operands, hc, hargs]) x' hx'
    have h5 := hx y (by simp [Op.operands, Call.operands, hc, hargs]) y' hy'
    rw [e1] at h4
    generalize hz : a.eval x = z at h4
    cases h4 with
    | m cc gx _ hgc hga =>
      subst hga
      obtain ⟨es', h6, h7⟩ := hw.map hgc hg
      have hsame : w.heap.setIfInBounds cc (.map es' clk) = w.heap := by
        apply Array.ext_getElem?
        intro j
        by_cases e : cc = j
        · subst e; rw [Array.getElem?_setIfInBounds_self_of_lt (hw.bound hgc), h6]
        · rw [Array.getElem?_setIfInBounds_ne e]
      refine .inl ⟨.tuple #[], w, .inl ?_, g, .tup _ _ .nil, hw, .refl _ _ _⟩
      have hb : (Builtin.delete_ c.argTypes o.type #[Value.map (some cc), a.eval y]).run P w = .ok (.tuple #[]) w := by
        have e1 : (#[Value.map (some cc), a.eval y] : Array Value)[0]? = some (Value.map (some cc)) := rfl
        have e2 : (#[Value.map (some cc), a.eval y] : Array Value)[1]? = some (a.eval y) := rfl
        simp only [Builtin.delete_, h0, e1, e2, Sem.run_bind, run_und ht, Result.andThen_ok, run_getObj h6, hck g _ es'.isEmpty w h5, h2 g _ es'.toList w h5 h7, run_setObj _ h6, hsame, Sem.run_pure]
      simp [execOp, ho, resolve, hc, hargs, hz, Deferred.ofValue, invoke, builtin, hb, Result.andThen]
  · cases h2
theorem putE_ok {y v : AV} : ∀ {es : List ME} {i : Nat} {k : List ME → Bool} {e : ME}, es[i]? = some e → putE es i y v k = true → k (es.modify i fun e => ⟨y, v, e.born⟩) = true := by
  intro es
  induction es with
  | nil => intro i k e h; simp at h
  | cons x es ih =>
    intro i k e h hk
    cases i with
    | zero => exact hk
    | succ i =>
      have hk : putE es i y v (fun r => k (x :: r)) = true := hk
      exact ih (by simpa using h) hk
theorem ER.modify {g : G} {y v : AV} {u z : Value} (hy : VR g y u) (hv : VR g v z) {l : List ME} {l' : List MapEntry} (h : ER g l l') : ∀ i : Nat, ER g (l.modify i fun e => ⟨y, v, e.born⟩) (l'.modify i fun e => { e with key := u, val := z }) := by
  induction h with
  | nil => intro i; cases i <;> exact .nil
  | cons e e' l l' hk hv' hb hs ih =>
    intro i
    cases i with
    | zero => exact .cons _ _ _ _ hy hv hb hs
    | succ i => exact .cons _ _ _ _ hk hv' hb (ih i)
theorem ER.snoc {g : G} {e : ME} {e' : MapEntry} (hk : VR g e.k e'.key) (hv : VR g e.v e'.val) (hb : e.born = e'.born) {l : List ME} {l' : List MapEntry} (h : ER g l l') : ER g (l ++ [e]) (l' ++ [e']) := by
  induction h with
  | nil => exact .cons _ _ _ _ hk hv hb .nil
  | cons _ _ _ _ a b c _ ih => exact .cons _ _ _ _ a b c ih
theorem ac_mu {t kt e : TypeId} {m k v : Operand} {m' k' v' : O} {ky : Kk} (ht : P.underlying t = some (.map kt e)) (hk : kkT P kt = some ky) (hm : trO m = some m') (hk' : trO k = some k') (hv : trO v = some v') : AcS P (.mapUpdate t m k v) (a_mu (dKk ky) (dO m') (dO k') (dO v')) := by
  intro cf _ env h nx kk hh
  obtain ⟨a0, e1, hh⟩ := onM_ok hh
  obtain ⟨es, clk, hg, hh⟩ := hM_ok hh
  have hone : ∃ hq : (dO v' env).one = true, dKk ky (dO k' env) (findK (dO k' env) es
      (h.setK a0 (.m (es ++ [⟨dO k' env, dO v' env, clk⟩]) (Nat.succ clk)) fun h => kk undA h nx)
      fun i _ => putE es i (dO k' env) (dO v' env) fun es => h.setK a0 (.m es clk) fun h => kk undA h nx) = true := by
    obtain ⟨h1, d, h2, h3, h4⟩ := key_ok (P := P) hk hh
    obtain ⟨h5, h6⟩ := bfalse h1
    refine ⟨h5, ?_⟩
    rw [h5] at hh
    exact hh
  obtain ⟨_, hh⟩ := hone
  obtain ⟨hck, hf⟩ := keyfind_ok (P := P) hk hh
  rcases hf with ⟨h1, h2⟩ | ⟨i, en, h1, h2, h3⟩
  · rw [T.setK_eq] at h1
    refine ⟨_, _, _, h1, fun g a w o ho hx hw => ?_⟩
    have h4 := hx m (by simp [Op.operands]) m' hm
    have h5 := hx k (by simp [Op.operands]) k' hk'
    have h6 := hx v (by simp [Op.operands]) v' hv
    rw [e1] at h4
    generalize hz : a.eval m = z at h4
    cases h4 with
    | m cc gx _ hgc hga =>
      subst hga
      obtain ⟨es', h7, h8⟩ := hw.map hgc hg
      refine .inl ⟨undef, _, .inr ⟨?_, rfl⟩, g, .tup [] [] .nil, hw.set hgc hg rfl (o' := .map (es'.push { key := a.eval k, val := a.eval v, born := clk }) (clk + 1)) ⟨_, rfl, by rw [Array.toList_push]; exact h8.snoc (e := ⟨_, _, _⟩) (e' := ⟨_, _, _⟩) h5 h6 rfl⟩, Ex.set hgc _⟩
      simp only [execOp, ho, hz, Instr.mapUpdate, Sem.run_bind, run_und ht, Result.andThen_ok, run_getObj h7, hck g _ false w h5, h2 g _ es'.toList w h5 h8, run_setObj _ h7, Sem.run_pure]
  · have h2 := putE_ok h1 h2
    rw [T.setK_eq] at h2
    refine ⟨_, _, _, h2, fun g a w o ho hx hw => ?_⟩
    have h4 := hx m (by simp [Op.operands]) m' hm
    have h5 := hx k (by simp [Op.operands]) k' hk'
    have h6 := hx v (by simp [Op.operands]) v' hv
    rw [e1] at h4
    generalize hz : a.eval m = z at h4
    cases h4 with
    | m cc gx _ hgc hga =>
      subst hga
      obtain ⟨es', h7, h8⟩ := hw.map hgc hg
      obtain ⟨e', h9, h10, h11⟩ := h3 g _ es'.toList w h5 h8
      have h12 : es'[i]? = some e' := by simpa using h9
      have h13 : (es'.modify i fun e => { e with key := a.eval k, val := a.eval v }).toList = es'.toList.modify i fun e => { e with key := a.eval k, val := a.eval v } := by simp
      refine .inl ⟨undef, _, .inr ⟨?_, rfl⟩, g, .tup [] [] .nil, hw.set hgc hg rfl (o' := .map (es'.modify i fun e => { e with key := a.eval k, val := a.eval v }) clk) ⟨_, rfl, by rw [h13]; exact h8.modify h5 h6 i⟩, Ex.set hgc _⟩
      have hstay : (Instr.keyThatStays e'.key (a.eval k)).run P w = .ok (a.eval k) w := by simp only [Instr.keyThatStays, h11, if_true, Sem.run_pure]
      simp only [execOp, ho, hz, Instr.mapUpdate, Sem.run_bind, run_und ht, Result.andThen_ok, run_getObj h7, hck g _ false w h5, h10, h12, Option.map_some, Option.getD_some, hstay, run_setObj _ h7, Sem.run_pure]
end
end Go.Proofs.YtfiambjmphjjgaaGreatDoor.Ms
