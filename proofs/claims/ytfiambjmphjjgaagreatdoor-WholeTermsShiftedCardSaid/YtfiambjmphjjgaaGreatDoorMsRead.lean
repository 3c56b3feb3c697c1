/- Part of a proof: a checked evaluator of the program (operations that read, and that make blocks of cells). No condition. -/
import Derived.Test.YtfiambjmphjjgaaGreatDoorMsPure6
import Derived.Laws.BytesString
/-! operations that read, and that make blocks of cells -/
noncomputable section
namespace Go.Proofs.YtfiambjmphjjgaaGreatDoor.Ms
set_option linter.unusedVariables false
set_option linter.unusedSimpArgs false
section
variable (P : Program)
def RdS (op : Op) (r : Rd) : Prop :=
  ∀ env h k, r env h k = true → ∃ v, k v = true ∧ ∀ g nx (a : Act) w (o : Oper), o.op = op → (∀ x ∈ op.operands, OpR g env a x) → WR g h nx w →
    ∃ u, (execOp a.eval o).run P w = .ok (.value u) w ∧ VR g v u
def MkS (op : Op) (m : Mk) : Prop :=
  ∀ env k, m env k = true → ∃ s l mk, k s l mk = true ∧ ∀ g nx (a : Act) w (o : Oper), o.op = op → (∀ x ∈ op.operands, OpR g env a x) → g w.heap.size = none →
    ∃ us u el, VRs g l us ∧ (∀ x ∈ l, x.one = true) ∧ (execOp a.eval o).run P w = .ok (.value u) { w with heap := w.heap.push (.cells us.toArray el) } ∧
      VR (gNew g w.heap.size ⟨nx, l.length, s, us.length⟩) (mk nx l.length) u
variable {P} {cands : List Nat} {mnames : List String}
theorem rd_ld {t : TypeId} {x : Operand} {y : O} {s : Nat} (hb : aggT P t = some false) (hy : trO x = some y) (_hs : szT P t = some s) : RdS P (.load t x) (r_ld (dO y)) := by
  intro env h k hk
  obtain ⟨a0, o0, e0, e, hk⟩ := onP_ok hk
  obtain ⟨s', sg, n, t', hg, hk⟩ := hC_ok hk
  obtain ⟨h1, hk⟩ := bfalse hk
  have h1 : 1 ≤ e0 := Nat.le_of_ble_eq_true h1
  obtain ⟨v, hv, hk⟩ := orec hk
  refine ⟨v, hk, fun g nx a w o ho hx hw => ?_⟩
  have h2 := hx x (by simp [Op.operands]) y hy
  rw [e] at h2
  generalize hz : a.eval x = z at h2
  cases h2 with
  | p c gx _ _ _ hc ha he =>
    subst ha
    obtain ⟨u, hu, hvu, _⟩ := hw.load1 hc hg (o := o0) (by omega) hv
    refine ⟨u, ?_, hvu⟩
    have hr : (Instr.loadAt t (.pointer (some ⟨c, o0, none⟩))).run P w = .ok u w := by
      simp only [Instr.loadAt, Instr.sureAddr, loadVar, Sem.run_bind, Sem.run_pure, Result.andThen_ok, run_agg hb]
      simp [hu]
    simp only [execOp, ho, hz, Sem.run_bind, hr, Result.andThen_ok, Sem.run_pure]
theorem loadVar_agg {g : G} {h : Hp} {nx : Ps} {w : World} {t : TypeId} {s0 : Nat} (hw : WR g h nx w) (hb : aggT P t = some true) (hs : szT P t = some s0) {c : Nat} {gx : GI} (hc : g c = some gx)
    {s n : Nat} {sg : Bool} {t' : T AV} (hg : h.get gx.a = some (.c s sg n t')) {o0 : Nat} {l : List AV} (hlen : l.length = s0) (hle : o0 + s0 ≤ gx.L) (hgl : ∀ i, i < s0 → t'.getN (o0 + i) = l[i]?) :
    ∃ u, (loadVar t ⟨c, o0, none⟩).run P w = .ok u w ∧ VR g (.agg l) u := by
  obtain ⟨us, hr, hl, ho, _⟩ := hw.load P hc hg (o := o0) (l := l) (by omega) (fun i hi => hgl i (by omega))
  refine ⟨.agg us.toArray, ?_, .agg l us hl ho⟩
  simp only [loadVar, Sem.run_bind, run_agg hb, Result.andThen_ok, if_true, run_size hs, ← hlen, hr, Sem.run_pure]
theorem rd_ldn {t : TypeId} {x : Operand} {y : O} {s : Nat} (hb : aggT P t = some true) (hy : trO x = some y) (hs : szT P t = some s) : RdS P (.load t x) (r_ldn s (dO y)) := by
  intro env h k hk
  obtain ⟨a0, o0, e0, e, hk⟩ := onP_ok hk
  obtain ⟨s', sg, n, t', hg, hk⟩ := hC_ok hk
  obtain ⟨h1, hk⟩ := bfalse hk
  have h1 : s ≤ e0 := Nat.le_of_ble_eq_true h1
  obtain ⟨l, hk, hlen, hgl⟩ := ldK_ok hk
  refine ⟨_, hk, fun g nx a w o ho hx hw => ?_⟩
  have h2 := hx x (by simp [Op.operands]) y hy
  rw [e] at h2
  generalize hz : a.eval x = z at h2
  cases h2 with
  | p c gx _ _ _ hc ha he =>
    subst ha
    obtain ⟨u, hr, hv⟩ := loadVar_agg hw hb hs hc hg hlen (by omega) hgl
    refine ⟨u, ?_, hv⟩
    have hr : (Instr.loadAt t (.pointer (some ⟨c, o0, none⟩))).run P w = .ok u w := by
      simp only [Instr.loadAt, Instr.sureAddr, Sem.run_bind, Sem.run_pure, Result.andThen_ok, hr]
    simp only [execOp, ho, hz, Sem.run_bind, hr, Result.andThen_ok, Sem.run_pure]
/-- the cells of a slice -/
theorem slCells_ok {h : Hp} {s : Nat} {v : AV} {k : List AV → Nat → Bool} (hk : slCells h s v k = true) :
    ∃ l n, k l n = true ∧ l.length = n * s ∧ ∀ g nx w u, WR g h nx w → VR g v u →
      ∃ us b cap, u = .slice b n cap ∧ n ≤ cap ∧ VRs g l us ∧ (∀ x ∈ us, x.oneCell' = true) ∧ us.length = n * s ∧ (b = none → n = 0) ∧
        (∀ ad, b = some ad → (loadCells ad (n * s)).run P w = .ok us.toArray w) := by
  have hmain : ∀ a s' o n, s = s' → hC h a (fun _ _ _ t => ldK t o (Nat.mul n s) fun l => k l n) = true →
      ∃ l, k l n = true ∧ l.length = n * s ∧ ∀ g nx w (c : Nat) (x : GI), WR g h nx w → g c = some x → x.a = a → o + n * s ≤ x.L →
        ∃ us, VRs g l us ∧ (∀ x ∈ us, x.oneCell' = true) ∧ us.length = n * s ∧ (loadCells ⟨c, o, none⟩ (n * s)).run P w = .ok us.toArray w := by
    intro a s' o n _ hk
    obtain ⟨s1, sg, m, t', hg, hk⟩ := hC_ok hk
    obtain ⟨l, hk, hlen, hgl⟩ := ldK_ok hk
    have hlen : l.length = n * s := hlen
    refine ⟨l, hk, hlen, fun g nx w c x hw hc ha hle => ?_⟩
    subst ha
    obtain ⟨us, hr, hl, ho, hus⟩ := hw.load P hc hg (o := o) (l := l) (by omega) (fun i hi => hgl i (Nat.lt_of_lt_of_eq hi hlen))
    exact ⟨us, hl, ho, by omega, by rw [← hlen]; exact hr⟩
  rcases onSl_ok hk with ⟨rfl, hk⟩ | ⟨s', rfl, hk⟩ | ⟨a, s', o, n, cap, rfl, hk⟩ | ⟨a, s', o, n, rfl, hk⟩
  · refine ⟨[], 0, hk, by simp, fun g nx w u hw hv => ?_⟩
    cases hv
    exact ⟨[], none, 0, rfl, Nat.le_refl _, .nil, by simp, by simp, (fun _ => rfl), (fun ad e => by cases e)⟩
  · refine ⟨[], 0, hk, by simp, fun g nx w u hw hv => ?_⟩
    cases hv
    exact ⟨[], some _, _, rfl, Nat.zero_le _, .nil, by simp, by simp, (fun e => by cases e), (fun ad e => by rw [Nat.zero_mul]; rfl)⟩
  · have hk' : hC h a (fun _ _ _ t => Bool.rec (motive := fun _ => Bool) false (ldK t o (Nat.mul n s) fun l => k l n) (Nat.beq s s')) = true := hk
    obtain ⟨s1, sg, m, t', hg, hk1⟩ := hC_ok hk'
    obtain ⟨hs, hk1⟩ := bfalse hk1
    have hs : s = s' := Nat.eq_of_beq_eq_true hs
    obtain ⟨l, h1, h2, h3⟩ := hmain a s' o n hs (by unfold hC; rw [hg]; exact hk1)
    refine ⟨l, n, h1, h2, fun g nx w u hw hv => ?_⟩
    cases hv with
    | sl c x _ _ _ _ _ hc ha hs' hn hL =>
      have hmul : n * s' ≤ cap * s' := Nat.mul_le_mul_right s' hn
      obtain ⟨us, e1, e2, e3, e4⟩ := h3 g nx w c x hw hc ha (by rw [hs]; omega)
      exact ⟨us, _, _, rfl, hn, e1, e2, e3, (fun e => by cases e), (fun ad e => by injection e with e; subst e; exact e4)⟩
  · have hk' : hC h a (fun _ _ _ t => Bool.rec (motive := fun _ => Bool) false (ldK t o (Nat.mul n s) fun l => k l n) (Nat.beq s s')) = true := hk
    obtain ⟨s1, sg, m, t', hg, hk1⟩ := hC_ok hk'
    obtain ⟨hs, hk1⟩ := bfalse hk1
    have hs : s = s' := Nat.eq_of_beq_eq_true hs
    obtain ⟨l, h1, h2, h3⟩ := hmain a s' o n hs (by unfold hC; rw [hg]; exact hk1)
    refine ⟨l, n, h1, h2, fun g nx w u hw hv => ?_⟩
    cases hv with
    | so c x _ _ _ _ cap hc ha hs' hn hL hT =>
      obtain ⟨us, e1, e2, e3, e4⟩ := h3 g nx w c x hw hc ha (by rw [hs]; omega)
      exact ⟨us, _, _, rfl, hn, e1, e2, e3, (fun e => by cases e), (fun ad e => by injection e with e; subst e; exact e4)⟩
theorem byK_ok {v : AV} {k : UInt8 → Bool} (h : byK v k = true) : ∃ n : Nat, v = .i .u8 n ∧ n ≤ 255 ∧ k (UInt8.ofNat n) = true := by
  obtain ⟨j, m, rfl, h⟩ := onI_ok h
  obtain ⟨n, rfl, h⟩ := onNat_ok h
  obtain ⟨h1, h9⟩ := bfalse h
  obtain ⟨h1, h2⟩ := and_ok h1
  have h1 := kEq_ok h1
  subst h1
  exact ⟨n, rfl, Nat.le_of_ble_eq_true h2, h9⟩
theorem bytesOf_ok : ∀ {l : List AV} {k : List UInt8 → Bool}, bytesOf l k = true → ∃ ns : List Nat, l = ns.map (fun (n : Nat) => AV.i .u8 (n : Int)) ∧ (∀ n ∈ ns, n ≤ 255) ∧ k (ns.map UInt8.ofNat) = true := by
  intro l
  induction l with
  | nil => intro k h; exact ⟨[], rfl, by simp, h⟩
  | cons v l ih =>
    intro k h
    obtain ⟨n, rfl, h1, h⟩ := byK_ok (v := v) (k := fun b => bytesOf l fun r => k (b :: r)) h
    obtain ⟨ns, rfl, h2, h⟩ := ih h
    exact ⟨n :: ns, rfl, by simp [h1]; exact h2, h⟩
theorem VRs.ints {g : G} : ∀ {ns : List Nat} {us : List Value}, VRs g (ns.map (fun (n : Nat) => AV.i .u8 (n : Int))) us → us = (ns.map fun (n : Nat) => (n : Int)).map (Value.int .u8) := by
  intro ns
  induction ns with
  | nil => intro us h; cases h; rfl
  | cons n ns ih => intro us h; cases h with | cons _ u _ us h hs => cases h; rw [ih hs]; rfl
theorem foldl_push : ∀ (ns : List Nat) (s : ByteArray), (ns.map fun (n : Nat) => (n : Int)).foldl (fun r n => r.push (UInt8.ofNat n.toNat)) s = ⟨⟨s.data.toList ++ ns.map UInt8.ofNat⟩⟩ := by
  intro ns
  induction ns with
  | nil => intro s; simp
  | cons n ns ih =>
    intro s
    rw [List.map_cons, List.foldl_cons, ih]
    simp [ByteArray.push]
theorem rd_b2s {s t e : TypeId} {x : Operand} {y : O} (hs : P.underlying s = some (.slice e)) (ht : P.underlying t = some .string) (he : P.underlying e = some (.int .u8)) (hy : trO x = some y) : RdS P (.convert s t x) (r_b2s (dO y)) := by
  intro env h k hk
  obtain ⟨l, n, hk, hlen, hl⟩ := slCells_ok (P := P) hk
  obtain ⟨ns, rfl, hns, hk⟩ := bytesOf_ok hk
  refine ⟨_, hk, fun g nx a w o ho hx hw => ⟨_, ?_, .s _⟩⟩
  obtain ⟨us, b, cap, hu, _, hv, _, _, hb0, hb⟩ := hl g nx w _ hw (hx x (by simp [Op.operands]) y hy)
  have hus := hv.ints
  subst hus
  have hr : (convert s t (.slice b n cap)).run P w = .ok (.string ⟨⟨ns.map UInt8.ofNat⟩⟩) w := by
    rw [run_convert_bytes_string w s t e b n cap hs he ht]
    cases b with
    | none =>
      have : n = 0 := hb0 rfl
      subst this
      have : ns = [] := by simpa using hlen
      subst this
      rfl
    | some ad =>
      rw [run_bytesToString w ad n cap (ns.map fun (n : Nat) => (n : Int)) (by simpa using hb ad rfl), foldl_push]
      rfl
  simp only [execOp, ho, hu, Sem.run_bind, hr, Result.andThen_ok, Sem.run_pure]
/-! makes -/
theorem heap_new (w : World) (o : Obj) : (newObj o).run P w = .ok w.heap.size { w with heap := w.heap.push o } := rfl
theorem mk_al {e : TypeId} {s : Nat} {z : List AV} (_hs : szT P e = some s) (hz : zeroT P e = some z) : MkS P (.alloc e) (m_al s z) := by
  intro env k hk
  obtain ⟨i, zv, hi, hzv, hsz, hzl, hzz⟩ := zeroT_ok hz
  refine ⟨s, z, _, hk, fun g nx a w o ho hx hf => ⟨zv.cells.toList, .pointer (some ⟨w.heap.size, 0, none⟩), e, (hzz g).1, (hzz g).2, ?_, ?_⟩⟩
  · have hr : (Instr.alloc e true (.tuple #[])).run P w = .ok (.pointer (some ⟨w.heap.size, 0, none⟩)) { w with heap := w.heap.push (.cells zv.cells e) } := by
      simp [Instr.alloc, zeroValue, run_info hi, hzv, newVar, newRow]
    simp only [execOp, ho, Sem.run_bind, hr, Result.andThen_ok, Sem.run_pure]
  · exact VR.newp w _ _ _
theorem mk_bx {e : TypeId} {s : Nat} {x : Operand} {y : O} (hy : trO x = some y) : MkS P (.box e x) (m_bx s (dO y)) := by
  intro env k hk
  have key : ∃ l0, (lenL l0 fun n => Bool.rec (motive := fun _ => Bool) false (k s l0 fun a n => .p a (nat_lit 0) n) (Nat.beq n s)) = true ∧ ((dO y env = .agg l0) ∨ ((dO y env).one = true ∧ l0 = [dO y env])) := by
    rcases onCells_ok hk with ⟨l0, e, hk⟩ | ⟨e, hk⟩
    · exact ⟨l0, hk, .inl e⟩
    · exact ⟨_, hk, .inr ⟨e, rfl⟩⟩
  obtain ⟨l0, hk0, hl0⟩ := key
  rw [lenL_eq] at hk0
  obtain ⟨hn, hk0⟩ := bfalse hk0
  refine ⟨s, l0, _, hk0, fun g nx a w o ho hx hf => ?_⟩
  have hv := hx x (by simp [Op.operands]) y hy
  have hcells : VRs g l0 (a.eval x).cells.toList ∧ ∀ x ∈ l0, x.one = true := by
    rcases hl0 with e | ⟨e, rfl⟩
    · rw [e] at hv
      obtain ⟨l, hkl, h5, h6, h7⟩ := cells_ok hv (k := fun l => decide (l.length = l0.length)) (by simp [AV.onCells])
      rcases h7 with h7 | ⟨h7, _⟩
      · injection h7 with h7; subst h7; exact ⟨h5, h6⟩
      · cases h7
    · obtain ⟨l, hkl, h5, h6, h7⟩ := cells_ok hv (k := fun _ => true) (by cases hh : dO y env <;> first | rfl | (rw [hh] at e; cases e))
      rcases h7 with h7 | ⟨_, h7⟩
      · rw [h7] at e; cases e
      · subst h7; exact ⟨h5, h6⟩
  refine ⟨(a.eval x).cells.toList, .pointer (some ⟨w.heap.size, 0, none⟩), e, hcells.1, hcells.2, ?_, VR.newp w _ _ _⟩
  have hr : (Instr.box e (a.eval x)).run P w = .ok (.pointer (some ⟨w.heap.size, 0, none⟩)) { w with heap := w.heap.push (.cells (a.eval x).cells e) } := by
    simp [Instr.box, newVar, newRow]
  simp only [execOp, ho, Sem.run_bind, hr, Result.andThen_ok, Sem.run_pure]
theorem flat_range (z : Array Value) (n s : Nat) (hz : z.size = s) (_h0 : s ≠ 0) : (Array.range (n * s)).map (fun i => z[i % z.size]!) = (List.replicate n z.toList).flatten.toArray := by
  subst hz
  apply Array.ext'
  simp only [Array.toList_map, Array.toList_range]
  induction n with
  | zero => simp
  | succ n ih =>
    rw [Nat.add_mul, Nat.one_mul, List.range_add, List.map_append, ih, List.replicate_succ', List.flatten_append]
    congr 1
    simp only [List.map_map, List.flatten_cons, List.flatten_nil, List.append_nil]
    apply List.ext_getElem?
    intro i
    by_cases hi : i < z.size
    · have : (n * z.size + i) % z.size = i := by rw [Nat.add_comm, Nat.add_mul_mod_self_right, Nat.mod_eq_of_lt hi]
      simp [hi, this]
    · simp [hi]
theorem flat_len {α : Type} (z : List α) (n : Nat) : (List.replicate n z).flatten.length = n * z.length := by simp
theorem mk_bsl {t e : TypeId} {s len : Nat} {z : List AV} {ps : Array (Nat × Operand)} {r : List (Nat × Nat × O)} (ht : P.underlying t = some (.slice e)) (hs : szT P e = some s) (hle : ¬ (len * s > 1000 ∨ s = 0)) (hz : zeroT P e = some z)
    (hr : trParts (fun i => some (i * s, s)) ps.toList = some r) : MkS P (.buildSlice t len ps) (m_bsl s len z (r.map dPt)) := by
  intro env k hk
  obtain ⟨i, zv, hi, hzv, hsz, hzl, hzz⟩ := zeroT_ok hz
  have hsi : i.size = s := by simp only [szT, hi, Option.map_some] at hs; injection hs
  have hk' : repK z len (fun l => fillK env l (r.map dPt) fun l => k s l fun a _ => .sl a s (nat_lit 0) len len) = true := hk
  rw [repK_eq] at hk'
  obtain ⟨l, h1, h2, h3⟩ := fill_ok hr hk'
  refine ⟨s, l, _, h1, fun g nx a w o ho hx hf => ?_⟩
  obtain ⟨lc, e1, e2, e3⟩ := h3 g a _ ((hzz g).1.flat len) (fun x hx => by
    obtain ⟨l', hl', hx⟩ := List.mem_flatten.1 hx
    rw [List.eq_of_mem_replicate hl'] at hx
    exact (hzz g).2 x hx) (fun p hp => hx p.2 (by simp only [Op.operands, List.mem_toArray, List.mem_map]; exact ⟨p, hp, rfl⟩))
  have hlen : l.length = len * s := by rw [h2, flat_len, hzl, hsi]
  refine ⟨lc, .slice (some ⟨w.heap.size, 0, none⟩) len len, e, e2, e3, ?_, .sl _ ⟨nx, l.length, s, lc.length⟩ _ _ _ _ _ (by simp [gNew]) rfl rfl (Nat.le_refl _) (by simp [hlen])⟩
  have hne : ¬ (len * s > 2 ^ 24) := by omega
  have hrun : (Instr.buildSlice t len (ps.map fun p => match p with | (i, x) => (i, a.eval x))).run P w = .ok (.slice (some ⟨w.heap.size, 0, none⟩) len len) { w with heap := w.heap.push (.cells lc.toArray e) } := by
    have hfill : ∀ zz : Array Value, (len * s = 0 → zz = #[]) → (len * s ≠ 0 → zz = zv.cells) → Instr.fill (fun i => some (i * s, s)) ((Array.range (len * s)).map (fun j => zz[j % zz.size]!)) (ps.map fun p => match p with | (i, x) => (i, a.eval x)).toList = some lc.toArray := by
      intro zz hz0 hz1
      rw [parts_map]
      by_cases h0 : len * s = 0
      · have hl0 : len = 0 := by rcases Nat.mul_eq_zero.1 h0 with h | h; exact h; omega
        subst hl0
        simpa [show Array.range 0 = #[] from rfl] using e1
      · rw [hz1 h0, flat_range zv.cells len s (by omega) (by omega)]
        exact e1
    unfold Instr.buildSlice
    rw [Sem.run_bind, run_und ht, Result.andThen_ok]
    show ((sizeOf e >>= fun size => _) : Sem Value).run P w = _
    rw [Sem.run_bind, run_size hs, Result.andThen_ok]
    simp only [if_neg hne]
    by_cases h0 : len * s = 0
    · rw [if_pos h0]
      simp only [Sem.run_bind, Sem.run_pure, Result.andThen_ok, hfill #[] (fun _ => rfl) (fun h => absurd h0 h)]
      simp [newRow]
    · rw [if_neg h0]
      have hzr : (zeroValue e).run P w = .ok zv w := by simp [zeroValue, run_info hi, hzv]
      simp only [Sem.run_bind, hzr, Sem.run_pure, Result.andThen_ok, hfill zv.cells (fun h => absurd h h0) (fun _ => rfl)]
      simp [newRow]
  simp only [execOp, ho, Sem.run_bind, hrun, Result.andThen_ok, Sem.run_pure]
theorem mk_mks {t e : TypeId} {i : TypeInfo} {z : List AV} {l c : Operand} {l' c' : O} (ht : P.underlying t = some (.slice e)) (hi : P.info? e = some i) (hb : ¬ (i.bytes > 1000000 ∨ i.size = 0)) (hz : zeroT P e = some z)
    (hl : trO l = some l') (hc : trO c = some c') : MkS P (.makeSlice t l c) (m_mks i.size z (dO l') (dO c')) := by
  intro env k hk
  obtain ⟨i', zv, hi', hzv, hsz, hzl, hzz⟩ := zeroT_ok hz
  rw [hi] at hi'
  injection hi' with hi'
  subst hi'
  obtain ⟨j1, m, e1, hk⟩ := onN_ok hk
  obtain ⟨j2, n, e2, hk⟩ := onN_ok hk
  obtain ⟨hle, hk⟩ := bfalse hk
  obtain ⟨hle1, hle2⟩ := and_ok hle
  have hle1 : m ≤ n := Nat.le_of_ble_eq_true hle1
  have hle2 : n ≤ 100000 := Nat.le_of_ble_eq_true hle2
  rw [repK_eq] at hk
  refine ⟨i.size, _, _, hk, fun g nx a w o ho hx hf => ?_⟩
  have h1 := hx l (by simp [Op.operands]) l' hl
  have h2 := hx c (by simp [Op.operands]) c' hc
  rw [e1] at h1
  rw [e2] at h2
  generalize hu : a.eval l = u at h1
  generalize hv : a.eval c = v at h2
  cases h1
  cases h2
  have hflat : ∀ x ∈ (List.replicate n z).flatten, x.one = true := fun x hx => by
    obtain ⟨l', hl', hx⟩ := List.mem_flatten.1 hx
    rw [List.eq_of_mem_replicate hl'] at hx
    exact (hzz g).2 x hx
  have hlen : (List.replicate n z).flatten.length = n * i.size := by rw [flat_len, hzl]
  refine ⟨(List.replicate n zv.cells.toList).flatten, .slice (some ⟨w.heap.size, 0, none⟩) m n, e, (hzz g).1.flat n, hflat, ?_,
    .sl _ ⟨nx, (List.replicate n z).flatten.length, i.size, (List.replicate n zv.cells.toList).flatten.length⟩ _ _ _ _ _ (by simp [gNew]) rfl rfl hle1 (by show 0 + n * i.size ≤ (List.replicate n z).flatten.length; rw [hlen]; omega)⟩
  have hrun : (Instr.makeSlice t (.int j1 m) (.int j2 n)).run P w = .ok (.slice (some ⟨w.heap.size, 0, none⟩) m n) { w with heap := w.heap.push (.cells (List.replicate n zv.cells.toList).flatten.toArray e) } := by
    have hw1 : IntKind.i64.wrap (m : Int) = m := IntWalk.i64_in _ (by omega)
    have hw2 : IntKind.i64.wrap (n : Int) = n := IntWalk.i64_in _ (by omega)
    have hbytes : i.bytes ≤ 1000000 := by omega
    have hmul : i.bytes * n ≤ 1000000 * 100000 := Nat.mul_le_mul hbytes hle2
    have hbig : ¬ ((i.bytes : Int) * (n : Int) > 2 ^ 48) := by
      have h := Int.ofNat_le.2 hmul
      rw [Int.natCast_mul] at h
      have h2 : ((1000000 * 100000 : Nat) : Int) = 100000000000 := rfl
      have h48 : (2 : Int) ^ 48 = 281474976710656 := by decide
      rw [h48]; omega
    have hneg1 : ¬ ((m : Int) < 0) := by omega
    have hneg2 : ¬ ((n : Int) < 0) := by omega
    have hgt : ¬ ((m : Int) > (n : Int)) := by omega
    unfold Instr.makeSlice
    simp only [Sem.run_bind, run_und ht, Result.andThen_ok, asInt, asIntOf, Sem.run_pure, run_info hi, hw1, hw2, hneg1, hneg2, hgt, hbig, decide_false, Bool.or_false, Bool.or_self, Bool.false_eq_true, if_false,
      run_askRoom, Int.toNat_natCast, run_size (show szT P e = some i.size by simp [szT, hi])]
    by_cases h0 : n * i.size = 0
    · have hn0 : n = 0 := by rcases Nat.mul_eq_zero.1 h0 with h | h; exact h; omega
      subst hn0
      simp [newRow, show Array.range 0 = #[] from rfl]
    · rw [if_neg h0]
      have hzr : (zeroValue e).run P w = .ok zv w := by simp [zeroValue, run_info hi, hzv]
      simp only [Sem.run_bind, hzr, Sem.run_pure, Result.andThen_ok]
      rw [flat_range zv.cells n i.size hsz (by omega)]
      simp [newRow]
  simp only [execOp, ho, hu, hv, Sem.run_bind, hrun, Result.andThen_ok, Sem.run_pure]
end
end Go.Proofs.YtfiambjmphjjgaaGreatDoor.Ms
