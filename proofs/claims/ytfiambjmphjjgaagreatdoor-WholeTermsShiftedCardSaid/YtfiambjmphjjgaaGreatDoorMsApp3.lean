/- Part of a proof: a checked evaluator of the program (append: the operation). No condition. -/
import Derived.Test.YtfiambjmphjjgaaGreatDoorMsApp2
/-! append: the operation -/
noncomputable section
namespace Go.Proofs.YtfiambjmphjjgaaGreatDoor.Ms
set_option linter.unusedVariables false
set_option linter.unusedSimpArgs false
section
variable {P : Program} {cands : List Nat}
theorem nat_case {n : Nat} {x y : Bool} (h : Bool.rec (motive := fun _ => Bool) x y (Nat.beq n (nat_lit 0)) = true) : (n = 0 ∧ y = true) ∨ (n ≠ 0 ∧ x = true) := by
  cases e : Nat.beq n (nat_lit 0) with
  | true => rw [e] at h; exact .inl ⟨Nat.eq_of_beq_eq_true e, h⟩
  | false => rw [e] at h; exact .inr ⟨(fun h0 => by rw [h0] at e; cases e), h⟩
theorem ac_app {c : Call} {x y : Operand} {x' y' : O} {t u e e' : TypeId} {i : TypeInfo} {z : List AV} (hc : c.callee = .builtin .append) (ha : c.args.toList = [x, y]) (hat : c.argTypes.toList = [t, u])
    (ht : P.underlying t = some (.slice e)) (hu : P.underlying u = some (.slice e')) (hi : P.info? e = some i) (hz : zeroT P e = some z) (hby : i.bytes ≤ 1000000)
    (hx' : trO x = some x') (hy' : trO y = some y') : AcS P (.call c) (a_app i.size (dO x') (dO y')) := by
  intro cf _ env h nx k hk
  obtain ⟨i', zv, hi', hzv, hsz, hzl, hzz⟩ := zeroT_ok hz
  rw [hi] at hi'
  injection hi' with hi'
  subst hi'
  obtain ⟨new, m, hk, hnl, hnew⟩ := slCells_ok (P := P) hk
  have hm1 : x ∈ (Op.call c).operands := by simp [Op.operands, Call.operands, hc, args_of ha]
  have hm2 : y ∈ (Op.call c).operands := by simp [Op.operands, Call.operands, hc, args_of ha]
  have hargs : c.argTypes = #[t, u] := by rw [← Array.toArray_toList (xs := c.argTypes), hat]
  -- what is run
  have hrun : ∀ (a : Act) (w : World) (o : Oper) (vx vy r : Value) (w' : World), o.op = .call c → a.eval x = vx → a.eval y = vy → (Builtin.append_ #[t, u] o.type #[vx, vy]).run P w = .ok r w' → (execOp a.eval o).run P w = .ok (.value r) w' := by
    intro a w o vx vy r w' ho h1 h2 h3
    have : (execOp a.eval o).run P w = ((Builtin.append_ #[t, u] o.type #[vx, vy]) >>= fun r => pure (Next.value r) : Sem Next).run P w := by
      simp [execOp, ho, resolve, hc, invoke, builtin, args_of ha, hargs, h1, h2]
    rw [this, Sem.run_bind, h3]; rfl
  have hones : ∀ g nx w vy, WR g h nx w → VR g (dO y' env) vy → ∀ v ∈ new, v.one = true := by
    intro g nx w vy hw hv v hvn
    obtain ⟨us, b, cap, _, _, hl, ho, _⟩ := hnew g nx w vy hw hv
    obtain ⟨j, hj, e⟩ := List.getElem_of_mem hvn
    obtain ⟨u', e', hv⟩ := hl.get (i := j) (v := v) (by simp [hj, e])
    rw [← hv.one]; exact ho _ (List.mem_of_getElem? e')
  rcases nat_case hk with ⟨hm0, hk⟩ | ⟨hm0, hk⟩
  · -- nothing is appended
    subst hm0
    have hkx : k (dO x' env) h nx = true := by
      rcases onSl_ok hk with ⟨_, hk⟩ | ⟨_, _, hk⟩ | ⟨_, _, _, _, _, _, hk⟩ | ⟨_, _, _, _, _, hk⟩ <;> exact hk
    have hsl : ∀ g vx, VR g (dO x' env) vx → ∃ b n cap, vx = .slice b n cap ∧ n ≤ cap := by
      intro g vx hv
      rcases onSl_ok hk with ⟨e, _⟩ | ⟨_, e, _⟩ | ⟨_, _, _, _, _, e, _⟩ | ⟨_, _, _, _, e, _⟩ <;> rw [e] at hv <;> cases hv
      · exact ⟨_, _, _, rfl, Nat.le_refl _⟩
      · exact ⟨_, _, _, rfl, Nat.zero_le _⟩
      · exact ⟨_, _, _, rfl, by assumption⟩
      · exact ⟨_, _, _, rfl, by assumption⟩
    refine ⟨_, _, _, hkx, fun g a w o ho hx hw => ?_⟩
    obtain ⟨b, n, cap, e1, hn⟩ := hsl g _ (hx x hm1 x' hx')
    obtain ⟨us, yb, yc, e2, _, hl, _, hul, hy0, hyl⟩ := hnew g nx w _ hw (hx y hm2 y' hy')
    have hus : us = [] := by simpa using hul
    subst hus
    have := run_append_in (P := P) ht hu hi o.type b n cap yb 0 yc [] w w (by omega) (fun _ => rfl) hyl (fun b _ => by simp [storeCells]) (fun _ => rfl)
    refine .inl ⟨a.eval x, w, .inl (hrun a w o _ _ _ _ ho e1 e2 ?_), g, hx x hm1 x' hx', hw, .refl _ _ _⟩
    rw [this, e1]; rfl
  · -- something is
    have hk' : appF h nx i.size (dO x' env) new m k = true := hk
    unfold appF at hk'
    rcases onSl_ok hk' with ⟨ex, hk⟩ | ⟨_, _, hk⟩ | ⟨a0, s', o0, n, cap, ex, hk⟩ | ⟨a0, s', o0, n, ex, hk⟩
    · -- onto nil
      obtain ⟨hb, hk⟩ := bfalse hk
      obtain ⟨hb1, hb2⟩ := and_ok hb
      have hb2 : m ≤ 1000000 := Nat.le_of_ble_eq_true hb2
      obtain ⟨t', ht', hk⟩ := newK_ok hk
      refine ⟨_, _, _, hk, fun g a w o ho hx hw => ?_⟩
      have h1 := hx x hm1 x' hx'
      have h2 := hx y hm2 y' hy'
      rw [ex] at h1
      generalize hvx : a.eval x = vx at h1
      cases h1
      obtain ⟨us, yb, yc, e2, _, hl, _, hul, hy0, hyl⟩ := hnew g nx w _ hw h2
      obtain ⟨newCap, rest, dr, g1, g2, g3⟩ := run_append_new (P := P) ht hu hi hzv hsz o.type none 0 0 yb m yc [] us w (by omega) (by omega) hby (fun e => by have := hy0 e; omega) hyl (fun _ => rfl) (fun ad e => by cases e)
      have hw' := hw.drawn dr
      refine .inl ⟨_, _, .inl (hrun a w o _ _ _ _ ho hvx e2 g3), gNew g w.heap.size ⟨nx, new.length, i.size, us.length + rest.length⟩, ?_, ?_, ?_⟩
      · rw [Nat.zero_add]
        rw [Nat.zero_add] at g1 g2
        refine .so _ ⟨nx, new.length, i.size, us.length + rest.length⟩ _ _ _ _ _ (by simp [gNew]) rfl rfl g1 (by show 0 + m * i.size ≤ new.length; omega) ?_
        show 0 + newCap * i.size ≤ us.length + rest.length
        have : m * i.size + (newCap - m) * i.size = newCap * i.size := by rw [← Nat.add_mul]; congr 1; omega
        omega
      · exact hw'.newCells hl (hones g nx w _ hw h2) ht' e
      · exact (Ex.drawn g nx w dr).trans (Ex.newCells hw' _ _ _ _)
    · cases hk
    · -- of known room
      rw [fN_eq] at hk
      obtain ⟨hb, hk9⟩ := bfalse hk
      obtain ⟨hb1, hb2⟩ := and_ok hb
      obtain ⟨hb2, hb3⟩ := and_ok hb2
      have hs' : i.size = s' := Nat.eq_of_beq_eq_true hb1
      have hb3 : n + m ≤ 1000000 := Nat.le_of_ble_eq_true hb3
      cases hroom : Nat.ble (Nat.add n m) cap with
      | true =>
        rw [hroom] at hk9
        have hroom : n + m ≤ cap := Nat.le_of_ble_eq_true hroom
        obtain ⟨s1, sg, k1, t0, hg, hk⟩ := hC_ok hk9
        obtain ⟨hsg, hk8⟩ := bfalse hk
        subst hsg
        obtain ⟨t1, hk, ht1⟩ := stK_ok hk8
        simp only [T.setK_eq] at hk
        refine ⟨_, _, _, hk, fun g a w o ho hx hw => ?_⟩
        have h1 := hx x hm1 x' hx'
        have h2 := hx y hm2 y' hy'
        rw [ex] at h1
        generalize hvx : a.eval x = vx at h1
        cases h1 with
        | sl c' gx _ _ _ _ _ hcg hag hsg hn hL =>
          subst hag
          obtain ⟨us, yb, yc, e2, _, hl, _, hul, hy0, hyl⟩ := hnew g nx w _ hw h2
          have hmul : (n + m) * s' ≤ cap * s' := Nat.mul_le_mul_right s' hroom
          rw [Nat.add_mul] at hmul
          have hnl' : new.length = m * s' := by rw [← hs']; exact hnl
          obtain ⟨w', r1, r2, r3⟩ := hw.store P hcg hg (o := o0 + n * i.size) hl (hones g nx w _ hw h2) (by rw [hs']; omega) ht1
          have := run_append_in (P := P) ht hu hi o.type (some ⟨c', o0, none⟩) n cap yb m yc us w w' hroom (fun e => by have := hy0 e; omega) hyl (fun b e => by injection e with e; subst e; rw [addr_add]; exact r1) (fun e => by cases e)
          exact .inl ⟨_, _, .inl (hrun a w o _ _ _ _ ho hvx e2 this), g, .sl c' gx _ _ _ _ _ hcg rfl (hsg.trans hs'.symm) hroom (by rw [hs']; exact hL), r2, r3⟩
      | false =>
        rw [hroom] at hk9
        have hroom : ¬ n + m ≤ cap := fun h => by have := Nat.ble_eq_true_of_le h; rw [show Nat.ble (n + m) cap = false from hroom] at this; cases this
        obtain ⟨old, n', hk, hol, hold⟩ := slCells_ok (P := P) hk9
        obtain ⟨t', ht', hk⟩ := newK_ok hk
        refine ⟨_, _, _, hk, fun g a w o ho hx hw => ?_⟩
        have h1 := hx x hm1 x' hx'
        have h2 := hx y hm2 y' hy'
        obtain ⟨os, xb, xc, e1, _, hlo, hoo, hosl, hx0, hxl⟩ := hold g nx w _ hw h1
        rw [ex] at h1
        generalize hvx : a.eval x = vx at h1 e1
        cases h1 with
        | sl c' gx _ _ _ _ _ hcg hag hsg hn hL =>
          injection e1 with e1 e1' e1''
          subst e1
          have e1' : n = n' := e1'
          subst e1'
          obtain ⟨us, yb, yc, e2, _, hl, _, hul, hy0, hyl⟩ := hnew g nx w _ hw h2
          obtain ⟨newCap, rest, dr, g1, g2, g3⟩ := run_append_new (P := P) ht hu hi hzv hsz o.type (some ⟨c', o0, none⟩) n cap yb m yc os us w hroom hb3 hby (fun e => by have := hy0 e; omega) hyl (fun e => by cases e) hxl
          have hw' := hw.drawn dr
          have hall : VRs g (old ++ new) (os ++ us) := hlo.append hl
          have hone : ∀ v ∈ old ++ new, v.one = true := fun v hv => by
            rcases List.mem_append.1 hv with hv | hv
            · obtain ⟨j, hj, e⟩ := List.getElem_of_mem hv
              obtain ⟨u', e', hv'⟩ := hlo.get (i := j) (v := v) (by simp [hj, e])
              rw [← hv'.one]; exact hoo _ (List.mem_of_getElem? e')
            · exact hones g nx w _ hw h2 v hv
          refine .inl ⟨_, _, .inl (hrun a w o _ _ _ _ ho hvx e2 g3), gNew g w.heap.size ⟨nx, (old ++ new).length, i.size, (os ++ us).length + rest.length⟩, ?_, ?_, ?_⟩
          · refine .so _ ⟨nx, (old ++ new).length, i.size, (os ++ us).length + rest.length⟩ _ _ _ _ _ (by simp [gNew]) rfl rfl g1 ?_ ?_
            · show 0 + (n + m) * i.size ≤ (old ++ new).length
              rw [List.length_append, Nat.add_mul]; omega
            · show 0 + newCap * i.size ≤ (os ++ us).length + rest.length
              have : (n + m) * i.size + (newCap - (n + m)) * i.size = newCap * i.size := by rw [← Nat.add_mul]; congr 1; omega
              rw [List.length_append]
              rw [Nat.add_mul] at this
              omega
          · exact hw'.newCells hall hone ht' e
          · exact (Ex.drawn g nx w dr).trans (Ex.newCells hw' _ _ _ _)
    · -- of unknown room
      rw [fN_eq] at hk
      obtain ⟨hb, hk9⟩ := bfalse hk
      obtain ⟨hb1, hb2⟩ := and_ok hb
      obtain ⟨hb2, hb3⟩ := and_ok hb2
      have hs' : i.size = s' := Nat.eq_of_beq_eq_true hb1
      have hb3 : n + m ≤ 1000000 := Nat.le_of_ble_eq_true hb3
      obtain ⟨s1, sg, k1, t0, hg, hk⟩ := hC_ok hk9
      obtain ⟨hb4, hk8⟩ := bfalse hk
      obtain ⟨ho0, hk1⟩ := and_ok hb4
      have ho0 : o0 = 0 := Nat.eq_of_beq_eq_true ho0
      have hk1 : k1 = n * i.size := Nat.eq_of_beq_eq_true hk1
      subst ho0
      rw [fN_eq] at hk8
      obtain ⟨t1, hk, ht1⟩ := stK_ok hk8
      simp only [T.setK_eq] at hk
      have hk : k (.so a0 i.size 0 (n + m)) (h.put a0 (.c s1 false ((n + m) * i.size) t1)) nx = true := hk
      refine ⟨_, _, _, hk, fun g a w o ho hx hw => ?_⟩
      have h1 := hx x hm1 x' hx'
      have h2 := hx y hm2 y' hy'
      rw [ex] at h1
      generalize hvx : a.eval x = vx at h1
      cases h1 with
      | so c' gx _ _ _ _ cap hcg hag hsg hn hL hT =>
        subst hag
        obtain ⟨us, yb, yc, e2, _, hl, _, hul, hy0, hyl⟩ := hnew g nx w _ hw h2
        have hno := hones g nx w _ hw h2
        obtain ⟨b1, b2, b3, cc, el, fr, b4, b5, b6, b7, b8⟩ := hw.cells hcg hg
        have hk1' : k1 = n * s' := by rw [hk1, hs']
        have hLk : gx.L = k1 := by omega
        have hk2 : (n + m) * i.size = k1 + new.length := by rw [Nat.add_mul, hk1, hnl]
        have hss : s1 = i.size := by rw [← b1, hsg, hs']
        have hw1 : WR g (h.put gx.a (.c s1 false ((n + m) * i.size) t1)) nx w := hw.loosen hg (by omega) fun j hj => by
          rw [ht1 j, if_neg (by omega)]
        have hg1 : (h.put gx.a (.c s1 false ((n + m) * i.size) t1)).get gx.a = some (.c s1 false ((n + m) * i.size) t1) := by rw [T.get_put, if_pos rfl]
        have htn : ∀ j, j < new.length → t1.getN (k1 + j) = new[j]? := fun j hj => by
          rw [ht1, if_pos (by omega), show k1 + j - k1 = j by omega]
        by_cases hroom : n + m ≤ cap
        · have hmul : (n + m) * s' ≤ cap * s' := Nat.mul_le_mul_right s' hroom
          obtain ⟨w', r1, r2, r3⟩ := hw1.extend hcg hg1 hl hno hLk hk2.symm (by rw [hs']; omega) htn P
          have hr1 : (storeCells (Addr.add ⟨c', 0, none⟩ (n * i.size)) us).run P w = .ok () w' := by
            rw [addr_add, Nat.zero_add, ← hk1]; exact r1
          have := run_append_in (P := P) ht hu hi o.type (some ⟨c', 0, none⟩) n cap yb m yc us w w' hroom (fun e => by have := hy0 e; omega) hyl (fun b e => by injection e with e; subst e; exact hr1) (fun e => by cases e)
          refine .inl ⟨_, _, .inl (hrun a w o _ _ _ _ ho hvx e2 this), gExt g c' gx ((n + m) * i.size), ?_, r2, r3⟩
          refine .so c' { gx with L := (n + m) * i.size } _ _ _ _ _ (by simp [gExt]) rfl (hsg.trans hs'.symm) hroom (by show 0 + (n + m) * i.size ≤ (n + m) * i.size; omega) ?_
          show 0 + cap * i.size ≤ gx.T
          rw [hs']; omega
        · -- the old cells
          have hold : ∃ l : List AV, l.length = k1 ∧ (∀ j, j < k1 → t0.getN j = l[j]?) := by
            refine ⟨(List.range k1).map fun j => (t0.getN j).getD undA, by simp, fun j hj => ?_⟩
            obtain ⟨v, u, q1, _⟩ := b8 j (by omega)
            simp [hj, q1]
          obtain ⟨old, hol, hog⟩ := hold
          obtain ⟨os, hr, hlo, hoo, hosl⟩ := hw.load P hcg hg (o := 0) (l := old) (by omega) (fun j hj => by rw [Nat.zero_add]; exact hog j (by omega))
          obtain ⟨newCap, rest, dr, g1, g2, g3⟩ := run_append_new (P := P) ht hu hi hzv hsz o.type (some ⟨c', 0, none⟩) n cap yb m yc os us w hroom hb3 hby (fun e => by have := hy0 e; omega) hyl (fun e => by cases e)
            (fun ad e => by injection e with e; subst e; rw [← hk1, ← hol]; exact hr)
          have hw' := hw1.drawn dr
          have hall : VRs g (old ++ new) (os ++ us) := hlo.append hl
          have hone : ∀ v ∈ old ++ new, v.one = true := fun v hv => by
            rcases List.mem_append.1 hv with hv | hv
            · obtain ⟨j, hj, e⟩ := List.getElem_of_mem hv
              obtain ⟨u', e', hv'⟩ := hlo.get (i := j) (v := v) (by simp [hj, e])
              rw [← hv'.one]; exact hoo _ (List.mem_of_getElem? e')
            · exact hno v hv
          have hcopy := hw'.copy (hw.lt c' gx hcg) hg1 (rest := rest) hall hone (by rw [List.length_append, hol]; omega) (fun j hj => by
            rw [ht1 j]
            by_cases hj1 : j < k1
            · rw [if_neg (by omega), List.getElem?_append_left (by omega)]; exact hog j hj1
            · rw [if_pos (by omega), List.getElem?_append_right (by omega), hol]) e
          rcases hcopy with ⟨c1, c2⟩ | hno'
          · refine .inl ⟨_, _, .inl (hrun a w o _ _ _ _ ho hvx e2 g3), _, ?_, c1, (Ex.drawn g nx w dr).trans c2⟩
            refine .so _ ⟨gx.a, (n + m) * i.size, s1, (os ++ us).length + rest.length⟩ _ _ _ _ _ (by simp [gNew]) rfl hss g1 (by show 0 + (n + m) * i.size ≤ (n + m) * i.size; omega) ?_
            show 0 + newCap * i.size ≤ (os ++ us).length + rest.length
            have : (n + m) * i.size + (newCap - (n + m)) * i.size = newCap * i.size := by rw [← Nat.add_mul]; congr 1; omega
            rw [List.length_append]
            omega
          · exact absurd rfl (hno' c' gx hcg)
end
end Go.Proofs.YtfiambjmphjjgaaGreatDoor.Ms
