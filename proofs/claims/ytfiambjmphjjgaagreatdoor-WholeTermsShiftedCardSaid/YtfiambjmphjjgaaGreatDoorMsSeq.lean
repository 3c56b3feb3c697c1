/- Part of a proof: a checked evaluator of the program (a range over maps.Keys's function, of a map of one entry at most). No condition. -/
import Derived.Test.YtfiambjmphjjgaaGreatDoorMsIter
import Derived.RangeFuncSeq
/-! a range over maps.Keys's function, of a map of one entry at most -/
noncomputable section
namespace Go.Proofs.YtfiambjmphjjgaaGreatDoor.Ms
set_option linter.unusedVariables false
set_option linter.unusedSimpArgs false
def nilK {α : Type} (l : List α) (b : Bool) : Bool := List.rec b (fun _ _ _ => false) l
def one1 {α : Type} (l : List α) (k : α → Bool) : Bool := List.rec false (fun x r _ => nilK r (k x)) l
theorem nilK_ok {α : Type} {l : List α} {b : Bool} (h : nilK l b = true) : l = [] ∧ b = true := by
  cases l with
  | nil => exact ⟨rfl, h⟩
  | cons _ _ => cases h
theorem one1_ok {α : Type} {l : List α} {k : α → Bool} (h : one1 l k = true) : ∃ x, l = [x] ∧ k x = true := by
  cases l with
  | nil => cases h
  | cons x r =>
    obtain ⟨h1, h2⟩ := nilK_ok (l := r) (b := k x) h
    subst h1
    exact ⟨x, rfl, h2⟩
/-- the range, by its pieces -/
def rngK (cf : CF) (tq : Ev) (d7 : Dv) (Ra Rb : List Run) (fK ks : Nat) (env : Env) (h : Hp) (nx : Ps) (k : Hp → Ps → Bool) : Bool :=
  (tq env).onF fun fn fs cs => nilK fs (fnN fn fun f' => Bool.rec false (one1 cs fun mp => mp.onP fun a o e => hC h a fun _ _ _ t => Bool.rec false (Option.rec false (fun mv => mv.onM fun m => hM h m fun es clk =>
    List.rec (k h nx) (fun e es _ => nilK es (e.k.onAgg fun l => lenL l fun n => Bool.rec false (d7 e.k env fun env' => opsK cf Ra env' h nx fun env' h nx => opsK cf Rb env' h nx fun _ h nx =>
      hM h m fun es' clk' => one1 es' fun e' => Bool.rec false (k h nx) (Nat.beq e'.born e.born && Nat.beq clk' clk)) (Nat.beq n ks && Nat.ble (Nat.succ e.born) clk))) es) (t.getN o)) (Nat.ble (nat_lit 1) e && Nat.beq o (nat_lit 0))) (Nat.beq f' fK))
/-- maps.Keys's function over a map without entries, and with one -/
def KeysNone (P : Program) (fK : Nat) : Prop :=
  ∀ (n l Bm m clk : Nat) (W : World) (R : Ending → World → Prop), W.cell? ⟨Bm, 0, none⟩ = some (.map (some m)) → W.heap[m]? = some (.map #[] clk) →
    R (.returned (.tuple #[])) (W.alloc (.mapIter (some m) clk #[] clk)) → CallsIn Fence.wide n P fK #[.func (.yield l) #[] #[], .pointer (some ⟨Bm, 0, none⟩)] W R
def KeysOne (P : Program) (fK ks : Nat) : Prop :=
  ∀ (n l Bm m clk : Nat) (en : MapEntry) (W : World) (R : Ending → World → Prop), W.cell? ⟨Bm, 0, none⟩ = some (.map (some m)) → W.heap[m]? = some (.map #[en] clk) → en.born < clk →
    ∀ us : List Value, en.key = .agg ⟨us⟩ → us.length = ks → (∀ u ∈ us, u.oneCell' = true) → 1 ≤ n →
    (∀ W1 : World, (∀ b o, b < W.heap.size → W.heap[b]? = some o → W1.heap[b]? = some o) → W1.heap.size = W.heap.size + 2 → W1.os = W.os → W1.tape = W.tape → W1.output = W.output →
      YieldAt Fence.wide (n - 1) P l #[.agg ⟨us⟩] W1 fun e W' => e = .returned (.bool true) ∧ W'.heap[W.heap.size]? = W1.heap[W.heap.size]? ∧ (∃ en', W'.heap[m]? = some (.map #[en'] clk) ∧ en'.born = en.born) ∧ R (.returned (.tuple #[])) W') →
    CallsIn Fence.wide n P fK #[.func (.yield l) #[] #[], .pointer (some ⟨Bm, 0, none⟩)] W R
theorem hlt' {w : World} {b : Nat} {o : Obj} (h : w.heap[b]? = some o) : b < w.heap.size := (Array.getElem?_eq_some_iff.1 h).1
theorem Ex.none_ {g : G} {nx : Ps} {w : World} {g' : G} {nx' : Ps} {w' : World} (h : Ex g nx w g' nx' w') {b : Nat} (hb : b < w.heap.size) (hn : g b = none) : g' b = none := by
  cases e : g' b with
  | none => rfl
  | some x => have := (h.new b x e hn).1; omega
section
variable {P : Program} {cands : List Nat} {mnames : List String} {N : Nat}
abbrev dfB (w : World) : World := w.alloc (.deferred (some []))
abbrev mkA (w : World) (a : Act) : Act := { a with defers := ⟨.collected w.heap.size, #[]⟩ :: a.defers }
theorem rng_in {tq fK : Nat} {ps : Array Tmp} {assign body : Code} {Q : Exit → Act → World → Prop} {a : Act} {w : World} {Bm : Nat} (htq : a.eval (.tmp tq) = .func (.func fK) #[] #[.pointer (some ⟨Bm, 0, none⟩)])
    (hcK : ∀ args w, (callFunc fK args).run P w = .ok (.enter fK args) w)
    (h : ∀ fn, CallsIn Fence.wide 4 P fK #[.func (.yield (w.heap.size + 1)) #[] #[], .pointer (some ⟨Bm, 0, none⟩)]
      ((dfB w).alloc (.loop { state := .ready, pending := none, fn, tmps := a.tmps, params := ps, assign, body, defers := w.heap.size }))
      (rangePost Fence.wide 5 P (w.heap.size + 1) Q (mkA w a))) : (Code.rangeFunc (.tmp tq) ps assign body).wpIn Fence.wide 5 P Q a w := by
  refine wpIn_rangeFunc fun fn _ => ?_
  have h1 := run_enterLoop_outer (P := P) (w := w) fn a.tmps ps assign body
  generalize hW : ((dfB w).alloc (.loop { state := .ready, pending := none, fn, tmps := a.tmps, params := ps, assign, body, defers := w.heap.size })) = W at h1
  have h2 := h fn
  rw [hW] at h2
  have h3 : (resolve a.eval (rangeCall (.tmp tq) (w.heap.size + 1)) 0).run P W = .ok ⟨.fn (.func fK) #[.pointer (some ⟨Bm, 0, none⟩)], #[.func (.yield (w.heap.size + 1)) #[] #[]]⟩ W := by
    have he : a.eval (.const (.func (.yield (w.heap.size + 1)) #[] #[])) = .func (.yield (w.heap.size + 1)) #[] #[] := rfl
    simp [resolve, rangeCall, htq, Deferred.ofValue, he]
  have h4 : (invoke (.fn (.func fK) #[.pointer (some ⟨Bm, 0, none⟩)]) #[.func (.yield (w.heap.size + 1)) #[] #[]]).run P W = .ok (.enter fK #[.func (.yield (w.heap.size + 1)) #[] #[], .pointer (some ⟨Bm, 0, none⟩)]) W :=
    hcK #[.func (.yield (w.heap.size + 1)) #[] #[], .pointer (some ⟨Bm, 0, none⟩)] W
  exact ⟨w.heap.size + 1, [{ target := .collected w.heap.size, args := #[] }], W, _, W, fK, _, W, h1, h3, fun _ _ => trivial, h4, fun h => (by simp [Fence.wide] at h), h2⟩
theorem rng_end {Q : Exit → Act → World → Prop} {a : Act} {l : Nat} {w3 : World} {r : Loop} {v : Value} (hl : w3.heap[l]? = some (.loop r)) (hr : r.state ≠ .busy) (hp : r.pending = none)
    (hQ : Q .normal a (w3.putObj l (.loop { r with state := .exhausted }))) : rangePost Fence.wide 5 P l Q a (.returned v) w3 :=
  ⟨none, _, by rw [run_endLoop hl hr, hp], by rw [hp] at hQ; exact hQ⟩
def quietOps (ops : Array Oper) : Bool := ops.all fun o => match o.op with | .defer _ => false | _ => true
theorem quiet_no {ops : Array Oper} (h : quietOps ops = true) : ∀ (i : Nat) (o : Oper), ops[i]? = some o → ∀ c : Call, o.op ≠ Op.defer c := by
  intro i o ho c he
  unfold quietOps at h
  rw [Array.all_eq_true_iff_forall_mem] at h
  have := h o (Array.mem_of_getElem? ho)
  rw [he] at this
  cases this
theorem rng_ok {cf : CF} (hcf : CallsOK P cf) {tq td fK ks : Nat} (htq : tq < 256) (htd : td < 256 ∧ td < N) {ia ib bB : Nat} {opsA opsB : Array Oper} {iosA iosB : List DIo}
    (hpA : Pairs P cands mnames N opsA (List.range opsA.size) iosA) (hpB : Pairs P cands mnames N opsB (List.range opsB.size) iosB) (hdA : quietOps opsA = true) (hdB : quietOps opsB = true)
    (hcK : ∀ args w, (callFunc fK args).run P w = .ok (.enter fK args) w) (hK0 : KeysNone P fK) (hK1 : KeysOne P fK ks) {env : Env} {h : Hp} {nx : Ps} {k : Hp → Ps → Bool}
    (hk : rngK cf (tT tq) (sT td) (iosA.map dIo) (iosB.map dIo) fK ks env h nx k = true) :
    ∃ h' nx', k h' nx' = true ∧ ∀ g (a : Act) w (Q : Exit → Act → World → Prop), FR N g env a → WR g h nx w →
      (∀ g' a' w', FR N g' env a' → a'.defers = ⟨.collected w.heap.size, #[]⟩ :: a.defers → a'.tmps.size = a.tmps.size → WR g' h' nx' w' → ExB w.heap.size g nx w g' nx' w' →
        w'.heap[w.heap.size]? = some (.deferred (some [])) → g' w.heap.size = none → Q .normal a' w') →
      (Code.rangeFunc (.tmp tq) #[td] (.region ia opsA false) (.block bB (.region ib opsB false))).wpIn Fence.wide 5 P Q a w := by
  obtain ⟨fn0, fs, cs, e1, hk1⟩ := onF_ok hk
  obtain ⟨rfl, hk2⟩ := nilK_ok hk1
  cases fn0 with
  | func f' =>
    obtain ⟨hf', hk3⟩ := bfalse (b := Nat.beq f' fK) hk2
    have hf' : f' = fK := Nat.eq_of_beq_eq_true hf'
    subst hf'
    obtain ⟨mp, rfl, hk4⟩ := one1_ok hk3
    obtain ⟨a0, o0, e0, rfl, hk5⟩ := onP_ok hk4
    obtain ⟨s, sg, n, t, hg, hk6⟩ := hC_ok hk5
    obtain ⟨hc, hk7⟩ := bfalse hk6
    obtain ⟨hc1, hc2⟩ := and_ok hc
    have hc1 : 1 ≤ e0 := Nat.le_of_ble_eq_true hc1
    have hc2 : o0 = 0 := Nat.eq_of_beq_eq_true hc2
    subst hc2
    obtain ⟨mv, hmv, hk8⟩ := orec hk7
    obtain ⟨m0, rfl, hk9⟩ := onM_ok hk8
    obtain ⟨es, clk, hgm, hk10⟩ := hM_ok hk9
    rw [tAll tq htq] at e1
    have e1 : Env.at env tq = .f (.func f') [] [.p a0 0 e0] := e1
    have facts : ∀ g (a : Act) w, FR N g env a → WR g h nx w → ∃ c cm xm, a.eval (.tmp tq) = .func (.func f') #[] #[.pointer (some ⟨c, 0, none⟩)] ∧ g cm = some xm ∧ xm.a = m0 ∧
        (∀ W : World, (∀ (b : Nat) (o : Obj), w.heap[b]? = some o → W.heap[b]? = some o) → W.cell? ⟨c, 0, none⟩ = some (.map (some cm))) ∧ ∃ es', w.heap[cm]? = some (.map es' clk) ∧ ER g es es'.toList := by
      intro g a w hf hw
      have hq := hf.ev tq htq
      rw [e1] at hq
      have hz : a.eval (.tmp tq) = a.tmps.getD tq undef := rfl
      generalize a.tmps.getD tq undef = z at hq hz
      cases hq with
      | f _ _ _ us ds hfs hcs =>
        cases hfs
        cases hcs with
        | cons _ u _ us' hp hn =>
          cases hn
          cases hp with
          | p c x _ _ _ hcg ha he =>
            subst ha
            obtain ⟨u, hu, hvu, _⟩ := hw.load1 hcg hg (o := 0) (by omega) hmv
            obtain ⟨_, _, _, cc, el, fr, hcc, _⟩ := hw.cells hcg hg
            cases hvu with
            | m cm xm _ hcm ham =>
              subst ham
              obtain ⟨ob, o, h1, h2, h3⟩ := hw.obj cm xm hcm
              rw [hgm] at h1
              injection h1 with h1
              subst h1
              obtain ⟨es', rfl, her⟩ := h3
              refine ⟨c, cm, xm, hz, hcm, rfl, fun W hW => ?_, es', h2, her⟩
              rw [cell_at hcc] at hu
              rw [cell_at (hW _ _ hcc)]; exact hu
    cases es with
    | nil =>
      refine ⟨h, nx, hk10, fun g a w Q hf hw hQ => ?_⟩
      obtain ⟨c, cm, xm, hz, hcm, ham, hcell, es', hmap, her⟩ := facts g a w hf hw
      have hes : es' = #[] := by
        cases es' with | mk l => cases her; rfl
      subst hes
      refine rng_in hz hcK fun fn => ?_
      generalize hr : ({ state := .ready, pending := none, fn, tmps := a.tmps, params := #[td], assign := .region ia opsA false, body := .block bB (.region ib opsB false), defers := w.heap.size } : Loop) = r
      have hr1 : r.state ≠ .busy := by rw [← hr]; simp
      have hr2 : r.pending = none := by rw [← hr]
      have hold : ∀ b o, w.heap[b]? = some o → ((dfB w).alloc (.loop r)).heap[b]? = some o := fun b o hb => heap_push_old _ _ (heap_push_old w _ hb)
      refine hK0 4 _ c cm clk _ _ (hcell _ hold) (hold _ _ hmap) ?_
      generalize hW : ((dfB w).alloc (.loop r)) = W at hold
      have hWs : W.heap.size = w.heap.size + 2 := by rw [← hW]; simp [dfB]
      have hWl : W.heap[w.heap.size + 1]? = some (.loop r) := by
        have := World.alloc_heap_new (dfB w) (.loop r)
        rw [hW] at this
        simpa [dfB] using this
      have hWd : W.heap[w.heap.size]? = some (.deferred (some [])) := by rw [← hW]; exact heap_push_old _ _ (heap_push_new w _)
      have hWo : W.os = w.os ∧ W.tape = w.tape ∧ W.output = w.output := by rw [← hW]; exact ⟨rfl, rfl, rfl⟩
      have hlt : ∀ b o, w.heap[b]? = some o → b < w.heap.size := fun b o hb => (Array.getElem?_eq_some_iff.1 hb).1
      have hfin : ∀ b o, w.heap[b]? = some o → ((W.alloc (.mapIter (some cm) clk #[] clk)).putObj (w.heap.size + 1) (.loop { r with state := .exhausted })).heap[b]? = some o := fun b o hb => by
        rw [World.putObj_heap_other (by have := hlt b o hb; omega)]
        exact heap_push_old W _ (hold b o hb)
      refine rng_end (r := r) (heap_push_old W _ hWl) hr1 hr2 (hQ g _ _ ⟨hf.ev, hf.sz⟩ rfl rfl (hw.outside fun b _ o hb => hfin b o hb) (.junk (fun b o _ hb => hfin b o hb) ?_ hWo.1 hWo.2.1 hWo.2.2) ?_ hw.fresh)
      · simp; omega
      · rw [World.putObj_heap_other (by omega)]
        exact heap_push_old W _ hWd
    | cons e es =>
      obtain ⟨rfl, hk11⟩ := nilK_ok hk10
      obtain ⟨l, hel, hk12⟩ := onAgg_ok hk11
      rw [lenL_eq] at hk12
      obtain ⟨hc3, hk13⟩ := bfalse hk12
      obtain ⟨hc4, hc5⟩ := and_ok hc3
      have hc4 : l.length = ks := Nat.eq_of_beq_eq_true hc4
      have hc5 : e.born < clk := Nat.le_of_ble_eq_true hc5
      rw [sAll td htd.1] at hk13
      have hk14 : opsK cf (iosA.map dIo) (Env.put env td e.k) h nx (fun env' h nx => opsK cf (iosB.map dIo) env' h nx fun _ h nx =>
        hM h m0 fun es' clk' => one1 es' fun e' => Bool.rec (motive := fun _ => Bool) false (k h nx) (Nat.beq e'.born e.born && Nat.beq clk' clk)) = true := hk13
      obtain ⟨envA, hA, nxA, hk14, hsA⟩ := ops_ok hpA hcf hk14
      obtain ⟨envB, hB, nxB, hk14, hsB⟩ := ops_ok hpB hcf hk14
      obtain ⟨es', clk', hgm', hk15⟩ := hM_ok hk14
      obtain ⟨e', rfl, hk16⟩ := one1_ok hk15
      obtain ⟨hc6, hk17⟩ := bfalse hk16
      obtain ⟨hc7, hc8⟩ := and_ok hc6
      have hc7 : e'.born = e.born := Nat.eq_of_beq_eq_true hc7
      have hc8 : clk' = clk := Nat.eq_of_beq_eq_true hc8
      subst hc8
      refine ⟨hB, nxB, hk17, fun g a w Q hf hw hQ => ?_⟩
      obtain ⟨c, cm, xm, hz, hcm, ham, hcell, ces, hmap, her⟩ := facts g a w hf hw
      obtain ⟨en, hen, hvk, hvb⟩ : ∃ en, ces = #[en] ∧ VR g e.k en.key ∧ e.born = en.born := by
        cases ces with
        | mk ll =>
          cases her with
          | cons _ en _ _ h1 h2 h3 h4 => cases h4; exact ⟨en, rfl, h1, h3⟩
      subst hen
      obtain ⟨us, hkey, hlen, hone⟩ : ∃ us : List Value, en.key = .agg ⟨us⟩ ∧ us.length = ks ∧ ∀ u ∈ us, u.oneCell' = true := by
        rw [hel] at hvk
        generalize en.key = z at hvk
        cases hvk with
        | agg _ us h1 h2 => exact ⟨us, rfl, h1.length.trans hc4, h2⟩
      refine rng_in hz hcK fun fn => ?_
      generalize hr : ({ state := .ready, pending := none, fn, tmps := a.tmps, params := #[td], assign := .region ia opsA false, body := .block bB (.region ib opsB false), defers := w.heap.size } : Loop) = r
      have hold : ∀ b o, w.heap[b]? = some o → ((dfB w).alloc (.loop r)).heap[b]? = some o := fun b o hb => heap_push_old _ _ (heap_push_old w _ hb)
      refine hK1 4 _ c cm clk' en _ _ (hcell _ hold) (hold _ _ hmap) (by omega) us hkey hlen hone (by omega) ?_
      generalize hW : ((dfB w).alloc (.loop r)) = W at hold
      have hWs : W.heap.size = w.heap.size + 2 := by rw [← hW]; simp [dfB]
      have hWl : W.heap[w.heap.size + 1]? = some (.loop r) := by
        have := World.alloc_heap_new (dfB w) (.loop r)
        rw [hW] at this
        simpa [dfB] using this
      have hWd : W.heap[w.heap.size]? = some (.deferred (some [])) := by rw [← hW]; exact heap_push_old _ _ (heap_push_new w _)
      have hWo : W.os = w.os ∧ W.tape = w.tape ∧ W.output = w.output := by rw [← hW]; exact ⟨rfl, rfl, rfl⟩
      have hlt : ∀ b o, w.heap[b]? = some o → b < w.heap.size := fun b o hb => (Array.getElem?_eq_some_iff.1 hb).1
      have hgl : GL < w.heap.size := let ⟨_, o, h1, _⟩ := hw.gl; hlt _ _ h1
      intro W1 k1 k2 k3 k4 k5
      have k1' : ∀ b o, w.heap[b]? = some o → W1.heap[b]? = some o := fun b o hb => k1 b o (by have := hlt b o hb; omega) (hold b o hb)
      have hl1 : W1.heap[w.heap.size + 1]? = some (.loop r) := k1 _ _ (by omega) hWl
      have hd1 : W1.heap[w.heap.size]? = some (.deferred (some [])) := k1 _ _ (by omega) hWd
      have hg1 : g (w.heap.size + 1) = none := by
        cases e : g (w.heap.size + 1) with
        | none => rfl
        | some x => have := hw.bound e; omega
      have hw1 : WR g h nx W1 := hw.outside fun b _ o hb => k1' b o hb
      have hy : (Instr.yield (w.heap.size + 1) #[.agg ⟨us⟩]).run P W1 = .ok (.round (w.heap.size + 1) fn (a.tmps.setIfInBounds td (.agg ⟨us⟩)) (.region ia opsA false) (.block bB (.region ib opsB false))) W1 := by
        rw [run_yield hl1 (by rw [← hr]; rfl), ← hr]
        simp
      refine ⟨_, _, _, _, hy, roundIn_of_wpIn trivial (wpIn_region (lift_ops (quiet_no hdA) (by rintro ⟨_, _, h⟩; exact h) _ _ _ ?_))⟩
      have hev : EV g (Env.put env td e.k) { tmps := a.tmps.setIfInBounds td (.agg ⟨us⟩), defers := [] } := by
        have := hf.ev.put (Nat.lt_of_lt_of_le htd.2 hf.sz) htd.1 hvk
        rw [hkey] at this
        exact this
      refine hsA g _ W1 _ ⟨hev, by have := hf.sz; simpa using this⟩ hw1 fun ga aa wa fa da za hwa exa => ?_
      have hga1 : ga (w.heap.size + 1) = none := exa.none_ (by omega) hg1
      have hla : wa.heap[w.heap.size + 1]? = some (.loop r) := exa.keep _ _ hl1 hg1
      have hda : wa.heap[w.heap.size]? = some (.deferred (some [])) := exa.keep _ _ hd1 hw.fresh
      have hgad : ga w.heap.size = none := exa.none_ (by omega) hw.fresh
      refine ⟨_, run_beginRound hla (by rw [← hr]), wpIn_block (wpIn_region (lift_ops (quiet_no hdB) (by rintro ⟨_, _, h⟩; exact h) _ _ _ ?_))⟩
      generalize hwp : wa.putObj (w.heap.size + 1) (.loop { r with state := .busy }) = wp
      have hpo : ∀ b o, b ≠ w.heap.size + 1 → wa.heap[b]? = some o → wp.heap[b]? = some o := fun b o hb ho => by
        rw [← hwp, World.putObj_heap_other hb]; exact ho
      have hps : wp.heap.size = wa.heap.size := by rw [← hwp]; simp
      have hpw : WR ga hA nxA wp := hwa.outside fun b hb o ho => hpo b o (by
        rintro rfl
        rcases hb with hb | hb
        · exact hb hga1
        · omega) ho
      have hlp : wp.heap[w.heap.size + 1]? = some (.loop { r with state := .busy }) := by
        rw [← hwp]; exact World.putObj_heap_same (hlt' hla)
      refine hsB ga aa wp _ fa hpw fun gb ab wb fb db zb hwb exb => ?_
      have hgb1 : gb (w.heap.size + 1) = none := exb.none_ (by rw [hps]; exact hlt' hla) hga1
      have hlb : wb.heap[w.heap.size + 1]? = some (.loop { r with state := .busy }) := exb.keep _ _ hlp hga1
      have hdb : wb.heap[w.heap.size]? = some (.deferred (some [])) := exb.keep _ _ (hpo _ _ (by omega) hda) hgad
      have hgbd : gb w.heap.size = none := exb.none_ (by rw [hps]; exact hlt' hda) hgad
      have hs1 := exa.size
      have hs2 := exb.size
      refine ⟨_, _, run_endRound none hlb, rfl, ?_, ?_, ?_⟩
      · have hit : W.heap.size < W1.heap.size := by omega
        have hio : W1.heap[W.heap.size]? = some (W1.heap[W.heap.size]) := Array.getElem?_eq_getElem hit
        have hgn : g W.heap.size = none := by
          cases e : g W.heap.size with
          | none => rfl
          | some x => have := hw.bound e; omega
        rw [World.putObj_heap_other (by omega), hio]
        exact exb.keep _ _ (hpo _ _ (by omega) (exa.keep _ _ hio hgn)) (exa.none_ hit hgn)
      · obtain ⟨xa, hxa, haa, _⟩ := exa.up cm xm hcm
        obtain ⟨xb, hxb, hab, _⟩ := exb.up cm xa hxa
        obtain ⟨ob, o, h1, h2, h3⟩ := hwb.obj cm xb hxb
        rw [hab, haa, ham, hgm'] at h1
        injection h1 with h1
        subst h1
        obtain ⟨ces', rfl, her'⟩ := h3
        obtain ⟨en', hen', hvb'⟩ : ∃ en', ces' = #[en'] ∧ e'.born = en'.born := by
          cases ces' with
          | mk ll =>
            cases her' with
            | cons _ en' _ _ h1 h2 h3 h4 => cases h4; exact ⟨en', rfl, h3⟩
        subst hen'
        refine ⟨en', ?_, by omega⟩
        rw [World.putObj_heap_other ?_]
        · exact h2
        · rintro rfl; rw [hg1] at hcm; cases hcm
      · have hsz : w.heap.size + 1 < wb.heap.size := hlt' hlb
        refine rng_end (r := { r with state := .ready, pending := none }) (World.putObj_heap_same hsz) (by simp) rfl ?_
        have hq2 : ∀ b, b ≠ w.heap.size + 1 → ∀ (A : Obj) (B : Obj), ((wb.putObj (w.heap.size + 1) A).putObj (w.heap.size + 1) B).heap[b]? = wb.heap[b]? := fun b hb A B => by
          rw [World.putObj_heap_other hb, World.putObj_heap_other hb]
        refine hQ gb _ _ ⟨hf.ev.up (exa.up.trans exb.up), hf.sz⟩ rfl rfl (hwb.outside fun b hb o ho => ?_) ?_ ?_ hgbd
        · rw [hq2 b ?_]
          · exact ho
          · rintro rfl
            rcases hb with hb | hb
            · exact hb hgb1
            · omega
        · have x1 : ExB w.heap.size g nx w g nx W1 := .junk (fun b o _ hb => k1' b o hb) (by omega) (k3.trans hWo.1) (k4.trans hWo.2.1) (k5.trans hWo.2.2)
          have x2 : ExB w.heap.size g nx W1 ga nxA wa := exa.b (by omega)
          have x3 : ExB w.heap.size ga nxA wa ga nxA wp := .junk (fun b o hb ho => hpo b o (by omega) ho) (by omega) (by rw [← hwp]; rfl) (by rw [← hwp]; rfl) (by rw [← hwp]; rfl)
          have x4 : ExB w.heap.size ga nxA wp gb nxB wb := exb.b (by omega)
          exact x1.trans (x2.trans (x3.trans (x4.trans (.junk (fun b o hb ho => by rw [hq2 b (by omega)]; exact ho) (by simp) rfl rfl rfl))))
        · rw [hq2 _ (by omega)]; exact hdb
  | _ => cases hk2
end
end Go.Proofs.YtfiambjmphjjgaaGreatDoor.Ms
