/- Part of a proof over this seat's program: the functions that the checked evaluator takes by a contract, and the code of all others. No condition. -/
import Derived.Test.YtfiambjmphjjgaaGreatDoorMsKeys
import Derived.Test.YtfiambjmphjjgaaGreatDoorMsTz
import Derived.Test.YtfiambjmphjjgaaGreatDoorMsExt2
import Derived.Test.YtfiambjmphjjgaaGreatDoorMsOnce
import Derived.Test.YtfiambjmphjjgaaGreatDoorMsCode0
import Derived.Test.YtfiambjmphjjgaaGreatDoorMsCode1
import Derived.Test.YtfiambjmphjjgaaGreatDoorMsCode2
import Derived.Test.YtfiambjmphjjgaaGreatDoorMsCode3
import Derived.KernelRfl
noncomputable section
namespace Go.Proofs.YtfiambjmphjjgaaGreatDoor.Ms
set_option linter.unusedVariables false
set_option linter.unusedSimpArgs false
open Go.RowKit
set_option maxRecDepth 100000
abbrev PP : Program := Tryz.prog
noncomputable def cs : List Nat := [67, 72, 168, 178, 216, 221, 224, 226, 229, 301, 311, 353, 381, 403]
noncomputable def mn : List String := ["Tick"]
theorem mixed : PP.follows .mixedOrders = true := by kernel_rfl
theorem code0 : (fs0.map fun x => trN PP cs mn x.n) = fs0.map fun x => some x.f := by kernel_rfl
theorem code1 : (fs1.map fun x => trN PP cs mn x.n) = fs1.map fun x => some x.f := by kernel_rfl
theorem code2 : (fs2.map fun x => trN PP cs mn x.n) = fs2.map fun x => some x.f := by kernel_rfl
theorem code3 : (fs3.map fun x => trN PP cs mn x.n) = fs3.map fun x => some x.f := by kernel_rfl
/-! pieces of a function's code -/
noncomputable def bodyOf (f : Nat) : Code := ((PP.funcs[f]?).bind (·.body)).getD .skip
noncomputable def ntOf (f : Nat) : Nat := ((PP.funcs[f]?).map (·.ntmps)).getD 0
noncomputable def c1 : Code → Code
  | .seq a _ => a
  | _ => .skip
noncomputable def c2 : Code → Code
  | .seq _ b => b
  | _ => .skip
noncomputable def cIn : Code → Code
  | .block _ b => b
  | .rangeFunc _ _ _ b => b
  | .cond _ t _ => t
  | _ => .skip
noncomputable def cAs : Code → Code
  | .rangeFunc _ _ a _ => a
  | _ => .skip
noncomputable def cId : Code → Nat
  | .region i _ _ => i
  | .block i _ => i
  | .cond (.tmp t) _ _ => t
  | .rangeFunc (.tmp t) _ _ _ => t
  | _ => 0
noncomputable def cTd : Code → Nat
  | .rangeFunc _ ps _ _ => ps.getD 0 0
  | _ => 0
noncomputable def cOps : Code → Array Oper
  | .region _ o _ => o
  | _ => #[]
noncomputable def lastOp (ops : Array Oper) : Oper := (ops[ops.size - 1]?).getD default
noncomputable def dfCall (ops : Array Oper) : Call :=
  match (lastOp ops).op with
  | .defer c => c
  | _ => default
noncomputable def trCs (f : Nat) (c : Code) : DC := (trC PP cs mn (ntOf f) c).getD .skip
noncomputable def trOps (f : Nat) (n : Nat) (ops : Array Oper) : List DIo := ((ops.toList.take n).mapM (trIo PP cs mn (ntOf f) ops)).getD []
noncomputable def trArgs (c : Call) : List O := (c.args.toList.mapM trO).getD []
theorem pairs_take {P : Program} {cands : List Nat} {mnames : List String} {N n : Nat} {ops : Array Oper} {ios : List DIo} (hn : n ≤ ops.size) (h : (ops.toList.take n).mapM (trIo P cands mnames N ops) = some ios) : Pairs P cands mnames N ops (List.range n) ios := by
  have gen : ∀ (l : List Oper) (k : Nat) (ios : List DIo), (∀ i, i < l.length → l[i]? = ops[k + i]?) → l.mapM (trIo P cands mnames N ops) = some ios → Pairs P cands mnames N ops (List.range' k l.length) ios := by
    intro l
    induction l with
    | nil => intro k ios _ h; simp at h; subst h; exact .nil
    | cons o l ih =>
      intro k ios hl h
      rw [List.mapM_cons] at h
      obtain ⟨io, h1, h⟩ := obind h
      obtain ⟨ios', h2, h⟩ := obind h
      injection h with h; subst h
      rw [List.length_cons, List.range'_succ]
      exact .cons k o io _ _ (by have := hl 0 (by simp); simpa using this.symm) h1 (ih (k + 1) ios' (fun i hi => by have := hl (i + 1) (by simp; omega); simpa [Nat.add_assoc, Nat.add_comm 1 i] using this) h2)
  have := gen (ops.toList.take n) 0 ios (fun i hi => by
    have : i < n := by simp at hi; omega
    simp [List.getElem?_take, this]) h
  rw [List.range_eq_range']
  have hl : (ops.toList.take n).length = n := by simp; omega
  rw [hl] at this
  exact this

/-! (*sync.Once).doSlow -/
abbrev fO : Nat := 128
noncomputable def oB : Code := bodyOf fO
noncomputable def oR0 : Code := c1 oB
noncomputable def oR1 : Code := c1 (c2 oB)
noncomputable def oR2 : Code := c1 (c2 (c2 oB))
noncomputable def oC : Code := c2 (c2 (c2 oB))
noncomputable def oR3 : Code := c1 (cIn oC)
noncomputable def oR4 : Code := c2 (cIn oC)
abbrev fU : Nat := 186
abbrev fS : Nat := 187
noncomputable def oX : Xf := x_once (dC (trCs fO oR0)) ((trOps fO ((cOps oR1).size - 1) (cOps oR1)).map dIo) ((trArgs (dfCall (cOps oR1))).map dO) (dC (trCs fO oR2)) (tT (cId oC))
  ((trOps fO ((cOps oR3).size - 1) (cOps oR3)).map dIo) ((trArgs (dfCall (cOps oR3))).map dO) (dC (trCs fO oR4)) fU fS
noncomputable def dss : List Nat := [fU, fS]
theorem dfr1 : DfrOK PP cs mn (Tryz.f128).ntmps (cOps oR1) (trOps fO ((cOps oR1).size - 1) (cOps oR1)) fU (trArgs (dfCall (cOps oR1))) :=
  ⟨(cOps oR1).size - 1, dfCall (cOps oR1), lastOp (cOps oR1), pairs_take (Nat.le_of_ble_eq_true (by kernel_rfl)) (by kernel_rfl), by kernel_rfl, by kernel_rfl, by kernel_rfl, by kernel_rfl, by kernel_rfl, by kernel_rfl, by kernel_rfl⟩
theorem dfr3 : DfrOK PP cs mn (Tryz.f128).ntmps (cOps oR3) (trOps fO ((cOps oR3).size - 1) (cOps oR3)) fS (trArgs (dfCall (cOps oR3))) :=
  ⟨(cOps oR3).size - 1, dfCall (cOps oR3), lastOp (cOps oR3), pairs_take (Nat.le_of_ble_eq_true (by kernel_rfl)) (by kernel_rfl), by kernel_rfl, by kernel_rfl, by kernel_rfl, by kernel_rfl, by kernel_rfl, by kernel_rfl, by kernel_rfl⟩
theorem callU (args : Array Value) (w : World) : (callFunc fU args).run PP w = .ok (.enter fU args) w := callFunc_enter Tryz.func186 (by kernel_rfl) (by kernel_rfl) args w
theorem callS (args : Array Value) (w : World) : (callFunc fS args).run PP w = .ok (.enter fS args) w := callFunc_enter Tryz.func187 (by kernel_rfl) (by kernel_rfl) args w
theorem bodyO : (Tryz.f128).body = some (.seq oR0 (.seq (.region (cId oR1) (cOps oR1) false) (.seq oR2 (.cond (.tmp (cId oC)) (.seq (.region (cId oR3) (cOps oR3) false) oR4) .skip)))) := by kernel_rfl
theorem feO : FeOK PP cs mn dss fO (.ext oX) :=
  ⟨by decide, once_ok mixed Tryz.func128 (by kernel_rfl) bodyO (by kernel_rfl) (by kernel_rfl) (by kernel_rfl) (by kernel_rfl) (by kernel_rfl) dfr1 dfr3 (by decide +kernel) (by decide) (by decide) callU callS⟩

/-! slices.AppendSeq -/
abbrev fA : Nat := 122
abbrev fK : Nat := 72
abbrev fnA : Func := Tryz.f122
noncomputable def aB : Code := bodyOf fA
noncomputable def aR0 : Code := c1 aB
noncomputable def aM : Code := c1 (c2 aB)
noncomputable def aR1 : Code := c1 aM
noncomputable def aF : Code := cIn (c2 aM)
noncomputable def aAs : Code := cAs aF
noncomputable def aBd : Code := cIn aF
noncomputable def aRb : Code := cIn aBd
noncomputable def aR4 : Code := c1 (c2 (c2 aB))
noncomputable def aRes : List DV := (fnA.results.toList.mapM (trV PP)).getD []
noncomputable def aX : Xf := x_rng ((List.range (fnA.params.size + fnA.nfree)).map sT) (dC (trCs fA aR0)) (dC (trCs fA aR1)) (tT (cId aF)) (sT (cTd aF)) ((trOps fA (cOps aAs).size (cOps aAs)).map dIo) ((trOps fA (cOps aRb).size (cOps aRb)).map dIo) fK 4 (dC (trCs fA aR4)) (aRes.map dV)
theorem callK' (args : Array Value) (w : World) : (callFunc fK args).run PP w = .ok (.enter fK args) w := callFunc_enter Tryz.func72 (by kernel_rfl) (by kernel_rfl) args w
theorem bodyA : fnA.body = some (.seq aR0 (.seq (.seq aR1 (.block (cId (c2 aM)) (.rangeFunc (.tmp (cId aF)) #[cTd aF] (.region (cId aAs) (cOps aAs) false) (.block (cId aBd) (.region (cId aRb) (cOps aRb) false))))) (.seq aR4 .ret))) := by kernel_rfl
theorem feA : FeOK PP cs mn dss fA (.ext aX) :=
  ⟨by decide, (seq_ok (cands := cs) (mnames := mn) mixed Tryz.func122 (by kernel_rfl) bodyA (by decide +kernel) (by kernel_rfl) (by kernel_rfl) (by kernel_rfl) (by kernel_rfl) (by decide +kernel) ⟨by decide +kernel, by decide +kernel⟩
    (by kernel_rfl) (by kernel_rfl) (by kernel_rfl) (by kernel_rfl) callK' keys_none keys_one).d dss⟩

/-! functions without a Go text; TrailingZeros64 -/
theorem fe_of {f : Nat} {e : Xf} (h : ExtOK PP f e) (hn : f ∉ dss) : FeOK PP cs mn dss f (.ext e) := ⟨hn, h.d dss⟩
theorem callT (args : Array Value) (w : World) : (callFunc 69 args).run PP w = .ok (.enter 69 args) w := callFunc_enter Tryz.func69 (by kernel_rfl) (by kernel_rfl) args w
theorem feT : FeOK PP cs mn dss 69 (.ext y_tz) := fe_of (ext_tz callT fun x h1 h2 w hw => tz64 x h1 h2 w hw) (by decide)
theorem fe85 : FeOK PP cs mn dss 85 (.ext (y_add .i64)) := fe_of (ext_add Tryz.func85 (by kernel_rfl) (by kernel_rfl) (by kernel_rfl) .i64 (by kernel_rfl)) (by decide)
theorem fe172 : FeOK PP cs mn dss 172 (.ext (y_add .u64)) := fe_of (ext_add Tryz.func172 (by kernel_rfl) (by kernel_rfl) (by kernel_rfl) .u64 (by kernel_rfl)) (by decide)
theorem fe184 : FeOK PP cs mn dss 184 (.ext (y_load .u32)) := fe_of (ext_load Tryz.func184 (by kernel_rfl) (by kernel_rfl) (by kernel_rfl) .u32 (by kernel_rfl)) (by decide)
theorem fe227 : FeOK PP cs mn dss 227 (.ext (y_load .u64)) := fe_of (ext_load Tryz.func227 (by kernel_rfl) (by kernel_rfl) (by kernel_rfl) .u64 (by kernel_rfl)) (by decide)
theorem fe235 : FeOK PP cs mn dss 235 (.ext (y_sto .u32)) := fe_of (ext_sto Tryz.func235 (by kernel_rfl) (by kernel_rfl) (by kernel_rfl) .u32 (by kernel_rfl)) (by decide)
theorem fe271 : FeOK PP cs mn dss 271 (.ext (y_cas .u64)) := fe_of (ext_cas Tryz.func271 (by kernel_rfl) (by kernel_rfl) (by kernel_rfl) .u64 (by kernel_rfl)) (by decide)
theorem fe273 : FeOK PP cs mn dss 273 (.ext (y_mark0)) := fe_of (ext_mark0 Tryz.func273 (by kernel_rfl) (by kernel_rfl) (by kernel_rfl) Mark.disable (by kernel_rfl)) (by decide)
theorem fe274 : FeOK PP cs mn dss 274 (.ext (y_cas .i32)) := fe_of (ext_cas Tryz.func274 (by kernel_rfl) (by kernel_rfl) (by kernel_rfl) .i32 (by kernel_rfl)) (by decide)
theorem fe275 : FeOK PP cs mn dss 275 (.ext (y_mark0)) := fe_of (ext_mark0 Tryz.func275 (by kernel_rfl) (by kernel_rfl) (by kernel_rfl) Mark.enable (by kernel_rfl)) (by decide)
theorem fe276 : FeOK PP cs mn dss 276 (.ext (y_mark1)) := fe_of (ext_mark1 Tryz.func276 (by kernel_rfl) (by kernel_rfl) (by kernel_rfl) Mark.acquire (by kernel_rfl)) (by decide)
theorem fe278 : FeOK PP cs mn dss 278 (.ext (y_mark1)) := fe_of (ext_mark1 Tryz.func278 (by kernel_rfl) (by kernel_rfl) (by kernel_rfl) Mark.releaseMerge (by kernel_rfl)) (by decide)
theorem fe279 : FeOK PP cs mn dss 279 (.ext (y_add .i32)) := fe_of (ext_add Tryz.func279 (by kernel_rfl) (by kernel_rfl) (by kernel_rfl) .i32 (by kernel_rfl)) (by decide)
noncomputable def exts : List Fe := [⟨fO, .ext oX⟩, ⟨fA, .ext aX⟩, ⟨69, .ext y_tz⟩, ⟨85, .ext (y_add .i64)⟩, ⟨172, .ext (y_add .u64)⟩, ⟨184, .ext (y_load .u32)⟩, ⟨227, .ext (y_load .u64)⟩, ⟨235, .ext (y_sto .u32)⟩, ⟨271, .ext (y_cas .u64)⟩, ⟨273, .ext (y_mark0)⟩, ⟨274, .ext (y_cas .i32)⟩, ⟨275, .ext (y_mark0)⟩, ⟨276, .ext (y_mark1)⟩, ⟨278, .ext (y_mark1)⟩, ⟨279, .ext (y_add .i32)⟩]
theorem exts_ok : ∀ x ∈ exts, FeOK PP cs mn dss x.n x.f := by
  intro x hx
  simp only [exts, List.mem_cons, List.not_mem_nil, or_false] at hx
  rcases hx with rfl | rfl | rfl | rfl | rfl | rfl | rfl | rfl | rfl | rfl | rfl | rfl | rfl | rfl | rfl
  · exact feO
  · exact feA
  · exact feT
  · exact fe85
  · exact fe172
  · exact fe184
  · exact fe227
  · exact fe235
  · exact fe271
  · exact fe273
  · exact fe274
  · exact fe275
  · exact fe276
  · exact fe278
  · exact fe279
noncomputable def allFs : List Fe := fs0 ++ fs1 ++ fs2 ++ fs3 ++ exts
theorem allFs_ok : ∀ x ∈ allFs, FeOK PP cs mn dss x.n x.f := by
  intro x hx
  simp only [allFs, List.mem_append] at hx
  rcases hx with (((hx | hx) | hx) | hx) | hx
  · exact codeList_ok code0 dss x hx
  · exact codeList_ok code1 dss x hx
  · exact codeList_ok code2 dss x hx
  · exact codeList_ok code3 dss x hx
  · exact exts_ok x hx
theorem callW (args : Array Value) (w : World) : (callFunc 4 args).run PP w = .ok (.enter 4 args) w := callFunc_enter Tryz.func4 (by kernel_rfl) (by kernel_rfl) args w
end Go.Proofs.YtfiambjmphjjgaaGreatDoor.Ms
