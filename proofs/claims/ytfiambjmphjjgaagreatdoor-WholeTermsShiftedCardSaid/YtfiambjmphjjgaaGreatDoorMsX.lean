/- Part of a proof: a checked evaluator of the program (functions without a Go text: sync/atomic's). No condition. -/
import Derived.Test.YtfiambjmphjjgaaGreatDoorMsEnv
/-! functions without a Go text: sync/atomic's -/
noncomputable section
namespace Go.Proofs.YtfiambjmphjjgaaGreatDoor.Ms
set_option linter.unusedVariables false
set_option linter.unusedSimpArgs false
def y_load (j : IntKind) : Xf := fun _ vs h nx k => match vs with
  | [v] => v.onP fun a o e => hC h a fun _ _ _ t => Option.rec false (fun v => v.onI fun j' n => Bool.rec false (k (.i j' n) h nx) (kEq j j' && Nat.ble (nat_lit 1) e)) (t.getN o)
  | _ => false
def y_add (j : IntKind) : Xf := fun _ vs h nx k => match vs with
  | [v, y] => y.onI fun jy y => v.onP fun a o e => hC h a fun s sg m t => Option.rec false (fun v => v.onI fun j' n => Bool.rec false (fI (wr j (Int.add n y)) fun z => t.setN o (.i j z) fun t => h.setK a (.c s true m t) fun h => k (.i j z) h nx) (sg && (kEq j jy && (kEq j j' && Nat.ble (nat_lit 1) e)))) (t.getN o)
  | _ => false
def y_sto (j : IntKind) : Xf := fun _ vs h nx k => match vs with
  | [v, y] => y.onI fun jy y => v.onP fun a o e => hC h a fun s sg m t => Bool.rec false (t.setN o (.i j y) fun t => h.setK a (.c s true m t) fun h => k undA h nx) (sg && (kEq j jy && Nat.ble (nat_lit 1) e))
  | _ => false
def y_cas (j : IntKind) : Xf := fun _ vs h nx k => match vs with
  | [v, y, z] => y.onI fun jy y => z.onI fun jz z => v.onP fun a o e => hC h a fun s sg m t => Option.rec false (fun v => v.onI fun j' n => Bool.rec false (Bool.rec (k (.b false) h nx) (t.setN o (.i j z) fun t => h.setK a (.c s true m t) fun h => k (.b true) h nx) (ieq n y)) (sg && (kEq j jy && (kEq j jz && (kEq j j' && Nat.ble (nat_lit 1) e))))) (t.getN o)
  | _ => false
def y_mark0 : Xf := fun _ vs h nx k => match vs with
  | [] => k undA h nx
  | _ => false
def y_mark1 : Xf := fun _ vs h nx k => match vs with
  | [v] => v.onP fun _ _ _ => k undA h nx
  | _ => false
def tzM (n : Nat) : Nat := Nat.rec (motive := fun _ => Nat → Nat) (fun _ => nat_lit 0) (fun _ ih n => Bool.rec (Nat.succ (ih (Nat.div n (nat_lit 2)))) (nat_lit 0) (Nat.beq (Nat.mod n (nat_lit 2)) (nat_lit 1))) (nat_lit 64) n
def y_tz : Xf := fun _ vs h nx k => match vs with
  | [v] => v.onI fun j z => onNat z fun n => Bool.rec false (fN (tzM n) fun r => k (.i .i64 (.ofNat r)) h nx) (kEq .u64 j && (Nat.ble (nat_lit 1) n && Nat.ble n (nat_lit 18446744073709551615)))
  | _ => false
/-- slices.AppendSeq over maps.Keys, of a map of one entry at most -/
def x_seq (s fK : Nat) : Xf := fun _ vs h nx k => match vs with
  | [x, q] => q.onF fun fn _ cs => fnN fn fun f' => Bool.rec false (headK cs fun mp => mp.onP fun a o _ => hC h a fun _ _ _ t => Option.rec false (fun mv => mv.onM fun m => hM h m fun es _ =>
      List.rec (k x h nx) (fun e es _ => List.rec (e.k.onAgg fun l => newK h nx s l fun _ h nx' => appF h nx' s x l (nat_lit 1) k) (fun _ _ _ => false) es) es) (t.getN o)) (Nat.beq f' fK)
  | _ => false
/-- slices.AppendSeq over maps.Keys, of a map of one entry at most, by its pieces -/
def x_seq2 (R0 R1 : List Run) (d7 : Dv) (Ra Rb R4 : List Run) (res : Ev) (tq : Ev) (fK ks : Nat) : Xf := fun cf vs h nx k =>
  bindK [s0, s1] vs env0 fun env => opsK cf R0 env h nx fun env h nx => opsK cf R1 env h nx fun env h nx =>
    (tq env).onF fun fn fs cs => List.rec (fnN fn fun f' => Bool.rec false (headK cs fun mp => mp.onP fun a o e => hC h a fun _ _ _ t => Bool.rec false (Option.rec false (fun mv => mv.onM fun m => hM h m fun es clk =>
      List.rec (opsK cf R4 env h nx fun env h nx => k (res env) h nx)
        (fun e es _ => List.rec (e.k.onAgg fun l => Bool.rec false (d7 e.k env fun env' => opsK cf Ra env' h nx fun env' h nx => opsK cf Rb env' h nx fun _ h nx => opsK cf R4 env h nx fun env h nx => k (res env) h nx)
          (Nat.beq l.length ks && Nat.ble (Nat.succ e.born) clk)) (fun _ _ _ => false) es) es) (t.getN o)) (Nat.ble (nat_lit 1) e)) (Nat.beq f' fK)) (fun _ _ _ => false) fs
def nrmK (x : X) (y : Bool) : Bool := X.rec y (fun _ => false) false x
/-- (*sync.Once).doSlow: two calls are deferred -/
def x_once (R0 : IC) (R1 : List Run) (m1 : List Ev) (R2 : IC) (tc : Ev) (R3 : List Run) (m3 : List Ev) (R4 : IC) (fU fS : Nat) : Xf := fun cf vs h nx k =>
  bindK [s0, s1] vs env0 fun env => icK cf (nat_lit 1) R0 env h nx fun x env h nx => nrmK x (opsK cf R1 env h nx fun env h nx => evs env m1 fun v1 =>
    icK cf (nat_lit 1) R2 env h nx fun x env h nx => nrmK x ((tc env).onB fun b => Bool.rec false (opsK cf R3 env h nx fun env h nx => evs env m3 fun v3 =>
      icK cf (nat_lit 1) R4 env h nx fun x _ h nx => nrmK x (cf fS v3 h nx fun _ h nx => cf fU v1 h nx fun _ h nx => k undA h nx)) b))
end Go.Proofs.YtfiambjmphjjgaaGreatDoor.Ms
