/- Part of a proof: a checked evaluator of the program (the variables of a frame: 256 places). No condition. -/
import GoSem.Core.Made
import GoSem.Core.View
import GoSem.Core.Region
import GoSem.Core.Utf8
noncomputable section
namespace Go.Proofs.YtfiambjmphjjgaaGreatDoor.Ms
set_option linter.unusedVariables false
set_option linter.unusedSimpArgs false

inductive Ps | h | o (p : Ps) | i (p : Ps)
deriving DecidableEq, Inhabited
def Ps.succ : Ps → Ps
  | .h => .o .h
  | .o p => .i p
  | .i p => .o p.succ
def Ps.num : Ps → Nat
  | .h => 1
  | .o p => 2 * p.num
  | .i p => 2 * p.num + 1
def pN (p : Ps) : Nat := Ps.rec (nat_lit 1) (fun _ n => Nat.mul (nat_lit 2) n) (fun _ n => Nat.succ (Nat.mul (nat_lit 2) n)) p
def Ps.beq (a b : Ps) : Bool := decide (a = b)

inductive T (α : Type) | e | n (l : T α) (x : Option α) (r : T α)

section trees
variable {α β : Type}
/-- read at a positive key -/
def T.getF : Ps → T α → Option α :=
  Ps.rec (fun t => T.rec none (fun _ x _ _ _ => x) t)
    (fun _ ih t => T.rec none (fun l _ _ _ _ => ih l) t)
    (fun _ ih t => T.rec none (fun _ _ r _ _ => ih r) t)
def T.get (t : T α) (p : Ps) : Option α := T.getF p t
def T.setF (v : α) : Ps → T α → (T α → β) → β :=
  Ps.rec (fun t k => T.rec (k (.n .e (some v) .e)) (fun l _ r _ _ => k (.n l (some v) r)) t)
    (fun _ ih t k => T.rec (ih .e fun l => k (.n l none .e)) (fun l x r _ _ => ih l fun l => k (.n l x r)) t)
    (fun _ ih t k => T.rec (ih .e fun r => k (.n .e none r)) (fun l x r _ _ => ih r fun r => k (.n l x r)) t)
def T.setK (t : T α) (p : Ps) (v : α) (k : T α → β) : β := T.setF v p t k
/-- read at a number -/
def T.getN (t : T α) (n : Nat) : Option α :=
  T.rec (motive := fun _ => Nat → Option α) (fun _ => none)
    (fun _ x _ ihl ihr n => Bool.rec (Bool.rec (ihr (Nat.sub (Nat.div n (nat_lit 2)) (nat_lit 1))) (ihl (Nat.div n (nat_lit 2))) (Nat.beq (Nat.mod n (nat_lit 2)) (nat_lit 1))) x (Nat.beq n (nat_lit 0))) t n
/-- put at a number -/
def T.setN (t : T α) (n : Nat) (v : α) (k : T α → Bool) : Bool :=
  T.rec (motive := fun _ => Nat → (T α → Bool) → Bool)
    (fun n k => Bool.rec false (k (.n .e (some v) .e)) (Nat.beq n (nat_lit 0)))
    (fun l x r ihl ihr n k => Bool.rec (Bool.rec (ihr (Nat.sub (Nat.div n (nat_lit 2)) (nat_lit 1)) fun r => k (.n l x r)) (ihl (Nat.div n (nat_lit 2)) fun l => k (.n l x r)) (Nat.beq (Nat.mod n (nat_lit 2)) (nat_lit 1))) (k (.n l (some v) r)) (Nat.beq n (nat_lit 0))) t n k
end trees

inductive AV
  | b (v : Bool) | i (k : IntKind) (v : Int) | s (v : ByteArray)
  | p (a : Ps) (o e : Nat) | pn
  | sl (a : Ps) (s o n c : Nat) | so (a : Ps) (s o n : Nat) | se (s : Nat) | sn
  | m (a : Ps) | mn
  | f (fn : Fn) (fs cs : List AV) | fz
  | ifc (t : Nat) (v : AV) | iz
  | agg (l : List AV) | tup (l : List AV)
deriving Inhabited

abbrev KA := AV → Bool
section parts
variable (v : AV)
def AV.onB (k : Bool → Bool) : Bool := AV.rec (motive_1 := fun _ => Bool) (motive_2 := fun _ => Bool) (fun b => k b) (fun _ _ => false) (fun _ => false) (fun _ _ _ => false) false (fun _ _ _ _ _ => false) (fun _ _ _ _ => false) (fun _ => false) false (fun _ => false) false (fun _ _ _ _ _ => false) false (fun _ _ _ => false) false (fun _ _ => false) (fun _ _ => false) false (fun _ _ _ _ => false) v
def AV.onI (k : IntKind → Int → Bool) : Bool := AV.rec (motive_1 := fun _ => Bool) (motive_2 := fun _ => Bool) (fun _ => false) (fun j n => k j n) (fun _ => false) (fun _ _ _ => false) false (fun _ _ _ _ _ => false) (fun _ _ _ _ => false) (fun _ => false) false (fun _ => false) false (fun _ _ _ _ _ => false) false (fun _ _ _ => false) false (fun _ _ => false) (fun _ _ => false) false (fun _ _ _ _ => false) v
def AV.onS (k : ByteArray → Bool) : Bool := AV.rec (motive_1 := fun _ => Bool) (motive_2 := fun _ => Bool) (fun _ => false) (fun _ _ => false) (fun b => k b) (fun _ _ _ => false) false (fun _ _ _ _ _ => false) (fun _ _ _ _ => false) (fun _ => false) false (fun _ => false) false (fun _ _ _ _ _ => false) false (fun _ _ _ => false) false (fun _ _ => false) (fun _ _ => false) false (fun _ _ _ _ => false) v
def AV.onP (k : Ps → Nat → Nat → Bool) : Bool := AV.rec (motive_1 := fun _ => Bool) (motive_2 := fun _ => Bool) (fun _ => false) (fun _ _ => false) (fun _ => false) (fun a o e => k a o e) false (fun _ _ _ _ _ => false) (fun _ _ _ _ => false) (fun _ => false) false (fun _ => false) false (fun _ _ _ _ _ => false) false (fun _ _ _ => false) false (fun _ _ => false) (fun _ _ => false) false (fun _ _ _ _ => false) v
/-- a slice: nil; of known room; of unknown room; empty, of unknown place -/
def AV.onSl (kn : Bool) (ke : Nat → Bool) (ks : Ps → Nat → Nat → Nat → Nat → Bool) (ko : Ps → Nat → Nat → Nat → Bool) : Bool := AV.rec (motive_1 := fun _ => Bool) (motive_2 := fun _ => Bool) (fun _ => false) (fun _ _ => false) (fun _ => false) (fun _ _ _ => false) false (fun a s o n c => ks a s o n c) (fun a s o n => ko a s o n) (fun s => ke s) kn (fun _ => false) false (fun _ _ _ _ _ => false) false (fun _ _ _ => false) false (fun _ _ => false) (fun _ _ => false) false (fun _ _ _ _ => false) v
def AV.onM (k : Ps → Bool) : Bool := AV.rec (motive_1 := fun _ => Bool) (motive_2 := fun _ => Bool) (fun _ => false) (fun _ _ => false) (fun _ => false) (fun _ _ _ => false) false (fun _ _ _ _ _ => false) (fun _ _ _ _ => false) (fun _ => false) false (fun a => k a) false (fun _ _ _ _ _ => false) false (fun _ _ _ => false) false (fun _ _ => false) (fun _ _ => false) false (fun _ _ _ _ => false) v
def AV.onF (k : Fn → List AV → List AV → Bool) : Bool := AV.rec (motive_1 := fun _ => Bool) (motive_2 := fun _ => Bool) (fun _ => false) (fun _ _ => false) (fun _ => false) (fun _ _ _ => false) false (fun _ _ _ _ _ => false) (fun _ _ _ _ => false) (fun _ => false) false (fun _ => false) false (fun f a b _ _ => k f a b) false (fun _ _ _ => false) false (fun _ _ => false) (fun _ _ => false) false (fun _ _ _ _ => false) v
/-- an interface value: nil, or of a type -/
def AV.onIf (kz : Bool) (k : Nat → AV → Bool) : Bool := AV.rec (motive_1 := fun _ => Bool) (motive_2 := fun _ => Bool) (fun _ => false) (fun _ _ => false) (fun _ => false) (fun _ _ _ => false) false (fun _ _ _ _ _ => false) (fun _ _ _ _ => false) (fun _ => false) false (fun _ => false) false (fun _ _ _ _ _ => false) false (fun t x _ => k t x) kz (fun _ _ => false) (fun _ _ => false) false (fun _ _ _ _ => false) v
def AV.onAgg (k : List AV → Bool) : Bool := AV.rec (motive_1 := fun _ => Bool) (motive_2 := fun _ => Bool) (fun _ => false) (fun _ _ => false) (fun _ => false) (fun _ _ _ => false) false (fun _ _ _ _ _ => false) (fun _ _ _ _ => false) (fun _ => false) false (fun _ => false) false (fun _ _ _ _ _ => false) false (fun _ _ _ => false) false (fun l _ => k l) (fun _ _ => false) false (fun _ _ _ _ => false) v
def AV.onTup (k : List AV → Bool) : Bool := AV.rec (motive_1 := fun _ => Bool) (motive_2 := fun _ => Bool) (fun _ => false) (fun _ _ => false) (fun _ => false) (fun _ _ _ => false) false (fun _ _ _ _ _ => false) (fun _ _ _ _ => false) (fun _ => false) false (fun _ => false) false (fun _ _ _ _ _ => false) false (fun _ _ _ => false) false (fun _ _ => false) (fun l _ => k l) false (fun _ _ _ _ => false) v
/-- a value's cells -/
def AV.onCells (k : List AV → Bool) : Bool := AV.rec (motive_1 := fun _ => Bool) (motive_2 := fun _ => Bool) (fun _ => k [v]) (fun _ _ => k [v]) (fun _ => k [v]) (fun _ _ _ => k [v]) (k [v]) (fun _ _ _ _ _ => k [v]) (fun _ _ _ _ => k [v]) (fun _ => k [v]) (k [v]) (fun _ => k [v]) (k [v]) (fun _ _ _ _ _ => k [v]) (k [v]) (fun _ _ _ => k [v]) (k [v]) (fun l _ => k l) (fun _ _ => false) false (fun _ _ _ _ => false) v
/-- is it a value of one cell -/
def AV.one : Bool := AV.rec (motive_1 := fun _ => Bool) (motive_2 := fun _ => Bool) (fun _ => true) (fun _ _ => true) (fun _ => true) (fun _ _ _ => true) true (fun _ _ _ _ _ => true) (fun _ _ _ _ => true) (fun _ => true) true (fun _ => true) true (fun _ _ _ _ _ => true) true (fun _ _ _ => true) true (fun _ _ => false) (fun _ _ => false) true (fun _ _ _ _ => true) v
end parts

structure ME where
  k : AV
  v : AV
  born : Nat
/-- a block of the abstract heap: cells (element size, is it the only copy, how many are known); a map; iterators -/
inductive Ob
  | c (s : Nat) (sg : Bool) (n : Nat) (t : T AV)
  | m (es : List ME) (clk : Nat)
  | si (s : ByteArray) (pos : Nat)
  | mi (m : Ps) (since : Nat) (seen : List Nat) (stepped : Nat)
abbrev Hp := T Ob
section blocks
variable (h : Hp) (a : Ps)
def hC (k : Nat → Bool → Nat → T AV → Bool) : Bool := Option.rec false (fun ob => Ob.rec (fun s g n t => k s g n t) (fun _ _ => false) (fun _ _ => false) (fun _ _ _ _ => false) ob) (h.get a)
def hM (k : List ME → Nat → Bool) : Bool := Option.rec false (fun ob => Ob.rec (fun _ _ _ _ => false) (fun es c => k es c) (fun _ _ => false) (fun _ _ _ _ => false) ob) (h.get a)
def hSi (k : ByteArray → Nat → Bool) : Bool := Option.rec false (fun ob => Ob.rec (fun _ _ _ _ => false) (fun _ _ => false) (fun s p => k s p) (fun _ _ _ _ => false) ob) (h.get a)
def hMi (k : Ps → Nat → List Nat → Nat → Bool) : Bool := Option.rec false (fun ob => Ob.rec (fun _ _ _ _ => false) (fun _ _ => false) (fun _ _ => false) (fun m s l n => k m s l n) ob) (h.get a)
end blocks

/-! the variables of a frame: 256 places -/
structure N4 (α : Type) where (a0 a1 a2 a3 : α)
structure N8 (α : Type) where (a0 a1 a2 a3 a4 a5 a6 a7 : α)
abbrev Env := N8 (N8 (N4 AV))
abbrev Ev := Env → AV
abbrev Dv := AV → Env → (Env → Bool) → Bool
def undA : AV := .tup []
def kc (v : AV) : Ev := fun _ => v

/-! numbers -/
def fN (n : Nat) (k : Nat → Bool) : Bool := Nat.rec (k (nat_lit 0)) (fun m _ => k (Nat.succ m)) n
def fI (v : Int) (k : Int → Bool) : Bool := Int.rec (fun n => fN n fun n => k (.ofNat n)) (fun n => fN n fun n => k (.negSucc n)) v
def onNat (v : Int) (k : Nat → Bool) : Bool := Int.rec (fun n => k n) (fun _ => false) v
def AV.onN (v : AV) (k : Nat → Bool) : Bool := v.onI fun _ n => onNat n k
def kN : IntKind → Nat
  | .i8 => nat_lit 0 | .i16 => nat_lit 1 | .i32 => nat_lit 2 | .i64 => nat_lit 3 | .u8 => nat_lit 4 | .u16 => nat_lit 5 | .u32 => nat_lit 6 | .u64 => nat_lit 7
def kEq (j k : IntKind) : Bool := Nat.beq (kN j) (kN k)
def wr (k : IntKind) (v : Int) : Int :=
  match k with
  | .i64 => Int.rec (fun n => Bool.rec (IntKind.i64.wrap (.ofNat n)) (.ofNat n) (Nat.ble n (nat_lit 9223372036854775807))) (fun n => Bool.rec (IntKind.i64.wrap (.negSucc n)) (.negSucc n) (Nat.ble n (nat_lit 9223372036854775807))) v
  | .u64 => Int.rec (fun n => .ofNat (Nat.mod n (nat_lit 18446744073709551616))) (fun n => IntKind.u64.wrap (.negSucc n)) v
  | k => k.wrap v
def ilt (a b : Int) : Bool :=
  Int.rec (fun a => Int.rec (fun b => Nat.ble (Nat.succ a) b) (fun _ => false) b) (fun a => Int.rec (fun _ => true) (fun b => Nat.ble (Nat.succ b) a) b) a
def ieq (a b : Int) : Bool :=
  Int.rec (fun a => Int.rec (fun b => Nat.beq a b) (fun _ => false) b) (fun a => Int.rec (fun _ => false) (fun b => Nat.beq a b) b) a
/-- both not below 0 -/
def nn (a b : Int) (k : Nat → Nat → Bool) : Bool := Int.rec (fun a => Int.rec (fun b => k a b) (fun _ => false) b) (fun _ => false) a
/-- how many bits of a number that is not below 0 -/
def mxN : IntKind → Nat
  | .i8 => nat_lit 127 | .i16 => nat_lit 32767 | .i32 => nat_lit 2147483647 | .i64 => nat_lit 9223372036854775807 | .u8 => nat_lit 255 | .u16 => nat_lit 65535 | .u32 => nat_lit 4294967295 | .u64 => nat_lit 18446744073709551615
abbrev Ari := IntKind → Int → Int → (Int → Bool) → Bool
def aAdd : Ari := fun k a b f => fI (wr k (Int.add a b)) f
def aSub : Ari := fun k a b f => fI (wr k (Int.sub a b)) f
def aMul : Ari := fun k a b f => fI (wr k (Int.mul a b)) f
def aAnd : Ari := fun k a b f => nn a b fun a b => Bool.rec false (fN (Nat.land a b) fun n => f (.ofNat n)) (Nat.ble a (mxN k) && Nat.ble b (mxN k))
def aOr : Ari := fun k a b f => nn a b fun a b => Bool.rec false (fN (Nat.lor a b) fun n => f (.ofNat n)) (Nat.ble a (mxN k) && Nat.ble b (mxN k))
def aAndn : Ari := fun k a b f => nn a b fun a b => Bool.rec false (fN (Nat.xor a (Nat.land a b)) fun n => f (.ofNat n)) (Nat.ble a (mxN k) && Nat.ble b (mxN k))
def aQuo : Ari := fun k a b f => Bool.rec (fI (wr k (Int.tdiv a b)) f) false (ieq b (.ofNat (nat_lit 0)))
def aRem : Ari := fun _ a b f => Bool.rec (fI (Int.tmod a b) f) false (ieq b (.ofNat (nat_lit 0)))
def aShl : Ari := fun k a b f => onNat b fun b => Bool.rec false (fI (wr k (Int.mul a (.ofNat (Nat.pow (nat_lit 2) b)))) f) (Nat.ble b (nat_lit 7) || Nat.ble b (nat_lit 63) && kEq k .u64)
def aShr : Ari := fun k a b f => nn a b fun a b => Bool.rec false (fN (Nat.div a (Nat.pow (nat_lit 2) b)) fun n => f (.ofNat n)) (Nat.ble b (nat_lit 7) || Nat.ble b (nat_lit 63) && Nat.ble (nat_lit 63) (Nat.mul (kN k) (nat_lit 21)) && (kEq k .u64 || kEq k .i64))
abbrev Cmp := Int → Int → Bool
def cEq : Cmp := ieq
def cNe : Cmp := fun a b => Bool.rec true false (ieq a b)
def cLt : Cmp := ilt
def cLe : Cmp := fun a b => Bool.rec true false (ilt b a)
def cGt : Cmp := fun a b => ilt b a
def cGe : Cmp := fun a b => Bool.rec true false (ilt a b)

/-! lists -/
def evs (env : Env) (l : List Ev) (k : List AV → Bool) : Bool :=
  List.rec (motive := fun _ => (List AV → Bool) → Bool) (fun k => k [])
    (fun x _ ih k => ih fun vs => k (x env :: vs)) l k
/-- n cells from o on -/
def ldK (t : T AV) (o n : Nat) (k : List AV → Bool) : Bool :=
  Nat.rec (motive := fun _ => Nat → (List AV → Bool) → Bool) (fun _ k => k [])
    (fun _ ih o k => Option.rec false (fun v => ih (Nat.succ o) fun vs => k (v :: vs)) (t.getN o)) n o k
def stK (t : T AV) (o : Nat) (l : List AV) (k : T AV → Bool) : Bool :=
  List.rec (motive := fun _ => Nat → T AV → (T AV → Bool) → Bool) (fun _ t k => k t)
    (fun v _ ih o t k => t.setN o v fun t => ih (Nat.succ o) t k) l o t k
def lenL {α : Type} (l : List α) (k : Nat → Bool) : Bool :=
  List.rec (motive := fun _ => Nat → (Nat → Bool) → Bool) (fun n k => k n) (fun _ _ ih n k => ih (Nat.succ n) k) l (nat_lit 0) k
def dropN {α : Type} (n : Nat) (l : List α) : List α := Nat.rec (motive := fun _ => List α → List α) (fun l => l) (fun _ ih l => List.rec [] (fun _ l _ => ih l) l) n l
def headK {α : Type} (l : List α) (k : α → Bool) : Bool := List.rec false (fun x _ _ => k x) l
def takeK {α : Type} (n : Nat) (l : List α) (k : List α → Bool) : Bool :=
  Nat.rec (motive := fun _ => List α → (List α → Bool) → Bool) (fun _ k => k [])
   (fun _ ih l k => List.rec false (fun x l _ => ih l fun r => k (x :: r)) l) n l k
/-- put vs over l from place o on -/
def overK (l : List AV) (o : Nat) (vs : List AV) (k : List AV → Bool) : Bool :=
  Nat.rec (motive := fun _ => List AV → (List AV → Bool) → Bool)
    (fun l k => List.rec (motive := fun _ => List AV → (List AV → Bool) → Bool) (fun l k => k l)
      (fun v _ ih l k => List.rec false (fun _ l _ => ih l fun r => k (v :: r)) l) vs l k)
    (fun _ ih l k => List.rec false (fun x l _ => ih l fun r => k (x :: r)) l) o l k
structure Pt where
  o : Nat
  n : Nat
  x : Ev
def fillK (env : Env) (z : List AV) (ps : List Pt) (k : List AV → Bool) : Bool :=
  List.rec (motive := fun _ => List AV → (List AV → Bool) → Bool) (fun z k => k z)
    (fun p _ ih z k => Pt.rec (fun o n x => (x env).onCells fun l => lenL l fun m => Bool.rec false (overK z o l fun z => ih z k) (Nat.beq m n)) p) ps z k
def repK {α : Type} (z : List α) (n : Nat) (k : List α → Bool) : Bool :=
  Nat.rec (motive := fun _ => List α → (List α → Bool) → Bool) (fun r k => k r) (fun _ ih r k => ih (z ++ r) k) n [] k
def buildT (l : List AV) (k : Nat → T AV → Bool) : Bool :=
  List.rec (motive := fun _ => Nat → T AV → (Nat → T AV → Bool) → Bool) (fun n t k => k n t)
    (fun v _ ih n t k => t.setN n v fun t => ih (Nat.succ n) t k) l (nat_lit 0) .e k
def newK (h : Hp) (nx : Ps) (s : Nat) (l : List AV) (k : Nat → Hp → Ps → Bool) : Bool :=
  buildT l fun n t => h.setK nx (.c s true n t) fun h => k n h nx.succ
def memN (n : Nat) (l : List Nat) : Bool := List.rec false (fun m _ ih => Bool.rec ih true (Nat.beq n m)) l
structure Tb where
  t : Nat
  f : Nat
def lookN (n : Nat) (l : List Tb) (k : Nat → Bool) : Bool := List.rec false (fun m _ ih => Tb.rec (fun a b => Bool.rec ih (k b) (Nat.beq n a)) m) l
structure Ts where
  s : String
  t : Nat
def memS (s : String) (n : Nat) (l : List Ts) : Bool := List.rec false (fun m _ ih => Ts.rec (fun a b => Bool.rec ih (Bool.rec ih true (decide (s = a))) (Nat.beq n b)) m) l
/-- the cells of a slice, and how many elements -/
def slCells (h : Hp) (s : Nat) (v : AV) (k : List AV → Nat → Bool) : Bool :=
  v.onSl (k [] (nat_lit 0)) (fun _ => k [] (nat_lit 0))
    (fun a s' o n _ => hC h a fun _ _ _ t => Bool.rec false (ldK t o (Nat.mul n s) fun l => k l n) (Nat.beq s s'))
    (fun a s' o n => hC h a fun _ _ _ t => Bool.rec false (ldK t o (Nat.mul n s) fun l => k l n) (Nat.beq s s'))
def byK (v : AV) (k : UInt8 → Bool) : Bool := v.onI fun j n => onNat n fun n => Bool.rec false (k (UInt8.ofNat n)) (kEq j .u8 && Nat.ble n (nat_lit 255))
def bytesOf (l : List AV) (k : List UInt8 → Bool) : Bool :=
  List.rec (motive := fun _ => (List UInt8 → Bool) → Bool) (fun k => k []) (fun v _ ih k => byK v fun b => ih fun r => k (b :: r)) l k

/-! operations that only compute -/
abbrev Pv := Env → KA → Bool
def p_mv (x : Ev) : Pv := fun env k => k (x env)
def p_pick (c a b : Ev) : Pv := fun env k => (c env).onB fun c => Bool.rec (k (b env)) (k (a env)) c
def p_bld (z : List AV) (ps : List Pt) : Pv := fun env k => fillK env z ps fun l => k (.agg l)
def fnK (fn : Fn) (kf : Bool) (km : String → Bool) : Bool := Fn.rec (fun _ => kf) (fun s => km s) (fun _ _ => false) (fun _ _ _ _ => false) (fun _ => false) fn
/-- not nil: a pointer, an interface value, a function -/
def p_nc (tbl : List Ts) (x : Ev) : Pv := fun env k =>
  AV.rec (motive_1 := fun _ => Bool) (motive_2 := fun _ => Bool) (fun _ => false) (fun _ _ => false) (fun _ => false) (fun a o e => k (.p a o e)) false (fun _ _ _ _ _ => false) (fun _ _ _ _ => false) (fun _ => false) false (fun _ => false) false
    (fun fn fs cs _ _ => fnK fn (k (.f fn fs cs)) fun nm => headK fs fun v => v.onIf false fun t _ => Bool.rec false (k (.f fn fs cs)) (memS nm t tbl)) false (fun t v _ => k (.ifc t v)) false (fun _ _ => false) (fun _ _ => false) false (fun _ _ _ _ => false) (x env)
def p_ar (op : Ari) (x y : Ev) : Pv := fun env k => (x env).onI fun j a => (y env).onI fun j' b => Bool.rec false (op j a b fun c => k (.i j c)) (kEq j j')
/-- shifts -/
def p_sh (op : Ari) (x y : Ev) : Pv := fun env k => (x env).onI fun j a => (y env).onI fun _ b => op j a b fun c => k (.i j c)
def p_cm (op : Cmp) (x y : Ev) : Pv := fun env k => (x env).onI fun j a => (y env).onI fun j' b => Bool.rec false (Bool.rec (k (.b false)) (k (.b true)) (op a b)) (kEq j j')
def p_eqb (ng : Bool) (x y : Ev) : Pv := fun env k => (x env).onB fun a => (y env).onB fun b => Bool.rec (k (.b false)) (k (.b true)) (xor (a == b) ng)
def p_eqst (ng : Bool) (x y : Ev) : Pv := fun env k => (x env).onS fun a => (y env).onS fun b => Bool.rec (k (.b false)) (k (.b true)) (xor (decide (a = b)) ng)
/-- is it nil -/
def nilP (v : AV) (k : Bool → Bool) : Bool := AV.rec (motive_1 := fun _ => Bool) (motive_2 := fun _ => Bool) (fun _ => false) (fun _ _ => false) (fun _ => false) (fun _ _ _ => k false) (k true) (fun _ _ _ _ _ => false) (fun _ _ _ _ => false) (fun _ => false) false (fun _ => false) false (fun _ _ _ _ _ => false) false (fun _ _ _ => false) false (fun _ _ => false) (fun _ _ => false) false (fun _ _ _ _ => false) v
def nilS (v : AV) (k : Bool → Bool) : Bool := v.onSl (k true) (fun _ => k false) (fun _ _ _ _ _ => k false) (fun _ _ _ _ => k false)
def nilF (v : AV) (k : Bool → Bool) : Bool := AV.rec (motive_1 := fun _ => Bool) (motive_2 := fun _ => Bool) (fun _ => false) (fun _ _ => false) (fun _ => false) (fun _ _ _ => false) false (fun _ _ _ _ _ => false) (fun _ _ _ _ => false) (fun _ => false) false (fun _ => false) false (fun _ _ _ _ _ => k false) (k true) (fun _ _ _ => false) false (fun _ _ => false) (fun _ _ => false) false (fun _ _ _ _ => false) v
def nilI (v : AV) (k : Bool → Bool) : Bool := v.onIf (k true) fun _ _ => k false
/-- held against nil -/
def p_nil (f : AV → (Bool → Bool) → Bool) (ng : Bool) (x : Ev) : Pv := fun env k => f (x env) fun b => Bool.rec (k (.b false)) (k (.b true)) (xor b ng)
def p_no (x : Ev) : Pv := fun env k => (x env).onB fun b => Bool.rec (k (.b true)) (k (.b false)) b
def p_neg (x : Ev) : Pv := fun env k => (x env).onI fun j a => fI (wr j (Int.sub (.ofNat (nat_lit 0)) a)) fun c => k (.i j c)
def p_cv (j : IntKind) (x : Ev) : Pv := fun env k => (x env).onI fun _ a => fI (wr j a) fun c => k (.i j c)
def p_mi (t : Nat) (x : Ev) : Pv := fun env k => k (.ifc t (x env))
def p_mf (fn : Fn) (fs cs : List Ev) : Pv := fun env k => evs env fs fun fs => evs env cs fun cs => k (.f fn fs cs)
def p_fa (off sz : Nat) (x : Ev) : Pv := fun env k => (x env).onP fun a o e => Bool.rec false (fN (Nat.add o off) fun o => k (.p a o sz)) (Nat.ble (Nat.add off sz) e)
def p_fld (off : Nat) (x : Ev) : Pv := fun env k => (x env).onAgg fun l => headK (dropN off l) k
def p_flds (off n : Nat) (x : Ev) : Pv := fun env k => (x env).onAgg fun l => takeK n (dropN off l) fun r => k (.agg r)
def p_ixs (s : Nat) (x i : Ev) : Pv := fun env k => (i env).onN fun i => (x env).onSl false (fun _ => false)
  (fun a s' o n _ => Bool.rec false (fN (Nat.add o (Nat.mul i s)) fun o => k (.p a o s)) (Nat.beq s s' && Nat.ble (Nat.succ i) n))
  (fun a s' o n => Bool.rec false (fN (Nat.add o (Nat.mul i s)) fun o => k (.p a o s)) (Nat.beq s s' && Nat.ble (Nat.succ i) n))
def p_ixa (len s : Nat) (x i : Ev) : Pv := fun env k => (i env).onN fun i => (x env).onP fun a o e => Bool.rec false (fN (Nat.add o (Nat.mul i s)) fun o => k (.p a o s)) (Nat.ble (Nat.mul len s) e && Nat.ble (Nat.succ i) len)
def p_ixv (len : Nat) (x i : Ev) : Pv := fun env k => (i env).onN fun i => (x env).onAgg fun l => Bool.rec false (headK (dropN i l) k) (Nat.ble (Nat.succ i) len)
def p_ta (yes no : List Nat) (x : Ev) : Pv := fun env k => (x env).onIf (k (.tup [.iz, .b false])) fun t _ => Bool.rec (Bool.rec false (k (.tup [.iz, .b false])) (memN t no)) (k (.tup [x env, .b true])) (memN t yes)
def p_ext (i : Nat) (x : Ev) : Pv := fun env k => (x env).onTup fun l => headK (dropN i l) k
def p_len (x : Ev) : Pv := fun env k => (x env).onSl (k (.i .i64 (.ofNat (nat_lit 0)))) (fun _ => k (.i .i64 (.ofNat (nat_lit 0)))) (fun _ _ _ n _ => k (.i .i64 (.ofNat n))) (fun _ _ _ n => k (.i .i64 (.ofNat n)))
def p_lens (x : Ev) : Pv := fun env k => (x env).onS fun b => fN b.size fun n => k (.i .i64 (.ofNat n))
def p_max (x y : Ev) : Pv := fun env k => (x env).onI fun j a => (y env).onI fun _ b => Bool.rec (k (.i j a)) (k (.i j b)) (ilt a b)
def p_min (x y : Ev) : Pv := fun env k => (x env).onI fun j a => (y env).onI fun _ b => Bool.rec (k (.i j a)) (k (.i j b)) (ilt b a)
/-- what is not done -/
def p_bad : Pv := fun _ _ => false
def byteK (l : List UInt8) (n : Nat) (k : UInt8 → Bool) : Bool :=
  List.rec (motive := fun _ => Nat → Bool) (fun _ => false) (fun b _ ih n => Nat.rec (k b) (fun n _ => ih n) n) l n
def p_sx (x i : Ev) : Pv := fun env k => (x env).onS fun s => (i env).onN fun n => byteK s.data.toList n fun b => fN b.toNat fun m => k (.i .u8 (.ofNat m))
abbrev Nv := Env → (Option Nat → Bool) → Bool
def n_no : Nv := fun _ k => k none
def n_of (x : Ev) : Nv := fun env k => (x env).onN fun n => k (some n)
/-- x[lo:hi:mx] -/
def slA (a : Ps) (s o l h m : Nat) (k : KA) : Bool :=
  fN (Nat.sub h l) fun n => Bool.rec (fN (Nat.add o (Nat.mul l s)) fun o => fN (Nat.sub m l) fun c => k (.sl a s o n c)) (k (.sl a s o n (nat_lit 0))) (Nat.beq m l)
def p_slc (s : Nat) (x : Ev) (lo hi mx : Nv) : Pv := fun env k => lo env fun lo => hi env fun hi => mx env fun mx =>
  (x env).onSl (Bool.rec false (k .sn) (Nat.beq (lo.getD (nat_lit 0)) (nat_lit 0) && Nat.beq (hi.getD (nat_lit 0)) (nat_lit 0) && Nat.beq (mx.getD (nat_lit 0)) (nat_lit 0)))
    (fun _ => false)
    (fun a s' o n c => Bool.rec false (slA a s o (lo.getD (nat_lit 0)) (hi.getD n) (mx.getD c) k) (Nat.ble (mx.getD c) c && Nat.ble (hi.getD n) (mx.getD c) && Nat.ble (lo.getD (nat_lit 0)) (hi.getD n) && Nat.beq s s'))
    (fun a s' o n => Option.rec
      (Bool.rec false (Bool.rec (fN (Nat.add o (Nat.mul (lo.getD (nat_lit 0)) s)) fun o => fN (Nat.sub (hi.getD n) (lo.getD (nat_lit 0))) fun n => k (.so a s o n)) (k (.se s)) (Nat.beq (lo.getD (nat_lit 0)) n)) (Nat.ble (hi.getD n) n && Nat.ble (lo.getD (nat_lit 0)) (hi.getD n) && Nat.beq s s'))
      (fun m => Bool.rec false (slA a s o (lo.getD (nat_lit 0)) (hi.getD n) m k) (Nat.ble m n && Nat.ble (hi.getD n) m && Nat.ble (lo.getD (nat_lit 0)) (hi.getD n) && Nat.beq s s')) mx)

/-! operations that read -/
abbrev Rd := Env → Hp → KA → Bool
def r_ld (x : Ev) : Rd := fun env h k => (x env).onP fun a o e => hC h a fun _ _ _ t => Bool.rec false (Option.rec false (fun v => k v) (t.getN o)) (Nat.ble (nat_lit 1) e)
def r_ldn (n : Nat) (x : Ev) : Rd := fun env h k => (x env).onP fun a o e => hC h a fun _ _ _ t => Bool.rec false (ldK t o n fun l => k (.agg l)) (Nat.ble n e)
def r_b2s (x : Ev) : Rd := fun env h k => slCells h (nat_lit 1) (x env) fun l _ => bytesOf l fun bs => k (.s ⟨⟨bs⟩⟩)
/-- the same address -/
def r_up (x : Ev) : Rd := fun env h k => (x env).onP fun a o e => hC h a fun _ _ _ t => Bool.rec false (Option.rec false (fun _ => k (x env)) (t.getN o)) (Nat.ble (nat_lit 1) e)
/-- equality of keys -/
def keB (x y : AV) (k : Bool → Bool) : Bool :=
  AV.rec (motive_1 := fun _ => Bool) (motive_2 := fun _ => Bool) (fun _ => false) (fun j a => y.onI fun j' b => Bool.rec false (k (ieq a b)) (kEq j j')) (fun a => y.onS fun b => k (decide (a = b))) (fun _ _ _ => false) false (fun _ _ _ _ _ => false) (fun _ _ _ _ => false) (fun _ => false) false (fun _ => false) false (fun _ _ _ _ _ => false) false (fun _ _ _ => false) false (fun _ _ => false) (fun _ _ => false) false (fun _ _ _ _ => false) x
def findK (x : AV) (es : List ME) (kn : Bool) (k : Nat → ME → Bool) : Bool :=
  List.rec (motive := fun _ => Nat → Bool) (fun _ => kn)
    (fun e _ ih i => keB x e.k fun b => Bool.rec (ih (Nat.succ i)) (k i e) b) es (nat_lit 0)
/-- may it be a key: a number or string, or a struct of so many cells -/
def keyI (x : AV) (k : Bool) : Bool := x.onI fun _ _ => k
def keyS (x : AV) (k : Bool) : Bool := x.onS fun _ => k
def keyG (n : Nat) (x : AV) (k : Bool) : Bool := x.onAgg fun l => lenL l fun m => Bool.rec false k (Nat.beq m n)
abbrev Ky := AV → Bool → Bool
def r_lk (ky : Ky) (z : AV) (x y : Ev) : Rd := fun env h k => (x env).onM fun a => hM h a fun es _ => ky (y env) (findK (y env) es (k z) fun _ e => k e.v)
def r_lkok (ky : Ky) (z : AV) (x y : Ev) : Rd := fun env h k => (x env).onM fun a => hM h a fun es _ => ky (y env) (findK (y env) es (k (.tup [z, .b false])) fun _ e => k (.tup [e.v, .b true]))
def r_ml (x : Ev) : Rd := fun env h k => (x env).onM fun a => hM h a fun es _ => lenL es fun n => k (.i .i64 (.ofNat n))

/-! operations that make a block of cells -/
abbrev Mk := Env → (Nat → List AV → (Ps → Nat → AV) → Bool) → Bool
def m_al (s : Nat) (z : List AV) : Mk := fun _ k => k s z fun a n => .p a (nat_lit 0) n
def m_bx (s : Nat) (x : Ev) : Mk := fun env k => (x env).onCells fun l => lenL l fun n => Bool.rec false (k s l fun a n => .p a (nat_lit 0) n) (Nat.beq n s)
def m_bsl (s len : Nat) (z : List AV) (ps : List Pt) : Mk := fun env k => repK z len fun l => fillK env l ps fun l => k s l fun a _ => .sl a s (nat_lit 0) len len
def m_mks (s : Nat) (z : List AV) (l c : Ev) : Mk := fun env k => (l env).onN fun l => (c env).onN fun c => Bool.rec false (repK z c fun cs => k s cs fun a _ => .sl a s (nat_lit 0) l c) (Nat.ble l c && Nat.ble c (nat_lit 100000))

/-! operations that act -/
abbrev KV := AV → Hp → Ps → Bool
abbrev CF := Nat → List AV → Hp → Ps → KV → Bool
abbrev Ac := CF → Env → Hp → Ps → KV → Bool
def a_st (x v : Ev) : Ac := fun _ env h nx k => (x env).onP fun a o e => hC h a fun s sg m t => Bool.rec false (t.setN o (v env) fun t => h.setK a (.c s true m t) fun h => k undA h nx) (sg && (Nat.ble (nat_lit 1) e && (v env).one))
def a_stn (n : Nat) (x v : Ev) : Ac := fun _ env h nx k => (x env).onP fun a o e => (v env).onAgg fun l => hC h a fun s sg m t => lenL l fun ln => Bool.rec false (stK t o l fun t => h.setK a (.c s true m t) fun h => k undA h nx) (sg && (Nat.ble n e && Nat.beq ln n))
def a_mkb (x : Ev) : Ac := fun _ env h nx k => (x env).onSl false (fun _ => false) (fun _ _ _ _ _ => k (x env) h nx) (fun _ _ _ _ => false)
def appF (h : Hp) (nx : Ps) (s : Nat) (x : AV) (new : List AV) (m : Nat) (k : KV) : Bool :=
  x.onSl (Bool.rec false (newK h nx s new fun _ h nx' => k (.so nx s (nat_lit 0) m) h nx') (Nat.ble (nat_lit 1) s && Nat.ble m (nat_lit 1000000)))
    (fun _ => false)
    (fun a s' o n c => fN (Nat.add n m) fun need => Bool.rec false (Bool.rec
        (slCells h s x fun old _ => newK h nx s (old ++ new) fun _ h nx' => k (.so nx s (nat_lit 0) need) h nx')
        (hC h a fun s1 sg k1 t => Bool.rec false (stK t (Nat.add o (Nat.mul n s)) new fun t => h.setK a (.c s1 true k1 t) fun h => k (.sl a s o need c) h nx) sg)
        (Nat.ble need c)) (Nat.beq s s' && (Nat.ble (nat_lit 1) s && Nat.ble need (nat_lit 1000000))))
    (fun a s' o n => fN (Nat.add n m) fun need => Bool.rec false (
        hC h a fun s1 _ k1 t => Bool.rec false (fN (Nat.mul need s) fun k2 => stK t k1 new fun t => h.setK a (.c s1 false k2 t) fun h => k (.so a s (nat_lit 0) need) h nx) (Nat.beq o (nat_lit 0) && Nat.beq k1 (Nat.mul n s)))
        (Nat.beq s s' && (Nat.ble (nat_lit 1) s && Nat.ble need (nat_lit 1000000))))
def a_app (s : Nat) (x y : Ev) : Ac := fun _ env h nx k => slCells h s (y env) fun new m =>
  Bool.rec (appF h nx s (x env) new m k)
    ((x env).onSl (k (x env) h nx) (fun _ => k (x env) h nx) (fun _ _ _ _ _ => k (x env) h nx) (fun _ _ _ _ => k (x env) h nx)) (Nat.beq m (nat_lit 0))
def a_mkm : Ac := fun _ _ h nx k => h.setK nx (.m [] (nat_lit 0)) fun h => k (.m nx) h nx.succ
def putE (es : List ME) (i : Nat) (y v : AV) (k : List ME → Bool) : Bool :=
  List.rec (motive := fun _ => Nat → (List ME → Bool) → Bool) (fun _ _ => false) (fun e es ih i k => Nat.rec (k (⟨y, v, e.born⟩ :: es)) (fun i _ => ih i fun r => k (e :: r)) i) es i k
def a_mu (ky : Ky) (x y v : Ev) : Ac := fun _ env h nx k => (x env).onM fun a => hM h a fun es clk => ky (y env) (Bool.rec false (findK (y env) es
    (h.setK a (.m (es ++ [⟨y env, v env, clk⟩]) (Nat.succ clk)) fun h => k undA h nx)
    fun i _ => putE es i (y env) (v env) fun es => h.setK a (.m es clk) fun h => k undA h nx) (v env).one)
def a_del (ky : Ky) (x y : Ev) : Ac := fun _ env h nx k => (x env).onM fun a => hM h a fun es _ => ky (y env) (findK (y env) es (k (.tup []) h nx) fun _ _ => false)
def a_rgs (x : Ev) : Ac := fun _ env h nx k => (x env).onS fun b => h.setK nx (.si b (nat_lit 0)) fun h => k (.p nx (nat_lit 0) (nat_lit 0)) h nx.succ
def a_nxs (x : Ev) : Ac := fun _ env h nx k => (x env).onP fun a _ _ => hSi h a fun b pos => Bool.rec (k (.tup [.b false]) h nx)
  (Prod.rec (fun c wd => h.setK a (.si b (Nat.add pos wd)) fun h => k (.tup [.b true, .i .i64 (.ofNat pos), .i .i32 c]) h nx) (Utf8.decode b pos)) (Nat.ble (Nat.succ pos) b.size)
def a_call (f : Nat) (xs : List Ev) : Ac := fun cf env h nx k => evs env xs fun vs => cf f vs h nx k
def fnN (fn : Fn) (k : Nat → Bool) : Bool := Fn.rec (fun f => k f) (fun _ => false) (fun _ _ => false) (fun _ _ _ _ => false) (fun _ => false) fn
def a_callv (x : Ev) (xs : List Ev) : Ac := fun cf env h nx k => (x env).onF fun fn fs cs => fnN fn fun f => evs env xs fun vs => cf f (fs ++ (vs ++ cs)) h nx k
def a_inv (tbl : List Tb) (x : Ev) (xs : List Ev) : Ac := fun cf env h nx k => (x env).onIf false fun t v => lookN t tbl fun f => evs env xs fun vs => cf f (v :: vs) h nx k

/-! what is done in a region, one behind the other -/
abbrev KE := Env → Hp → Ps → Bool
abbrev Run := CF → Env → Hp → Ps → KE → Bool
def dn : Dv := fun _ env k => k env
def uP (d : Dv) (p : Pv) : Run := fun _ env h nx k => p env fun v => d v env fun env => k env h nx
def uR (d : Dv) (r : Rd) : Run := fun _ env h nx k => r env h fun v => d v env fun env => k env h nx
def uM (d : Dv) (m : Mk) : Run := fun _ env h nx k => m env fun s l mk => newK h nx s l fun n h nx' => d (mk nx n) env fun env => k env h nx'
def uA (d : Dv) (a : Ac) : Run := fun cf env h nx k => a cf env h nx fun v h nx => d v env fun env => k env h nx
/-- under a guard -/
def gdK (x : Ev) (b : Bool) (env : Env) (ky kn : Bool) : Bool := AV.rec (motive_1 := fun _ => Bool) (motive_2 := fun _ => Bool) (fun c => Bool.rec kn ky (c == b)) (fun _ _ => kn) (fun _ => kn) (fun _ _ _ => kn) kn (fun _ _ _ _ _ => kn) (fun _ _ _ _ => kn) (fun _ => kn) kn (fun _ => kn) kn (fun _ _ _ _ _ => kn) kn (fun _ _ _ => kn) kn (fun _ _ => kn) (fun _ _ => kn) kn (fun _ _ _ _ => kn) (x env)
def uG (x : Ev) (b : Bool) (d : Dv) (r : Run) : Run := fun cf env h nx k => gdK x b env (r cf env h nx k) (d undA env fun env => k env h nx)

/-! regions that draw -/
def allE (f : AV → AV → Bool) (l l' : List AV) : Bool := List.rec (motive := fun _ => List AV → Bool) (fun l => List.rec true (fun _ _ _ => false) l) (fun x _ r l => List.rec false (fun y l _ => Bool.rec false (r l) (f x y)) l) l l'
def avEq (n : Nat) : AV → AV → Bool :=
  Nat.rec (fun _ _ => false) (fun _ ih a b =>
    match a, b with
    | .b a, .b b => a == b
    | .i j a, .i k b => kEq j k && ieq a b
    | .s a, .s b => decide (a = b)
    | .p a o e, .p b o' e' => a.beq b && Nat.beq o o' && Nat.beq e e'
    | .pn, .pn | .sn, .sn | .mn, .mn | .fz, .fz | .iz, .iz => true
    | .sl a s o n c, .sl a' s' o' n' c' => a.beq a' && Nat.beq s s' && Nat.beq o o' && Nat.beq n n' && Nat.beq c c'
    | .so a s o n, .so a' s' o' n' => a.beq a' && Nat.beq s s' && Nat.beq o o' && Nat.beq n n'
    | .se s, .se s' => Nat.beq s s'
    | .m a, .m b => a.beq b
    | .f fn fs cs, .f fn' fs' cs' => decide (fn = fn') && allE ih fs fs' && allE ih cs cs'
    | .ifc t v, .ifc t' v' => Nat.beq t t' && ih v v'
    | .agg l, .agg l' => allE ih l l'
    | .tup l, .tup l' => allE ih l l'
    | _, _ => false) n
structure Pd where
  n : Nat
  q : Hp → Bool
abbrev KD := List Pd → Env → Hp → Ps → Bool
abbrev DRun := CF → List Pd → Env → Hp → Ps → KD → Bool
/-- ask all again -/
def againK (h : Hp) (l : List Pd) (k : List Pd → Bool) : Bool :=
  List.rec (motive := fun _ => (List Pd → Bool) → Bool) (fun k => k [])
    (fun x _ ih k => Pd.rec (fun n q => Bool.rec false (Nat.rec (ih k) (fun m _ => ih fun r => k (⟨m, q⟩ :: r)) n) (q h)) x) l k
def mkHolds (a : Ps) (s : Nat) (l : List AV) (h : Hp) : Bool := hC h a fun s' sg n' t => lenL l fun n => Bool.rec false (ldK t (nat_lit 0) n fun l' => allE (avEq (nat_lit 4)) l l') (sg && (Nat.beq s s' && Nat.beq n n'))
def qR (rep : Nat) (d : Dv) (r : Rd) : DRun := fun _ pd env h nx k => r env h fun v => d v env fun env' => k (⟨rep, fun h => r env h fun v' => avEq (nat_lit 5) v v'⟩ :: pd) env' h nx
def qM (rep : Nat) (d : Dv) (m : Mk) : DRun := fun _ pd env h nx k => m env fun s l mk => newK h nx s l fun n h nx' => d (mk nx n) env fun env => k (⟨rep, mkHolds nx s l⟩ :: pd) env h nx'
/-- nothing to be asked again -/
def q0 (r : Run) : DRun := fun cf pd env h nx k => r cf env h nx fun env h nx => k pd env h nx
/-- an act -/
def qA (r : Run) : DRun := fun cf pd env h nx k => againK h pd fun pd => r cf env h nx fun env h nx' => Bool.rec false (k pd env h nx') (Nat.ble (pN nx) (pN nx'))
def qG (x : Ev) (b : Bool) (d : Dv) (r : DRun) : DRun := fun cf pd env h nx k => gdK x b env (r cf pd env h nx k) (d undA env fun env => k pd env h nx)

inductive IC
  | skip
  | ops (l : List Run)
  | draw (l : List DRun)
  | seq (a b : IC)
  | cond (c : Ev) (t e : IC)
  | block (id : Nat) (b : IC)
  | loop (b : IC)
  | exit (id : Nat)
  | ret
inductive X | nrm | exit (id : Nat) | ret
def opsK (cf : CF) (l : List Run) (env : Env) (h : Hp) (nx : Ps) (k : KE) : Bool :=
  List.rec (motive := fun _ => Env → Hp → Ps → Bool) (fun env h nx => k env h nx)
    (fun x _ ih env h nx => x cf env h nx ih) l env h nx
def drawK (cf : CF) (l : List DRun) (env : Env) (h : Hp) (nx : Ps) (k : KE) : Bool :=
  List.rec (motive := fun _ => List Pd → Env → Hp → Ps → Bool) (fun pd env h nx => againK h pd fun _ => k env h nx)
    (fun x _ ih pd env h nx => x cf pd env h nx ih) l [] env h nx
def icK (cf : CF) (lf : Nat) (c : IC) (env : Env) (h : Hp) (nx : Ps) (k : X → KE) : Bool :=
  IC.rec (motive := fun _ => Env → Hp → Ps → (X → KE) → Bool)
    (fun env h nx k => k .nrm env h nx)
    (fun l env h nx k => opsK cf l env h nx (k .nrm))
    (fun l env h nx k => drawK cf l env h nx (k .nrm))
    (fun _ _ iha ihb env h nx k => iha env h nx fun x env h nx => X.rec (ihb env h nx k) (fun id => k (.exit id) env h nx) (k .ret env h nx) x)
    (fun c _ _ iht ihe env h nx k => (c env).onB fun c => Bool.rec (ihe env h nx k) (iht env h nx k) c)
    (fun id _ ih env h nx k => ih env h nx fun x env h nx => X.rec (k .nrm env h nx) (fun j => Bool.rec (k (.exit j) env h nx) (k .nrm env h nx) (Nat.beq j id)) (k .ret env h nx) x)
    (fun _ ih env h nx k => Nat.rec (motive := fun _ => Env → Hp → Ps → Bool) (fun _ _ _ => false) (fun _ again env h nx => ih env h nx fun x env h nx => X.rec (again env h nx) (fun id => k (.exit id) env h nx) (k .ret env h nx) x) lf env h nx)
    (fun id env h nx k => k (.exit id) env h nx)
    (fun env h nx k => k .ret env h nx) c env h nx k
/-- functions that are taken by a contract -/
abbrev Xf := CF → List AV → Hp → Ps → KV → Bool
inductive FE
  | code (np : List Dv) (body : IC) (res : List Rd)
  | ext (e : Xf)
def bindK (ds : List Dv) (vs : List AV) (env : Env) (k : Env → Bool) : Bool :=
  List.rec (motive := fun _ => List AV → Env → Bool) (fun vs env => List.rec (k env) (fun _ _ _ => false) vs)
    (fun d _ ih vs env => List.rec false (fun v vs _ => d v env fun env => ih vs env) vs) ds vs env
def resK (l : List Rd) (env : Env) (h : Hp) (k : List AV → Bool) : Bool :=
  List.rec (motive := fun _ => (List AV → Bool) → Bool) (fun k => k []) (fun r _ ih k => r env h fun v => ih fun vs => k (v :: vs)) l k
def r_t (x : Ev) : Rd := fun env _ k => k (x env)
def resV (rs : List AV) : AV := List.rec undA (fun v l _ => List.rec v (fun _ _ _ => .tup (v :: l)) l) rs
def env4 : N4 AV := ⟨undA, undA, undA, undA⟩
def env8 : N8 (N4 AV) := ⟨env4, env4, env4, env4, env4, env4, env4, env4⟩
def env0 : Env := ⟨env8, env8, env8, env8, env8, env8, env8, env8⟩
def callK (P : T FE) (lf n : Nat) : CF :=
  Nat.rec (fun _ _ _ _ _ => false) (fun _ ih f vs h nx k =>
    Option.rec false (fun fe => FE.rec
      (fun np body res => bindK np vs env0 fun env => icK ih lf body env h nx fun x env h nx =>
        X.rec (resK res env h fun rs => k (resV rs) h nx) (fun _ => false) (resK res env h fun rs => k (resV rs) h nx) x)
      (fun e => e ih vs h nx k) fe) (P.getN f)) n
section
variable {α : Type}
/-- put at a number, wherever -/
def T.setP (t : T α) (n : Nat) (v : α) (k : T α → Bool) : Bool :=
  Nat.rec (motive := fun _ => Nat → T α → (T α → Bool) → Bool) (fun _ _ _ => false)
    (fun _ ih n t k =>
      Bool.rec
        (Bool.rec (T.rec (ih (Nat.sub (Nat.div n (nat_lit 2)) (nat_lit 1)) .e fun r => k (.n .e none r)) (fun l x r _ _ => ih (Nat.sub (Nat.div n (nat_lit 2)) (nat_lit 1)) r fun r => k (.n l x r)) t)
          (T.rec (ih (Nat.div n (nat_lit 2)) .e fun l => k (.n l none .e)) (fun l x r _ _ => ih (Nat.div n (nat_lit 2)) l fun l => k (.n l x r)) t)
          (Nat.beq (Nat.mod n (nat_lit 2)) (nat_lit 1)))
        (T.rec (k (.n .e (some v) .e)) (fun l _ r _ _ => k (.n l (some v) r)) t) (Nat.beq n (nat_lit 0))) 64 n t k
structure Fe where
  n : Nat
  f : FE
def codesK (l : List Fe) (k : T FE → Bool) : Bool :=
  List.rec (motive := fun _ => T FE → (T FE → Bool) → Bool) (fun t k => k t) (fun x _ ih t k => Fe.rec (fun n f => t.setP n f fun t => ih t k) x) l .e k
end
/-! functions without a Go text, and such as are told -/
def x_load (j : IntKind) : Xf := fun _ vs h nx k => headK vs fun v => v.onP fun a o e => hC h a fun _ _ _ t => Option.rec false (fun v => v.onI fun j' n => Bool.rec false (k (.i j' n) h nx) (kEq j j' && Nat.ble (nat_lit 1) e)) (t.getN o)
def x_add (j : IntKind) : Xf := fun _ vs h nx k => headK vs fun v => headK (dropN 1 vs) fun y => y.onI fun _ y => v.onP fun a o e => hC h a fun s sg m t => Option.rec false (fun v => v.onI fun j' n => Bool.rec false (fI (wr j (Int.add n y)) fun z => t.setN o (.i j z) fun t => h.setK a (.c s true m t) fun h => k (.i j z) h nx) (sg && (kEq j j' && Nat.ble (nat_lit 1) e))) (t.getN o)
def x_cas (j : IntKind) : Xf := fun _ vs h nx k => headK vs fun v => headK (dropN 1 vs) fun y => headK (dropN 2 vs) fun z => y.onI fun _ y => z.onI fun jz z => v.onP fun a o e => hC h a fun s sg m t => Option.rec false (fun v => v.onI fun j' n => Bool.rec false (Bool.rec (k (.b false) h nx) (t.setN o (.i jz z) fun t => h.setK a (.c s true m t) fun h => k (.b true) h nx) (ieq n y)) (sg && (kEq j j' && Nat.ble (nat_lit 1) e))) (t.getN o)
def tzN (n : Nat) : Nat := Nat.rec (motive := fun _ => Nat → Nat) (fun _ => 64) (fun _ ih n => Bool.rec (Nat.succ (ih (Nat.div n (nat_lit 2)))) (nat_lit 0) (Nat.beq (Nat.mod n (nat_lit 2)) (nat_lit 1))) 64 n
def x_tz : Xf := fun _ vs h nx k => headK vs fun v => v.onN fun n => Bool.rec false (fN (tzN n) fun r => k (.i .i64 (.ofNat r)) h nx) (Nat.ble (nat_lit 1) n && Nat.ble n (nat_lit 18446744073709551615))
def x_ln : Xf := fun _ vs h nx k => headK vs fun v => v.onN fun n => Bool.rec false (fN (Nat.succ (Nat.log2 n)) fun r => k (.i .i64 (.ofNat r)) h nx) (Nat.ble (nat_lit 1) n && Nat.ble n (nat_lit 18446744073709551615))
end Go.Proofs.YtfiambjmphjjgaaGreatDoor.Ms
