/- Part of a proof: a checked evaluator of the program (the evaluator: numbers, values, operations). No condition. -/
import Derived.Test.YtfiambjmphjjgaaGreatDoorMsEnv
import GoSem.Instr.TypeAssert
namespace Go.Proofs.YtfiambjmphjjgaaGreatDoor.Ms
set_option linter.unusedVariables false
set_option linter.unusedSimpArgs false
inductive O | t (n : Nat) | c (v : AV)
inductive Ar | add | sub | mul | and | or | andn | quo | rem | shl | shr
inductive Cm | eq | ne | lt | le | gt | ge
inductive Nl | p | s | f | i
/-- how a map's key is made -/
inductive Kk | i | s | g (n : Nat)
inductive DP
  | mv (x : O) | pick (c a b : O) | bld (z : List AV) (ps : List (Nat × Nat × O)) | nc (tbl : List Ts) (x : O)
  | ar (a : Ar) (x y : O) | cm (a : Cm) (x y : O) | eqb (ng : Bool) (x y : O) | eqst (ng : Bool) (x y : O) | nil (a : Nl) (ng : Bool) (x : O) | no (x : O) | neg (x : O)
  | cv (k : IntKind) (x : O) | mi (t : Nat) (x : O) | mf (fn : Fn) (fs cs : List O) | fa (off sz : Nat) (x : O) | fld (off : Nat) (x : O) | flds (off n : Nat) (x : O)
  | ixs (s : Nat) (x i : O) | ixa (len s : Nat) (x i : O) | ixv (len : Nat) (x i : O) | ta (yes no : List Nat) (x : O) | ext (i : Nat) (x : O) | len (x : O) | lens (x : O) | max (x y : O) | min (x y : O)
  | slc (s : Nat) (x : O) (lo hi mx : Option O) | sx (x i : O) | bad
inductive DR | ld (x : O) | ldn (n : Nat) (x : O) | b2s (x : O) | lk (ok : Bool) (ky : Kk) (z : AV) (x y : O) | ml (x : O) | up (x : O)
inductive DM | al (s : Nat) (z : List AV) | bx (s : Nat) (x : O) | bsl (s len : Nat) (z : List AV) (ps : List (Nat × Nat × O)) | mks (s : Nat) (z : List AV) (l c : O)
inductive DA
  | st (x v : O) | stn (n : Nat) (x v : O) | mkb (x : O) | app (s : Nat) (x y : O) | mkm | mu (ky : Kk) (x y v : O) | del (ky : Kk) (x y : O) | rgs (x : O) | nxs (x : O)
  | call (f : Nat) (xs : List O) | callv (x : O) (xs : List O) | inv (tbl : List Tb) (x : O) (xs : List O)
inductive DOp | p (x : DP) | r (x : DR) | m (x : DM) | a (x : DA)
structure DIo where
  g : Option (Nat × Bool)
  d : Option Nat
  op : DOp
structure DDI where
  io : DIo
  j : Nat
  rep : Nat
inductive DC
  | skip
  | ops (l : List DIo)
  | draw (l : List DDI)
  | seq (a b : DC)
  | cond (c : O) (t e : DC)
  | block (id : Nat) (b : DC)
  | loop (b : DC)
  | exit (id : Nat)
  | ret
inductive DV | t (n : Nat) | c (n : Nat) (k : Option Nat)
structure DF where
  np : Nat
  body : DC
  res : List DV

def cvF : Value → Option AV
  | .bool b => some (.b b) | .int k n => some (.i k n) | .string s => some (.s s)
  | .pointer none => some .pn | .slice none 0 0 => some .sn | .map none => some .mn | .nilFunc => some .fz | .nilIface => some .iz
  | _ => none
def cvV : Value → Option AV
  | .agg cs => (cs.toList.mapM cvF).map .agg
  | v => cvF v
section
variable (P : Program) (cands : List Nat) (mnames : List String) (N : Nat)
def trO : Operand → Option O
  | .tmp t => if t < 256 then some (.t t) else none
  | .const v => (cvV v).map .c
  | .func f => some (.c (.f (.func f) [] []))
  | .global _ => none
def szT (t : TypeId) : Option Nat := (P.info? t).map (·.size)
def aggD : TypeDesc → Bool | .struct _ | .array .. => true | _ => false
def aggT (t : TypeId) : Option Bool := (P.underlying t).map aggD
def zeroT (t : TypeId) : Option (List AV) := do
  let i ← P.info? t
  let z ← i.zero
  let l ← z.cells.toList.mapM cvF
  if l.length = i.size then some l else none
def trParts (place : Nat → Option (Nat × Nat)) (ps : List (Nat × Operand)) : Option (List (Nat × Nat × O)) :=
  ps.mapM fun p => do
    let q ← place p.1
    let x ← trO p.2
    if q.2 = 0 then none else some (q.1, q.2, x)
/-- does a type have all methods -/
def missB (want : Array (String × TypeId)) (got : Array Method) : Bool := (want.toList.filter fun x => !got.any fun m => m.name == x.1 && m.sig == x.2).isEmpty
def okMethod (name : String) (t : Nat) : Option Tb := do
  let i ← P.info? t
  let m ← i.methods.find? (·.name == name)
  if !m.path.isEmpty then none else
  let f ← m.func
  if !f.2 then none else
  match P.underlying t with
  | some (.pointer _) => some ⟨t, f.1⟩
  | _ => none
def okAhead (name : String) (t : Nat) : Bool := match P.info? t with
  | some i => match i.methods.find? (·.name == name) with
    | some m => m.path.isEmpty && (match m.func with | some (_, true) => true | _ => false)
    | none => false
  | none => false
def arOf : BinOp → Option Ar
  | .add => some .add | .sub => some .sub | .mul => some .mul | .quo => some .quo | .rem => some .rem | .and => some .and | .or => some .or | .andNot => some .andn | .shl => some .shl | .shr => some .shr
  | _ => none
def cmOf : BinOp → Option Cm
  | .eql => some .eq | .neq => some .ne | .lss => some .lt | .leq => some .le | .gtr => some .gt | .geq => some .ge
  | _ => none
def ngOf : BinOp → Option Bool
  | .eql => some false | .neq => some true | _ => none
/-- one side is nil: the other -/
def nilSide (z : Value → Bool) (x y : Operand) : Option O :=
  match x, y with
  | x, .const v => if z v then trO x else none
  | .const v, y => if z v then trO y else none
  | _, _ => none
def zP : Value → Bool | .pointer none => true | _ => false
def zS : Value → Bool | .slice none _ _ => true | _ => false
def zF : Value → Bool | .nilFunc => true | _ => false
def zI : Value → Bool | .nilIface => true | _ => false
def trBin (op : BinOp) (t : TypeId) (x y : Operand) : Option DP :=
  match P.underlying t with
  | some (.int _) =>
    match arOf op, cmOf op with
    | some a, _ => do some (.ar a (← trO x) (← trO y))
    | _, some c => do some (.cm c (← trO x) (← trO y))
    | _, _ => none
  | some .bool => do some (.eqb (← ngOf op) (← trO x) (← trO y))
  | some .string => do some (.eqst (← ngOf op) (← trO x) (← trO y))
  | some (.pointer _) => do some (.nil .p (← ngOf op) (← nilSide zP x y))
  | some (.slice _) => do some (.nil .s (← ngOf op) (← nilSide zS x y))
  | some (.func ..) => do some (.nil .f (← ngOf op) (← nilSide zF x y))
  | some (.interface _) => do some (.nil .i (← ngOf op) (← nilSide zI x y))
  | _ => none
def trOpt (x : Option Operand) : Option (Option O) := match x with | none => some none | some x => (trO x).map some
def tb256 : List Ts := mnames.flatMap fun s => (cands.filter (okAhead P s)).map fun t => ⟨s, t⟩
/-- a type that may be a map's key -/
def kkT (t : TypeId) : Option Kk :=
  match P.underlying t with
  | some (.int _) => some .i
  | some .string => some .s
  | some (.struct fs) => do
    let n ← szT P t
    if fs.all fun f => match P.underlying f.type with | some (.int _) | some .bool => szT P f.type == some 1 && f.offset < n | _ => false then some (.g n) else none
  | _ => none
def trP (op : Op) : Option DP :=
  match op with
  | .move x | .assign x => (trO x).map .mv
  | .pick c a b => do some (.pick (← trO c) (← trO a) (← trO b))
  | .build t ps => do
    let z ← zeroT P t
    match P.underlying t with
    | some (.struct fs) => do
      let places ← fs.toList.mapM fun f => (P.info? f.type).map fun i => (f.offset, i.size)
      (trParts (fun i => places.toArray[i]?) ps.toList).map (.bld z)
    | some (.array _ e) => do
      let ie ← P.info? e
      (trParts (fun i => some (i * ie.size, ie.size)) ps.toList).map (.bld z)
    | _ => none
  | .binOp op t x y _ => trBin P op t x y
  | .unOp .not _ x => (trO x).map .no
  | .unOp .neg t x => match P.underlying t with | some (.int _) => (trO x).map .neg | _ => none
  | .convert a b x =>
    match P.underlying a, P.underlying b with
    | some (.int _), some (.int k) => (trO x).map (.cv k)
    | _, _ => none
  | .makeInterface t x => match P.underlying t with | some (.interface _) | none => none | _ => (trO x).map (.mi t)
  | .makeFunc fn fs cs => do some (.mf fn (← fs.toList.mapM trO) (← cs.toList.mapM trO))
  | .slice t x lo hi mx => match P.underlying t with
    | some (.slice e) => do
      let s ← szT P e
      if s = 0 || (hi.isNone && mx.isSome) then none else some (.slc s (← trO x) (← trOpt lo) (← trOpt hi) (← trOpt mx))
    | _ => none
  | .fieldAddr t x f => match P.underlying t with
    | some (.struct fs) => do
      let f ← fs[f]?
      let s ← szT P f.type
      if s = 0 then none else some (.fa f.offset s (← trO x))
    | _ => none
  | .field t x f => match P.underlying t with
    | some (.struct fs) => do
      let f ← fs[f]?
      let s ← szT P f.type
      let x ← trO x
      let b ← aggT P f.type
      some (if b then .flds f.offset s x else .fld f.offset x)
    | _ => none
  | .indexAddr t x i => match P.underlying t with
    | some (.slice e) => do
      let s ← szT P e
      if s = 0 then none else some (.ixs s (← trO x) (← trO i))
    | some (.array n e) => do
      let s ← szT P e
      if s = 0 then none else some (.ixa n s (← trO x) (← trO i))
    | _ => none
  | .index t x i => match P.underlying t with
    | some (.array n e) => if szT P e = some 1 && aggT P e = some false then do some (.ixv n (← trO x) (← trO i)) else none
    | some .string => do some (.sx (← trO x) (← trO i))
    | _ => none
  | .typeAssert x _ b true => match P.underlying b with
    | some (.interface want) =>
      if (((P.info? b).bind (·.zero)).map zI) == some true then do
      let yes := cands.filter fun t => ((P.info? t).map fun i => missB want i.methods) == some true
      let no := cands.filter fun t => ((P.info? t).map fun i => missB want i.methods) == some false
      some (.ta yes no (← trO x)) else none
    | _ => none
  | .extract t i => (trO t).map (.ext i)
  | .nilCheck x => (trO x).map (.nc (tb256 P cands mnames))
  | .call c =>
    match c.callee with
    | .builtin .len => match c.args.toList, (c.argTypes[0]?).bind P.underlying with
      | [x], some (.slice _) => (trO x).map .len
      | [x], some .string => (trO x).map .lens
      | _, _ => none
    | .builtin .max => match c.args.toList with | [x, y] => do some (.max (← trO x) (← trO y)) | _ => none
    | .builtin .min => match c.args.toList with | [x, y] => do some (.min (← trO x) (← trO y)) | _ => none
    | _ => none
  | _ => none
def trR (op : Op) : Option DR :=
  match op with
  | .load t a => do
    let s ← szT P t
    let a ← trO a
    let b ← aggT P t
    some (if b then .ldn s a else .ld a)
  | .convert a b x =>
    match P.underlying a, P.underlying b with
    | some (.slice e), some .string => match P.underlying e with | some (.int .u8) => if szT P e = some 1 then (trO x).map .b2s else none | _ => none
    | some (.pointer t), some .unsafePointer => if (P.info? t).map (fun i => decide (i.size = 0)) = some false then (trO x).map .up else none
    | _, _ => none
  | .lookup t x y ok => match P.underlying t with
    | some (.map k e) => do
      let z ← ((P.info? e).bind (·.zero)).bind cvF
      some (.lk ok (← kkT P k) z (← trO x) (← trO y))
    | _ => none
  | .call c =>
    match c.callee with
    | .builtin .len => match c.args.toList, (c.argTypes[0]?).bind P.underlying with
      | [x], some (.map ..) => (trO x).map .ml
      | _, _ => none
    | _ => none
  | _ => none
def trM (op : Op) : Option DM :=
  match op with
  | .alloc e => do some (.al (← szT P e) (← zeroT P e))
  | .box e v => do
    let s ← szT P e
    if s = 0 then none else some (.bx s (← trO v))
  | .buildSlice t len ps =>
    match P.underlying t with
    | some (.slice e) => do
      let s ← szT P e
      if len * s > 1000 || s = 0 then none else
      some (.bsl s len (← zeroT P e) (← trParts (fun i => some (i * s, s)) ps.toList))
    | _ => none
  | .makeSlice t l c => match P.underlying t with
    | some (.slice e) => do
      let i ← P.info? e
      if i.bytes > 1000000 || i.size = 0 then none else some (.mks i.size (← zeroT P e) (← trO l) (← trO c))
    | _ => none
  | _ => none
def trA (op : Op) : Option DA :=
  match op with
  | .store t a v => do
    let s ← szT P t
    let a ← trO a
    let v ← trO v
    let b ← aggT P t
    if b then some (.stn s a v) else if s = 1 then some (.st a v) else none
  | .convert a b x =>
    match P.underlying a, P.underlying b with
    | some (.slice _), some (.slice e) => match P.underlying e with | some (.int .u8) => if a == b then (trO x).map .mkb else none | _ => none
    | _, _ => none
  | .makeMap t none => match P.underlying t with | some (.map ..) => some .mkm | _ => none
  | .mapUpdate t m k v => match P.underlying t with
    | some (.map kt _) => do some (.mu (← kkT P kt) (← trO m) (← trO k) (← trO v))
    | _ => none
  | .range t x => match P.underlying t with
    | some .string => (trO x).map .rgs
    | _ => none
  | .next x true => (trO x).map .nxs
  | .call c =>
    match c.callee with
    | .value (.func f) => do some (.call f (← c.args.toList.mapM trO))
    | .value x => do some (.callv (← trO x) (← c.args.toList.mapM trO))
    | .invoke r name => do some (.inv (cands.filterMap (okMethod P name)) (← trO r) (← c.args.toList.mapM trO))
    | .builtin .delete => match c.args.toList, (c.argTypes[0]?).bind P.underlying with
      | [x, y], some (.map k _) => do some (.del (← kkT P k) (← trO x) (← trO y))
      | _, _ => none
    | .builtin .append => match c.args.toList, c.argTypes.toList with
      | [x, y], [t, u] => match P.underlying t, P.underlying u with
        | some (.slice e), some (.slice _) => do
          let i ← P.info? e
          let z ← zeroT P e
          if i.bytes > 1000000 || i.size = 0 || i.bytes = 0 || z.length = 0 then none else some (.app i.size (← trO x) (← trO y))
        | _, _ => none
      | _, _ => none
    | _ => none
  | _ => none
def trOp (op : Op) : Option DOp :=
  match trP P cands mnames op with
  | some x => some (.p x)
  | none => match trR P op with
    | some x => some (.r x)
    | none => match trM P op with
      | some x => some (.m x)
      | none => match trA P cands op with
        | some x => some (.a x)
        | none => some (.p .bad)
def trD (d : Option Tmp) : Option (Option Nat) := match d with | none => some none | some t => if t < N ∧ t < 256 then some (some t) else none
def trG (ops : Array Oper) (g : Option (Nat × Bool)) : Option (Option (Nat × Bool)) :=
  match g with
  | none => some none
  | some (j, b) => do
    let t ← (ops[j]?).bind (·.dst)
    if t < 256 then some (some (t, b)) else none
def trIo (ops : Array Oper) (o : Oper) : Option DIo := do
  let op ← trOp P cands mnames o.op
  let d ← trD N o.dst
  let g ← trG ops o.guard
  some ⟨g, d, op⟩
def DOp.act : DOp → Bool | .a _ => true | _ => false
def DOp.pend : DOp → Bool | .r _ | .m _ => true | _ => false
/-- as early as can be: what only reads ahead of what acts -/
def asapGo (bf : Array Nat) (act : Array Bool) : Nat → Nat → List Nat → List Nat
  | 0, _, acc => acc.reverse
  | n + 1, done, acc =>
    let rdy (i : Nat) : Bool := !done.testBit i && (bf.getD i 0) &&& done == bf.getD i 0
    match (List.range bf.size).find? (fun i => rdy i && !act.getD i true) with
    | some i => asapGo bf act n (done ||| 2 ^ i) (i :: acc)
    | none => match (List.range bf.size).find? rdy with
      | some i => asapGo bf act n (done ||| 2 ^ i) (i :: acc)
      | none => acc.reverse
/-- the temporaries that an operation names -/
def namesOf (ops : Array Oper) (o : Oper) : List Tmp :=
  o.dst.toList ++ (o.op.operands.toList.filterMap fun | .tmp t => some t | _ => none) ++ (match o.guard with | some (j, _) => ((ops[j]?).bind (·.dst)).toList | none => [])
def repOf (bf : Array Nat) (acts : List Nat) (j : Nat) : Nat := (acts.filter fun a => !(bf.getD a 0).testBit j && !(bf.getD j 0).testBit a).length
/-- a step, as the order sees it -/
structure Sk where
  ix : Nat
  st : Nat
  dst : Option Nat
  names : List Nat
  act : Bool
  tied : Bool
  rep : Nat
def skNm (ops : Array Oper) (j : Nat) : List Nat := match ops[j]? with | none => [] | some o => namesOf ops o
def skDst (ops : Array Oper) (j : Nat) : Option Nat := (ops[j]?).bind (·.dst)
def skOf (ops : Array Oper) : Nat → List DDI → List Sk
  | _, [] => []
  | st, x :: l => ⟨x.j, st, skDst ops x.j, skNm ops x.j, x.io.op.act, x.io.op.act || x.io.op.pend, x.rep⟩ :: skOf ops (st + if x.io.op.act then 1 else 0) l
def bB (bf : Array Nat) (j i : Nat) : Bool := (bf.getD i 0).testBit j
def ndB : List Nat → Bool
  | [] => true
  | x :: l => (l.all fun y => !(x == y)) && ndB l
def canonB (bf : Array Nat) : List Sk → Bool
  | [] => true
  | r :: l => ((r :: l).all fun x => !bB bf x.ix r.ix) && canonB bf l
def maskOk (ops : Array Oper) (bf : Array Nat) : Bool :=
  (List.range ops.size).all fun i => match ops[i]? with
    | none => false
    | some oi => decide (bf.getD i 0 < 2 ^ ops.size) && (oi.after.all fun e => !Region.binds .any e || (bB bf e.on i && decide (e.on < ops.size))) &&
      (List.range ops.size).all fun j => !bB bf j i || oi.after.any fun e => Region.binds .any e && (e.on == j || bB bf j e.on)
def tmpB (bf : Array Nat) (sk : List Sk) : Bool :=
  sk.all fun x => match x.dst with
    | none => true
    | some t => x.names.contains t && sk.all fun r => !r.names.contains t || x.ix == r.ix || bB bf x.ix r.ix || bB bf r.ix x.ix
def actsB (bf : Array Nat) (sk : List Sk) : Bool :=
  (sk.filter (·.act)).all fun y => y.tied && y.rep == 0 && sk.all fun x => (!decide (y.st < x.st) || bB bf y.ix x.ix) && (!x.tied || !decide (x.st + x.rep ≤ y.st) || x.ix == y.ix || bB bf x.ix y.ix)
/-- the order: each once, behind all that it must stand behind; the acts stand one behind the other -/
def ordChk (ops : Array Oper) (bf : Array Nat) (sk : List Sk) : Bool :=
  ((List.range ops.size).all fun j => sk.any fun x => x.ix == j) && (sk.all fun x => decide (x.ix < ops.size)) && ndB (sk.map (·.ix)) && canonB bf sk && maskOk ops bf && tmpB bf sk && actsB bf sk
def trDraw (ops : Array Oper) : Option (List DDI) := do
  let ios ← ops.toList.mapM (trIo P cands mnames N ops)
  let act := (ios.map fun x => x.op.act).toArray
  let bf := Region.before ops
  let ord := asapGo bf act ops.size 0 []
  let acts := (List.range ops.size).filter fun i => act.getD i false
  let ds ← ord.mapM fun j => do
    let o ← ops[j]?
    let io ← trIo P cands mnames N ops o
    some ⟨io, j, if io.op.pend then repOf bf acts j else 0⟩
  if ordChk ops bf (skOf ops 0 ds) then some ds else none
def trC : Code → Option DC
  | .skip => some .skip
  | .label _ => some .skip
  | .region _ ops false => (ops.toList.mapM (trIo P cands mnames N ops)).map .ops
  | .region _ ops true => (trDraw P cands mnames N ops).map .draw
  | .seq a b => do some (.seq (← trC a) (← trC b))
  | .cond c a b => do some (.cond (← trO c) (← trC a) (← trC b))
  | .block i b => do some (.block i (← trC b))
  | .loop b => do some (.loop (← trC b))
  | .scope b => trC b
  | .exit i => some (.exit i)
  | .ret => some .ret
  | _ => none
def trV : ResultVar → Option DV
  | .tmp t => if t < 256 then some (.t t) else none
  | .cell a t => do
    let s ← szT P t
    let b ← aggT P t
    if a < 256 then some (.c a (if b then some s else none)) else none
end
def trF (P : Program) (cands : List Nat) (mnames : List String) (fn : Func) : Option DF := do
  let b ← fn.body
  if 256 < fn.params.size + fn.nfree then none else
  some ⟨fn.params.size + fn.nfree, ← trC P cands mnames fn.ntmps b, ← fn.results.toList.mapM (trV P)⟩
end Go.Proofs.YtfiambjmphjjgaaGreatDoor.Ms
