/- A run of the model in a pattern's world, reckoned by the kernel: worlds as trees, frames, steps. -/
import Derived.Test.YtnnppmcbgfadpaaGreatDoorSimG
namespace Go.Proofs.YtnnppmcbgfadpaaGreatDoor
inductive Tr where
  | e
  | n (o : Option Obj) (l r : Tr)
def Tr.get : Tr → Nat → Option Obj
  | .e, _ => none
  | .n o l r, k => if k = 0 then o else if k % 2 = 0 then r.get ((k - 1) / 2) else l.get ((k - 1) / 2)
def Tr.set : Nat → Tr → Nat → Obj → Tr
  | 0, t, _, _ => t
  | f + 1, .e, k, x => if k = 0 then .n (some x) .e .e else if k % 2 = 0 then .n none .e (Tr.set f .e ((k - 1) / 2) x) else .n none (Tr.set f .e ((k - 1) / 2) x) .e
  | f + 1, .n o l r, k, x => if k = 0 then .n (some x) l r else if k % 2 = 0 then .n o l (Tr.set f r ((k - 1) / 2) x) else .n o (Tr.set f l ((k - 1) / 2) x) r
/-- A block that nobody may look at any more. -/
def dead : Obj := .cells #[] 0 (1, 0)
structure PW where
  size : Nat
  t : Tr
def PW.get (w : PW) (i : Nat) : Option Obj := if i < w.size then some ((w.t.get i).getD dead) else none
def PW.set (w : PW) (i : Nat) (o : Obj) : PW := ⟨w.size, w.t.set 24 i o⟩
def PW.push (w : PW) (o : Obj) : PW := ⟨w.size + 1, w.t.set 24 w.size o⟩
def PW.cell (w : PW) (a : Addr) : Option Value :=
  match w.get a.block with
  | some (.cells c _ _) => if a.spot.isSome then none else c[a.off]?
  | _ => none
def PW.shape (w : PW) (r : Nat) : Option (TypeId × Nat) :=
  match w.get r with
  | some (.cells c elem _) => some (elem, c.size)
  | _ => none
def PW.frozen (w : PW) (a : Addr) : Bool :=
  match w.get a.block with
  | some (.cells _ _ (lo, hi)) => lo ≤ a.off && a.off < hi
  | _ => false
def oneCell : Value → Bool
  | .agg _ | .tuple _ => false
  | _ => true
def setRow (w : PW) (a : Addr) (v : Value) : PW :=
  match w.get a.block with
  | some (.cells c elem fz) => w.set a.block (.cells (c.setIfInBounds a.off v) elem fz)
  | _ => w
def runP (P : Program) {α : Type} : Sem α → PW → Option (α × PW)
  | .pure a, w => some (a, w)
  | .load _ a k, w => match w.cell a with
    | some v => runP P (k v) w
    | none => none
  | .store _ a v k, w =>
    if oneCell v && (w.cell a).isSome && !w.frozen a then runP P k (setRow w a v) else none
  | .new o k, w => if w.size < 16000000 then runP P (k w.size) (w.push o) else none
  | .shape r k, w => runP P (k (w.shape r)) w
  | .freeze _ _ _, _ => none
  | .frozen a k, w => runP P (k (w.frozen a)) w
  | .getObj r k, w => match w.get r with
    | some (.cells ..) => none
    | some o => runP P (k o) w
    | none => none
  | .setObj r o k, w => match w.get r with
    | some (.cells ..) => none
    | some _ => runP P k (w.set r o)
    | none => none
  | .choose q k, w => if q.forced then runP P (k 0) w else none
  | .sys _ _, _ => none
  | .program k, w => runP P (k P) w
  | .mark _ k, w => runP P k w
  | .halt _, _ => none
/-- The pattern of append: a new row, the old one given up. -/
def appRow (w : PW) (base : Option Addr) (n c z : Nat) (e : TypeId) (new : Array Value) : Option PW :=
  match base with
  | none => if n = 0 ∧ c = 0 then some (w.push (.cells new e)) else none
  | some a => match w.get a.block with
    | some (.cells row e' fz) =>
      if n = 0 ∧ c = 0 then
        if row.size = 0 ∧ fz = (0, 0) ∧ a.spot = none then some (w.push (.cells new e)) else none
      else if a.spot = none ∧ a.off = 0 ∧ e' = e ∧ fz = (0, 0) ∧ 0 < row.size ∧ row.size = n * z ∧ n = c then
        some ((w.set a.block dead).push (.cells (row ++ new) e))
      else none
    | _ => none
def appTypes (P : Program) (ts : Array TypeId) : Option (TypeId × TypeInfo) :=
  match (ts[0]? : Option TypeId), (ts[1]? : Option TypeId) with
  | some t, some xt => match P.underlying t, P.underlying xt with
    | some (.slice e), some xd => if (xd matches .int _) then none else (P.info? e).map fun i => (e, i)
    | _, _ => none
  | _, _ => none
def zeroFits (i : TypeInfo) : Bool := match i.zero with
  | some v => v.cells.size == i.size
  | none => false
def patAppend (P : Program) (ts : Array TypeId) (args : Array Value) (w : PW) : Option (Value × PW) :=
  match args.toList with
  | [.slice base n c, x] =>
    match appTypes P ts, runP P (Builtin.lenOf x) w with
    | some (e, i), some (m, _) =>
      if m = 0 then some (.slice base n c, w) else
      match runP P (Builtin.firstCells i.size m x) w with
      | some (new, _) =>
        if zeroFits i = true ∧ i.size ≠ 0 ∧ new.size = m * i.size ∧ new.toList.all oneCell = true ∧ n + m ≤ 2 ^ 30 ∧ (n + m) * i.bytes ≤ 2 ^ 30 ∧ w.size < 16000000 then
          match appRow w base n c i.size e new with
          | some w' => some (.slice (some ⟨w.size, 0, none⟩) (n + m) (n + m), w')
          | none => none
        else none
      | none => none
    | _, _ => none
  | _ => none
/-- The pattern of unsafe.String: the row is read alone from now on. -/
def patString (P : Program) (ts : Array TypeId) (args : Array Value) (w : PW) : Option (Value × PW) :=
  match args.toList, ts.toList with
  | [.pointer p, .int .i64 n], [t, _] =>
    if n = 0 then some (.string .empty, w) else
    match p, P.underlying t with
    | some a, some (.pointer u) => match w.get a.block with
      | some (.cells row e fz) =>
        if a.spot = none ∧ a.off = 0 ∧ fz = (0, 0) ∧ Int.ofNat row.size = n ∧ row.size ≤ 2 ^ 40 ∧ liesAt P P.depth e (row.size / P.cellsOf e) 0 u row.size = true then
          match runP P (loadBytes a .empty row.size) w with
          | some (s, _) => some (.string s, w.set a.block (.cells row e (0, row.size)))
          | none => none
        else none
      | _ => none
    | _, _ => none
  | _, _ => none
def okArg : Operand → Bool
  | .tmp _ | .func _ => true
  | .const v => plainV 3 v
  | .global _ => false
/-- A run that looks at the program alone, and hands back what is plain. -/
def pQuick (P : Program) (m : Sem Value) (w : PW) : Option (Next × PW) :=
  match quick P m with
  | some v => if plainV 3 v then some (.value v, w) else none
  | none => none
def pV (r : Option (Value × PW)) : Option (Next × PW) := match r with
  | some (v, w) => some (.value v, w)
  | none => none
def pU (r : Option (Unit × PW)) : Option (Next × PW) := match r with
  | some (_, w) => some (.skip, w)
  | none => none
def zeroOkB (P : Program) (t : TypeId) : Bool := match P.info? t with
  | some i => match i.zero with
    | some v => plainV 3 v
    | none => true
  | none => true
def elemRoomB (P : Program) (t : TypeId) : Bool := match P.underlying t with
  | some (.slice e) => match P.info? e with
    | some i => i.size != 0 && zeroOkB P e
    | none => false
  | _ => false
def fieldRoomB (P : Program) (t : TypeId) (i : Nat) : Bool := match P.underlying t with
  | some (.struct fs) => match fs[i]? with
    | some f => match P.info? f.type with
      | some i => i.size != 0
      | none => false
    | none => false
  | _ => false
def sizeFitsB (P : Program) (t : TypeId) (v : Value) (w : PW) : Bool := match v with
  | .slice none _ _ => true
  | .slice (some a) _ _ => match w.get a.block, P.underlying t with
    | some (.cells _ e (lo, hi)), some (.slice e') => decide (lo ≤ hi) && (match P.info? e, P.info? e' with
      | some i, some j => i.size == j.size
      | _, _ => false)
    | _, _ => false
  | .string _ => true
  | _ => false
def keyOkB (P : Program) (t : TypeId) : Bool := match P.underlying t with
  | some (.map kt et) => match P.underlying kt with
    | some .string | some (.int _) => zeroOkB P et
    | _ => false
  | _ => false
def keyV : Value → Bool
  | .string _ | .int .. => true
  | _ => false
def liveRow (w : PW) (b : Nat) : Option (Array Value × TypeId) := match w.get b with
  | some (.cells c e (lo, hi)) => if lo ≤ hi then some (c, e) else none
  | _ => none
/-- The bytes of a row as a string. -/
def bytesLoop (cs : Array Value) : Sem Value := do
  let mut s := ByteArray.empty
  for c in cs do
    let .int .u8 n := c | stuck "bytesToString: byte expected"
    s := s.push (UInt8.ofNat n.toNat)
  pure (.string s)
/-- A pointer seen through unsafe.Pointer and back; a row of bytes as a string. -/
def patConv (P : Program) (s d : TypeId) (x : Value) (w : PW) : Option Value :=
  match P.underlying s, P.underlying d, x with
  | some (.pointer t), some .unsafePointer, .pointer (some a) => match liveRow w a.block, P.info? t with
    | some (c, _), some i => if a.spot = none ∧ a.off < c.size ∧ i.size ≠ 0 then some x else none
    | _, _ => none
  | some .unsafePointer, some (.pointer u), .pointer (some a) => match liveRow w a.block, P.info? u with
    | some (c, e), some _ => if a.spot = none ∧ liesAt P P.depth e (c.size / P.cellsOf e) a.off u 1 = true then some x else none
    | _, _ => none
  | some (.slice e), some .string, .slice (some a) n _ => match P.underlying e with
    | some (.int .u8) => if n = 0 then none else match runP P (loadCells a n) w with
      | some (cs, _) => if cs.toList.all (plainV 0) then match quick P (bytesLoop cs) with
          | some v => if plainV 3 v then some v else none
          | none => none
        else none
      | none => none
    | _ => none
  | _, _, _ => none
/-- Pointers held against each other: into one block, or one of them nil. -/
def patPtrEq (P : Program) (t : TypeId) (x y : Value) : Option Bool :=
  match P.underlying t with
  | some (.pointer e) => match x, y with
    | .pointer none, .pointer b => some b.isNone
    | .pointer (some _), .pointer none => some false
    | .pointer (some a), .pointer (some b) => match P.info? e with
      | some i => if a.block = b.block ∧ i.size ≠ 0 then some (a == b) else none
      | none => none
    | _, _ => none
  | _ => none
def pcall (P : Program) (f : Value) (args : Array Value) (w : PW) : Option (Next × PW) :=
  match f with
  | .func (.func g) first cap => match P.funcs[g]? with
    | some fn => match fn.body with
      | some _ => some (.enter g (first ++ args ++ cap), w)
      | none =>
        if (first ++ args ++ cap).toList.all (plainV 3) then
          match quick P (callFunc g (first ++ args ++ cap)) with
          | some (.value v) => if plainV 3 v then some (.value v, w) else none
          | _ => none
        else if fn.name = "internal/abi.NoEscape" then match (first ++ args ++ cap).toList with
          | [x] => some (.value x, w)
          | _ => none
        else none
    | none => none
  | .func (.yield l) _ _ => runP P (Instr.yield l args) w
  | _ => none
def pNil (v : Value) (w : PW) : Option (Next × PW) := match v with
  | .pointer (some _) | .func (.func _) _ _ => some (.value v, w)
  | _ => none
def pPick (c a b : Value) (w : PW) : Option (Next × PW) := match c with
  | .bool true => some (.value a, w)
  | .bool false => some (.value b, w)
  | _ => none
def pBin (P : Program) (op : BinOp) (t : TypeId) (ox oy : Operand) (x y : Value) (w : PW) : Option (Next × PW) :=
  if plainV 3 x && plainV 3 y then pQuick P (do eqGuard op t ox oy x y; binOp op t x y) w
  else match op with
    | .eql => (patPtrEq P t x y).map fun b => (.value (.bool b), w)
    | .neq => (patPtrEq P t x y).map fun b => (.value (.bool !b), w)
    | _ => none
def pUn (P : Program) (op : UnOp) (x : Value) (w : PW) : Option (Next × PW) :=
  if plainV 3 x then pQuick P (Op.unary op x) w else none
def pConv (P : Program) (s d : TypeId) (x : Value) (w : PW) : Option (Next × PW) :=
  if plainV 3 x then pQuick P (convert s d x) w else (patConv P s d x w).map fun v => (.value v, w)
def pData (args : List Value) (w : PW) : Option (Next × PW) := match args with
  | [.slice none _ _] => some (.value (.pointer none), w)
  | [.slice (some a) _ n] => if n = 0 then none else some (.value (.pointer (some a)), w)
  | _ => none
def pBuiltin (P : Program) (b : Builtin) (ts : Array TypeId) (t : TypeId) (args : Array Value) (w : PW) : Option (Next × PW) := match b with
  | .len => pV (runP P (Builtin.len_ ts t args) w)
  | .append => pV (patAppend P ts args w)
  | .unsafeString => pV (patString P ts args w)
  | .unsafeSliceData => pData args.toList w
  | .recover => some (.recover, w)
  | _ => none
def pCall (P : Program) (ev : Operand → Value) (c : Call) (t : TypeId) (w : PW) : Option (Next × PW) := match c.callee with
  | .builtin b => pBuiltin P b c.argTypes t (c.args.map ev) w
  | .value f => pcall P (ev f) (c.args.map ev) w
  | _ => none
def pDefer (ev : Operand → Value) (c : Call) (w : PW) : Option (Next × PW) := match c.callee with
  | .value f => match ev f with
    | .func (.func g) first cap => some (.defer { target := .fn (.func g) cap, args := first ++ c.args.map ev }, w)
    | _ => none
  | _ => none
def pIf (b : Bool) (r : Option (Next × PW)) : Option (Next × PW) := match b with
  | true => r
  | false => none
def notYield : Fn → Bool
  | .yield _ => false
  | _ => true
def pslow (P : Program) (ev : Operand → Value) (op : Op) (ty : TypeId) (w : PW) : Option (Next × PW) :=
  match op with
  | .move x => some (.value (ev x), w)
  | .assign x => some (.value (ev x), w)
  | .pick c a b => pPick (ev c) (ev a) (ev b) w
  | .alloc t => pIf (zeroOkB P t) (pV (runP P (Instr.alloc t true (.tuple #[])) w))
  | .box t x => pV (runP P (Instr.box t (ev x)) w)
  | .build t ps => pIf (zeroOkB P t) (pV (runP P (Instr.build t (ps.map fun (i, x) => (i, ev x))) w))
  | .buildSlice t n ps => pIf (elemRoomB P t) (pV (runP P (Instr.buildSlice t n (ps.map fun (i, x) => (i, ev x))) w))
  | .load t a => pV (runP P (Instr.loadAt t (ev a)) w)
  | .store t a x => pU (runP P (Instr.storeAt t (ev a) (ev x)) w)
  | .nilCheck x => pNil (ev x) w
  | .binOp op t x y _ => pBin P op t x y (ev x) (ev y) w
  | .unOp op _ x => pUn P op (ev x) w
  | .convert s d x => pConv P s d (ev x) w
  | .makeInterface t x => pV (runP P (Instr.makeInterface t (ev x)) w)
  | .makeFunc fn a c => pIf (notYield fn) (pV (runP P (Instr.makeFunc fn (a.map ev) (c.map ev)) w))
  | .makeMap t r => pV (runP P (Instr.makeMap t (r.map ev)) w)
  | .makeSlice t l c => pIf (elemRoomB P t) (pV (runP P (Instr.makeSlice t (ev l) (ev c)) w))
  | .slice t x lo hi mx => pIf (sizeFitsB P t (ev x) w) (pV (runP P (Instr.sliceAt t (ev x) (lo.map ev) (hi.map ev) (mx.map ev)) w))
  | .fieldAddr t x i => pIf (fieldRoomB P t i) (pV (runP P (Instr.fieldAt t (ev x) i) w))
  | .field t x i => pV (runP P (Instr.field t (ev x) i) w)
  | .indexAddr t x i => pV (runP P (Instr.indexAt t (ev x) (ev i)) w)
  | .index t x i => pV (runP P (Instr.index t (ev x) (ev i)) w)
  | .lookup t x k ok => pIf (keyOkB P t && keyV (ev k)) (pV (runP P (Instr.lookup t (ev x) (ev k) ok) w))
  | .mapUpdate t m k x => pIf (keyOkB P t && keyV (ev k)) (pU (runP P (Instr.mapUpdate t (ev m) (ev k) (ev x)) w))
  | .insert t m k x => pIf (keyOkB P t && keyV (ev k)) (pU (runP P (Instr.mapUpdate t (ev m) (ev k) (ev x)) w))
  | .range t x => pV (runP P (Instr.range t (ev x)) w)
  | .next it s => pV (runP P (Instr.next (ev it) s ty) w)
  | .entry it => pV (runP P (Instr.entry (ev it)) w)
  | .extract t i => pV (runP P (Instr.extract (ev t) i) w)
  | .call c => pCall P ev c ty w
  | .defer c => pDefer ev c w
  | _ => none
def pexec (P : Program) (ev : Operand → Value) (o : Oper) (w : PW) : Option (Next × PW) :=
  pIf (o.op.operands.toList.all okArg) (pslow P ev o.op o.type w)
inductive PI where
  | code (c : Code)
  | inBlock (id : Nat)
  | inLoop (body : Code)
  | inScope (body : Code)
  | inRegion (ops : Array Oper) (todo : List Oper)
  /-- a drawn region: the effects done, what the operations have yielded, the order of the rest -/
  | draw (ops : List Oper) (plan : List (Option Nat × Nat × Nat)) (k : Nat) (vals : List (Nat × Value))
  | inRange (loop : Nat)
  | endRange (loop : Nat)
  | beginRound
structure PF where
  fn : FuncId
  tmps : List Value
  todo : List PI
  defers : List Deferred
  ret : Bool
  kind : CallKind
  roundOf : Option Nat
structure PC where
  fr : PF
  cs : List PF
  w : PW
def pev (tmps : List Value) : Operand → Value
  | .tmp t => tmps.getD t undef
  | .const v => v
  | .global g => .pointer (some ⟨g, 0, none⟩)
  | .func f => .func (.func f) #[] #[]
def setD (tmps : List Value) (d : Option Tmp) (v : Value) : List Value := match d with | some d => tmps.set d v | none => tmps
def pexitTo (id : Nat) : List PI → Option (List PI)
  | .inBlock id' :: k => if id' == id then some k else pexitTo id k
  | _ :: k => pexitTo id k
  | [] => none
def penter (P : Program) (f : FuncId) (args : Array Value) (kind : CallKind) : Option PF :=
  match P.funcs[f]? with
  | some fn => match fn.body with
    | some c => if args.size ≤ fn.ntmps then some { fn := f, tmps := args.toList ++ List.replicate (fn.ntmps - args.size) undef, todo := [.code c], defers := [], ret := false, kind, roundOf := none } else none
    | none => none
  | none => none
/-! ### drawn regions -/
def pureOp : Op → Bool
  | .move _ | .assign _ | .pick .. | .build .. | .load .. | .nilCheck _ | .binOp .. | .unOp .. | .convert .. | .makeInterface .. | .makeFunc .. | .slice .. | .fieldAddr .. | .field .. | .indexAddr .. | .index .. | .lookup .. | .extract .. => true
  | .call c => match c.callee with
    | .builtin .len | .builtin .unsafeSliceData => true
    | _ => false
  | _ => false
def depsP (o : Oper) : List Nat := (o.after.toList.filter (Region.binds .any ·)).map (·.on)
/-- For each operation: its number among the effects, the first and the last stage at which it may stand. -/
def loOf (acc : List (Option Nat × Nat)) (o : Oper) : Nat :=
  (depsP o).foldl (fun m j => match acc[j]? with | some (some e, _) => max m (e + 1) | some (none, l) => max m l | none => m) 0
def losGo : List Oper → List (Option Nat × Nat) → Nat → List (Option Nat × Nat)
  | [], acc, _ => acc
  | o :: r, acc, m => if pureOp o.op then losGo r (acc ++ [(none, loOf acc o)]) m else losGo r (acc ++ [(some m, loOf acc o)]) (m + 1)
def hiOf (ops : List Oper) (m i : Nat) (his : List (Nat × Option Nat × Nat)) : Nat :=
  his.foldl (fun h x => if ((ops[x.1]?).map fun o => (depsP o).contains i).getD false then min h (match x.2.1 with | some e => e | none => x.2.2) else h) m
def hisGo (ops : List Oper) (m : Nat) : List (Nat × Option Nat) → List (Nat × Option Nat × Nat) → List (Nat × Option Nat × Nat)
  | [], acc => acc
  | (i, e) :: r, acc => hisGo ops m r ((i, e, hiOf ops m i acc) :: acc)
def planOf (ops : List Oper) : List (Option Nat × Nat × Nat) :=
  let los := losGo ops [] 0
  let m := (los.filter (·.1.isSome)).length
  let his := hisGo ops m ((los.map (·.1)).zipIdx.map fun x => (x.2, x.1)).reverse []
  los.zipIdx.map fun x => (x.1.1, x.1.2, ((his[x.2]?).map (·.2.2)).getD m)
def valOf (vals : List (Nat × Value)) (i : Nat) : Option Value := match vals with
  | [] => none
  | (j, v) :: r => if i = j then some v else valOf r i
/-- The slots that an operation sees: those of before, and those of what stands before it. -/
def seenBy (ops : List Oper) (tmps : List Value) (vals : List (Nat × Value)) (o : Oper) : List Value :=
  (depsP o).foldl (fun t j => match ops[j]?, valOf vals j with | some x, some v => setD t x.dst v | _, _ => t) tmps
def pwanted (ops : List Oper) (tmps : List Value) (o : Oper) : Bool := match o.guard with
  | none => true
  | some (j, b) => match (ops[j]?).bind (·.dst) with
    | some t => match tmps.getD t undef with | .bool c => c == b | _ => false
    | none => false
def eqV : Nat → Value → Value → Bool
  | _, .bool a, .bool b => a == b
  | _, .int k a, .int l b => k == l && a == b
  | _, .string a, .string b => a == b
  | _, .pointer a, .pointer b => a == b
  | _, .slice a n c, .slice b m d => a == b && n == m && c == d
  | _, .map a, .map b => a == b
  | _, .nilFunc, .nilFunc => true
  | _, .nilIface, .nilIface => true
  | n + 1, .func f a c, .func g b d => f == g && go n a.toList b.toList && go n c.toList d.toList
  | n + 1, .iface t v, .iface u w => t == u && eqV n v w
  | n + 1, .agg a, .agg b => go n a.toList b.toList
  | n + 1, .tuple a, .tuple b => go n a.toList b.toList
  | _, _, _ => false
where go (n : Nat) : List Value → List Value → Bool
  | [], [] => true
  | a :: as, b :: bs => eqV n a b && go n as bs
  | _, _ => false
def readOne (P : Program) (ops : List Oper) (tmps : List Value) (vals : List (Nat × Value)) (w : PW) (o : Oper) : Option Value :=
  if (depsP o).all (fun j => (valOf vals j).isSome) then
    if pwanted ops (seenBy ops tmps vals o) o then
      match pexec P (pev (seenBy ops tmps vals o)) o w with
      | some (.value v, _) => some v
      | _ => none
    else some undef
  else none
def settle (P : Program) (ops : List Oper) (tmps : List Value) (w : PW) (k : Nat) : List Oper → List (Option Nat × Nat × Nat) → Nat → List (Nat × Value) → Option (List (Nat × Value))
  | [], _, _, vals => some vals
  | o :: r, p :: ps, i, vals =>
    match p.1 with
    | some _ => settle P ops tmps w k r ps (i + 1) vals
    | none =>
      if p.2.1 = k then
        match readOne P ops tmps vals w o, valOf vals i with
        | some v, none => settle P ops tmps w k r ps (i + 1) ((i, v) :: vals)
        | _, _ => none
      else if p.2.1 < k && k ≤ p.2.2 then
        match readOne P ops tmps vals w o, valOf vals i with
        | some v, some u => if eqV 4 v u then settle P ops tmps w k r ps (i + 1) vals else none
        | _, _ => none
      else settle P ops tmps w k r ps (i + 1) vals
  | _ :: _, [], _, _ => none
def looksP (l : List Oper) (o : Oper) : List Tmp :=
  (o.op.operands.toList.filterMap fun | .tmp t => some t | _ => none) ++ (match o.guard with | some (j, _) => ((l[j]?).bind (·.dst)).toList | none => [])
def lookOk (ops : List Oper) (i : Nat) (o : Oper) (t : Tmp) : Bool :=
  (depsP o).any (fun j => ((ops[j]?).bind (·.dst)) == some t) ||
  (List.range ops.length).all (fun k => match ops[k]? with | some x => x.dst != some t || k == i || (depsP x).contains i | none => true)
def atLeast (p : Option Nat × Nat × Nat) : Nat := match p.1 with | some x => x + 1 | none => p.2.1
def atMost (p : Option Nat × Nat × Nat) : Nat := match p.1 with | some x => x | none => p.2.2
def effN (plan : List (Option Nat × Nat × Nat)) : Nat := (plan.filter (·.1.isSome)).length
/-- The static test of a drawn region: each slot is written once and looked at by those alone that stand behind its writer; the stages are right. -/
def opOk (n : Nat) (ops : List Oper) (plan : List (Option Nat × Nat × Nat)) (i : Nat) : Bool :=
  match ops[i]?, plan[i]? with
  | some o, some p =>
    (depsP o).all (· < i) &&
    (match o.dst with | some t => decide (t < n) && (List.range i).all (fun j => match ops[j]? with | some x => x.dst != some t | none => true) | none => true) &&
    (looksP ops o).all (lookOk ops i o) &&
    (p.2.1 == 0 || (depsP o).any fun j => match plan[j]? with | some p' => decide (p.2.1 ≤ atLeast p') | none => false) &&
    (match p.1 with
     | some e => p.2.1 == e && decide (e < effN plan) && (List.range i).all (fun j => match plan[j]? with | some p' => p'.1 != some e | none => true)
     | none => pureOp o.op && (decide (effN plan ≤ p.2.2) || (List.range ops.length).any fun s => match ops[s]?, plan[s]? with | some x, some p' => (depsP x).contains i && decide (atMost p' ≤ p.2.2) | _, _ => false))
  | _, _ => false
def drawOk (n : Nat) (ops : List Oper) (plan : List (Option Nat × Nat × Nat)) : Bool :=
  plan.length == ops.length && (List.range ops.length).all (opOk n ops plan)
def effAt (ops : List Oper) (plan : List (Option Nat × Nat × Nat)) (k : Nat) : Option (Nat × Oper) :=
  match ops, plan with
  | o :: r, p :: ps => if p.1 == some k then some (0, o) else (effAt r ps k).map fun x => (x.1 + 1, x.2)
  | _, _ => none
def finalTmps (tmps : List Value) (vals : List (Nat × Value)) : List Oper → Nat → List Value
  | [], _ => tmps
  | o :: r, i => finalTmps (match valOf vals i with | some v => setD tmps o.dst v | none => tmps) vals r (i + 1)
/-- A value handed back to a frame. -/
def pfinish (P : Program) (fr : PF) (v : Value) (w : PW) : Option PF :=
  if fr.ret then none else
  match fr.todo with
  | .inRegion ops (o :: rest) :: k => some { fr with tmps := setD fr.tmps o.dst v, todo := .inRegion ops rest :: k }
  | .inRange l :: k => some { fr with todo := .endRange l :: k }
  | .draw ops plan k vals :: rest =>
    match effAt ops plan k with
    | some (i, _) => match valOf vals i, settle P ops fr.tmps w (k + 1) ops plan 0 ((i, v) :: vals) with
      | none, some vals' => some { fr with todo := .draw ops plan (k + 1) vals' :: rest }
      | _, _ => none
    | none => none
  | _ => none
def preturn (P : Program) (fr : PF) (cs : List PF) (v : Value) (w : PW) : Option PC :=
  match cs with
  | c :: rest => match fr.kind with
    | .normal => match pfinish P c v w with
      | some c' => some ⟨c', rest, w⟩
      | none => none
    | .deferred => if c.ret then some ⟨c, rest, w⟩ else none
    | _ => none
  | [] => none
def pleave (P : Program) (c : PC) (jump : Option Code) : Option PC :=
  match c.fr.roundOf with
  | none => match jump with
    | none | some .ret => some { c with fr := { c.fr with ret := true } }
    | _ => none
  | some l => match c.fr.kind with
    | .normal => match runP P (Instr.endRound l jump) c.w with
      | some (v, w) => preturn P c.fr c.cs v w
      | none => none
    | _ => none
def papply (P : Program) (c : PC) (r : Option (Next × PW)) : Option PC :=
  match r with
  | some (.value v, w) => match pfinish P c.fr v w with
    | some fr => some ⟨fr, c.cs, w⟩
    | none => none
  | some (.skip, w) => match pfinish P c.fr undef w with
    | some fr => some ⟨fr, c.cs, w⟩
    | none => none
  | some (.enter f args, w) => match penter P f args .normal with
    | some fr => some ⟨fr, c.fr :: c.cs, w⟩
    | none => none
  | some (.round l f tmps assign body, w) => some ⟨{ fn := f, tmps := tmps.toList, todo := [.code assign, .beginRound, .code body], defers := [], ret := false, kind := .normal, roundOf := some l }, c.fr :: c.cs, w⟩
  | some (.defer d, w) => match c.fr.roundOf with
    | none => match pfinish P { c.fr with defers := d :: c.fr.defers } undef w with
      | some fr => some ⟨fr, c.cs, w⟩
      | none => none
    | some _ => none
  | some (.recover, w) => match c.fr.roundOf, c.fr.kind, c.cs with
    | none, .deferred, _ :: _ => match pfinish P c.fr .nilIface w with
      | some fr => some ⟨fr, c.cs, w⟩
      | none => none
    | _, _, _ => none
  | _ => none
def pto (c : PC) (k : List PI) : Option PC := some { c with fr := { c.fr with todo := k } }
def punwind (P : Program) (c : PC) : Option PC :=
  match c.fr.defers with
  | { target := .collected b, .. } :: ds =>
    match runP P (Instr.takeDeferred b) c.w with
    | some ([], w) => some { c with fr := { c.fr with defers := ds }, w }
    | _ => none
  | { target := .fn (.func g) cap, args } :: ds =>
    match pcall P (.func (.func g) #[] cap) args c.w with
    | some (.enter f args, w) => match penter P f args .deferred with
      | some fr => some ⟨fr, { c.fr with defers := ds } :: c.cs, w⟩
      | none => none
    | _ => none
  | _ :: _ => none
  | [] =>
    match P.funcs[c.fr.fn]? with
    | some fn => match runP P (results fn c.fr.tmps.toArray) c.w with
      | some (v, w) => preturn P c.fr c.cs v w
      | none => none
    | none => none
def pstep (P : Program) (c : PC) : Option PC :=
  if c.fr.ret then punwind P c else
  match c.fr.todo with
  | [] => pleave P c none
  | .code .ret :: _ => pleave P c (some .ret)
  | .code .skip :: k => pto c k
  | .code (.label _) :: k => pto c k
  | .inBlock _ :: k => pto c k
  | .code (.seq a b) :: k => pto c (.code a :: .code b :: k)
  | .code (.cond x thn els) :: k => match okArg x, pev c.fr.tmps x with
    | true, .bool b => pto c (.code (if b then thn else els) :: k)
    | _, _ => none
  | .code (.block id body) :: k => pto c (.code body :: .inBlock id :: k)
  | .code (.loop body) :: k => pto c (.code body :: .inLoop body :: k)
  | .inLoop body :: k => pto c (.code body :: .inLoop body :: k)
  | .code (.exit id) :: k => match pexitTo id k with
    | some k' => pto c k'
    | none => pleave P c (some (.exit id))
  | .code (.rangeFunc f params assign body) :: k =>
    match runP P (Instr.enterLoop c.fr.fn c.fr.tmps.toArray params assign body c.fr.roundOf) c.w with
    | some ((l, mark), w) => match okArg f, pcall P (pev c.fr.tmps f) #[.func (.yield l) #[] #[]] w with
      | true, some (.enter g args, w2) => match penter P g args .normal with
        | some fr2 => some ⟨fr2, { c.fr with todo := .inRange l :: k, defers := mark ++ c.fr.defers } :: c.cs, w2⟩
        | none => none
      | _, _ => none
    | none => none
  | .beginRound :: k => match c.fr.roundOf with
    | some l => match runP P (Instr.beginRound l) c.w with
      | some (_, w) => some { c with fr := { c.fr with todo := k }, w }
      | none => none
    | none => none
  | .endRange l :: k => match runP P (Instr.endLoop l) c.w with
    | some (jump, w) => some { c with fr := { c.fr with todo := (jump.map PI.code).toList ++ k }, w }
    | none => none
  | .code (.region _ ops false) :: k => pto c (.inRegion ops ops.toList :: k)
  | .inRegion _ [] :: k => pto c k
  | .inRegion ops (o :: rest) :: k =>
    if pwanted ops.toList c.fr.tmps o then papply P c (pexec P (pev c.fr.tmps) o c.w)
    else pto { c with fr := { c.fr with tmps := setD c.fr.tmps o.dst undef } } (.inRegion ops rest :: k)
  | .code (.region _ ops true) :: k =>
    let l := ops.toList
    let plan := planOf l
    if drawOk c.fr.tmps.length l plan then
      match settle P l c.fr.tmps c.w 0 l plan 0 [] with
      | some vals => pto c (.draw l plan 0 vals :: k)
      | none => none
    else none
  | .draw ops plan j vals :: k =>
    match effAt ops plan j with
    | some (_, o) =>
      let t := seenBy ops c.fr.tmps vals o
      if pwanted ops t o then papply P c (pexec P (pev t) o c.w) else none
    | none => pto { c with fr := { c.fr with tmps := finalTmps c.fr.tmps vals ops 0 } } k
  | _ => none
def prun (P : Program) : Nat → PC → Option PC
  | 0, c => some c
  | n + 1, c => match pstep P c with
    | some c' => prun P n c'
    | none => none
end Go.Proofs.YtnnppmcbgfadpaaGreatDoor
