/- Regions of the abstract machine: one order that stands for all. -/
import Derived.Test.YtiokdncglbfmlaaGreatDoorMEvo
import Derived.Orders
namespace Go.Am
open Go
structure MA where
  m : PMap Value
  n : Nat
def mput (a : MA) (d : Option Tmp) (v : Value) : Option MA :=
  match d with
  | none => some a
  | some t => bif t.blt a.n then some ⟨a.m.set t (some v), a.n⟩ else none
def mwanted (ops : Array Oper) (o : Oper) (m : PMap Value) : Option Bool :=
  match o.guard with
  | none => some true
  | some (j, want) => match (ops[j]?).bind (·.dst) with
    | none => some false
    | some t => match m.get t with
      | some (.bool b) => some (b == want)
      | some _ => some false
      | none => none
abbrev Caller := FuncId → List Value → St → Option (Value × St)
/-- What one operation comes to: what is put, and the store. -/
def mdo (P : Program) (call : Caller) (ops : Array Oper) (o : Oper) (m : PMap Value) (s : St) : Option (Value × St) :=
  match mwanted ops o m with
  | none => none
  | some false => some (undef, s)
  | some true => match mopI P (aev P m) o s with
    | some (.val v, s') => some (v, s')
    | some (.skip, s') => some (undef, s')
    | some (.enter f args, s') => bif quietOp o.op then none else call f args s'
    | none => none
inductive Mode where
  | only (F : List Nat)
  | but (X : List Nat) (c : Nat)
def Mode.keep : Mode → Nat → Bool
  | .only F, b => F.contains b
  | .but X c, b => b.blt c && !(X.contains b)
def subOnly (h : PMap AObj) : List Nat → PMap AObj → PMap AObj
  | [], m => m
  | b :: F, m => subOnly h F (m.set b (h.get b))
def subBut : List Nat → PMap AObj → PMap AObj
  | [], m => m
  | b :: X, m => subBut X (m.set b none)
def Mode.sub (md : Mode) (h : PMap AObj) : PMap AObj :=
  match md with
  | .only F => subOnly h F .leaf
  | .but X _ => subBut X h
def span (lo : Nat) : Nat → List Nat
  | 0 => []
  | n + 1 => lo :: span (lo + 1) n
def Mode.merge (md : Mode) (h h' : PMap AObj) (lo hi : Nat) : PMap AObj :=
  match md with
  | .only F => subOnly h' (span lo (hi - lo)) (subOnly h' F h)
  | .but X _ => subOnly h X h'
structure DRec where
  i : Nat
  o : Oper
  v : Value
  md : Mode
  lo : Nat
  hi : Nat
  h' : PMap AObj
def DRec.wr (r : DRec) : Bool := !(quietOp r.o.op)
def DRec.chg (r : DRec) (b : Nat) : Bool := (r.wr && r.md.keep b) || (r.lo.ble b && b.blt r.hi)
def Mode.apart : Mode → Mode → Bool
  | .only F, m => F.all fun b => !(m.keep b)
  | m, .only F => F.all fun b => !(m.keep b)
  | .but _ _, .but _ _ => false
def newFree (lo hi : Nat) : Mode → Bool
  | .only F => F.all fun b => !(lo.ble b && b.blt hi)
  | .but X c => (span lo (hi - lo)).all fun b => c.ble b || X.contains b
/-- Two operations that may come in either order; r is the one ahead. -/
def compat (mask : Nat) (r q : DRec) : Bool :=
  mask.testBit r.i || ((!r.wr || r.md.apart q.md) && (!q.wr || q.md.apart r.md) && (newFree r.lo r.hi q.md && newFree q.lo q.hi r.md && r.hi.ble q.lo))
/-- The temporaries that an operation looks at. -/
def lookMap (m : PMap Value) : List Tmp → PMap Value → PMap Value
  | [], x => x
  | t :: l, x => lookMap m l (x.set t (m.get t))
def edgesOf (o : Oper) : List Nat := o.after.toList.filterMap fun e => if Region.binds .any e then some e.on else none
def maskGo (acc : List Nat) : List Nat → Nat
  | [] => 0
  | e :: l => 2 ^ e ||| ((acc.getD e 0) ||| maskGo acc l)
def masksGo : List Oper → List Nat → List Nat
  | [], acc => acc
  | o :: l, acc => masksGo l (acc ++ [maskGo acc (edgesOf o)])
def masks (ops : Array Oper) : List Nat := masksGo ops.toList []
def isCallO : Op → Bool
  | .call { callee := .builtin _, .. } => false
  | .call _ => true
  | _ => false
/-- An order: what isn't a call as early as may be. -/
def planGo (ops : List Oper) : Nat → List Nat → List Nat
  | 0, done => done
  | f + 1, done =>
    let ready := (List.range ops.length).filter fun j => !(done.contains j) && (match ops[j]? with | some o => (edgesOf o).all fun e => done.contains e | none => false)
    match ready.find? (fun j => match ops[j]? with | some o => !(isCallO o.op) | none => false) with
    | some j => planGo ops f (done ++ [j])
    | none => match ready with
      | j :: _ => planGo ops f (done ++ [j])
      | [] => done
def planOf (ops : Array Oper) : List Nat := planGo ops.toList ops.size []
def dstIn (o : Oper) (l : List Tmp) : Bool := match o.dst with | some d => l.contains d | none => false
/-- One ahead of another: what either says of the other's temporaries holds by an edge. -/
def pairOk (ops : Array Oper) (mask : Nat) (i : Nat) (oi oj : Oper) : Bool :=
  (!(dstIn oi (oj.looksAt ops) || dstIn oj (oi.looksAt ops)) || mask.testBit i) && !(oi.dst.isSome && oi.dst == oj.dst)
def planOk (ops : Array Oper) (ms : List Nat) : List Nat → List Nat → Bool
  | [], done => done.length.beq ops.size && (List.range ops.size).all fun i => done.contains i
  | j :: l, done => (match ops[j]? with
    | some oj => !(done.contains j) && ((edgesOf oj).all (fun e => done.contains e) && done.all fun i => match ops[i]? with | some oi => pairOk ops (ms.getD j 0) i oi oj | none => false)
    | none => false) && planOk ops ms l (done ++ [j])
def regOk (ops : Array Oper) : Bool := planOk ops (masks ops) (planOf ops) [] && ops.toList.all fun o => !(isSelect o.op)
def idOf : Option Value → List Nat
  | some (.pointer (some a)) => [a.block]
  | some (.slice (some a) _ _) => [a.block]
  | some (.map (some r)) => [r]
  | _ => []
/-- The blocks that an operation that isn't a call comes to. -/
def mfoot (ev : Operand → Option Value) : Op → List Nat
  | .load _ a => idOf (ev a)
  | .store _ a _ => idOf (ev a)
  | .lookup _ x _ _ => idOf (ev x)
  | .mapUpdate _ x _ _ => idOf (ev x)
  | .insert _ x _ _ => idOf (ev x)
  | .convert _ _ x => idOf (ev x)
  | .call c => c.args.toList.flatMap fun x => idOf (ev x)
  | _ => []
def outOf (ms : List Nat) (i : Nat) : List DRec → List Nat
  | [] => []
  | r :: l => bif (ms.getD i 0).testBit r.i then outOf ms i l else (match r.md with | .only F => F | .but _ _ => []) ++ (span r.lo (r.hi - r.lo) ++ outOf ms i l)
def tryMode (P : Program) (call : Caller) (ops : Array Oper) (i : Nat) (o : Oper) (m : PMap Value) (s : St) (md : Mode) : Option DRec :=
  match mdo P call ops o m ⟨md.sub s.h, s.c⟩ with
  | some (v, s') => some ⟨i, o, v, md, s.c, s'.c, s'.h⟩
  | none => none
def mpick (P : Program) (call : Caller) (ops : Array Oper) (ms : List Nat) (i : Nat) (o : Oper) (m : PMap Value) (s : St) (recs : List DRec) : Option DRec :=
  bif isCallO o.op then
    match tryMode P call ops i o m s (.only []) with
    | some r => some r
    | none => tryMode P call ops i o m s (.but ((outOf ms i recs).filter fun b => b.blt s.c) s.c)
  else tryMode P call ops i o m s (.only (mfoot (aev P m) o.op))
def mdraw (P : Program) (call : Caller) (ops : Array Oper) (ms : List Nat) : List Nat → MA → St → List DRec → Option (MA × St)
  | [], a, s, _ => some (a, s)
  | i :: l, a, s, recs =>
    match ops[i]? with
    | none => none
    | some o => match mpick P call ops ms i o (lookMap a.m (o.looksAt ops) .leaf) s recs with
      | none => none
      | some r => bif recs.all fun q => compat (ms.getD i 0) q r then
          match mput a o.dst r.v with
          | some a' => mdraw P call ops ms l a' ⟨r.md.merge s.h r.h' r.lo r.hi, r.hi⟩ (recs ++ [r])
          | none => none
        else none
/-- A region that draws its order. -/
def mregion (P : Program) (call : Caller) (ops : Array Oper) (a : MA) (s : St) : Option (MA × St) :=
  bif regOk ops then mdraw P call ops (masks ops) (planOf ops) a s [] else none
def mseq (P : Program) (call : Caller) (ops : Array Oper) : List Nat → MA → St → Option (MA × St)
  | [], a, s => some (a, s)
  | i :: l, a, s => match ops[i]? with
    | none => none
    | some o => match mdo P call ops o a.m s with
      | none => none
      | some (v, s') => match mput a o.dst v with
        | none => none
        | some a' => mseq P call ops l a' s'
inductive AE where
  | normal
  | exit (id : Nat)
  | ret
def mcode (P : Program) (call : Caller) : Nat → Code → MA → St → Option (AE × MA × St)
  | 0, _, _, _ => none
  | n + 1, c, a, s =>
    match c with
    | .skip => some (.normal, a, s)
    | .label _ => some (.normal, a, s)
    | .region _ ops true => match mregion P call ops a s with
      | some (a', s') => some (.normal, a', s')
      | none => none
    | .region _ ops false => match mseq P call ops (List.range ops.size) a s with
      | some (a', s') => some (.normal, a', s')
      | none => none
    | .seq x y => match mcode P call n x a s with
      | some (.normal, a', s') => mcode P call n y a' s'
      | r => r
    | .cond c x y => match aev P a.m c with
      | some (.bool t) => bif t then mcode P call n x a s else mcode P call n y a s
      | _ => none
    | .block id c => match mcode P call n c a s with
      | some (.exit i, a', s') => bif i.beq id then some (.normal, a', s') else some (.exit i, a', s')
      | r => r
    | .loop c => match mcode P call n c a s with
      | some (.normal, a', s') => mcode P call n (.loop c) a' s'
      | r => r
    | .exit id => some (.exit id, a, s)
    | .ret => some (.ret, a, s)
    | _ => none
def margs : List Value → Nat → PMap Value → PMap Value
  | [], _, m => m
  | v :: l, i, m => margs l (i + 1) (m.set i (some v))
def mresult (P : Program) (m : PMap Value) (s : St) : ResultVar → Option Value
  | .tmp t => m.get t
  | .cell a t => match m.get a with
    | some p => mload P t p s
    | none => none
def mresults (P : Program) (m : PMap Value) (s : St) : List ResultVar → Option (List Value)
  | [] => some []
  | r :: l => match mresult P m s r, mresults P m s l with
    | some v, some vs => some (v :: vs)
    | _, _ => none
def tupleOf : List Value → Value
  | [v] => v
  | vs => .tuple ⟨vs⟩
def mcallD (P : Program) (F : Nat) : Nat → Caller
  | 0, _, _, _ => none
  | d + 1, f, args, s =>
    match P.funcs[f]? with
    | none => none
    | some fn => match fn.body with
      | none => none
      | some c => match mcode P (mcallD P F d) F c ⟨margs args 0 .leaf, max args.length fn.ntmps⟩ s with
        | some (.normal, a, s') => (mresults P a.m s' fn.results.toList).map fun vs => (tupleOf vs, s')
        | some (.ret, a, s') => (mresults P a.m s' fn.results.toList).map fun vs => (tupleOf vs, s')
        | _ => none
end Go.Am
