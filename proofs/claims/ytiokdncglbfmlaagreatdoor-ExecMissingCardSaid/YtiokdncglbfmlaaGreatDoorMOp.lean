/- The operations of the abstract machine. -/
import Derived.Test.YtiokdncglbfmlaaGreatDoorMRun
import Derived.Laws.Tables
import Derived.Orders
namespace Go.Am
open Go
/-- What an operation comes to. -/
inductive AN where
  | val (v : Value)
  | skip
  | enter (f : FuncId) (args : List Value)
def aev (P : Program) (m : PMap Value) : Operand → Option Value
  | .tmp t => m.get t
  | .const v => bif ground v then some v else none
  | .global g => bif g.blt P.globals.size then some (.pointer (some ⟨g, 0, none⟩)) else none
  | .func f => some (.func (.func f) #[] #[])
/-- Doings that look at no world. -/
def pureRun {α : Type} (P : Program) : Sem α → Option α
  | .pure a => some a
  | .program k => pureRun P (k P)
  | .mark _ k => pureRun P k
  | _ => none
theorem pureRun_sound {α : Type} {P : Program} : ∀ {x : Sem α} {a : α}, pureRun P x = some a → ∀ w, x.run P w = .ok a w := by
  intro x
  induction x with
  | pure b => intro a h w; simp only [pureRun, Option.some.injEq] at h; subst h; rfl
  | program k ih => intro a h w; exact ih P h w
  | mark m k ih => intro a h w; exact ih h w
  | _ => intro a h; cases h
def groundO : Option Value → Bool
  | some v => ground v
  | none => false
/-- An operation on values without names. -/
def isSelect : Op → Bool
  | .select .. => true
  | _ => false
def pureOp (P : Program) (ev : Operand → Option Value) (o : Oper) : Option Value :=
  bif !(isSelect o.op) && o.op.operands.toList.all fun x => groundO (ev x) then
    match pureRun P (execOp (fun x => (ev x).getD (.bool false)) o) with
    | some (.value v) => bif ground v then some v else none
    | _ => none
  else none
def mpart (P : Program) (t : TypeId) (cs : List Value) (off : Nat) : Option Value :=
  match P.info? t, P.underlying t with
  | some ti, some d => bif aggD d then (bif ((cs.drop off).take ti.size).length.beq ti.size && !(ti.size.beq 0) then some (.agg ⟨(cs.drop off).take ti.size⟩) else none) else cs[off]?
  | _, _ => none
def mload (P : Program) (t : TypeId) (a : Value) (s : St) : Option Value :=
  match a with
  | .pointer (some ⟨i, o, none⟩) =>
    match s.h.get i with
    | some (.cells l _) => mpart P t l o
    | _ => none
  | _ => none
def oneC : Value → Bool
  | .agg _ | .tuple _ => false
  | _ => true
def splL (l : List Value) (o : Nat) (c : List Value) : List Value := l.take o ++ c ++ l.drop (o + c.length)
def mstore (P : Program) (t : TypeId) (a v : Value) (s : St) : Option St :=
  match a with
  | .pointer (some ⟨i, o, none⟩) =>
    match s.h.get i, P.info? t with
    | some (.cells l e), some ti =>
      bif v.cells.toList.length.beq ti.size && v.cells.toList.all oneC && (o + ti.size).ble l.length then some ⟨s.h.set i (some (.cells (splL l o v.cells.toList) e)), s.c⟩ else none
    | _, _ => none
  | _ => none
/-- A new row of cells. -/
def mnew (e : TypeId) (cells : List Value) (s : St) : St := s.new (.cells cells e)
def mfill (place : Nat → Option (Nat × Nat)) : List Value → List (Nat × Value) → Option (List Value)
  | cells, [] => some cells
  | cells, (i, v) :: rest =>
    match place i with
    | none => none
    | some (off, size) => bif v.cells.toList.length.beq size && (off + size).ble cells.length then mfill place (splL cells off v.cells.toList) rest else none
def mplaces (P : Program) (t : TypeId) : Option (Nat → Option (Nat × Nat)) :=
  match P.underlying t with
  | some (.array _ e) => match P.info? e with
    | some ie => some fun i => some (i * ie.size, ie.size)
    | none => none
  | some (.struct fields) => match fields.toList.mapM (fun f => (P.info? f.type).map fun i => (f.offset, i.size)) with
    | some places => some fun i => places[i]?
    | none => none
  | _ => none
def mzero (P : Program) (t : TypeId) : Option Value :=
  match P.info? t with
  | some it => match it.zero with
    | some z => bif ground z then some z else none
    | none => none
  | none => none
def mbuild (P : Program) (t : TypeId) (parts : List (Nat × Value)) : Option Value :=
  match mzero P t, mplaces P t with
  | some z, some pl => (mfill pl z.cells.toList parts).map fun l => .agg ⟨l⟩
  | _, _ => none
def evParts (ev : Operand → Option Value) : List (Nat × Operand) → Option (List (Nat × Value))
  | [] => some []
  | (i, x) :: l => match ev x, evParts ev l with
    | some v, some r => some ((i, v) :: r)
    | _, _ => none
def evAll (ev : Operand → Option Value) : List Operand → Option (List Value)
  | [] => some []
  | x :: l => match ev x, evAll ev l with
    | some v, some r => some (v :: r)
    | _, _ => none
/-- n zero values of a type, one behind the other. -/
def mzeros (z : List Value) : Nat → List Value
  | 0 => []
  | n + 1 => z ++ mzeros z n

def mrow (P : Program) (t : TypeId) (n : Nat) : Option (List Value) :=
  match P.info? t with
  | some ti => bif (n * ti.size).beq 0 then some [] else match mzero P t with
    | some z => bif z.cells.toList.length.beq ti.size then some (mzeros z.cells.toList n) else none
    | none => none
  | none => none
def mbuildSlice (P : Program) (t : TypeId) (len : Nat) (parts : List (Nat × Value)) (s : St) : Option (Value × St) :=
  match P.underlying t with
  | some (.slice e) =>
    match P.info? e, mrow P e len with
    | some ie, some row =>
      bif (len * ie.size).ble 16777216 && len.blt capHalf then
        match mfill (fun i => some (i * ie.size, ie.size)) row parts with
        | some l => bif l.length.beq (len * ie.size) then some (.slice (some ⟨s.c, 0, none⟩) len len, mnew e l s) else none
        | none => none
      else none
    | _, _ => none
  | _ => none
def malloc (P : Program) (e : TypeId) (v : Value) (s : St) : Option (Value × St) :=
  match P.info? e with
  | some ie => bif v.cells.toList.length.beq ie.size then some (.pointer (some ⟨s.c, 0, none⟩), mnew e v.cells.toList s) else none
  | none => none
def mfieldAddr (P : Program) (t : TypeId) (a : Value) (f : Nat) : Option Value :=
  match a, P.underlying t with
  | .pointer (some ⟨i, o, none⟩), some (.struct fields) =>
    match fields[f]? with
    | some fd => match P.info? fd.type with
      | some fi => bif fi.size.beq 0 then none else some (.pointer (some ⟨i, o + fd.offset, none⟩))
      | none => none
    | none => none
  | _, _ => none
def mfield (P : Program) (t : TypeId) (a : Value) (f : Nat) : Option Value :=
  match a, P.underlying t with
  | .agg cs, some (.struct fields) =>
    match fields[f]? with
    | some fd => mpart P fd.type cs.toList fd.offset
    | none => none
  | _, _ => none
def mat (P : Program) (e : TypeId) (b : Nat) (o : Nat) (i : Int) (len : Nat) : Option Value :=
  match P.info? e with
  | some ie => match i with
    | .ofNat n => bif n.blt len then some (.pointer (some ⟨b, o + n * ie.size, none⟩)) else none
    | .negSucc _ => none
  | none => none
def mindexAddr (P : Program) (t : TypeId) (x ix : Value) : Option Value :=
  match P.underlying t, x, ix with
  | some (.array len e), .pointer (some ⟨b, o, none⟩), .int _ i => mat P e b o i len
  | some (.slice e), .slice (some ⟨b, o, none⟩) len _, .int _ i => mat P e b o i len
  | _, _, _ => none
def mindex (P : Program) (t : TypeId) (x ix : Value) : Option Value :=
  match P.underlying t, x, ix with
  | some (.array len e), .agg cs, .int _ (.ofNat n) =>
    match P.info? e with
    | some ie => bif n.blt len then mpart P e cs.toList (n * ie.size) else none
    | none => none
  | _, _, _ => none
def mextract (v : Value) (i : Nat) : Option Value :=
  match v with
  | .tuple vs => vs.toList[i]?
  | _ => none
/-- A bound of a slice. -/
def mbound (v : Option Value) (dflt top : Nat) : Option Nat :=
  match v with
  | none => some dflt
  | some (.int _ (.ofNat n)) => bif n.ble top then some n else none
  | some _ => none
def pick3 (mx : Option Value) (m top : Nat) : Nat := match mx with | some _ => m | none => top
/-- A slice's part, its address by the true bound. -/
def mcut (P : Program) (e : TypeId) (a : Option Addr) (l h m : Nat) : Option Value :=
  match P.info? e with
  | some ie =>
    match a with
    | some ⟨b, o, none⟩ => some (.slice (some ⟨b, bif m.beq l then o else o + l * ie.size, none⟩) (h - l) (m - l))
    | some ⟨_, _, some _⟩ => none
    | none => some (.slice none (h - l) (m - l))
  | none => none
def mslice (P : Program) (t : TypeId) (x : Value) (lo hi mx : Option Value) : Option Value :=
  match P.underlying t, x with
  | some (.slice e), .slice a len cap =>
    bif (mx.isSome && hi.isNone) || (a.isNone && capHalf.ble cap) then none else
    (mbound mx cap (bif capHalf.ble cap then len else cap)).bind fun m => (mbound hi len (pick3 mx m (bif capHalf.ble cap then len else cap))).bind fun h => (mbound lo 0 h).bind fun l =>
      bif capHalf.ble cap && mx.isNone then
        bif !(l.beq len && !(l.beq 0)) && (m.ble capInf && capHalf.ble (m - l)) then mcut P e a l h m else none
      else bif m.blt capHalf then mcut P e a l h m else none
  | some (.array n e), .pointer (some ⟨b, o, none⟩) =>
    bif !(n.blt capHalf) || (mx.isSome && hi.isNone) then none else
    (mbound mx n n).bind fun m => (mbound hi n (pick3 mx m n)).bind fun h => (mbound lo 0 h).bind fun l =>
      mcut P e (some ⟨b, o, none⟩) l h m
  | _, _ => none
def mmakeSlice (P : Program) (t : TypeId) (len cap : Value) (s : St) : Option (Value × St) :=
  match P.underlying t, len, cap with
  | some (.slice e), .int _ (.ofNat l), .int _ (.ofNat c) =>
    match P.info? e, mrow P e c with
    | some ie, some row => bif l.ble c && (ie.bytes * c).ble 281474976710656 && c.ble 281474976710656 && row.length.beq (c * ie.size) then some (.slice (some ⟨s.c, 0, none⟩) l c, mnew e row s) else none
    | _, _ => none
  | _, _, _ => none
def mentries (v : Value) (s : St) : Option (List MapEntry) :=
  match v with
  | .map none => some []
  | .map (some r) => match s.h.get r with
    | some (.map es _) => some es
    | _ => none
  | _ => none
def mfind (P : Program) (kt : TypeId) (k : Value) (es : List MapEntry) : Option (Option (Nat × Value)) :=
  bif ground k && es.all fun e => ground e.key then
    match pureRun P (Instr.checkKey es.isEmpty 10000 kt k) with
    | some _ => pureRun P (Instr.findKey kt k es)
    | none => none
  else none
def mlookup (P : Program) (t : TypeId) (x k : Value) (ok : Bool) (s : St) : Option Value :=
  match P.underlying t with
  | some (.map kt et) =>
    (mentries x s).bind fun es => (mfind P kt k es).bind fun r =>
      match r with
      | some (_, v) => some (bif ok then .tuple #[v, .bool true] else v)
      | none => (mzero P et).map fun z => bif ok then .tuple #[z, .bool false] else z
  | _ => none
def mupdate (P : Program) (t : TypeId) (x k v : Value) (s : St) : Option St :=
  match P.underlying t, x with
  | some (.map kt _), .map (some r) =>
    match s.h.get r with
    | some (.map es clock) =>
      bif ground k && es.all fun e => ground e.key then
        match pureRun P (Instr.checkKey false 10000 kt k), pureRun P (Instr.findKey kt k es) with
        | some _, some (some (i, _)) =>
          match es[i]? with
          | some e => bif Instr.sameBits 10000 e.key k then some ⟨s.h.set r (some (.map (es.set i { key := k, val := v, born := e.born }) clock)), s.c⟩ else none
          | none => none
        | some _, some none => some ⟨s.h.set r (some (.map (es ++ [{ key := k, val := v, born := clock }]) (clock + 1))), s.c⟩
        | _, _ => none
      else none
    | _ => none
  | _, _ => none
def mdelete (P : Program) (t : TypeId) (x k : Value) (s : St) : Option St :=
  match P.underlying t, x with
  | some (.map kt _), .map (some r) =>
    match s.h.get r with
    | some (.map es clock) =>
      match mfind P kt k es with
      | some (some (i, _)) => some ⟨s.h.set r (some (.map (es.eraseIdx i) clock)), s.c⟩
      | some none => some s
      | none => none
    | _ => none
  | _, _ => none
def mcells (s : St) (size n : Nat) : Value → Option (List Value)
  | .slice (some ⟨b, o, none⟩) _ _ =>
    match s.h.get b with
    | some (.cells l _) => bif ((l.drop o).take (n * size)).length.beq (n * size) then some ((l.drop o).take (n * size)) else none
    | _ => none
  | .slice none _ _ => some []
  | .string x => bif n.ble x.size then some ((x.data.toList.take n).map fun b => .int .u8 b.toNat) else none
  | _ => none
def mlen : Value → Option Nat
  | .slice _ n _ => some n
  | .string x => some x.size
  | _ => none
def zeroOk (P : Program) (e : TypeId) (size : Nat) : Bool :=
  match mzero P e with
  | some z => z.cells.toList.length.beq size
  | none => false
def mgrow (P : Program) (e : TypeId) (size : Nat) (cells : List Value) (n : Nat) (s : St) : Option (Value × St) :=
  bif zeroOk P e size then some (.slice (some ⟨s.c, 0, none⟩) n capInf, mnew e cells s) else none
/-- Cells written behind a slice's own, where there is room for sure. -/
def minto (b : Nat) (l : List Value) (be : TypeId) (o size n k c : Nat) (new : List Value) (s : St) : Option (Value × St) :=
  bif (o + (n + k) * size).ble l.length then some (.slice (some ⟨b, o, none⟩) (n + k) c, ⟨s.h.set b (some (.cells (splL l (o + n * size) new) be)), s.c⟩) else none
def mappend (P : Program) (t : TypeId) (x y : Value) (s : St) : Option (Value × St) :=
  match P.underlying t, x with
  | some (.slice e), .slice a n c =>
    match P.info? e, mlen y with
    | some ie, some k =>
      (mcells s ie.size k y).bind fun new =>
        bif new.length.beq (k * ie.size) && (new.all oneC && (((n + k) * ie.bytes).ble 140737488355328 && (n + k).ble 140737488355328)) then
          match a with
          | none => bif n.beq 0 && c.beq 0 then (bif k.beq 0 then some (.slice none 0 0, s) else mgrow P e ie.size new k s) else none
          | some ⟨b, o, none⟩ =>
            match s.h.get b with
            | some (.cells l be) =>
              bif k.beq 0 then (bif capHalf.ble c || n.ble c then some (.slice (some ⟨b, o, none⟩) n c, s) else none) else
              bif capHalf.ble c then
                bif (o + (n + k) * ie.size).ble l.length then (bif o.beq ((capInf - c) * ie.size) && (!(ie.size.beq 0) && be.beq e) then minto b l be o ie.size n k c new s else none)
                else bif o.beq 0 && c.beq capInf && (l.length.beq (n * ie.size) && be.beq e) && !(ie.size.beq 0) then mgrow P e ie.size (l ++ new) (n + k) ⟨s.h.set b none, s.c⟩
                else none
              else bif (n + k).ble c then minto b l be o ie.size n k c new s
              else match mcells s ie.size n x with
                | some old => mgrow P e ie.size (old ++ new) (n + k) s
                | none => none
            | _ => none
          | some ⟨_, _, some _⟩ => none
        else none
    | _, _ => none
  | _, _ => none
def mcopy (P : Program) (t : TypeId) (x y : Value) (s : St) : Option (Value × St) :=
  match P.underlying t, x with
  | some (.slice e), .slice a n _ =>
    match P.info? e, mlen y with
    | some ie, some k =>
      (mcells s ie.size (Nat.min k n) y).bind fun new =>
        bif new.all oneC then
          match a with
          | none => bif new.isEmpty then some (goInt (Nat.min k n), s) else none
          | some ⟨b, o, none⟩ =>
            match s.h.get b with
            | some (.cells l be) => bif (o + new.length).ble l.length then some (goInt (Nat.min k n), ⟨s.h.set b (some (.cells (splL l o new) be)), s.c⟩) else none
            | _ => none
          | some ⟨_, _, some _⟩ => none
        else none
    | _, _ => none
  | _, _ => none

def mnilEq (P : Program) (t : TypeId) (x y : Value) : Option Bool :=
  match P.underlying t, x, y with
  | some (.pointer _), .pointer none, .pointer b => some b.isNone
  | some (.pointer _), .pointer _, .pointer none => some false
  | some (.pointer e), .pointer (some ⟨b, o, none⟩), .pointer (some ⟨b', o', none⟩) =>
    match P.info? e with
    | some ie => bif !(ie.size.beq 0) && b.beq b' then some (o.beq o') else none
    | none => none
  | some (.slice _), .slice none _ _, .slice b _ _ => some b.isNone
  | some (.slice _), .slice _ _ _, .slice none _ _ => some false
  | some (.map _ _), .map none, .map b => some b.isNone
  | some (.map _ _), .map _, .map none => some false
  | some (.func _ _ _), .nilFunc, .nilFunc => some true
  | some (.func _ _ _), .nilFunc, .func _ _ _ => some false
  | some (.func _ _ _), .func _ _ _, .nilFunc => some false
  | some (.interface _), .nilIface, .iface _ _ => some false
  | some (.interface _), .iface _ _, .nilIface => some false
  | _, _, _ => none
def mbin (P : Program) (op : BinOp) (t : TypeId) (x y : Value) : Option Value :=
  match op with
  | .eql => (mnilEq P t x y).map .bool
  | .neq => (mnilEq P t x y).map fun b => .bool !b
  | _ => none
def bytesOf : List Value → Option (List UInt8)
  | [] => some []
  | .int .u8 n :: l => (bytesOf l).map fun r => UInt8.ofNat n.toNat :: r
  | _ :: _ => none
def mconvert (P : Program) (src dst : TypeId) (x : Value) (s : St) : Option (Value × St) :=
  match P.underlying src, P.underlying dst, x with
  | some (.slice e), some .string, .slice _ n _ =>
    match P.underlying e with
    | some (.int .u8) => (mcells s 1 n x).bind fun l => (bytesOf l).map fun r => (.string ⟨⟨r⟩⟩, s)
    | _ => none
  | _, _, _ => none
def mtypeAssert (P : Program) (x : Value) (asserted : TypeId) (ok : Bool) : Option Value :=
  match P.underlying asserted, x with
  | some (.interface want), .iface t _ =>
    match P.info? t with
    | some ti => bif (Instr.missingMethod want ti.methods).isNone then some (bif ok then .tuple #[x, .bool true] else x) else none
    | none => none
  | some (.interface _), _ => none
  | some _, .iface t v => bif t.beq asserted then some (bif ok then .tuple #[v, .bool true] else v) else (bif ok then (mzero P asserted).map fun z => .tuple #[z, .bool false] else none)
  | _, _ => none
def marrayAt (P : Program) (arr : TypeId) (x : Value) : Option Value :=
  match P.underlying arr, x with
  | some (.array n _), .slice (some ⟨b, o, none⟩) len _ => bif n.ble len then some (.pointer (some ⟨b, o, none⟩)) else none
  | _, _ => none
def enterable (P : Program) (f : FuncId) : Bool :=
  match P.funcs[f]? with
  | some fn => fn.body.isSome && !(fn.name == "runtime.NumGoroutine")
  | none => false
def menter (P : Program) (f : FuncId) (args : List Value) : Option AN := bif enterable P f then some (.enter f args) else none
def methodOf (P : Program) (t : TypeId) (name : String) : Option (FuncId × Bool) :=
  match P.info? t with
  | some ti => match ti.methods.find? (·.name == name) with
    | some m => bif m.path.isEmpty then m.func else none
    | none => none
  | none => none
def minvoke (P : Program) (t : TypeId) (v : Value) (name : String) (args : List Value) : Option AN :=
  match methodOf P t name, P.underlying t with
  | some (f, true), some (.pointer _) => menter P f (v :: args)
  | some (f, false), some d => bif (match d with | .pointer _ => true | _ => false) then none else menter P f (v :: args)
  | _, _ => none
def isIntD : TypeDesc → Bool
  | .int _ => true
  | _ => false
def mcall (P : Program) (ev : Operand → Option Value) (c : Call) (s : St) : Option (AN × St) :=
  match c.callee with
  | .value f =>
    (ev f).bind fun fv => (evAll ev c.args.toList).bind fun args =>
      match fv with
      | .func (.func k) first caps => (menter P k (first.toList ++ args ++ caps.toList)).map fun r => (r, s)
      | _ => none
  | .invoke r name =>
    (ev r).bind fun rv => (evAll ev c.args.toList).bind fun args =>
      match rv with
      | .iface t v => (minvoke P t v name args).map fun r => (r, s)
      | _ => none
  | .builtin b =>
    (evAll ev c.args.toList).bind fun args =>
      match b, args, c.argTypes.toList with
      | .len, [.slice _ n _], [t] => match P.underlying t with
        | some (.slice _) => some (.val (goInt n), s)
        | _ => none
      | .len, [.map r], [t] => match P.underlying t with
        | some (.map _ _) => (mentries (.map r) s).map fun es => (.val (goInt es.length), s)
        | _ => none
      | .append, [x, y], [t, t'] => match P.underlying t' with
        | some d => bif isIntD d then none else (mappend P t x y s).map fun r => (.val r.1, r.2)
        | none => none
      | .copy, [x, y], t :: _ => (mcopy P t x y s).map fun r => (.val r.1, r.2)
      | .delete, [x, y], t :: _ => (mdelete P t x y s).map fun s' => (.val (.tuple #[]), s')
      | _, _, _ => none
def orPure (P : Program) (ev : Operand → Option Value) (o : Oper) (s : St) (r : Option (AN × St)) : Option (AN × St) :=
  match r with
  | some x => some x
  | none => (pureOp P ev o).map fun v => (.val v, s)
def mopI (P : Program) (ev : Operand → Option Value) (o : Oper) (s : St) : Option (AN × St) :=
  match o.op with
  | .move x | .assign x => (ev x).map fun v => (.val v, s)
  | .pick c a b => match ev c with
    | some (.bool t) => (bif t then ev a else ev b).map fun v => (.val v, s)
    | _ => none
  | .alloc e => (mzero P e).bind fun z => (malloc P e z s).map fun r => (.val r.1, r.2)
  | .box e x => (ev x).bind fun v => (malloc P e v s).map fun r => (.val r.1, r.2)
  | .build t parts => (evParts ev parts.toList).bind fun l => (mbuild P t l).map fun v => (.val v, s)
  | .buildSlice t n parts => (evParts ev parts.toList).bind fun l => (mbuildSlice P t n l s).map fun r => (.val r.1, r.2)
  | .load t a => (ev a).bind fun p => (mload P t p s).map fun v => (.val v, s)
  | .store t a x => (ev a).bind fun p => (ev x).bind fun v => (mstore P t p v s).map fun s' => (.skip, s')
  | .nilCheck x => match ev x with
    | some (.pointer (some a)) => some (.val (.pointer (some a)), s)
    | some (.func (.func k) a c) => some (.val (.func (.func k) a c), s)
    | some (.iface t v) => some (.val (.iface t v), s)
    | _ => none
  | .binOp op t x y _ => orPure P ev o s ((ev x).bind fun a => (ev y).bind fun b => (mbin P op t a b).map fun v => (.val v, s))
  | .convert src dst x => orPure P ev o s ((ev x).bind fun v => (mconvert P src dst v s).map fun r => (.val r.1, r.2))
  | .makeInterface t x => match P.underlying t with
    | some (.interface _) => none
    | some _ => (ev x).map fun v => (.val (.iface t v), s)
    | none => none
  | .makeFunc (.func f) first captured => (evAll ev first.toList).bind fun a => (evAll ev captured.toList).map fun c => (.val (.func (.func f) ⟨a⟩ ⟨c⟩), s)
  | .makeMap _ none => some (.val (.map (some s.c)), s.new (.map [] 0))
  | .makeSlice t l c => (ev l).bind fun a => (ev c).bind fun b => (mmakeSlice P t a b s).map fun r => (.val r.1, r.2)
  | .slice t x lo hi mx =>
    orPure P ev o s ((ev x).bind fun v => (match lo with | none => some none | some y => (ev y).map some).bind fun l => (match hi with | none => some none | some y => (ev y).map some).bind fun h => (match mx with | none => some none | some y => (ev y).map some).bind fun m =>
      (mslice P t v l h m).map fun v => (.val v, s))
  | .sliceToArrayPointer arr x => (ev x).bind fun v => (marrayAt P arr v).map fun v => (.val v, s)
  | .fieldAddr t x f => (ev x).bind fun a => (mfieldAddr P t a f).map fun v => (.val v, s)
  | .field t x f => (ev x).bind fun a => (mfield P t a f).map fun v => (.val v, s)
  | .indexAddr t x i => (ev x).bind fun a => (ev i).bind fun b => (mindexAddr P t a b).map fun v => (.val v, s)
  | .index t x i => orPure P ev o s ((ev x).bind fun a => (ev i).bind fun b => (mindex P t a b).map fun v => (.val v, s))
  | .lookup t x k ok => (ev x).bind fun a => (ev k).bind fun b => (mlookup P t a b ok s).map fun v => (.val v, s)
  | .mapUpdate t x k v | .insert t x k v => (ev x).bind fun a => (ev k).bind fun b => (ev v).bind fun c => (mupdate P t a b c s).map fun s' => (.skip, s')
  | .typeAssert x _ t ok => (ev x).bind fun a => (mtypeAssert P a t ok).map fun v => (.val v, s)
  | .extract x i => (ev x).bind fun a => (mextract a i).map fun v => (.val v, s)
  | .call c => orPure P ev o s (mcall P ev c s)
  | _ => (pureOp P ev o).map fun v => (.val v, s)
end Go.Am
