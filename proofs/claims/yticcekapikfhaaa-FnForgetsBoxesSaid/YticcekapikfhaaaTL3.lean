/- Which instruction an operation of the program is. Plain definitions. -/
import Derived.Test.YticcekapikfhaaaTL2
namespace Go.TL

section
variable (P : Program) (n : Nat)

/-- a constant as a tree; e: the type that it has -/
def kLV (e : TypeId) : Value → Option LV
  | .slice none 0 0 => match P.underlying e with
    | some (.slice el) => some (.sl true true (P.cellsOf el) [])
    | _ => some (.sl true true 0 [])
  | .bool b => some (.sc (.bool b))
  | .int k m => some (.sc (.int k m))
  | .string s => some (.sc (.string s))
  | .pointer none => some (.sc (.pointer none))
  | .nilFunc => some (.sc .nilFunc)
  | .nilIface => some (.sc .nilIface)
  | .func (.func f) fs cs => if fs.size = 0 ∧ cs.size = 0 then some (.fn f []) else none
  | _ => none
def cX (e : TypeId) : Operand → Option X
  | .tmp i => if i < n then some (.t i) else none
  | .const v => (kLV P e v).map .k
  | .func f => some (.k (.fn f []))
  | .global _ => none
def cD (o : Oper) : Option Nat := match o.dst with
  | some d => if d < n then some d else none
  | none => none
def isAggB (t : TypeId) : Option Bool := match P.underlying t with
  | some (.struct _) => some true
  | some (.array _ _) => some true
  | some _ => some false
  | none => none
def sz? (t : TypeId) : Option Nat := (P.info? t).map (·.size)
def zCell : Value → Option LV
  | .slice none 0 0 => some (.sl true true 1 [])
  | .bool b => some (.sc (.bool b))
  | .int k m => some (.sc (.int k m))
  | .string s => some (.sc (.string s))
  | .pointer none => some (.sc (.pointer none))
  | .nilFunc => some (.sc .nilFunc)
  | .nilIface => some (.sc .nilIface)
  | _ => none
def zCells : List Value → Option (List LV)
  | [] => some []
  | v :: vs => match zCell v, zCells vs with
    | some x, some xs => some (x :: xs)
    | _, _ => none
/-- the cells of a zero value -/
def zLV (t : TypeId) : Option (List LV) :=
  match P.info? t with
  | some i => match i.zero with
    | some v => zCells v.cells.toList
    | none => none
  | none => none
def fieldOf (t : TypeId) (f : Nat) : Option Field := match P.underlying t with
  | some (.struct fs) => fs[f]?
  | _ => none
def elemOf' (t : TypeId) : Option TypeId := match P.underlying t with
  | some (.slice e) => some e
  | _ => none
def cmOf (t : TypeId) : Option Cm := match P.underlying t with
  | some (.int _) => some .num
  | some .string => some .str
  | some .bool => some .bool
  | some (.pointer _) => some .ptr
  | some (.slice _) => some .slc
  | _ => none
def cParts (places : Nat → Option (Nat × Nat)) : List (Nat × Operand) → Option (List (Nat × Nat × X))
  | [] => some []
  | (i, x) :: ps => match places i, cX P n 0 x, cParts places ps with
    | some (off, sz), some y, some r => some ((off, sz, y) :: r)
    | _, _, _ => none
def cXs (ts : List TypeId) : List Operand → Option (List X)
  | [] => some []
  | x :: xs => match cX P n (ts.headD 0) x, cXs ts.tail xs with
    | some y, some r => some (y :: r)
    | _, _ => none
def cOpt : Option Operand → Option (Option X)
  | none => some none
  | some x => (cX P n 0 x).map some

def Md.rw : Md → Rw
  | .copy => .no
  | .take => .any
  | .frz => .fr

/-- the instruction of an operation -/
def compile (o : Oper) (m0 : Md) : Option I :=
  match o.op with
  | .move x => (cD n o).bind fun d => (cX P n o.type x).map fun y => .mv d m0 y
  | .pick c x y => (cD n o).bind fun d => (cX P n 0 c).bind fun z => (cX P n o.type x).bind fun u => (cX P n o.type y).map fun v => .pick d z u v
  | .assign x => (cD n o).bind fun d => (cX P n o.type x).map fun y => .mv d m0 y
  | .alloc e => (cD n o).bind fun d => (zLV P e).map fun z => .alloc d z
  | .box e x => (cD n o).bind fun d => (cX P n e x).map fun y => .box d y
  | .load t x => (cD n o).bind fun d => (cX P n 0 x).bind fun y => (isAggB P t).bind fun a => (sz? P t).map fun s => .load d m0 a s y
  | .store t x y => match o.dst with
    | none => (cX P n 0 x).bind fun a => (cX P n t y).bind fun b => (sz? P t).map fun s => .store s a b
    | some _ => none
  | .binOp op t x y _ => (cD n o).bind fun d => (cX P n t x).bind fun a => (cX P n t y).bind fun b => (cmOf P t).map fun c => .bin d c op a b
  | .unOp op _ x => (cD n o).bind fun d => (cX P n 0 x).map fun a => .un d op a
  | .build t ps => match P.underlying t with
    | some (.struct fs) => (cD n o).bind fun d => (zLV P t).bind fun z => (fs.toList.mapM fun f => (P.info? f.type).map fun i => (f.offset, i.size)).bind fun pl => (cParts P n (fun i => pl.toArray[i]?) ps.toList).map fun qs => .build d z qs
    | _ => none
  | .buildSlice t len ps => (cD n o).bind fun d => (elemOf' P t).bind fun e => (sz? P e).bind fun s =>
      (if len * s ≤ 16777216 ∧ 0 < s then some () else none).bind fun _ => (zLV P e).bind fun z =>
      (if z.length = s then some () else none).bind fun _ => (cParts P n (fun i => some (i * s, s)) ps.toList).map fun qs => .bslice d s len (List.replicate len z).flatten qs
  | .slice t x lo hi mx => match P.underlying t with
    | some (.slice e) => (cD n o).bind fun d => (sz? P e).bind fun s => (cX P n t x).bind fun a => (cOpt P n lo).bind fun l => (cOpt P n hi).bind fun h => (cOpt P n mx).bind fun m =>
      (if mx.isSome && hi.isNone then none else some ()).map fun _ => match m0, l, h, m with
        | .take, none, some k, none => .cut0 d s a k
        | _, l, h, m => .slice d s a l h m
    | some .string => (cD n o).bind fun d => (cX P n t x).bind fun a => (cOpt P n lo).bind fun l => (cOpt P n hi).bind fun h => (if mx.isSome then none else some ()).map fun _ => .sliceS d a l h
    | _ => none
  | .fieldAddr t x f => (cD n o).bind fun d => (cX P n 0 x).bind fun a => (fieldOf P t f).bind fun g => (sz? P g.type).bind fun s => if s = 0 then none else some (.fieldA d g.offset a)
  | .field t x f => (cD n o).bind fun d => (cX P n 0 x).bind fun a => (fieldOf P t f).bind fun g => (isAggB P g.type).bind fun ag => (sz? P g.type).map fun s => .field d ag g.offset s a
  | .indexAddr t x i => (cD n o).bind fun d => (cX P n t x).bind fun a => (cX P n 0 i).bind fun b => (elemOf' P t).bind fun e => (sz? P e).map fun s => .indexA d s a b
  | .index t x i => match P.underlying t with
    | some .string => (cD n o).bind fun d => (cX P n t x).bind fun a => (cX P n 0 i).map fun b => .indexS d a b
    | _ => none
  | .extract x k => (cD n o).bind fun d => (cX P n 0 x).map fun a => .extract d k a
  | .makeSlice t l c => (cD n o).bind fun d => (elemOf' P t).bind fun e => (sz? P e).bind fun s => (zLV P e).bind fun z =>
      (if z.length = s ∧ 0 < s ∧ P.bytesOf e ≤ 128 then some () else none).bind fun _ => match l, c with
      | .tmp a, .tmp b => if a = b ∧ a < n then some (.mkslice d s z (.t a)) else none
      | _, _ => none
  | .makeFunc (.func f) first caps => (cD n o).bind fun d => if first.size = 0 then (cXs P n [] caps.toList).map fun cs => .mkfn d f false cs else if caps.size = 0 then (cXs P n [] first.toList).map fun cs => .mkfn d f true cs else none
  | .nilCheck x => (cD n o).bind fun d => (cX P n 0 x).map fun a => .nilchk d a
  | .convert s t x => match P.underlying s, P.underlying t with
    | some (.int _), some (.int k) => (cD n o).bind fun d => (cX P n 0 x).map fun a => .conv d k a
    | _, _ => none
  | .call c => match c.callee, c.args.toList, c.argTypes.toList with
    | .builtin .len, [x], [t] => match P.underlying t with
      | some .string => (cD n o).bind fun d => (cX P n t x).map fun a => .lenS d a
      | some (.slice _) => (cD n o).bind fun d => (cX P n t x).map fun a => .len d a
      | _ => none
    | .builtin .append, [x, y], [t, u] => match P.underlying u with
      | some (.slice _) => (cD n o).bind fun d => (elemOf' P t).bind fun e => (sz? P e).bind fun s => (zLV P e).bind fun z =>
        (if z.length = s ∧ 0 < s ∧ P.bytesOf e ≤ 128 then some () else none).bind fun _ => (cX P n t x).bind fun a => (cX P n t y).map fun b => .append d s a b
      | some (.int _) => (cD n o).bind fun d => (elemOf' P t).bind fun e => (sz? P e).bind fun s => (zLV P e).bind fun z =>
        (if z.length = s ∧ 0 < s ∧ P.bytesOf e ≤ 128 then some () else none).bind fun _ => (cX P n t x).bind fun a => (cX P n 0 y).map fun b => .growz d s a b
      | _ => none
    | .builtin .max, [x, y], _ => (cD n o).bind fun d => (cX P n 0 x).bind fun a => (cX P n 0 y).map fun b => .minmax d true a b
    | .builtin .min, [x, y], _ => (cD n o).bind fun d => (cX P n 0 x).bind fun a => (cX P n 0 y).map fun b => .minmax d false a b
    | .builtin .cap, [x], [t] => match P.underlying t with
      | some (.slice _) => (cD n o).bind fun d => (cX P n t x).map fun a => .cap d a
      | _ => none
    | .value f, xs, ts => (match o.dst with
        | none => some none
        | some d => if d < n then some (some d) else none).bind fun d => (cX P n 0 f).bind fun g => (cXs P n ts xs).map fun ys => I.call m0.rw d g ys
    | _, _, _ => none
  | _ => none
/-- the same, where an operation that has no instruction is one at which the proof must never come -/
def compileT (o : Oper) (m : Md) : Option I :=
  match compile P n o m with
  | some i => some i
  | none => match o.dst with
    | none => some (.bad none)
    | some d => if d < n then some (.bad (some d)) else none
end
end Go.TL
