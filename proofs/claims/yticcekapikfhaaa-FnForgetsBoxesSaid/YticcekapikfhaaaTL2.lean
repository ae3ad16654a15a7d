/- Instructions over trees: what each operation of the machine does to the slots' trees and the variables. Plain definitions. -/
import Derived.Test.YticcekapikfhaaaTL1
namespace Go.TL

structure St where
  t : Nat → LV
  h : List Box

/-- an operand: a slot, or a constant -/
inductive X where
  | t (i : Nat)
  | k (v : LV)
  deriving Inhabited

/-- how a value is read: as a copy that owns nothing, or with what it owns; or a variable is settled with it. A load: a copy; out of what is settled alone; with what it owns, which is then gone -/
inductive Md where
  | copy | take | frz
  deriving Inhabited

def Md.settled : Md → Bool
  | .take => true
  | _ => false
/-- of what make two values are that are compared -/
inductive Cm where
  | num | str | bool | ptr | slc
  deriving Inhabited

/-- a call: of a function that leaves the variables alone; of any; of one that turns one variable alone, whatever others there are -/
inductive Rw where
  | no | any | fr
  deriving Inhabited, DecidableEq
def Rw.mem : Rw → Bool
  | .no => false
  | _ => true

inductive I where
  | mv (d : Nat) (m : Md) (x : X)
  | box (d : Nat) (x : X)
  | alloc (d : Nat) (z : List LV)
  | load (d : Nat) (m : Md) (agg : Bool) (sz : Nat) (x : X)
  | store (sz : Nat) (x y : X)
  | bin (d : Nat) (c : Cm) (op : BinOp) (x y : X)
  | un (d : Nat) (op : UnOp) (x : X)
  | build (d : Nat) (z : List LV) (ps : List (Nat × Nat × X))
  | bslice (d : Nat) (sz len : Nat) (z : List LV) (ps : List (Nat × Nat × X))
  | slice (d : Nat) (sz : Nat) (x : X) (lo hi mx : Option X)
  | sliceS (d : Nat) (x : X) (lo hi : Option X)
  | fieldA (d : Nat) (off : Nat) (x : X)
  | field (d : Nat) (agg : Bool) (off sz : Nat) (x : X)
  | indexA (d : Nat) (sz : Nat) (x i : X)
  | indexS (d : Nat) (x i : X)
  | extract (d : Nat) (k : Nat) (x : X)
  | len (d : Nat) (x : X)
  | lenS (d : Nat) (x : X)
  | append (d : Nat) (sz : Nat) (x y : X)
  | mkslice (d : Nat) (sz : Nat) (z : List LV) (n : X)
  | minmax (d : Nat) (mx : Bool) (x y : X)
  | mkfn (d : Nat) (f : FuncId) (m : Bool) (caps : List X)
  | nilchk (d : Nat) (x : X)
  | conv (d : Nat) (k : IntKind) (x : X)
  | call (rw : Rw) (d : Option Nat) (f : X) (args : List X)
  | pick (d : Nat) (c x y : X)
  | bad (d : Option Nat)
  | cap (d : Nat) (x : X)
  | growz (d sz : Nat) (x n : X)
  | cut0 (d sz : Nat) (x hi : X)
  deriving Inhabited

def get (t : Nat → LV) : X → LV
  | .t i => t i
  | .k v => v
/-- the slots when what an operand's tree owns has been handed away -/
def give (t : Nat → LV) : X → (Nat → LV)
  | .t i => upd t i (share (t i))
  | .k _ => t
def giveAll (t : Nat → LV) : List X → (Nat → LV)
  | [] => t
  | x :: xs => giveAll (give t x) xs
def St.put (s : St) (d : Nat) (x : LV) : St := { s with t := upd s.t d x }
def St.give (s : St) (x : X) : St := { s with t := TL.give s.t x }

/-- the cells of a value -/
def LV.cells : LV → List LV
  | .agg xs => xs
  | x => [x]
def LV.flat : LV → Bool
  | .tup _ => false
  | .raw _ => false
  | .dead => false
  | .both _ _ => false
  | .sc u => u.oneCell'
  | _ => true
def LV.alive : LV → Bool
  | .dead => false
  | .both _ t => t.alive && (match t with
    | .raw _ => false
    | _ => true)
  | _ => true
def aliveAll : List LV → Bool
  | [] => true
  | x :: xs => x.alive && aliveAll xs
/-- a value out of cells -/
def ofCells (agg : Bool) (xs : List LV) : Option LV :=
  if agg then some (.agg xs) else match xs with
  | [x] => some x
  | _ => none
/-- cells ys from off on, in the place of what xs has there -/
def splice (xs : List LV) (off : Nat) (ys : List LV) : List LV := xs.take off ++ ys ++ xs.drop (off + ys.length)
def chunks (sz : Nat) : Nat → List LV → List (List LV)
  | 0, _ => []
  | n + 1, xs => xs.take sz :: chunks sz n (xs.drop sz)

def intBin (op : BinOp) (k : IntKind) (a b : Int) : Option Value :=
  match op with
  | .add => some (.int k (k.wrap (a + b)))
  | .sub => some (.int k (k.wrap (a - b)))
  | .mul => some (.int k (k.wrap (a * b)))
  | .quo => if b = 0 then none else some (.int k (k.wrap (a.tdiv b)))
  | .rem => if b = 0 then none else some (.int k (a.tmod b))
  | .and => some (.int k (k.wrap (BitVec.ofInt k.bits a &&& BitVec.ofInt k.bits b).toNat))
  | .or => some (.int k (k.wrap (BitVec.ofInt k.bits a ||| BitVec.ofInt k.bits b).toNat))
  | .xor => some (.int k (k.wrap (BitVec.ofInt k.bits a ^^^ BitVec.ofInt k.bits b).toNat))
  | .andNot => some (.int k (k.wrap (BitVec.ofInt k.bits a &&& ~~~BitVec.ofInt k.bits b).toNat))
  | .eql => some (.bool (a == b))
  | .neq => some (.bool (a != b))
  | .lss => some (.bool (a < b))
  | .leq => some (.bool (a ≤ b))
  | .gtr => some (.bool (a > b))
  | .geq => some (.bool (a ≥ b))
  | _ => none
def strBin (op : BinOp) (a b : ByteArray) : Option Value :=
  match op with
  | .add => if a.size + b.size ≤ 1099511627776 then some (.string (a ++ b)) else none
  | .eql => some (.bool (a.toList == b.toList))
  | .neq => some (.bool !(a.toList == b.toList))
  | .lss => some (.bool (Op.bytesLess a.toList b.toList))
  | .leq => some (.bool (Op.bytesLess a.toList b.toList || a.toList == b.toList))
  | .gtr => some (.bool !(Op.bytesLess a.toList b.toList || a.toList == b.toList))
  | .geq => some (.bool !(Op.bytesLess a.toList b.toList))
  | _ => none
/-- is a pointer nil? -/
def nilP : LV → Option Bool
  | .sc (.pointer none) => some true
  | .ptr _ _ => some false
  | .rp _ => some false
  | _ => none
/-- is a slice nil? -/
def nilS : LV → Option Bool
  | .sl _ nil _ _ => some nil
  | .ha _ _ _ _ _ => some false
  | _ => none
def neg (op : BinOp) (b : Bool) : Option Value :=
  match op with
  | .eql => some (.bool b)
  | .neq => some (.bool !b)
  | _ => none
def binLV (c : Cm) (op : BinOp) (x y : LV) : Option LV :=
  match c, x, y with
  | .num, .sc (.int k a), .sc (.int k' b) =>
    match op with
    | .shl => if b < 0 then none else some (.sc (.int k (k.wrap (a * 2 ^ (min b.toNat k.bits)))))
    | .shr => if b < 0 then none else some (.sc (.int k (a.fdiv (2 ^ (min b.toNat k.bits)))))
    | _ => if k = k' then (intBin op k a b).map .sc else none
  | .str, .sc (.string a), .sc (.string b) => (strBin op a b).map .sc
  | .bool, .sc (.bool a), .sc (.bool b) => (neg op (a == b)).map .sc
  | .ptr, x, .sc (.pointer none) => match nilP x with
    | some b => (neg op b).map .sc
    | none => none
  | .slc, x, .sl _ true _ [] => match nilS x with
    | some b => (neg op b).map .sc
    | none => none
  | _, _, _ => none
def unLV (op : UnOp) (x : LV) : Option LV :=
  match op, x with
  | .neg, .sc (.int k n) => some (.sc (.int k (k.wrap (0 - n))))
  | .not, .sc (.bool b) => some (.sc (.bool !b))
  | _, _ => none
def intOf (x : LV) : Option Int :=
  match x with
  | .sc (.int _ n) => some n
  | _ => none
def bound (t : Nat → LV) (d : Int) : Option X → Option Int
  | none => some d
  | some x => intOf (get t x)
def lenLV : LV → Option Nat
  | .sl _ _ _ xs => some xs.length
  | .ha _ _ _ n _ => some n
  | _ => none
def lenStr : LV → Option Nat
  | .sc (.string s) => some s.size
  | _ => none
/-- parts put into cells, each where it belongs -/
def fillLV (t : Nat → LV) : List LV → List (Nat × Nat × X) → Option (List LV)
  | zs, [] => some zs
  | zs, (off, sz, x) :: ps =>
    if (get t x).flat ∧ (get t x).cells.length = sz ∧ off + sz ≤ zs.length then fillLV (give t x) (splice zs off (get t x).cells) ps else none

/-- the most elements that a slice may come to have -/
def most : Nat := 1099511627776

/-- one instruction, but a call -/
def step (i : I) (s : St) : Option St :=
  match i with
  | .mv d .copy x => some (s.put d (share (get s.t x)))
  | .mv d .take x => some ((s.give x).put d (get s.t x))
  | .mv d .frz x =>
    match get s.t x with
    | .ptr l 0 => match s.h[l]? with
      | some (some xs) => some ({ s with h := s.h.set l none }.put d (.rp xs))
      | _ => none
    | .ha l sz 0 n cap => match s.h[l]? with
      | some (some xs) => if xs.length = cap * sz ∧ n ≤ cap then some ({ s with h := s.h.set l none }.put d (.sl true false sz (chunks sz n xs))) else none
      | _ => none
    | _ => none
  | .box d x => let v := get s.t x; if v.flat then some ({ (s.give x) with h := s.h ++ [some v.cells] }.put d (.ptr s.h.length 0)) else none
  | .alloc d z => some ({ s with h := s.h ++ [some z] }.put d (.ptr s.h.length 0))
  | .load d m agg sz x =>
    match get s.t x with
    | .ptr l o => if m.settled = true then none else match s.h[l]? with
      | some (some xs) => if o + sz ≤ xs.length ∧ aliveAll ((xs.drop o).take sz) = true then match ofCells agg ((xs.drop o).take sz) with
        | some v => match m with
          | .copy => some (s.put d (share v))
          | _ => some ({ s with h := s.h.set l (some (splice xs o (List.replicate sz .dead))) }.put d v)
        | none => none
        else none
      | _ => none
    | .rp ys => if sz ≤ ys.length then match ofCells agg (ys.take sz) with
      | some v => some (s.put d (share v))
      | none => none
      else none
    | _ => none
  | .store sz x y =>
    match get s.t x with
    | .ptr l o => match s.h[l]? with
      | some (some xs) => let v := get s.t y; if v.flat ∧ v.cells.length = sz ∧ o + sz ≤ xs.length then some { (s.give y) with h := s.h.set l (some (splice xs o v.cells)) } else none
      | _ => none
    | _ => none
  | .bin d c op x y => (binLV c op (get s.t x) (get s.t y)).map (s.put d)
  | .un d op x => (unLV op (get s.t x)).map (s.put d)
  | .build d z ps => (fillLV s.t z ps).map fun zs => ({ s with t := giveAll s.t (ps.map fun p => p.2.2) } : St).put d (.agg zs)
  | .bslice d sz len z ps => (fillLV s.t z ps).map fun zs => ({ s with t := giveAll s.t (ps.map fun p => p.2.2) } : St).put d (.sl true false sz (chunks sz len zs))
  | .slice d sz x lo hi mx =>
    match get s.t x with
    | .sl _ nil sz' xs => match bound s.t 0 lo, bound s.t xs.length hi, bound s.t xs.length mx with
      | some l, some h, some m => if sz' = sz ∧ 0 ≤ l ∧ l ≤ h ∧ h ≤ m ∧ m ≤ xs.length then some (s.put d (.sl (mx.isSome && decide (l = m)) nil sz (shareRow ((xs.take h.toNat).drop l.toNat)))) else none
      | _, _, _ => none
    | .ha b sz' off n cap => match bound s.t 0 lo, bound s.t n hi, bound s.t n mx with
      | some l, some h, some _ => if sz' = sz ∧ l = 0 ∧ 0 ≤ h ∧ h ≤ n ∧ n ≤ cap ∧ mx.isSome = false then some (s.put d (.ha b sz off h.toNat cap)) else none
      | _, _, _ => none
    | _ => none
  | .sliceS d x lo hi =>
    match get s.t x with
    | .sc (.string b) => match bound s.t 0 lo, bound s.t b.size hi with
      | some l, some h => if 0 ≤ l ∧ l ≤ h ∧ h ≤ b.size then some (s.put d (.sc (.string (b.extract l.toNat h.toNat)))) else none
      | _, _ => none
    | _ => none
  | .fieldA d off x =>
    match get s.t x with
    | .ptr l o => some (s.put d (.ptr l (o + off)))
    | .rp ys => if off ≤ ys.length then some (s.put d (share (.rp (ys.drop off)))) else none
    | _ => none
  | .field d agg off sz x =>
    match get s.t x with
    | .agg xs => if off + sz ≤ xs.length then match ofCells agg ((xs.drop off).take sz) with
      | some v => some (s.put d (share v))
      | none => none
      else none
    | _ => none
  | .indexA d sz x i =>
    match get s.t x, intOf (get s.t i) with
    | .sl _ _ sz' xs, some i => if sz' = sz ∧ 0 ≤ i ∧ i < xs.length then some (s.put d (share (.rp (xs.getD i.toNat [])))) else none
    | .ha l sz' off n _, some i => if sz' = sz ∧ 0 ≤ i ∧ i < n then some (s.put d (.ptr l ((off + i.toNat) * sz))) else none
    | _, _ => none
  | .indexS d x i =>
    match get s.t x, intOf (get s.t i) with
    | .sc (.string b), some i => if 0 ≤ i ∧ i < b.size then some (s.put d (.sc (.int .u8 ((b.data.toList.getD i.toNat 0).toNat : Int)))) else none
    | _, _ => none
  | .extract d k x =>
    match get s.t x with
    | .tup xs => match xs[k]? with
      | some v => match x with
        | .t i => some ({ s with t := upd s.t i (.tup (xs.set k (share v))) }.put d v)
        | .k _ => none
      | none => none
    | _ => none
  | .len d x => (lenLV (get s.t x)).map fun (n : Nat) => s.put d (.sc (.int .i64 (n : Int)))
  | .lenS d x => (lenStr (get s.t x)).map fun (n : Nat) => s.put d (.sc (.int .i64 (n : Int)))
  | .append d sz x y =>
    match get s.t x, get (give s.t x) y with
    | .sl u nil sz' xs, .sl _ nil2 sz2 ys =>
      if (u = true ∨ nil = true ∨ ys = []) ∧ (sz' = sz ∨ nil = true) ∧ (sz2 = sz ∨ nil2 = true) ∧ xs.length + ys.length ≤ most then
        some (((s.give x).give y).put d (.sl (u || !ys.isEmpty) (nil && ys.isEmpty) sz (xs ++ ys))) else none
    | _, _ => none
  | .mkslice d sz z n =>
    match intOf (get s.t n) with
    | some n => if 0 ≤ n ∧ n ≤ most then some ({ s with h := s.h ++ [some (List.replicate n.toNat z).flatten] }.put d (.ha s.h.length sz 0 n.toNat n.toNat)) else none
    | none => none
  | .minmax d mx x y =>
    match get s.t x, get s.t y with
    | .sc (.int k a), .sc (.int _ b) => some (s.put d (.sc (.int k (if (if mx then b > a else b < a) then b else a))))
    | _, _ => none
  | .mkfn d f m caps => some (s.put d (if m = true then .fnm f (caps.map fun c => share (get s.t c)) else .fn f (caps.map fun c => share (get s.t c))))
  | .nilchk d x => match get s.t x with
    | .ptr l o => some (s.put d (share (.ptr l o)))
    | .rp ys => some (s.put d (share (.rp ys)))
    | .fn f caps => some (s.put d (share (.fn f caps)))
    | .fnm f caps => some (s.put d (share (.fnm f caps)))
    | _ => none
  | .conv d k x => (intOf (get s.t x)).map fun n => s.put d (.sc (.int k (k.wrap n)))
  | .call _ _ _ _ => none
  | .pick d c x y => match get s.t c with
    | .sc (.bool b) => some (s.put d (share (get s.t (if b = true then x else y))))
    | _ => none
  | .bad _ => none
  | .cap d x => match get s.t x with
    | .sl _ true _ _ => some (s.put d (.sc (.int .i64 0)))
    | _ => none
  | .growz d sz x n => match get s.t x, intOf (get s.t n) with
    | .sl _ true _ _, some n => if 0 < n ∧ n ≤ most then some (s.put d (.raw sz)) else none
    | _, _ => none
  | .cut0 d sz x hi => match get s.t x, intOf (get s.t hi) with
    | .raw sz', some n => if sz' = sz ∧ n = 0 then some ((s.give x).put d (.sl true false sz [])) else none
    | _, _ => none

end Go.TL
