/- The abstract machine: its operations. -/
import Derived.Test.YtkgdkommahgakaaDoorAbs2
import Derived.Laws.Cells
import Derived.ChangeKeysEq
namespace Go.Proofs.YtkgdkommahgakaaDoor.Abs
open Go Go.RowKit
set_option linter.unusedVariables false

/-- An operand's value. -/
def aev (P : Program) (T : Nat → Value) : Operand → Value
  | .tmp t => T t
  | .const v => if scal v then v else junk
  | .global g => if g < P.globals.size then .pointer (some ⟨g, 0, none⟩) else junk
  | .func f => .func (.func f) #[] #[]

section
variable (P : Program)
def aggT (t : TypeId) : Option Bool := (P.underlying t).map fun | .struct _ => true | .array _ _ => true | _ => false
def tzero (t : TypeId) : Option Value := (P.info? t).bind (·.zero)
def newPtr (σ : Heap) : Value := .pointer (some ⟨σ.length, 0, none⟩)
def setAll : List Value → Nat → List Value → List Value
  | cs, _, [] => cs
  | cs, o, v :: vs => setAll (cs.set o v) (o + 1) vs

def aload (σ : Heap) (t : TypeId) : Value → Option Value
  | .pointer (some ⟨n, o, none⟩) => (look σ n).bind fun b => (aggT P t).bind fun g =>
      if g = true then (if o + P.cellsOf t ≤ b.cells.length then some (.agg ((b.cells.drop o).take (P.cellsOf t)).toArray) else none) else b.cells[o]?
  | _ => none
def astore (σ : Heap) (t : TypeId) (a v : Value) : Option Heap :=
  match a with
  | .pointer (some ⟨n, o, none⟩) => (look σ n).bind fun b =>
      if b.own = true ∧ (P.info? t).isSome = true ∧ v.cells.size = P.cellsOf t ∧ o + v.cells.size ≤ b.cells.length ∧ v.cells.all (·.oneCell') = true then
        some (σ.set n (some { b with cells := setAll b.cells o v.cells.toList })) else none
  | _ => none
def afill (place : Nat → Option (Nat × Nat)) : List Value → List (Nat × Value) → Option (List Value)
  | cs, [] => some cs
  | cs, (i, v) :: rest => (place i).bind fun p =>
      if v.cells.size = p.2 ∧ p.1 + v.cells.size ≤ cs.length ∧ v.cells.all (·.oneCell') = true then afill place (setAll cs p.1 v.cells.toList) rest else none
def abuild (t : TypeId) (parts : List (Nat × Value)) : Option Value :=
  match P.underlying t with
  | some (.struct fs) => if fs.all (fun f => (P.info? f.type).isSome) = true then
      (tzero P t).bind fun z => if z.cells.all scal = true then (afill (fun i => (fs[i]?).map fun f => (f.offset, P.cellsOf f.type)) z.cells.toList parts).map fun cs => .agg cs.toArray else none else none
  | _ => none
def abuildSlice (σ : Heap) (t : TypeId) (len : Nat) (parts : List (Nat × Value)) : Option (Value × Heap) :=
  match P.underlying t with
  | some (.slice e) => if (P.info? e).isSome = true ∧ len * P.cellsOf e ≤ 16777216 then
      (tzero P e).bind fun z => if z.cells.size = P.cellsOf e ∧ 0 < P.cellsOf e ∧ z.cells.all scal = true then
        (afill (fun i => some (i * P.cellsOf e, P.cellsOf e)) (List.replicate len z.cells.toList).flatten parts).map fun cs =>
          (.slice (some ⟨σ.length, 0, none⟩) len len, σ ++ [some ⟨cs, true, P.cellsOf e⟩]) else none else none
  | _ => none
def amakeSlice (σ : Heap) (t : TypeId) (n m : Value) : Option (Value × Heap) :=
  match P.underlying t, n, m with
  | some (.slice e), .int _ n, .int _ m => if (P.info? e).isSome = true ∧ 0 ≤ n ∧ n ≤ m ∧ m ≤ 140737488355328 ∧ m * P.bytesOf e ≤ 140737488355328 then
      (tzero P e).bind fun z => if z.cells.size = P.cellsOf e ∧ 0 < P.cellsOf e ∧ z.cells.all scal = true then
        some (.slice (some ⟨σ.length, 0, none⟩) n.toNat (if n = m then n.toNat else n.toNat + 1), σ ++ [some ⟨(List.replicate n.toNat z.cells.toList).flatten, true, P.cellsOf e⟩]) else none else none
  | _, _, _ => none
def asI : Value → Option Int
  | .int _ n => some n
  | _ => none
/-- A bound of a slice expression: what is written there, or what stands for it. -/
def abound (v : Option Value) (d : Int) : Option Int := match v with | some v => asI v | none => some d
/-- A block that has elements of this size. -/
def sliceable (σ : Heap) (sz : Nat) : Option Addr → Bool
  | some ⟨n, _, none⟩ => match look σ n with | some b => !b.own || b.sz == sz | none => false
  | _ => false
def aslice (σ : Heap) (t : TypeId) (x : Value) (lo hi mx : Option Value) : Option Value :=
  match P.underlying t, x with
  | some .string, .string s => (abound lo 0).bind fun l => (abound hi s.size).bind fun h =>
      if mx.isNone = true ∧ 0 ≤ l ∧ l ≤ h ∧ h ≤ s.size then some (.string (s.extract l.toNat h.toNat)) else none
  | some (.slice e), .slice a len c => if (P.info? e).isSome = true then (abound lo 0).bind fun l => (abound hi len).bind fun h => (abound mx len).bind fun m =>
      if (0 ≤ l ∧ l ≤ h ∧ h ≤ m ∧ m ≤ len ∧ (mx.isSome = true → hi.isSome = true)) ∧ (l = 0 ∨ sliceable σ (P.cellsOf e) a = true) then
        some (.slice (a.map fun ad => { ad with off := ad.off + l.toNat * P.cellsOf e }) (h - l).toNat
          (if a.isNone = true then 0 else if l < h ∧ ((mx.isSome = true ∧ m = h) ∨ (mx.isSome = false ∧ h = len ∧ c = len)) then (h - l).toNat else (h - l).toNat + 1)) else none else none
  | _, _ => none
def afieldAddr (s : TypeId) (x : Value) (f : Nat) : Option Value :=
  match P.underlying s, x with
  | some (.struct fs), .pointer (some ⟨n, o, none⟩) => (fs[f]?).bind fun fl => if P.cellsOf fl.type = 0 then none else some (.pointer (some ⟨n, o + fl.offset, none⟩))
  | _, _ => none
def apart (t : TypeId) (cs : Array Value) (off : Nat) : Option Value :=
  (aggT P t).bind fun g => if g = true then some (.agg (cs.extract off (off + P.cellsOf t))) else cs[off]?
def afield (s : TypeId) (x : Value) (f : Nat) : Option Value :=
  match P.underlying s, x with
  | some (.struct fs), .agg cs => (fs[f]?).bind fun fl => apart P fl.type cs fl.offset
  | _, _ => none
def aindexAddr (t : TypeId) (x i : Value) : Option Value :=
  match P.underlying t, x, i with
  | some (.slice e), .slice (some ⟨n, o, none⟩) len _, .int _ i => if (P.info? e).isSome = true ∧ 0 ≤ i ∧ i < len then some (.pointer (some ⟨n, o + i.toNat * P.cellsOf e, none⟩)) else none
  | some (.array len e), .pointer (some ⟨n, o, none⟩), .int _ i => if (P.info? e).isSome = true ∧ 0 ≤ i ∧ i < len then some (.pointer (some ⟨n, o + i.toNat * P.cellsOf e, none⟩)) else none
  | _, _, _ => none
def aindex (t : TypeId) (x i : Value) : Option Value :=
  match P.underlying t, x, i with
  | some .string, .string s, .int _ i => if 0 ≤ i then (s.data[i.toNat]?).map fun b => .int .u8 b.toNat else none
  | some (.array len e), .agg cs, .int _ i => if (P.info? e).isSome = true ∧ 0 ≤ i ∧ i < len then apart P e cs (i.toNat * P.cellsOf e) else none
  | _, _, _ => none
def aextract : Value → Nat → Option Value
  | .tuple vs, i => if 2 ≤ vs.size then vs[i]? else none
  | _, _ => none
def anilCheck : Value → Option Value
  | .pointer (some a) => some (.pointer (some a))
  | .func (.func f) a b => some (.func (.func f) a b)
  | _ => none
def aconvert (src dst : TypeId) (x : Value) : Option Value :=
  match P.underlying src, P.underlying dst, x with
  | some _, some (.int k), .int _ n => some (.int k (k.wrap n))
  | some _, some .string, .string s => some (.string s)
  | _, _, _ => none
def amakeInterface (t : TypeId) (x : Value) : Option Value :=
  match P.underlying t with
  | some (.interface _) => none
  | some _ => some (.iface t x)
  | none => none
def aunary : UnOp → Value → Option Value
  | .neg, .int k n => some (.int k (k.wrap (0 - n)))
  | .xor, .int k n => some (.int k (Go.bits .xor k (if k.signed then -1 else k.max) n))
  | .not, .bool b => some (.bool !b)
  | _, _ => none
def aintOp (op : BinOp) (k : IntKind) (a b : Int) : Option Value :=
  match op with
  | .add => some (.int k (k.wrap (a + b)))
  | .sub => some (.int k (k.wrap (a - b)))
  | .mul => some (.int k (k.wrap (a * b)))
  | .quo => if b = 0 then none else some (.int k (k.wrap (a.tdiv b)))
  | .rem => if b = 0 then none else some (.int k (a.tmod b))
  | .and => some (.int k (Go.bits .and k a b))
  | .or => some (.int k (Go.bits .or k a b))
  | .xor => some (.int k (Go.bits .xor k a b))
  | .andNot => some (.int k (Go.bits .andNot k a b))
  | .shl => if b < 0 then none else some (.int k (k.wrap (a * 2 ^ (min b.toNat k.bits))))
  | .shr => if b < 0 then none else some (.int k (a.fdiv (2 ^ (min b.toNat k.bits))))
  | .eql => some (.bool (decide (a = b)))
  | .neq => some (.bool (decide (a ≠ b)))
  | .lss => some (.bool (decide (a < b)))
  | .leq => some (.bool (decide (a ≤ b)))
  | .gtr => some (.bool (decide (b < a)))
  | .geq => some (.bool (decide (b ≤ a)))
def astrOp (op : BinOp) (a b : ByteArray) : Option Value :=
  match op with
  | .add => if ((a.size + b.size : Nat) : Int) ≤ 9223372036854775807 then some (.string (a ++ b)) else none
  | .eql => some (.bool (decide (a = b)))
  | .neq => some (.bool (decide (a ≠ b)))
  | .lss => some (.bool (Op.bytesLess a.toList b.toList))
  | _ => none
/-- '==' of two values of a type. -/
def aeq : Nat → TypeId → Value → Value → Option Bool
  | 0, _, _, _ => none
  | d + 1, t, x, y =>
    match P.underlying t, x, y with
    | some .bool, .bool a, .bool b => some (decide (a = b))
    | some (.int _), .int k a, .int k' b => if k = k' then some (decide (a = b)) else none
    | some .string, .string a, .string b => some (decide (a = b))
    | some (.pointer _), .pointer none, .pointer b => some b.isNone
    | some (.pointer _), .pointer (some _), .pointer none => some false
    | some (.slice _), .slice none 0 0, .slice none 0 0 => some true
    | some (.slice _), .slice (some _) (_ + 1) _, .slice none 0 0 => some false
    | some (.slice _), .slice (some _) 0 0, .slice none 0 0 => some false
    | some (.interface _), .iface _ _, .nilIface => some false
    | some (.interface _), .nilIface, .iface _ _ => some false
    | some (.func _ _ _), .func _ _ _, .nilFunc => some false
    | some (.func _ _ _), .nilFunc, .nilFunc => some true
    | some (.struct fs), .agg xs, .agg ys => if P.stoodInHeld t = false ∧ fs.all (fun f => (P.info? f.type).isSome && f.name != "_") = true then
        fs.toList.foldr (fun f (r : Option Bool) => ((apart P f.type xs f.offset).bind fun u => (apart P f.type ys f.offset).bind fun v => aeq d f.type u v).bind fun e => if e = true then r else some false) (some true) else none
    | _, _, _ => none
/-- What '==' asks of the literal nil is asked of the operands' texts. -/
def constOp : Operand → Bool
  | .const _ => true
  | _ => false
def aguardEq (t : TypeId) (x y : Operand) : Value → Value → Bool
  | .nilIface, .nilIface => constOp x || constOp y
  | .agg _, .agg _ => !(P.eqGuardType P.depth t)
  | .agg _, _ => false
  | _, _ => true
def aguard (op : BinOp) (t : TypeId) (x y : Operand) (a b : Value) : Bool :=
  match op with
  | .eql | .neq => aguardEq P t x y a b
  | _ => true
def abin (op : BinOp) (t : TypeId) (x y : Value) : Option Value :=
  match x, y with
  | .int k a, .int k' b => if k = k' ∨ op = .shl ∨ op = .shr then aintOp op k a b else none
  | .string a, .string b => astrOp op a b
  | x, y => match op with
    | .eql => (aeq P 10000 t x y).map fun b => .bool b
    | .neq => (aeq P 10000 t x y).map fun b => .bool (!b)
    | _ => none
def alen (argTypes : Array TypeId) (args : List Value) : Option Value :=
  match ((argTypes[0]?).bind P.underlying : Option TypeDesc), (args[0]? : Option Value) with
  | some .string, some (.string s) => some (.int .i64 s.size)
  | some (.slice _), some (.slice _ n _) => some (.int .i64 n)
  | _, _ => none
/-- The cells that an append takes. -/
def asrc (σ : Heap) (sz : Nat) : Value → Option (Nat × List Value)
  | .slice _ 0 _ => some (0, [])
  | .slice (some ⟨n, o, none⟩) len _ => (look σ n).bind fun b => if o + len * sz ≤ b.cells.length then some (len, (b.cells.drop o).take (len * sz)) else none
  | .string s => if sz = 1 then some (s.size, s.data.toList.map fun b => .int .u8 b.toNat) else none
  | _ => none
def srcOk (e : TypeId) : TypeDesc → Bool
  | .slice _ => true
  | .string => P.cellsOf e == 1
  | _ => false
def aappend (σ : Heap) (argTypes : Array TypeId) (s x : Value) : Option (Value × Heap) :=
  match ((argTypes[0]?).bind P.underlying : Option TypeDesc), ((argTypes[1]?).bind P.underlying : Option TypeDesc) with
  | some (.slice e), some xt => if (P.info? e).isSome = true ∧ srcOk P e xt = true then
      (tzero P e).bind fun z => if z.cells.size = P.cellsOf e ∧ 0 < P.cellsOf e ∧ 0 < P.bytesOf e then
      (asrc σ (P.cellsOf e) x).bind fun new =>
      match s with
      | .slice a len c =>
        if (len + new.1 + 410) * P.bytesOf e ≤ 225179981368524 then
          if len = 0 ∧ c = 0 then some (.slice (some ⟨σ.length, 0, none⟩) new.1 (new.1 + 1), σ ++ [some ⟨new.2, true, P.cellsOf e⟩])
          else match a with
          | some ⟨n, o, none⟩ => (look σ n).bind fun b => if b.own = true ∧ b.sz = P.cellsOf e ∧ b.cells.length = o + len * P.cellsOf e then
              some (.slice (some ⟨σ.length, 0, none⟩) (len + new.1) (len + new.1 + 1), (σ.set n none) ++ [some ⟨b.cells.drop o ++ new.2, true, P.cellsOf e⟩]) else none
          | _ => none
        else none
      | _ => none else none else none
  | _, _ => none

/-- An operation that is no call of a function: the value that it leaves, and the heap. -/
def aop (ρ : Operand → Value) (σ : Heap) : Op → Option (Value × Heap)
  | .move x => some (ρ x, σ)
  | .assign x => some (ρ x, σ)
  | .pick c a b => match ρ c with | .bool t => some (if t then ρ a else ρ b, σ) | _ => none
  | .alloc t => if (P.info? t).isSome = true then (tzero P t).bind fun z => if z.cells.all scal = true then some (newPtr σ, σ ++ [some ⟨z.cells.toList, true, 0⟩]) else none else none
  | .box t x => if (ρ x).cells.all (·.oneCell') = true then some (newPtr σ, σ ++ [some ⟨(ρ x).cells.toList, true, 0⟩]) else none
  | .build t parts => (abuild P t (parts.toList.map fun p => (p.1, ρ p.2))).map (·, σ)
  | .buildSlice t len parts => abuildSlice P σ t len (parts.toList.map fun p => (p.1, ρ p.2))
  | .load t a => (aload P σ t (ρ a)).map (·, σ)
  | .store t a x => (astore P σ t (ρ a) (ρ x)).map (undef, ·)
  | .nilCheck x => (anilCheck (ρ x)).map (·, σ)
  | .binOp op t x y _ => if aguard P op t x y (ρ x) (ρ y) = true then (abin P op t (ρ x) (ρ y)).map (·, σ) else none
  | .unOp op _ x => (aunary op (ρ x)).map (·, σ)
  | .convert s d x => (aconvert P s d (ρ x)).map (·, σ)
  | .makeInterface t x => (amakeInterface P t (ρ x)).map (·, σ)
  | .makeFunc f a b => some (.func f (a.map ρ) (b.map ρ), σ)
  | .makeSlice t n m => amakeSlice P σ t (ρ n) (ρ m)
  | .slice t x lo hi mx => (aslice P σ t (ρ x) (lo.map ρ) (hi.map ρ) (mx.map ρ)).map (·, σ)
  | .fieldAddr s x f => (afieldAddr P s (ρ x) f).map (·, σ)
  | .field s x f => (afield P s (ρ x) f).map (·, σ)
  | .indexAddr t x i => (aindexAddr P t (ρ x) (ρ i)).map (·, σ)
  | .index t x i => (aindex P t (ρ x) (ρ i)).map (·, σ)
  | .extract x i => (aextract (ρ x) i).map (·, σ)
  | .call c => match c.callee with
    | .builtin .len => (alen P c.argTypes (c.args.toList.map ρ)).map (·, σ)
    | .builtin .append => match c.args.toList with
      | [s, x] => aappend P σ c.argTypes (ρ s) (ρ x)
      | _ => none
    | _ => none
  | _ => none
/-- An operation that looks at no memory. -/
def heapFree : Op → Bool
  | .move _ | .assign _ | .pick .. | .build .. | .nilCheck _ | .binOp .. | .unOp .. | .convert .. | .makeInterface .. | .makeFunc .. | .fieldAddr .. | .field .. | .indexAddr .. | .index .. | .extract .. => true
  | .call { callee := .builtin .len, .. } => true
  | _ => false
end
end Go.Proofs.YtkgdkommahgakaaDoor.Abs
