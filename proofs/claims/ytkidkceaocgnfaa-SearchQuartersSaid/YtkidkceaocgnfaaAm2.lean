/-
  Am2: operations that only make a value: what they come to on abstract values.
-/
import Derived.Test.YtkidkceaocgnfaaAm1
import Derived.Laws.Sem
import Derived.Laws.Bits
set_option linter.all false
namespace Go.Am

/-! ### numbers -/
def andI (k : IntKind) (a b : Int) : Int := k.wrap ((BitVec.ofInt k.bits a &&& BitVec.ofInt k.bits b).toNat : Nat)
def orI (k : IntKind) (a b : Int) : Int := k.wrap ((BitVec.ofInt k.bits a ||| BitVec.ofInt k.bits b).toNat : Nat)
def xorI (k : IntKind) (a b : Int) : Int := k.wrap ((BitVec.ofInt k.bits a ^^^ BitVec.ofInt k.bits b).toNat : Nat)
def andNotI (k : IntKind) (a b : Int) : Int := k.wrap ((BitVec.ofInt k.bits a &&& ~~~BitVec.ofInt k.bits b).toNat : Nat)
def shlI (k : IntKind) (a b : Int) : Int := k.wrap (a * 2 ^ (min b.toNat k.bits))
def shrI (k : IntKind) (a b : Int) : Int := a.fdiv (2 ^ (min b.toNat k.bits))
def fOrd (k : FloatKind) (a b : Nat) : Option Ordering := k.format.order a b
def fEq (k : FloatKind) (a b : Nat) : Bool := k.format.order a b == some .eq
def fLt (k : FloatKind) (a b : Nat) : Bool := k.format.order a b == some .lt
def fGt (k : FloatKind) (a b : Nat) : Bool := k.format.order a b == some .gt
def fAdd (k : FloatKind) (a b : Nat) (K : Nat → Prop) : Prop := match k.format.add a b with | some r => K r | none => False
def fSub (k : FloatKind) (a b : Nat) (K : Nat → Prop) : Prop := match k.format.sub a b with | some r => K r | none => False
def nz (b : Int) (K : Prop) : Prop := gd (b ≠ 0) K
def nn (b : Int) (K : Prop) : Prop := gd (0 ≤ b) K
def strEq (a b : ByteArray) : Bool := a.toList == b.toList

def intOp (op : BinOp) (k : IntKind) (a b : Int) (kv : Value → Prop) : Prop :=
  match op with
  | .add => kv (.int k (k.wrap (a + b)))
  | .sub => kv (.int k (k.wrap (a - b)))
  | .mul => kv (.int k (k.wrap (a * b)))
  | .quo => nz b (kv (.int k (k.wrap (a.tdiv b))))
  | .rem => nz b (kv (.int k (a.tmod b)))
  | .and => kv (.int k (andI k a b))
  | .or => kv (.int k (orI k a b))
  | .xor => kv (.int k (xorI k a b))
  | .andNot => kv (.int k (andNotI k a b))
  | .eql => kv (.bool (a == b))
  | .neq => kv (.bool (a != b))
  | .lss => kv (.bool (decide (a < b)))
  | .leq => kv (.bool (decide (a ≤ b)))
  | .gtr => kv (.bool (decide (a > b)))
  | .geq => kv (.bool (decide (a ≥ b)))
  | _ => False

/-- a value reckoned by the model's own words, of operands that are what they are -/
def pureR {α : Type} (P : Program) : Sem α → Option α
  | .pure a => some a
  | .program k => pureR P (k P)
  | _ => none
theorem pureR_run {α : Type} {P : Program} : ∀ {s : Sem α} {r : α}, pureR P s = some r → ∀ w, s.run P w = .ok r w := by
  intro s
  induction s with
  | pure a => intro r h w; simp only [pureR, Option.some.injEq] at h; subst h; rfl
  | program k ih => intro r h w; simp only [pureR] at h; simp only [Sem.run]; exact ih P h w
  | _ => intro r h; simp [pureR] at h

/-- '==' of structs and arrays of plain cells -/
def eqA (P : Program) (op : BinOp) (t : TypeId) (x y : Operand) (xs ys : List Value) (K : Bool → Prop) : Prop :=
  (xs.all atomV = true ∧ ys.all atomV = true) ∧ ∃ b, pureR P (do eqGuard op t x y (.agg ⟨xs⟩) (.agg ⟨ys⟩); binOp op t (.agg ⟨xs⟩) (.agg ⟨ys⟩)) = some (.bool b) ∧ K b

def binV (P : Program) (op : BinOp) (t : TypeId) (ox oy : Operand) (x y : Value) (kv : Value → Prop) : Prop :=
  match x, y with
  | .int k a, .int k' b =>
    match op with
    | .shl => nn b (kv (.int k (shlI k a b)))
    | .shr => nn b (kv (.int k (shrI k a b)))
    | op => if k = k' then intOp op k a b kv else False
  | .bool a, .bool b =>
    match op, P.underlying t with
    | .eql, some .bool => kv (.bool (a == b))
    | .neq, some .bool => kv (.bool (!(a == b)))
    | _, _ => False
  | .float k a, .float k' b =>
    if k = k' then
      match op with
      | .eql => kv (.bool (fEq k a b))
      | .neq => kv (.bool (!fEq k a b))
      | .lss => kv (.bool (fLt k a b))
      | .gtr => kv (.bool (fGt k a b))
      | .add => fAdd k a b fun r => kv (.float k r)
      | .sub => fSub k a b fun r => kv (.float k r)
      | _ => False
    else False
  | .complex .f64 a b, .complex .f64 c d =>
    match op with
    | .eql => kv (.bool (fEq .f64 a c && fEq .f64 b d))
    | .neq => kv (.bool (!(fEq .f64 a c && fEq .f64 b d)))
    | .add => fAdd .f64 a c fun r => fAdd .f64 b d fun i => kv (.complex .f64 r i)
    | .sub => fSub .f64 a c fun r => fSub .f64 b d fun i => kv (.complex .f64 r i)
    | _ => False
  | .string a, .string b =>
    match op with
    | .eql => kv (.bool (strEq a b))
    | .neq => kv (.bool (!strEq a b))
    | _ => False
  | .agg xs, .agg ys =>
    match op with
    | .eql => eqA P .eql t ox oy xs.toList ys.toList fun b => kv (.bool b)
    | .neq => eqA P .neq t ox oy xs.toList ys.toList fun b => kv (.bool b)
    | _ => False
  | .pointer a, .pointer none =>
    match op, P.underlying t with
    | .eql, some (.pointer _) => kv (.bool a.isNone)
    | .neq, some (.pointer _) => kv (.bool (!a.isNone))
    | _, _ => False
  | _, _ => False

def unV (op : UnOp) (x : Value) (kv : Value → Prop) : Prop :=
  match op, x with
  | .neg, .int k a => kv (.int k (k.wrap (0 - a)))
  | .not, .bool b => kv (.bool (!b))
  | _, _ => False

def f2i (k : IntKind) (b : Nat) (K : Int → Prop) : Prop :=
  match (FloatKind.f64.decode b).toInt .zero with
  | some n => (k.min ≤ n ∧ n ≤ k.max) ∧ K n
  | none => False

def convV (P : Program) (dst : TypeId) (x : Value) (kv : Value → Prop) : Prop :=
  match P.underlying dst, x with
  | some (.int k), .int _ n => kv (.int k (k.wrap n))
  | some (.float .f64), .int _ n => kv (.float .f64 (FloatKind.f64.nearest n))
  | some (.int k), .float .f64 b => f2i k b fun n => kv (.int k n)
  | _, _ => False

def mxI (x y : Int) : Int := if y > x then y else x
def mnI (x y : Int) : Int := if y < x then y else x

def foldInt (f : Int → Int → Int) (k : IntKind) (kv : Value → Prop) : Int → List Value → Prop
  | x, [] => kv (.int k x)
  | x, .int k' y :: r => if k' = k then foldInt f k kv (f x y) r else False
  | _, _ => False

def builtinV (P : Program) (b : Builtin) (ts : Array TypeId) (args : List Value) (kv : Value → Prop) : Prop :=
  match b, args with
  | .len, [x] =>
    match ts[0]? with
    | some t =>
      match P.underlying t, x with
      | some (.slice _), .slice _ n _ => kv (.int .i64 n)
      | some .string, .string s => kv (.int .i64 s.size)
      | some (.array n _), _ => kv (.int .i64 n)
      | some (.pointer arr), _ => match P.underlying arr with | some (.array n _) => kv (.int .i64 n) | _ => False
      | _, _ => False
    | none => False
  | .max, .int k x :: r => foldInt mxI k kv x r
  | .min, .int k x :: r => foldInt mnI k kv x r
  | .real, [.complex .f64 a _] => kv (.float .f64 a)
  | .imag, [.complex .f64 _ b] => kv (.float .f64 b)
  | .complex, [.float .f64 a, .float .f64 b] => kv (.complex .f64 a b)
  | _, _ => False

def foff (P : Program) (s : TypeId) (f : Nat) : Option (Nat × TypeId) :=
  match P.underlying s with
  | some (.struct fs) =>
    match fs[f]? with
    | some f => match P.info? f.type with | some i => if i.size = 0 then none else some (f.offset, f.type) | none => none
    | none => none
  | _ => none
/-- how many cells a type's values have -/
def szT (P : Program) (t : TypeId) (K : Nat → Prop) : Prop := match P.info? t with | some i => K i.size | none => False

/-- a type's zero value, as cells -/
def zc (P : Program) (t : TypeId) : List Value := match (P.info? t).bind (·.zero) with | some z => z.cells.toList | none => []
def zOK (P : Program) (t : TypeId) : Bool := match (P.info? t).bind (·.zero) with | some z => z.cells.toList.all atomV && z.cells.size == P.cellsOf t | none => false

/-- a struct's or an array's cells out of its parts, told in order; what is left out is as in the zero value z -/
def buildL (ev : Operand → Value) (z : List Value) (tot : Nat) : Nat → Nat → List (Nat × Nat) → List (Nat × Operand) → (List Value → Prop) → Prop
  | _, o, _, [], K => K (z.drop o)
  | _, _, [], _ :: _, _ => False
  | i, o, (off, n) :: pl, (j, x) :: ps, K =>
    if off = o ∧ o + n ≤ tot then
      if j = i then
        match ev x with
        | .agg cs => gd (cs.toList.length = n) (buildL ev z tot (i + 1) (o + n) pl ps fun r => K (cs.toList ++ r))
        | v => if isVal v && cellV v && n == 1 then buildL ev z tot (i + 1) (o + n) pl ps fun r => K (v :: r) else False
      else buildL ev z tot (i + 1) (o + n) pl ((j, x) :: ps) fun r => K ((z.drop o).take n ++ r)
    else False

def placesOf (P : Program) (t : TypeId) : Option (List (Nat × Nat)) :=
  match P.underlying t with
  | some (.struct fs) => if fs.toList.all (fun f => (P.info? f.type).isSome) then some (fs.toList.map fun f => (f.offset, P.cellsOf f.type)) else none
  | some (.array n e) => if (P.info? e).isSome then some ((List.range n).map fun i => (i * P.cellsOf e, P.cellsOf e)) else none
  | _ => none

/-- the box that an address lies in, as the text tells -/
def lpOf (A : Nat → Option Nat) : Operand → Option Nat
  | .tmp t => A t
  | _ => none

/-- what an operation comes to that only makes a value -/
def opv (P : Program) (A : Nat → Option Nat) (ev : Operand → Value) (L : Nat → Option (List Value)) (H : AHeap) (op : Op) (kv : Value → Prop) : Prop :=
  match op with
  | .move x => kv (ev x)
  | .assign x => kv (ev x)
  | .pick c a b => match ev c with | .bool t => bif t then kv (ev a) else kv (ev b) | _ => False
  | .nilCheck x =>
    match ev x with
    | .complex .f32 k o => kv (.complex .f32 k o)
    | .pointer p => hp p fun b o => kv (.pointer (some ⟨b, o, none⟩))
    | .func (.func f) x y => kv (.func (.func f) x y)
    | _ => False
  | .load t x =>
    match lpOf A x with
    | some d => match ev x with | .complex .f32 k o => if k = d then rdB L d fun xs => ldC (kdOf P t) xs o kv else False | _ => False
    | none => match ev x with | .pointer p => hp p fun b o => rdH H b fun xs => ldH (kdOf P t) xs o kv | _ => False
  | .fieldAddr s x f =>
    match foff P s f with
    | some (off, _) =>
      match ev x with
      | .complex .f32 k o => kv (.complex .f32 k (o + off))
      | .pointer p => hp p fun b o => kv (.pointer (some ⟨b, o + off, none⟩))
      | _ => False
    | none => False
  | .indexAddr t x i =>
    match ev i with
    | .int _ j =>
      match P.underlying t, ev x with
      | some (.array n e), .complex .f32 k o => szT P e fun z => aidx j n fun m => kv (.complex .f32 k (o + m * z))
      | some (.array n e), .pointer p => szT P e fun z => hp p fun b o => aidx j n fun m => kv (.pointer (some ⟨b, o + m * z, none⟩))
      | some (.slice e), .slice a n _ => szT P e fun z => hp a fun b o => aidx j n fun m => kv (.pointer (some ⟨b, o + m * z, none⟩))
      | _, _ => False
    | _ => False
  | .field s x f =>
    match foff P s f, ev x with
    | some (off, t), .agg cs => ldC (kdOf P t) cs.toList off kv
    | _, _ => False
  | .index t x i =>
    match ev i, P.underlying t, ev x with
    | .int _ j, some (.array n e), .agg cs => szT P e fun z => aidx j n fun m => ldC (kdOf P e) cs.toList (m * z) kv
    | _, _, _ => False
  | .binOp op t x y _ => binV P op t x y (ev x) (ev y) kv
  | .unOp op _ x => unV op (ev x) kv
  | .convert s d x => match P.underlying s with | some _ => convV P d (ev x) kv | none => False
  | .extract x i => match ev x with | .tuple vs => at_ vs.toList i fun v => if isVal v then kv v else False | _ => False
  | .build t ps => match placesOf P t with | some l => if zOK P t then buildL ev (zc P t) (P.cellsOf t) 0 0 l ps.toList fun xs => kv (.agg ⟨xs⟩) else False | none => False
  | .makeFunc f x y => if atomV (.func f (x.map ev) (y.map ev)) then kv (.func f (x.map ev) (y.map ev)) else False
  | .call c => match c.callee with | .builtin b => builtinV P b c.argTypes (c.args.toList.map ev) kv | _ => False
  | _ => False

end Go.Am
