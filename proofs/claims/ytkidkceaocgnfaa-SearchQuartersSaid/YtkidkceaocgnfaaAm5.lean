/-
  Am5: operations that make or write memory, and calls: what they come to on abstract states.
-/
import Derived.Test.YtkidkceaocgnfaaAm4
import Derived.Laws.MakeOwn
set_option linter.all false
namespace Go.Am

def putK (n : Nat) (dst : Option Tmp) (v : Value) (K : St → Prop) (st : St) : Prop :=
  match dst with
  | some d => if d < n then K (st.put d v) else False
  | none => K st

/-- a value's cells -/
def cellsK (n : Nat) (v : Value) (K : List Value → Prop) : Prop :=
  match v with
  | .agg cs => gd (cs.toList.length = n) (K cs.toList)
  | v => if isVal v && cellV v && n == 1 then K [v] else False

def stC (xs : List Value) (o : Nat) (ys : List Value) : List Value := xs.take o ++ ys ++ xs.drop (o + ys.length)
/-- a store of one cell, or of several -/
def wrC (n : Nat) (v : Value) (xs : List Value) (o : Nat) (K : List Value → Prop) : Prop :=
  match v with
  | .agg cs => gd (cs.toList.length = n ∧ o + n ≤ xs.length) (K (stC xs o cs.toList))
  | v => if isVal v && cellV v && n == 1 then gd (o < xs.length) (K (xs.set o v)) else False
def wrH (H : AHeap) (b : Nat) (K : List Value → TypeId → Prop) : Prop := match H.get b with | some (.cells xs e true) => K xs e | _ => False

/-- zero values, so many, one behind the other -/
def mkL (z : List Value) (l : Nat) : List Value := (List.range (l * z.length)).map fun i => z.getD (i % z.length) default

/-- what is appended -/
def srcW (H : AHeap) (a : Option Addr) (m z : Nat) (K : List Value → Prop) : Prop :=
  match a with
  | none => K []
  | some ⟨b, o, none⟩ => rdH H b fun xs => gd (o + m * z ≤ xs.length ∧ ((xs.drop o).take (m * z)).all nj = true) (K ((xs.drop o).take (m * z)))
  | _ => False

def appW (H : AHeap) (e z by_ : Nat) (a : Option Addr) (n z' : Nat) (ys : List Value) (m : Nat) (K : Option Addr → Nat → Nat → AHeap → Prop) : Prop :=
  (n + m) * by_ ≤ 140737488355328 ∧
  match a with
  | none => (m = 0 → K none 0 0 H) ∧ (m ≠ 0 → ∀ b, H.get b = none → K (some ⟨b, 0, none⟩) m z (H.put b (.cells ys e true)))
  | some ⟨b1, 0, none⟩ =>
    match H.get b1 with
    | some (.cells xs e' true) => (xs.length = n * z ∧ z' = z ∧ e' = e) ∧ ∀ b, (b = b1 ∨ H.get b = none) → K (some ⟨b, 0, none⟩) (n + m) z ((H.kill b1).put b (.cells (xs ++ ys) e true))
    | _ => False
  | _ => False

def mkW (H : AHeap) (e : Nat) (z : List Value) (by_ : Nat) (l c : Int) (K : Option Addr → Nat → Nat → AHeap → Prop) : Prop :=
  ((0 ≤ l ∧ l ≤ c) ∧ by_ * c ≤ 281474976710656) ∧ ∀ b, H.get b = none → K (some ⟨b, 0, none⟩) l.toNat z.length (H.put b (.cells (mkL z l.toNat) e true))

def tupK (r : Value) (K : List Value → Prop) : Prop := match r with | .tuple vs => K vs.toList | _ => False
/-- a call's result as its type says -/
def resK (P : Program) (ty : TypeId) (r : Value) (K : Value → Prop) : Prop :=
  match P.underlying ty with
  | some (.tuple ts) => tupK r fun l => asKs (ts.toList.map (kdOf P)) l fun l => K (.tuple ⟨l⟩)
  | _ => asK (kdOf P ty) r K

def hasBody (P : Program) (g : FuncId) : Bool := match P.funcs[g]? with | some fn => fn.body.isSome | none => false

/-- the least of a slice type's element: its type, size, bytes -/
def elemW (P : Program) (t : TypeId) (K : TypeId → Nat → Nat → List Value → Prop) : Prop :=
  match P.underlying t with
  | some (.slice e) => match P.info? e with | some i => if zOK P e && Nat.blt 0 i.size && Nat.blt 0 i.bytes then K e i.size i.bytes (zc P e) else False | none => False
  | _ => False

/-- an operation, whichever it is -/
def aop (P : Program) (n : Nat) (A : Nat → Option Nat) (o : Oper) (st : St) (K : St → Prop) : Prop :=
  match o.op with
  | .alloc t =>
    match o.dst with
    | some d =>
      if d < n then
        if zOK P t then
          if A d = some d then
            match st.loc d with | none => K ((st.setbox d (zc P t)).put d (.complex .f32 d 0)) | some _ => False
          else ∀ b, st.H.get b = none → K ((st.withH (st.H.put b (.cells (zc P t) t true))).put d (.pointer (some ⟨b, 0, none⟩)))
        else False
      else False
    | none => False
  | .box t x =>
    match o.dst with
    | some d =>
      if d < n then
        szT P t fun z => cellsK z (ev n st x) fun ys =>
          if A d = some d then
            match st.loc d with | none => K ((st.setbox d ys).put d (.complex .f32 d 0)) | some _ => False
          else ∀ b, st.H.get b = none → K ((st.withH (st.H.put b (.cells ys t true))).put d (.pointer (some ⟨b, 0, none⟩)))
      else False
    | none => False
  | .store t x v =>
    match o.dst with
    | some _ => False
    | none =>
      szT P t fun z =>
      match lpOf A x with
      | some d => match ev n st x with | .complex .f32 k q => if k = d then rdB st.loc d fun xs => wrC z (ev n st v) xs q fun xs' => K (st.setbox d xs') else False | _ => False
      | none =>
      match ev n st x with
      | .pointer p => hp p fun b q => wrH st.H b fun xs e => wrC z (ev n st v) xs q fun xs' => K (st.withH (st.H.put b (.cells xs' e true)))
      | _ => False
  | .buildSlice t len ps =>
    elemW P t fun e z _ zs =>
      if len * z ≤ 16777216 then
        buildL (ev n st) (mkL zs len) (len * z) 0 0 ((List.range len).map fun i => (i * z, z)) ps.toList fun ys =>
          ∀ b, st.H.get b = none → putK n o.dst (.slice (some ⟨b, 0, none⟩) len z) K (st.withH (st.H.put b (.cells ys e true)))
      else False
  | .makeSlice t l c =>
    match ev n st l, ev n st c with
    | .int _ l, .int _ c => elemW P t fun e _ by_ zs => mkW st.H e zs by_ l c fun a m z H' => putK n o.dst (.slice a m z) K (st.withH H')
    | _, _ => False
  | .call c =>
    match c.callee with
    | .builtin .append =>
      match c.argTypes.toList, c.args.toList.map (ev n st) with
      | [t, t'], [.slice a m z', .slice a2 m2 _] =>
        if t = t' then
          elemW P t fun e z by_ _ => srcW st.H a2 m2 z fun ys => appW st.H e z by_ a m z' ys m2 fun a' m' z' H' => putK n o.dst (.slice a' m' z') K (st.withH H')
        else False
      | _, _ => False
    | .builtin _ => opv P A (ev n st) st.loc st.H o.op fun v => putK n o.dst v K st
    | .value f =>
      match ev n st f with
      | .func (.func g) x y =>
        let args := x.toList ++ c.args.toList.map (ev n st) ++ y.toList
        if args.all isVal && hasBody P g then call P g args st.H fun r H' => resK P o.type r fun r' => putK n o.dst r' K (st.withH H') else False
      | _ => False
    | _ => False
  | _ => opv P A (ev n st) st.loc st.H o.op fun v => putK n o.dst v K st

end Go.Am
