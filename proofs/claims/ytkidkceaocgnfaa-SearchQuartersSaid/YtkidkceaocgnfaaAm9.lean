/-
  Am9: words for the printed pieces.
-/
import Derived.Test.YtkidkceaocgnfaaAm8
import Derived.KernelRfl
set_option linter.all false
namespace Go.Am

abbrev PT := KB → List Value → List (List Value) → AHeap → Prop
def bodyOf (f : Func) : Code := match f.body with | some c => c | none => .skip
def lvOf : List (Nat × Live) → Nat → Live
  | (r, l) :: rest, i => if i = r then l else lvOf rest i
  | [], _ => ⟨[], [], []⟩
def ordOf : List (Nat × List (Nat × List Nat)) → Nat → Option (List (Nat × List Nat))
  | (r, l) :: rest, i => if i = r then some l else ordOf rest i
  | [], _ => none
def shOf : List (Nat × (KB → List Value → List (List Value) → AHeap → Prop)) → KB → Nat → List Value → List (List Value) → AHeap → Prop
  | (r, f) :: rest, kb, i => if i = r then f kb else shOf rest kb i
  | [], _, _ => fun _ _ _ => False
noncomputable def pc (P : Program) (n : Nat) (A : List (Nat × Nat)) (Lv Ll : List (Nat × Live)) (D : List (Nat × List (Nat × List Nat))) (Sh ShL : KB → Nat → List Value → List (List Value) → AHeap → Prop) (rs : List ResultVar) (Q : Value → AHeap → Prop) : Pc :=
  { P := P, n := n, A := lookP A, Lv := lvOf Lv, Ll := lvOf Ll, Sh := Sh, ShL := ShL, D := ordOf D, K0 := ret P (lookP A) n rs Q }
def kb0 : KB := fun _ _ _ _ => False

def newB (H : AHeap) (K : Nat → Prop) : Prop := ∀ b, H.get b = none → K b
def andK (a b : Prop) : Prop := a ∧ b

/-! cells, as they are read -/
def rI (k : IntKind) (xs : List Value) (o : Nat) (K : Int → Prop) : Prop := at_ xs o fun v => asI k v K
def rB (xs : List Value) (o : Nat) (K : Bool → Prop) : Prop := at_ xs o fun v => asB v K
def rF (xs : List Value) (o : Nat) (K : Nat → Prop) : Prop := at_ xs o fun v => asF .f64 v K
def rC (xs : List Value) (o : Nat) (K : Nat → Nat → Prop) : Prop := at_ xs o fun v => asC v K
def rS (xs : List Value) (o : Nat) (K : ByteArray → Prop) : Prop := at_ xs o fun v => asS v K
def rP (xs : List Value) (o : Nat) (K : Option Addr → Prop) : Prop := at_ xs o fun v => asP v K
def rSl (xs : List Value) (o : Nat) (K : Option Addr → Nat → Nat → Prop) : Prop := at_ xs o fun v => asSl v K
def rM (xs : List Value) (o : Nat) (K : Option Nat → Prop) : Prop := at_ xs o fun v => asM v K
def rFn (xs : List Value) (o : Nat) (K : Fn → Array Value → Array Value → Prop) : Prop := at_ xs o fun v => asFn v K
def rH (n : Nat) (xs : List Value) (o : Nat) (K : List Value → Prop) : Prop := gd (o + n ≤ xs.length ∧ ((xs.drop o).take n).all nj = true) (K ((xs.drop o).take n))
def rA (n : Nat) (xs : List Value) (o : Nat) (K : List Value → Prop) : Prop := gd (o + n ≤ xs.length) (K ((xs.drop o).take n))

/-! lists of values, as they are taken -/
def inI (k : IntKind) (xs : List Value) (K : Int → List Value → Prop) : Prop := consK xs fun v vs => asI k v fun x => K x vs
def inB (xs : List Value) (K : Bool → List Value → Prop) : Prop := consK xs fun v vs => asB v fun x => K x vs
def inF (xs : List Value) (K : Nat → List Value → Prop) : Prop := consK xs fun v vs => asF .f64 v fun x => K x vs
def inC (xs : List Value) (K : Nat → Nat → List Value → Prop) : Prop := consK xs fun v vs => asC v fun x y => K x y vs
def inS (xs : List Value) (K : ByteArray → List Value → Prop) : Prop := consK xs fun v vs => asS v fun x => K x vs
def inP (xs : List Value) (K : Option Addr → List Value → Prop) : Prop := consK xs fun v vs => asP v fun x => K x vs
def inSl (xs : List Value) (K : Option Addr → Nat → Nat → List Value → Prop) : Prop := consK xs fun v vs => asSl v fun x y z => K x y z vs
def inM (xs : List Value) (K : Option Nat → List Value → Prop) : Prop := consK xs fun v vs => asM v fun x => K x vs
def inFn (xs : List Value) (K : Fn → Array Value → Array Value → List Value → Prop) : Prop := consK xs fun v vs => asFn v fun x y z => K x y z vs
def inA (n : Nat) (xs : List Value) (K : List Value → List Value → Prop) : Prop := consK xs fun v vs => asA n v fun x => K x vs
def inX (bs : List (List Value)) (K : List Value → List (List Value) → Prop) : Prop := match bs with | b :: bs => K b bs | [] => False
def nilX (bs : List (List Value)) (K : Prop) : Prop := match bs with | [] => K | _ => False

theorem deK {xs : List Value} {K : Value → List Value → Prop} (h : consK xs K) : ∃ v vs, xs = v :: vs ∧ K v vs := by
  cases xs with
  | nil => exact h.elim
  | cons v vs => exact ⟨v, vs, rfl, h⟩
theorem deI {k : IntKind} {xs : List Value} {K : Int → List Value → Prop} (h : inI k xs K) : ∃ x vs, xs = .int k x :: vs ∧ K x vs := by
  obtain ⟨v, vs, rfl, h'⟩ := deK h
  clear h
  have h := h'
  clear h'
  cases v with
  | int k' x =>
    change (if k' = k then K x vs else False) at h
    split at h
    · rename_i e; subst e; exact ⟨x, vs, rfl, h⟩
    · exact h.elim
  | _ => exact h.elim
theorem deB {xs : List Value} {K : Bool → List Value → Prop} (h : inB xs K) : ∃ x vs, xs = .bool x :: vs ∧ K x vs := by
  obtain ⟨v, vs, rfl, h'⟩ := deK h
  clear h
  have h := h'
  clear h'
  cases v <;> first | exact h.elim | exact ⟨_, _, rfl, h⟩
theorem deF {xs : List Value} {K : Nat → List Value → Prop} (h : inF xs K) : ∃ x vs, xs = .float .f64 x :: vs ∧ K x vs := by
  obtain ⟨v, vs, rfl, h'⟩ := deK h
  clear h
  have h := h'
  clear h'
  cases v with
  | float k' x =>
    change (if k' = .f64 then K x vs else False) at h
    split at h
    · rename_i e; subst e; exact ⟨x, vs, rfl, h⟩
    · exact h.elim
  | _ => exact h.elim
theorem deC {xs : List Value} {K : Nat → Nat → List Value → Prop} (h : inC xs K) : ∃ x y vs, xs = .complex .f64 x y :: vs ∧ K x y vs := by
  obtain ⟨v, vs, rfl, h'⟩ := deK h
  clear h
  have h := h'
  clear h'
  cases v with
  | complex k x y => cases k <;> first | exact h.elim | exact ⟨_, _, _, rfl, h⟩
  | _ => exact h.elim
theorem deS {xs : List Value} {K : ByteArray → List Value → Prop} (h : inS xs K) : ∃ x vs, xs = .string x :: vs ∧ K x vs := by
  obtain ⟨v, vs, rfl, h'⟩ := deK h
  clear h
  have h := h'
  clear h'
  cases v <;> first | exact h.elim | exact ⟨_, _, rfl, h⟩
theorem deP {xs : List Value} {K : Option Addr → List Value → Prop} (h : inP xs K) : ∃ x vs, xs = .pointer x :: vs ∧ K x vs := by
  obtain ⟨v, vs, rfl, h'⟩ := deK h
  clear h
  have h := h'
  clear h'
  cases v <;> first | exact h.elim | exact ⟨_, _, rfl, h⟩
theorem deSl {xs : List Value} {K : Option Addr → Nat → Nat → List Value → Prop} (h : inSl xs K) : ∃ x y z vs, xs = .slice x y z :: vs ∧ K x y z vs := by
  obtain ⟨v, vs, rfl, h'⟩ := deK h
  clear h
  have h := h'
  clear h'
  cases v <;> first | exact h.elim | exact ⟨_, _, _, _, rfl, h⟩
theorem deM {xs : List Value} {K : Option Nat → List Value → Prop} (h : inM xs K) : ∃ x vs, xs = .map x :: vs ∧ K x vs := by
  obtain ⟨v, vs, rfl, h'⟩ := deK h
  clear h
  have h := h'
  clear h'
  cases v <;> first | exact h.elim | exact ⟨_, _, rfl, h⟩
theorem deFn {xs : List Value} {K : Fn → Array Value → Array Value → List Value → Prop} (h : inFn xs K) : ∃ x y z vs, xs = .func x y z :: vs ∧ K x y z vs := by
  obtain ⟨v, vs, rfl, h'⟩ := deK h
  clear h
  have h := h'
  clear h'
  cases v <;> first | exact h.elim | exact ⟨_, _, _, _, rfl, h⟩
theorem deA {n : Nat} {xs : List Value} {K : List Value → List Value → Prop} (h : inA n xs K) : ∃ x vs, xs = .agg ⟨x⟩ :: vs ∧ K x vs := by
  obtain ⟨v, vs, rfl, h'⟩ := deK h
  clear h
  have h := h'
  clear h'
  cases v with
  | agg cs => exact ⟨cs.toList, vs, rfl, (gd_iff.1 h).2⟩
  | _ => exact h.elim
theorem deN {xs : List Value} {K : Prop} (h : nilK xs K) : xs = [] ∧ K := by
  cases xs with
  | nil => exact ⟨rfl, h⟩
  | cons => exact h.elim
theorem deX {xs : List (List Value)} {K : List Value → List (List Value) → Prop} (h : inX xs K) : ∃ v vs, xs = v :: vs ∧ K v vs := by
  cases xs with
  | nil => exact h.elim
  | cons v vs => exact ⟨v, vs, rfl, h⟩
theorem deNX {xs : List (List Value)} {K : Prop} (h : nilX xs K) : xs = [] ∧ K := by
  cases xs with
  | nil => exact ⟨rfl, h⟩
  | cons => exact h.elim

/-! ### a text's cuts -/
def cutsOf : Code → List Fr → List (Bool × Nat × Code × List Fr)
  | .seq x y, ctx =>
    match x with
    | .region _ _ _ => cutsOf y ctx
    | .skip => cutsOf y ctx
    | x => match firstR y with
      | some r => (false, r, y, ctx) :: (cutsOf x (.rest r y :: ctx) ++ cutsOf y ctx)
      | none => cutsOf x (.tail y :: ctx)
  | .cond _ x y, ctx => cutsOf x ctx ++ cutsOf y ctx
  | .block id c, ctx => cutsOf c (.blk id :: ctx)
  | .loop b, ctx => match firstR b with | some l => (true, l, b, .loop l :: ctx) :: cutsOf b (.loop l :: ctx) | none => []
  | _, _ => []
def noLoops : Code → List Fr → Bool
  | .seq x y, ctx =>
    match x with
    | .region _ _ _ => noLoops y ctx
    | .skip => noLoops y ctx
    | x => match firstR y with
      | some r => noLoops x (.rest r y :: ctx) && noLoops y ctx
      | none => noLoops x (.tail y :: ctx)
  | .cond _ x y, ctx => noLoops x ctx && noLoops y ctx
  | .block id c, ctx => noLoops c (.blk id :: ctx)
  | .loop b, ctx => match firstR b with | some l => noLoop l ctx && noLoops b (.loop l :: ctx) | none => true
  | _, _ => true
def cutOK (X : Pc) (q : Bool × Nat × Code × List Fr) : Prop :=
  ∀ kb vs bs H, (if q.1 then X.ShL else X.Sh) kb q.2.1 vs bs H → interp X kb q.2.2.1 q.2.2.2 (mk ((if q.1 then X.Ll else X.Lv) q.2.1) vs bs H)
theorem obl_all {X : Pc} : ∀ (c : Code) (ctx : List Fr), noLoops c ctx = true → (∀ q ∈ cutsOf c ctx, cutOK X q) → Obl X c ctx := by
  intro c
  induction c with
  | seq x y ihx ihy =>
    intro ctx hn hq
    have gen : (∀ id ops d, x ≠ .region id ops d) → x ≠ .skip → Obl X (.seq x y) ctx := by
      intro n1 n2
      have hn' : (match firstR y with | some r => noLoops x (.rest r y :: ctx) && noLoops y ctx | none => noLoops x (.tail y :: ctx)) = true := by
        cases x <;> first | exact hn | exact absurd rfl n2 | exact absurd rfl (n1 _ _ _)
      have hq' : ∀ q ∈ (match firstR y with | some r => (false, r, y, ctx) :: (cutsOf x (.rest r y :: ctx) ++ cutsOf y ctx) | none => cutsOf x (.tail y :: ctx)), cutOK X q := by
        cases x <;> first | exact hq | exact absurd rfl n2 | exact absurd rfl (n1 _ _ _)
      have : (match firstR y with | some r => (∀ kb vs bs H, X.Sh kb r vs bs H → interp X kb y ctx (mk (X.Lv r) vs bs H)) ∧ Obl X x (.rest r y :: ctx) ∧ Obl X y ctx | none => Obl X x (.tail y :: ctx)) := by
        cases hr : firstR y with
        | some r =>
          rw [hr] at hn' hq'
          simp only [Bool.and_eq_true] at hn'
          refine ⟨hq' _ (List.mem_cons_self ..), ihx _ hn'.1 fun q hm => hq' q ?_, ihy _ hn'.2 fun q hm => hq' q ?_⟩
          · exact List.mem_cons_of_mem _ (List.mem_append_left _ hm)
          · exact List.mem_cons_of_mem _ (List.mem_append_right _ hm)
        | none =>
          rw [hr] at hn' hq'
          exact ihx _ hn' hq'
      cases x <;> first | exact this | exact absurd rfl n2 | exact absurd rfl (n1 _ _ _)
    cases x with
    | region id ops d => exact ihy ctx hn hq
    | skip => exact ihy ctx hn hq
    | _ => exact gen (by simp) (by simp)
  | cond c x y ihx ihy =>
    intro ctx hn hq
    simp only [noLoops, Bool.and_eq_true] at hn
    exact ⟨ihx _ hn.1 fun q hm => hq q (List.mem_append_left _ hm), ihy _ hn.2 fun q hm => hq q (List.mem_append_right _ hm)⟩
  | block id c ih => intro ctx hn hq; exact ih _ hn hq
  | loop b ih =>
    intro ctx hn hq
    simp only [Obl]
    simp only [noLoops] at hn
    simp only [cutsOf] at hq
    cases hl : firstR b with
    | none => trivial
    | some l =>
      rw [hl] at hn hq
      simp only [Bool.and_eq_true] at hn
      exact ⟨⟨hn.1, hq _ (List.mem_cons_self ..)⟩, ih _ hn.2 fun q hm => hq q (List.mem_cons_of_mem _ hm)⟩
  | _ => intro ctx hn hq; trivial

def cutAt (c : Code) (i : Nat) : Bool × Nat × Code × List Fr := match (cutsOf c [])[i]? with | some q => q | none => (false, 0, .skip, [])
def allC (X : Pc) (c : Code) : Nat → Nat → Prop
  | _, 0 => True
  | i, n + 1 => cutOK X (cutAt c i) ∧ allC X c (i + 1) n
theorem allC_get {X : Pc} {c : Code} : ∀ {n i : Nat}, allC X c i n → ∀ j, i ≤ j → j < i + n → cutOK X (cutAt c j)
  | 0, i, _, j, h1, h2 => absurd h2 (by omega)
  | n + 1, i, h, j, h1, h2 => by
    rcases Nat.lt_or_ge i j with h3 | h3
    · exact allC_get h.2 j h3 (by omega)
    · have : j = i := by omega
      subst this; exact h.1
theorem obl_of {X : Pc} {c : Code} {n : Nat} (hn : noLoops c [] = true) (hl : (cutsOf c []).length = n) (h : allC X c 0 n) : Obl X c [] :=
  obl_all c [] hn fun q hq => by
    obtain ⟨i, hi, rfl⟩ := List.mem_iff_getElem.1 hq
    have := allC_get h i (Nat.zero_le _) (by omega)
    simpa only [cutAt, List.getElem?_eq_getElem hi] using this
theorem cutOK_of {X : Pc} {q : Bool × Nat × Code × List Fr} {F : KB → List Value → List (List Value) → AHeap → Prop}
    (e : cutOK X q = ∀ kb vs bs H, F kb vs bs H → interp X kb q.2.2.1 q.2.2.2 (mk ((if q.1 then X.Ll else X.Lv) q.2.1) vs bs H))
    (h : ∀ kb vs bs H, F kb vs bs H → interp X kb q.2.2.1 q.2.2.2 (mk ((if q.1 then X.Ll else X.Lv) q.2.1) vs bs H)) : cutOK X q := e ▸ h

theorem call_of' {X : Pc} {P : Program} {f : FuncId} {fn : Func} {Q : Value → AHeap → Prop} (hN : Fit P) (hP : X.P = P) (hf : P.funcs[f]? = some fn) (hb : fn.body = some (bodyOf fn)) (hn : X.n = fn.ntmps)
    (hK : X.K0 = ret X.P X.A X.n fn.results.toList Q) (hO : Obl X (bodyOf fn) []) {args : List Value} {H : AHeap} (hlen : Nat.ble args.length X.n = true)
    (h : interp X kb0 (bodyOf fn) [] (entry args H)) : call P f args H Q := by
  subst hP
  exact call_of (X := X) hf hb hn hN hK hO (by rw [hn] at hlen; exact Nat.le_of_ble_eq_true hlen) h

def noNGb (P : Program) : Bool := P.funcs.toList.all fun fn => !(fn.body.isSome && fn.name == "runtime.NumGoroutine")
theorem noNG_of {P : Program} (hm : P.follows .mixedOrders = true) (h : noNGb P = true) : Fit P := by
  refine ⟨?_, hm⟩
  intro g fn hg hb
  have hm : fn ∈ P.funcs.toList := by
    have := Array.mem_of_getElem? hg
    exact Array.mem_toList_iff.2 this
  have := List.all_eq_true.1 h fn hm
  simp only [hb, Bool.true_and, Bool.not_eq_true'] at this
  exact this
end Go.Am
