/-
  Am1: what operations that only make a value come to, on abstract values; that they do.
-/
import Derived.Test.YtkidkceaocgnfaaAm0
import Derived.Laws.Entries
import Derived.Laws.Append
import Derived.Deep.MidRow
set_option linter.all false
namespace Go.Am

/-- a condition that a kernel decides where it can -/
def gd (c : Prop) [Decidable c] (K : Prop) : Prop := if c then K else False
theorem gd_iff {c : Prop} [Decidable c] {K : Prop} : gd c K ↔ c ∧ K := by
  unfold gd
  split
  · rename_i h; exact ⟨fun k => ⟨h, k⟩, fun k => k.2⟩
  · rename_i h; exact ⟨fun k => k.elim, fun k => h k.1⟩

/-! ### what a value is known to be -/
def asI (k : IntKind) (v : Value) (K : Int → Prop) : Prop := match v with | .int k' x => if k' = k then K x else False | _ => False
def asB (v : Value) (K : Bool → Prop) : Prop := match v with | .bool b => K b | _ => False
def asF (k : FloatKind) (v : Value) (K : Nat → Prop) : Prop := match v with | .float k' x => if k' = k then K x else False | _ => False
def asC (v : Value) (K : Nat → Nat → Prop) : Prop := match v with | .complex .f64 a b => K a b | _ => False
def asS (v : Value) (K : ByteArray → Prop) : Prop := match v with | .string s => K s | _ => False
def asP (v : Value) (K : Option Addr → Prop) : Prop := match v with | .pointer p => K p | _ => False
def asSl (v : Value) (K : Option Addr → Nat → Nat → Prop) : Prop := match v with | .slice a n z => K a n z | _ => False
def asM (v : Value) (K : Option Nat → Prop) : Prop := match v with | .map r => K r | _ => False
def asFn (v : Value) (K : Fn → Array Value → Array Value → Prop) : Prop := match v with | .func f a b => K f a b | _ => False
def asA (n : Nat) (v : Value) (K : List Value → Prop) : Prop := match v with | .agg cs => gd (cs.toList.length = n) (K cs.toList) | _ => False
def at_ (xs : List Value) (i : Nat) (K : Value → Prop) : Prop := match xs[i]? with | some v => K v | none => False

inductive Kd where
  | int (k : IntKind) | bool | float (k : FloatKind) | cplx | str | ptr | slice | map | func | agg (n : Nat) | bad

def kdOf (P : Program) (t : TypeId) : Kd :=
  match P.underlying t with
  | some (.int k) => .int k
  | some .bool => .bool
  | some (.float k) => .float k
  | some (.complex .f64) => .cplx
  | some .string => .str
  | some (.pointer _) => .ptr
  | some (.slice _) => .slice
  | some (.map _ _) => .map
  | some (.func _ _ _) => .func
  | some (.struct _) => .agg (P.cellsOf t)
  | some (.array _ _) => .agg (P.cellsOf t)
  | _ => .bad

def asK (kd : Kd) (v : Value) (kv : Value → Prop) : Prop :=
  match kd with
  | .int k => asI k v fun x => kv (.int k x)
  | .bool => asB v fun b => kv (.bool b)
  | .float k => asF k v fun x => kv (.float k x)
  | .cplx => asC v fun a b => kv (.complex .f64 a b)
  | .str => asS v fun s => kv (.string s)
  | .ptr => asP v fun p => kv (.pointer p)
  | .slice => asSl v fun a n z => kv (.slice a n z)
  | .map => asM v fun r => kv (.map r)
  | .func => asFn v fun f a b => kv (.func f a b)
  | .agg n => asA n v fun xs => kv (.agg ⟨xs⟩)
  | .bad => False

theorem asK_elim {kd : Kd} {v : Value} {kv : Value → Prop} (h : asK kd v kv) : kv v := by
  cases kd <;> simp only [asK, asI, asB, asF, asC, asS, asP, asSl, asM, asFn, asA] at h <;> split at h <;>
    first
      | exact h.elim
      | exact h
      | exact (gd_iff.1 h).2
      | (split at h
         · subst_vars; exact h
         · exact h.elim)

def nilK (xs : List Value) (K : Prop) : Prop := match xs with | [] => K | _ => False
def consK (xs : List Value) (K : Value → List Value → Prop) : Prop := match xs with | v :: vs => K v vs | [] => False
def asKs : List Kd → List Value → (List Value → Prop) → Prop
  | [], xs, K => nilK xs (K [])
  | kd :: kds, xs, K => consK xs fun v vs => asK kd v fun v' => asKs kds vs fun r => K (v' :: r)

theorem asKs_elim : ∀ {kds : List Kd} {vs : List Value} {K : List Value → Prop}, asKs kds vs K → K vs
  | [], [], _, h => h
  | kd :: kds, v :: vs, K, h => by
    have h' : asK kd v fun v' => asKs kds vs fun r => K (v' :: r) := h
    exact asKs_elim (kds := kds) (vs := vs) (K := fun r => K (v :: r)) (asK_elim h')
  | [], _ :: _, _, h => h.elim
  | _ :: _, [], _, h => h.elim

/-- a cell, or a range of cells, of a kind -/
def ldC (kd : Kd) (xs : List Value) (o : Nat) (kv : Value → Prop) : Prop :=
  match kd with
  | .agg n => gd (o + n ≤ xs.length) (kv (.agg ⟨(xs.drop o).take n⟩))
  | kd => at_ xs o fun v => asK kd v kv

/-- likewise of the heap: what is read must be known -/
def ldH (kd : Kd) (xs : List Value) (o : Nat) (kv : Value → Prop) : Prop :=
  match kd with
  | .agg n => gd (o + n ≤ xs.length ∧ ((xs.drop o).take n).all nj = true) (kv (.agg ⟨(xs.drop o).take n⟩))
  | kd => at_ xs o fun v => asK kd v kv
theorem asK_nj {kd : Kd} {v : Value} {kv : Value → Prop} (h : asK kd v kv) : nj v = true := by
  cases v with
  | chan r =>
    cases r with
    | none => rfl
    | some r => cases kd <;> exact h.elim
  | _ => rfl

def hp (p : Option Addr) (K : Nat → Nat → Prop) : Prop := match p with | some ⟨b, o, none⟩ => K b o | _ => False
def rdH (H : AHeap) (b : Nat) (K : List Value → Prop) : Prop := match H.get b with | some (.cells xs _ _) => K xs | _ => False
def rdB (L : Nat → Option (List Value)) (k : Nat) (K : List Value → Prop) : Prop := match L k with | some xs => K xs | none => False
def aidx (i : Int) (n : Nat) (K : Nat → Prop) : Prop := gd (0 ≤ i ∧ i < n) (K i.toNat)

def constOK : Value → Bool
  | .agg cs => cs.toList.all atomV
  | v => atomV v

def ev (n : Nat) (st : St) : Operand → Value
  | .tmp t => bif Nat.blt t n then st.regs t else junk
  | .const v => bif constOK v then v else junk
  | .global g => .pointer (some ⟨g, 0, none⟩)
  | .func f => .func (.func f) #[] #[]

theorem atomV_cell {v : Value} (h : atomV v = true) : cellV v = true := by
  cases v <;> simp_all [atomV, flatV, cellV]
theorem all_cell {xs : List Value} (h : xs.all atomV = true) : xs.all cellV = true := List.all_eq_true.2 fun x hx => atomV_cell (List.all_eq_true.1 h x hx)
theorem constOK_vr {sz : Nat → Nat} {v : Value} (h : constOK v = true) : VR sz v v := by
  unfold constOK at h
  split at h
  · rename_i cs
    obtain ⟨xs⟩ := cs
    refine .agg xs xs rfl (fun i h1 h2 => .atom _ ?_) ?_
    · exact List.all_eq_true.1 h _ (List.getElem_mem _)
    · exact List.all_eq_true.2 fun x hx => atomV_cell (List.all_eq_true.1 h x hx)
  · exact .atom _ h

theorem ev_rr {E : Env} {st : St} {loc : Nat → Nat} {a : Act} {w : World} (hs : SRel E st loc a w) (x : Operand) : RR (csz w) loc st.live (ev E.n st x) (a.eval x) := by
  cases x with
  | tmp t =>
    simp only [ev, Act.eval]
    cases hb : Nat.blt t E.n with
    | true => exact hs.regs t (by simpa [Nat.blt_eq] using hb)
    | false => exact .junk _
  | const v =>
    simp only [ev, Act.eval]
    cases hc : constOK v with
    | true => exact .val (constOK_vr hc)
    | false => exact .junk _
  | global g => exact .val (.atom _ rfl)
  | func f => exact .val (.atom _ rfl)

/-! ### inversion -/
section
variable {sz : Nat → Nat} {loc : Nat → Nat} {lv : Nat → Prop}
theorem VR.int {k : IntKind} {x : Int} {c : Value} (h : VR sz (.int k x) c) : c = .int k x := by cases h; rfl
theorem VR.bool {b : Bool} {c : Value} (h : VR sz (.bool b) c) : c = .bool b := by cases h; rfl
theorem VR.float {k : FloatKind} {x : Nat} {c : Value} (h : VR sz (.float k x) c) : c = .float k x := by cases h; rfl
theorem VR.complex {k : FloatKind} {x y : Nat} {c : Value} (h : VR sz (.complex k x y) c) : c = .complex k x y ∧ k = .f64 := by
  cases h with
  | atom _ h => cases k <;> simp_all [atomV, flatV]
theorem VR.string {s : ByteArray} {c : Value} (h : VR sz (.string s) c) : c = .string s := by cases h; rfl
theorem VR.pointer {p : Option Addr} {c : Value} (h : VR sz (.pointer p) c) : c = .pointer p := by cases h; rfl
theorem VR.map {p : Option Nat} {c : Value} (h : VR sz (.map p) c) : c = .map p := by cases h; rfl
theorem VR.func {f : Fn} {x y : Array Value} {c : Value} (h : VR sz (.func f x y) c) : c = .func f x y := by cases h; rfl
theorem VR.sl {a : Option Addr} {n z : Nat} {c : Value} (h : VR sz (.slice a n z) c) : ∃ cap, c = .slice a n cap ∧ n ≤ cap ∧ (a = none → n = 0 ∧ cap = 0 ∧ z = 0) ∧
    (∀ x, a = some x → (cap = 0 ∨ x.spot = none ∧ x.off + cap * z ≤ sz x.block) ∧ cap ≤ maxLen) := by
  cases h with
  | atom _ h =>
    cases a with
    | none =>
      simp only [atomV, flatV, Bool.and_eq_true, beq_iff_eq] at h
      obtain ⟨rfl, rfl⟩ := h
      refine ⟨0, rfl, Nat.le_refl _, fun _ => ⟨rfl, rfl, rfl⟩, ?_⟩
      intro x hx
      cases hx
    | some a => simp [atomV, flatV] at h
  | slice a n z cap h1 h2 h3 =>
    refine ⟨cap, rfl, h2, ?_, ?_⟩
    · intro hx; cases hx
    · intro x hx; cases hx; exact ⟨h1, h3⟩
theorem VR.agg' {xs : List Value} {c : Value} (h : VR sz (.agg ⟨xs⟩) c) : ∃ ys, c = .agg ⟨ys⟩ ∧ VRs sz xs ys ∧ xs.all cellV = true := by
  cases h with
  | atom _ h => simp [atomV, flatV] at h
  | agg xs ys hl h hc => exact ⟨ys, rfl, ⟨hl, h⟩, hc⟩
theorem VR.tuple' {xs : List Value} {c : Value} (h : VR sz (.tuple ⟨xs⟩) c) : ∃ ys, c = .tuple ⟨ys⟩ ∧ VRs sz xs ys := by
  cases h with
  | atom _ h => simp [atomV, flatV] at h
  | tuple xs ys hl h => exact ⟨ys, rfl, hl, h⟩
theorem VR.not_junk {c : Value} (h : VR sz junk c) : False := by
  unfold junk at h
  cases h with
  | atom _ h => simp [atomV, flatV] at h

inductive F2 (R : Value → Value → Prop) : List Value → List Value → Prop
  | nil : F2 R [] []
  | cons {x y : Value} {xs ys : List Value} (h : R x y) (hs : F2 R xs ys) : F2 R (x :: xs) (y :: ys)

/-- a register that holds neither junk nor a local box's address -/
def isVal : Value → Bool
  | .chan _ => false
  | .complex .f32 _ _ => false
  | _ => true
theorem RR.vr {v c : Value} (h : RR sz loc lv v c) (hv : isVal v = true) : VR sz v c := by
  cases h with
  | junk => simp [isVal, Am.junk] at hv
  | val h => exact h
  | loc => simp [isVal] at hv
theorem RR.locp {k o : Nat} {c : Value} (h : RR sz loc lv (.complex .f32 k o) c) : c = .pointer (some ⟨loc k, o, none⟩) ∧ lv k := by
  cases h with
  | val h => exact absurd h.complex.2 (by simp)
  | loc _ _ h => exact ⟨rfl, h⟩
theorem VRs.nth {xs ys : List Value} (h : VRs sz xs ys) {i : Nat} {v : Value} (hv : xs[i]? = some v) : ∃ c, ys[i]? = some c ∧ VR sz v c := by
  obtain ⟨hi, rfl⟩ := List.getElem?_eq_some_iff.1 hv
  exact ⟨_, List.getElem?_eq_getElem (h.1 ▸ hi), h.2 i hi (h.1 ▸ hi)⟩
theorem VRs.range {xs ys : List Value} (h : VRs sz xs ys) (o n : Nat) : VRs sz ((xs.drop o).take n) ((ys.drop o).take n) := by
  refine ⟨by simp [h.1], fun i h1 h2 => ?_⟩
  simp only [List.getElem_take, List.getElem_drop]
  exact h.2 _ _ _
theorem VRs.ag {xs ys : List Value} (h : VRs sz xs ys) (hc : xs.all cellV = true) : VR sz (.agg ⟨xs⟩) (.agg ⟨ys⟩) := .agg _ _ h.1 h.2 hc
theorem cells_range {xs : List Value} (h : xs.all cellV = true) (o n : Nat) : ((xs.drop o).take n).all cellV = true :=
  List.all_eq_true.2 fun x hx => List.all_eq_true.1 h x (List.mem_of_mem_drop (List.mem_of_mem_take hx))
theorem VR.oneCell {v c : Value} (h : VR sz v c) (hv : cellV v = true) : c.oneCell' = true := by
  cases h with
  | atom _ h => cases v <;> simp_all [atomV, flatV, cellV, Value.oneCell']
  | slice => rfl
  | agg => simp [cellV] at hv
  | tuple => simp [cellV] at hv
theorem VRs.nil : VRs sz [] [] := ⟨rfl, fun i h => absurd h (by simp)⟩
theorem VRs.cons {x y : Value} {xs ys : List Value} (h : VR sz x y) (hs : VRs sz xs ys) : VRs sz (x :: xs) (y :: ys) := by
  refine ⟨by simp [hs.1], fun i h1 h2 => ?_⟩
  cases i with
  | zero => exact h
  | succ i => exact hs.2 i (by simpa using h1) (by simpa using h2)
theorem VRs.append {xs ys xs' ys' : List Value} (h : VRs sz xs ys) (h' : VRs sz xs' ys') : VRs sz (xs ++ xs') (ys ++ ys') := by
  refine ⟨by simp [h.1, h'.1], fun i h1 h2 => ?_⟩
  simp only [List.getElem_append]
  by_cases hi : i < xs.length
  · have hi' : i < ys.length := h.1 ▸ hi
    simp only [hi, hi', dite_true]; exact h.2 _ _ _
  · have hi' : ¬ i < ys.length := h.1 ▸ hi
    simp only [hi, hi', dite_false]
    have e : i - xs.length = i - ys.length := by rw [h.1]
    have := h'.2 (i - xs.length) (by simp at h1; omega) (by simp at h2; rw [e]; omega)
    simpa only [e] using this
theorem VRs.mono {sz sz' : Nat → Nat} (hs : ∀ b, sz b ≤ sz' b) {xs ys : List Value} (h : VRs sz xs ys) : VRs sz' xs ys := ⟨h.1, fun i h1 h2 => (h.2 i h1 h2).mono hs⟩
end

end Go.Am
