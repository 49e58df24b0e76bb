/-
  Am0: an abstract memory for walks: values up to capacities, a partial heap, registers, local boxes; how they stand to a world.
-/
import Derived.Calls
import Derived.Orders
import Derived.Laws.World
import Derived.Laws.Rows
import Derived.Below
set_option linter.all false
namespace Go.Am

/-- what is known of nothing -/
def junk : Value := .chan (some 0)

/-- values that are what they are: no capacity, no junk -/
def flatV : Value → Bool
  | .bool _ | .int _ _ | .float _ _ | .complex .f64 _ _ | .string _ | .pointer none | .map _ | .chan none | .nilFunc | .nilIface => true
  | .pointer (some a) => a.spot.isNone
  | .slice none n c => n == 0 && c == 0
  | _ => false
def atomV : Value → Bool
  | .func _ fs cs => fs.toList.all flatV && cs.toList.all flatV
  | v => flatV v

/-- values of one cell -/
def cellV : Value → Bool | .agg _ | .tuple _ => false | _ => true
/-- not junk -/
def nj : Value → Bool | .chan (some _) => false | _ => true

/-- how many cells a block has -/
def csz (w : World) (b : Nat) : Nat := match w.heap[b]? with | some (.cells c _ _) => c.size | _ => 0

/-- an abstract value and a value: the abstract slice bears, in the capacity's place, its elements' size -/
inductive VR (sz : Nat → Nat) : Value → Value → Prop
  | atom (v : Value) (h : atomV v = true) : VR sz v v
  | slice (a : Addr) (n z c : Nat) (hs : c = 0 ∨ a.spot = none ∧ a.off + c * z ≤ sz a.block) (hn : n ≤ c) (hm : c ≤ maxLen) : VR sz (.slice (some a) n z) (.slice (some a) n c)
  | agg (xs ys : List Value) (hl : xs.length = ys.length) (h : ∀ i (h1 : i < xs.length) (h2 : i < ys.length), VR sz xs[i] ys[i]) (hc : xs.all cellV = true) : VR sz (.agg ⟨xs⟩) (.agg ⟨ys⟩)
  | tuple (xs ys : List Value) (hl : xs.length = ys.length) (h : ∀ i (h1 : i < xs.length) (h2 : i < ys.length), VR sz xs[i] ys[i]) : VR sz (.tuple ⟨xs⟩) (.tuple ⟨ys⟩)

theorem VR.mono {sz sz' : Nat → Nat} (hs : ∀ b, sz b ≤ sz' b) {v c : Value} (h : VR sz v c) : VR sz' v c := by
  induction h with
  | atom v h => exact .atom v h
  | slice a n z c h1 h2 h3 => exact .slice a n z c (h1.imp id fun h => ⟨h.1, Nat.le_trans h.2 (hs _)⟩) h2 h3
  | agg xs ys hl _ hc ih => exact .agg xs ys hl ih hc
  | tuple xs ys hl _ ih => exact .tuple xs ys hl ih

/-- lists of them -/
def VRs (sz : Nat → Nat) (xs ys : List Value) : Prop := xs.length = ys.length ∧ ∀ i (h1 : i < xs.length) (h2 : i < ys.length), VR sz xs[i] ys[i]

/-- a register's: junk, a value, or the address of a local box (a narrow complex number, of which there is none else, stands for it) -/
inductive RR (sz : Nat → Nat) (loc : Nat → Nat) (live : Nat → Prop) : Value → Value → Prop
  | junk (c : Value) : RR sz loc live junk c
  | val {v c : Value} (h : VR sz v c) : RR sz loc live v c
  | loc (k o : Nat) (hl : live k) : RR sz loc live (.complex .f32 k o) (.pointer (some ⟨loc k, o, none⟩))

inductive AObj where
  | cells (xs : List Value) (e : TypeId) (own : Bool)
  | map (es : List (Value × Value)) (own : Bool)

structure AHeap where
  get : Nat → Option AObj
  base : Nat

def AHeap.put (H : AHeap) (b : Nat) (o : AObj) : AHeap := { get := fun i => if i = b then some o else H.get i, base := H.base }
def AHeap.kill (H : AHeap) (b : Nat) : AHeap := { get := fun i => if i = b then none else H.get i, base := H.base }
def AHeap.owned (H : AHeap) (b : Nat) : Prop := (∃ xs e, H.get b = some (.cells xs e true)) ∨ ∃ es, H.get b = some (.map es true)

/-- an object and a world's block -/
def ORel (w : World) (base b : Nat) : AObj → Prop
  | .cells xs e own => ∃ c fr, w.heap[b]? = some (.cells c e fr) ∧ xs.length ≤ c.size ∧ (∀ i (h : i < xs.length), ∃ v, c[i]? = some v ∧ (own = true ∨ nj xs[i] = true → VR (csz w) xs[i] v)) ∧ (own = true → fr = (0, 0) ∧ base ≤ b) ∧ xs.all cellV = true
  | .map es own => ∃ ents clock, w.heap[b]? = some (.map ents clock) ∧ ents.size = es.length ∧ (∀ i (h : i < es.length), ∃ x, ents[i]? = some x ∧ VR (csz w) es[i].1 x.key ∧ VR (csz w) es[i].2 x.val ∧ x.born < clock) ∧
      (∀ (i j : Nat) (x y : MapEntry), ents[i]? = some x → ents[j]? = some y → x.born = y.born → i = j) ∧ (own = true → base ≤ b)

structure HRel (H : AHeap) (w : World) : Prop where
  obj : ∀ b o, H.get b = some o → ORel w H.base b o
  lt : ∀ b o, H.get b = some o → b < w.heap.size
  base : H.base ≤ w.heap.size

/-- a world that has grown -/
structure Grew (w w' : World) : Prop where
  os : w'.os = w.os
  tape : w'.tape = w.tape
  output : w'.output = w.output
  size : w.heap.size ≤ w'.heap.size
  csz : ∀ b, csz w b ≤ csz w' b

theorem Grew.refl (w : World) : Grew w w := ⟨rfl, rfl, rfl, Nat.le_refl _, fun _ => Nat.le_refl _⟩
theorem Grew.trans {a b c : World} (h : Grew a b) (k : Grew b c) : Grew a c :=
  ⟨k.os.trans h.os, k.tape.trans h.tape, k.output.trans h.output, Nat.le_trans h.size k.size, fun i => Nat.le_trans (h.csz i) (k.csz i)⟩

/-- what lies between two states: nothing but what was owned has been written; what is owned is new or was owned -/
structure FrRel (H : AHeap) (w : World) (H' : AHeap) (w' : World) : Prop where
  grew : Grew w w'
  kept : ∀ b, b < w.heap.size → ¬ H.owned b → w'.heap[b]? = w.heap[b]?
  own : ∀ b, H'.owned b → H.owned b ∨ w.heap.size ≤ b
  dom : ∀ b, H'.get b ≠ none → H.get b ≠ none ∨ w.heap.size ≤ b
  base : H'.base = H.base

theorem FrRel.refl (H : AHeap) (w : World) : FrRel H w H w := ⟨.refl w, fun _ _ _ => rfl, fun _ h => .inl h, fun _ h => .inl h, rfl⟩
theorem FrRel.trans {H1 H2 H3 : AHeap} {a b c : World} (h : FrRel H1 a H2 b) (k : FrRel H2 b H3 c) : FrRel H1 a H3 c where
  grew := h.grew.trans k.grew
  kept := fun i hi hn => by
    have h2 : ¬ H2.owned i := fun ho => (h.own i ho).elim hn (fun hl => by omega)
    rw [k.kept i (Nat.lt_of_lt_of_le hi h.grew.size) h2, h.kept i hi hn]
  own := fun i hi => (k.own i hi).elim (h.own i) (fun hl => .inr (Nat.le_trans h.grew.size hl))
  dom := fun i hi => (k.dom i hi).elim (h.dom i) (fun hl => .inr (Nat.le_trans h.grew.size hl))
  base := k.base.trans h.base

/-- the abstract state of a body -/
structure St where
  regs : Nat → Value
  loc : Nat → Option (List Value)
  H : AHeap

def St.live (st : St) (k : Nat) : Prop := st.loc k ≠ none
def St.put (st : St) (d : Nat) (v : Value) : St := { st with regs := fun i => if i = d then v else st.regs i }

/-- where a body stands: its program, how many registers, the world and the heap that it began with -/
structure Env where
  P : Program
  n : Nat
  w0 : World
  H0 : AHeap

structure SRel (E : Env) (st : St) (loc : Nat → Nat) (a : Act) (w : World) : Prop where
  size : a.tmps.size = E.n
  defers : a.defers = []
  regs : ∀ t, t < E.n → RR (csz w) loc st.live (st.regs t) (a.tmps.getD t undef)
  heap : HRel st.H w
  fr : FrRel E.H0 E.w0 st.H w
  box : ∀ t xs, st.loc t = some xs → ∃ c e, w.heap[loc t]? = some (.cells c e (0, 0)) ∧ VRs (csz w) xs c.toList ∧ st.H.get (loc t) = none ∧ E.w0.heap.size ≤ loc t ∧ xs.all cellV = true
  inj : ∀ t u, st.loc t ≠ none → st.loc u ≠ none → loc t = loc u → t = u

def SR (E : Env) (st : St) (a : Act) (w : World) : Prop := ∃ loc, SRel E st loc a w

/-- a code's weakest condition -/
def AW (E : Env) (c : Code) (K : Exit → St → Prop) (st : St) : Prop :=
  ∀ a w, SR E st a w → c.wp E.P (fun e a' w' => ∃ st', SR E st' a' w' ∧ K e st') a w

/-- a call's -/
def call (P : Program) (f : FuncId) (args : List Value) (H : AHeap) (Q : Value → AHeap → Prop) : Prop :=
  ∀ w cargs, HRel H w → VRs (csz w) args cargs →
    Calls P f ⟨cargs⟩ w (fun e w' => ∃ r c H', e = .returned c ∧ VR (csz w') r c ∧ HRel H' w' ∧ FrRel H w H' w' ∧ Q r H')

theorem call.mono {P : Program} {f : FuncId} {args : List Value} {H : AHeap} {Q Q' : Value → AHeap → Prop} (h : call P f args H Q) (hq : ∀ r H', Q r H' → Q' r H') : call P f args H Q' :=
  fun w cargs hw ha => (h w cargs hw ha).mono fun _ _ ⟨r, c, H', e, v, hr, fr, q⟩ => ⟨r, c, H', e, v, hr, fr, hq _ _ q⟩

/-- one state knows less than another -/
structure Less (st' st : St) : Prop where
  regs : ∀ t, st'.regs t = junk ∨ (st'.regs t = st.regs t ∧ ∀ k o, st.regs t = .complex .f32 k o → st'.live k)
  loc : ∀ t, st'.loc t = none ∨ st'.loc t = st.loc t
  H : st'.H = st.H

theorem SRel.less {E : Env} {st st' : St} {loc : Nat → Nat} {a : Act} {w : World} (hl : Less st' st) (h : SRel E st loc a w) : SRel E st' loc a w where
  size := h.size
  defers := h.defers
  regs := fun t ht => by
    rcases hl.regs t with e | ⟨e, hk⟩
    · rw [e]; exact .junk _
    · have hr := h.regs t ht
      rw [e]
      generalize st.regs t = v at hr hk
      generalize a.tmps.getD t undef = c at hr
      cases hr with
      | junk => exact .junk _
      | val h => exact .val h
      | loc k o _ => exact .loc k o (hk k o rfl)
  heap := hl.H ▸ h.heap
  fr := hl.H ▸ h.fr
  box := fun t xs hx => by
    rcases hl.loc t with e | e
    · rw [e] at hx; cases hx
    · rw [hl.H]; exact h.box t xs (e ▸ hx)
  inj := fun t u ht hu => h.inj t u (by
      rcases hl.loc t with e | e
      · exact absurd e ht
      · exact e ▸ ht) (by
      rcases hl.loc u with e | e
      · exact absurd e hu
      · exact e ▸ hu)

theorem SR.less {E : Env} {st st' : St} {a : Act} {w : World} (hl : Less st' st) : SR E st a w → SR E st' a w := fun ⟨l, h⟩ => ⟨l, h.less hl⟩

theorem AW.less {E : Env} {c : Code} {K : Exit → St → Prop} {st st' : St} (hl : Less st' st) (h : AW E c K st') : AW E c K st :=
  fun a w hs => h a w (hs.less hl)

theorem AW.mono {E : Env} {c : Code} {K K' : Exit → St → Prop} {st : St} (hk : ∀ e st, K e st → K' e st) (h : AW E c K st) : AW E c K' st :=
  fun a w hs => Go.wp_mono (h a w hs) fun _ _ _ ⟨st', r, k⟩ => ⟨st', r, hk _ _ k⟩

/-- what a code hands on to the next -/
def thenK (K1 : St → Prop) (K : Exit → St → Prop) : Exit → St → Prop
  | .normal, st => K1 st
  | e, st => K e st
def blockK (id : Nat) (K : Exit → St → Prop) : Exit → St → Prop
  | .exit i, st => if i = id then K .normal st else K (.exit i) st
  | e, st => K e st

theorem AW.seq {E : Env} {x y : Code} {K : Exit → St → Prop} {st : St} (h : AW E x (thenK (AW E y K) K) st) : AW E (.seq x y) K st :=
  fun a w hs => wp_seq (Go.wp_mono (h a w hs) fun e a' w' ⟨st', r, k⟩ => by
    cases e <;> first | exact k a' w' r | exact ⟨st', r, k⟩)
theorem AW.skip {E : Env} {K : Exit → St → Prop} {st : St} (h : K .normal st) : AW E .skip K st := fun _ _ hs => wp_skip ⟨st, hs, h⟩
theorem AW.label {E : Env} {l : Nat} {K : Exit → St → Prop} {st : St} (h : K .normal st) : AW E (.label l) K st := fun _ _ hs => wp_label ⟨st, hs, h⟩
theorem AW.exit {E : Env} {id : Nat} {K : Exit → St → Prop} {st : St} (h : K (.exit id) st) : AW E (.exit id) K st := fun _ _ hs => wp_exit ⟨st, hs, h⟩
theorem AW.goto {E : Env} {l : Nat} {K : Exit → St → Prop} {st : St} (h : K (.goto l) st) : AW E (.goto l) K st := fun _ _ hs => wp_goto ⟨st, hs, h⟩
theorem AW.ret {E : Env} {K : Exit → St → Prop} {st : St} (h : K .ret st) : AW E .ret K st := fun _ _ hs => wp_ret ⟨st, hs, h⟩
theorem AW.block {E : Env} {id : Nat} {c : Code} {K : Exit → St → Prop} {st : St} (h : AW E c (blockK id K) st) : AW E (.block id c) K st :=
  fun a w hs => wp_block (Go.wp_mono (h a w hs) fun e a' w' ⟨st', r, k⟩ => by
    cases e with
    | exit i =>
      simp only [blockK] at k
      simp only [Exit.inBlock]
      split <;> rename_i hi
      · rw [if_pos hi] at k; exact ⟨st', r, k⟩
      · rw [if_neg hi] at k; exact ⟨st', r, k⟩
    | _ => exact ⟨st', r, k⟩)
theorem least_ex (p : Nat → Prop) (h : ∃ n, p n) : ∃ n, p n ∧ ∀ m, p m → n ≤ m := by
  obtain ⟨n, hn⟩ := h
  induction n using Nat.strongRecOn with
  | _ n ih =>
    by_cases hm : ∃ m, m < n ∧ p m
    · obtain ⟨m, hlt, hp⟩ := hm
      exact ih m hlt hp
    · exact ⟨n, hn, fun m hp => Nat.le_of_not_lt fun hlt => hm ⟨m, hlt, hp⟩⟩
open Classical in
noncomputable def least (p : Nat → Prop) : Nat := if h : ∃ n, p n then Classical.choose (least_ex p h) else 0
theorem least_spec {p : Nat → Prop} (h : ∃ n, p n) : p (least p) ∧ ∀ m, p m → least p ≤ m := by
  unfold least
  rw [dif_pos h]
  exact Classical.choose_spec (least_ex p h)

theorem AW.loop {E : Env} {c : Code} {K : Exit → St → Prop} {st : St} (I : St → Prop) (μ : St → Nat) (h0 : I st)
    (round : ∀ st, I st → AW E c (thenK (fun st' => I st' ∧ μ st' < μ st) K) st) : AW E (.loop c) K st := by
  intro a w hs
  refine wp_loop (fun a w => ∃ st, SR E st a w ∧ I st) (fun a w => least fun m => ∃ st, SR E st a w ∧ I st ∧ μ st = m) ⟨st, hs, h0⟩ ?_
  rintro a w ⟨st1, hs1, hI1⟩
  obtain ⟨⟨st, hs, hI, hm⟩, _⟩ := least_spec (p := fun m => ∃ st, SR E st a w ∧ I st ∧ μ st = m) ⟨_, st1, hs1, hI1, rfl⟩
  refine Go.wp_mono (round st hI a w hs) fun e a' w' ⟨st', r, q⟩ => ?_
  cases e with
  | normal =>
    obtain ⟨hI', hlt⟩ := q
    refine ⟨⟨st', r, hI'⟩, ?_⟩
    have h2 := (least_spec (p := fun m => ∃ st, SR E st a' w' ∧ I st ∧ μ st = m) ⟨_, st', r, hI', rfl⟩).2 _ ⟨st', r, hI', rfl⟩
    omega
  | _ => exact ⟨st', r, q⟩

end Go.Am
