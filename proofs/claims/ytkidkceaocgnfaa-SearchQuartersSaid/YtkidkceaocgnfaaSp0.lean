/-
  Sp0: rules for the printed pieces, on values that are told.
-/
import Derived.Test.YtkidkceaocgnfaaAm9
set_option linter.all false
namespace Go.Am
/-! simp stays out of what follows -/
@[congr] theorem asB_cg {v v' : Value} {K : Bool → Prop} (h : v = v') : asB v K = asB v' K := by rw [h]
@[congr] theorem asC_cg {v v' : Value} {K : Nat → Nat → Prop} (h : v = v') : asC v K = asC v' K := by rw [h]
@[congr] theorem asS_cg {v v' : Value} {K : ByteArray → Prop} (h : v = v') : asS v K = asS v' K := by rw [h]
@[congr] theorem asP_cg {v v' : Value} {K : Option Addr → Prop} (h : v = v') : asP v K = asP v' K := by rw [h]
@[congr] theorem asSl_cg {v v' : Value} {K : Option Addr → Nat → Nat → Prop} (h : v = v') : asSl v K = asSl v' K := by rw [h]
@[congr] theorem asM_cg {v v' : Value} {K : Option Nat → Prop} (h : v = v') : asM v K = asM v' K := by rw [h]
@[congr] theorem asFn_cg {v v' : Value} {K : Fn → Array Value → Array Value → Prop} (h : v = v') : asFn v K = asFn v' K := by rw [h]
@[congr] theorem tupK_cg {v v' : Value} {K : List Value → Prop} (h : v = v') : tupK v K = tupK v' K := by rw [h]
@[congr] theorem asI_cg {k : IntKind} {v v' : Value} {K : Int → Prop} (h : v = v') : asI k v K = asI k v' K := by rw [h]
@[congr] theorem asF_cg {k : FloatKind} {v v' : Value} {K : Nat → Prop} (h : v = v') : asF k v K = asF k v' K := by rw [h]
@[congr] theorem asA_cg {n : Nat} {v v' : Value} {K : List Value → Prop} (h : v = v') : asA n v K = asA n v' K := by rw [h]
@[congr] theorem inB_cg {xs xs' : List Value} {K : Bool → List Value → Prop} (h : xs = xs') : inB xs K = inB xs' K := by rw [h]
@[congr] theorem inF_cg {xs xs' : List Value} {K : Nat → List Value → Prop} (h : xs = xs') : inF xs K = inF xs' K := by rw [h]
@[congr] theorem inC_cg {xs xs' : List Value} {K : Nat → Nat → List Value → Prop} (h : xs = xs') : inC xs K = inC xs' K := by rw [h]
@[congr] theorem inS_cg {xs xs' : List Value} {K : ByteArray → List Value → Prop} (h : xs = xs') : inS xs K = inS xs' K := by rw [h]
@[congr] theorem inP_cg {xs xs' : List Value} {K : Option Addr → List Value → Prop} (h : xs = xs') : inP xs K = inP xs' K := by rw [h]
@[congr] theorem inSl_cg {xs xs' : List Value} {K : Option Addr → Nat → Nat → List Value → Prop} (h : xs = xs') : inSl xs K = inSl xs' K := by rw [h]
@[congr] theorem inM_cg {xs xs' : List Value} {K : Option Nat → List Value → Prop} (h : xs = xs') : inM xs K = inM xs' K := by rw [h]
@[congr] theorem inFn_cg {xs xs' : List Value} {K : Fn → Array Value → Array Value → List Value → Prop} (h : xs = xs') : inFn xs K = inFn xs' K := by rw [h]
@[congr] theorem inI_cg {k : IntKind} {xs xs' : List Value} {K : Int → List Value → Prop} (h : xs = xs') : inI k xs K = inI k xs' K := by rw [h]
@[congr] theorem inA_cg {n : Nat} {xs xs' : List Value} {K : List Value → List Value → Prop} (h : xs = xs') : inA n xs K = inA n xs' K := by rw [h]
@[congr] theorem nilK_cg {xs xs' : List Value} {K : Prop} (h : xs = xs') : nilK xs K = nilK xs' K := by rw [h]
@[congr] theorem inX_cg {xs xs' : List (List Value)} {K : List Value → List (List Value) → Prop} (h : xs = xs') : inX xs K = inX xs' K := by rw [h]
@[congr] theorem nilX_cg {xs xs' : List (List Value)} {K : Prop} (h : xs = xs') : nilX xs K = nilX xs' K := by rw [h]
@[congr] theorem hp_cg {p p' : Option Addr} {K : Nat → Nat → Prop} (h : p = p') : hp p K = hp p' K := by rw [h]
@[congr] theorem aidx_cg {i i' : Int} {n n' : Nat} {K : Nat → Prop} (h : i = i') (h2 : n = n') : aidx i n K = aidx i' n' K := by rw [h, h2]
@[congr] theorem at__cg {xs xs' : List Value} {i i' : Nat} {K : Value → Prop} (h : xs = xs') (h2 : i = i') : at_ xs i K = at_ xs' i' K := by rw [h, h2]
@[congr] theorem rB_cg {xs xs' : List Value} {i i' : Nat} {K : Bool → Prop} (h : xs = xs') (h2 : i = i') : rB xs i K = rB xs' i' K := by rw [h, h2]
@[congr] theorem rF_cg {xs xs' : List Value} {i i' : Nat} {K : Nat → Prop} (h : xs = xs') (h2 : i = i') : rF xs i K = rF xs' i' K := by rw [h, h2]
@[congr] theorem rC_cg {xs xs' : List Value} {i i' : Nat} {K : Nat → Nat → Prop} (h : xs = xs') (h2 : i = i') : rC xs i K = rC xs' i' K := by rw [h, h2]
@[congr] theorem rS_cg {xs xs' : List Value} {i i' : Nat} {K : ByteArray → Prop} (h : xs = xs') (h2 : i = i') : rS xs i K = rS xs' i' K := by rw [h, h2]
@[congr] theorem rP_cg {xs xs' : List Value} {i i' : Nat} {K : Option Addr → Prop} (h : xs = xs') (h2 : i = i') : rP xs i K = rP xs' i' K := by rw [h, h2]
@[congr] theorem rSl_cg {xs xs' : List Value} {i i' : Nat} {K : Option Addr → Nat → Nat → Prop} (h : xs = xs') (h2 : i = i') : rSl xs i K = rSl xs' i' K := by rw [h, h2]
@[congr] theorem rM_cg {xs xs' : List Value} {i i' : Nat} {K : Option Nat → Prop} (h : xs = xs') (h2 : i = i') : rM xs i K = rM xs' i' K := by rw [h, h2]
@[congr] theorem rFn_cg {xs xs' : List Value} {i i' : Nat} {K : Fn → Array Value → Array Value → Prop} (h : xs = xs') (h2 : i = i') : rFn xs i K = rFn xs' i' K := by rw [h, h2]
@[congr] theorem rI_cg {k : IntKind} {xs xs' : List Value} {i i' : Nat} {K : Int → Prop} (h : xs = xs') (h2 : i = i') : rI k xs i K = rI k xs' i' K := by rw [h, h2]
@[congr] theorem rA_cg {n : Nat} {xs xs' : List Value} {i i' : Nat} {K : List Value → Prop} (h : xs = xs') (h2 : i = i') : rA n xs i K = rA n xs' i' K := by rw [h, h2]
@[congr] theorem rdH_cg {H : AHeap} {b b' : Nat} {K : List Value → Prop} (h : b = b') : rdH H b K = rdH H b' K := by rw [h]
@[congr] theorem wrH_cg {H : AHeap} {b b' : Nat} {K : List Value → TypeId → Prop} (h : b = b') : wrH H b K = wrH H b' K := by rw [h]
@[congr] theorem call_cg {P : Program} {f : FuncId} {xs xs' : List Value} {H : AHeap} {Q : Value → AHeap → Prop} (h : xs = xs') : call P f xs H Q = call P f xs' H Q := by rw [h]
@[congr] theorem f2i_cg {k : IntKind} {b b' : Nat} {K : Int → Prop} (h : b = b') : f2i k b K = f2i k b' K := by rw [h]

@[simp] theorem inI_c {k : IntKind} {x : Int} {vs : List Value} {K : Int → List Value → Prop} : inI k (.int k x :: vs) K = K x vs := by simp [inI, consK, asI]
@[simp] theorem inB_c {x : Bool} {vs : List Value} {K : Bool → List Value → Prop} : inB (.bool x :: vs) K = K x vs := Eq.trans rfl rfl
@[simp] theorem inF_c {x : Nat} {vs : List Value} {K : Nat → List Value → Prop} : inF (.float .f64 x :: vs) K = K x vs := by simp [inF, consK, asF]
@[simp] theorem inC_c {x y : Nat} {vs : List Value} {K : Nat → Nat → List Value → Prop} : inC (.complex .f64 x y :: vs) K = K x y vs := Eq.trans rfl rfl
@[simp] theorem inS_c {x : ByteArray} {vs : List Value} {K : ByteArray → List Value → Prop} : inS (.string x :: vs) K = K x vs := Eq.trans rfl rfl
@[simp] theorem inP_c {x : Option Addr} {vs : List Value} {K : Option Addr → List Value → Prop} : inP (.pointer x :: vs) K = K x vs := Eq.trans rfl rfl
@[simp] theorem inSl_c {x : Option Addr} {y z : Nat} {vs : List Value} {K : Option Addr → Nat → Nat → List Value → Prop} : inSl (.slice x y z :: vs) K = K x y z vs := Eq.trans rfl rfl
@[simp] theorem inM_c {x : Option Nat} {vs : List Value} {K : Option Nat → List Value → Prop} : inM (.map x :: vs) K = K x vs := Eq.trans rfl rfl
@[simp] theorem inFn_c {x : Fn} {y z : Array Value} {vs : List Value} {K : Fn → Array Value → Array Value → List Value → Prop} : inFn (.func x y z :: vs) K = K x y z vs := Eq.trans rfl rfl
@[simp] theorem gd_simp {c : Prop} [Decidable c] {K : Prop} : gd c K ↔ c ∧ K := gd_iff
@[simp] theorem inA_c {n : Nat} {xs vs : List Value} {K : List Value → List Value → Prop} : inA n (.agg ⟨xs⟩ :: vs) K ↔ xs.length = n ∧ K xs vs := by simp [inA, consK, asA]
@[simp] theorem nilK_c {K : Prop} : nilK [] K = K := Eq.trans rfl rfl
@[simp] theorem inX_c {x : List Value} {vs : List (List Value)} {K : List Value → List (List Value) → Prop} : inX (x :: vs) K = K x vs := Eq.trans rfl rfl
@[simp] theorem nilX_c {K : Prop} : nilX [] K = K := Eq.trans rfl rfl
@[simp] theorem asI_c {k : IntKind} {x : Int} {K : Int → Prop} : asI k (.int k x) K = K x := by simp [asI]
@[simp] theorem asB_c {x : Bool} {K : Bool → Prop} : asB (.bool x) K = K x := Eq.trans rfl rfl
@[simp] theorem asF_c {k : FloatKind} {x : Nat} {K : Nat → Prop} : asF k (.float k x) K = K x := by simp [asF]
@[simp] theorem asC_c {x y : Nat} {K : Nat → Nat → Prop} : asC (.complex .f64 x y) K = K x y := Eq.trans rfl rfl
@[simp] theorem asS_c {x : ByteArray} {K : ByteArray → Prop} : asS (.string x) K = K x := Eq.trans rfl rfl
@[simp] theorem asP_c {x : Option Addr} {K : Option Addr → Prop} : asP (.pointer x) K = K x := Eq.trans rfl rfl
@[simp] theorem asSl_c {x : Option Addr} {y z : Nat} {K : Option Addr → Nat → Nat → Prop} : asSl (.slice x y z) K = K x y z := Eq.trans rfl rfl
@[simp] theorem asM_c {x : Option Nat} {K : Option Nat → Prop} : asM (.map x) K = K x := Eq.trans rfl rfl
@[simp] theorem asA_c {n : Nat} {xs : List Value} {K : List Value → Prop} : asA n (.agg ⟨xs⟩) K ↔ xs.length = n ∧ K xs := by simp [asA]
@[simp] theorem tupK_c {xs : List Value} {K : List Value → Prop} : tupK (.tuple ⟨xs⟩) K = K xs := Eq.trans rfl rfl
@[simp] theorem hp_c {b o : Nat} {K : Nat → Nat → Prop} : hp (some ⟨b, o, none⟩) K = K b o := Eq.trans rfl rfl
@[simp] theorem aidx_c {i : Int} {n : Nat} {K : Nat → Prop} : aidx i n K ↔ (0 ≤ i ∧ i < n) ∧ K i.toNat := gd_iff
theorem rdH_s {H : AHeap} {b : Nat} {xs : List Value} {e : TypeId} {own : Bool} {K : List Value → Prop} (h : H.get b = some (.cells xs e own)) : rdH H b K = K xs := by simp [rdH, h]
theorem wrH_s {H : AHeap} {b : Nat} {xs : List Value} {e : TypeId} {K : List Value → TypeId → Prop} (h : H.get b = some (.cells xs e true)) : wrH H b K = K xs e := by simp [wrH, h]
theorem at_s {xs : List Value} {i : Nat} {v : Value} {K : Value → Prop} (h : xs[i]? = some v) : at_ xs i K = K v := by simp [at_, h]
@[simp] theorem at_z {v : Value} {vs : List Value} {K : Value → Prop} : at_ (v :: vs) 0 K = K v := Eq.trans rfl rfl
@[simp] theorem at_n {v : Value} {vs : List Value} {i : Nat} {K : Value → Prop} : at_ (v :: vs) (i + 1) K = at_ vs i K := Eq.trans rfl rfl
theorem rI_s {k : IntKind} {xs : List Value} {i : Nat} {x : Int} {K : Int → Prop} (h : xs[i]? = some (.int k x)) : rI k xs i K = K x := by simp [rI, at_, h]
theorem rB_s {xs : List Value} {i : Nat} {x : Bool} {K : Bool → Prop} (h : xs[i]? = some (.bool x)) : rB xs i K = K x := by simp [rB, at_, h]
theorem rC_s {xs : List Value} {i : Nat} {x y : Nat} {K : Nat → Nat → Prop} (h : xs[i]? = some (.complex .f64 x y)) : rC xs i K = K x y := by simp [rC, at_, h]
@[simp] theorem rI_z {k : IntKind} {v : Value} {vs : List Value} {K : Int → Prop} : rI k (v :: vs) 0 K = asI k v K := Eq.trans rfl rfl
@[simp] theorem rB_z {v : Value} {vs : List Value} {K : Bool → Prop} : rB (v :: vs) 0 K = asB v K := Eq.trans rfl rfl
@[simp] theorem rF_z {v : Value} {vs : List Value} {K : Nat → Prop} : rF (v :: vs) 0 K = asF .f64 v K := Eq.trans rfl rfl
@[simp] theorem rC_z {v : Value} {vs : List Value} {K : Nat → Nat → Prop} : rC (v :: vs) 0 K = asC v K := Eq.trans rfl rfl
@[simp] theorem rS_z {v : Value} {vs : List Value} {K : ByteArray → Prop} : rS (v :: vs) 0 K = asS v K := Eq.trans rfl rfl
@[simp] theorem rP_z {v : Value} {vs : List Value} {K : Option Addr → Prop} : rP (v :: vs) 0 K = asP v K := Eq.trans rfl rfl
@[simp] theorem rSl_z {v : Value} {vs : List Value} {K : Option Addr → Nat → Nat → Prop} : rSl (v :: vs) 0 K = asSl v K := Eq.trans rfl rfl
@[simp] theorem rM_z {v : Value} {vs : List Value} {K : Option Nat → Prop} : rM (v :: vs) 0 K = asM v K := Eq.trans rfl rfl
@[simp] theorem rI_n {k : IntKind} {v : Value} {vs : List Value} {i : Nat} {K : Int → Prop} : rI k (v :: vs) (i + 1) K = rI k vs i K := Eq.trans rfl rfl
@[simp] theorem rB_n {v : Value} {vs : List Value} {i : Nat} {K : Bool → Prop} : rB (v :: vs) (i + 1) K = rB vs i K := Eq.trans rfl rfl
@[simp] theorem rF_n {v : Value} {vs : List Value} {i : Nat} {K : Nat → Prop} : rF (v :: vs) (i + 1) K = rF vs i K := Eq.trans rfl rfl
@[simp] theorem rC_n {v : Value} {vs : List Value} {i : Nat} {K : Nat → Nat → Prop} : rC (v :: vs) (i + 1) K = rC vs i K := Eq.trans rfl rfl
@[simp] theorem rS_n {v : Value} {vs : List Value} {i : Nat} {K : ByteArray → Prop} : rS (v :: vs) (i + 1) K = rS vs i K := Eq.trans rfl rfl
@[simp] theorem rP_n {v : Value} {vs : List Value} {i : Nat} {K : Option Addr → Prop} : rP (v :: vs) (i + 1) K = rP vs i K := Eq.trans rfl rfl
@[simp] theorem rSl_n {v : Value} {vs : List Value} {i : Nat} {K : Option Addr → Nat → Nat → Prop} : rSl (v :: vs) (i + 1) K = rSl vs i K := Eq.trans rfl rfl
@[simp] theorem rM_n {v : Value} {vs : List Value} {i : Nat} {K : Option Nat → Prop} : rM (v :: vs) (i + 1) K = rM vs i K := Eq.trans rfl rfl
theorem rP_s {xs : List Value} {i : Nat} {x : Option Addr} {K : Option Addr → Prop} (h : xs[i]? = some (.pointer x)) : rP xs i K = K x := by simp [rP, at_, h]
theorem rSl_s {xs : List Value} {i : Nat} {x : Option Addr} {y z : Nat} {K : Option Addr → Nat → Nat → Prop} (h : xs[i]? = some (.slice x y z)) : rSl xs i K = K x y z := by simp [rSl, at_, h]
theorem rM_s {xs : List Value} {i : Nat} {x : Option Nat} {K : Option Nat → Prop} (h : xs[i]? = some (.map x)) : rM xs i K = K x := by simp [rM, at_, h]
theorem rH_all {n : Nat} {xs : List Value} {K : List Value → Prop} (h : xs.length = n) (hn : xs.all nj = true) : rH n xs 0 K ↔ K xs := by
  subst h
  have e : (xs.drop 0).take xs.length = xs := by simp
  simp only [rH, e, hn, and_true, Nat.zero_add, Nat.le_refl, gd_iff, true_and]
@[congr] theorem rH_cg {n : Nat} {xs xs' : List Value} {i i' : Nat} {K : List Value → Prop} (h : xs = xs') (h2 : i = i') : rH n xs i K = rH n xs' i' K := by rw [h, h2]
@[simp] theorem rA_all {n : Nat} {xs : List Value} {K : List Value → Prop} (h : xs.length = n) : rA n xs 0 K = K xs := by simp [rA, ← h]
theorem newB_c {H : AHeap} {K : Nat → Prop} : newB H K = ∀ b, H.get b = none → K b := rfl
@[simp] theorem andK_c {a b : Prop} : andK a b = (a ∧ b) := Eq.trans rfl rfl
@[simp] theorem put_get {H : AHeap} {b i : Nat} {o : AObj} : (H.put b o).get i = if i = b then some o else H.get i := Eq.trans rfl rfl
@[simp] theorem mxI_c {x y : Int} : mxI x y = max x y := by unfold mxI; omega
@[simp] theorem mnI_c {x y : Int} : mnI x y = min x y := by unfold mnI; omega

theorem wrap64 (x : Int) : IntKind.wrap .i64 x = (x + 9223372036854775808) % 18446744073709551616 - 9223372036854775808 := by
  simp [IntKind.wrap, IntKind.bits, IntKind.signed]; omega
theorem w64 {x : Int} (h1 : -9223372036854775808 ≤ x) (h2 : x ≤ 9223372036854775807) : IntKind.wrap .i64 x = x := by rw [wrap64]; omega
theorem wrapu8 (x : Int) : IntKind.wrap .u8 x = x % 256 := by simp [IntKind.wrap, IntKind.bits, IntKind.signed]
theorem and1 (x : Int) : andI .i64 x 1 = x % 2 := by
  have h : (BitVec.ofInt 64 x &&& BitVec.ofInt 64 1).toNat = (x % 2).toNat := by
    rw [BitVec.toNat_and]
    have e1 : (BitVec.ofInt 64 1).toNat = 1 := by decide
    rw [e1, Nat.and_one_is_mod, BitVec.toNat_ofInt]
    omega
  show IntKind.wrap .i64 ((BitVec.ofInt 64 x &&& BitVec.ofInt 64 1).toNat : Nat) = _
  rw [h, w64 (by omega) (by omega)]
  omega
theorem shr1 (x : Int) : shrI .i64 x 1 = x / 2 := by
  have : (2 : Int) ^ (min (1 : Int).toNat (IntKind.bits .i64)) = 2 := by decide
  rw [shrI, this, Int.fdiv_eq_ediv_of_nonneg _ (by decide)]

theorem tdivp (a m : Int) (hm : 0 < m) : a.tdiv m = if 0 ≤ a then a / m else -((-a) / m) := by
  split
  · rename_i h; exact Int.tdiv_eq_ediv_of_nonneg h
  · rename_i h
    have h1 : a.tdiv m = -((-a).tdiv m) := by rw [Int.neg_tdiv]; omega
    rw [h1, Int.tdiv_eq_ediv_of_nonneg (by omega)]
theorem tmodp (a m : Int) (hm : 0 < m) : a.tmod m = if 0 ≤ a then a % m else -((-a) % m) := by
  split
  · rename_i h; exact Int.tmod_eq_emod_of_nonneg h
  · rename_i h
    have h1 : a.tmod m = -((-a).tmod m) := by rw [Int.neg_tmod]; omega
    rw [h1, Int.tmod_eq_emod_of_nonneg (by omega)]

/-! ### loops -/
theorem lp {σ : Type} {B : KB → List Value → List (List Value) → AHeap → Prop} {kb : KB} {l : Nat} {vs : List Value} {bs : List (List Value)} {H : AHeap}
    (ev : σ → List Value) (eb : σ → List (List Value)) (I : σ → AHeap → Prop) (μ : σ → AHeap → Nat) (s0 : σ) (hv : vs = ev s0) (hb : bs = eb s0) (h0 : I s0 H)
    (step : ∀ s H (k : List Value → List (List Value) → AHeap → Prop), I s H → (∀ s' H', I s' H' → μ s' H' < μ s H → k (ev s') (eb s') H') → B (upK kb l k) (ev s) (eb s) H) : lpW B kb l vs bs H := by
  subst hv hb
  refine ⟨fun vs bs H => ∃ s, vs = ev s ∧ bs = eb s ∧ I s H, fun vs bs H => least fun m => ∃ s, vs = ev s ∧ bs = eb s ∧ I s H ∧ μ s H = m, ⟨s0, rfl, rfl, h0⟩, ?_⟩
  rintro vs bs H ⟨s1, rfl, rfl, hI1⟩
  obtain ⟨⟨s, hsv, hsb, hI, hm⟩, _⟩ := least_spec (p := fun m => ∃ s, ev s1 = ev s ∧ eb s1 = eb s ∧ I s H ∧ μ s H = m) ⟨_, s1, rfl, rfl, hI1, rfl⟩
  rw [hsv, hsb]
  refine step s H _ hI fun s' H' hI' hlt => ⟨⟨s', rfl, rfl, hI'⟩, ?_⟩
  have h2 := (least_spec (p := fun m => ∃ s, ev s' = ev s ∧ eb s' = eb s ∧ I s H' ∧ μ s H' = m) ⟨_, s', rfl, rfl, hI', rfl⟩).2 _ ⟨s', rfl, rfl, hI', rfl⟩
  rw [hsv, hsb] at hm
  exact Nat.lt_of_le_of_lt h2 (Nat.lt_of_lt_of_le hlt (Nat.le_of_eq hm))
@[simp] theorem upK_same {kb : KB} {l : Nat} {k : List Value → List (List Value) → AHeap → Prop} : upK kb l k l = k := by simp [upK]
theorem upK_ne {kb : KB} {l j : Nat} {k : List Value → List (List Value) → AHeap → Prop} (h : j ≠ l) : upK kb l k j = kb j := by simp [upK, h]
end Go.Am
