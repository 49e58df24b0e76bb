/- A part of the proof: Sp11. -/
import Derived.Test.YtkidkceaocgnfaaSp10
/- Sp11: allowed, may, away, steps. -/
set_option linter.all false
set_option maxRecDepth 100000
namespace Go.Am
open Go.Proofs
def okv (C mb lim : Int) (X : Nat → Int) : Bool := decide (lim ≤ 0) || decide (reachN C mb X 5 < lim)
theorem s20 {C mb far lim : Int} {X Y : Nat → Int} {H : AHeap} {Q : Value → AHeap → Prop} (hC : 1 ≤ C ∧ C ≤ 100) (hm : 0 ≤ mb ∧ mb ≤ 10000) (hX : B64 X) (hY : B64 Y) (hQ : Q (.bool (okv C mb lim X)) H) :
    call Try.prog 20 [.agg ⟨[.int .i64 far, .int .i64 lim]⟩, .int .i64 C, .int .i64 mb, .agg ⟨vs4 X Y⟩] H Q := by
  refine c20 ?_
  unfold okv at hQ
  simp only [f20, g20, inI_c, inA_c, nilK_c, gd_simp, vs4_len, true_and, rI_n, rI_z, asI_c]
  refine ⟨rfl, rfl, bdec (fun h => ?_) (fun h => ?_)⟩
  · simpa only [h, decide_true, Bool.true_or] using hQ
  · rw [rA_all (vs4_len X Y)]
    refine s36 hC hm hX hY ?_
    simp only [asI_c]
    simpa only [h, decide_false, Bool.false_or] using hQ
def rAll (X Y : Nat → Int) : Nat → Bool
  | 0 => true
  | i + 1 => rAll X Y i && right (X i) (Y i)
def mayV (C mb lim : Int) (X Y : Nat → Int) : Bool := rAll X Y 4 && okv C mb lim X
theorem rAll_false {X Y : Nat → Int} {i : Nat} (h : right (X i) (Y i) = false) : ∀ j, i < j → rAll X Y j = false
  | 0, hj => by omega
  | j + 1, hj => by
    by_cases he : i = j
    · subst he; simp [rAll, h]
    · simp [rAll, rAll_false h j (by omega)]
theorem s11 {C mb lim : Int} {X Y : Nat → Int} {H : AHeap} {Q : Value → AHeap → Prop} (hC : 1 ≤ C ∧ C ≤ 100) (hm : 0 ≤ mb ∧ mb ≤ 100) (hX : B64 X) (hY : B64 Y) (hQ : ∀ H', Hx H H' → Q (.bool (mayV C mb lim X Y)) H') :
    call Try.prog 11 [.int .i64 C, .int .i64 lim, .int .i64 mb, .agg ⟨vs4 X Y⟩] H Q := by
  refine c11 ?_
  simp only [f11, g11, inI_c, inA_c, nilK_c, gd_simp, vs4_len, true_and, rA_all (vs4_len X Y)]
  refine lp (σ := Nat) (fun i => [.int .i64 C, .int .i64 lim, .int .i64 mb, .agg ⟨vs4 X Y⟩, .int .i64 (i : Nat)]) (fun _ => [vs4 X Y]) (fun i H' => H' = H ∧ i ≤ 4 ∧ rAll X Y i = true) (fun i _ => 4 - i) 0 rfl rfl ⟨rfl, by omega, rfl⟩ ?_
  rintro i H' kk ⟨rfl, hi, hr⟩ hk
  simp only [f11_l2, g11_l2, inI_c, inA_c, vs4_len, true_and, nilK_c, inX_c, nilX_c]
  refine bdec (fun h => ?_) (fun h => ?_)
  · have e3 : (i : Int).toNat * 1 = i := by simp
    have a1 := hX i (by omega)
    have a2 := hY i (by omega)
    simp only [f11_3, g11_3, inI_c, inA_c, vs4_len, true_and, nilK_c, inX_c, nilX_c, aidx_c, e3, rC_s (vs4_get X Y (show i < 4 by omega))]
    refine ⟨by omega, s23 a1 a2 ?_⟩
    simp only [asB_c]
    cases hb : right (X i) (Y i) with
    | false =>
      simp only [Bool.not_false, cond_true]
      have := hQ H' (Hx.refl _)
      simpa only [mayV, rAll_false hb 4 (by omega), Bool.false_and] using this
    | true =>
      simp only [Bool.not_true, cond_false, f11_6, g11_6, inI_c, inA_c, vs4_len, true_and, nilK_c, inX_c, nilX_c]
      rw [wn (by omega), upK_same]
      exact hk (i + 1) H' ⟨rfl, by omega, by simp [rAll, hr, hb]⟩ (by omega)
  · have : i = 4 := by omega
    subst this
    simp only [f11_7, g11_7, inI_c, nilK_c, inX_c, nilX_c, rA_all (vs4_len X Y)]
    refine s25 hX hY ?_
    simp only [asA_c, mac_len, true_and]
    refine s24 hC hm (by omega) hX hY fun H'' b n hx => ?_
    have := hQ H'' hx
    simp only [tupK_c, inSl_c, inI_c, nilK_c]
    refine bdec (fun h => ?_) (fun h => ?_)
    · simpa only [mayV, hr, Bool.true_and, okv, h, decide_true, Bool.true_or] using this
    · simpa only [mayV, hr, Bool.true_and, okv, h, decide_false, Bool.false_or] using this

theorem s29 {p : List Value} {W Hh : Int} {xs : List Int} {H : AHeap} {Q : Value → AHeap → Prop} (hp : Plane H p W Hh xs) (hQ : Q (.agg ⟨p⟩) H) : call Try.prog 29 [.agg ⟨p⟩] H Q := by
  obtain ⟨⟨b, rfl, hx⟩, _⟩ := hp
  refine c29 ?_
  simp only [f29, g29, inA_c, nilK_c, gd_simp, rI_n, rI_z, asI_c, rSl_n, rSl_z, asSl_c]
  exact ⟨rfl, rfl, hQ⟩

theorem s13 {f g : List Value} {C R : Int} {ys us vs zs us' vs' : List Int} {mb k dx dy : Int} {down : Bool} {H : AHeap} {Q : Value → AHeap → Prop} (hf : FrameOK H f C R ys us vs) (hg : FrameOK H g C R zs us' vs') (hm : 0 ≤ mb ∧ mb ≤ 64) (hk : 0 ≤ k ∧ k < 4)
    (hdx : -64 ≤ dx ∧ dx ≤ 64) (hdy : -64 ≤ dy ∧ dy ≤ 64) (hQ : Q (.int .i64 (dist C R ys zs mb k dx dy down)) H) : call Try.prog 13 [.agg ⟨f⟩, .agg ⟨g⟩, .int .i64 mb, .int .i64 k, .complex .f64 (fb dx) (fb dy), .bool down] H Q := by
  have hc := hf.hc
  obtain ⟨b1, b2⟩ := modC hc.1 hm.1
  have hfl := hf.len
  have hgl := hg.len
  obtain ⟨_, _, hyp⟩ := hf.y.ex
  obtain ⟨_, _, hzp⟩ := hg.y.ex
  have rS := fun i => smp_rng (W := 16 * C) (Hh := 16 * R) hyp (16 * (mb % C) + 8 * (k % 2) + (i : Int) % 8) (16 * (mb / C) + 8 * (k / 2) + (i : Int) / 8)
  have hS : ∀ i, 0 ≤ qS C R ys mb k i ∧ qS C R ys mb k i ≤ 255 := fun i => smp_rng hyp _ _
  have hT : ∀ i, 0 ≤ qT C R zs mb k dx dy down i ∧ qT C R zs mb k dx dy down i ≤ 255 := fun i => betw_rng (fun x y => smp_rng hzp x y) _ _ _
  have t1 : ((f.drop 2).take 3).length = 3 := by simp; omega
  have t2 : ((g.drop 2).take 3).length = 3 := by simp; omega
  refine c13 ?_
  simp only [f13, g13, inA_c, inI_c, inC_c, inB_c, nilK_c, gd_simp, hfl, hgl, true_and, rA_all hfl]
  refine s27 hfl hf.c (by omega) (by omega) hk ?_
  simp only [tupK_c, inI_c, inA_c, nilK_c, gd_simp, t1, true_and]
  refine ⟨by decide, ?_⟩
  refine s12 hdx hdy ?_
  simp only [tupK_c, inI_c, nilK_c]
  rw [stC_all (by rw [t1]; rfl)]
  have hd0 : dsum (qS C R ys mb k) (qT C R zs mb k dx dy down) 0 = 0 := rfl
  rw [← hd0]
  refine lp (σ := Nat) (fun i => [.bool down, .int .i64 (16 * (mb % C) + 8 * (k % 2)), .int .i64 (16 * (mb / C) + 8 * (k / 2)), .int .i64 dx, .int .i64 dy, .int .i64 (dsum (qS C R ys mb k) (qT C R zs mb k dx dy down) i), .int .i64 (i : Nat)]) (fun _ => [g, (f.drop 2).take 3]) (fun i H' => H' = H ∧ i ≤ 64) (fun i _ => 64 - i) 0 rfl rfl ⟨rfl, by omega⟩ ?_
  rintro i H' kk ⟨rfl, hi⟩ hkk
  have hdr := dsum_rng hS hT i
  have hs := hS i
  have ht := hT i
  have e1 : (i : Int).tmod 8 = i % 8 := Int.tmod_eq_emod_of_nonneg (by omega)
  have e2 : (i : Int).tdiv 8 = i / 8 := Int.tdiv_eq_ediv_of_nonneg (by omega)
  simp only [f13_l5, g13_l5, inI_c, inB_c, nilK_c, inX_c, nilX_c]
  refine bdec (fun h => ?_) (fun h => ?_)
  · simp only [f13_6, g13_6, inI_c, inB_c, nilK_c, inX_c, nilX_c, rA_all t1, e1, e2]
    rw [w64 (x := (i : Int) / 8) (by omega) (by omega), w64 (x := 16 * (mb % C) + 8 * (k % 2) + (i : Int) % 8) (by omega) (by omega), w64 (x := 16 * (mb / C) + 8 * (k / 2) + (i : Int) / 8) (by omega) (by omega),
      w64 (x := 2 * (16 * (mb % C) + 8 * (k % 2) + (i : Int) % 8)) (by omega) (by omega), w64 (x := 2 * (16 * (mb / C) + 8 * (k / 2) + (i : Int) / 8)) (by omega) (by omega),
      w64 (x := 2 * (16 * (mb % C) + 8 * (k % 2) + (i : Int) % 8) + dx) (by omega) (by omega), w64 (x := 2 * (16 * (mb / C) + 8 * (k / 2) + (i : Int) / 8) + dy) (by omega) (by omega)]
    simp only [rA, gd_simp, hgl]
    refine ⟨by decide, s28 hf.y ?_⟩
    simp only [asI_c]
    refine s29 hg.y ?_
    simp only [asA_c, t2, true_and]
    refine s30 hg.y (by omega) (by omega) ?_
    have es : smp (16 * C) (16 * R) ys (16 * (mb % C) + 8 * (k % 2) + (i : Int) % 8) (16 * (mb / C) + 8 * (k / 2) + (i : Int) / 8) = qS C R ys mb k i := rfl
    have et : betw (16 * C) (16 * R) zs (2 * (16 * (mb % C) + 8 * (k % 2) + (i : Int) % 8) + dx) (2 * (16 * (mb / C) + 8 * (k / 2) + (i : Int) / 8) + dy) down = qT C R zs mb k dx dy down i := rfl
    simp only [asI_c, es, et, mxI_c]
    rw [w64 (x := qS C R ys mb k i) (by omega) (by omega), w64 (x := qS C R ys mb k i - qT C R zs mb k dx dy down i) (by omega) (by omega), w64 (x := 0 - (qS C R ys mb k i - qT C R zs mb k dx dy down i)) (by omega) (by omega)]
    have em : max (qS C R ys mb k i - qT C R zs mb k dx dy down i) (0 - (qS C R ys mb k i - qT C R zs mb k dx dy down i)) = max (qS C R ys mb k i - qT C R zs mb k dx dy down i) (qT C R zs mb k dx dy down i - qS C R ys mb k i) := by omega
    rw [em, w64 (by omega) (by omega)]
    simp only [f13_9, g13_9, inI_c, inB_c, nilK_c, inX_c, nilX_c]
    rw [wn (by omega), upK_same]
    exact hkk (i + 1) H' ⟨rfl, by omega⟩ (by omega)
  · have : i = 64 := by omega
    subst this
    simp only [f13_10, g13_10, inI_c, nilK_c, nilX_c]
    exact hQ

/-! ### slices that are appended to -/
structure SlH (H0 H : AHeap) (e : TypeId) (sz : Nat) (a : Option Addr) (n z : Nat) (L : List Value) : Prop where
  ext : Hx H0 H
  at' : (L = [] ∧ a = none ∧ n = 0 ∧ z = 0) ∨ ∃ b, a = some ⟨b, 0, none⟩ ∧ L.length = n * sz ∧ z = sz ∧ H.get b = some (.cells L e true) ∧ H0.get b = none
theorem Hx.non {H H' : AHeap} (h : Hx H H') {b : Nat} (hb : H'.get b = none) : H.get b = none := by
  cases he : H.get b with
  | none => rfl
  | some o => rw [h _ _ he] at hb; cases hb
theorem Hx.kill {H H' : AHeap} (h : Hx H H') {b : Nat} (hb : H.get b = none) : Hx H (H'.kill b) := fun i o e => by
  show (if i = b then none else H'.get i) = some o
  split
  · rename_i hi; subst hi; rw [hb] at e; cases e
  · exact h i o e
theorem SlH.nil {H : AHeap} {e : TypeId} {sz : Nat} : SlH H H e sz none 0 0 [] := ⟨Hx.refl H, .inl ⟨rfl, rfl, rfl, rfl⟩⟩
theorem SlH.put {H0 H : AHeap} {e : TypeId} {sz : Nat} {a : Option Addr} {n z : Nat} {L : List Value} (h : SlH H0 H e sz a n z L) {b : Nat} (hb : H.get b = none) (o : AObj) : SlH H0 (H.put b o) e sz a n z L := by
  refine ⟨h.ext.put (h.ext.non hb) o, ?_⟩
  rcases h.at' with h | ⟨b1, h1, h2, h3, h4, h5⟩
  · exact .inl h
  · refine .inr ⟨b1, h1, h2, h3, ?_, h5⟩
    rw [put_get]
    split
    · rename_i hi; subst hi; rw [hb] at h4; cases h4
    · exact h4
theorem SlH.app {H0 H : AHeap} {e : TypeId} {sz by_ : Nat} {a : Option Addr} {n z : Nat} {L ys : List Value} {m : Nat} {K : Option Addr → Nat → Nat → AHeap → Prop} (h : SlH H0 H e sz a n z L) (hy : ys.length = m * sz) (hm : m ≠ 0) (hb : (n + m) * by_ ≤ 140737488355328)
    (hK : ∀ a' n' z' H', SlH H0 H' e sz a' n' z' (L ++ ys) → n' = n + m → K a' n' z' H') : appW H e sz by_ a n z ys m K := by
  refine ⟨hb, ?_⟩
  rcases h.at' with ⟨rfl, rfl, rfl, rfl⟩ | ⟨b1, rfl, h2, rfl, h4, h5⟩
  · refine ⟨fun h => absurd h hm, fun _ b hb => hK _ _ _ _ ⟨h.ext.put (h.ext.non hb) _, .inr ⟨b, rfl, ?_, rfl, ?_, h.ext.non hb⟩⟩ (by omega)⟩
    · simpa using hy
    · simp
  · simp only [h4]
    refine ⟨by simp only [h2, and_self], fun b hb => ?_⟩
    have hb0 : H0.get b = none := by
      rcases hb with rfl | hb
      · exact h5
      · exact h.ext.non hb
    refine hK _ _ _ _ ⟨(h.ext.kill h5).put hb0 _, .inr ⟨b, rfl, ?_, rfl, ?_, hb0⟩⟩ rfl
    · simp only [List.length_append, h2, hy, Nat.add_mul]
    · simp

/-! ### steps -/
def vecP (p : Int × Int) : Value := vec p.1 p.2
def seqs (by_ far : Int) (n : Nat) : List Int := (List.range n).map fun (i : Nat) => -far + by_ * (i : Int)
def stepsI (x y : Int) (by_ far dy : Int) (j : Nat) : List (Int × Int) := ((seqs by_ far j).map fun dx => (x + dx, y + dy)).filter fun p => right p.1 p.2
def stepsO (x y : Int) (by_ far : Int) (N : Nat) : Nat → List (Int × Int)
  | 0 => []
  | i + 1 => stepsO x y by_ far N i ++ stepsI x y by_ far (-far + by_ * (i : Int)) N
theorem stepsI_succ (x y by_ far dy : Int) (j : Nat) : stepsI x y by_ far dy (j + 1) = stepsI x y by_ far dy j ++ (if right (x + (-far + by_ * (j : Int))) (y + dy) = true then [(x + (-far + by_ * (j : Int)), y + dy)] else []) := by
  simp only [stepsI, seqs, List.range_succ, List.map_append, List.map_cons, List.map_nil, List.filter_append, List.filter_cons, List.filter_nil]
/-- how many steps -/
def nst (by_ far : Int) : Nat := (2 * far / by_ + 1).toNat
theorem nst_lt {by_ far : Int} (hb : by_ = 1 ∨ by_ = 2) (hf : 0 ≤ far ∧ far ≤ 32) (i : Nat) : -far + by_ * (i : Int) ≤ far ↔ i < nst by_ far := by
  unfold nst
  rcases hb with rfl | rfl <;> omega
theorem stepsI_len (x y by_ far dy : Int) (j : Nat) : (stepsI x y by_ far dy j).length ≤ j := by
  have h := List.length_filter_le (fun p : Int × Int => right p.1 p.2) ((seqs by_ far j).map fun dx => (x + dx, y + dy))
  simpa [stepsI, seqs] using h
theorem stepsO_len (x y by_ far : Int) (N i : Nat) : (stepsO x y by_ far N i).length ≤ i * N := by
  induction i with
  | zero => simp [stepsO]
  | succ i ih =>
    have := stepsI_len x y by_ far (-far + by_ * (i : Int)) N
    simp only [stepsO, List.length_append, Nat.add_mul]
    omega
theorem s22 {fl lm x y by_ far : Int} {H : AHeap} {Q : Value → AHeap → Prop} (hx : -31 ≤ x ∧ x ≤ 31) (hy : -31 ≤ y ∧ y ≤ 31) (hb : by_ = 1 ∨ by_ = 2) (hf : 0 ≤ far ∧ far ≤ 32)
    (hQ : ∀ H' a n z, SlH H H' 34 1 a n z ((stepsO x y by_ far (nst by_ far) (nst by_ far)).map vecP) → Q (.slice a n z) H') :
    call Try.prog 22 [.agg ⟨[.int .i64 fl, .int .i64 lm]⟩, .complex .f64 (fb x) (fb y), .int .i64 by_, .int .i64 far] H Q := by
  have hN : nst by_ far ≤ 65 := by unfold nst; rcases hb with rfl | rfl <;> omega
  refine c22 ?_
  simp only [f22, g22, inI_c, inA_c, inC_c, nilK_c, gd_simp]
  refine ⟨rfl, rfl, s12 (by omega) (by omega) ?_⟩
  simp only [tupK_c, inI_c, nilK_c]
  rw [w64 (x := 0 - far) (by omega) (by omega)]
  refine lp (σ := Nat × Option Addr × Nat × Nat) (fun p => [.int .i64 by_, .int .i64 far, .slice p.2.1 p.2.2.1 p.2.2.2, .int .i64 x, .int .i64 y, .int .i64 (-far + by_ * (p.1 : Int))]) (fun _ => [])
    (fun p H' => p.1 ≤ nst by_ far ∧ SlH H H' 34 1 p.2.1 p.2.2.1 p.2.2.2 ((stepsO x y by_ far (nst by_ far) p.1).map vecP)) (fun p _ => nst by_ far - p.1) (0, none, 0, 0) ?_ rfl ⟨by simp, SlH.nil⟩ ?_
  · have : 0 - far = -far + by_ * ((0 : Nat) : Int) := by simp
    rw [this]
  rintro ⟨i, a, n, z⟩ H' kk ⟨hi, hS⟩ hkk
  simp only at hi hS hkk ⊢
  have hlt := nst_lt hb hf i
  simp only [f22_l4, g22_l4, inI_c, inSl_c, nilK_c, nilX_c]
  refine bdec (fun h => ?_) (fun h => ?_)
  · have hlt1 : i < nst by_ far := hlt.1 h
    have bdy : -far ≤ -far + by_ * (i : Int) := by
      have : 0 ≤ by_ * (i : Int) := Int.mul_nonneg (by omega) (by omega)
      omega
    simp only [f22_6, g22_6, inI_c, inSl_c, nilK_c, nilX_c]
    rw [w64 (x := 0 - far) (by omega) (by omega)]
    have edy : IntKind.wrap .i64 (-far + by_ * (i : Int) + by_) = -far + by_ * ((i + 1 : Nat) : Int) := by
      rw [w64 (by omega) (by omega)]
      have : ((i + 1 : Nat) : Int) = (i : Int) + 1 := rfl
      rw [this, Int.mul_add]; omega
    generalize hdy : -far + by_ * (i : Int) = dy at *
    refine lp (σ := Nat × Option Addr × Nat × Nat) (fun p => [.int .i64 by_, .int .i64 far, .slice p.2.1 p.2.2.1 p.2.2.2, .int .i64 x, .int .i64 y, .int .i64 dy, .int .i64 (-far + by_ * (p.1 : Int))]) (fun _ => [])
      (fun p H' => p.1 ≤ nst by_ far ∧ SlH H H' 34 1 p.2.1 p.2.2.1 p.2.2.2 ((stepsO x y by_ far (nst by_ far) i ++ stepsI x y by_ far dy p.1).map vecP)) (fun p _ => nst by_ far - p.1) (0, a, n, z) ?_ rfl ⟨by simp, by simpa [stepsI, seqs] using hS⟩ ?_
    · have : 0 - far = -far + by_ * ((0 : Nat) : Int) := by simp
      rw [this]
    rintro ⟨j, a, n, z⟩ H' kj ⟨hj, hS⟩ hkj
    simp only at hj hS hkj ⊢
    have hltj := nst_lt hb hf j
    simp only [f22_l7, g22_l7, inI_c, inSl_c, nilK_c, nilX_c]
    refine bdec (fun h' => ?_) (fun h' => ?_)
    · have hlt2 : j < nst by_ far := hltj.1 h'
      have bdx : -far ≤ -far + by_ * (j : Int) := by
        have : 0 ≤ by_ * (j : Int) := Int.mul_nonneg (by omega) (by omega)
        omega
      have edx : IntKind.wrap .i64 (-far + by_ * (j : Int) + by_) = -far + by_ * ((j + 1 : Nat) : Int) := by
        rw [w64 (by omega) (by omega)]
        have : ((j + 1 : Nat) : Int) = (j : Int) + 1 := rfl
        rw [this, Int.mul_add]; omega
      have es := stepsI_succ x y by_ far dy j
      generalize hdx : -far + by_ * (j : Int) = dx at *
      have h8 : ∀ a n z H'', SlH H H'' 34 1 a n z ((stepsO x y by_ far (nst by_ far) i ++ stepsI x y by_ far dy (j + 1)).map vecP) →
          f22_8 Q (upK (upK kb0 4 kk) 7 kj) [.int .i64 by_, .int .i64 far, .slice a n z, .int .i64 x, .int .i64 y, .int .i64 dy, .int .i64 dx] [] H'' := by
        intro a n z H'' hS''
        simp only [f22_8, g22_8, inI_c, inSl_c, nilK_c, nilX_c]
        rw [edx, upK_same]
        exact hkj (j + 1, a, n, z) H'' ⟨hlt2, hS''⟩ (by simp; omega)
      simp only [f22_9, g22_9, inI_c, inSl_c, nilK_c, nilX_c]
      rw [w64 (x := x + dx) (by omega) (by omega), w64 (x := y + dy) (by omega) (by omega)]
      refine s14 ?_
      simp only [asC_c]
      refine s23 (by omega) (by omega) ?_
      simp only [asB_c]
      refine bcase (fun hr => ?_) (fun hr => ?_)
      · intro b hb0
        have hlen : n ≤ 10000 := by
          rcases hS.at' with ⟨-, -, h, -⟩ | ⟨b1, -, h2, -⟩
          · omega
          · have l1 := stepsI_len x y by_ far dy j
            have l2 := stepsO_len x y by_ far (nst by_ far) i
            have l3 : i * nst by_ far ≤ 65 * 65 := Nat.mul_le_mul (by omega) hN
            simp only [List.length_map, List.length_append] at h2
            omega
        have hp : (H'.put b (.cells [.complex .f64 (fb (x + dx)) (fb (y + dy))] 34 true)).get b = some (.cells [.complex .f64 (fb (x + dx)) (fb (y + dy))] 34 true) := by simp
        show srcW (H'.put b (.cells [.complex .f64 (fb (x + dx)) (fb (y + dy))] 34 true)) (some ⟨b, 0, none⟩) 1 1 _
        simp only [srcW, rdH_s hp, gd_simp]
        refine ⟨by simp [nj], (hS.put hb0 _).app (by simp) (by decide) (by omega) fun a' n' z' H'' hS'' _ => h8 _ _ _ _ ?_⟩
        rw [es, if_pos hr]
        simpa [vecP, vec] using hS''
      · refine h8 _ _ _ _ ?_
        rw [es, hr]
        simpa using hS
    · have hjN : j = nst by_ far := by omega
      subst hjN
      simp only [f22_5, g22_5, inI_c, inSl_c, nilK_c, nilX_c]
      rw [edy, upK_ne (by decide), upK_same]
      refine hkk (i + 1, a, n, z) H' ⟨by simp; omega, ?_⟩ (by simp; omega)
      simp only [stepsO, hdy]
      exact hS
  · have hiN : i = nst by_ far := by omega
    subst hiN
    simp only [f22_12, g22_12, inSl_c, nilK_c, nilX_c]
    exact hQ _ _ _ _ hS

end Go.Am
