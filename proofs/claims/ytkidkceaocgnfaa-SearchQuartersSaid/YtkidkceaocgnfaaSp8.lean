/- A part of the proof: Sp8. -/
import Derived.Test.YtkidkceaocgnfaaSp7
/- Sp8: four vectors; the colours' one. -/
set_option linter.all false
set_option maxRecDepth 100000
namespace Go.Am
open Go.Proofs
theorem bdec {c : Prop} [Decidable c] {A B : Prop} (h1 : c → A) (h2 : ¬ c → B) : bif (decide c) then A else B := by
  by_cases h : c <;> simp only [h, decide_true, decide_false, cond_true, cond_false] <;> first | exact h1 h | exact h2 h
theorem bbeq {a b : Int} {A B : Prop} (h1 : a = b → A) (h2 : a ≠ b → B) : bif (a == b) then A else B := by
  by_cases h : a = b
  · subst h; simp only [beq_self_eq_true, cond_true]; exact h1 rfl
  · have : (a == b) = false := by simp [h]
    rw [this]; exact h2 h
theorem bcase {b : Bool} {A B : Prop} (h1 : b = true → A) (h2 : b = false → B) : bif b then A else B := by
  cases b
  · exact h2 rfl
  · exact h1 rfl
def vec (x y : Int) : Value := .complex .f64 (fb x) (fb y)
def vs4 (X Y : Nat → Int) : List Value := [vec (X 0) (Y 0), vec (X 1) (Y 1), vec (X 2) (Y 2), vec (X 3) (Y 3)]
theorem vs4_len (X Y : Nat → Int) : (vs4 X Y).length = 4 := rfl
theorem vs4_get (X Y : Nat → Int) {i : Nat} (h : i < 4) : (vs4 X Y)[i]? = some (.complex .f64 (fb (X i)) (fb (Y i))) := by
  have : i = 0 ∨ i = 1 ∨ i = 2 ∨ i = 3 := by omega
  rcases this with rfl | rfl | rfl | rfl <;> rfl
def upd (X : Nat → Int) (k : Nat) (x : Int) : Nat → Int := fun i => if i = k then x else X i
theorem vs4_set (X Y : Nat → Int) {k : Nat} (h : k < 4) (x y : Int) : (vs4 X Y).set k (vec x y) = vs4 (upd X k x) (upd Y k y) := by
  have : k = 0 ∨ k = 1 ∨ k = 2 ∨ k = 3 := by omega
  rcases this with rfl | rfl | rfl | rfl <;> rfl
def psum (X : Nat → Int) : Nat → Int
  | 0 => 0
  | i + 1 => psum X i + X i
def B64 (X : Nat → Int) : Prop := ∀ k, k < 4 → -64 ≤ X k ∧ X k ≤ 64
theorem psum_rng {X : Nat → Int} (h : B64 X) : ∀ i, i ≤ 4 → -64 * i ≤ psum X i ∧ psum X i ≤ 64 * i
  | 0, _ => by simp [psum]
  | i + 1, hi => by
    have := psum_rng h i (by omega)
    have := h i (by omega)
    simp only [psum]; omega
theorem c1n (i : Nat) : IntKind.wrap .i64 ((i : Int) + 1) = ((i + 1 : Nat) : Int) ∨ 4611686018427387904 < i := by
  by_cases h : i ≤ 4611686018427387904
  · left; rw [w64 (by omega) (by omega)]; rfl
  · right; omega
theorem wn {i : Nat} (h : i ≤ 4611686018427387904) : IntKind.wrap .i64 ((i : Int) + 1) = ((i + 1 : Nat) : Int) := by
  rw [w64 (by omega) (by omega)]; rfl

theorem s49 {X Y : Nat → Int} {H : AHeap} {Q : Value → AHeap → Prop} (hX : B64 X) (hY : B64 Y) (hQ : Q (.tuple ⟨[.int .i64 (psum X 4), .int .i64 (psum Y 4)]⟩) H) : call Try.prog 49 [.agg ⟨vs4 X Y⟩] H Q := by
  refine c49 ?_
  simp only [f49, g49, inA_c, nilK_c, gd_simp, vs4_len, true_and, rA_all (vs4_len X Y)]
  refine lp (σ := Nat) (fun i => [.int .i64 (psum X i), .int .i64 (psum Y i), .agg ⟨vs4 X Y⟩, .int .i64 (i : Nat)]) (fun i => []) (fun i H' => H' = H ∧ i ≤ 4) (fun i _ => 4 - i) 0 rfl rfl ⟨rfl, by omega⟩ ?_
  rintro i H' k ⟨rfl, hi⟩ hk
  simp only [f49_l2, g49_l2, inI_c, inA_c, vs4_len, true_and, nilK_c, nilX_c]
  refine bdec (fun h => ?_) (fun h => ?_)
  · have e3 : (i : Int).toNat * 1 = i := by simp
    have a1 := hX i (by omega)
    have a2 := hY i (by omega)
    have a3 := psum_rng hX i hi
    have a4 := psum_rng hY i hi
    simp only [f49_3, g49_3, inI_c, inA_c, vs4_len, true_and, nilK_c, nilX_c, aidx_c, e3, rC_s (vs4_get X Y (show i < 4 by omega))]
    refine ⟨by omega, s12 a1 a2 ?_⟩
    simp only [tupK_c, inI_c, nilK_c, f49_6, g49_6, inA_c, vs4_len, true_and, nilX_c]
    rw [w64 (x := psum X i + X i) (by omega) (by omega), w64 (x := psum Y i + Y i) (by omega) (by omega), wn (by omega), upK_same]
    exact hk (i + 1) H' ⟨rfl, by omega⟩ (by omega)
  · have : i = 4 := by omega
    subst this
    simp only [f49_7, g49_7, inI_c, nilK_c, nilX_c]
    exact hQ

def eighth (n : Int) : Int := if n < 0 then -((4 - n) / 8) else (n + 4) / 8
theorem s50 {n : Int} {H : AHeap} {Q : Value → AHeap → Prop} (h : -10000 ≤ n ∧ n ≤ 10000) (hQ : Q (.int .i64 (eighth n)) H) : call Try.prog 50 [.int .i64 n] H Q := by
  refine c50 ?_
  simp only [f50, g50, inI_c, nilK_c]
  unfold eighth at hQ
  refine bdec (fun hn => ?_) (fun hn => ?_)
  · rw [if_pos hn] at hQ
    rw [w64 (x := 4 - n) (by omega) (by omega), tdivp _ _ (by decide), if_pos (by omega), w64 (x := (4 - n) / 8) (by omega) (by omega), w64 (by omega) (by omega)]
    have : 0 - (4 - n) / 8 = -((4 - n) / 8) := by omega
    rw [this]; exact hQ
  · rw [if_neg hn] at hQ
    simp only [f50_3, g50_3, inI_c, nilK_c, nilX_c]
    rw [w64 (x := n + 4) (by omega) (by omega), tdivp _ _ (by decide), if_pos (by omega), w64 (by omega) (by omega)]
    exact hQ
def colX (X : Nat → Int) : Int := eighth (psum X 4)
theorem eighth_rng {n : Int} (h : -256 ≤ n ∧ n ≤ 256) : -32 ≤ eighth n ∧ eighth n ≤ 32 := by
  unfold eighth; split <;> omega
theorem colX_rng {X : Nat → Int} (h : B64 X) : -64 ≤ colX X ∧ colX X ≤ 64 := by
  have h1 := psum_rng h 4 (by omega)
  have := eighth_rng (n := psum X 4) (by omega)
  unfold colX; omega
theorem s45 {X Y : Nat → Int} {H : AHeap} {Q : Value → AHeap → Prop} (hX : B64 X) (hY : B64 Y) (hQ : Q (.complex .f64 (fb (colX X)) (fb (colX Y))) H) : call Try.prog 45 [.agg ⟨vs4 X Y⟩] H Q := by
  have h1 := psum_rng hX 4 (by omega)
  have h2 := psum_rng hY 4 (by omega)
  refine c45 ?_
  simp only [f45, g45, inA_c, nilK_c, gd_simp, vs4_len, true_and, rA_all (vs4_len X Y)]
  refine s49 hX hY ?_
  simp only [tupK_c, inI_c, nilK_c]
  refine s50 (by omega) ?_
  simp only [asI_c]
  refine s50 (by omega) ?_
  simp only [asI_c]
  refine s14 ?_
  simp only [asC_c]
  exact hQ

theorem s52 {n : Int} {H : AHeap} {Q : Value → AHeap → Prop} (h : -256 ≤ n ∧ n ≤ 256) (hQ : Q (.int .i64 (eighth n)) H) : call Try.prog 52 [.int .i64 n] H Q := by
  have he := eighth_rng h
  have hd : (0 ≤ n ∧ 8 * eighth n ≤ n + 4 ∧ n + 4 ≤ 8 * eighth n + 7) ∨ (n < 0 ∧ 8 * eighth n ≤ n + 3 ∧ n + 3 ≤ 8 * eighth n + 7) := by
    unfold eighth; split
    · right; omega
    · left; omega
  generalize eighth n = e at *
  refine c52 ?_
  simp only [f52, g52, inI_c, nilK_c]
  refine lp (σ := Int) (fun k => [.int .i64 n, .int .i64 k]) (fun i => []) (fun k H' => H' = H ∧ -64 ≤ k ∧ k ≤ e) (fun k _ => (100 - k).toNat) (-64) rfl rfl ⟨rfl, by omega⟩ ?_
  rintro k H' kk ⟨rfl, hi⟩ hk
  simp only [f52_l2, g52_l2, inI_c, nilK_c, nilX_c]
  refine bdec (fun h => ?_) (fun h => by omega)
  simp only [f52_4, g52_4, inI_c, nilK_c, nilX_c]
  rw [w64 (x := 8 * k) (by omega) (by omega), w64 (x := n - 8 * k) (by omega) (by omega)]
  have h3 : k ≠ e → f52_3 Q (upK kb0 2 kk) [.int .i64 n, .int .i64 k] [] H' := by
    intro hne
    simp only [f52_3, g52_3, inI_c, nilK_c, nilX_c]
    rw [w64 (by omega) (by omega), upK_same]
    exact hk (k + 1) H' ⟨rfl, by omega⟩ (by omega)
  repeat' (first | refine bdec (fun h => ?_) (fun h => ?_) | refine bbeq (fun h => ?_) (fun h => ?_))
  all_goals first
    | (have hke : k = e := by omega
       rw [hke]; exact hQ)
    | exact h3 (by omega)

/-- the document's macroblock of vectors -/
def mac (X Y : Nat → Int) : List Value := [.bool false, .bool false, .int .i64 0, .int .i64 (X 0), .int .i64 (X 1), .int .i64 (X 2), .int .i64 (X 3), .int .i64 (Y 0), .int .i64 (Y 1), .int .i64 (Y 2), .int .i64 (Y 3)] ++ List.replicate 384 (.int .i64 0)
theorem mac_len (X Y : Nat → Int) : (mac X Y).length = 395 := by simp [mac]
theorem mac_x (X Y : Nat → Int) {k : Nat} (h : k < 4) : (mac X Y)[3 + k]? = some (.int .i64 (X k)) := by
  have : k = 0 ∨ k = 1 ∨ k = 2 ∨ k = 3 := by omega
  rcases this with rfl | rfl | rfl | rfl <;> rfl
theorem mac_y (X Y : Nat → Int) {k : Nat} (h : k < 4) : (mac X Y)[7 + k]? = some (.int .i64 (Y k)) := by
  have : k = 0 ∨ k = 1 ∨ k = 2 ∨ k = 3 := by omega
  rcases this with rfl | rfl | rfl | rfl <;> rfl
theorem mac_set (X Y : Nat → Int) {k : Nat} (h : k < 4) (x y : Int) : ((mac X Y).set (3 + k) (.int .i64 x)).set (7 + k) (.int .i64 y) = mac (upd X k x) (upd Y k y) := by
  have : k = 0 ∨ k = 1 ∨ k = 2 ∨ k = 3 := by omega
  rcases this with rfl | rfl | rfl | rfl <;> rfl
def pre (X : Nat → Int) (i : Nat) : Nat → Int := fun j => if j < i then X j else 0
theorem mac_congr {X Y X' Y' : Nat → Int} (h : ∀ k, k < 4 → X k = X' k ∧ Y k = Y' k) : mac X Y = mac X' Y' := by
  unfold mac
  rw [(h 0 (by omega)).1, (h 1 (by omega)).1, (h 2 (by omega)).1, (h 3 (by omega)).1, (h 0 (by omega)).2, (h 1 (by omega)).2, (h 2 (by omega)).2, (h 3 (by omega)).2]
theorem upd_pre (X : Nat → Int) (i : Nat) : upd (pre X i) i (X i) = pre X (i + 1) := by
  funext j
  unfold upd pre
  by_cases h1 : j = i
  · subst h1; simp
  · have : (j < i) ↔ (j < i + 1) := by omega
    simp [h1, this]
theorem s25 {X Y : Nat → Int} {H : AHeap} {Q : Value → AHeap → Prop} (hX : B64 X) (hY : B64 Y) (hQ : Q (.agg ⟨mac X Y⟩) H) : call Try.prog 25 [.agg ⟨vs4 X Y⟩] H Q := by
  refine c25 ?_
  have e0 : ∀ l : List Value, l = mac (pre X 0) (pre Y 0) → lpW (f25_l3 Q) kb0 3 [.agg ⟨vs4 X Y⟩, .int .i64 0] [l, l] H := by
    rintro l rfl
    refine lp (σ := Nat) (fun i => [.agg ⟨vs4 X Y⟩, .int .i64 (i : Nat)]) (fun i => [mac (pre X 0) (pre Y 0), mac (pre X i) (pre Y i)]) (fun i H' => H' = H ∧ i ≤ 4) (fun i _ => 4 - i) 0 rfl rfl ⟨rfl, by omega⟩ ?_
    rintro i H' k ⟨rfl, hi⟩ hk
    simp only [f25_l3, g25_l3, inI_c, inA_c, vs4_len, true_and, nilK_c, inX_c, nilX_c]
    refine bdec (fun h => ?_) (fun h => ?_)
    · have e3 : (i : Int).toNat * 1 = i := by simp
      have a1 := hX i (by omega)
      have a2 := hY i (by omega)
      simp only [f25_4, g25_4, inI_c, inA_c, vs4_len, true_and, nilK_c, inX_c, nilX_c, aidx_c, e3, rC_s (vs4_get X Y (show i < 4 by omega))]
      refine ⟨by omega, s12 a1 a2 ?_⟩
      simp only [tupK_c, inI_c, nilK_c, aidx_c, gd_simp, e3, List.length_set, mac_len]
      refine ⟨by omega, by omega, by omega, by omega, ?_⟩
      rw [mac_set _ _ (by omega), upd_pre, upd_pre]
      simp only [f25_6, g25_6, inI_c, inA_c, vs4_len, true_and, nilK_c, inX_c, nilX_c]
      rw [wn (by omega), upK_same]
      exact hk (i + 1) H' ⟨rfl, by omega⟩ (by omega)
    · have : i = 4 := by omega
      subst this
      simp only [f25_7, g25_7, nilK_c, inX_c, nilX_c, rA_all (mac_len _ _), gd_simp, mac_len]
      refine ⟨by decide, ?_⟩
      rw [stC_all (by simp [mac_len]), rA_all (mac_len _ _), mac_congr (X' := X) (Y' := Y) (fun k hk => by simp [pre, hk])]
      exact hQ
  simp only [f25, g25, inA_c, nilK_c, gd_simp, vs4_len, true_and, rA_all (vs4_len X Y)]
  exact e0 _ rfl
end Go.Am
