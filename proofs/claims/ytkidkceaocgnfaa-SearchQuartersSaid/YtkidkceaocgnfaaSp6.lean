/- A part of the proof: Sp6. -/
import Derived.Test.YtkidkceaocgnfaaSp5
/- Sp6: how far a block is from another. -/
set_option linter.all false
namespace Go.Am
open Go.Proofs
def dsum (S T : Nat → Int) : Nat → Int
  | 0 => 0
  | i + 1 => dsum S T i + max (S i - T i) (T i - S i)
theorem dsum_rng {S T : Nat → Int} (hS : ∀ i, 0 ≤ S i ∧ S i ≤ 255) (hT : ∀ i, 0 ≤ T i ∧ T i ≤ 255) : ∀ i, 0 ≤ dsum S T i ∧ dsum S T i ≤ 255 * i
  | 0 => by simp [dsum]
  | i + 1 => by
    have := dsum_rng hS hT i
    have h1 := hS i
    have h2 := hT i
    simp only [dsum]
    omega
theorem betw_rng {W Hh : Int} {xs : List Int} (hr : ∀ x y, 0 ≤ smp W Hh xs x y ∧ smp W Hh xs x y ≤ 255) (x y : Int) (d : Bool) : 0 ≤ betw W Hh xs x y d ∧ betw W Hh xs x y d ≤ 255 := by
  have h1 := hr (x / 2) (y / 2)
  have h2 := hr (x / 2 + 1) (y / 2)
  have h3 := hr (x / 2) (y / 2 + 1)
  have h4 := hr (x / 2 + 1) (y / 2 + 1)
  unfold betw
  cases d <;> simp only [Bool.false_eq_true, if_false, if_true] <;> split <;> split <;> omega

theorem n21_l7 {S T : Nat → Int} {H : AHeap} {Q : Value → AHeap → Prop} {kb : KB} {F8 F11 : PT}
    (h8 : ∀ (kb : KB) (i : Nat), i < 64 → kb 7 [.int .i64 (dsum S T (i + 1)), .agg ⟨blk S 64⟩, .int .i64 (i + 1 : Nat)] [blk T 64] H → F8 kb [.int .i64 (dsum S T i), .agg ⟨blk S 64⟩, .int .i64 (i : Nat)] [blk T 64] H)
    (h11 : ∀ kb : KB, F11 kb [.int .i64 (dsum S T 64)] [] H) : lpW (g21_l7 Q F8 F11) kb 7 [.int .i64 0, .agg ⟨blk S 64⟩, .int .i64 0] [blk T 64] H := by
  refine lp (σ := Nat) (fun i => [.int .i64 (dsum S T i), .agg ⟨blk S 64⟩, .int .i64 (i : Nat)]) (fun i => [blk T 64]) (fun i H' => H' = H ∧ i ≤ 64) (fun i _ => 64 - i) 0 rfl rfl ⟨rfl, by omega⟩ ?_
  rintro i H' k ⟨rfl, hi⟩ hk
  simp only [g21_l7, inI_c, inA_c, blk_len, true_and, nilK_c, inX_c, nilX_c, Bool.cond_decide]
  split
  · refine h8 _ i (by omega) ?_
    rw [upK_same]
    exact hk (i + 1) H' ⟨rfl, by omega⟩ (by omega)
  · have : i = 64 := by omega
    subst this
    exact h11 _

theorem n21_8 {S T : Nat → Int} {H : AHeap} {Q : Value → AHeap → Prop} {kb : KB} {F10 : PT} {i : Nat} (hi : i < 64) (hS : ∀ i, 0 ≤ S i ∧ S i ≤ 255) (hT : ∀ i, 0 ≤ T i ∧ T i ≤ 255)
    (h : F10 kb [.int .i64 (dsum S T (i + 1)), .agg ⟨blk S 64⟩, .int .i64 (i : Nat)] [blk T 64] H) : g21_8 Q F10 kb [.int .i64 (dsum S T i), .agg ⟨blk S 64⟩, .int .i64 (i : Nat)] [blk T 64] H := by
  have hs := hS i
  have ht := hT i
  have hd := dsum_rng hS hT i
  have e3 : (i : Int).toNat * 1 = i := by simp
  have hb : (0 ≤ (i : Int) ∧ (i : Int) < (64 : Nat)) := ⟨by omega, by omega⟩
  simp only [g21_8, inI_c, inA_c, blk_len, true_and, nilK_c, inX_c, nilX_c, aidx_c, hb, e3, Nat.zero_add, rI_s (blk_get S hi), rI_s (blk_get T hi), mxI_c, and_self]
  rw [w64 (x := S i - T i) (by omega) (by omega), w64 (x := T i - S i) (by omega) (by omega), w64 (by omega) (by omega)]
  exact h
theorem n21_10 {S : Nat → Int} {t : List Value} {d : Int} {H : AHeap} {Q : Value → AHeap → Prop} {kb : KB} {i : Nat} (hi : i < 64) (h : kb 7 [.int .i64 d, .agg ⟨blk S 64⟩, .int .i64 (i + 1 : Nat)] [t] H) : g21_10 Q kb [.int .i64 d, .agg ⟨blk S 64⟩, .int .i64 (i : Nat)] [t] H := by
  simp only [g21_10, inI_c, inA_c, blk_len, true_and, nilK_c, inX_c, nilX_c]
  rw [w64 (by omega) (by omega)]
  exact h
theorem n21_11 {d : Int} {H : AHeap} {Q : Value → AHeap → Prop} {kb : KB} (h : Q (.int .i64 d) H) : g21_11 Q kb [.int .i64 d] [] H := by
  simp only [g21_11, inI_c, nilK_c, nilX_c]
  exact h
theorem l21 {S T : Nat → Int} {H : AHeap} {Q : Value → AHeap → Prop} {kb : KB} (hS : ∀ i, 0 ≤ S i ∧ S i ≤ 255) (hT : ∀ i, 0 ≤ T i ∧ T i ≤ 255) (hQ : Q (.int .i64 (dsum S T 64)) H) : lpW (f21_l7 Q) kb 7 [.int .i64 0, .agg ⟨blk S 64⟩, .int .i64 0] [blk T 64] H :=
  n21_l7 (F8 := f21_8 Q) (F11 := f21_11 Q) (fun kb i hi h => n21_8 (F10 := f21_10 Q) hi hS hT (n21_10 hi h)) (fun kb => n21_11 hQ)
end Go.Am
