/- A part of the proof: Sp5. -/
import Derived.Test.YtkidkceaocgnfaaSp4
/- Sp5: a macroblock's blocks. -/
set_option linter.all false
namespace Go.Am
open Go.Proofs
theorem s27 {f : List Value} {C mb k : Int} {H : AHeap} {Q : Value → AHeap → Prop} (hl : f.length = 11) (h0 : f[0]? = some (.int .i64 C)) (hC : 1 ≤ C ∧ C ≤ 100) (hm : 0 ≤ mb ∧ mb ≤ 10000) (hk : 0 ≤ k ∧ k < 4)
    (hQ : Q (.tuple ⟨[.agg ⟨(f.drop 2).take 3⟩, .int .i64 (16 * (mb % C) + 8 * (k % 2)), .int .i64 (16 * (mb / C) + 8 * (k / 2))]⟩) H) : call Try.prog 27 [.agg ⟨f⟩, .int .i64 mb, .int .i64 k] H Q := by
  have e0 : mxI C 1 = C := by simp; omega
  have e1 : mb.tmod C = mb % C := Int.tmod_eq_emod_of_nonneg (by omega)
  have e2 : mb.tdiv C = mb / C := Int.tdiv_eq_ediv_of_nonneg (by omega)
  have e3 : k.tmod 2 = k % 2 := Int.tmod_eq_emod_of_nonneg (by omega)
  have e4 : k.tdiv 2 = k / 2 := Int.tdiv_eq_ediv_of_nonneg (by omega)
  have b1 : 0 ≤ mb % C ∧ mb % C < C := ⟨Int.emod_nonneg _ (by omega), Int.emod_lt_of_pos _ (by omega)⟩
  have b2 : 0 ≤ mb / C ∧ mb / C ≤ mb := ⟨Int.ediv_nonneg (by omega) (by omega), Int.ediv_le_self _ (by omega)⟩
  have hC0 : C ≠ 0 := by omega
  have ht : ((f.drop 2).take 3).length = 3 := by simp; omega
  refine c27 ?_
  unfold f27
  generalize f27_7 Q = F7
  simp only [g27, inA_c, inI_c, nilK_c, gd_simp, hl, true_and, rI_s h0, e0, nz, e1, e2, e3, e4, Bool.cond_decide, if_pos hk.2, rA, ht]
  refine ⟨hC0, hC0, by omega, by decide, ?_⟩
  rw [stC_all (by rw [ht]; rfl)]
  simp only [ht, List.drop_zero]
  refine ⟨by omega, ?_⟩
  rw [w64 (x := 16 * (mb % C)) (by omega) (by omega), w64 (x := 8 * (k % 2)) (by omega) (by omega), w64 (x := mb / C) (by omega) (by omega), w64 (x := k / 2) (by omega) (by omega), w64 (x := 8 * (k / 2)) (by omega) (by omega), w64 (x := 16 * (mb / C)) (by omega) (by omega), w64 (x := 16 * (mb % C) + 8 * (k % 2)) (by omega) (by omega), w64 (x := 16 * (mb / C) + 8 * (k / 2)) (by omega) (by omega)]
  rw [List.take_of_length_le (Nat.le_of_eq ht)]
  exact hQ

theorem s27c {f : List Value} {C mb : Int} {H : AHeap} {Q : Value → AHeap → Prop} (hl : f.length = 11) (h0 : f[0]? = some (.int .i64 C)) (hC : 1 ≤ C ∧ C ≤ 100) (hm : 0 ≤ mb ∧ mb ≤ 10000)
    (hQ : Q (.tuple ⟨[.agg ⟨(f.drop 5).take 3⟩, .int .i64 (8 * (mb % C)), .int .i64 (8 * (mb / C))]⟩) H) : call Try.prog 27 [.agg ⟨f⟩, .int .i64 mb, .int .i64 4] H Q := by
  have e0 : mxI C 1 = C := by simp; omega
  have e1 : mb.tmod C = mb % C := Int.tmod_eq_emod_of_nonneg (by omega)
  have e2 : mb.tdiv C = mb / C := Int.tdiv_eq_ediv_of_nonneg (by omega)
  have b1 : 0 ≤ mb % C ∧ mb % C < C := ⟨Int.emod_nonneg _ (by omega), Int.emod_lt_of_pos _ (by omega)⟩
  have b2 : 0 ≤ mb / C ∧ mb / C ≤ mb := ⟨Int.ediv_nonneg (by omega) (by omega), Int.ediv_le_self _ (by omega)⟩
  have hC0 : C ≠ 0 := by omega
  have ht : ((f.drop 5).take 3).length = 3 := by simp; omega
  have h4 : ¬ ((4 : Int) < 4) := by decide
  refine c27 ?_
  unfold f27
  generalize f27_7 Q = F7
  simp only [g27, inA_c, inI_c, nilK_c, gd_simp, hl, true_and, rI_s h0, e0, nz, e1, e2, Bool.cond_decide, if_neg h4, rA, ht, beq_self_eq_true, cond_true]
  refine ⟨hC0, hC0, by omega, by decide, ?_⟩
  rw [stC_all (by rw [ht]; rfl)]
  simp only [ht, List.drop_zero]
  refine ⟨by omega, ?_⟩
  rw [w64 (x := 8 * (mb % C)) (by omega) (by omega), w64 (x := mb / C) (by omega) (by omega), w64 (x := 8 * (mb / C)) (by omega) (by omega)]
  rw [List.take_of_length_le (Nat.le_of_eq ht)]
  exact hQ
end Go.Am
