/- A part of the proof: Sp4. -/
import Derived.Test.YtkidkceaocgnfaaSp3
/- Sp4: vectors of whole numbers. -/
set_option linter.all false
namespace Go.Am
open Go.Proofs
def fb (n : Int) : Nat := FloatKind.f64.nearest n
def irng (k : Nat) : List Int := (List.range (2 * k + 1)).map fun (i : Nat) => (i : Int) - (k : Int)
theorem mem_irng {k : Nat} {n : Int} (h : -(k : Int) ≤ n ∧ n ≤ k) : n ∈ irng k := List.mem_map.2 ⟨(n + k).toNat, List.mem_range.2 (by omega), by omega⟩
def fok (n : Int) : Bool := fEq .f64 (fb n) (fb n) && (!fGt .f64 (fb n) 4634204016564240384 && (!fLt .f64 (fb n) 13857576053419016192 && (match (FloatKind.f64.decode (fb n)).toInt .zero with | some m => m == n | none => false)))
theorem fb_all : (irng 64).all fok = true := by kernel_rfl
theorem fb_ok {n : Int} (h : -64 ≤ n ∧ n ≤ 64) : fEq .f64 (fb n) (fb n) = true ∧ fGt .f64 (fb n) 4634204016564240384 = false ∧ fLt .f64 (fb n) 13857576053419016192 = false ∧ (FloatKind.f64.decode (fb n)).toInt .zero = some n := by
  have h1 := List.all_eq_true.1 fb_all n (mem_irng h)
  simp only [fok, Bool.and_eq_true, Bool.not_eq_true'] at h1
  refine ⟨h1.1, h1.2.1, h1.2.2.1, ?_⟩
  have h2 := h1.2.2.2
  split at h2
  · rename_i m hm
    rw [hm]; simp at h2; rw [h2]
  · cases h2

theorem n26 {n : Int} {H : AHeap} {Q : Value → AHeap → Prop} {F7 : PT} (h : -64 ≤ n ∧ n ≤ 64) (h7 : F7 kb0 [.float .f64 (fb n)] [] H) : g26 Q F7 [.float .f64 (fb n)] H := by
  obtain ⟨h1, h2, h3, _⟩ := fb_ok h
  simp only [g26, inF_c, nilK_c, h1, h2, h3, Bool.not_true, cond_false]
  exact h7
theorem s26 {n : Int} {H : AHeap} {Q : Value → AHeap → Prop} (h : -64 ≤ n ∧ n ≤ 64) (hQ : Q (.int .i64 n) H) : call Try.prog 26 [.float .f64 (fb n)] H Q := by
  refine c26 (n26 (F7 := f26_7 Q) h ?_)
  show g26_7 Q kb0 _ _ H
  simp only [g26_7, inF_c, nilK_c, nilX_c, f2i, (fb_ok h).2.2.2]
  refine ⟨⟨?_, ?_⟩, hQ⟩
  · show (-9223372036854775808 : Int) ≤ n
    omega
  · show n ≤ (9223372036854775807 : Int)
    omega
theorem s12 {x y : Int} {H : AHeap} {Q : Value → AHeap → Prop} (hx : -64 ≤ x ∧ x ≤ 64) (hy : -64 ≤ y ∧ y ≤ 64) (hQ : Q (.tuple ⟨[.int .i64 x, .int .i64 y]⟩) H) : call Try.prog 12 [.complex .f64 (fb x) (fb y)] H Q := by
  refine c12 ?_
  simp only [f12, g12, inC_c, nilK_c]
  refine s26 hx ?_
  simp only [asI_c]
  refine s26 hy ?_
  simp only [asI_c]
  exact hQ
theorem s14 {x y : Int} {H : AHeap} {Q : Value → AHeap → Prop} (hQ : Q (.complex .f64 (fb x) (fb y)) H) : call Try.prog 14 [.int .i64 x, .int .i64 y] H Q := by
  refine c14 ?_
  simp only [f14, g14, inI_c, nilK_c]
  exact hQ
def right1 (x : Int) : Bool := decide (-31 ≤ x ∧ x ≤ 31)
def right (x y : Int) : Bool := right1 x && right1 y
theorem s23 {x y : Int} {H : AHeap} {Q : Value → AHeap → Prop} (hx : -64 ≤ x ∧ x ≤ 64) (hy : -64 ≤ y ∧ y ≤ 64) (hQ : Q (.bool (right x y)) H) : call Try.prog 23 [.complex .f64 (fb x) (fb y)] H Q := by
  have e1 : decide (max x (IntKind.wrap .i64 (0 - x)) ≤ 31) = right1 x := by
    rw [w64 (by omega) (by omega)]; unfold right1; congr 1; apply propext; omega
  have e2 : decide (max y (IntKind.wrap .i64 (0 - y)) ≤ 31) = right1 y := by
    rw [w64 (by omega) (by omega)]; unfold right1; congr 1; apply propext; omega
  refine c23 ?_
  simp only [f23, g23, inC_c, nilK_c]
  refine s12 hx hy ?_
  simp only [tupK_c, inI_c, nilK_c]
  refine s14 ?_
  simp only [asC_c, (fb_ok hx).1, (fb_ok hy).1, Bool.and_true, cond_true, mxI_c, e1, e2]
  unfold right at hQ
  cases h : right1 x with
  | true => rw [h] at hQ; exact hQ
  | false => rw [h] at hQ; exact hQ
end Go.Am
