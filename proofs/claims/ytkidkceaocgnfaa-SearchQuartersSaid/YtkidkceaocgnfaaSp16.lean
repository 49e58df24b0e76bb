/- A part of the proof: Sp16. -/
import Derived.Test.YtkidkceaocgnfaaSp15
/- Sp16: '==' of four vectors. -/
set_option linter.all false
set_option maxRecDepth 100000
namespace Go.Am
open Go.Proofs
theorem pureR_bind {α β : Type} {P : Program} {s : Sem α} {f : α → Sem β} : pureR P (s >>= f) = (pureR P s).bind fun a => pureR P (f a) := by
  show pureR P (Sem.bind s f) = _
  induction s with
  | pure a => rfl
  | program k ih => exact ih P
  | _ => rfl
theorem pureR_pure {α : Type} {P : Program} {a : α} : pureR P (pure a : Sem α) = some a := rfl
theorem eq34 {a b a' b' : Nat} : pureR Try.prog (Op.equalIn 9999 34 (.complex .f64 a b) (.complex .f64 a' b')) = some (fEq .f64 a a' && fEq .f64 b b') := by kernel_rfl
theorem p34 {cs : List Value} {i : Nat} {v : Value} (h : cs[i]? = some v) : pureR Try.prog (part 34 ⟨cs⟩ i) = some v := by
  have h1 : pureR Try.prog (isAgg 34) = some false := by kernel_rfl
  have h2 : (⟨cs⟩ : Array Value)[i]? = some v := by simpa using h
  simp only [part, pureR_bind, h1, Option.bind_some, Bool.false_eq_true, if_false, h2, pureR_pure]
theorem eqV {X Y : Nat → Int} (hX : B64 X) (hY : B64 Y) : pureR Try.prog (Op.equalIn 10000 37 (.agg ⟨vs4 X Y⟩) (.agg ⟨vs4 X Y⟩)) = some true := by
  have h1 : pureR Try.prog (underlying 37) = some (.array 4 34) := by kernel_rfl
  have h2 : pureR Try.prog (sizeOf 34) = some 1 := by kernel_rfl
  have e : ∀ k, k < 4 → fEq .f64 (fb (X k)) (fb (X k)) = true ∧ fEq .f64 (fb (Y k)) (fb (Y k)) = true := fun k hk => ⟨(fb_ok (hX k hk)).1, (fb_ok (hY k hk)).1⟩
  unfold Op.equalIn
  simp only [pureR_bind, h1, h2, Option.bind_some]
  have r4 : List.range' 0 4 = [0, 1, 2, 3] := rfl
  simp [r4, pureR_bind, p34 (vs4_get X Y (i := 0) (by decide)), p34 (vs4_get X Y (i := 1) (by decide)), p34 (vs4_get X Y (i := 2) (by decide)), p34 (vs4_get X Y (i := 3) (by decide)), eq34, e, pureR_pure]
theorem eqA_vec {X Y : Nat → Int} {x y : Operand} {K : Bool → Prop} (hX : B64 X) (hY : B64 Y) (hK : K true) : eqA Try.prog .eql 37 x y (vs4 X Y) (vs4 X Y) K := by
  refine ⟨⟨?_, ?_⟩, true, ?_, hK⟩
  · simp [vs4, vec, atomV, flatV]
  · simp [vs4, vec, atomV, flatV]
  · have h1 : pureR Try.prog (eqGuard .eql 37 x y (.agg ⟨vs4 X Y⟩) (.agg ⟨vs4 X Y⟩)) = some () := by kernel_rfl
    have h2 : pureR Try.prog (binOp .eql 37 (.agg ⟨vs4 X Y⟩) (.agg ⟨vs4 X Y⟩)) = (pureR Try.prog (Op.equalIn 10000 37 (.agg ⟨vs4 X Y⟩) (.agg ⟨vs4 X Y⟩))).bind fun b => some (.bool b) := by
      show pureR Try.prog (do pure (Value.bool (← Op.equal 37 (.agg ⟨vs4 X Y⟩) (.agg ⟨vs4 X Y⟩)))) = _
      rw [pureR_bind]
      rfl
    rw [pureR_bind, h1]
    simp only [Option.bind_some, h2, eqV hX hY]
end Go.Am
