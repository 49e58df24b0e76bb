/- A part of the proof: Sp2. -/
import Derived.Test.YtkidkceaocgnfaaSp1
/- Sp2: samples between samples, as the document has them. -/
set_option linter.all false
namespace Go.Am
open Go.Proofs

def row (W Hh : Int) (xs : List Int) (x y fx i : Int) : Int := (if 1 ≤ i then smp W Hh xs x y else 0) + (if 2 ≤ i then smp W Hh xs (x + 1) y else 0)
def rows (W Hh : Int) (xs : List Int) (x y fx j : Int) : Int := (if 1 ≤ j then row W Hh xs x y fx (fx + 1) else 0) + (if 2 ≤ j then row W Hh xs x (y + 1) fx (fx + 1) else 0)

theorem n30_9 {p : List Value} {Q : Value → AHeap → Prop} {kb : KB} {H : AHeap} {down : Bool} {x fx y fy s m j i : Int} (hi : 0 ≤ i ∧ i ≤ 100)
    (h : kb 8 [.bool down, .int .i64 x, .int .i64 fx, .int .i64 y, .int .i64 fy, .int .i64 s, .int .i64 m, .int .i64 j, .int .i64 (i + 1)] [p] H) :
    g30_9 Q kb [.bool down, .int .i64 x, .int .i64 fx, .int .i64 y, .int .i64 fy, .int .i64 s, .int .i64 m, .int .i64 j, .int .i64 i] [p] H := by
  simp [g30_9]
  rw [w64 (x := i + 1) (by omega) (by omega)]; exact h
theorem n30_10 {p : List Value} {W Hh : Int} {xs : List Int} {Q : Value → AHeap → Prop} {kb : KB} {H : AHeap} {F9 : PT} {down : Bool} {x fx y fy s m j i : Int} (hp : Plane H p W Hh xs) (hl3 : p.length = 3) (hr : ∀ x y, 0 ≤ smp W Hh xs x y ∧ smp W Hh xs x y ≤ 255)
    (hx : -1000000 ≤ x ∧ x ≤ 1000000) (hy : -1000000 ≤ y ∧ y ≤ 1000000) (hi : 0 ≤ i ∧ i ≤ 100) (hj : 0 ≤ j ∧ j ≤ 100) (hs : 0 ≤ s ∧ s ≤ 100000) (hm : 0 ≤ m ∧ m ≤ 1000)
    (h : F9 kb [.bool down, .int .i64 x, .int .i64 fx, .int .i64 y, .int .i64 fy, .int .i64 (s + smp W Hh xs (x + i) (y + j)), .int .i64 (m + 1), .int .i64 j, .int .i64 i] [p] H) :
    g30_10 Q F9 kb [.bool down, .int .i64 x, .int .i64 fx, .int .i64 y, .int .i64 fy, .int .i64 s, .int .i64 m, .int .i64 j, .int .i64 i] [p] H := by
  simp [g30_10, hl3]
  rw [w64 (x := x + i) (by omega) (by omega), w64 (x := y + j) (by omega) (by omega)]
  refine s44 hp ?_
  simp
  have h1 := hr (x + i) (y + j)
  rw [w64 (x := s + smp W Hh xs (x + i) (y + j)) (by omega) (by omega), w64 (x := m + 1) (by omega) (by omega)]
  exact h

theorem row_rng {W Hh : Int} {xs : List Int} (hr : ∀ x y, 0 ≤ smp W Hh xs x y ∧ smp W Hh xs x y ≤ 255) (x y fx i : Int) : 0 ≤ row W Hh xs x y fx i ∧ row W Hh xs x y fx i ≤ 510 := by
  have a1 := hr x y
  have a2 := hr (x + 1) y
  unfold row
  split <;> split <;> omega
theorem row_step {W Hh : Int} {xs : List Int} {x y fx i : Int} (hi : i = 0 ∨ i = 1) : row W Hh xs x y fx i + smp W Hh xs (x + i) y = row W Hh xs x y fx (i + 1) := by
  rcases hi with rfl | rfl <;> simp [row]

theorem n30_l8 {p : List Value} {W Hh : Int} {xs : List Int} {x y fx fy s0 m0 j : Int} {down : Bool} {H : AHeap} {Q : Value → AHeap → Prop} {kb : KB} {F6 F10 : PT} (hr : ∀ x y, 0 ≤ smp W Hh xs x y ∧ smp W Hh xs x y ≤ 255)
    (hfx : 0 ≤ fx ∧ fx ≤ 1) (hs : 0 ≤ s0 ∧ s0 ≤ 10000) (hm : 0 ≤ m0 ∧ m0 ≤ 100)
    (h10 : ∀ (kb : KB) (s m i : Int), 0 ≤ i ∧ i ≤ 100 → 0 ≤ s ∧ s ≤ 100000 → 0 ≤ m ∧ m ≤ 1000 → kb 8 [.bool down, .int .i64 x, .int .i64 fx, .int .i64 y, .int .i64 fy, .int .i64 (s + smp W Hh xs (x + i) (y + j)), .int .i64 (m + 1), .int .i64 j, .int .i64 (i + 1)] [p] H →
      F10 kb [.bool down, .int .i64 x, .int .i64 fx, .int .i64 y, .int .i64 fy, .int .i64 s, .int .i64 m, .int .i64 j, .int .i64 i] [p] H)
    (h6 : ∀ kb' : KB, (∀ l, l ≠ 8 → kb' l = kb l) → F6 kb' [.bool down, .int .i64 x, .int .i64 fx, .int .i64 y, .int .i64 fy, .int .i64 (s0 + row W Hh xs x (y + j) fx (fx + 1)), .int .i64 (m0 + (fx + 1)), .int .i64 j] [p] H) :
    lpW (g30_l8 Q F6 F10) kb 8 [.bool down, .int .i64 x, .int .i64 fx, .int .i64 y, .int .i64 fy, .int .i64 s0, .int .i64 m0, .int .i64 j, .int .i64 0] [p] H := by
  refine lp (σ := Int) (fun i => [.bool down, .int .i64 x, .int .i64 fx, .int .i64 y, .int .i64 fy, .int .i64 (s0 + row W Hh xs x (y + j) fx i), .int .i64 (m0 + i), .int .i64 j, .int .i64 i]) (fun _ => [p]) (fun i H' => H' = H ∧ 0 ≤ i ∧ i ≤ fx + 1) (fun i _ => (3 - i).toNat) 0 ?_ rfl ⟨rfl, by omega, by omega⟩ ?_
  · simp [row]
  · rintro i H' k ⟨rfl, hi0, hi1⟩ hk
    have h2 := row_rng hr x (y + j) fx i
    simp only [g30_l8, inB_c, inI_c, nilK_c, inX_c, nilX_c, Bool.cond_decide]
    split
    · rename_i hle
      refine h10 _ _ _ _ (by omega) (by omega) (by omega) ?_
      rw [Int.add_assoc s0, row_step (by omega), upK_same, Int.add_assoc m0]
      exact hk (i + 1) H' ⟨rfl, by omega, by omega⟩ (by omega)
    · rename_i hle
      have hi : i = fx + 1 := by omega
      subst hi
      exact h6 (upK kb 8 k) (fun l hl => upK_ne hl)

theorem rows_step {W Hh : Int} {xs : List Int} {x y fx j : Int} (hj : j = 0 ∨ j = 1) : rows W Hh xs x y fx j + row W Hh xs x (y + j) fx (fx + 1) = rows W Hh xs x y fx (j + 1) := by
  rcases hj with rfl | rfl <;> simp [rows]
theorem rows_rng {W Hh : Int} {xs : List Int} (hr : ∀ x y, 0 ≤ smp W Hh xs x y ∧ smp W Hh xs x y ≤ 255) (x y fx j : Int) : 0 ≤ rows W Hh xs x y fx j ∧ rows W Hh xs x y fx j ≤ 1020 := by
  have a1 := row_rng hr x y fx (fx + 1)
  have a2 := row_rng hr x (y + 1) fx (fx + 1)
  unfold rows
  split <;> split <;> omega
theorem n30_6 {p : List Value} {Q : Value → AHeap → Prop} {kb : KB} {H : AHeap} {down : Bool} {x fx y fy s m j : Int} (hj : 0 ≤ j ∧ j ≤ 100)
    (h : kb 5 [.bool down, .int .i64 x, .int .i64 fx, .int .i64 y, .int .i64 fy, .int .i64 s, .int .i64 m, .int .i64 (j + 1)] [p] H) :
    g30_6 Q kb [.bool down, .int .i64 x, .int .i64 fx, .int .i64 y, .int .i64 fy, .int .i64 s, .int .i64 m, .int .i64 j] [p] H := by
  simp [g30_6]
  rw [w64 (x := j + 1) (by omega) (by omega)]; exact h
theorem n30_7 {p : List Value} {Q : Value → AHeap → Prop} {kb : KB} {H : AHeap} {L8 : PT} {down : Bool} {x fx y fy s m j : Int}
    (h : lpW L8 kb 8 [.bool down, .int .i64 x, .int .i64 fx, .int .i64 y, .int .i64 fy, .int .i64 s, .int .i64 m, .int .i64 j, .int .i64 0] [p] H) :
    g30_7 Q L8 kb [.bool down, .int .i64 x, .int .i64 fx, .int .i64 y, .int .i64 fy, .int .i64 s, .int .i64 m, .int .i64 j] [p] H := by
  simp [g30_7]; exact h
theorem n30_l5 {p : List Value} {W Hh : Int} {xs : List Int} {x y fx fy : Int} {down : Bool} {H : AHeap} {Q : Value → AHeap → Prop} {kb : KB} {F7 F12 : PT} (hr : ∀ x y, 0 ≤ smp W Hh xs x y ∧ smp W Hh xs x y ≤ 255)
    (hfx : 0 ≤ fx ∧ fx ≤ 1) (hfy : 0 ≤ fy ∧ fy ≤ 1)
    (h7 : ∀ (kb : KB) (s m j : Int), 0 ≤ j ∧ j ≤ 1 → 0 ≤ s ∧ s ≤ 10000 → 0 ≤ m ∧ m ≤ 100 → kb 5 [.bool down, .int .i64 x, .int .i64 fx, .int .i64 y, .int .i64 fy, .int .i64 (s + row W Hh xs x (y + j) fx (fx + 1)), .int .i64 (m + (fx + 1)), .int .i64 (j + 1)] [p] H →
      F7 kb [.bool down, .int .i64 x, .int .i64 fx, .int .i64 y, .int .i64 fy, .int .i64 s, .int .i64 m, .int .i64 j] [p] H)
    (h12 : ∀ kb' : KB, F12 kb' [.bool down, .int .i64 (rows W Hh xs x y fx (fy + 1)), .int .i64 ((fy + 1) * (fx + 1))] [] H) :
    lpW (g30_l5 Q F7 F12) kb 5 [.bool down, .int .i64 x, .int .i64 fx, .int .i64 y, .int .i64 fy, .int .i64 0, .int .i64 0, .int .i64 0] [p] H := by
  refine lp (σ := Int) (fun j => [.bool down, .int .i64 x, .int .i64 fx, .int .i64 y, .int .i64 fy, .int .i64 (rows W Hh xs x y fx j), .int .i64 (j * (fx + 1)), .int .i64 j]) (fun _ => [p]) (fun j H' => H' = H ∧ 0 ≤ j ∧ j ≤ fy + 1) (fun j _ => (3 - j).toNat) 0 ?_ rfl ⟨rfl, by omega, by omega⟩ ?_
  · simp [rows]
  · rintro j H' k ⟨rfl, hj0, hj1⟩ hk
    have h2 := rows_rng hr x y fx j
    have hm : 0 ≤ j * (fx + 1) ∧ j * (fx + 1) ≤ 100 := by
      have : j = 0 ∨ j = 1 ∨ j = 2 := by omega
      rcases this with rfl | rfl | rfl <;> omega
    simp only [g30_l5, inB_c, inI_c, nilK_c, inX_c, nilX_c, Bool.cond_decide]
    split
    · rename_i hle
      refine h7 _ _ _ _ (by omega) (by omega) (by omega) ?_
      have e : j * (fx + 1) + (fx + 1) = (j + 1) * (fx + 1) := by rw [Int.add_mul]; omega
      rw [rows_step (by omega), e, upK_same]
      exact hk (j + 1) H' ⟨rfl, by omega, by omega⟩ (by omega)
    · rename_i hle
      have hi : j = fy + 1 := by omega
      subst hi
      exact h12 _
theorem n30_15 {Q : Value → AHeap → Prop} {kb : KB} {H : AHeap} {s m u : Int} (hs : 0 ≤ s ∧ s ≤ 10000) (hm : 1 ≤ m ∧ m ≤ 4) (hu : 0 ≤ u ∧ u ≤ 4) (hQ : Q (.int .i64 ((s + u) / m)) H) : g30_15 Q kb [.int .i64 s, .int .i64 m, .int .i64 u] [] H := by
  have h1 : 0 ≤ (s + u) / m := Int.ediv_nonneg (by omega) (by omega)
  have h2 : (s + u) / m ≤ s + u := Int.ediv_le_self _ (by omega)
  simp [g30_15, nz]
  rw [w64 (x := s + u) (by omega) (by omega), Int.tdiv_eq_ediv_of_nonneg (by omega), w64 (by omega) (by omega)]
  exact ⟨by omega, hQ⟩
theorem n30_12 {Q : Value → AHeap → Prop} {kb : KB} {H : AHeap} {F15 : PT} {down : Bool} {s m : Int} (hm : 1 ≤ m ∧ m ≤ 4) (h : F15 kb [.int .i64 s, .int .i64 m, .int .i64 (if down = true ∧ 1 < m then m / 2 - 1 else m / 2)] [] H) : g30_12 Q F15 kb [.bool down, .int .i64 s, .int .i64 m] [] H := by
  have e1 : IntKind.wrap .i64 (m.tdiv 2) = m / 2 := by rw [Int.tdiv_eq_ediv_of_nonneg (by omega), w64 (by omega) (by omega)]
  have e2 : IntKind.wrap .i64 (m / 2 - 1) = m / 2 - 1 := w64 (by omega) (by omega)
  simp only [g30_12, inB_c, inI_c, nilK_c, nilX_c, Bool.cond_decide, e1, e2]
  cases down with
  | false => simpa using h
  | true =>
    simp only [cond_true]
    split
    · rename_i h1; simpa [h1] using h
    · rename_i h1
      have : ¬ 1 < m := h1
      simpa [this] using h

theorem rows_betw {W Hh : Int} {xs : List Int} (x2 y2 : Int) (down : Bool) (m : Int) (hm : m = (y2 % 2 + 1) * (x2 % 2 + 1)) :
    (rows W Hh xs (x2 / 2) (y2 / 2) (x2 % 2) (y2 % 2 + 1) + (if down = true ∧ 1 < m then m / 2 - 1 else m / 2)) / m = betw W Hh xs x2 y2 down := by
  have hx : x2 % 2 = 0 ∨ x2 % 2 = 1 := by omega
  have hy : y2 % 2 = 0 ∨ y2 % 2 = 1 := by omega
  subst hm
  rcases hx with hx | hx <;> rcases hy with hy | hy <;> cases down <;> simp [rows, row, betw, hx, hy] <;> (congr 1; omega)

theorem n30 {p : List Value} {x y : Int} {down : Bool} {H : AHeap} {Q : Value → AHeap → Prop} {L5 : PT} (hl3 : p.length = 3) (hbx : -1000000 ≤ x ∧ x ≤ 1000000) (hby : -1000000 ≤ y ∧ y ≤ 1000000)
    (h : lpW L5 kb0 5 [.bool down, .int .i64 (x / 2), .int .i64 (x % 2), .int .i64 (y / 2), .int .i64 (y % 2), .int .i64 0, .int .i64 0, .int .i64 0] [p] H) : g30 Q L5 [.agg ⟨p⟩, .int .i64 x, .int .i64 y, .bool down] H := by
  simp [g30, hl3]
  refine s41 (by omega) ?_
  simp
  refine s41 (by omega) ?_
  simp
  exact h

theorem s30 {p : List Value} {W Hh : Int} {xs : List Int} {x y : Int} {down : Bool} {H : AHeap} {Q : Value → AHeap → Prop} (hp : Plane H p W Hh xs) (hbx : -1000000 ≤ x ∧ x ≤ 1000000) (hby : -1000000 ≤ y ∧ y ≤ 1000000) (hQ : Q (.int .i64 (betw W Hh xs x y down)) H) :
    call Try.prog 30 [.agg ⟨p⟩, .int .i64 x, .int .i64 y, .bool down] H Q := by
  have hp0 := hp
  obtain ⟨⟨b, hpe, hx⟩, hw, hh, hl⟩ := hp
  have hr := fun x y => smp_rng (W := W) (Hh := Hh) hx x y
  have hl3 : p.length = 3 := by rw [hpe]; rfl
  have hxm : 0 ≤ x % 2 ∧ x % 2 ≤ 1 := by omega
  have hym : 0 ≤ y % 2 ∧ y % 2 ≤ 1 := by omega
  have hm : 1 ≤ (y % 2 + 1) * (x % 2 + 1) ∧ (y % 2 + 1) * (x % 2 + 1) ≤ 4 := by
    have h1 : x % 2 = 0 ∨ x % 2 = 1 := by omega
    have h2 : y % 2 = 0 ∨ y % 2 = 1 := by omega
    rcases h1 with h1 | h1 <;> rcases h2 with h2 | h2 <;> rw [h1, h2] <;> decide
  have hrr := rows_rng hr (x / 2) (y / 2) (x % 2) (y % 2 + 1)
  refine c30 (n30 (L5 := f30_l5 Q) hl3 hbx hby ?_)
  refine n30_l5 (W := W) (Hh := Hh) (xs := xs) (F7 := f30_7 Q) (F12 := f30_12 Q) hr hxm hym (fun kb s m j hj hs hm hk => ?_) (fun kb' => ?_)
  · refine n30_7 (L8 := f30_l8 Q) ?_
    refine n30_l8 (W := W) (Hh := Hh) (xs := xs) (F6 := f30_6 Q) (F10 := f30_10 Q) hr hxm hs hm (fun kb s m i hi hs hm hk => ?_) (fun kb' hkb => ?_)
    · exact n30_10 (F9 := f30_9 Q) hp0 hl3 hr (by omega) (by omega) hi (by omega) hs hm (n30_9 hi hk)
    · refine n30_6 (by omega) ?_
      rw [hkb 5 (by decide)]
      exact hk
  · refine n30_12 (F15 := f30_15 Q) hm (n30_15 (by omega) hm (by split <;> omega) ?_)
    rw [rows_betw x y down _ rfl]
    exact hQ
end Go.Am
