/- A part of the proof: Sp3. -/
import Derived.Test.YtkidkceaocgnfaaSp2
/- Sp3: blocks of samples. -/
set_option linter.all false
namespace Go.Am
open Go.Proofs

def blk (F : Nat → Int) (i : Nat) : List Value := (List.range 64).map fun j => .int .i64 (if j < i then F j else 0)
theorem blk_len (F : Nat → Int) (i : Nat) : (blk F i).length = 64 := by simp [blk]
theorem blk_zero (F : Nat → Int) : blk F 0 = List.replicate 64 (.int .i64 0) := by
  apply List.ext_getElem
  · simp [blk]
  · intro i h1 h2; simp only [blk, List.getElem_map, List.getElem_range, Nat.not_lt_zero, if_false, List.getElem_replicate]
theorem blk_set (F : Nat → Int) {i : Nat} (hi : i < 64) : (blk F i).set i (.int .i64 (F i)) = blk F (i + 1) := by
  apply List.ext_getElem
  · simp [blk]
  · intro j h1 h2
    simp only [blk, List.length_map, List.length_range] at h2
    simp only [blk, List.getElem_set, List.getElem_map, List.getElem_range]
    by_cases hij : i = j
    · subst hij; simp
    · have : (j < i) ↔ (j < i + 1) := by omega
      simp [hij, this]
theorem blk_get (F : Nat → Int) {j : Nat} (hj : j < 64) : (blk F 64)[j]? = some (.int .i64 (F j)) := by
  simp [blk, hj]
theorem stC_all {xs ys : List Value} (h : xs.length = ys.length) : stC xs 0 ys = ys := by
  simp [stC, ← h]

theorem n37 {p : List Value} {W Hh : Int} {xs : List Int} {x y : Int} {H : AHeap} {Q : Value → AHeap → Prop} {F4 F7 : PT} (hl3 : p.length = 3) (F : Nat → Int)
    (h4 : ∀ (kb : KB) (i : Nat), i < 64 → kb 3 [.int .i64 x, .int .i64 y, .int .i64 (i + 1 : Nat)] [p, blk F 0, blk F (i + 1)] H → F4 kb [.int .i64 x, .int .i64 y, .int .i64 (i : Nat)] [p, blk F 0, blk F i] H)
    (h7 : ∀ kb : KB, F7 kb [] [blk F 0, blk F 64] H) : g37 Q (g37_l3 Q F4 F7) [.agg ⟨p⟩, .int .i64 x, .int .i64 y] H := by
  simp only [g37, inA_c, inI_c, nilK_c, gd_simp, hl3, true_and]
  rw [← blk_zero F]
  refine lp (σ := Nat) (fun i => [.int .i64 x, .int .i64 y, .int .i64 (i : Nat)]) (fun i => [p, blk F 0, blk F i]) (fun i H' => H' = H ∧ i ≤ 64) (fun i _ => 64 - i) 0 rfl rfl ⟨rfl, by omega⟩ ?_
  rintro i H' k ⟨rfl, hi⟩ hk
  simp only [g37_l3, inI_c, nilK_c, inX_c, nilX_c, Bool.cond_decide]
  split
  · refine h4 _ i (by omega) ?_
    rw [upK_same]
    exact hk (i + 1) H' ⟨rfl, by omega⟩ (by omega)
  · have : i = 64 := by omega
    subst this
    exact h7 _
theorem n37_4 {p : List Value} {W Hh : Int} {xs : List Int} {x y : Int} {H : AHeap} {Q : Value → AHeap → Prop} {F6 : PT} {kb : KB} {i : Nat} (hp : Plane H p W Hh xs) (hl3 : p.length = 3) (hr : ∀ x y, 0 ≤ smp W Hh xs x y ∧ smp W Hh xs x y ≤ 255) (hx : -1000000 ≤ x ∧ x ≤ 1000000) (hy : -1000000 ≤ y ∧ y ≤ 1000000) (hi : i < 64)
    {F : Nat → Int} (hF : F = fun i : Nat => smp W Hh xs (x + (i : Int) % 8) (y + (i : Int) / 8)) (h : F6 kb [.int .i64 x, .int .i64 y, .int .i64 (i : Nat)] [p, blk F 0, blk F (i + 1)] H) :
    g37_4 Q F6 kb [.int .i64 x, .int .i64 y, .int .i64 (i : Nat)] [p, blk F 0, blk F i] H := by
  have e1 : (i : Int).tmod 8 = i % 8 := Int.tmod_eq_emod_of_nonneg (by omega)
  have e2 : (i : Int).tdiv 8 = i / 8 := Int.tdiv_eq_ediv_of_nonneg (by omega)
  have hs := hr (x + i % 8) (y + i / 8)
  simp only [g37_4, inI_c, nilK_c, inX_c, nilX_c, rA_all hl3, e1, e2]
  rw [w64 (x := (i : Int) / 8) (by omega) (by omega), w64 (x := x + i % 8) (by omega) (by omega), w64 (x := y + i / 8) (by omega) (by omega)]
  refine s28 hp ?_
  simp only [asI_c, aidx_c, gd_simp, blk_len]
  refine ⟨by omega, by simp; omega, ?_⟩
  have e3 : 0 + (i : Int).toNat * 1 = i := by simp
  have e4 : F i = smp W Hh xs (x + i % 8) (y + i / 8) := by rw [hF]
  rw [e3, w64 (by omega) (by omega), ← e4, blk_set F hi]
  exact h
theorem s37 {p : List Value} {W Hh : Int} {xs : List Int} {x y : Int} {H : AHeap} {Q : Value → AHeap → Prop} (hp : Plane H p W Hh xs) (hx : -1000000 ≤ x ∧ x ≤ 1000000) (hy : -1000000 ≤ y ∧ y ≤ 1000000)
    (hQ : Q (.agg ⟨blk (fun i : Nat => smp W Hh xs (x + (i : Int) % 8) (y + (i : Int) / 8)) 64⟩) H) : call Try.prog 37 [.agg ⟨p⟩, .int .i64 x, .int .i64 y] H Q := by
  have hp0 := hp
  obtain ⟨⟨b, hpe, hpx⟩, hw, hh, hl⟩ := hp
  have hr := fun x y => smp_rng (W := W) (Hh := Hh) hpx x y
  have hl3 : p.length = 3 := by rw [hpe]; rfl
  refine c37 (n37 (W := W) (Hh := Hh) (xs := xs) (F4 := f37_4 Q) (F7 := f37_7 Q) hl3 (fun i : Nat => smp W Hh xs (x + (i : Int) % 8) (y + (i : Int) / 8)) (fun kb i hi hk => ?_) (fun kb => ?_))
  · refine n37_4 (F6 := f37_6 Q) hp0 hl3 hr hx hy hi rfl ?_
    show g37_6 Q kb _ _ H
    simp only [g37_6, inI_c, nilK_c, inX_c, nilX_c]
    rw [w64 (by omega) (by omega)]
    exact hk
  · show g37_7 Q kb _ _ H
    simp only [g37_7, nilK_c, inX_c, nilX_c, rA_all (blk_len _ _), gd_simp, blk_len]
    refine ⟨by decide, ?_⟩
    rw [stC_all (by simp [blk_len]), rA_all (blk_len _ _)]
    exact hQ

theorem n38 {p : List Value} {x y dx dy : Int} {c : Bool} {H : AHeap} {Q : Value → AHeap → Prop} {F4 F7 : PT} (hl3 : p.length = 3) (F : Nat → Int)
    (h4 : ∀ (kb : KB) (i : Nat), i < 64 → kb 3 [.int .i64 x, .int .i64 y, .int .i64 dx, .int .i64 dy, .bool c, .int .i64 (i + 1 : Nat)] [p, blk F 0, blk F (i + 1)] H → F4 kb [.int .i64 x, .int .i64 y, .int .i64 dx, .int .i64 dy, .bool c, .int .i64 (i : Nat)] [p, blk F 0, blk F i] H)
    (h7 : ∀ kb : KB, F7 kb [] [blk F 0, blk F 64] H) : g38 Q (g38_l3 Q F4 F7) [.agg ⟨p⟩, .int .i64 x, .int .i64 y, .int .i64 dx, .int .i64 dy, .bool c] H := by
  simp only [g38, inA_c, inI_c, inB_c, nilK_c, gd_simp, hl3, true_and]
  rw [← blk_zero F]
  refine lp (σ := Nat) (fun i => [.int .i64 x, .int .i64 y, .int .i64 dx, .int .i64 dy, .bool c, .int .i64 (i : Nat)]) (fun i => [p, blk F 0, blk F i]) (fun i H' => H' = H ∧ i ≤ 64) (fun i _ => 64 - i) 0 rfl rfl ⟨rfl, by omega⟩ ?_
  rintro i H' k ⟨rfl, hi⟩ hk
  simp only [g38_l3, inI_c, inB_c, nilK_c, inX_c, nilX_c, Bool.cond_decide]
  split
  · refine h4 _ i (by omega) ?_
    rw [upK_same]
    exact hk (i + 1) H' ⟨rfl, by omega⟩ (by omega)
  · have : i = 64 := by omega
    subst this
    exact h7 _
theorem n38_4 {p : List Value} {W Hh : Int} {xs : List Int} {x y dx dy : Int} {c : Bool} {H : AHeap} {Q : Value → AHeap → Prop} {F6 : PT} {kb : KB} {i : Nat} (hp : Plane H p W Hh xs) (hl3 : p.length = 3) (hx : -100000 ≤ x ∧ x ≤ 100000) (hy : -100000 ≤ y ∧ y ≤ 100000) (hdx : -1000 ≤ dx ∧ dx ≤ 1000) (hdy : -1000 ≤ dy ∧ dy ≤ 1000) (hi : i < 64)
    {F : Nat → Int} (hF : F = fun i : Nat => betw W Hh xs (2 * (x + (i : Int) % 8) + dx) (2 * (y + (i : Int) / 8) + dy) c) (h : F6 kb [.int .i64 x, .int .i64 y, .int .i64 dx, .int .i64 dy, .bool c, .int .i64 (i : Nat)] [p, blk F 0, blk F (i + 1)] H) :
    g38_4 Q F6 kb [.int .i64 x, .int .i64 y, .int .i64 dx, .int .i64 dy, .bool c, .int .i64 (i : Nat)] [p, blk F 0, blk F i] H := by
  have e1 : (i : Int).tmod 8 = i % 8 := Int.tmod_eq_emod_of_nonneg (by omega)
  have e2 : (i : Int).tdiv 8 = i / 8 := Int.tdiv_eq_ediv_of_nonneg (by omega)
  simp only [g38_4, inI_c, inB_c, nilK_c, inX_c, nilX_c, rA_all hl3, e1, e2]
  rw [w64 (x := (i : Int) / 8) (by omega) (by omega), w64 (x := x + i % 8) (by omega) (by omega), w64 (x := y + i / 8) (by omega) (by omega), w64 (x := 2 * (x + (i : Int) % 8)) (by omega) (by omega), w64 (x := 2 * (y + (i : Int) / 8)) (by omega) (by omega), w64 (x := 2 * (x + (i : Int) % 8) + dx) (by omega) (by omega), w64 (x := 2 * (y + (i : Int) / 8) + dy) (by omega) (by omega)]
  refine s47 hp (by omega) (by omega) ?_
  simp only [asI_c, aidx_c, gd_simp, blk_len]
  refine ⟨by omega, by simp; omega, ?_⟩
  have e3 : 0 + (i : Int).toNat * 1 = i := by simp
  have e4 : F i = betw W Hh xs (2 * (x + (i : Int) % 8) + dx) (2 * (y + (i : Int) / 8) + dy) c := by rw [hF]
  rw [e3, ← e4, blk_set F hi]
  exact h
theorem s38 {p : List Value} {W Hh : Int} {xs : List Int} {x y dx dy : Int} {c : Bool} {H : AHeap} {Q : Value → AHeap → Prop} (hp : Plane H p W Hh xs) (hx : -100000 ≤ x ∧ x ≤ 100000) (hy : -100000 ≤ y ∧ y ≤ 100000) (hdx : -1000 ≤ dx ∧ dx ≤ 1000) (hdy : -1000 ≤ dy ∧ dy ≤ 1000)
    (hQ : Q (.agg ⟨blk (fun i : Nat => betw W Hh xs (2 * (x + (i : Int) % 8) + dx) (2 * (y + (i : Int) / 8) + dy) c) 64⟩) H) : call Try.prog 38 [.agg ⟨p⟩, .int .i64 x, .int .i64 y, .int .i64 dx, .int .i64 dy, .bool c] H Q := by
  have hp0 := hp
  obtain ⟨⟨b, hpe, hpx⟩, hw, hh, hl⟩ := hp
  have hl3 : p.length = 3 := by rw [hpe]; rfl
  refine c38 (n38 (F4 := f38_4 Q) (F7 := f38_7 Q) hl3 (fun i : Nat => betw W Hh xs (2 * (x + (i : Int) % 8) + dx) (2 * (y + (i : Int) / 8) + dy) c) (fun kb i hi hk => ?_) (fun kb => ?_))
  · refine n38_4 (F6 := f38_6 Q) hp0 hl3 hx hy hdx hdy hi rfl ?_
    show g38_6 Q kb _ _ H
    simp only [g38_6, inI_c, inB_c, nilK_c, inX_c, nilX_c]
    rw [w64 (by omega) (by omega)]
    exact hk
  · show g38_7 Q kb _ _ H
    simp only [g38_7, nilK_c, inX_c, nilX_c, rA_all (blk_len _ _), gd_simp, blk_len]
    refine ⟨by decide, ?_⟩
    rw [stC_all (by simp [blk_len]), rA_all (blk_len _ _)]
    exact hQ
end Go.Am
