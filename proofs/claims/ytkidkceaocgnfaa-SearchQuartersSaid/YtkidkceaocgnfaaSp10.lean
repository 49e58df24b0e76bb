/- A part of the proof: Sp10. -/
import Derived.Test.YtkidkceaocgnfaaSp9
/- Sp10: Touches, allowed, may. -/
set_option linter.all false
set_option maxRecDepth 100000
namespace Go.Am
open Go.Proofs
theorem mkL_len1 (v : Value) (l : Nat) : (mkL [v] l).length = l := by simp [mkL]
structure THeap (H0 : AHeap) (b : Nat) (n : Nat) (H : AHeap) : Prop where
  ext : Hx H0 H
  free : H0.get b = none
  has : ∃ ys e, H.get b = some (.cells ys e true) ∧ ys.length = n
theorem THeap.put {H0 H : AHeap} {b n : Nat} (h : THeap H0 b n H) {ys : List Value} {e : TypeId} (hl : ys.length = n) : THeap H0 b n (H.put b (.cells ys e true)) :=
  ⟨h.ext.put h.free _, h.free, ys, e, by simp, hl⟩

def tA (C R mb : Int) (b : Nat) (n : Nat) (last : Int) (k : Nat) : List Value := [.int .i64 C, .int .i64 R, .int .i64 mb, .slice (some ⟨b, 0, none⟩) n 1, .int .i64 last, .int .i64 (k : Nat)]
/-- x of a sample of a block -/
def tx (C mb : Int) (X : Nat → Int) (k : Nat) (i : Int) : Int := 2 * (plX C mb k + i % 8) + vk X k
def ta (C mb : Int) (X : Nat → Int) (k : Nat) (a : Int) : Int := if k = 4 then 2 * clampI a (8 * C) + 1 else clampI a (16 * C)
theorem ta_mono {C mb : Int} {X : Nat → Int} {k : Nat} {a b : Int} (h : a ≤ b) : ta C mb X k a ≤ ta C mb X k b := by
  unfold ta clampI; split <;> omega
theorem ta_le {C mb : Int} {X : Nat → Int} {k : Nat} {i h : Int} (hi : 0 ≤ i ∧ i < 64) (hh : h ≤ tx C mb X k i % 2) : ta C mb X k (tx C mb X k i / 2 + h) ≤ reachK C mb X k := by
  have e : reachK C mb X k = ta C mb X k ((2 * plX C mb k + vk X k) / 2 + 7 + (2 * plX C mb k + vk X k) % 2) := by
    unfold reachK ta spT; split <;> rfl
  rw [e]
  refine ta_mono ?_
  unfold tx at hh ⊢
  omega
theorem ta_eq {C mb : Int} {X : Nat → Int} {k : Nat} {i h : Int} (hi : i % 8 = 7) (hh : h = tx C mb X k i % 2) : ta C mb X k (tx C mb X k i / 2 + h) = reachK C mb X k := by
  have e : reachK C mb X k = ta C mb X k ((2 * plX C mb k + vk X k) / 2 + 7 + (2 * plX C mb k + vk X k) % 2) := by
    unfold reachK ta spT; split <;> rfl
  rw [e]
  congr 1
  unfold tx at hh ⊢
  omega

/-- what is known of the last -/
structure TL (C mb : Int) (X : Nat → Int) (k : Nat) (done : Prop) (last : Int) : Prop where
  lo : reachN C mb X k ≤ last
  hi : last ≤ reachN C mb X (k + 1)
  dn : done → reachK C mb X k ≤ last

theorem idx9 {C R px py s : Int} (hC : 1 ≤ C ∧ C ≤ 100) (hR : 1 ≤ R ∧ R ≤ 100) (hs : s = 8 ∨ s = 16) (hx : 0 ≤ px ∧ px < s * C) (hy : 0 ≤ py ∧ py < s * R) :
    IntKind.wrap .i64 (IntKind.wrap .i64 (IntKind.wrap .i64 (py.tdiv s) * C) + IntKind.wrap .i64 (px.tdiv s)) = py / s * C + px / s ∧ 0 ≤ py / s * C + px / s ∧ py / s * C + px / s < C * R := by
  have a1 : 0 ≤ px / s ∧ px / s ≤ C - 1 := by rcases hs with rfl | rfl <;> omega
  have a2 : 0 ≤ py / s ∧ py / s ≤ R - 1 := by rcases hs with rfl | rfl <;> omega
  have a3 : 0 ≤ py / s * C := Int.mul_nonneg a2.1 (by omega)
  have a4 : py / s * C ≤ (R - 1) * C := Int.mul_le_mul_of_nonneg_right a2.2 (by omega)
  have a5 : (R - 1) * C = C * R - C := by rw [Int.sub_mul, Int.mul_comm R C]; omega
  have a6 : C * R ≤ 100 * 100 := Int.mul_le_mul hC.2 hR.2 (by omega) (by omega)
  rw [Int.tdiv_eq_ediv_of_nonneg (by omega), Int.tdiv_eq_ediv_of_nonneg (by omega), w64 (x := py / s) (by omega) (by omega), w64 (x := px / s) (by omega) (by omega), w64 (x := py / s * C) (by omega) (by omega), w64 (by omega) (by omega)]
  omega

def tB (s x y dx dy : Int) : List Value := [.int .i64 s, .int .i64 x, .int .i64 y, .int .i64 dx, .int .i64 dy]
def tC (i : Nat) (px fx py fy : Int) : List Value := [.int .i64 (i : Nat), .int .i64 px, .int .i64 fx, .int .i64 py, .int .i64 fy]

/-- the innermost round -/
theorem t22 {C R mb : Int} {X Y : Nat → Int} {H0 H : AHeap} {Q : Value → AHeap → Prop} {kb : KB} {b n : Nat} {last : Int} {k i : Nat} {px fx py fy j h : Int} {s x y dx dy : Int}
    (hC : 1 ≤ C ∧ C ≤ 100) (hR : 1 ≤ R ∧ R ≤ 100) (hn : (n : Int) = C * R) (hs : s = if k = 4 then 8 else 16) (hT : THeap H0 b n H) (hpx : -10000 ≤ px ∧ px ≤ 10000) (hpy : -10000 ≤ py ∧ py ≤ 10000) (hj : 0 ≤ j ∧ j ≤ 1) (hh : 0 ≤ h ∧ h ≤ 1)
    (hk : ∀ H' l, THeap H0 b n H' → l = max last (ta C mb X k (px + h)) → kb 20 (tA C R mb b n l k ++ tB s x y dx dy ++ tC i px fx py fy ++ [.int .i64 j, .int .i64 (h + 1)]) [mac X Y] H') :
    f24_22 Q kb (tA C R mb b n last k ++ tB s x y dx dy ++ tC i px fx py fy ++ [.int .i64 j, .int .i64 h]) [mac X Y] H := by
  have hs' : s = 8 ∨ s = 16 := by rw [hs]; split <;> simp
  have hsC : 1 ≤ s * C ∧ s * C ≤ 1600 := by rcases hs' with rfl | rfl <;> omega
  have hsR : 1 ≤ s * R ∧ s * R ≤ 1600 := by rcases hs' with rfl | rfl <;> omega
  obtain ⟨ys, e, hg, hl⟩ := hT.has
  have cx := clampI_rng (n := px + h) (e := s * C) (by omega)
  have cy := clampI_rng (n := py + j) (e := s * R) (by omega)
  obtain ⟨i1, i2, i3⟩ := idx9 hC hR hs' cx cy
  simp only [tA, tB, tC, List.cons_append, List.nil_append, f24_22, g24_22, inI_c, inSl_c, nilK_c, inX_c, nilX_c]
  rw [w64 (x := px + h) (by omega) (by omega), w64 (x := s * C) (by omega) (by omega), w64 (x := py + j) (by omega) (by omega), w64 (x := s * R) (by omega) (by omega)]
  refine s42 (by omega) ?_
  simp only [asI_c]
  refine s42 (by omega) ?_
  simp only [asI_c, nz, gd_simp, hp_c, i1, aidx_c, wrH_s hg]
  refine ⟨by omega, by omega, by omega, by omega, ?_⟩
  have hput : THeap H0 b n (H.put b (.cells (ys.set (0 + (clampI (py + j) (s * R) / s * C + clampI (px + h) (s * C) / s).toNat * 1) (.bool true)) e true)) := hT.put (by rw [List.length_set, hl])
  generalize H.put b (.cells (ys.set (0 + (clampI (py + j) (s * R) / s * C + clampI (px + h) (s * C) / s).toNat * 1) (.bool true)) e true) = H' at hput ⊢
  have h26 : ∀ a, a = ta C mb X k (px + h) → f24_26 Q kb (tA C R mb b n last k ++ tB s x y dx dy ++ tC i px fx py fy ++ [.int .i64 j, .int .i64 h, .int .i64 a]) [mac X Y] H' := by
    intro a ha
    simp only [tA, tB, tC, List.cons_append, List.nil_append, f24_26, g24_26, f24_21, g24_21, inI_c, inSl_c, nilK_c, inX_c, nilX_c]
    rw [w64 (x := h + 1) (by omega) (by omega)]
    refine bdec (fun h1 => ?_) (fun h1 => ?_)
    · exact hk H' a hput (by omega)
    · exact hk H' last hput (by omega)
  refine bbeq (fun h1 => ?_) (fun h1 => ?_)
  · have : k = 4 := by
      by_cases h4 : k = 4
      · exact h4
      · rw [hs, if_neg h4] at h1; omega
    subst h1
    rw [w64 (x := 2 * clampI (px + h) (8 * C)) (by omega) (by omega), w64 (by omega) (by omega)]
    exact h26 _ (by simp only [ta, if_pos this])
  · have : ¬ k = 4 := by
      intro h4
      rw [hs, if_pos h4] at h1; omega
    rw [if_neg this] at hs
    subst hs
    exact h26 _ (by simp only [ta, if_neg this])

theorem TL.step {C mb : Int} {X : Nat → Int} {k : Nat} {d d' : Prop} {last i h : Int} (hL : TL C mb X k d last) (hi : 0 ≤ i ∧ i < 64) (hh : h ≤ tx C mb X k i % 2) (hd : d' → d ∨ (i % 8 = 7 ∧ h = tx C mb X k i % 2)) :
    TL C mb X k d' (max last (ta C mb X k (tx C mb X k i / 2 + h))) where
  lo := by have := hL.lo; omega
  hi := by
    have := hL.hi
    have := ta_le (C := C) (mb := mb) (X := X) (k := k) hi hh
    simp only [reachN] at *
    omega
  dn := fun h' => by
    rcases hd h' with h1 | ⟨h1, h2⟩
    · have := hL.dn h1; omega
    · have := ta_eq (C := C) (mb := mb) (X := X) (k := k) h1 h2
      omega
theorem TL.weak {C mb : Int} {X : Nat → Int} {k : Nat} {d d' : Prop} {last : Int} (hL : TL C mb X k d last) (hd : d' → d) : TL C mb X k d' last := ⟨hL.lo, hL.hi, fun h => hL.dn (hd h)⟩

/-- the loop over h -/
theorem t19 {C R mb : Int} {X Y : Nat → Int} {H0 H : AHeap} {Q : Value → AHeap → Prop} {kb : KB} {b n : Nat} {last : Int} {k i : Nat} {px fx py fy j : Int} {s x y dx dy : Int} {d : Prop}
    (hC : 1 ≤ C ∧ C ≤ 100) (hR : 1 ≤ R ∧ R ≤ 100) (hn : (n : Int) = C * R) (hs : s = if k = 4 then 8 else 16) (hT : THeap H0 b n H) (hi : i < 64) (hpx : px = tx C mb X k i / 2) (hfx : fx = tx C mb X k i % 2) (hpxr : -10000 ≤ px ∧ px ≤ 10000) (hpy : -10000 ≤ py ∧ py ≤ 10000) (hj : 0 ≤ j ∧ j ≤ 1) (hL : TL C mb X k d last)
    (hk : ∀ H' l, THeap H0 b n H' → TL C mb X k (d ∨ i % 8 = 7) l → kb 17 (tA C R mb b n l k ++ tB s x y dx dy ++ tC i px fx py fy ++ [.int .i64 (j + 1)]) [mac X Y] H') :
    f24_19 Q kb (tA C R mb b n last k ++ tB s x y dx dy ++ tC i px fx py fy ++ [.int .i64 j]) [mac X Y] H := by
  have hfx1 : 0 ≤ fx ∧ fx ≤ 1 := by rw [hfx]; omega
  simp only [tA, tB, tC, List.cons_append, List.nil_append, f24_19, g24_19, inI_c, inSl_c, nilK_c, inX_c, nilX_c]
  refine lp (σ := Int × Int) (fun p => tA C R mb b n p.1 k ++ tB s x y dx dy ++ tC i px fx py fy ++ [.int .i64 j, .int .i64 p.2]) (fun _ => [mac X Y])
    (fun p H' => THeap H0 b n H' ∧ 0 ≤ p.2 ∧ p.2 ≤ fx + 1 ∧ TL C mb X k (d ∨ (i % 8 = 7 ∧ p.2 = fx + 1)) p.1) (fun p _ => (5 - p.2).toNat) (last, 0) rfl rfl ⟨hT, by simp, by simp; omega, hL.weak fun h => h.elim id fun h => by simp at h; omega⟩ ?_
  rintro ⟨l, h⟩ H' kk ⟨hT', h0, h1, hL'⟩ hkk
  simp only at h0 h1 hL' hkk ⊢
  have e : f24_l20 Q (upK kb 20 kk) (tA C R mb b n l k ++ tB s x y dx dy ++ tC i px fx py fy ++ [.int .i64 j, .int .i64 h]) [mac X Y] H' =
    bif (decide (h ≤ fx)) then f24_22 Q (upK kb 20 kk) (tA C R mb b n l k ++ tB s x y dx dy ++ tC i px fx py fy ++ [.int .i64 j, .int .i64 h]) [mac X Y] H' else f24_18 Q (upK kb 20 kk) (tA C R mb b n l k ++ tB s x y dx dy ++ tC i px fx py fy ++ [.int .i64 j]) [mac X Y] H' := by
    simp only [tA, tB, tC, List.cons_append, List.nil_append, f24_l20, g24_l20, inI_c, inSl_c, nilK_c, inX_c, nilX_c]
  rw [e]
  refine bdec (fun hle => ?_) (fun hle => ?_)
  · refine t22 hC hR hn hs hT' hpxr hpy hj (by omega) fun H'' l'' hT'' hl'' => ?_
    rw [upK_same]
    refine hkk (l'', h + 1) H'' ⟨hT'', by simp; omega, by simp; omega, ?_⟩ (by simp; omega)
    simp only
    rw [hl'', hpx]
    refine hL'.step (by omega) (by omega) ?_
    rintro (h | ⟨h, h'⟩)
    · exact .inl (.inl h)
    · exact .inr ⟨by omega, by omega⟩
  · simp only [tA, tB, tC, List.cons_append, List.nil_append, f24_18, g24_18, inI_c, inSl_c, nilK_c, inX_c, nilX_c]
    rw [w64 (x := j + 1) (by omega) (by omega), upK_ne (by decide)]
    exact hk H' l hT' (hL'.weak fun h => h.elim .inl fun h => .inr ⟨h, by omega⟩)

/-- the loop over j -/
theorem t14 {C R mb : Int} {X Y : Nat → Int} {H0 H : AHeap} {Q : Value → AHeap → Prop} {kb : KB} {b n : Nat} {last : Int} {k i : Nat} {s : Int} {d : Prop} {dy : Int}
    (hC : 1 ≤ C ∧ C ≤ 100) (hm : 0 ≤ mb ∧ mb ≤ 100) (hR : 1 ≤ R ∧ R ≤ 100) (hn : (n : Int) = C * R) (hs : s = if k = 4 then 8 else 16) (hT : THeap H0 b n H) (hi : i < 64) (hX : B64 X) (hdy : -64 ≤ dy ∧ dy ≤ 64) (hL : TL C mb X k d last)
    (hk : ∀ H' l, THeap H0 b n H' → TL C mb X k (d ∨ i % 8 = 7) l → kb 12 (tA C R mb b n l k ++ tB s (plX C mb k) (plY C mb k) (vk X k) dy ++ [.int .i64 (i + 1 : Nat)]) [mac X Y] H') :
    f24_14 Q kb (tA C R mb b n last k ++ tB s (plX C mb k) (plY C mb k) (vk X k) dy ++ [.int .i64 (i : Nat)]) [mac X Y] H := by
  obtain ⟨b1, b2⟩ := modC hC.1 hm.1
  have hv := vk_rng hX k
  have hx : 0 ≤ plX C mb k ∧ plX C mb k ≤ 2000 := by unfold plX; split <;> omega
  have hy : 0 ≤ plY C mb k ∧ plY C mb k ≤ 2000 := by
    unfold plY; split <;> omega
  have e1 : (i : Int).tmod 8 = i % 8 := Int.tmod_eq_emod_of_nonneg (by omega)
  have e2 : (i : Int).tdiv 8 = i / 8 := Int.tdiv_eq_ediv_of_nonneg (by omega)
  simp only [tA, tB, List.cons_append, List.nil_append, f24_14, g24_14, inI_c, inSl_c, nilK_c, inX_c, nilX_c, e1, e2]
  rw [w64 (x := plX C mb k + (i : Int) % 8) (by omega) (by omega), w64 (x := 2 * (plX C mb k + (i : Int) % 8)) (by omega) (by omega), w64 (x := 2 * (plX C mb k + (i : Int) % 8) + vk X k) (by omega) (by omega),
    w64 (x := (i : Int) / 8) (by omega) (by omega), w64 (x := plY C mb k + (i : Int) / 8) (by omega) (by omega), w64 (x := 2 * (plY C mb k + (i : Int) / 8)) (by omega) (by omega), w64 (x := 2 * (plY C mb k + (i : Int) / 8) + dy) (by omega) (by omega)]
  refine s41 (by omega) ?_
  simp only [tupK_c, inI_c, nilK_c]
  refine s41 (by omega) ?_
  simp only [tupK_c, inI_c, nilK_c]
  have etx : 2 * (plX C mb k + (i : Int) % 8) + vk X k = tx C mb X k i := rfl
  rw [etx]
  have htx : -200 ≤ tx C mb X k i ∧ tx C mb X k i ≤ 5000 := by unfold tx; omega
  have hty : -200 ≤ 2 * (plY C mb k + (i : Int) / 8) + dy ∧ 2 * (plY C mb k + (i : Int) / 8) + dy ≤ 5000 := by omega
  generalize 2 * (plY C mb k + (i : Int) / 8) + dy = ty at hty ⊢
  refine lp (σ := Int × Int) (fun p => tA C R mb b n p.1 k ++ tB s (plX C mb k) (plY C mb k) (vk X k) dy ++ tC i (tx C mb X k i / 2) (tx C mb X k i % 2) (ty / 2) (ty % 2) ++ [.int .i64 p.2]) (fun _ => [mac X Y])
    (fun p H' => THeap H0 b n H' ∧ 0 ≤ p.2 ∧ p.2 ≤ ty % 2 + 1 ∧ TL C mb X k (d ∨ (i % 8 = 7 ∧ 1 ≤ p.2)) p.1) (fun p _ => (5 - p.2).toNat) (last, 0) rfl rfl ⟨hT, by simp, by simp; omega, hL.weak fun h => h.elim id fun h => by simp at h⟩ ?_
  rintro ⟨l, j⟩ H' kk ⟨hT', h0, h1, hL'⟩ hkk
  simp only at h0 h1 hL' hkk ⊢
  have e : f24_l17 Q (upK kb 17 kk) (tA C R mb b n l k ++ tB s (plX C mb k) (plY C mb k) (vk X k) dy ++ tC i (tx C mb X k i / 2) (tx C mb X k i % 2) (ty / 2) (ty % 2) ++ [.int .i64 j]) [mac X Y] H' =
    bif (decide (j ≤ ty % 2)) then f24_19 Q (upK kb 17 kk) (tA C R mb b n l k ++ tB s (plX C mb k) (plY C mb k) (vk X k) dy ++ tC i (tx C mb X k i / 2) (tx C mb X k i % 2) (ty / 2) (ty % 2) ++ [.int .i64 j]) [mac X Y] H' else f24_13 Q (upK kb 17 kk) (tA C R mb b n l k ++ tB s (plX C mb k) (plY C mb k) (vk X k) dy ++ [.int .i64 (i : Nat)]) [mac X Y] H' := by
    simp only [tA, tB, tC, List.cons_append, List.nil_append, f24_l17, g24_l17, inI_c, inSl_c, nilK_c, inX_c, nilX_c]
  rw [e]
  refine bdec (fun hle => ?_) (fun hle => ?_)
  · refine t19 (d := d ∨ (i % 8 = 7 ∧ 1 ≤ j)) hC hR hn hs hT' hi rfl rfl (by omega) (by omega) (by omega) hL' fun H'' l'' hT'' hL'' => ?_
    rw [upK_same]
    refine hkk (l'', j + 1) H'' ⟨hT'', by simp; omega, by simp; omega, hL''.weak ?_⟩ (by simp; omega)
    rintro (h | ⟨h, -⟩)
    · exact .inl (.inl h)
    · exact .inr h
  · simp only [tA, tB, List.cons_append, List.nil_append, f24_13, g24_13, inI_c, inSl_c, nilK_c, inX_c, nilX_c]
    rw [wn (by omega), upK_ne (by decide)]
    exact hk H' l hT' (hL'.weak fun h => h.elim .inl fun h => .inr ⟨h, by omega⟩)

/-- a block -/
theorem t9 {C R mb : Int} {X Y : Nat → Int} {H0 H : AHeap} {Q : Value → AHeap → Prop} {kb : KB} {b n : Nat} {k : Nat} {s : Int}
    (hC : 1 ≤ C ∧ C ≤ 100) (hm : 0 ≤ mb ∧ mb ≤ 100) (hR : 1 ≤ R ∧ R ≤ 100) (hn : (n : Int) = C * R) (hs : s = if k = 4 then 8 else 16) (hT : THeap H0 b n H) (hk5 : k < 5) (hX : B64 X) (hY : B64 Y)
    (hk : ∀ H', THeap H0 b n H' → kb 4 (tA C R mb b n (reachN C mb X (k + 1)) (k + 1)) [mac X Y] H') :
    f24_9 Q kb (tA C R mb b n (reachN C mb X k) k ++ [.int .i64 s]) [mac X Y] H := by
  simp only [tA, List.cons_append, List.nil_append, f24_9, g24_9, inI_c, inSl_c, nilK_c, inX_c, nilX_c]
  refine s39 hC (by omega) hk5 ?_
  simp only [tupK_c, inI_c, nilK_c, rA_all (mac_len X Y)]
  refine s40 hX hY hk5 ?_
  simp only [tupK_c, inI_c, nilK_c]
  have hr := reachN_rng (mb := mb) (X := X) hC (k + 1)
  refine lp (σ := Int × Nat) (fun p => tA C R mb b n p.1 k ++ tB s (plX C mb k) (plY C mb k) (vk X k) (vk Y k) ++ [.int .i64 (p.2 : Nat)]) (fun _ => [mac X Y])
    (fun p H' => THeap H0 b n H' ∧ p.2 ≤ 64 ∧ TL C mb X k (8 ≤ p.2) p.1) (fun p _ => 64 - p.2) (reachN C mb X k, 0) rfl rfl ⟨hT, by simp, ?_⟩ ?_
  · refine ⟨by simp, by simp only [reachN]; omega, fun h => by simp at h⟩
  rintro ⟨l, i⟩ H' kk ⟨hT', h1, hL'⟩ hkk
  simp only at h1 hL' hkk ⊢
  have e : f24_l12 Q (upK kb 12 kk) (tA C R mb b n l k ++ tB s (plX C mb k) (plY C mb k) (vk X k) (vk Y k) ++ [.int .i64 (i : Nat)]) [mac X Y] H' =
    bif (decide ((i : Int) < 64)) then f24_14 Q (upK kb 12 kk) (tA C R mb b n l k ++ tB s (plX C mb k) (plY C mb k) (vk X k) (vk Y k) ++ [.int .i64 (i : Nat)]) [mac X Y] H' else f24_5 Q (upK kb 12 kk) (tA C R mb b n l k) [mac X Y] H' := by
    simp only [tA, tB, List.cons_append, List.nil_append, f24_l12, g24_l12, inI_c, inSl_c, nilK_c, inX_c, nilX_c]
  rw [e]
  refine bdec (fun hle => ?_) (fun hle => ?_)
  · refine t14 (d := 8 ≤ i) hC hm hR hn hs hT' (by omega) hX (vk_rng hY k) hL' fun H'' l'' hT'' hL'' => ?_
    rw [upK_same]
    refine hkk (l'', i + 1) H'' ⟨hT'', by simp; omega, hL''.weak ?_⟩ (by simp; omega)
    simp only
    intro h
    by_cases h8 : 8 ≤ i
    · exact .inl h8
    · exact .inr (by omega)
  · have hl : l = reachN C mb X (k + 1) := by
      have a1 := hL'.lo
      have a2 := hL'.hi
      have a3 := hL'.dn (by omega)
      simp only [reachN] at *
      omega
    subst hl
    simp only [tA, List.cons_append, List.nil_append, f24_5, g24_5, inI_c, inSl_c, nilK_c, inX_c, nilX_c]
    rw [wn (by omega), upK_ne (by decide)]
    exact hk H' hT'

theorem s24 {C R mb : Int} {X Y : Nat → Int} {H : AHeap} {Q : Value → AHeap → Prop} (hC : 1 ≤ C ∧ C ≤ 100) (hm : 0 ≤ mb ∧ mb ≤ 100) (hR : 1 ≤ R ∧ R ≤ 100) (hX : B64 X) (hY : B64 Y)
    (hQ : ∀ H' b n, Hx H H' → Q (.tuple ⟨[.slice (some ⟨b, 0, none⟩) n 1, .int .i64 (reachN C mb X 5)]⟩) H') : call Try.prog 24 [.int .i64 C, .int .i64 R, .int .i64 mb, .agg ⟨mac X Y⟩] H Q := by
  have a6 : C * R ≤ 100 * 100 := Int.mul_le_mul hC.2 hR.2 (by omega) (by omega)
  have a7 : 0 ≤ C * R := Int.mul_nonneg (by omega) (by omega)
  refine c24 ?_
  simp only [f24, g24, inI_c, inA_c, nilK_c, gd_simp, mac_len, true_and]
  rw [w64 (x := C * R) (by omega) (by omega)]
  refine ⟨⟨by omega, by omega⟩, fun b hb => ?_⟩
  have hT : THeap H b (C * R).toNat (H.put b (.cells (mkL [.bool false] (C * R).toNat) 4 true)) := ⟨(Hx.refl H).put hb _, hb, mkL [.bool false] (C * R).toNat, 4, by simp, by rw [mkL_len1]⟩
  refine lp (σ := Nat) (fun k => tA C R mb b (C * R).toNat (reachN C mb X k) k) (fun _ => [mac X Y]) (fun k H' => THeap H b (C * R).toNat H' ∧ k ≤ 5) (fun k _ => 5 - k) 0 rfl rfl ⟨hT, by omega⟩ ?_
  rintro k H' kk ⟨hT', h1⟩ hkk
  have e : f24_l4 Q (upK kb0 4 kk) (tA C R mb b (C * R).toNat (reachN C mb X k) k) [mac X Y] H' =
    bif (decide ((k : Int) < 5)) then f24_6 Q (upK kb0 4 kk) (tA C R mb b (C * R).toNat (reachN C mb X k) k) [mac X Y] H' else f24_28 Q (upK kb0 4 kk) [.slice (some ⟨b, 0, none⟩) (C * R).toNat 1, .int .i64 (reachN C mb X k)] [] H' := by
    simp only [tA, List.cons_append, List.nil_append, f24_l4, g24_l4, inI_c, inSl_c, nilK_c, inX_c, nilX_c]
  rw [e]
  refine bdec (fun hle => ?_) (fun hle => ?_)
  · have hk' : ∀ H'', THeap H b (C * R).toNat H'' → upK kb0 4 kk 4 (tA C R mb b (C * R).toNat (reachN C mb X (k + 1)) (k + 1)) [mac X Y] H'' := by
      intro H'' hT''
      rw [upK_same]
      exact hkk (k + 1) H'' ⟨hT'', by omega⟩ (by omega)
    have e6 : f24_6 Q (upK kb0 4 kk) (tA C R mb b (C * R).toNat (reachN C mb X k) k) [mac X Y] H' =
      bif ((k : Int) == 4) then f24_9 Q (upK kb0 4 kk) (tA C R mb b (C * R).toNat (reachN C mb X k) k ++ [.int .i64 8]) [mac X Y] H' else f24_9 Q (upK kb0 4 kk) (tA C R mb b (C * R).toNat (reachN C mb X k) k ++ [.int .i64 16]) [mac X Y] H' := by
      simp only [tA, List.cons_append, List.nil_append, f24_6, g24_6, inI_c, inSl_c, nilK_c, inX_c, nilX_c]
    rw [e6]
    refine bbeq (fun h4 => ?_) (fun h4 => ?_)
    · exact t9 hC hm hR (by omega) (by rw [if_pos (by omega)]) hT' (by omega) hX hY hk'
    · exact t9 hC hm hR (by omega) (by rw [if_neg (by omega)]) hT' (by omega) hX hY hk'
  · have : k = 5 := by omega
    subst this
    simp only [f24_28, g24_28, inI_c, inSl_c, nilK_c, nilX_c]
    exact hQ H' b _ hT'.ext
end Go.Am
