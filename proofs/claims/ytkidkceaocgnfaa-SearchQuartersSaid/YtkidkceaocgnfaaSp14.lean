/- A part of the proof: Sp14. -/
import Derived.Test.YtkidkceaocgnfaaSp13
/- Sp14: Noise, Fill, Sized. -/
set_option linter.all false
set_option maxRecDepth 100000
namespace Go.Am
open Go.Proofs
theorem FW.wi {H0 H H' : AHeap} {C R : Int} {b1 b2 b3 : Nat} {F : Nat → Option Nat} (h : FW H0 H C R b1 b2 b3 F) (hB : BW H0 H' F) : FW H0 H' C R b1 b2 b3 F := ⟨hB, h.y, h.u, h.v⟩
def pl3 (C R : Int) (b1 b2 b3 : Nat) : List Value := pv (16 * C) (16 * R) b1 (16 * C * (16 * R)).toNat ++ (pv (8 * C) (8 * R) b2 (8 * C * (8 * R)).toNat ++ (pv (8 * C) (8 * R) b3 (8 * C * (8 * R)).toNat ++ []))
theorem pl3_len (C R : Int) (b1 b2 b3 : Nat) : (pl3 C R b1 b2 b3).length = 9 := rfl
theorem s18 {H0 H : AHeap} {F : Nat → Option Nat} {C R a m : Int} {b1 b2 b3 : Nat} {Q : Value → AHeap → Prop} (hF : FW H0 H C R b1 b2 b3 F) (hC : 1 ≤ C ∧ C ≤ 8) (hR : 1 ≤ R ∧ R ≤ 8) (hm : 0 ≤ m ∧ m ≤ 255)
    (hQ : ∀ H', FW H0 H' C R b1 b2 b3 F → Q (.tuple ⟨[]⟩) H') : call Try.prog 18 [.agg ⟨fv C R b1 b2 b3⟩, .int .u32 a, .int .i64 m] H Q := by
  have em : min (max m 0) 255 = m := by omega
  have a6 : C * R ≤ 8 * 8 := Int.mul_le_mul hC.2 hR.2 (by omega) (by omega)
  have a7 : 0 ≤ C * R := Int.mul_nonneg (by omega) (by omega)
  have m1 : 16 * C * (16 * R) = 256 * (C * R) := by rw [Int.mul_assoc, Int.mul_left_comm C, ← Int.mul_assoc]; rfl
  have m2 : 8 * C * (8 * R) = 64 * (C * R) := by rw [Int.mul_assoc, Int.mul_left_comm C, ← Int.mul_assoc]; rfl
  have hpl : ∀ k, k < 3 → ∃ W Hh b n, F b = some n ∧ (((pl3 C R b1 b2 b3).drop (k * 3)).take 3) = [.int .i64 W, .int .i64 Hh, .slice (some ⟨b, 0, none⟩) n 1] ∧ n ≤ 100000 := by
    intro k hk
    have : k = 0 ∨ k = 1 ∨ k = 2 := by omega
    rcases this with rfl | rfl | rfl
    · exact ⟨_, _, b1, _, hF.y, rfl, by omega⟩
    · exact ⟨_, _, b2, _, hF.u, rfl, by omega⟩
    · exact ⟨_, _, b3, _, hF.v, rfl, by omega⟩
  refine c18 ?_
  simp only [f18, g18, inA_c, inI_c, nilK_c, gd_simp, fv_len, true_and, mxI_c, mnI_c, em, rA_all (fv_len _ _ _ _ _)]
  refine s35 ?_
  show asA 9 (.agg ⟨pl3 C R b1 b2 b3⟩) _
  simp only [asA_c, pl3_len, true_and]
  refine lp (σ := Nat × Int) (fun p => [.int .u32 p.2, .int .i64 m, .agg ⟨pl3 C R b1 b2 b3⟩, .int .i64 (p.1 : Nat)]) (fun _ => []) (fun p H' => BW H0 H' F ∧ p.1 ≤ 3) (fun p _ => 3 - p.1) (0, a) rfl rfl ⟨hF.bw, by simp⟩ ?_
  rintro ⟨k, s⟩ H' kk ⟨hB', hk⟩ hkk
  simp only at hk hkk ⊢
  simp only [f18_l3, g18_l3, inI_c, inA_c, pl3_len, true_and, nilK_c, nilX_c]
  refine bdec (fun hlt => ?_) (fun _ => hQ H' (hF.wi hB'))
  have hk3 : k < 3 := by omega
  obtain ⟨W, Hh, b, n, hb, hp, hn⟩ := hpl k hk3
  have e3 : (k : Int).toNat * 3 = k * 3 := by simp
  simp only [f18_4, g18_4, inI_c, inA_c, pl3_len, true_and, nilK_c, nilX_c, aidx_c, e3, rA, hp, gd_simp]
  refine ⟨by omega, by omega, ⟨rfl, by decide⟩, ?_⟩
  rw [stC_all (by rfl)]
  simp only [rSl_n, rSl_z, asSl_c]
  refine lp (σ := Nat × Int) (fun p => [.int .u32 p.2, .int .i64 m, .agg ⟨pl3 C R b1 b2 b3⟩, .int .i64 (k : Nat), .slice (some ⟨b, 0, none⟩) n 1, .int .i64 (n : Nat), .int .i64 (p.1 : Nat)]) (fun _ => [[.int .i64 W, .int .i64 Hh, .slice (some ⟨b, 0, none⟩) n 1]]) (fun p H' => BW H0 H' F ∧ p.1 ≤ n) (fun p _ => n - p.1) (0, s) rfl rfl ⟨hB', by simp⟩ ?_
  rintro ⟨i, s'⟩ H'' kj ⟨hB'', hi⟩ hkj
  simp only at hi hkj ⊢
  simp only [f18_l6, g18_l6, inI_c, inA_c, pl3_len, true_and, inSl_c, nilK_c, inX_c, nilX_c]
  refine bdec (fun hlt' => ?_) (fun hlt' => ?_)
  · obtain ⟨xs, e, g1, g2, g3⟩ := hB''.has b n hb
    have e4 : 0 + (i : Int).toNat * 1 = i := by simp
    simp only [f18_7, g18_7, inI_c, inA_c, pl3_len, true_and, inSl_c, nilK_c, inX_c, nilX_c, hp_c, aidx_c, rdH_s g1, e4, rI_s (u8s_get (show i < xs.length by omega)), rSl_n, rSl_z, asSl_c, nz, wrH_s g1, gd_simp, u8s_len]
    rw [w64 (x := 2 * m) (by omega) (by omega), w64 (x := 2 * m + 1) (by omega) (by omega)]
    refine ⟨by omega, by omega, by omega, by omega, ?_⟩
    have h3 := hB''.set hb g1 i (wu8 (mxI (mnI (IntKind.wrap .i64 (IntKind.wrap .i64 (IntKind.wrap .i64 (xs.getD i 0) + (IntKind.wrap .i64 (shrI .u32 (IntKind.wrap .u32 (IntKind.wrap .u32 (s' * 1664525) + 1013904223)) 16)).tmod (2 * m + 1)) - m)) 255) 0))
    simp only [mxI_c, mnI_c] at h3 ⊢
    generalize H''.put b (.cells ((u8s xs).set i _) e true) = H3 at h3 ⊢
    simp only [f18_10, g18_10, inI_c, inA_c, pl3_len, true_and, inSl_c, nilK_c, inX_c, nilX_c]
    rw [wn (by omega), upK_same]
    exact hkj (i + 1, _) H3 ⟨h3, by simp; omega⟩ (by simp; omega)
  · simp only [f18_11, g18_11, inI_c, inA_c, pl3_len, true_and, nilK_c, nilX_c]
    rw [wn (by omega), upK_ne (by decide), upK_same]
    exact hkk (k + 1, s') H'' ⟨hB'', by simp; omega⟩ (by simp; omega)

theorem s19 {H0 H : AHeap} {F : Nat → Option Nat} {C R x y w h l1 l2 l3 : Int} {b1 b2 b3 : Nat} {Q : Value → AHeap → Prop} (hF : FW H0 H C R b1 b2 b3 F) (hC : 1 ≤ C ∧ C ≤ 8) (hR : 1 ≤ R ∧ R ≤ 8) (hx : 0 ≤ x ∧ x ≤ 1000) (hy : 0 ≤ y ∧ y ≤ 1000) (hw : 0 ≤ w ∧ w ≤ 1000) (hh : 0 ≤ h ∧ h ≤ 1000)
    (hl1 : 0 ≤ l1 ∧ l1 ≤ 255) (hl2 : 0 ≤ l2 ∧ l2 ≤ 255) (hl3 : 0 ≤ l3 ∧ l3 ≤ 255)
    (hQ : ∀ H', FW H0 H' C R b1 b2 b3 F → Q (.tuple ⟨[]⟩) H') : call Try.prog 19 [.agg ⟨fv C R b1 b2 b3⟩, .int .i64 x, .int .i64 y, .int .i64 w, .int .i64 h, .int .u8 l1, .int .u8 l2, .int .u8 l3] H Q := by
  have ex : rI .i64 (fv C R b1 b2 b3) 3 = fun K => K (16 * R) := by funext K; exact rI_s rfl
  have ex2 : rI .i64 (fv C R b1 b2 b3) 2 = fun K => K (16 * C) := by funext K; exact rI_s rfl
  have ep : rA 3 (fv C R b1 b2 b3) 2 = fun K => K (pv (16 * C) (16 * R) b1 (16 * C * (16 * R)).toNat) := by funext K; simp [rA, fv_len]; rfl
  have ep2 : rA 3 (fv C R b1 b2 b3) 5 = fun K => K (pv (8 * C) (8 * R) b2 (8 * C * (8 * R)).toNat) := by funext K; simp [rA, fv_len]; rfl
  have ep3 : rA 3 (fv C R b1 b2 b3) 8 = fun K => K (pv (8 * C) (8 * R) b3 (8 * C * (8 * R)).toNat) := by funext K; simp [rA, fv_len]; rfl
  have mx : max x 0 = x := by omega
  have my : max y 0 = y := by omega
  refine c19 ?_
  simp only [f19, g19, inA_c, inI_c, nilK_c, gd_simp, fv_len, true_and, mxI_c, my]
  refine lp (σ := Nat) (fun j => [.int .i64 x, .int .i64 y, .int .i64 w, .int .i64 h, .int .u8 l1, .int .u8 l2, .int .u8 l3, .int .i64 (y + (j : Nat))]) (fun _ => [fv C R b1 b2 b3]) (fun j H' => FW H0 H' C R b1 b2 b3 F ∧ j ≤ 1000) (fun j _ => 1001 - j) 0 (by simp) rfl ⟨hF, by omega⟩ ?_
  rintro j H' kk ⟨hF', hj⟩ hkk
  simp only [f19_l2, g19_l2, inI_c, nilK_c, inX_c, nilX_c, ex, mnI_c]
  rw [w64 (x := y + h) (by omega) (by omega)]
  refine bdec (fun hlt => ?_) (fun _ => hQ H' hF')
  simp only [f19_4, g19_4, inI_c, nilK_c, inX_c, nilX_c, mxI_c, mx]
  refine lp (σ := Nat) (fun i => [.int .i64 x, .int .i64 y, .int .i64 w, .int .i64 h, .int .u8 l1, .int .u8 l2, .int .u8 l3, .int .i64 (y + (j : Nat)), .int .i64 (x + (i : Nat))]) (fun _ => [fv C R b1 b2 b3]) (fun i H' => FW H0 H' C R b1 b2 b3 F ∧ i ≤ 1000) (fun i _ => 1001 - i) 0 (by simp) rfl ⟨hF', by omega⟩ ?_
  rintro i H'' kj ⟨hF'', hi⟩ hkj
  simp only [f19_l5, g19_l5, inI_c, nilK_c, inX_c, nilX_c, ex2, mnI_c]
  rw [w64 (x := x + w) (by omega) (by omega)]
  refine bdec (fun hlt' => ?_) (fun hlt' => ?_)
  · simp only [f19_7, g19_7, inI_c, nilK_c, inX_c, nilX_c, ep]
    refine s34 hF''.bw (by omega) (by omega) hF''.y hl1 fun H3 h3 => ?_
    simp only [tupK_c, nilK_c, ep2]
    refine s34 h3 (by omega) (by omega) hF''.u hl2 fun H4 h4 => ?_
    simp only [tupK_c, nilK_c, ep3]
    refine s34 h4 (by omega) (by omega) hF''.v hl3 fun H5 h5 => ?_
    have e1 : IntKind.wrap .i64 (x + (i : Int) + 1) = x + ((i + 1 : Nat) : Int) := by rw [w64 (by omega) (by omega)]; omega
    simp only [tupK_c, nilK_c, f19_6, g19_6, inI_c, inX_c, nilX_c, e1, upK_same]
    exact hkj (i + 1) H5 ⟨hF''.wi h5, by omega⟩ (by omega)
  · have e1 : IntKind.wrap .i64 (y + (j : Int) + 1) = y + ((j + 1 : Nat) : Int) := by rw [w64 (by omega) (by omega)]; omega
    simp only [f19_3, g19_3, inI_c, nilK_c, inX_c, nilX_c, e1]
    rw [upK_ne (by decide), upK_same]
    exact hkk (j + 1) H'' ⟨hF'', by omega⟩ (by omega)

/-- a picture by small numbers -/
structure SmOK (H : AHeap) (s : List Value) (c0 c1 : Int) (n : Nat) : Prop where
  ex : ∃ c2 c3 c4 c5 c6 a z, s = [.int .u8 c0, .int .u8 c1, .int .u8 c2, .int .u8 c3, .int .u8 c4, .int .u8 c5, .int .u32 c6, .slice a n z] ∧ (0 ≤ c2 ∧ c2 ≤ 255) ∧ (0 ≤ c3 ∧ c3 ≤ 255) ∧ (0 ≤ c4 ∧ c4 ≤ 255) ∧ (0 ≤ c5 ∧ c5 ≤ 255) ∧
    (n ≠ 0 → ∃ b o xs e own, a = some ⟨b, o, none⟩ ∧ H.get b = some (.cells xs e own) ∧ ∀ i, i < n → ∃ v, xs[o + i]? = some (.int .u8 v) ∧ 0 ≤ v ∧ v ≤ 255)
  c0 : 0 ≤ c0 ∧ c0 ≤ 255
  c1 : 0 ≤ c1 ∧ c1 ≤ 255
theorem SmOK.ext' {H H' : AHeap} {s : List Value} {c0 c1 : Int} {n : Nat} (h : SmOK H s c0 c1 n) (hx : Hx H H') : SmOK H' s c0 c1 n := by
  obtain ⟨⟨c2, c3, c4, c5, c6, a, z, h1, h2, h3, h4, h5, h6⟩, h7, h8⟩ := h
  refine ⟨⟨c2, c3, c4, c5, c6, a, z, h1, h2, h3, h4, h5, fun hn => ?_⟩, h7, h8⟩
  obtain ⟨b, o, xs, e, own, k1, k2, k3⟩ := h6 hn
  exact ⟨b, o, xs, e, own, k1, hx _ _ k2, k3⟩
theorem SmOK.len {H : AHeap} {s : List Value} {c0 c1 : Int} {n : Nat} (h : SmOK H s c0 c1 n) : s.length = 8 := by
  obtain ⟨⟨c2, c3, c4, c5, c6, a, z, h1, _⟩, _⟩ := h
  rw [h1]; rfl

def zf : List Value := [.int .i64 0, .int .i64 0, .int .i64 0, .int .i64 0, .slice none 0 0, .int .i64 0, .int .i64 0, .slice none 0 0, .int .i64 0, .int .i64 0, .slice none 0 0]
theorem n7_19 {H0 H : AHeap} {F : Nat → Option Nat} {C R : Int} {b1 b2 b3 : Nat} {Q : Value → AHeap → Prop} {kb : KB} (hF : FW H0 H C R b1 b2 b3 F) (hQ : ∀ H' b1 b2 b3 F', FW H0 H' C R b1 b2 b3 F' → Q (.agg ⟨fv C R b1 b2 b3⟩) H') :
    f7_19 Q kb [] [zf, fv C R b1 b2 b3] H := by
  simp only [f7_19, g7_19, nilK_c, inX_c, nilX_c, rA_all (fv_len _ _ _ _ _), gd_simp, fv_len]
  refine ⟨⟨trivial, by decide⟩, ?_⟩
  rw [stC_all (by rw [fv_len]; rfl), rA_all (fv_len _ _ _ _ _)]
  exact hQ _ _ _ _ _ hF
theorem s7 {H0 : AHeap} {C R c0 c1 : Int} {n : Nat} {s : List Value} {Q : Value → AHeap → Prop} (hs : SmOK H0 s c0 c1 n) (hn : n ≤ 2000) (hC : 1 ≤ C ∧ C ≤ 8) (hR : 1 ≤ R ∧ R ≤ 8)
    (hQ : ∀ H' b1 b2 b3 F', FW H0 H' C R b1 b2 b3 F' → Q (.agg ⟨fv C R b1 b2 b3⟩) H') : call Try.prog 7 [.agg ⟨s⟩, .int .i64 C, .int .i64 R] H0 Q := by
  obtain ⟨⟨c2, c3, c4, c5, c6, a, z, rfl, h2, h3, h4, h5, h6⟩, -, -⟩ := hs
  have w2 : IntKind.wrap .i64 c3 = c3 := w64 (by omega) (by omega)
  have w3 : IntKind.wrap .i64 c4 = c4 := w64 (by omega) (by omega)
  have w4 : IntKind.wrap .i64 c5 = c5 := w64 (by omega) (by omega)
  have a6 : C * R ≤ 8 * 8 := Int.mul_le_mul hC.2 hR.2 (by omega) (by omega)
  have a7 : 0 < C * R := Int.mul_pos (by omega) (by omega)
  have m1 : 16 * C * (16 * R) = 256 * (C * R) := by rw [Int.mul_assoc, Int.mul_left_comm C, ← Int.mul_assoc]; rfl
  have m2 : 8 * C * (8 * R) = 64 * (C * R) := by rw [Int.mul_assoc, Int.mul_left_comm C, ← Int.mul_assoc]; rfl
  refine c7 ?_
  simp only [f7, g7, inA_c, inI_c, nilK_c, gd_simp, rI_n, rI_z, asI_c]
  refine ⟨rfl, rfl, s15 (BW.refl H0) hC hR h3 fun H1 b1 b2 b3 F hF => ?_⟩
  simp only [asA_c, fv_len, true_and, gd_simp]
  refine ⟨by decide, ?_⟩
  have ez : stC [.int .i64 0, .int .i64 0, .int .i64 0, .int .i64 0, .slice none 0 0, .int .i64 0, .int .i64 0, .slice none 0 0, .int .i64 0, .int .i64 0, .slice none 0 0] 0 (fv C R b1 b2 b3) = fv C R b1 b2 b3 := stC_all rfl
  simp only [ez, rA_all (fv_len _ _ _ _ _)]
  refine bbeq (fun _ => ?_) (fun _ => bbeq (fun _ => ?_) (fun _ => bbeq (fun _ => ?_) (fun _ => bbeq (fun _ => ?_) (fun _ => ?_))))
  · refine s17 hF hC hR fun H2 h2 => ?_
    simp only [tupK_c, nilK_c]
    exact n7_19 h2 hQ
  · refine s17 hF hC hR fun H2 h2 => ?_
    have m : 0 ≤ c5.tmod 30 ∧ c5.tmod 30 ≤ 29 := by rw [Int.tmod_eq_emod_of_nonneg (by omega)]; omega
    simp only [tupK_c, nilK_c]
    rw [w64 (x := c5.tmod 30) (by omega) (by omega)]
    refine s18 h2 hC hR (by omega) fun H3 h3 => ?_
    simp only [tupK_c, nilK_c]
    exact n7_19 h3 hQ
  · have q1 : 0 ≤ c4.tmod 40 ∧ c4.tmod 40 ≤ 39 := by rw [Int.tmod_eq_emod_of_nonneg (by omega)]; omega
    have q2 : 0 ≤ c5.tmod 40 ∧ c5.tmod 40 ≤ 39 := by rw [Int.tmod_eq_emod_of_nonneg (by omega)]; omega
    rw [w64 (x := c4.tmod 40) (by omega) (by omega), w64 (x := c5.tmod 40) (by omega) (by omega)]
    refine s19 hF hC hR (by omega) (by omega) (by decide) (by decide) (wu8 _) h4 h5 fun H3 h3 => ?_
    simp only [tupK_c, nilK_c]
    exact n7_19 h3 hQ
  · simp only [rSl_n, rSl_z, asSl_c]
    refine lp (σ := Nat) (fun i => [.slice a n z, .int .i64 (n : Nat), .int .i64 (i : Nat)]) (fun _ => [zf, fv C R b1 b2 b3]) (fun i H' => FW H0 H' C R b1 b2 b3 F ∧ i ≤ n) (fun i _ => n - i) 0 rfl rfl ⟨hF, by omega⟩ ?_
    rintro i H' kk ⟨hF', hi⟩ hkk
    simp only [f7_l12, g7_l12, inSl_c, inI_c, nilK_c, inX_c, nilX_c]
    refine bdec (fun hlt => ?_) (fun _ => n7_19 hF' hQ)
    have h18 : ∀ H'', FW H0 H'' C R b1 b2 b3 F → f7_18 Q (upK kb0 12 kk) [.slice a n z, .int .i64 (n : Nat), .int .i64 (i : Nat)] [zf, fv C R b1 b2 b3] H'' := by
      intro H'' hF''
      simp only [f7_18, g7_18, inSl_c, inI_c, nilK_c, inX_c, nilX_c]
      rw [wn (by omega), upK_same]
      exact hkk (i + 1) H'' ⟨hF'', by omega⟩ (by omega)
    obtain ⟨b, o, xs, e, own, rfl, g1, g2⟩ := h6 (by omega)
    obtain ⟨v, v1, v2⟩ := g2 i (by omega)
    have g1' := hF'.bw.ext _ _ g1
    have e3 : (i : Int).toNat * 1 = i := by simp
    have r4 : ∀ K, rSl (fv C R b1 b2 b3) 4 K = K (some ⟨b1, 0, none⟩) (16 * C * (16 * R)).toNat 1 := fun K => rSl_s rfl
    have r7 : ∀ K, rSl (fv C R b1 b2 b3) 7 K = K (some ⟨b2, 0, none⟩) (8 * C * (8 * R)).toNat 1 := fun K => rSl_s rfl
    have r10 : ∀ K, rSl (fv C R b1 b2 b3) 10 K = K (some ⟨b3, 0, none⟩) (8 * C * (8 * R)).toNat 1 := fun K => rSl_s rfl
    simp only [f7_13, g7_13, inSl_c, inI_c, nilK_c, inX_c, nilX_c, hp_c, aidx_c, e3, rdH_s g1', rI_s v1, r4, r7, r10]
    refine ⟨by omega, bdec (fun hl1 => bdec (fun hl2 => ?_) fun _ => h18 _ hF') fun _ => h18 _ hF'⟩
    obtain ⟨x1, e1, k1, k2, k3⟩ := hF'.bw.has _ _ hF'.y
    have hB1 := hF'.bw.set hF'.y k1 i v2
    have e4 : 0 + i = i := by omega
    simp only [wrH_s k1, gd_simp, nz, u8s_len, e4]
    refine ⟨by omega, by omega, by omega, ?_⟩
    generalize H'.put b1 (.cells ((u8s x1).set i (.int .u8 v)) e1 true) = H2 at hB1 ⊢
    have hmod : 0 ≤ (i : Int).tmod ((8 * C * (8 * R)).toNat : Nat) ∧ (i : Int).tmod ((8 * C * (8 * R)).toNat : Nat) < ((8 * C * (8 * R)).toNat : Nat) := by
      rw [Int.tmod_eq_emod_of_nonneg (by omega)]
      exact ⟨Int.emod_nonneg _ (by omega), Int.emod_lt_of_pos _ (by omega)⟩
    generalize (i : Int).tmod ((8 * C * (8 * R)).toNat : Nat) = j at hmod ⊢
    obtain ⟨x2, e2, k4, k5, k6⟩ := hB1.has _ _ hF'.u
    have hB2 := hB1.set hF'.u k4 (0 + j.toNat * 1) (wu8 (v.tdiv 2))
    simp only [wrH_s k4, gd_simp, u8s_len]
    refine ⟨by omega, by omega, by omega, ?_⟩
    generalize H2.put b2 (.cells ((u8s x2).set (0 + j.toNat * 1) (.int .u8 (IntKind.wrap .u8 (v.tdiv 2)))) e2 true) = H3 at hB2 ⊢
    obtain ⟨x3, e3, k7, k8, k9⟩ := hB2.has _ _ hF'.v
    have hB3 := hB2.set hF'.v k7 (0 + j.toNat * 1) (wu8 (255 - v))
    simp only [wrH_s k7, gd_simp, u8s_len]
    refine ⟨by omega, by omega, ?_⟩
    exact h18 _ (hF'.wi hB3)
  · exact n7_19 hF hQ

theorem s6 {H0 : AHeap} {c0 c1 : Int} {n : Nat} {s : List Value} {Q : Value → AHeap → Prop} (hs : SmOK H0 s c0 c1 n) (hn : n ≤ 2000)
    (hQ : ∀ H' b1 b2 b3 F', FW H0 H' (1 + c0 % 3) (1 + c1 % 3) b1 b2 b3 F' → Q (.agg ⟨fv (1 + c0 % 3) (1 + c1 % 3) b1 b2 b3⟩) H') : call Try.prog 6 [.agg ⟨s⟩] H0 Q := by
  have hl := hs.len
  have h0 := hs.c0
  have h1 := hs.c1
  have e0 : s[0]? = some (.int .u8 c0) := by obtain ⟨⟨c2, c3, c4, c5, c6, a, z, h1, _⟩, _⟩ := hs; rw [h1]; rfl
  have e1 : s[1]? = some (.int .u8 c1) := by obtain ⟨⟨c2, c3, c4, c5, c6, a, z, h1, _⟩, _⟩ := hs; rw [h1]; rfl
  have t0 : c0.tmod 3 = c0 % 3 := Int.tmod_eq_emod_of_nonneg (by omega)
  have t1 : c1.tmod 3 = c1 % 3 := Int.tmod_eq_emod_of_nonneg (by omega)
  refine c6 ?_
  simp only [f6, g6, inA_c, nilK_c, gd_simp, hl, true_and, rA_all hl, rI_s e0, rI_s e1, t0, t1]
  rw [w64 (x := c0 % 3) (by omega) (by omega), w64 (x := c1 % 3) (by omega) (by omega), w64 (x := 1 + c0 % 3) (by omega) (by omega), w64 (x := 1 + c1 % 3) (by omega) (by omega)]
  refine s7 hs hn (by omega) (by omega) fun H' b1 b2 b3 F' hF => ?_
  simp only [asA_c, fv_len, true_and, gd_simp]
  refine ⟨by decide, ?_⟩
  rw [stC_all (by rfl), rA_all (fv_len _ _ _ _ _)]
  exact hQ _ _ _ _ _ hF
theorem s5 {H0 : AHeap} {x0 x1 : Int} {n : Nat} {s : List Value} {Q : Value → AHeap → Prop} (hs : SmOK H0 s x0 x1 n) (hQ : Q (.bool (decide ((n : Int) ≤ 2000))) H0) : call Try.prog 5 [.agg ⟨s⟩] H0 Q := by
  obtain ⟨⟨_, _, _, _, _, a, z, rfl, -⟩, -, -⟩ := hs
  refine c5 ?_
  simp only [f5, g5, inA_c, nilK_c, gd_simp, rSl_n, rSl_z, asSl_c]
  exact ⟨rfl, rfl, hQ⟩
theorem s8 {x y : Int} {H : AHeap} {Q : Value → AHeap → Prop} (hx : -128 ≤ x ∧ x ≤ 127) (hy : -128 ≤ y ∧ y ≤ 127) (hQ : Q (.complex .f64 (fb (x.tmod 32)) (fb (y.tmod 32))) H) : call Try.prog 8 [.int .i8 x, .int .i8 y] H Q := by
  refine c8 ?_
  simp only [f8, g8, inI_c, nilK_c]
  rw [w64 (x := x) (by omega) (by omega), w64 (x := y) (by omega) (by omega)]
  refine s14 ?_
  simp only [asC_c]
  exact hQ
end Go.Am
