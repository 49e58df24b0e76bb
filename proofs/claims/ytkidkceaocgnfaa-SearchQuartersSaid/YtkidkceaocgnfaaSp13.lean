/- A part of the proof: Sp13. -/
import Derived.Test.YtkidkceaocgnfaaSp12
/- Sp13: pictures that are made. -/
set_option linter.all false
set_option maxRecDepth 100000
namespace Go.Am
open Go.Proofs
/-- blocks of bytes that are ours -/
structure BW (H0 H : AHeap) (F : Nat → Option Nat) : Prop where
  ext : Hx H0 H
  free : ∀ b n, F b = some n → H0.get b = none
  has : ∀ b n, F b = some n → ∃ xs e, H.get b = some (.cells (u8s xs) e true) ∧ (∀ x ∈ xs, 0 ≤ x ∧ x ≤ 255) ∧ xs.length = n
def updF (F : Nat → Option Nat) (b n : Nat) : Nat → Option Nat := fun i => if i = b then some n else F i
theorem u8s_set (xs : List Int) (i : Nat) (v : Int) : (u8s xs).set i (.int .u8 v) = u8s (xs.set i v) := by
  simp [u8s, List.map_set]
theorem u8s_len (xs : List Int) : (u8s xs).length = xs.length := by simp [u8s]
theorem mem_set {xs : List Int} {i : Nat} {v x : Int} (h : x ∈ xs.set i v) : x ∈ xs ∨ x = v := List.mem_or_eq_of_mem_set h
theorem BW.refl (H : AHeap) : BW H H fun _ => none := ⟨Hx.refl H, fun _ _ h => by simp at h, fun _ _ h => by simp at h⟩
theorem BW.set {H0 H : AHeap} {F : Nat → Option Nat} (h : BW H0 H F) {b n : Nat} (hF : F b = some n) {ys : List Value} {e : TypeId} (hg : H.get b = some (.cells ys e true)) (i : Nat) {v : Int} (hv : 0 ≤ v ∧ v ≤ 255) : BW H0 (H.put b (.cells (ys.set i (.int .u8 v)) e true)) F := by
  refine ⟨h.ext.put (h.free b n hF) _, h.free, fun b' n' hF' => ?_⟩
  obtain ⟨xs, e', h1, h2, h3⟩ := h.has b' n' hF'
  by_cases hb : b' = b
  · subst hb
    rw [hg] at h1
    cases h1
    refine ⟨xs.set i v, e, ?_, ?_, ?_⟩
    · rw [u8s_set]; simp
    · intro x hx
      rcases mem_set hx with hx | rfl
      · exact h2 x hx
      · exact hv
    · simpa using h3
  · refine ⟨xs, e', ?_, h2, h3⟩
    rw [put_get, if_neg hb]; exact h1
theorem BW.new {H0 H : AHeap} {F : Nat → Option Nat} (h : BW H0 H F) {b n : Nat} (hb : H.get b = none) {xs : List Int} {e : TypeId} (h2 : ∀ x ∈ xs, 0 ≤ x ∧ x ≤ 255) (h3 : xs.length = n) : BW H0 (H.put b (.cells (u8s xs) e true)) (updF F b n) := by
  refine ⟨h.ext.put (h.ext.non hb) _, fun b' n' hF' => ?_, fun b' n' hF' => ?_⟩
  · unfold updF at hF'
    split at hF'
    · rename_i hi; subst hi; exact h.ext.non hb
    · exact h.free b' n' hF'
  · unfold updF at hF'
    split at hF'
    · rename_i hi; subst hi
      cases hF'
      exact ⟨xs, e, by simp, h2, h3⟩
    · rename_i hi
      obtain ⟨xs', e', k1, k2, k3⟩ := h.has b' n' hF'
      exact ⟨xs', e', by rw [put_get, if_neg hi]; exact k1, k2, k3⟩
def pv (W Hh : Int) (b n : Nat) : List Value := [.int .i64 W, .int .i64 Hh, .slice (some ⟨b, 0, none⟩) n 1]
theorem pv_len (W Hh : Int) (b n : Nat) : (pv W Hh b n).length = 3 := rfl
theorem mkL_u8 (n : Nat) : mkL [.int .u8 0] n = u8s (List.replicate n 0) := by
  apply List.ext_getElem
  · simp [mkL, u8s]
  · intro i h1 h2
    simp [mkL, u8s, Nat.mod_one]

theorem s31 {H0 H : AHeap} {F : Nat → Option Nat} {w h v : Int} {Q : Value → AHeap → Prop} (hB : BW H0 H F) (hw : 0 ≤ w ∧ w ≤ 1024) (hh : 0 ≤ h ∧ h ≤ 1024) (hv : 0 ≤ v ∧ v ≤ 255)
    (hQ : ∀ H' b, F b = none → BW H0 H' (updF F b (w * h).toNat) → Q (.agg ⟨pv w h b (w * h).toNat⟩) H') : call Try.prog 31 [.int .i64 w, .int .i64 h, .int .u8 v] H Q := by
  have a6 : w * h ≤ 1024 * 1024 := Int.mul_le_mul hw.2 hh.2 (by omega) (by omega)
  have a7 : 0 ≤ w * h := Int.mul_nonneg (by omega) (by omega)
  have e1 : min (max w 0) 1024 = w := by omega
  have e2 : min (max h 0) 1024 = h := by omega
  refine c31 ?_
  simp only [f31, g31, inI_c, nilK_c, mxI_c, mnI_c, e1, e2]
  rw [w64 (x := w * h) (by omega) (by omega)]
  refine ⟨⟨by omega, by omega⟩, fun b hb => ?_⟩
  have hF : F b = none := by
    cases hf : F b with
    | none => rfl
    | some n =>
      obtain ⟨xs, e, h1, _⟩ := hB.has b n hf
      rw [hb] at h1; cases h1
  have hN : BW H0 (H.put b (.cells (mkL [.int .u8 0] (w * h).toNat) 5 true)) (updF F b (w * h).toNat) := by
    rw [mkL_u8]
    exact hB.new hb (fun x hx => by rw [List.eq_of_mem_replicate hx]; decide) (by simp)
  have hFb : updF F b (w * h).toNat b = some (w * h).toNat := by simp [updF]
  refine lp (σ := Nat) (fun i => [.int .u8 v, .int .i64 ((w * h).toNat : Nat), .int .i64 (i : Nat)]) (fun _ => [[.int .i64 0, .int .i64 0, .slice none 0 0], pv w h b (w * h).toNat])
    (fun i H' => BW H0 H' (updF F b (w * h).toNat) ∧ i ≤ (w * h).toNat) (fun i _ => (w * h).toNat - i) 0 rfl rfl ⟨hN, by omega⟩ ?_
  rintro i H' kk ⟨hB', hi⟩ hkk
  simp only [f31_l4, g31_l4, inI_c, nilK_c, inX_c, nilX_c]
  refine bdec (fun hlt => ?_) (fun hlt => ?_)
  · obtain ⟨xs, e, h1, h2, h3⟩ := hB'.has b _ hFb
    have e3 : 0 + (i : Int).toNat * 1 = i := by simp
    simp only [f31_5, g31_5, pv, inI_c, nilK_c, inX_c, nilX_c, rSl_n, rSl_z, asSl_c, hp_c, aidx_c, wrH_s h1, gd_simp, e3, u8s_len]
    refine ⟨by omega, by omega, ?_⟩
    have hB'' := hB'.set hFb h1 i hv
    generalize H'.put b (.cells ((u8s xs).set i (.int .u8 v)) e true) = H'' at hB'' ⊢
    simp only [f31_7, g31_7, inI_c, nilK_c, inX_c, nilX_c]
    rw [wn (by omega), upK_same]
    exact hkk (i + 1) H'' ⟨hB'', by omega⟩ (by omega)
  · simp only [f31_8, g31_8, nilK_c, inX_c, nilX_c, rA_all (pv_len _ _ _ _), gd_simp, pv_len]
    refine ⟨⟨trivial, by decide⟩, ?_⟩
    rw [stC_all (by rw [pv_len]; rfl), rA_all (pv_len _ _ _ _)]
    exact hQ H' b hF hB'

/-- a picture of ours -/
def fv (C R : Int) (b1 b2 b3 : Nat) : List Value := [.int .i64 C, .int .i64 R] ++ (pv (16 * C) (16 * R) b1 (16 * C * (16 * R)).toNat ++ (pv (8 * C) (8 * R) b2 (8 * C * (8 * R)).toNat ++ (pv (8 * C) (8 * R) b3 (8 * C * (8 * R)).toNat ++ [])))
theorem fv_len (C R : Int) (b1 b2 b3 : Nat) : (fv C R b1 b2 b3).length = 11 := rfl
structure FW (H0 H : AHeap) (C R : Int) (b1 b2 b3 : Nat) (F : Nat → Option Nat) : Prop where
  bw : BW H0 H F
  y : F b1 = some (16 * C * (16 * R)).toNat
  u : F b2 = some (8 * C * (8 * R)).toNat
  v : F b3 = some (8 * C * (8 * R)).toNat
theorem FW.ok {H0 H : AHeap} {C R : Int} {b1 b2 b3 : Nat} {F : Nat → Option Nat} (h : FW H0 H C R b1 b2 b3 F) (hC : 1 ≤ C ∧ C ≤ 8) (hR : 1 ≤ R ∧ R ≤ 8) : ∃ ys us vs, FrameOK H (fv C R b1 b2 b3) C R ys us vs := by
  obtain ⟨ys, e1, g1, r1, l1⟩ := h.bw.has _ _ h.y
  obtain ⟨us, e2, g2, r2, l2⟩ := h.bw.has _ _ h.u
  obtain ⟨vs, e3, g3, r3, l3⟩ := h.bw.has _ _ h.v
  have a1 : 0 ≤ 16 * C * (16 * R) := Int.mul_nonneg (by omega) (by omega)
  have a2 : 0 ≤ 8 * C * (8 * R) := Int.mul_nonneg (by omega) (by omega)
  refine ⟨ys, us, vs, rfl, rfl, rfl, ⟨⟨b1, ?_, ⟨e1, true, g1⟩, r1⟩, by omega, by omega, by omega⟩, ⟨⟨b2, ?_, ⟨e2, true, g2⟩, r2⟩, by omega, by omega, by omega⟩, ⟨⟨b3, ?_, ⟨e3, true, g3⟩, r3⟩, by omega, by omega, by omega⟩, hC, hR⟩
  · rw [l1]; rfl
  · rw [l2]; rfl
  · rw [l3]; rfl

theorem s15 {H0 H : AHeap} {F : Nat → Option Nat} {C R v : Int} {Q : Value → AHeap → Prop} (hB : BW H0 H F) (hC : 1 ≤ C ∧ C ≤ 8) (hR : 1 ≤ R ∧ R ≤ 8) (hv : 0 ≤ v ∧ v ≤ 255)
    (hQ : ∀ H' b1 b2 b3 F', FW H0 H' C R b1 b2 b3 F' → Q (.agg ⟨fv C R b1 b2 b3⟩) H') : call Try.prog 15 [.int .i64 C, .int .i64 R, .int .u8 v] H Q := by
  have e1 : min (max C 0) 8 = C := by omega
  have e2 : min (max R 0) 8 = R := by omega
  refine c15 ?_
  simp only [f15, g15, inI_c, nilK_c, mxI_c, mnI_c, e1, e2]
  rw [w64 (x := 16 * C) (by omega) (by omega), w64 (x := 16 * R) (by omega) (by omega), w64 (x := 8 * C) (by omega) (by omega), w64 (x := 8 * R) (by omega) (by omega)]
  refine s31 hB (by omega) (by omega) hv fun H1 b1 n1 B1 => ?_
  simp only [asA_c, pv_len, true_and]
  refine s31 B1 (by omega) (by omega) hv fun H2 b2 n2 B2 => ?_
  simp only [asA_c, pv_len, true_and]
  refine s31 B2 (by omega) (by omega) hv fun H3 b3 n3 B3 => ?_
  simp only [asA_c, pv_len, true_and, gd_simp]
  refine ⟨⟨rfl, by decide⟩, ?_⟩
  rw [stC_all (by rfl), rA_all (by rfl)]
  have m1 : b2 ≠ b1 := by rintro rfl; simp [updF] at n2
  have m2 : b3 ≠ b2 := by rintro rfl; simp [updF] at n3
  have m3 : b3 ≠ b1 := by
    rintro rfl
    simp only [updF] at n3
    split at n3
    · cases n3
    · simp at n3
  refine hQ H3 b1 b2 b3 _ ⟨B3, ?_, ?_, ?_⟩
  · simp [updF, m1.symm, m3.symm]
  · simp [updF, m2.symm]
  · simp [updF]

theorem s34 {H0 H : AHeap} {F : Nat → Option Nat} {W Hh x y v : Int} {b : Nat} {Q : Value → AHeap → Prop} (hB : BW H0 H F) (hW : 0 ≤ W ∧ W ≤ 1024) (hH : 0 ≤ Hh ∧ Hh ≤ 1024) (hF : F b = some (W * Hh).toNat) (hv : 0 ≤ v ∧ v ≤ 255)
    (hQ : ∀ H', BW H0 H' F → Q (.tuple ⟨[]⟩) H') : call Try.prog 34 [.agg ⟨pv W Hh b (W * Hh).toNat⟩, .int .i64 x, .int .i64 y, .int .u8 v] H Q := by
  refine c34 ?_
  simp only [f34, g34, pv, inA_c, inI_c, nilK_c, gd_simp, rI_n, rI_z, asI_c, rSl_n, rSl_z, asSl_c, hp_c]
  refine ⟨rfl, rfl, bdec (fun h1 => bdec (fun h2 => bdec (fun h3 => bdec (fun h4 => ?_) fun _ => hQ H hB) fun _ => hQ H hB) fun _ => hQ H hB) fun _ => hQ H hB⟩
  have a1 : 0 ≤ y * W := Int.mul_nonneg (by omega) (by omega)
  have a2 : y * W ≤ 1024 * 1024 := Int.mul_le_mul (by omega) hW.2 (by omega) (by omega)
  rw [w64 (x := y * W) (by omega) (by omega), w64 (x := y * W + x) (by omega) (by omega)]
  refine bdec (fun h5 => ?_) fun _ => hQ H hB
  obtain ⟨xs, e, g1, g2, g3⟩ := hB.has b _ hF
  simp only [aidx_c, wrH_s g1, gd_simp, u8s_len]
  refine ⟨by omega, by omega, hQ _ (hB.set hF g1 _ hv)⟩

theorem wu8 (x : Int) : 0 ≤ IntKind.wrap .u8 x ∧ IntKind.wrap .u8 x ≤ 255 := by rw [wrapu8]; omega
theorem s17 {H0 H : AHeap} {F : Nat → Option Nat} {C R a b c : Int} {b1 b2 b3 : Nat} {Q : Value → AHeap → Prop} (hF : FW H0 H C R b1 b2 b3 F) (hC : 1 ≤ C ∧ C ≤ 8) (hR : 1 ≤ R ∧ R ≤ 8)
    (hQ : ∀ H', FW H0 H' C R b1 b2 b3 F → Q (.tuple ⟨[]⟩) H') : call Try.prog 17 [.agg ⟨fv C R b1 b2 b3⟩, .int .i64 a, .int .i64 b, .int .i64 c] H Q := by
  have ex : rI .i64 (fv C R b1 b2 b3) 3 = fun K => K (16 * R) := by funext K; exact rI_s rfl
  have ex2 : rI .i64 (fv C R b1 b2 b3) 2 = fun K => K (16 * C) := by funext K; exact rI_s rfl
  refine c17 ?_
  simp only [f17, g17, inA_c, inI_c, nilK_c, gd_simp, fv_len, true_and, ex]
  refine lp (σ := Nat) (fun j => [.int .i64 a, .int .i64 b, .int .i64 c, .int .i64 (16 * R), .int .i64 (j : Nat)]) (fun _ => [fv C R b1 b2 b3]) (fun j H' => FW H0 H' C R b1 b2 b3 F ∧ (j : Int) ≤ 16 * R) (fun j _ => (16 * R - j).toNat) 0 rfl rfl ⟨hF, by omega⟩ ?_
  rintro j H' kk ⟨hF', hj⟩ hkk
  simp only [f17_l2, g17_l2, inI_c, nilK_c, inX_c, nilX_c]
  refine bdec (fun hlt => ?_) (fun _ => hQ H' hF')
  simp only [f17_3, g17_3, inI_c, nilK_c, inX_c, nilX_c, ex2]
  refine lp (σ := Nat) (fun i => [.int .i64 a, .int .i64 b, .int .i64 c, .int .i64 (j : Nat), .int .i64 (16 * R), .int .i64 (j : Nat), .int .i64 (16 * C), .int .i64 (i : Nat)]) (fun _ => [fv C R b1 b2 b3]) (fun i H' => FW H0 H' C R b1 b2 b3 F ∧ (i : Int) ≤ 16 * C) (fun i _ => (16 * C - i).toNat) 0 rfl rfl ⟨hF', by omega⟩ ?_
  rintro i H'' kj ⟨hF'', hi⟩ hkj
  simp only [f17_l5, g17_l5, inI_c, nilK_c, inX_c, nilX_c]
  refine bdec (fun hlt' => ?_) (fun hlt' => ?_)
  · simp only [f17_6, g17_6, inI_c, nilK_c, inX_c, nilX_c]
    have ep : rA 3 (fv C R b1 b2 b3) 2 = fun K => K (pv (16 * C) (16 * R) b1 (16 * C * (16 * R)).toNat) := by funext K; simp [rA, fv_len]; rfl
    rw [ep]
    refine s34 hF''.bw (by omega) (by omega) hF''.y (wu8 _) fun H3 h3 => ?_
    simp only [tupK_c, nilK_c, f17_8, g17_8, inI_c, inX_c, nilX_c]
    rw [wn (by omega), upK_same]
    exact hkj (i + 1) H3 ⟨⟨h3, hF''.y, hF''.u, hF''.v⟩, by omega⟩ (by omega)
  · simp only [f17_9, g17_9, inI_c, nilK_c, inX_c, nilX_c]
    rw [wn (by omega), upK_ne (by decide), upK_same]
    exact hkk (j + 1) H'' ⟨hF'', by omega⟩ (by omega)

theorem s35 {H : AHeap} {C R : Int} {b1 b2 b3 : Nat} {Q : Value → AHeap → Prop} (hQ : Q (.agg ⟨pv (16 * C) (16 * R) b1 (16 * C * (16 * R)).toNat ++ (pv (8 * C) (8 * R) b2 (8 * C * (8 * R)).toNat ++ (pv (8 * C) (8 * R) b3 (8 * C * (8 * R)).toNat ++ []))⟩) H) :
    call Try.prog 35 [.agg ⟨fv C R b1 b2 b3⟩] H Q := by
  have ep : rA 3 (fv C R b1 b2 b3) 2 = fun K => K (pv (16 * C) (16 * R) b1 (16 * C * (16 * R)).toNat) := by funext K; simp [rA, fv_len]; rfl
  have ep2 : rA 3 (fv C R b1 b2 b3) 5 = fun K => K (pv (8 * C) (8 * R) b2 (8 * C * (8 * R)).toNat) := by funext K; simp [rA, fv_len]; rfl
  have ep3 : rA 3 (fv C R b1 b2 b3) 8 = fun K => K (pv (8 * C) (8 * R) b3 (8 * C * (8 * R)).toNat) := by funext K; simp [rA, fv_len]; rfl
  refine c35 ?_
  simp only [f35, g35, inA_c, nilK_c, gd_simp, fv_len, true_and, ep, ep2, ep3, pv_len]
  refine ⟨⟨rfl, by decide⟩, ?_⟩
  rw [stC_all (by rfl), rA_all (by rfl)]
  exact hQ
end Go.Am
