/- A part of the proof: Sp9. -/
import Derived.Test.YtkidkceaocgnfaaSp8
/- Sp9: how far a macroblock reaches. -/
set_option linter.all false
set_option maxRecDepth 100000
namespace Go.Am
open Go.Proofs
/-- a heap that keeps what it had -/
def Hx (H H' : AHeap) : Prop := ∀ i o, H.get i = some o → H'.get i = some o
theorem Hx.refl (H : AHeap) : Hx H H := fun _ _ h => h
theorem Hx.trans {A B C : AHeap} (h : Hx A B) (k : Hx B C) : Hx A C := fun i o e => k i o (h i o e)
theorem Hx.put {H H' : AHeap} (h : Hx H H') {b : Nat} (hb : H.get b = none) (o : AObj) : Hx H (H'.put b o) := fun i o' e => by
  rw [put_get]
  split
  · rename_i hi; subst hi; rw [hb] at e; cases e
  · exact h i o' e
theorem Pix.ext {H H' : AHeap} (h : Hx H H') {b : Nat} {xs : List Int} (p : Pix H b xs) : Pix H' b xs := by
  obtain ⟨⟨e, own, hg⟩, hr⟩ := p
  exact ⟨⟨e, own, h _ _ hg⟩, hr⟩
theorem Plane.ext {H H' : AHeap} (h : Hx H H') {p : List Value} {W Hh : Int} {xs : List Int} (k : Plane H p W Hh xs) : Plane H' p W Hh xs := by
  obtain ⟨⟨b, hp, hx⟩, hw, hh, hl⟩ := k
  exact ⟨⟨b, hp, hx.ext h⟩, hw, hh, hl⟩
theorem FrameOK.ext {H H' : AHeap} (h : Hx H H') {f : List Value} {C R : Int} {ys us vs : List Int} (k : FrameOK H f C R ys us vs) : FrameOK H' f C R ys us vs :=
  ⟨k.len, k.c, k.r, k.y.ext h, k.u.ext h, k.v.ext h, k.hc, k.hr⟩

theorem s48 {X Y : Nat → Int} {H : AHeap} {Q : Value → AHeap → Prop} (hX : B64 X) (hY : B64 Y) (hQ : Q (.tuple ⟨[.int .i64 (colX X), .int .i64 (colX Y)]⟩) H) : call Try.prog 48 [.agg ⟨mac X Y⟩] H Q := by
  have h1 := psum_rng hX 4 (by omega)
  have h2 := psum_rng hY 4 (by omega)
  have a0 := hX 0 (by omega)
  have a1 := hX 1 (by omega)
  have a2 := hX 2 (by omega)
  have a3 := hX 3 (by omega)
  have b0 := hY 0 (by omega)
  have b1 := hY 1 (by omega)
  have b2 := hY 2 (by omega)
  have b3 := hY 3 (by omega)
  have e1 : IntKind.wrap .i64 (IntKind.wrap .i64 (IntKind.wrap .i64 (X 0 + X 1) + X 2) + X 3) = psum X 4 := by
    rw [w64 (x := X 0 + X 1) (by omega) (by omega), w64 (x := X 0 + X 1 + X 2) (by omega) (by omega), w64 (by omega) (by omega)]
    simp [psum]
  have e2 : IntKind.wrap .i64 (IntKind.wrap .i64 (IntKind.wrap .i64 (Y 0 + Y 1) + Y 2) + Y 3) = psum Y 4 := by
    rw [w64 (x := Y 0 + Y 1) (by omega) (by omega), w64 (x := Y 0 + Y 1 + Y 2) (by omega) (by omega), w64 (by omega) (by omega)]
    simp [psum]
  refine c48 ?_
  simp only [f48, g48, inA_c, nilK_c, gd_simp, mac_len, true_and, rI_s (mac_x X Y (k := 0) (by decide)), rI_s (mac_x X Y (k := 1) (by decide)), rI_s (mac_x X Y (k := 2) (by decide)), rI_s (mac_x X Y (k := 3) (by decide)), rI_s (mac_y X Y (k := 0) (by decide)), rI_s (mac_y X Y (k := 1) (by decide)), rI_s (mac_y X Y (k := 2) (by decide)), rI_s (mac_y X Y (k := 3) (by decide)), e1, e2]
  refine s52 (by omega) ?_
  simp only [asI_c]
  refine s52 (by omega) ?_
  simp only [asI_c]
  exact hQ
def vk (X : Nat → Int) (k : Nat) : Int := if k < 4 then X k else colX X
theorem vk_rng {X : Nat → Int} (h : B64 X) (k : Nat) : -64 ≤ vk X k ∧ vk X k ≤ 64 := by
  unfold vk; split
  · exact h k (by assumption)
  · exact colX_rng h
theorem s40 {X Y : Nat → Int} {k : Nat} {H : AHeap} {Q : Value → AHeap → Prop} (hX : B64 X) (hY : B64 Y) (hk : k < 5) (hQ : Q (.tuple ⟨[.int .i64 (vk X k), .int .i64 (vk Y k)]⟩) H) : call Try.prog 40 [.agg ⟨mac X Y⟩, .int .i64 (k : Nat)] H Q := by
  refine c40 ?_
  simp only [f40, g40, inA_c, inI_c, nilK_c, gd_simp, mac_len, true_and]
  refine bdec (fun h => ?_) (fun h => ?_)
  · have e3 : (k : Int).toNat * 1 = k := by simp
    have h4 : k < 4 := by omega
    simp only [aidx_c, e3, rI_s (mac_x X Y h4), rI_s (mac_y X Y h4)]
    simp only [vk, if_pos h4] at hQ
    exact ⟨by omega, by omega, hQ⟩
  · have h4 : ¬ k < 4 := by omega
    simp only [f40_3, g40_3, nilK_c, inX_c, nilX_c, rA_all (mac_len X Y)]
    refine s48 hX hY ?_
    simp only [tupK_c, inI_c, nilK_c]
    simp only [vk, if_neg h4] at hQ
    exact hQ
def plX (C mb : Int) (k : Nat) : Int := if k < 4 then 16 * (mb % C) + 8 * ((k : Int) % 2) else 8 * (mb % C)
def plY (C mb : Int) (k : Nat) : Int := if k < 4 then 16 * (mb / C) + 8 * ((k : Int) / 2) else 8 * (mb / C)
theorem modC {C mb : Int} (hC : 1 ≤ C) (hm : 0 ≤ mb) : (0 ≤ mb % C ∧ mb % C < C) ∧ 0 ≤ mb / C ∧ mb / C ≤ mb :=
  ⟨⟨Int.emod_nonneg _ (by omega), Int.emod_lt_of_pos _ (by omega)⟩, Int.ediv_nonneg (by omega) (by omega), Int.ediv_le_self _ (by omega)⟩
theorem s39 {C mb : Int} {k : Nat} {H : AHeap} {Q : Value → AHeap → Prop} (hC : 1 ≤ C ∧ C ≤ 100) (hm : 0 ≤ mb ∧ mb ≤ 10000) (hk : k < 5) (hQ : Q (.tuple ⟨[.int .i64 (plX C mb k), .int .i64 (plY C mb k)]⟩) H) : call Try.prog 39 [.int .i64 C, .int .i64 mb, .int .i64 (k : Nat)] H Q := by
  have e1 : mb.tmod C = mb % C := Int.tmod_eq_emod_of_nonneg (by omega)
  have e2 : mb.tdiv C = mb / C := Int.tdiv_eq_ediv_of_nonneg (by omega)
  have e3 : (k : Int).tmod 2 = k % 2 := Int.tmod_eq_emod_of_nonneg (by omega)
  have e4 : (k : Int).tdiv 2 = k / 2 := Int.tdiv_eq_ediv_of_nonneg (by omega)
  obtain ⟨b1, b2⟩ := modC hC.1 hm.1
  refine c39 ?_
  simp only [f39, g39, inI_c, nilK_c, nz, e1, e2, e3, e4]
  refine bdec (fun h => ?_) (fun h => ?_)
  · have h4 : k < 4 := by omega
    simp only [plX, plY, if_pos h4] at hQ
    simp only [gd_simp]
    refine ⟨by omega, by omega, ?_⟩
    rw [w64 (x := 16 * (mb % C)) (by omega) (by omega), w64 (x := 8 * ((k : Int) % 2)) (by omega) (by omega), w64 (x := mb / C) (by omega) (by omega), w64 (x := (k : Int) / 2) (by omega) (by omega), w64 (x := 8 * ((k : Int) / 2)) (by omega) (by omega), w64 (x := 16 * (mb / C)) (by omega) (by omega), w64 (x := 16 * (mb % C) + 8 * ((k : Int) % 2)) (by omega) (by omega), w64 (x := 16 * (mb / C) + 8 * ((k : Int) / 2)) (by omega) (by omega)]
    exact hQ
  · have h4 : ¬ k < 4 := by omega
    simp only [plX, plY, if_neg h4] at hQ
    simp only [f39_3, g39_3, inI_c, nilK_c, nilX_c, nz, gd_simp, e1, e2]
    refine ⟨by omega, by omega, ?_⟩
    rw [w64 (x := 8 * (mb % C)) (by omega) (by omega), w64 (x := mb / C) (by omega) (by omega), w64 (x := 8 * (mb / C)) (by omega) (by omega)]
    exact hQ
theorem s42 {n e : Int} {H : AHeap} {Q : Value → AHeap → Prop} (he : 1 ≤ e ∧ e ≤ 1000000) (hQ : Q (.int .i64 (clampI n e)) H) : call Try.prog 42 [.int .i64 n, .int .i64 e] H Q := by
  refine c42 ?_
  simp only [f42, g42, inI_c, nilK_c]
  unfold clampI at hQ
  refine bdec (fun h => ?_) (fun h => ?_)
  · have : max (min n (e - 1)) 0 = 0 := by omega
    rw [this] at hQ; exact hQ
  · simp only [f42_3, g42_3, inI_c, nilK_c, nilX_c]
    rw [w64 (x := e - 1) (by omega) (by omega)]
    refine bdec (fun h2 => ?_) (fun h2 => ?_)
    · have : max (min n (e - 1)) 0 = e - 1 := by omega
      rw [this] at hQ; exact hQ
    · have : max (min n (e - 1)) 0 = n := by omega
      rw [this] at hQ
      simp only [f42_5, g42_5, inI_c, nilK_c, nilX_c]
      exact hQ
/-- the last sample that eight are made of -/
def spT (x d e : Int) : Int := clampI ((2 * x + d) / 2 + 7 + (2 * x + d) % 2) e
theorem s46 {x d e : Int} {H : AHeap} {Q : Value → AHeap → Prop} (hx : -100000 ≤ x ∧ x ≤ 100000) (hd : -1000 ≤ d ∧ d ≤ 1000) (he : 1 ≤ e ∧ e ≤ 1000000) (hQ : Q (.tuple ⟨[.int .i64 (clampI ((2 * x + d) / 2) e), .int .i64 (spT x d e)]⟩) H) : call Try.prog 46 [.int .i64 x, .int .i64 d, .int .i64 e] H Q := by
  refine c46 ?_
  simp only [f46, g46, inI_c, nilK_c]
  rw [w64 (x := 2 * x) (by omega) (by omega), w64 (x := 2 * x + d) (by omega) (by omega)]
  refine s51 ?_
  simp only [tupK_c, inI_c, nilK_c, mxI_c, mnI_c]
  rw [w64 (x := e - 1) (by omega) (by omega), w64 (x := (2 * x + d) / 2 + 7) (by omega) (by omega), w64 (by omega) (by omega)]
  have e1 : min (max ((2 * x + d) / 2) 0) (max (e - 1) 0) = clampI ((2 * x + d) / 2) e := by unfold clampI; omega
  have e2 : min (max ((2 * x + d) / 2 + 7 + (2 * x + d) % 2) 0) (max (e - 1) 0) = spT x d e := by unfold spT clampI; omega
  rw [e1, e2]
  exact hQ

def size (k : Nat) : Int := if k = 4 then 8 else 16
def reachK (C mb : Int) (X : Nat → Int) (k : Nat) : Int := if k = 4 then 2 * spT (plX C mb k) (vk X k) (8 * C) + 1 else spT (plX C mb k) (vk X k) (16 * C)
def reachN (C mb : Int) (X : Nat → Int) : Nat → Int
  | 0 => 0
  | k + 1 => max (reachN C mb X k) (reachK C mb X k)
theorem clampI_rng {n e : Int} (he : 1 ≤ e) : 0 ≤ clampI n e ∧ clampI n e < e := by unfold clampI; omega
theorem reachK_rng {C mb : Int} {X : Nat → Int} (hC : 1 ≤ C ∧ C ≤ 100) (k : Nat) : 0 ≤ reachK C mb X k ∧ reachK C mb X k ≤ 10000 := by
  unfold reachK spT
  split
  · have := clampI_rng (n := (2 * plX C mb k + vk X k) / 2 + 7 + (2 * plX C mb k + vk X k) % 2) (e := 8 * C) (by omega)
    omega
  · have := clampI_rng (n := (2 * plX C mb k + vk X k) / 2 + 7 + (2 * plX C mb k + vk X k) % 2) (e := 16 * C) (by omega)
    omega
theorem reachN_rng {C mb : Int} {X : Nat → Int} (hC : 1 ≤ C ∧ C ≤ 100) : ∀ k, 0 ≤ reachN C mb X k ∧ reachN C mb X k ≤ 10000
  | 0 => by simp [reachN]
  | k + 1 => by
    have := reachN_rng (mb := mb) (X := X) hC k
    have := reachK_rng (mb := mb) (X := X) hC k
    simp only [reachN]; omega
def fr0 (C : Int) : List Value := [.int .i64 C, .int .i64 0, .int .i64 0, .int .i64 0, .slice none 0 0, .int .i64 0, .int .i64 0, .slice none 0 0, .int .i64 0, .int .i64 0, .slice none 0 0]
theorem fr0_len (C : Int) : (fr0 C).length = 11 := rfl
theorem s36 {C mb : Int} {X Y : Nat → Int} {H : AHeap} {Q : Value → AHeap → Prop} (hC : 1 ≤ C ∧ C ≤ 100) (hm : 0 ≤ mb ∧ mb ≤ 10000) (hX : B64 X) (hY : B64 Y) (hQ : Q (.int .i64 (reachN C mb X 5)) H) : call Try.prog 36 [.int .i64 C, .int .i64 mb, .agg ⟨vs4 X Y⟩] H Q := by
  have hC1 : max C 1 = C := by omega
  refine c36 ?_
  simp only [f36, g36, inI_c, inA_c, nilK_c, gd_simp, vs4_len, true_and, mxI_c, hC1]
  refine lp (σ := Nat) (fun k => [.int .i64 mb, .int .i64 (reachN C mb X k), .int .i64 (k : Nat)]) (fun k => [vs4 X Y, fr0 C]) (fun k H' => H' = H ∧ k ≤ 5) (fun k _ => 5 - k) 0 rfl rfl ⟨rfl, by omega⟩ ?_
  rintro k H' kk ⟨rfl, hk5⟩ hk
  obtain ⟨b1, b2⟩ := modC hC.1 hm.1
  simp only [f36_l4, g36_l4, inI_c, nilK_c, inX_c, nilX_c]
  refine bdec (fun h => ?_) (fun h => ?_)
  · have h14 : ∀ t, t = reachK C mb X k → f36_14 Q (upK kb0 4 kk) [.int .i64 mb, .int .i64 (reachN C mb X k), .int .i64 t, .int .i64 (k : Nat)] [vs4 X Y, fr0 C] H' := by
      rintro t rfl
      simp only [f36_14, g36_14, f36_15, g36_15, inI_c, nilK_c, inX_c, nilX_c, mxI_c]
      rw [wn (by omega), upK_same]
      exact hk (k + 1) H' ⟨rfl, by omega⟩ (by omega)
    simp only [f36_5, g36_5, inI_c, nilK_c, inX_c, nilX_c, rA_all (vs4_len X Y)]
    refine s45 hX hY ?_
    simp only [asC_c]
    refine bdec (fun h4 => ?_) (fun h4 => ?_)
    · have h4' : k < 4 := by omega
      have e3 : 0 + (k : Int).toNat * 1 = k := by simp
      have a1 := hX k h4'
      have a2 := hY k h4'
      simp only [aidx_c, e3, rC_s (vs4_get X Y h4')]
      refine ⟨by omega, ?_⟩
      simp only [f36_9, g36_9, inI_c, inC_c, nilK_c, inX_c, nilX_c]
      refine s12 a1 a2 ?_
      simp only [tupK_c, inI_c, nilK_c, rA_all (fr0_len C)]
      refine s27 (C := C) (fr0_len C) rfl hC hm (by omega) ?_
      simp only [tupK_c, inI_c, inA_c, nilK_c, gd_simp, fr0, rI_z, asI_c]
      refine ⟨rfl, ⟨rfl, by decide⟩, ?_⟩
      rw [w64 (x := 16 * C) (by omega) (by omega)]
      refine s46 (by omega) (by omega) (by omega) ?_
      simp only [tupK_c, inI_c, nilK_c]
      refine bbeq (fun h5 => by omega) (fun h5 => ?_)
      refine h14 _ ?_
      have n4 : ¬ k = 4 := by omega
      simp only [reachK, if_neg n4, plX, if_pos h4', vk]
    · have h4' : k = 4 := by omega
      subst h4'
      have a1 := colX_rng hX
      have a2 := colX_rng hY
      simp only [f36_9, g36_9, inI_c, inC_c, nilK_c, inX_c, nilX_c]
      refine s12 a1 a2 ?_
      simp only [tupK_c, inI_c, nilK_c, rA_all (fr0_len C)]
      refine s27c (C := C) (fr0_len C) rfl hC hm ?_
      simp only [tupK_c, inI_c, inA_c, nilK_c, gd_simp, fr0, rI_z, asI_c]
      refine ⟨rfl, ⟨rfl, by decide⟩, ?_⟩
      rw [w64 (x := 8 * C) (by omega) (by omega)]
      refine s46 (by omega) (by omega) (by omega) ?_
      have hc := clampI_rng (n := (2 * (8 * (mb % C)) + colX X) / 2 + 7 + (2 * (8 * (mb % C)) + colX X) % 2) (e := 8 * C) (by omega)
      have e5 : reachK C mb X 4 = 2 * spT (8 * (mb % C)) (colX X) (8 * C) + 1 := by simp [reachK, plX, vk]
      simp only [tupK_c, inI_c, nilK_c]
      refine bbeq (fun h5 => ?_) (fun h5 => absurd rfl h5)
      rw [w64 (x := 2 * spT (8 * (mb % C)) (colX X) (8 * C)) (by unfold spT; omega) (by unfold spT; omega), w64 (by unfold spT; omega) (by unfold spT; omega)]
      exact h14 _ e5.symm
  · have : k = 5 := by omega
    subst this
    simp only [f36_16, g36_16, inI_c, nilK_c, nilX_c]
    exact hQ
end Go.Am
