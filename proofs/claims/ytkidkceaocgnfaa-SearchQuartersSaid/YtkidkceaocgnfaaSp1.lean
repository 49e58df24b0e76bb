/- A part of the proof: Sp1. -/
import Derived.Test.YtkidkceaocgnfaaSp0
import Derived.Test.YtkidkceaocgnfaaFa
import Derived.Test.YtkidkceaocgnfaaFb
import Derived.Test.YtkidkceaocgnfaaFc
import Derived.Test.YtkidkceaocgnfaaFd
/- Sp1: samples. -/
set_option linter.all false
namespace Go.Am
open Go.Proofs

def clampI (n e : Int) : Int := max (min n (e - 1)) 0
def smp (W Hh : Int) (xs : List Int) (x y : Int) : Int := xs.getD ((clampI y Hh * W + clampI x W).toNat) 0
def u8s (xs : List Int) : List Value := xs.map fun x => .int .u8 x
structure Pix (H : AHeap) (b : Nat) (xs : List Int) : Prop where
  get : ∃ e own, H.get b = some (.cells (u8s xs) e own)
  rng : ∀ x ∈ xs, 0 ≤ x ∧ x ≤ 255
structure Plane (H : AHeap) (p : List Value) (W Hh : Int) (xs : List Int) : Prop where
  ex : ∃ b, p = [.int .i64 W, .int .i64 Hh, .slice (some ⟨b, 0, none⟩) xs.length 1] ∧ Pix H b xs
  w : 1 ≤ W ∧ W ≤ 1024
  h : 1 ≤ Hh ∧ Hh ≤ 1024
  len : (xs.length : Int) = W * Hh

theorem s43 {x e : Int} {H : AHeap} {Q : Value → AHeap → Prop} (h : -9223372036854775807 ≤ e ∧ e ≤ 9223372036854775807) (hQ : Q (.int .i64 (clampI x e)) H) : call Try.prog 43 [.int .i64 x, .int .i64 e] H Q := by
  apply c43
  simp only [f43, g43, inI_c, nilK_c, mxI_c, mnI_c]
  rw [w64 (by omega) (by omega)]
  exact hQ

theorem smp_rng {H : AHeap} {b : Nat} {W Hh : Int} {xs : List Int} (hp : Pix H b xs) (x y : Int) : 0 ≤ smp W Hh xs x y ∧ smp W Hh xs x y ≤ 255 := by
  unfold smp
  rw [List.getD_eq_getElem?_getD]
  cases h : xs[(clampI y Hh * W + clampI x W).toNat]? with
  | none => simp
  | some v => exact hp.rng v (List.mem_of_getElem? h)

theorem idx_lt {W Hh x y : Int} (hw : 1 ≤ W ∧ W ≤ 1024) (hh : 1 ≤ Hh ∧ Hh ≤ 1024) : 0 ≤ clampI y Hh * W + clampI x W ∧ clampI y Hh * W + clampI x W < W * Hh := by
  have h1 : 0 ≤ clampI x W ∧ clampI x W ≤ W - 1 := by unfold clampI; omega
  have h2 : 0 ≤ clampI y Hh ∧ clampI y Hh ≤ Hh - 1 := by unfold clampI; omega
  have h3 : clampI y Hh * W ≤ (Hh - 1) * W := Int.mul_le_mul_of_nonneg_right h2.2 (by omega)
  have h4 : 0 ≤ clampI y Hh * W := Int.mul_nonneg h2.1 (by omega)
  have h5 : (Hh - 1) * W = W * Hh - W := by rw [Int.sub_mul, Int.mul_comm]; omega
  omega

theorem area_le {W Hh : Int} (hw : 1 ≤ W ∧ W ≤ 1024) (hh : 1 ≤ Hh ∧ Hh ≤ 1024) : W * Hh ≤ 1048576 := by
  have : W * Hh ≤ 1024 * 1024 := Int.mul_le_mul hw.2 hh.2 (by omega) (by omega)
  omega

theorem u8s_get {xs : List Int} {i : Nat} (h : i < xs.length) : (u8s xs)[i]? = some (.int .u8 (xs.getD i 0)) := by
  simp [u8s, List.getElem?_map, List.getElem?_eq_getElem h, List.getD_eq_getElem?_getD]


theorem s28 {p : List Value} {W Hh : Int} {xs : List Int} {x y : Int} {H : AHeap} {Q : Value → AHeap → Prop} (hp : Plane H p W Hh xs) (hQ : Q (.int .u8 (smp W Hh xs x y)) H) :
    call Try.prog 28 [.agg ⟨p⟩, .int .i64 x, .int .i64 y] H Q := by
  obtain ⟨⟨b, rfl, hx⟩, hw, hh, hl⟩ := hp
  obtain ⟨⟨e, own, hg⟩, hr⟩ := hx
  have hi := idx_lt (x := x) (y := y) hw hh
  have ha := area_le hw hh
  apply c28
  simp [f28, g28, f28_4, g28_4]
  refine s43 (by omega) ?_
  simp
  refine s43 (by omega) ?_
  have e0 : 0 ≤ clampI y Hh * W ∧ clampI y Hh * W ≤ 1048576 := by
    have h1 : 0 ≤ clampI x W ∧ clampI x W ≤ W - 1 := by unfold clampI; omega
    have h2 : 0 ≤ clampI y Hh := by unfold clampI; omega
    have := Int.mul_nonneg h2 (show 0 ≤ W by omega)
    omega
  simp
  rw [w64 (x := clampI y Hh * W) (by omega) (by omega), w64 (x := clampI y Hh * W + clampI x W) (by omega) (by omega)]
  have n1 : ¬ W ≤ 0 := by omega
  have n2 : ¬ Hh ≤ 0 := by omega
  have n3 : ¬ (xs.length : Int) ≤ clampI y Hh * W + clampI x W := by omega
  simp [n1, n2, n3, rdH_s hg]
  refine ⟨by omega, ?_⟩
  rw [rI_s (u8s_get (by omega))]
  simp
  exact hQ

theorem p44 {p : List Value} {W Hh : Int} {xs : List Int} {x y x' y' : Int} {H : AHeap} {Q : Value → AHeap → Prop} {kb : KB} (hp : Plane H p W Hh xs) (hx : x' = clampI x W) (hy : y' = clampI y Hh) (hQ : Q (.int .i64 (smp W Hh xs x y)) H) :
    f44_9 Q kb [.int .i64 x', .int .i64 y'] [p] H := by
  have hr0 := hp
  obtain ⟨⟨b, rfl, hpx⟩, hw, hh, hl⟩ := hp
  have hsr := smp_rng (W := W) (Hh := Hh) hpx x y
  obtain ⟨⟨e, own, hg⟩, hr⟩ := hpx
  have hi := idx_lt (x := x) (y := y) hw hh
  have ha := area_le hw hh
  subst hx hy
  have e0 : 0 ≤ clampI y Hh * W ∧ clampI y Hh * W ≤ 1048576 := by
    have h1 : 0 ≤ clampI x W ∧ clampI x W ≤ W - 1 := by unfold clampI; omega
    have h2 : 0 ≤ clampI y Hh := by unfold clampI; omega
    have := Int.mul_nonneg h2 (show 0 ≤ W by omega)
    omega
  simp [f44_9, g44_9]
  rw [w64 (x := clampI y Hh * W) (by omega) (by omega), w64 (x := clampI y Hh * W + clampI x W) (by omega) (by omega)]
  refine ⟨by omega, ?_⟩
  rw [rdH_s hg, rI_s (u8s_get (by omega))]
  simp
  show Q (.int .i64 (IntKind.wrap .i64 (smp W Hh xs x y))) H
  rw [w64 (by omega) (by omega)]
  exact hQ

theorem s44 {p : List Value} {W Hh : Int} {xs : List Int} {x y : Int} {H : AHeap} {Q : Value → AHeap → Prop} (hp : Plane H p W Hh xs) (hQ : Q (.int .i64 (smp W Hh xs x y)) H) :
    call Try.prog 44 [.agg ⟨p⟩, .int .i64 x, .int .i64 y] H Q := by
  have hp0 := hp
  obtain ⟨⟨b, rfl, hx⟩, hw, hh, hl⟩ := hp
  apply c44
  have e1 : IntKind.wrap .i64 (W - 1) = W - 1 := w64 (by omega) (by omega)
  have e2 : IntKind.wrap .i64 (Hh - 1) = Hh - 1 := w64 (by omega) (by omega)
  simp [f44, g44, f44_3, g44_3, f44_5, g44_5, f44_7, g44_7, e1, e2]
  repeat' split
  all_goals (refine p44 (x := x) (y := y) hp0 ?_ ?_ hQ <;> (unfold clampI; omega))

theorem a41a {n : Int} (h : -9223372036854775807 ≤ n ∧ n ≤ 9223372036854775807) (hn : n.tmod 2 < 0) : IntKind.wrap .i64 ((IntKind.wrap .i64 (n - 1)).tdiv 2) = n / 2 ∧ n % 2 = 1 := by
  rw [tmodp _ _ (by decide)] at hn
  rw [w64 (x := n - 1) (by omega) (by omega), tdivp _ _ (by decide)]
  split at hn <;> split <;> (try rw [w64 (by omega) (by omega)]) <;> omega
theorem a41b {n : Int} (h : -9223372036854775807 ≤ n ∧ n ≤ 9223372036854775807) (hn : ¬ n.tmod 2 < 0) : IntKind.wrap .i64 ((IntKind.wrap .i64 (n - n.tmod 2)).tdiv 2) = n / 2 ∧ n.tmod 2 = n % 2 := by
  have e : n.tmod 2 = n % 2 := by
    rw [tmodp _ _ (by decide)] at hn ⊢
    split at hn <;> split <;> omega
  rw [e, w64 (x := n - n % 2) (by omega) (by omega), tdivp _ _ (by decide)]
  split <;> (rw [w64 (by omega) (by omega)]; omega)
theorem s41 {n : Int} {H : AHeap} {Q : Value → AHeap → Prop} (h : -9223372036854775807 ≤ n ∧ n ≤ 9223372036854775807) (hQ : Q (.tuple ⟨[.int .i64 (n / 2), .int .i64 (n % 2)]⟩) H) : call Try.prog 41 [.int .i64 n] H Q := by
  apply c41
  simp [f41, g41, f41_4, g41_4]
  split
  · rename_i hn
    obtain ⟨h1, h2⟩ := a41a h hn
    rw [h1, ← h2]; exact hQ
  · rename_i hn
    obtain ⟨h1, h2⟩ := a41b h hn
    rw [h1, h2]; exact hQ
theorem s51 {n : Int} {H : AHeap} {Q : Value → AHeap → Prop} (hQ : Q (.tuple ⟨[.int .i64 (n / 2), .int .i64 (n % 2)]⟩) H) : call Try.prog 51 [.int .i64 n] H Q := by
  apply c51
  simp [f51, g51]
  rw [shr1, and1]; exact hQ

/-- a sample at so many halves -/
def betw (W Hh : Int) (xs : List Int) (x2 y2 : Int) (down : Bool) : Int :=
  let a := smp W Hh xs (x2 / 2) (y2 / 2)
  let less : Int := if down then 1 else 0
  if y2 % 2 = 0 then
    if x2 % 2 = 0 then a else (a + smp W Hh xs (x2 / 2 + 1) (y2 / 2) + 1 - less) / 2
  else if x2 % 2 = 0 then (a + smp W Hh xs (x2 / 2) (y2 / 2 + 1) + 1 - less) / 2
  else (a + smp W Hh xs (x2 / 2 + 1) (y2 / 2) + smp W Hh xs (x2 / 2) (y2 / 2 + 1) + smp W Hh xs (x2 / 2 + 1) (y2 / 2 + 1) + 2 - less) / 4

theorem avg2 {a b l : Int} (ha : 0 ≤ a ∧ a ≤ 255) (hb : 0 ≤ b ∧ b ≤ 255) (hl : 0 ≤ l ∧ l ≤ 1) :
    IntKind.wrap .i64 ((IntKind.wrap .i64 (IntKind.wrap .i64 (IntKind.wrap .i64 (IntKind.wrap .i64 a + IntKind.wrap .i64 b) + 1) - l)).tdiv 2) = (a + b + 1 - l) / 2 := by
  rw [w64 (x := a) (by omega) (by omega), w64 (x := b) (by omega) (by omega), w64 (x := a + b) (by omega) (by omega), w64 (x := a + b + 1) (by omega) (by omega), w64 (x := a + b + 1 - l) (by omega) (by omega), Int.tdiv_eq_ediv_of_nonneg (by omega), w64 (by omega) (by omega)]
theorem avg4 {a b c d l : Int} (ha : 0 ≤ a ∧ a ≤ 255) (hb : 0 ≤ b ∧ b ≤ 255) (hc : 0 ≤ c ∧ c ≤ 255) (hd : 0 ≤ d ∧ d ≤ 255) (hl : 0 ≤ l ∧ l ≤ 1) :
    IntKind.wrap .i64 ((IntKind.wrap .i64 (IntKind.wrap .i64 (IntKind.wrap .i64 (IntKind.wrap .i64 (IntKind.wrap .i64 (IntKind.wrap .i64 a + IntKind.wrap .i64 b) + IntKind.wrap .i64 c) + IntKind.wrap .i64 d) + 2) - l)).tdiv 4) = (a + b + c + d + 2 - l) / 4 := by
  rw [w64 (x := a) (by omega) (by omega), w64 (x := b) (by omega) (by omega), w64 (x := c) (by omega) (by omega), w64 (x := d) (by omega) (by omega), w64 (x := a + b) (by omega) (by omega), w64 (x := a + b + c) (by omega) (by omega), w64 (x := a + b + c + d) (by omega) (by omega), w64 (x := a + b + c + d + 2) (by omega) (by omega), w64 (x := a + b + c + d + 2 - l) (by omega) (by omega), Int.tdiv_eq_ediv_of_nonneg (by omega), w64 (by omega) (by omega)]

theorem avg4' {a b c d l : Int} (ha : 0 ≤ a ∧ a ≤ 255) (hb : 0 ≤ b ∧ b ≤ 255) (hc : 0 ≤ c ∧ c ≤ 255) (hd : 0 ≤ d ∧ d ≤ 255) (hl : 0 ≤ l ∧ l ≤ 1) :
    IntKind.wrap .i64 ((IntKind.wrap .i64 (IntKind.wrap .i64 (IntKind.wrap .i64 (IntKind.wrap .i64 (IntKind.wrap .i64 (a + IntKind.wrap .i64 b) + IntKind.wrap .i64 c) + IntKind.wrap .i64 d) + 2) - l)).tdiv 4) = (a + b + c + d + 2 - l) / 4 := by
  have e : IntKind.wrap .i64 a = a := w64 (by omega) (by omega)
  have := avg4 ha hb hc hd hl
  rwa [e] at this
theorem p47 {p : List Value} {W Hh : Int} {xs : List Int} {x y : Int} {down : Bool} {H : AHeap} {Q : Value → AHeap → Prop} {less : Int} (hp0 : Plane H p W Hh xs) (hl3 : p.length = 3) (ex1 : IntKind.wrap .i64 (x / 2 + 1) = x / 2 + 1) (ey1 : IntKind.wrap .i64 (y / 2 + 1) = y / 2 + 1)
    (hr : ∀ x y, 0 ≤ smp W Hh xs x y ∧ smp W Hh xs x y ≤ 255) (hless : less = if down then 1 else 0) (hl01 : 0 ≤ less ∧ less ≤ 1) {F13 : PT} {kb : KB}
    (h13 : x % 2 ≠ 0 → y % 2 ≠ 0 → F13 kb [.int .i64 (x / 2), .int .i64 (y / 2), .int .i64 less, .int .i64 (smp W Hh xs (x / 2) (y / 2))] [p] H)
    (hQ : (x % 2 = 0 ∨ y % 2 = 0) → Q (.int .i64 (betw W Hh xs x y down)) H) : g47_6 Q F13 kb [.int .i64 (x / 2), .int .i64 (x % 2), .int .i64 (y / 2), .int .i64 (y % 2), .int .i64 less] [p] H := by
  simp [g47_6, hl3, ex1, ey1]
  refine s28 hp0 ?_
  unfold betw at hQ
  simp only [← hless] at hQ
  have h0 := hr (x / 2) (y / 2)
  by_cases hx2 : x % 2 = 0
  · by_cases hy2 : y % 2 = 0
    · simp [hx2, hy2] at hQ ⊢
      rw [w64 (by omega) (by omega)]; exact hQ
    · simp only [hx2, hy2, if_true, if_false, true_or, forall_const] at hQ ⊢
      simp
      refine s28 hp0 ?_
      simp
      rw [avg2 (hr _ _) (hr _ _) hl01]; exact hQ
  · by_cases hy2 : y % 2 = 0
    · simp only [hx2, hy2, if_true, if_false, or_true, forall_const] at hQ ⊢
      simp
      refine s28 hp0 ?_
      simp
      rw [avg2 (hr _ _) (hr _ _) hl01]; exact hQ
    · simp [hx2, hy2]
      rw [w64 (by omega) (by omega)]
      exact h13 hx2 hy2
theorem p47' {p : List Value} {W Hh : Int} {xs : List Int} {x y : Int} {down : Bool} {H : AHeap} {Q : Value → AHeap → Prop} {less : Int} (hp0 : Plane H p W Hh xs) (hl3 : p.length = 3) (ex1 : IntKind.wrap .i64 (x / 2 + 1) = x / 2 + 1) (ey1 : IntKind.wrap .i64 (y / 2 + 1) = y / 2 + 1)
    (hr : ∀ x y, 0 ≤ smp W Hh xs x y ∧ smp W Hh xs x y ≤ 255) (hless : less = if down then 1 else 0) (hl01 : 0 ≤ less ∧ less ≤ 1) {kb : KB} (hx2 : x % 2 ≠ 0) (hy2 : y % 2 ≠ 0)
    (hQ : Q (.int .i64 (betw W Hh xs x y down)) H) : g47_13 Q kb [.int .i64 (x / 2), .int .i64 (y / 2), .int .i64 less, .int .i64 (smp W Hh xs (x / 2) (y / 2))] [p] H := by
  simp [g47_13, hl3, ex1, ey1]
  refine s28 hp0 ?_
  simp
  refine s28 hp0 ?_
  simp
  refine s28 hp0 ?_
  simp
  unfold betw at hQ
  simp only [← hless, hx2, hy2, if_false] at hQ
  rw [avg4' (hr _ _) (hr _ _) (hr _ _) (hr _ _) hl01]; exact hQ

theorem n47 {p : List Value} {x y : Int} {down : Bool} {H : AHeap} {Q : Value → AHeap → Prop} (hl3 : p.length = 3) {F6 : PT} (h : ∀ less : Int, less = (if down then 1 else 0) → F6 kb0 [.int .i64 (x / 2), .int .i64 (x % 2), .int .i64 (y / 2), .int .i64 (y % 2), .int .i64 less] [p] H) :
    g47 Q F6 [.agg ⟨p⟩, .int .i64 x, .int .i64 y, .bool down] H := by
  simp [g47, hl3]
  refine s51 ?_
  simp
  refine s51 ?_
  simp
  cases down with
  | false => exact h 0 rfl
  | true => exact h 1 rfl
theorem s47 {p : List Value} {W Hh : Int} {xs : List Int} {x y : Int} {down : Bool} {H : AHeap} {Q : Value → AHeap → Prop} (hp : Plane H p W Hh xs) (hbx : -1000000 ≤ x ∧ x ≤ 1000000) (hby : -1000000 ≤ y ∧ y ≤ 1000000) (hQ : Q (.int .i64 (betw W Hh xs x y down)) H) :
    call Try.prog 47 [.agg ⟨p⟩, .int .i64 x, .int .i64 y, .bool down] H Q := by
  have hp0 := hp
  obtain ⟨⟨b, hpe, hx⟩, hw, hh, hl⟩ := hp
  have hr := fun x y => smp_rng (W := W) (Hh := Hh) hx x y
  have hl3 : p.length = 3 := by rw [hpe]; rfl
  have ex1 : IntKind.wrap .i64 (x / 2 + 1) = x / 2 + 1 := w64 (by omega) (by omega)
  have ey1 : IntKind.wrap .i64 (y / 2 + 1) = y / 2 + 1 := w64 (by omega) (by omega)
  refine c47 (n47 (F6 := f47_6 Q) hl3 fun less hless => ?_)
  have hl01 : 0 ≤ less ∧ less ≤ 1 := by rw [hless]; cases down <;> decide
  exact p47 (F13 := f47_13 Q) hp0 hl3 ex1 ey1 hr hless hl01 (fun hx2 hy2 => p47' hp0 hl3 ex1 ey1 hr hless hl01 hx2 hy2 hQ) fun _ => hQ
end Go.Am
