/- A part of the proof: Sp7. -/
import Derived.Test.YtkidkceaocgnfaaSp6
/- Sp7: how far a quarter is from what a vector says. -/
set_option linter.all false
namespace Go.Am
open Go.Proofs
structure FrameOK (H : AHeap) (f : List Value) (C R : Int) (ys us vs : List Int) : Prop where
  len : f.length = 11
  c : f[0]? = some (.int .i64 C)
  r : f[1]? = some (.int .i64 R)
  y : Plane H ((f.drop 2).take 3) (16 * C) (16 * R) ys
  u : Plane H ((f.drop 5).take 3) (8 * C) (8 * R) us
  v : Plane H ((f.drop 8).take 3) (8 * C) (8 * R) vs
  hc : 1 ≤ C ∧ C ≤ 8
  hr : 1 ≤ R ∧ R ≤ 8

/-- a quarter's samples, and what a vector says of them -/
def qS (C R : Int) (ys : List Int) (mb k : Int) (i : Nat) : Int := smp (16 * C) (16 * R) ys (16 * (mb % C) + 8 * (k % 2) + (i : Int) % 8) (16 * (mb / C) + 8 * (k / 2) + (i : Int) / 8)
def qT (C R : Int) (ys : List Int) (mb k dx dy : Int) (down : Bool) (i : Nat) : Int :=
  betw (16 * C) (16 * R) ys (2 * (16 * (mb % C) + 8 * (k % 2) + (i : Int) % 8) + dx) (2 * (16 * (mb / C) + 8 * (k / 2) + (i : Int) / 8) + dy) down
def dist (C R : Int) (ys zs : List Int) (mb k dx dy : Int) (down : Bool) : Int := dsum (qS C R ys mb k) (qT C R zs mb k dx dy down) 64

theorem n21 {f g : List Value} {C R : Int} {ys us vs zs us' vs' : List Int} {mb k dx dy : Int} {down : Bool} {H : AHeap} {Q : Value → AHeap → Prop} {L7 : PT} (hf : FrameOK H f C R ys us vs) (hg : FrameOK H g C R zs us' vs') (hm : 0 ≤ mb ∧ mb ≤ 64) (hk : 0 ≤ k ∧ k < 4)
    (hdx : -64 ≤ dx ∧ dx ≤ 64) (hdy : -64 ≤ dy ∧ dy ≤ 64) (h : lpW L7 kb0 7 [.int .i64 0, .agg ⟨blk (qS C R ys mb k) 64⟩, .int .i64 0] [blk (qT C R zs mb k dx dy down) 64] H) :
    g21 Q L7 [.agg ⟨f⟩, .agg ⟨g⟩, .int .i64 mb, .int .i64 k, .complex .f64 (fb dx) (fb dy), .bool down] H := by
  have hc := hf.hc
  have b1 : 0 ≤ mb % C ∧ mb % C < C := ⟨Int.emod_nonneg _ (by omega), Int.emod_lt_of_pos _ (by omega)⟩
  have b2 : 0 ≤ mb / C ∧ mb / C ≤ mb := ⟨Int.ediv_nonneg (by omega) (by omega), Int.ediv_le_self _ (by omega)⟩
  have hfl := hf.len
  have hgl := hg.len
  have t1 : ((f.drop 2).take 3).length = 3 := by simp; omega
  have t2 : ((g.drop 2).take 3).length = 3 := by simp; omega
  simp only [g21, inA_c, inI_c, inC_c, inB_c, nilK_c, gd_simp, hfl, hgl, true_and]
  refine s12 hdx hdy ?_
  simp only [tupK_c, inI_c, nilK_c, rA_all hfl]
  refine s27 hfl hf.c (by omega) (by omega) hk ?_
  simp only [tupK_c, inI_c, inA_c, nilK_c, rA_all hgl, gd_simp, t1, true_and]
  refine ⟨by decide, ?_⟩
  refine s27 hgl hg.c (by omega) (by omega) hk ?_
  simp only [tupK_c, inI_c, inA_c, nilK_c, gd_simp, t2, true_and]
  refine ⟨by decide, ?_⟩
  rw [stC_all (by rw [t1]; rfl), stC_all (by rw [t2]; rfl), rA_all t1, rA_all t2]
  refine s37 hf.y (by omega) (by omega) ?_
  simp only [asA_c, blk_len, true_and]
  refine s38 hg.y (by omega) (by omega) (by omega) (by omega) ?_
  simp only [asA_c, blk_len, true_and, gd_simp]
  refine ⟨by decide, by decide, ?_⟩
  rw [stC_all (by rw [blk_len]; rfl), stC_all (by rw [blk_len]; rfl), rA_all (blk_len _ _)]
  exact h
theorem s21 {f g : List Value} {C R : Int} {ys us vs zs us' vs' : List Int} {mb k dx dy : Int} {down : Bool} {H : AHeap} {Q : Value → AHeap → Prop} (hf : FrameOK H f C R ys us vs) (hg : FrameOK H g C R zs us' vs') (hm : 0 ≤ mb ∧ mb ≤ 64) (hk : 0 ≤ k ∧ k < 4)
    (hdx : -64 ≤ dx ∧ dx ≤ 64) (hdy : -64 ≤ dy ∧ dy ≤ 64) (hQ : Q (.int .i64 (dist C R ys zs mb k dx dy down)) H) : call Try.prog 21 [.agg ⟨f⟩, .agg ⟨g⟩, .int .i64 mb, .int .i64 k, .complex .f64 (fb dx) (fb dy), .bool down] H Q := by
  obtain ⟨_, _, hyp⟩ := hf.y.ex
  obtain ⟨_, _, hzp⟩ := hg.y.ex
  exact c21 (n21 (L7 := f21_l7 Q) hf hg hm hk hdx hdy (l21 (fun i => smp_rng hyp _ _) (fun i => betw_rng (fun x y => smp_rng hzp x y) _ _ _) hQ))
end Go.Am
