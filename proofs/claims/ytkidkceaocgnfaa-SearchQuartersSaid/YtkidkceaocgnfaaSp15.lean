/- A part of the proof: Sp15. -/
import Derived.Test.YtkidkceaocgnfaaSp14
/- Sp15: Whole, as far as Awake asks it. -/
set_option linter.all false
set_option maxRecDepth 100000
namespace Go.Am
open Go.Proofs
def wsum (D : Nat → Int → Int → Int) (x y : Int) : Nat → Int
  | 0 => 0
  | k + 1 => wsum D x y k + D k x y
theorem wsum_rng {D : Nat → Int → Int → Int} (hD : ∀ k, DOK (D k)) (x y : Int) : ∀ k, 0 ≤ wsum D x y k ∧ wsum D x y k ≤ 20000 * k
  | 0 => by simp [wsum]
  | k + 1 => by
    have := wsum_rng hD x y k
    have := hD k x y
    simp only [wsum]; omega
theorem s33 {f g : List Value} {C R : Int} {ys us vs zs us' vs' : List Int} {mb dx dy : Int} {down : Bool} {H : AHeap} {Q : Value → AHeap → Prop} (hf : FrameOK H f C R ys us vs) (hg : FrameOK H g C R zs us' vs') (hm : 0 ≤ mb ∧ mb ≤ 64)
    (hdx : -64 ≤ dx ∧ dx ≤ 64) (hdy : -64 ≤ dy ∧ dy ≤ 64) (hQ : Q (.int .i64 (wsum (qD C R ys zs mb down) dx dy 4)) H) : call Try.prog 33 [.agg ⟨f⟩, .agg ⟨g⟩, .int .i64 mb, .complex .f64 (fb dx) (fb dy), .bool down] H Q := by
  have hfl := hf.len
  have hgl := hg.len
  have hD := qD_ok (mb := mb) (down := down) hf hg
  refine c33 ?_
  simp only [f33, g33, inA_c, inI_c, inC_c, inB_c, nilK_c, gd_simp, hfl, hgl, true_and]
  refine lp (σ := Nat) (fun k => [.int .i64 mb, .complex .f64 (fb dx) (fb dy), .bool down, .int .i64 (wsum (qD C R ys zs mb down) dx dy k), .int .i64 (k : Nat)]) (fun _ => [f, g]) (fun k H' => H' = H ∧ k ≤ 4) (fun k _ => 4 - k) 0 rfl rfl ⟨rfl, by omega⟩ ?_
  rintro k H' kk ⟨rfl, hk⟩ hkk
  simp only [f33_l3, g33_l3, inI_c, inC_c, inB_c, nilK_c, inX_c, nilX_c]
  refine bdec (fun h => ?_) (fun h => ?_)
  · simp only [f33_4, g33_4, inI_c, inC_c, inB_c, nilK_c, inX_c, nilX_c, rA_all hfl, rA_all hgl]
    refine s21 hf hg hm (by omega) hdx hdy ?_
    have ed : dist C R ys zs mb (k : Int) dx dy down = qD C R ys zs mb down k dx dy := rfl
    have h1 := wsum_rng hD dx dy k
    have h2 := hD k dx dy
    simp only [asI_c, ed]
    rw [w64 (by omega) (by omega)]
    simp only [f33_6, g33_6, inI_c, inC_c, inB_c, nilK_c, inX_c, nilX_c]
    rw [wn (by omega), upK_same]
    exact hkk (k + 1) H' ⟨rfl, by omega⟩ (by omega)
  · have : k = 4 := by omega
    subst this
    simp only [f33_7, g33_7, inI_c, nilK_c, nilX_c]
    exact hQ

/-- the boxes of the best, the least, and whether there is any -/
structure W3 (Hb H : AHeap) (b1 b2 b3 : Nat) (x y l : Int) (c : Bool) : Prop where
  ext : Hx Hb H
  n1 : Hb.get b1 = none
  n2 : Hb.get b2 = none
  n3 : Hb.get b3 = none
  d12 : b1 ≠ b2
  d13 : b1 ≠ b3
  d23 : b2 ≠ b3
  g1 : H.get b1 = some (.cells [.complex .f64 (fb x) (fb y)] 34 true)
  g2 : H.get b2 = some (.cells [.int .i64 l] 3 true)
  g3 : H.get b3 = some (.cells [.bool c] 4 true)
theorem W3.put {Hb H : AHeap} {b1 b2 b3 : Nat} {x y l x' y' l' : Int} {c c' : Bool} (h : W3 Hb H b1 b2 b3 x y l c) :
    W3 Hb (((H.put b1 (.cells [.complex .f64 (fb x') (fb y')] 34 true)).put b2 (.cells [.int .i64 l'] 3 true)).put b3 (.cells [.bool c'] 4 true)) b1 b2 b3 x' y' l' c' := by
  refine ⟨((h.ext.put h.n1 _).put h.n2 _).put h.n3 _, h.n1, h.n2, h.n3, h.d12, h.d13, h.d23, ?_, ?_, ?_⟩
  · simp [h.d13, h.d12]
  · simp [h.d23]
  · simp
theorem W3.new {Hb H : AHeap} {b1 b2 b3 : Nat} {x y l : Int} {c : Bool} (h : W3 Hb H b1 b2 b3 x y l c) {b : Nat} (hb : H.get b = none) (o : AObj) : W3 (Hb.put b o) (H.put b o) b1 b2 b3 x y l c := by
  have m1 : b1 ≠ b := by rintro rfl; rw [h.g1] at hb; cases hb
  have m2 : b2 ≠ b := by rintro rfl; rw [h.g2] at hb; cases hb
  have m3 : b3 ≠ b := by rintro rfl; rw [h.g3] at hb; cases hb
  refine ⟨fun i o' e => ?_, ?_, ?_, ?_, h.d12, h.d13, h.d23, ?_, ?_, ?_⟩
  · rw [put_get] at e ⊢
    split
    · rename_i hi; rw [if_pos hi] at e; exact e
    · rename_i hi; rw [if_neg hi] at e; exact h.ext i o' e
  · simp [m1, h.n1]
  · simp [m2, h.n2]
  · simp [m3, h.n3]
  · simp [m1, h.g1]
  · simp [m2, h.g2]
  · simp [m3, h.g3]
def kill3 (H : AHeap) (b1 b2 b3 : Nat) : AHeap := ((H.kill b1).kill b2).kill b3
theorem kill3_get {H : AHeap} {b1 b2 b3 i : Nat} (h1 : i ≠ b1) (h2 : i ≠ b2) (h3 : i ≠ b3) : (kill3 H b1 b2 b3).get i = H.get i := by
  simp [kill3, AHeap.kill, h1, h2, h3]
theorem W3.grow {Hb H H' : AHeap} {b1 b2 b3 : Nat} {x y l : Int} {c : Bool} (h : W3 Hb H b1 b2 b3 x y l c) (hx : Hx H H') : W3 (kill3 H' b1 b2 b3) H' b1 b2 b3 x y l c ∧ Hx Hb (kill3 H' b1 b2 b3) := by
  refine ⟨⟨fun i o e => ?_, ?_, ?_, ?_, h.d12, h.d13, h.d23, hx _ _ h.g1, hx _ _ h.g2, hx _ _ h.g3⟩, fun i o e => ?_⟩
  · simp only [kill3, AHeap.kill] at e
    split at e
    · cases e
    · split at e
      · cases e
      · split at e
        · cases e
        · exact e
  · simp [kill3, AHeap.kill]
  · simp [kill3, AHeap.kill]
  · simp [kill3, AHeap.kill]
  · have m1 : i ≠ b1 := by rintro rfl; rw [h.n1] at e; cases e
    have m2 : i ≠ b2 := by rintro rfl; rw [h.n2] at e; cases e
    have m3 : i ≠ b3 := by rintro rfl; rw [h.n3] at e; cases e
    rw [kill3_get m1 m2 m3]
    exact hx _ _ (h.ext _ _ e)
theorem W3.kgrow {Hb H : AHeap} {b1 b2 b3 : Nat} {x y l : Int} {c : Bool} (h : W3 Hb H b1 b2 b3 x y l c) : Hx (kill3 H b1 b2 b3) H := (h.grow (Hx.refl H)).1.ext

structure WFix (Hb : AHeap) (f g : List Value) (mb far lim : Int) (down : Bool) (b5 b6 b7 b8 b9 : Nat) : Prop where
  g5 : Hb.get b5 = some (.cells [.int .i64 far, .int .i64 lim] 40 true)
  g6 : Hb.get b6 = some (.cells f 31 true)
  g7 : Hb.get b7 = some (.cells g 31 true)
  g8 : Hb.get b8 = some (.cells [.int .i64 mb] 3 true)
  g9 : Hb.get b9 = some (.cells [.bool down] 4 true)
theorem WFix.ext {Hb H : AHeap} {f g : List Value} {mb far lim : Int} {down : Bool} {b5 b6 b7 b8 b9 : Nat} (h : WFix Hb f g mb far lim down b5 b6 b7 b8 b9) (hx : Hx Hb H) : WFix H f g mb far lim down b5 b6 b7 b8 b9 :=
  ⟨hx _ _ h.g5, hx _ _ h.g6, hx _ _ h.g7, hx _ _ h.g8, hx _ _ h.g9⟩

theorem fb0 : fb 0 = 0 := by kernel_rfl
theorem mem_mid {f : List Value} {o n i : Nat} (h1 : o ≤ i) (h2 : i < o + n) (hi : i < f.length) : f[i] ∈ (f.drop o).take n := by
  refine List.mem_iff_getElem?.2 ⟨i - o, ?_⟩
  rw [List.getElem?_take, if_pos (by omega), List.getElem?_drop, show o + (i - o) = i by omega, List.getElem?_eq_getElem hi]
theorem Plane.nj {H : AHeap} {p : List Value} {W Hh : Int} {xs : List Int} (h : Plane H p W Hh xs) : ∀ v ∈ p, nj v = true := by
  obtain ⟨⟨b, rfl, _⟩, _⟩ := h
  simp [Am.nj]
theorem FrameOK.nj {H : AHeap} {f : List Value} {C R : Int} {ys us vs : List Int} (h : FrameOK H f C R ys us vs) : f.all nj = true := by
  refine List.all_eq_true.2 fun v hv => ?_
  obtain ⟨i, hi, rfl⟩ := List.getElem_of_mem hv
  have hl := h.len
  by_cases h2 : i < 2
  · have : i = 0 ∨ i = 1 := by omega
    rcases this with rfl | rfl
    · have := h.c; rw [List.getElem?_eq_getElem hi] at this; rw [Option.some.inj this]; rfl
    · have := h.r; rw [List.getElem?_eq_getElem hi] at this; rw [Option.some.inj this]; rfl
  · by_cases h5 : i < 5
    · exact h.y.nj _ (mem_mid (by omega) (by omega) hi)
    · by_cases h8 : i < 8
      · exact h.u.nj _ (mem_mid (by omega) (by omega) hi)
      · exact h.v.nj _ (mem_mid (by omega) (by omega) hi)

/-- a try that finds none better than the first, 0 -/
theorem s32 {Hb H : AHeap} {f g : List Value} {C R : Int} {ys us vs zs us' vs' : List Int} {mb far : Int} {down : Bool} {b5 b6 b7 b8 b9 b13 b14 b15 bl : Nat} {e : TypeId} {c : Bool} {L : List (Int × Int)} {Q : Value → AHeap → Prop}
    (hf : FrameOK Hb f C R ys us vs) (hg : FrameOK Hb g C R zs us' vs') (hm : 0 ≤ mb ∧ mb ≤ 64) (hW : WFix Hb f g mb far 0 down b5 b6 b7 b8 b9) (h3 : W3 Hb H b13 b14 b15 0 0 0 c)
    (hl : Hb.get bl = some (.cells (L.map vecP) e true) ∨ L = []) (hL : ∀ p ∈ L, right p.1 p.2 = true) (hLl : L.length ≤ 10000) (h0 : wsum (qD C R ys zs mb down) 0 0 4 = 0) (hc : c = true ∨ ∀ p ∈ L, p = (0, 0))
    (hQ : ∀ H', W3 Hb H' b13 b14 b15 0 0 0 (c || decide (0 < L.length)) → Q (.tuple ⟨[]⟩) H') {a : Option Addr} (ha : a = some ⟨bl, 0, none⟩ ∨ L = []) {z : Nat} :
    call Try.prog 32 [.slice a L.length z, .pointer (some ⟨b5, 0, none⟩), .pointer (some ⟨b6, 0, none⟩), .pointer (some ⟨b8, 0, none⟩), .pointer (some ⟨b7, 0, none⟩), .pointer (some ⟨b9, 0, none⟩), .pointer (some ⟨b15, 0, none⟩), .pointer (some ⟨b14, 0, none⟩), .pointer (some ⟨b13, 0, none⟩)] H Q := by
  have hfl := hf.len
  have hgl := hg.len
  have hcc := hf.hc
  have hD := qD_ok (mb := mb) (down := down) hf hg
  refine c32 ?_
  simp only [f32, g32, inSl_c, inP_c, nilK_c]
  refine lp (σ := Nat) (fun i => [.pointer (some ⟨b5, 0, none⟩), .pointer (some ⟨b6, 0, none⟩), .pointer (some ⟨b8, 0, none⟩), .pointer (some ⟨b7, 0, none⟩), .pointer (some ⟨b9, 0, none⟩), .pointer (some ⟨b15, 0, none⟩), .pointer (some ⟨b14, 0, none⟩), .pointer (some ⟨b13, 0, none⟩), .slice a L.length z, .int .i64 (L.length : Nat), .int .i64 (i : Nat)])
    (fun _ => []) (fun i H' => W3 Hb H' b13 b14 b15 0 0 0 (c || decide (0 < i)) ∧ i ≤ L.length) (fun i _ => L.length - i) 0 rfl rfl ⟨by simpa using h3, by omega⟩ ?_
  rintro i H' kk ⟨hS, hi⟩ hkk
  simp only [f32_l1, g32_l1, inSl_c, inP_c, inI_c, nilK_c, nilX_c]
  refine bdec (fun h => ?_) (fun h => ?_)
  · have hil : i < L.length := by omega
    have hne : L ≠ [] := by rintro rfl; simp at hil
    obtain rfl : a = some ⟨bl, 0, none⟩ := ha.resolve_right hne
    have hl' := hS.ext _ _ (hl.resolve_right hne)
    have hr := hL L[i] (List.getElem_mem _)
    have hcp : c = true ∨ L[i] = (0, 0) := hc.imp_right fun h => h _ (List.getElem_mem _)
    generalize hp : L[i] = p at *
    have hget : (L.map vecP)[i]? = some (.complex .f64 (fb p.1) (fb p.2)) := by
      rw [List.getElem?_map, List.getElem?_eq_getElem hil, hp]; rfl
    have hr' : (-31 ≤ p.1 ∧ p.1 ≤ 31) ∧ (-31 ≤ p.2 ∧ p.2 ≤ 31) := by
      simpa only [right, right1, Bool.and_eq_true, decide_eq_true_eq] using hr
    have e3 : (i : Int).toNat * 1 = i := by simp
    have hB := hW.ext hS.ext
    have h7 : ∀ H'', W3 Hb H'' b13 b14 b15 0 0 0 (c || decide (0 < i + 1)) → f32_7 Q (upK kb0 1 kk) [.pointer (some ⟨b5, 0, none⟩), .pointer (some ⟨b6, 0, none⟩), .pointer (some ⟨b8, 0, none⟩), .pointer (some ⟨b7, 0, none⟩), .pointer (some ⟨b9, 0, none⟩), .pointer (some ⟨b15, 0, none⟩), .pointer (some ⟨b14, 0, none⟩), .pointer (some ⟨b13, 0, none⟩), .slice (some ⟨bl, 0, none⟩) L.length z, .int .i64 (L.length : Nat), .int .i64 (i : Nat)] [] H'' := by
      intro H'' h''
      simp only [f32_7, g32_7, inSl_c, inP_c, inI_c, nilK_c, nilX_c]
      rw [wn (by omega), upK_same]
      exact hkk (i + 1) H'' ⟨h'', by omega⟩ (by omega)
    have e2 : ∀ K, rH 2 [.int .i64 far, .int .i64 0] 0 K ↔ K [.int .i64 far, .int .i64 0] := fun K => rH_all rfl rfl
    simp only [f32_2, g32_2, inSl_c, inP_c, inI_c, nilK_c, nilX_c, hp_c, aidx_c, e3, rdH_s hl', rC_s hget, rdH_s hB.g5, rdH_s hB.g6, rdH_s hB.g7, rdH_s hB.g8, rdH_s hB.g9, e2, rI_s hf.c, Nat.zero_add, rI_z, asI_c]
    refine ⟨by omega, c10 ?_⟩
    simp only [f10, g10, inC_c, nilK_c]
    show asA 4 (.agg ⟨vs4 (fun _ => p.1) (fun _ => p.2)⟩) _
    simp only [asA_c, vs4_len, true_and, andK_c, rdH_s hB.g5, rdH_s hB.g6, rdH_s hB.g8, e2, rI_s hf.c, rI_z, asI_c]
    refine s20 (by omega) (by omega) (fun _ _ => by omega) (fun _ _ => by omega) ?_
    have ho : okv C mb 0 (fun _ => p.1) = true := by simp [okv]
    simp only [asB_c]
    refine bcase (fun hb => by rw [ho] at hb; cases hb) (fun _ => ?_)
    simp only [f32_4, g32_4, inSl_c, inP_c, inI_c, inC_c, nilK_c, nilX_c, hp_c, rdH_s hB.g6, rdH_s hB.g7, rdH_s hB.g8, rdH_s hB.g9, rH_all hfl hf.nj, rH_all hgl hg.nj, rI_z, asI_c, rB_z, asB_c]
    refine s33 (hf.ext hS.ext) (hg.ext hS.ext) hm (by omega) (by omega) ?_
    have hw := wsum_rng hD p.1 p.2 4
    simp only [asI_c, rdH_s hS.g3, rB_z, asB_c]
    refine bcase (fun hb => ?_) (fun hb => ?_)
    · have hcf : c = false := by
        cases c
        · rfl
        · simp at hb
      have hp0 : p = (0, 0) := hcp.resolve_left (by rw [hcf]; simp)
      subst hp0
      have q1 : (H'.put b13 (.cells [.complex .f64 (fb 0) (fb 0)] 34 true)).get b14 = some (.cells [.int .i64 0] 3 true) := by
        rw [put_get, if_neg (Ne.symm hS.d12)]; exact hS.g2
      have q2 : ((H'.put b13 (.cells [.complex .f64 (fb 0) (fb 0)] 34 true)).put b14 (.cells [.int .i64 0] 3 true)).get b15 = some (.cells [.bool (c || decide (0 < i))] 4 true) := by
        rw [put_get, if_neg (Ne.symm hS.d23), put_get, if_neg (Ne.symm hS.d13)]; exact hS.g3
      simp only [hp_c, wrH_s hS.g1, gd_simp, List.set_cons_zero, h0, wrH_s q1, wrH_s q2]
      refine ⟨by simp, by simp, by simp, h7 _ ?_⟩
      have : (c || decide (0 < i + 1)) = true := by simp
      rw [this]
      exact hS.put
    · simp only [rdH_s hS.g2, rI_z, asI_c]
      refine bdec (fun h => by omega) (fun _ => h7 _ ?_)
      have hb' : (c || decide (0 < i)) = true := by
        cases h : (c || decide (0 < i)) with
        | true => rfl
        | false => rw [h] at hb; cases hb
      have : (c || decide (0 < i + 1)) = true := by simp
      rw [this, ← hb']
      exact hS
  · have : i = L.length := by omega
    subst this
    exact hQ H' hS

theorem self0 {C R : Int} {ys : List Int} (mb : Int) (down : Bool) (k : Nat) : qD C R ys ys mb down k 0 0 = 0 := by
  have h : ∀ i, qS C R ys mb k i = qT C R ys mb k 0 0 down i := by
    intro i
    unfold qS qT betw
    have h1 : ∀ n : Int, (2 * n + 0) % 2 = 0 := fun n => by omega
    have h2 : ∀ n : Int, (2 * n + 0) / 2 = n := fun n => by omega
    simp only [h1, h2, if_true]
  have : ∀ i, dsum (qS C R ys mb k) (qT C R ys mb k 0 0 down) i = 0 := by
    intro i
    induction i with
    | zero => rfl
    | succ i ih => simp only [dsum, ih, h i]; omega
  exact this 64

theorem s16 {H0 : AHeap} {f : List Value} {C R : Int} {ys us vs : List Int} {mb : Int} {down : Bool} {Q : Value → AHeap → Prop} (hf : FrameOK H0 f C R ys us vs) (hm : 0 ≤ mb ∧ mb ≤ 64)
    (hQ : ∀ H', Hx H0 H' → Q (.tuple ⟨[.complex .f64 0 0, .int .i64 0, .bool true]⟩) H') : call Try.prog 16 [.agg ⟨[.int .i64 1, .int .i64 0]⟩, .agg ⟨f⟩, .agg ⟨f⟩, .int .i64 mb, .bool down] H0 Q := by
  have hfl := hf.len
  have hw0 : wsum (qD C R ys ys mb down) 0 0 4 = 0 := by simp [wsum, self0]
  refine c16 ?_
  simp only [f16, g16, inA_c, inI_c, inB_c, nilK_c, gd_simp, hfl, true_and]
  refine ⟨rfl, rfl, ?_⟩
  intro b5 n5
  have x5 : Hx H0 (H0.put b5 (.cells [.int .i64 1, .int .i64 0] 40 true)) := (Hx.refl H0).put n5 _
  have g5 : (H0.put b5 (.cells [.int .i64 1, .int .i64 0] 40 true)).get b5 = some (.cells [.int .i64 1, .int .i64 0] 40 true) := by simp
  generalize H0.put b5 (.cells [.int .i64 1, .int .i64 0] 40 true) = H1 at *
  intro b6 n6
  have x6 : Hx H1 (H1.put b6 (.cells f 31 true)) := (Hx.refl H1).put n6 _
  have g6 : (H1.put b6 (.cells f 31 true)).get b6 = some (.cells f 31 true) := by simp
  generalize H1.put b6 (.cells f 31 true) = H2 at *
  intro b7 n7
  have x7 : Hx H2 (H2.put b7 (.cells f 31 true)) := (Hx.refl H2).put n7 _
  have g7 : (H2.put b7 (.cells f 31 true)).get b7 = some (.cells f 31 true) := by simp
  generalize H2.put b7 (.cells f 31 true) = H3 at *
  intro b8 n8
  have x8 : Hx H3 (H3.put b8 (.cells [.int .i64 mb] 3 true)) := (Hx.refl H3).put n8 _
  have g8 : (H3.put b8 (.cells [.int .i64 mb] 3 true)).get b8 = some (.cells [.int .i64 mb] 3 true) := by simp
  generalize H3.put b8 (.cells [.int .i64 mb] 3 true) = H4 at *
  intro b9 n9
  have x9 : Hx H4 (H4.put b9 (.cells [.bool down] 4 true)) := (Hx.refl H4).put n9 _
  have g9 : (H4.put b9 (.cells [.bool down] 4 true)).get b9 = some (.cells [.bool down] 4 true) := by simp
  generalize H4.put b9 (.cells [.bool down] 4 true) = H5 at *
  have hW : WFix H5 f f mb 1 0 down b5 b6 b7 b8 b9 := ⟨x9 _ _ (x8 _ _ (x7 _ _ (x6 _ _ g5))), x9 _ _ (x8 _ _ (x7 _ _ g6)), x9 _ _ (x8 _ _ g7), x9 _ _ g8, g9⟩
  have x05 : Hx H0 H5 := (((x5.trans x6).trans x7).trans x8).trans x9
  clear x5 x6 x7 x8 x9 g5 g6 g7 g8 g9 n5 n6 n7 n8 n9
  intro b13 n13 b14 n14 b15 n15
  have h3 : W3 H5 (((H5.put b13 (.cells [.complex .f64 (fb 0) (fb 0)] 34 true)).put b14 (.cells [.int .i64 0] 3 true)).put b15 (.cells [.bool false] 4 true)) b13 b14 b15 0 0 0 false := by
    have m1 : b14 ≠ b13 := by rintro rfl; simp at n14
    have m2 : b15 ≠ b14 := by rintro rfl; simp at n15
    have m3 : b15 ≠ b13 := by
      rintro rfl
      rw [put_get, if_neg (Ne.symm m1)] at n15; simp at n15
    have k14 : H5.get b14 = none := by rw [put_get, if_neg m1] at n14; exact n14
    have k15 : H5.get b15 = none := by rw [put_get, if_neg m2, put_get, if_neg m3] at n15; exact n15
    refine ⟨(((Hx.refl H5).put n13 _).put k14 _).put k15 _, n13, k14, k15, Ne.symm m1, Ne.symm m3, Ne.symm m2, ?_, ?_, ?_⟩
    · simp [Ne.symm m1, Ne.symm m3]
    · simp [Ne.symm m2]
    · simp
  rw [fb0] at h3
  generalize ((H5.put b13 (.cells [.complex .f64 0 0] 34 true)).put b14 (.cells [.int .i64 0] 3 true)).put b15 (.cells [.bool false] 4 true) = H8 at *
  have g13 := h3.g1
  rw [fb0] at g13
  have g14 : (H8.put b13 (.cells [.complex .f64 0 0] 34 true)).get b14 = some (.cells [.int .i64 0] 3 true) := by rw [put_get, if_neg (Ne.symm h3.d12)]; exact h3.g2
  have g15 : ((H8.put b13 (.cells [.complex .f64 0 0] 34 true)).put b14 (.cells [.int .i64 0] 3 true)).get b15 = some (.cells [.bool false] 4 true) := by
    rw [put_get, if_neg (Ne.symm h3.d23), put_get, if_neg (Ne.symm h3.d13)]; exact h3.g3
  simp only [wrH_s g13, gd_simp, List.set_cons_zero, wrH_s g14, wrH_s g15]
  refine ⟨by simp, by simp, by simp, ?_⟩
  have h4 : W3 H5 (((H8.put b13 (.cells [.complex .f64 0 0] 34 true)).put b14 (.cells [.int .i64 0] 3 true)).put b15 (.cells [.bool false] 4 true)) b13 b14 b15 0 0 0 false := by
    have := h3.put (x' := 0) (y' := 0) (l' := 0) (c' := false)
    rwa [fb0] at this
  generalize ((H8.put b13 (.cells [.complex .f64 0 0] 34 true)).put b14 (.cells [.int .i64 0] 3 true)).put b15 (.cells [.bool false] 4 true) = H9 at *
  have hB := hW.ext h4.ext
  simp only [rdH_s hB.g5, rI_z, asI_c, mxI_c, mnI_c]
  intro b24 n24
  have h5 := h4.new n24 (.cells [.complex .f64 0 0] 34 true)
  have x59 : Hx H5 (H5.put b24 (.cells [.complex .f64 0 0] 34 true)) := (Hx.refl H5).put (h4.ext.non n24) _
  have gl : (H5.put b24 (.cells [.complex .f64 0 0] 34 true)).get b24 = some (.cells [.complex .f64 0 0] 34 true) := by simp
  generalize H9.put b24 (.cells [.complex .f64 0 0] 34 true) = H10 at *
  generalize H5.put b24 (.cells [.complex .f64 0 0] 34 true) = B1 at *
  have ev0 : [Value.complex .f64 0 0] = [((0 : Int), (0 : Int))].map vecP := by simp [vecP, vec, fb0]
  rw [ev0] at gl
  refine s32 (L := [(0, 0)]) (hf.ext (x05.trans x59)) (hf.ext (x05.trans x59)) hm (hW.ext x59) h5 (.inl gl) (by simp [right, right1]) (by simp) hw0 (.inr (by simp)) (fun H11 h6 => ?_) (.inl rfl)
  simp only [tupK_c, nilK_c]
  have hB := (hW.ext x59).ext h6.ext
  have e2 : ∀ K, rH 2 [.int .i64 1, .int .i64 0] 0 K ↔ K [.int .i64 1, .int .i64 0] := fun K => rH_all rfl rfl
  have emm : IntKind.wrap .i64 (2 * min (max (1 : Int) 0) 15) = 2 := by rw [w64 (by omega) (by omega)]; omega
  simp only [rdH_s hB.g5, e2, emm]
  have hz : (Value.complex .f64 0 0) = .complex .f64 (fb 0) (fb 0) := by rw [fb0]
  rw [hz]
  refine s22 (by decide) (by decide) (.inr rfl) (by decide) fun H12 a n z hS => ?_
  simp only [asSl_c]
  obtain ⟨h7, x7⟩ := h6.grow hS.ext
  have x07 := (x05.trans x59).trans x7
  have hLl := stepsO_len 0 0 2 2 (nst 2 2) (nst 2 2)
  have hst := stepsO_right (x := 0) (y := 0) (by_ := 2) (far := 2) (N := nst 2 2) (i := nst 2 2)
  generalize stepsO 0 0 2 2 (nst 2 2) (nst 2 2) = L at *
  have hn25 : nst 2 2 * nst 2 2 ≤ 10000 := by decide
  have hsl : ∃ bl, n = L.length ∧ ((kill3 H12 b13 b14 b15).get bl = some (.cells (L.map vecP) 34 true) ∨ L = []) ∧ (a = some ⟨bl, 0, none⟩ ∨ L = []) := by
    rcases hS.at' with ⟨q1, q2, q3, q4⟩ | ⟨b, q1, q2, q3, q4, q5⟩
    · have := List.map_eq_nil_iff.1 q1
      subst this
      exact ⟨0, q3, .inr rfl, .inr rfl⟩
    · refine ⟨b, by simpa using q2.symm, .inl ?_, .inl q1⟩
      rw [kill3_get ?_ ?_ ?_]
      · exact q4
      · rintro rfl; rw [h6.g1] at q5; cases q5
      · rintro rfl; rw [h6.g2] at q5; cases q5
      · rintro rfl; rw [h6.g3] at q5; cases q5
  obtain ⟨bl, rfl, k1, k2⟩ := hsl
  refine s32 (L := L) (hf.ext x07) (hf.ext x07) hm (hW.ext (x59.trans x7)) h7 k1 hst (by omega) hw0 (.inl rfl) (fun H13 h8 => ?_) k2
  simp only [tupK_c, nilK_c, rdH_s h8.g3, rB_z, asB_c]
  have hB := (hW.ext (x59.trans x7)).ext h8.ext
  refine bcase (fun _ => ?_) (fun hf => by simp at hf)
  simp only [rdH_s hB.g5, e2, rdH_s h8.g1, rC_z, asC_c]
  refine s22 (by decide) (by decide) (.inl rfl) (by decide) fun H14 a n z hS => ?_
  simp only [asSl_c]
  obtain ⟨h9, x9⟩ := h8.grow hS.ext
  have x09 := x07.trans x9
  have hLl := stepsO_len 0 0 1 1 (nst 1 1) (nst 1 1)
  have hst := stepsO_right (x := 0) (y := 0) (by_ := 1) (far := 1) (N := nst 1 1) (i := nst 1 1)
  generalize stepsO 0 0 1 1 (nst 1 1) (nst 1 1) = L at *
  have hn25 : nst 1 1 * nst 1 1 ≤ 10000 := by decide
  have hsl : ∃ bl, n = L.length ∧ ((kill3 H14 b13 b14 b15).get bl = some (.cells (L.map vecP) 34 true) ∨ L = []) ∧ (a = some ⟨bl, 0, none⟩ ∨ L = []) := by
    rcases hS.at' with ⟨q1, q2, q3, q4⟩ | ⟨b, q1, q2, q3, q4, q5⟩
    · have := List.map_eq_nil_iff.1 q1
      subst this
      exact ⟨0, q3, .inr rfl, .inr rfl⟩
    · refine ⟨b, by simpa using q2.symm, .inl ?_, .inl q1⟩
      rw [kill3_get ?_ ?_ ?_]
      · exact q4
      · rintro rfl; rw [h8.g1] at q5; cases q5
      · rintro rfl; rw [h8.g2] at q5; cases q5
      · rintro rfl; rw [h8.g3] at q5; cases q5
  obtain ⟨bl, rfl, k1, k2⟩ := hsl
  refine s32 (L := L) (hf.ext x09) (hf.ext x09) hm (hW.ext ((x59.trans x7).trans x9)) h9 k1 hst (by omega) hw0 (.inl (by simp)) (fun H15 h10 => ?_) k2
  simp only [tupK_c, nilK_c, f16_8, g16_8, inP_c, nilX_c, hp_c, rdH_s h10.g1, rdH_s h10.g2, rdH_s h10.g3, rC_z, rI_z, rB_z, asC_c, asI_c, asB_c, fb0]
  have := hQ H15 (x09.trans h10.ext)
  simpa using this

theorem s4 {H0 : AHeap} {Q : Value → AHeap → Prop} (hQ : ∀ H', Hx H0 H' → Q (.bool true) H') : call Try.prog 4 [] H0 Q := by
  refine c4 ?_
  simp only [f4, g4, nilK_c]
  refine s15 (BW.refl H0) (by decide) (by decide) (by decide) fun H1 b1 b2 b3 F hF => ?_
  obtain ⟨ys, us, vs, ok⟩ := hF.ok (by decide) (by decide)
  simp only [asA_c, fv_len, true_and, gd_simp]
  refine ⟨by decide, ?_⟩
  rw [stC_all (by rfl), rA_all (fv_len _ _ _ _ _), rA_all (fv_len _ _ _ _ _)]
  refine s16 ok (by decide) fun H2 h2 => ?_
  have e : (fEq .f64 0 0 && fEq .f64 0 0) = true := by kernel_rfl
  simp only [tupK_c, inC_c, inI_c, inB_c, nilK_c]
  refine bcase (fun _ => bcase (fun _ => ?_) (fun hb => by rw [e] at hb; cases hb)) (fun hb => by cases hb)
  exact hQ H2 (hF.bw.ext.trans h2)
end Go.Am
