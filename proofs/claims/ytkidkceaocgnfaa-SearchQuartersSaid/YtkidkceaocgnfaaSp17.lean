/- A part of the proof: Sp17. -/
import Derived.Test.YtkidkceaocgnfaaSp16
/- Sp17: SearchQuarters is true. -/
set_option linter.all false
set_option maxRecDepth 100000
namespace Go.Am
open Go.Proofs
theorem rAll_true {X Y : Nat → Int} {n : Nat} : (∀ i, i < n → right (X i) (Y i) = true) → rAll X Y n = true := by
  induction n with
  | zero => intro _; rfl
  | succ n ih => intro h; simp only [rAll, ih (fun i hi => h i (by omega)), h n (by omega), Bool.and_self]
theorem rAll_iff {X Y : Nat → Int} (hX : R31 X) (hY : R31 Y) : rAll X Y 4 = true := rAll_true fun i hi => by
  have h1 := hX i hi
  have h2 := hY i hi
  simp only [right, right1, Bool.and_eq_true, decide_eq_true_eq]
  exact ⟨h1, h2⟩
theorem mayV_all {C mb lim : Int} {X Y : Nat → Int} (hX : R31 X) (hY : R31 Y) : mayV C mb lim X Y = okv C mb lim X := by
  unfold mayV; rw [rAll_iff hX hY, Bool.true_and]
theorem mayV_upd {C mb lim : Int} {X Y : Nat → Int} {k : Nat} {x y : Int} (hX : R31 X) (hY : R31 Y) (hk : k < 4) : mayV C mb lim (upd X k x) (upd Y k y) = (right x y && okv C mb lim (upd X k x)) := by
  by_cases hr : right x y = true
  · have hr' : (-31 ≤ x ∧ x ≤ 31) ∧ (-31 ≤ y ∧ y ≤ 31) := by
      simpa only [right, right1, Bool.and_eq_true, decide_eq_true_eq] using hr
    rw [mayV_all (hX.upd hr'.1) (hY.upd hr'.2), hr, Bool.true_and]
  · have hf : right x y = false := by simpa using hr
    have : right (upd X k x k) (upd Y k y k) = false := by simpa [upd] using hf
    unfold mayV
    rw [rAll_false this 4 hk, hf, Bool.false_and]

section
variable {f g : List Value} {C R : Int} {ys us vs zs us' vs' : List Int} {mb lim cx cy : Int} {down : Bool} {H0 : AHeap} {Q : Value → AHeap → Prop}
def lA (down : Bool) (mb cx cy lim sum : Int) : List Value := [.bool down, .int .i64 mb, .complex .f64 (fb cx) (fb cy), .int .i64 lim, .int .i64 sum, .bool true]
def lB (f g : List Value) (got : List Value) (X Y : Nat → Int) : List (List Value) := [f, g, got, vs4 X Y]

/-- one try of the law's -/
theorem k26 {kb : KB} {H : AHeap} {k : Nat} {dx dy all sum : Int} {s : V4} {got : List Value} (hf : FrameOK H0 f C R ys us vs) (hg : FrameOK H0 g C R zs us' vs') (hm : 0 ≤ mb ∧ mb ≤ 64) (hx : Hx H0 H) (hcx : -31 ≤ cx ∧ cx ≤ 31) (hcy : -31 ≤ cy ∧ cy ≤ 31)
    (hk : k < 4) (hdx : -2 ≤ dx ∧ dx ≤ 2) (hdy : -2 ≤ dy ∧ dy ≤ 2) (hs : QOK s)
    (h : ∀ H' (s' : V4), Hx H0 H' → s' = qrun C mb lim (qD C R ys zs mb down k) k s (if right (cx + dx) (cy + dy) = true then [(cx + dx, cy + dy)] else []) →
      kb 24 (lA down mb cx cy lim sum ++ [.int .i64 all, .int .i64 cx, .int .i64 cy, .int .i64 (k : Nat), .int .i64 s'.2.2, .int .i64 dy, .int .i64 (dx + 1), .int .i64 (k : Nat)]) (lB f g got s'.1 s'.2.1) H') :
    f3_26 Q kb (lA down mb cx cy lim sum ++ [.int .i64 all, .int .i64 cx, .int .i64 cy, .int .i64 (k : Nat), .int .i64 s.2.2, .int .i64 dy, .int .i64 dx, .int .i64 (k : Nat)]) (lB f g got s.1 s.2.1) H := by
  have hfl := hf.len
  have hgl := hg.len
  have hc := hf.hc
  have h25 : ∀ H' (s' : V4), Hx H0 H' → s' = qrun C mb lim (qD C R ys zs mb down k) k s (if right (cx + dx) (cy + dy) = true then [(cx + dx, cy + dy)] else []) →
      f3_25 Q kb (lA down mb cx cy lim sum ++ [.int .i64 all, .int .i64 cx, .int .i64 cy, .int .i64 (k : Nat), .int .i64 s'.2.2, .int .i64 dy, .int .i64 dx, .int .i64 (k : Nat)]) (lB f g got s'.1 s'.2.1) H' := by
    intro H' s' h1 h2
    simp only [lA, lB, List.cons_append, List.nil_append, f3_25, g3_25, inI_c, inC_c, inB_c, nilK_c, inX_c, nilX_c]
    rw [w64 (x := dx + 1) (by omega) (by omega)]
    exact h H' s' h1 h2
  have e4 : 0 + (k : Int).toNat * 1 = k := by simp
  have ez : stC [.complex .f64 0 0, .complex .f64 0 0, .complex .f64 0 0, .complex .f64 0 0] 0 (vs4 s.1 s.2.1) = vs4 s.1 s.2.1 := stC_all rfl
  have ev : (vs4 s.1 s.2.1).set k (.complex .f64 (fb (cx + dx)) (fb (cy + dy))) = vs4 (upd s.1 k (cx + dx)) (upd s.2.1 k (cy + dy)) := vs4_set _ _ hk _ _
  have hX : B64 (upd s.1 k (cx + dx)) := fun i hi => by
    unfold upd; split
    · omega
    · have := hs.x i hi; omega
  have hY : B64 (upd s.2.1 k (cy + dy)) := fun i hi => by
    unfold upd; split
    · omega
    · have := hs.y i hi; omega
  have hset : (vs4 (upd s.1 k (cx + dx)) (upd s.2.1 k (cy + dy)))[k]? = some (.complex .f64 (fb (cx + dx)) (fb (cy + dy))) := by
    rw [vs4_get _ _ hk]; simp [upd]
  simp only [lA, lB, List.cons_append, List.nil_append, f3_26, g3_26, inI_c, inC_c, inB_c, nilK_c, inX_c, nilX_c, rA_all (vs4_len _ _), gd_simp, vs4_len]
  refine ⟨⟨trivial, by decide⟩, ?_⟩
  rw [w64 (x := cx + dx) (by omega) (by omega), w64 (x := cy + dy) (by omega) (by omega)]
  refine s14 ?_
  simp only [asC_c, aidx_c, gd_simp, ez, vs4_len, e4, rI_s hf.c]
  refine ⟨by omega, by omega, ?_⟩
  rw [ev, rA_all (vs4_len _ _)]
  refine s11 (by omega) (by omega) hX hY fun H1 h1 => ?_
  have hmv := mayV_upd (C := C) (mb := mb) (lim := lim) (x := cx + dx) (y := cy + dy) hs.x hs.y hk
  simp only [asB_c]
  refine bcase (fun hb => ?_) (fun hb => ?_)
  · refine h25 H1 s (hx.trans h1) ?_
    have hb' : mayV C mb lim (upd s.1 k (cx + dx)) (upd s.2.1 k (cy + dy)) = false := by simpa using hb
    rw [hmv] at hb'
    by_cases hr : right (cx + dx) (cy + dy) = true
    · rw [if_pos hr]
      rw [hr, Bool.true_and] at hb'
      simp only [qrun, List.foldl_cons, List.foldl_nil, qstep]
      rw [if_neg (by rw [hb']; simp)]
    · rw [if_neg hr]; rfl
  · have hb' : mayV C mb lim (upd s.1 k (cx + dx)) (upd s.2.1 k (cy + dy)) = true := by simpa using hb
    rw [hmv, Bool.and_eq_true] at hb'
    obtain ⟨hr, ho⟩ := hb'
    simp only [f3_29, g3_29, inI_c, inC_c, inB_c, nilK_c, inX_c, nilX_c, rA_all hfl, rA_all hgl, aidx_c, e4, rC_s hset]
    refine ⟨by omega, s13 (hf.ext (hx.trans h1)) (hg.ext (hx.trans h1)) hm (by omega) (by omega) (by omega) ?_⟩
    have ed : dist C R ys zs mb (k : Int) (cx + dx) (cy + dy) down = qD C R ys zs mb down k (cx + dx) (cy + dy) := rfl
    simp only [asI_c, ed]
    refine bdec (fun hlt => ?_) (fun hlt => ?_)
    · rw [rA_all (vs4_len _ _)]
      simp only [gd_simp, vs4_len]
      refine ⟨⟨trivial, by decide⟩, ?_⟩
      rw [stC_all (by rw [vs4_len, vs4_len])]
      refine h25 H1 (upd s.1 k (cx + dx), upd s.2.1 k (cy + dy), qD C R ys zs mb down k (cx + dx) (cy + dy)) (hx.trans h1) ?_
      rw [if_pos hr]
      simp only [qrun, List.foldl_cons, List.foldl_nil, qstep]
      rw [if_pos ⟨hlt, ho⟩]
    · refine h25 H1 s (hx.trans h1) ?_
      rw [if_pos hr]
      simp only [qrun, List.foldl_cons, List.foldl_nil, qstep]
      rw [if_neg (fun h => hlt h.1)]

theorem qrun_append {C mb lim : Int} {D : Int → Int → Int} {k : Nat} {s : V4} {L M : List (Int × Int)} : qrun C mb lim D k s (L ++ M) = qrun C mb lim D k (qrun C mb lim D k s L) M := List.foldl_append

/-- the row dy -/
theorem k23 {kb : KB} {H : AHeap} {k : Nat} {dy all sum : Int} {s : V4} {got : List Value} (hf : FrameOK H0 f C R ys us vs) (hg : FrameOK H0 g C R zs us' vs') (hm : 0 ≤ mb ∧ mb ≤ 64) (hx : Hx H0 H) (hcx : -31 ≤ cx ∧ cx ≤ 31) (hcy : -31 ≤ cy ∧ cy ≤ 31)
    (hk : k < 4) (hdy : -2 ≤ dy ∧ dy ≤ 2) (hs : QOK s)
    (h : ∀ H' (s' : V4), Hx H0 H' → s' = qrun C mb lim (qD C R ys zs mb down k) k s (stepsI cx cy 1 2 dy 5) →
      kb 21 (lA down mb cx cy lim sum ++ [.int .i64 all, .int .i64 cx, .int .i64 cy, .int .i64 (k : Nat), .int .i64 s'.2.2, .int .i64 (dy + 1), .int .i64 (k : Nat)]) (lB f g got s'.1 s'.2.1) H') :
    f3_23 Q kb (lA down mb cx cy lim sum ++ [.int .i64 all, .int .i64 cx, .int .i64 cy, .int .i64 (k : Nat), .int .i64 s.2.2, .int .i64 dy, .int .i64 (k : Nat)]) (lB f g got s.1 s.2.1) H := by
  have hD := qD_ok (mb := mb) (down := down) hf hg
  simp only [lA, lB, List.cons_append, List.nil_append, f3_23, g3_23, inI_c, inC_c, inB_c, nilK_c, inX_c, nilX_c]
  refine lp (σ := Nat × V4) (fun p => lA down mb cx cy lim sum ++ [.int .i64 all, .int .i64 cx, .int .i64 cy, .int .i64 (k : Nat), .int .i64 p.2.2.2, .int .i64 dy, .int .i64 (-2 + 1 * (p.1 : Int)), .int .i64 (k : Nat)]) (fun p => lB f g got p.2.1 p.2.2.1)
    (fun p H' => Hx H0 H' ∧ p.1 ≤ 5 ∧ p.2 = qrun C mb lim (qD C R ys zs mb down k) k s (stepsI cx cy 1 2 dy p.1)) (fun p _ => 5 - p.1) (0, s) rfl rfl ⟨hx, by simp, rfl⟩ ?_
  rintro ⟨j, s'⟩ H' kk ⟨hx', hj, hs'⟩ hkk
  simp only at hj hs' hkk ⊢
  have hq : QOK s' := by rw [hs']; exact QOK.run (hD k) hs stepsI_right
  have e : f3_l24 Q (upK kb 24 kk) (lA down mb cx cy lim sum ++ [.int .i64 all, .int .i64 cx, .int .i64 cy, .int .i64 (k : Nat), .int .i64 s'.2.2, .int .i64 dy, .int .i64 (-2 + 1 * (j : Int)), .int .i64 (k : Nat)]) (lB f g got s'.1 s'.2.1) H' =
    bif (decide (-2 + 1 * (j : Int) ≤ 2)) then f3_26 Q (upK kb 24 kk) (lA down mb cx cy lim sum ++ [.int .i64 all, .int .i64 cx, .int .i64 cy, .int .i64 (k : Nat), .int .i64 s'.2.2, .int .i64 dy, .int .i64 (-2 + 1 * (j : Int)), .int .i64 (k : Nat)]) (lB f g got s'.1 s'.2.1) H'
    else f3_22 Q (upK kb 24 kk) (lA down mb cx cy lim sum ++ [.int .i64 all, .int .i64 cx, .int .i64 cy, .int .i64 (k : Nat), .int .i64 s'.2.2, .int .i64 dy, .int .i64 (k : Nat)]) (lB f g got s'.1 s'.2.1) H' := by
    simp only [lA, lB, List.cons_append, List.nil_append, f3_l24, g3_l24, inI_c, inC_c, inB_c, nilK_c, inX_c, nilX_c]
  rw [e]
  refine bdec (fun hle => ?_) (fun hle => ?_)
  · refine k26 hf hg hm hx' hcx hcy hk (by omega) hdy hq fun H'' s'' hx'' hs'' => ?_
    have e1 : -2 + 1 * (j : Int) + 1 = -2 + 1 * ((j + 1 : Nat) : Int) := by omega
    rw [upK_same, e1]
    refine hkk (j + 1, s'') H'' ⟨hx'', by simp; omega, ?_⟩ (by simp; omega)
    simp only
    rw [stepsI_succ, qrun_append, ← hs']
    exact hs''
  · have : j = 5 := by omega
    subst this
    simp only [lA, lB, List.cons_append, List.nil_append, f3_22, g3_22, inI_c, inC_c, inB_c, nilK_c, inX_c, nilX_c]
    rw [w64 (x := dy + 1) (by omega) (by omega), upK_ne (by decide)]
    exact h H' s' hx' hs'

/-- a quarter -/
theorem k18 {kb : KB} {H : AHeap} {k : Nat} {sum : Int} {got : List Value} {q : V4} {L : List (Int × Int)} (hf : FrameOK H0 f C R ys us vs) (hg : FrameOK H0 g C R zs us' vs') (hm : 0 ≤ mb ∧ mb ≤ 64) (hx : Hx H0 H) (hcx : -31 ≤ cx ∧ cx ≤ 31) (hcy : -31 ≤ cy ∧ cy ≤ 31)
    (hk : k < 4) (hL : L = stepsO cx cy 1 2 5 5) (hq : q = qall C mb lim (qD C R ys zs mb down) cx cy L k)
    (h : ∀ H', Hx H0 H' → kb 17 (lA down mb cx cy lim sum ++ [.int .i64 (qall C mb lim (qD C R ys zs mb down) cx cy L (k + 1)).2.2, .int .i64 cx, .int .i64 cy, .int .i64 (k + 1 : Nat)]) (lB f g got (qall C mb lim (qD C R ys zs mb down) cx cy L (k + 1)).1 (qall C mb lim (qD C R ys zs mb down) cx cy L (k + 1)).2.1) H') :
    f3_18 Q kb (lA down mb cx cy lim sum ++ [.int .i64 q.2.2, .int .i64 cx, .int .i64 cy, .int .i64 (k : Nat)]) (lB f g got q.1 q.2.1) H := by
  have hD := qD_ok (mb := mb) (down := down) hf hg
  have hfl := hf.len
  have hgl := hg.len
  have hLr : ∀ p ∈ L, right p.1 p.2 = true := by rw [hL]; exact stepsO_right
  obtain ⟨q1, q2, q3, q4⟩ := QOK.all (C := C) (mb := mb) (lim := lim) hD hcx hcy hLr k (by omega)
  rw [← hq] at q1 q2 q3 q4
  have hstep : qall C mb lim (qD C R ys zs mb down) cx cy L (k + 1) = ((qrun C mb lim (qD C R ys zs mb down k) k (q.1, q.2.1, qD C R ys zs mb down k cx cy) L).1, (qrun C mb lim (qD C R ys zs mb down k) k (q.1, q.2.1, qD C R ys zs mb down k cx cy) L).2.1, q.2.2 + (qrun C mb lim (qD C R ys zs mb down k) k (q.1, q.2.1, qD C R ys zs mb down k cx cy) L).2.2) := by rw [hq]; rfl
  have hq0 : QOK (q.1, q.2.1, qD C R ys zs mb down k cx cy) := ⟨q1, q2, hD k _ _⟩
  simp only [lA, lB, List.cons_append, List.nil_append, f3_18, g3_18, inI_c, inC_c, inB_c, nilK_c, inX_c, nilX_c, rA_all hfl, rA_all hgl]
  refine s13 (hf.ext hx) (hg.ext hx) hm (by omega) (by omega) (by omega) ?_
  have ed : dist C R ys zs mb (k : Int) cx cy down = qD C R ys zs mb down k cx cy := rfl
  simp only [asI_c, ed]
  refine lp (σ := Nat × V4) (fun p => lA down mb cx cy lim sum ++ [.int .i64 q.2.2, .int .i64 cx, .int .i64 cy, .int .i64 (k : Nat), .int .i64 p.2.2.2, .int .i64 (-2 + 1 * (p.1 : Int)), .int .i64 (k : Nat)]) (fun p => lB f g got p.2.1 p.2.2.1)
    (fun p H' => Hx H0 H' ∧ p.1 ≤ 5 ∧ p.2 = qrun C mb lim (qD C R ys zs mb down k) k (q.1, q.2.1, qD C R ys zs mb down k cx cy) (stepsO cx cy 1 2 5 p.1)) (fun p _ => 5 - p.1) (0, (q.1, q.2.1, qD C R ys zs mb down k cx cy)) rfl rfl ⟨hx, by simp, rfl⟩ ?_
  rintro ⟨i, s'⟩ H' kk ⟨hx', hi, hs'⟩ hkk
  simp only at hi hs' hkk ⊢
  have hqs : QOK s' := by rw [hs']; exact QOK.run (hD k) hq0 stepsO_right
  have e : f3_l21 Q (upK kb 21 kk) (lA down mb cx cy lim sum ++ [.int .i64 q.2.2, .int .i64 cx, .int .i64 cy, .int .i64 (k : Nat), .int .i64 s'.2.2, .int .i64 (-2 + 1 * (i : Int)), .int .i64 (k : Nat)]) (lB f g got s'.1 s'.2.1) H' =
    bif (decide (-2 + 1 * (i : Int) ≤ 2)) then f3_23 Q (upK kb 21 kk) (lA down mb cx cy lim sum ++ [.int .i64 q.2.2, .int .i64 cx, .int .i64 cy, .int .i64 (k : Nat), .int .i64 s'.2.2, .int .i64 (-2 + 1 * (i : Int)), .int .i64 (k : Nat)]) (lB f g got s'.1 s'.2.1) H'
    else f3_32 Q (upK kb 21 kk) (lA down mb cx cy lim sum ++ [.int .i64 q.2.2, .int .i64 cx, .int .i64 cy, .int .i64 s'.2.2, .int .i64 (k : Nat)]) (lB f g got s'.1 s'.2.1) H' := by
    simp only [lA, lB, List.cons_append, List.nil_append, f3_l21, g3_l21, inI_c, inC_c, inB_c, nilK_c, inX_c, nilX_c]
  rw [e]
  refine bdec (fun hle => ?_) (fun hle => ?_)
  · refine k23 hf hg hm hx' hcx hcy hk (by omega) hqs fun H'' s'' hx'' hs'' => ?_
    have e1 : -2 + 1 * (i : Int) + 1 = -2 + 1 * ((i + 1 : Nat) : Int) := by omega
    rw [upK_same, e1]
    refine hkk (i + 1, s'') H'' ⟨hx'', by simp; omega, ?_⟩ (by simp; omega)
    simp only [stepsO]
    rw [qrun_append, ← hs']
    exact hs''
  · have : i = 5 := by omega
    subst this
    rw [← hL] at hs'
    have hl := hqs.l
    rw [← hs'] at hstep
    have := h H' hx'
    rw [hstep] at this
    simp only [lA, lB, List.cons_append, List.nil_append, f3_32, g3_32, f3_33, g3_33, inI_c, inC_c, inB_c, nilK_c, inX_c, nilX_c]
    rw [w64 (x := q.2.2 + s'.2.2) (by omega) (by omega), wn (by omega), upK_ne (by decide)]
    exact this

theorem k14 {kb : KB} {H : AHeap} {L : List (Int × Int)} {q : V4} (hf : FrameOK H0 f C R ys us vs) (hg : FrameOK H0 g C R zs us' vs') (hm : 0 ≤ mb ∧ mb ≤ 64) (hx : Hx H0 H) (hcx : -31 ≤ cx ∧ cx ≤ 31) (hcy : -31 ≤ cy ∧ cy ≤ 31)
    (hL : L = stepsO cx cy 1 2 5 5) (hq : q = qall C mb lim (qD C R ys zs mb down) cx cy L 4) (hQ : ∀ H', Q (.bool true) H') :
    f3_14 Q kb (lA down mb cx cy lim q.2.2) (lB f g (vs4 q.1 q.2.1) (fun _ => cx) (fun _ => cy)) H := by
  have hD := qD_ok (mb := mb) (down := down) hf hg
  have hLr : ∀ p ∈ L, right p.1 p.2 = true := by rw [hL]; exact stepsO_right
  simp only [lA, lB, f3_14, g3_14, inI_c, inC_c, inB_c, nilK_c, inX_c, nilX_c]
  refine s12 (by omega) (by omega) ?_
  simp only [tupK_c, inI_c, nilK_c]
  refine lp (σ := Nat) (fun k => lA down mb cx cy lim q.2.2 ++ [.int .i64 (qall C mb lim (qD C R ys zs mb down) cx cy L k).2.2, .int .i64 cx, .int .i64 cy, .int .i64 (k : Nat)])
    (fun k => lB f g (vs4 q.1 q.2.1) (qall C mb lim (qD C R ys zs mb down) cx cy L k).1 (qall C mb lim (qD C R ys zs mb down) cx cy L k).2.1) (fun k H' => Hx H0 H' ∧ k ≤ 4) (fun k _ => 4 - k) 0 rfl rfl ⟨hx, by omega⟩ ?_
  rintro k H' kk ⟨hx', hk⟩ hkk
  have e : ∀ q' : V4, f3_l17 Q (upK kb 17 kk) (lA down mb cx cy lim q.2.2 ++ [.int .i64 q'.2.2, .int .i64 cx, .int .i64 cy, .int .i64 (k : Nat)]) (lB f g (vs4 q.1 q.2.1) q'.1 q'.2.1) H' =
    bif (decide ((k : Int) < 4)) then f3_18 Q (upK kb 17 kk) (lA down mb cx cy lim q.2.2 ++ [.int .i64 q'.2.2, .int .i64 cx, .int .i64 cy, .int .i64 (k : Nat)]) (lB f g (vs4 q.1 q.2.1) q'.1 q'.2.1) H'
    else f3_34 Q (upK kb 17 kk) [.int .i64 q.2.2, .bool true, .int .i64 q'.2.2] [vs4 q.1 q.2.1, vs4 q'.1 q'.2.1] H' := by
    intro q'
    simp only [lA, lB, List.cons_append, List.nil_append, f3_l17, g3_l17, inI_c, inC_c, inB_c, nilK_c, inX_c, nilX_c]
  rw [e]
  refine bdec (fun hle => ?_) (fun hle => ?_)
  · refine k18 hf hg hm hx' hcx hcy (by omega) hL rfl fun H'' hx'' => ?_
    rw [upK_same]
    exact hkk (k + 1) H'' ⟨hx'', by omega⟩ (by omega)
  · have : k = 4 := by omega
    subst this
    rw [← hq]
    obtain ⟨q1, q2, q3, q4⟩ := QOK.all (C := C) (mb := mb) (lim := lim) hD hcx hcy hLr 4 (by omega)
    rw [← hq] at q1 q2
    simp only [f3_34, g3_34, inI_c, inB_c, nilK_c, inX_c, nilX_c]
    refine bcase (fun _ => ?_) (fun h => by cases h)
    rw [rA_all (vs4_len _ _), rA_all (vs4_len _ _)]
    refine eqA_vec q1.b64 q2.b64 (bcase (fun _ => ?_) (fun h => by cases h))
    have : (q.2.2 == q.2.2) = true := by simp
    rw [this]
    exact hQ H'
end

theorem k5 {H : AHeap} {Q : Value → AHeap → Prop} {kb : KB} {s t : List Value} {c0 c1 d0 d1 m x y l : Int} {n1 n2 : Nat} {down : Bool} (hs : SmOK H s c0 c1 n1) (ht : SmOK H t d0 d1 n2) (h1 : n1 ≤ 2000) (h2 : n2 ≤ 2000) (hm : 0 ≤ m ∧ m ≤ 255) (hx : -128 ≤ x ∧ x ≤ 127) (hy : -128 ≤ y ∧ y ≤ 127) (hl : 0 ≤ l ∧ l ≤ 255)
    (hQ : ∀ H', Q (.bool true) H') : f3_5 Q kb [.int .u8 m, .int .i8 x, .int .i8 y, .int .u8 l, .bool down] [s, t] H := by
  have hsl := hs.len
  have htl := ht.len
  have hc0 := hs.c0
  have hc1 := hs.c1
  simp only [f3_5, g3_5, inI_c, inB_c, nilK_c, inX_c, nilX_c, rA_all hsl, rA_all htl]
  refine s6 hs h1 fun H1 b1 b2 b3 F1 hF1 => ?_
  have hC : 1 ≤ 1 + c0 % 3 ∧ 1 + c0 % 3 ≤ 3 := by omega
  have hR : 1 ≤ 1 + c1 % 3 ∧ 1 + c1 % 3 ≤ 3 := by omega
  generalize 1 + c0 % 3 = C at *
  generalize 1 + c1 % 3 = R at *
  obtain ⟨ys, us, vs, ok1⟩ := hF1.ok (by omega) (by omega)
  have ez : ∀ b1 b2 b3, stC [.int .i64 0, .int .i64 0, .int .i64 0, .int .i64 0, .slice none 0 0, .int .i64 0, .int .i64 0, .slice none 0 0, .int .i64 0, .int .i64 0, .slice none 0 0] 0 (fv C R b1 b2 b3) = fv C R b1 b2 b3 := fun b1 b2 b3 => stC_all rfl
  have r0 : ∀ K, rI .i64 (fv C R b1 b2 b3) 0 K = K C := fun K => rI_s rfl
  have r1 : ∀ K, rI .i64 (fv C R b1 b2 b3) 1 K = K R := fun K => rI_s rfl
  simp only [asA_c, fv_len, true_and, gd_simp, ez, r0, r1]
  refine ⟨by decide, s7 (ht.ext' hF1.bw.ext) h2 (by omega) (by omega) fun H2 e1 e2 e3 F2 hF2 => ?_⟩
  obtain ⟨zs, us', vs', ok2⟩ := hF2.ok (by omega) (by omega)
  have hCR : 1 ≤ C * R ∧ C * R ≤ 9 := by
    have a1 : C * R ≤ 3 * 3 := Int.mul_le_mul hC.2 hR.2 (by omega) (by omega)
    have a2 : 0 < C * R := Int.mul_pos (by omega) (by omega)
    omega
  have ok1' := ok1.ext hF2.bw.ext
  simp only [asA_c, fv_len, true_and, gd_simp, nz]
  rw [w64 (x := C * R) (by omega) (by omega), w64 (x := m) (by omega) (by omega)]
  refine ⟨by decide, by omega, s8 hx hy ?_⟩
  have hn : 0 ≤ m.tmod (C * R) ∧ m.tmod (C * R) ≤ 64 := by
    rw [Int.tmod_eq_emod_of_nonneg (by omega)]
    have := Int.emod_nonneg m (show C * R ≠ 0 by omega)
    have := Int.emod_lt_of_pos m (show 0 < C * R by omega)
    omega
  have hcx : -31 ≤ x.tmod 32 ∧ x.tmod 32 ≤ 31 := by
    rw [tmodp _ _ (by decide)]; split <;> omega
  have hcy : -31 ≤ y.tmod 32 ∧ y.tmod 32 ≤ 31 := by
    rw [tmodp _ _ (by decide)]; split <;> omega
  generalize m.tmod (C * R) = n at *
  generalize x.tmod 32 = cx at *
  generalize y.tmod 32 = cy at *
  have hlim : ∃ lim, IntKind.wrap .i64 (IntKind.wrap .i64 (l.tmod 5) * 12) = lim := ⟨_, rfl⟩
  obtain ⟨lim, hlim⟩ := hlim
  have hX0 : R31 (fun _ => cx) := fun _ _ => hcx
  have hY0 : R31 (fun _ => cy) := fun _ _ => hcy
  simp only [asC_c, hlim, rA_all (fv_len _ _ _ _ _)]
  have tail : ∀ (got : List Value) (sum : Int) (okb : Bool) (H3 : AHeap), Hx H2 H3 → got.length = 4 →
      (okv C n lim (fun _ => cx) = false → okb = false ∧ got = z4 ∧ sum = 0) →
      (okv C n lim (fun _ => cx) = true → okb = true ∧ ∃ q : V4, q = qall C n lim (qD C R ys zs n down) cx cy (stepsO cx cy 1 2 5 5) 4 ∧ got = vs4 q.1 q.2.1 ∧ sum = q.2.2) →
      call Try.prog 10 [.complex .f64 (fb cx) (fb cy)] H3 fun r79 H79 => asA 4 r79 fun l79 =>
        (l79.length = 4 ∧ 0 + 4 ≤ List.length (α := Value) [.complex .f64 0 0, .complex .f64 0 0, .complex .f64 0 0, .complex .f64 0 0]) ∧
        rA 4 (stC [.complex .f64 0 0, .complex .f64 0 0, .complex .f64 0 0, .complex .f64 0 0] 0 l79) 0 fun l84 =>
        call Try.prog 11 [.int .i64 C, .int .i64 lim, .int .i64 n, .agg ⟨l84⟩] H79 fun r85 H85 =>
        asB r85 fun c85 =>
        bif (!c85) then (
        bif (!okb) then (
        rA 4 (stC [.complex .f64 0 0, .complex .f64 0 0, .complex .f64 0 0, .complex .f64 0 0] 0 got) 0 fun l90 =>
        eqA Try.prog .eql 37 (.tmp 90) (.tmp 91) l90 [.complex .f64 0 0, .complex .f64 0 0, .complex .f64 0 0, .complex .f64 0 0] fun c92 =>
        bif c92 then (
        Q (.bool ((sum : Int) == 0)) H85
        ) else (
        Q (.bool false) H85
        )
        ) else (
        Q (.bool false) H85
        )
        ) else (
        f3_14 Q kb [.bool down, .int .i64 n, .complex .f64 (fb cx) (fb cy), .int .i64 lim, .int .i64 sum, .bool okb] [fv C R b1 b2 b3, stC [.int .i64 0, .int .i64 0, .int .i64 0, .int .i64 0, .slice none 0 0, .int .i64 0, .int .i64 0, .slice none 0 0, .int .i64 0, .int .i64 0, .slice none 0 0] 0 (fv C R e1 e2 e3), (stC [.complex .f64 0 0, .complex .f64 0 0, .complex .f64 0 0, .complex .f64 0 0] 0 got), (stC [.complex .f64 0 0, .complex .f64 0 0, .complex .f64 0 0, .complex .f64 0 0] 0 l79)] H85
        ) := by
    intro got sum okb H3 hx3 hgl hno hyes
    refine c10 ?_
    simp only [f10, g10, inC_c, nilK_c]
    show asA 4 (.agg ⟨vs4 (fun _ => cx) (fun _ => cy)⟩) _
    simp only [asA_c, vs4_len, true_and]
    refine ⟨by decide, ?_⟩
    have ez4 : ∀ l : List Value, l.length = 4 → stC [.complex .f64 0 0, .complex .f64 0 0, .complex .f64 0 0, .complex .f64 0 0] 0 l = l := fun l hl => stC_all (by rw [hl]; rfl)
    rw [ez4 _ (vs4_len _ _), rA_all (vs4_len _ _), ez4 _ hgl, ez e1 e2 e3]
    refine s11 (by omega) (by omega) hX0.b64 hY0.b64 fun H4 hx4 => ?_
    rw [mayV_all hX0 hY0]
    simp only [asB_c]
    refine bcase (fun hb => ?_) (fun hb => ?_)
    · obtain ⟨rfl, rfl, rfl⟩ := hno (by simpa using hb)
      refine bcase (fun _ => ?_) (fun h => by cases h)
      rw [rA_all z4_len]
      have hz : z4 = vs4 (fun _ => 0) (fun _ => 0) := by simp [z4, vs4, vec, fb0]
      show eqA Try.prog .eql 37 _ _ z4 z4 _
      rw [hz]
      refine eqA_vec (fun _ _ => by decide) (fun _ _ => by decide) (bcase (fun _ => ?_) (fun h => by cases h))
      exact hQ H4
    · obtain ⟨rfl, q, hq, rfl, rfl⟩ := hyes (by simpa using hb)
      exact k14 (H0 := H2) ok1' ok2 hn (hx3.trans hx4) hcx hcy rfl hq hQ
  refine s9 (far := 0) (lim := lim) ok1' ok2 hn hcx hcy (fun ho => ?_) (fun ho H3 hx3 q hq => ?_)
  · simp only [tupK_c, inA_c, z4_len, true_and, inI_c, inB_c, nilK_c, gd_simp]
    refine ⟨by decide, ?_⟩
    exact tail z4 0 false H2 (Hx.refl _) z4_len (fun _ => ⟨rfl, rfl, rfl⟩) (fun h => by rw [ho] at h; cases h)
  · simp only [tupK_c, inA_c, vs4_len, true_and, inI_c, inB_c, nilK_c, gd_simp]
    refine ⟨by decide, ?_⟩
    exact tail (vs4 q.1 q.2.1) q.2.2 true H3 hx3 (vs4_len _ _) (fun h => by rw [ho] at h; cases h) (fun _ => ⟨rfl, q, hq, rfl, rfl⟩)

theorem s3 {H : AHeap} {s t : List Value} {c0 c1 d0 d1 m x y l : Int} {n1 n2 : Nat} {down : Bool} (hs : SmOK H s c0 c1 n1) (ht : SmOK H t d0 d1 n2) (hm : 0 ≤ m ∧ m ≤ 255) (hx : -128 ≤ x ∧ x ≤ 127) (hy : -128 ≤ y ∧ y ≤ 127) (hl : 0 ≤ l ∧ l ≤ 255) :
    call Try.prog 3 [.agg ⟨s⟩, .agg ⟨t⟩, .int .u8 m, .int .i8 x, .int .i8 y, .int .u8 l, .bool down] H (fun r _ => r = .bool true) := by
  have hsl := hs.len
  have htl := ht.len
  refine c3 ?_
  simp only [f3, g3, inA_c, inI_c, inB_c, nilK_c, gd_simp, hsl, htl, true_and]
  refine s4 fun H1 hx1 => ?_
  simp only [asB_c]
  refine bcase (fun h => by cases h) (fun _ => ?_)
  simp only [f3_3, g3_3, inI_c, inB_c, nilK_c, inX_c, nilX_c, rA_all hsl, rA_all htl]
  refine s5 (hs.ext' hx1) ?_
  simp only [asB_c]
  refine bcase (fun _ => trivial) (fun h1 => ?_)
  refine s5 (ht.ext' hx1) ?_
  simp only [asB_c]
  refine bcase (fun _ => trivial) (fun h2 => ?_)
  have e1 : n1 ≤ 2000 := by
    have : decide ((n1 : Int) ≤ 2000) = true := by simpa using h1
    have := of_decide_eq_true this
    omega
  have e2 : n2 ≤ 2000 := by
    have : decide ((n2 : Int) ≤ 2000) = true := by simpa using h2
    have := of_decide_eq_true this
    omega
  exact k5 (hs.ext' hx1) (ht.ext' hx1) e1 e2 hm hx hy hl fun _ => rfl
end Go.Am
