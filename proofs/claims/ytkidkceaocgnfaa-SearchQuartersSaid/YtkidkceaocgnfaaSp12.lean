/- A part of the proof: Sp12. -/
import Derived.Test.YtkidkceaocgnfaaSp11
/- Sp12: Quarters. -/
set_option linter.all false
set_option maxRecDepth 100000
namespace Go.Am
open Go.Proofs
abbrev V4 := (Nat → Int) × (Nat → Int) × Int
/-- one try -/
def qstep (C mb lim : Int) (D : Int → Int → Int) (k : Nat) (s : V4) (p : Int × Int) : V4 :=
  if D p.1 p.2 < s.2.2 ∧ okv C mb lim (upd s.1 k p.1) = true then (upd s.1 k p.1, upd s.2.1 k p.2, D p.1 p.2) else s
def qrun (C mb lim : Int) (D : Int → Int → Int) (k : Nat) (s : V4) (L : List (Int × Int)) : V4 := L.foldl (qstep C mb lim D k) s
/-- all quarters -/
def qall (C mb lim : Int) (D : Nat → Int → Int → Int) (cx cy : Int) (L : List (Int × Int)) : Nat → V4
  | 0 => (fun _ => cx, fun _ => cy, 0)
  | k + 1 =>
    let s := qall C mb lim D cx cy L k
    let t := qrun C mb lim (D k) k (s.1, s.2.1, D k cx cy) L
    (t.1, t.2.1, s.2.2 + t.2.2)
def R31 (X : Nat → Int) : Prop := ∀ k, k < 4 → -31 ≤ X k ∧ X k ≤ 31
theorem R31.b64 {X : Nat → Int} (h : R31 X) : B64 X := fun k hk => by have := h k hk; omega
theorem R31.upd {X : Nat → Int} (h : R31 X) {k : Nat} {x : Int} (hx : -31 ≤ x ∧ x ≤ 31) : R31 (upd X k x) := fun i hi => by
  unfold Am.upd; split
  · exact hx
  · exact h i hi
structure QOK (s : V4) : Prop where
  x : R31 s.1
  y : R31 s.2.1
  l : 0 ≤ s.2.2 ∧ s.2.2 ≤ 20000
def DOK (D : Int → Int → Int) : Prop := ∀ a b, 0 ≤ D a b ∧ D a b ≤ 20000
theorem QOK.step {C mb lim : Int} {D : Int → Int → Int} {k : Nat} {s : V4} {p : Int × Int} (h : QOK s) (hD : DOK D) (hp : right p.1 p.2 = true) : QOK (qstep C mb lim D k s p) := by
  simp only [right, right1, Bool.and_eq_true, decide_eq_true_eq] at hp
  unfold qstep
  split
  · exact ⟨h.x.upd hp.1, h.y.upd hp.2, hD _ _⟩
  · exact h
theorem QOK.run {C mb lim : Int} {D : Int → Int → Int} {k : Nat} (hD : DOK D) : ∀ {L : List (Int × Int)} {s : V4}, QOK s → (∀ p ∈ L, right p.1 p.2 = true) → QOK (qrun C mb lim D k s L)
  | [], _, h, _ => h
  | p :: L, _, h, hL => QOK.run (L := L) hD (h.step hD (hL p (List.mem_cons_self ..))) fun q hq => hL q (List.mem_cons_of_mem _ hq)
theorem QOK.all {C mb lim : Int} {D : Nat → Int → Int → Int} {cx cy : Int} {L : List (Int × Int)} (hD : ∀ k, DOK (D k)) (hx : -31 ≤ cx ∧ cx ≤ 31) (hy : -31 ≤ cy ∧ cy ≤ 31) (hL : ∀ p ∈ L, right p.1 p.2 = true) :
    ∀ k, k ≤ 4 → R31 (qall C mb lim D cx cy L k).1 ∧ R31 (qall C mb lim D cx cy L k).2.1 ∧ 0 ≤ (qall C mb lim D cx cy L k).2.2 ∧ (qall C mb lim D cx cy L k).2.2 ≤ 20000 * k
  | 0, _ => ⟨fun _ _ => hx, fun _ _ => hy, by simp [qall]⟩
  | k + 1, hk => by
    obtain ⟨h1, h2, h3, h4⟩ := QOK.all hD hx hy hL k (by omega)
    have h := QOK.run (C := C) (mb := mb) (lim := lim) (k := k) (hD k) (L := L) (s := ((qall C mb lim D cx cy L k).1, (qall C mb lim D cx cy L k).2.1, D k cx cy)) ⟨h1, h2, hD k _ _⟩ hL
    have := h.l
    simp only [qall]
    exact ⟨h.x, h.y, by omega, by omega⟩
theorem stepsI_right {x y by_ far dy : Int} {j : Nat} : ∀ p ∈ stepsI x y by_ far dy j, right p.1 p.2 = true := fun p hp => by
  simp only [stepsI, List.mem_filter] at hp
  exact hp.2
theorem stepsO_right {x y by_ far : Int} {N : Nat} : ∀ {i : Nat}, ∀ p ∈ stepsO x y by_ far N i, right p.1 p.2 = true
  | 0, p, hp => by simp [stepsO] at hp
  | i + 1, p, hp => by
    simp only [stepsO, List.mem_append] at hp
    rcases hp with hp | hp
    · exact stepsO_right p hp
    · exact stepsI_right p hp
theorem dist_rng {C R : Int} {ys zs : List Int} {H : AHeap} {b c : Nat} (hy : Pix H b ys) (hz : Pix H c zs) (mb k dx dy : Int) (down : Bool) : 0 ≤ dist C R ys zs mb k dx dy down ∧ dist C R ys zs mb k dx dy down ≤ 20000 := by
  have := dsum_rng (S := qS C R ys mb k) (T := qT C R zs mb k dx dy down) (fun i => smp_rng hy _ _) (fun i => betw_rng (fun x y => smp_rng hz x y) _ _ _) 64
  unfold dist; omega
def z4 : List Value := [.complex .f64 0 0, .complex .f64 0 0, .complex .f64 0 0, .complex .f64 0 0]
theorem z4_len : z4.length = 4 := rfl
def sl2 (far lim : Int) : List Value := [.int .i64 far, .int .i64 lim]

section
variable {f g : List Value} {C R : Int} {ys us vs zs us' vs' : List Int} {mb far lim cx cy : Int} {down : Bool} {H0 : AHeap} {Q : Value → AHeap → Prop}
def qD (C R : Int) (ys zs : List Int) (mb : Int) (down : Bool) (k : Nat) (x y : Int) : Int := dist C R ys zs mb (k : Nat) x y down
theorem qD_ok (hf : FrameOK H0 f C R ys us vs) (hg : FrameOK H0 g C R zs us' vs') (k : Nat) : DOK (qD C R ys zs mb down k) := by
  obtain ⟨_, _, hyp⟩ := hf.y.ex
  obtain ⟨_, _, hzp⟩ := hg.y.ex
  exact fun a b => dist_rng hyp hzp _ _ _ _ _

def qB (f g : List Value) (far lim : Int) (X Y : Nat → Int) : List (List Value) := [sl2 far lim, f, g, z4, vs4 X Y]

theorem q11 {kb : KB} {H : AHeap} {k j : Nat} {a : Option Addr} {n z : Nat} {sum : Int} {s : V4} {L : List (Int × Int)} (hf : FrameOK H0 f C R ys us vs) (hg : FrameOK H0 g C R zs us' vs') (hm : 0 ≤ mb ∧ mb ≤ 64) (hS : SlH H0 H 34 1 a n z (L.map vecP)) (hn : n = L.length) (hn2 : n ≤ 100)
    (hk : k < 4) (hj : j < L.length) (hL : ∀ p ∈ L, right p.1 p.2 = true) (hs : QOK s)
    (h : kb 10 [.int .i64 mb, .complex .f64 (fb cx) (fb cy), .bool down, .int .i64 sum, .int .i64 (k : Nat), .int .i64 (qstep C mb lim (qD C R ys zs mb down k) k s L[j]).2.2, .int .i64 (k : Nat), .slice a n z, .int .i64 (n : Nat), .int .i64 (j + 1 : Nat)]
      (qB f g far lim (qstep C mb lim (qD C R ys zs mb down k) k s L[j]).1 (qstep C mb lim (qD C R ys zs mb down k) k s L[j]).2.1) H) :
    f9_11 Q kb [.int .i64 mb, .complex .f64 (fb cx) (fb cy), .bool down, .int .i64 sum, .int .i64 (k : Nat), .int .i64 s.2.2, .int .i64 (k : Nat), .slice a n z, .int .i64 (n : Nat), .int .i64 (j : Nat)] (qB f g far lim s.1 s.2.1) H := by
  have hfl := hf.len
  have hgl := hg.len
  have hc := hf.hc
  have hr := hL L[j] (List.getElem_mem _)
  have h17 : ∀ (s' : V4), s' = qstep C mb lim (qD C R ys zs mb down k) k s L[j] → f9_17 Q kb [.int .i64 mb, .complex .f64 (fb cx) (fb cy), .bool down, .int .i64 sum, .int .i64 (k : Nat), .int .i64 s'.2.2, .int .i64 (k : Nat), .slice a n z, .int .i64 (n : Nat), .int .i64 (j : Nat)] (qB f g far lim s'.1 s'.2.1) H := by
    rintro s' rfl
    simp only [qB, f9_17, g9_17, inI_c, inC_c, inB_c, inSl_c, nilK_c, inX_c, nilX_c]
    rw [wn (by omega)]
    exact h
  rcases hS.at' with ⟨h1, -⟩ | ⟨b, rfl, h2, rfl, h4, h5⟩
  · rw [List.map_eq_nil_iff.1 h1] at hj; simp at hj
  have e3 : (j : Int).toNat * 1 = j := by simp
  have e4 : 0 + (k : Int).toNat * 1 = k := by simp
  generalize hp : L[j] = p at *
  have hget : (L.map vecP)[0 + j]? = some (.complex .f64 (fb p.1) (fb p.2)) := by
    rw [Nat.zero_add, List.getElem?_map, List.getElem?_eq_getElem hj, hp]; rfl
  have hr' : (-31 ≤ p.1 ∧ p.1 ≤ 31) ∧ (-31 ≤ p.2 ∧ p.2 ≤ 31) := by
    simpa only [right, right1, Bool.and_eq_true, decide_eq_true_eq] using hr
  have ev : (vs4 s.1 s.2.1).set k (.complex .f64 (fb p.1) (fb p.2)) = vs4 (upd s.1 k p.1) (upd s.2.1 k p.2) := vs4_set _ _ hk _ _
  have ez : stC [.complex .f64 0 0, .complex .f64 0 0, .complex .f64 0 0, .complex .f64 0 0] 0 (vs4 s.1 s.2.1) = vs4 s.1 s.2.1 := stC_all rfl
  have hX := hs.x.upd (k := k) hr'.1
  have hY := hs.y.upd (k := k) hr'.2
  simp only [qB, f9_11, g9_11, inI_c, inC_c, inB_c, inSl_c, nilK_c, inX_c, nilX_c, hp_c, aidx_c, e3, rdH_s h4, rC_s hget, rA_all (vs4_len _ _), gd_simp, vs4_len, e4, ez, ev, rA_all hfl, rA_all hgl]
  refine ⟨by omega, ⟨trivial, by decide⟩, by omega, by omega, ?_⟩
  refine s21 (hf.ext hS.ext) (hg.ext hS.ext) hm (by omega) (by omega) (by omega) ?_
  have ed : dist C R ys zs mb (k : Int) p.1 p.2 down = qD C R ys zs mb down k p.1 p.2 := rfl
  simp only [asI_c, ed]
  refine bdec (fun hlt => ?_) (fun hlt => ?_)
  · rw [rA_all (n := 2) (xs := sl2 far lim) rfl, rI_s hf.c]
    refine s20 (by omega) (by omega) hX.b64 hY.b64 ?_
    simp only [asB_c]
    refine bcase (fun ho => ?_) (fun ho => ?_)
    · refine ⟨⟨trivial, by decide⟩, ?_⟩
      rw [stC_all (by rw [vs4_len, vs4_len])]
      refine h17 (upd s.1 k p.1, upd s.2.1 k p.2, qD C R ys zs mb down k p.1 p.2) ?_
      unfold qstep
      rw [if_pos ⟨hlt, ho⟩]
    · refine h17 s ?_
      unfold qstep
      rw [if_neg (by rw [ho]; simp)]
  · refine h17 s ?_
    unfold qstep
    rw [if_neg (fun h => hlt h.1)]

theorem s9 {far lim : Int} (hf : FrameOK H0 f C R ys us vs) (hg : FrameOK H0 g C R zs us' vs') (hm : 0 ≤ mb ∧ mb ≤ 64) (hx : -31 ≤ cx ∧ cx ≤ 31) (hy : -31 ≤ cy ∧ cy ≤ 31)
    (hQ1 : okv C mb lim (fun _ => cx) = false → Q (.tuple ⟨[.agg ⟨z4⟩, .int .i64 0, .bool false]⟩) H0)
    (hQ2 : okv C mb lim (fun _ => cx) = true → ∀ H', Hx H0 H' → ∀ s : V4, s = qall C mb lim (qD C R ys zs mb down) cx cy (stepsO cx cy 1 2 5 5) 4 → Q (.tuple ⟨[.agg ⟨vs4 s.1 s.2.1⟩, .int .i64 s.2.2, .bool true]⟩) H') :
    call Try.prog 9 [.agg ⟨[.int .i64 far, .int .i64 lim]⟩, .agg ⟨f⟩, .agg ⟨g⟩, .int .i64 mb, .complex .f64 (fb cx) (fb cy), .bool down] H0 Q := by
  have hfl := hf.len
  have hgl := hg.len
  have hc := hf.hc
  have hX0 : R31 (fun _ => cx) := fun _ _ => hx
  have hY0 : R31 (fun _ => cy) := fun _ _ => hy
  have ez : stC [.complex .f64 0 0, .complex .f64 0 0, .complex .f64 0 0, .complex .f64 0 0] 0 (vs4 (fun _ => cx) (fun _ => cy)) = vs4 (fun _ => cx) (fun _ => cy) := stC_all rfl
  refine c9 ?_
  simp only [f9, g9, inA_c, inI_c, inC_c, inB_c, nilK_c, gd_simp, hfl, hgl, true_and]
  refine ⟨rfl, rfl, c10 ?_⟩
  simp only [f10, g10, inC_c, nilK_c]
  show asA 4 (.agg ⟨vs4 (fun _ => cx) (fun _ => cy)⟩) _
  simp only [asA_c, vs4_len, gd_simp, ez, rA_all (vs4_len _ _), rI_s hf.c, true_and]
  refine ⟨by decide, ?_⟩
  rw [rA_all (n := 2) (xs := [.int .i64 far, .int .i64 lim]) rfl]
  refine s20 (by omega) (by omega) hX0.b64 hY0.b64 ?_
  simp only [asB_c]
  refine bcase (fun ho => ?_) (fun ho => ?_)
  · have ho' : okv C mb lim (fun _ => cx) = false := by
      cases h : okv C mb lim (fun _ => cx) with
      | true => rw [h] at ho; cases ho
      | false => rfl
    exact hQ1 ho'
  · have ho' : okv C mb lim (fun _ => cx) = true := by
      cases h : okv C mb lim (fun _ => cx) with
      | true => rfl
      | false => rw [h] at ho; cases ho
    have hQ2' := hQ2 ho'
    clear hQ1 hQ2
    simp only [f9_4, g9_4, inI_c, inC_c, inB_c, nilK_c, inX_c, nilX_c]
    generalize hLL : stepsO cx cy 1 2 5 5 = L at *
    have hL : ∀ p ∈ L, right p.1 p.2 = true := by rw [← hLL]; exact stepsO_right
    have hLl : L.length ≤ 100 := by rw [← hLL]; have := stepsO_len cx cy 1 2 5 5; omega
    have hD := qD_ok (mb := mb) (down := down) hf hg
    refine lp (σ := Nat) (fun k => [.int .i64 mb, .complex .f64 (fb cx) (fb cy), .bool down, .int .i64 (qall C mb lim (qD C R ys zs mb down) cx cy L k).2.2, .int .i64 (k : Nat)])
      (fun k => qB f g far lim (qall C mb lim (qD C R ys zs mb down) cx cy L k).1 (qall C mb lim (qD C R ys zs mb down) cx cy L k).2.1) (fun k H' => Hx H0 H' ∧ k ≤ 4) (fun k _ => 4 - k) 0 rfl rfl ⟨Hx.refl _, by omega⟩ ?_
    rintro k H' kk ⟨hxh, hk⟩ hkk
    simp only [qB, f9_l6, g9_l6, inI_c, inC_c, inB_c, nilK_c, inX_c, nilX_c]
    refine bdec (fun h => ?_) (fun h => ?_)
    · have hk4 : k < 4 := by omega
      obtain ⟨q1, q2, q3, q4⟩ := QOK.all (C := C) (mb := mb) (lim := lim) hD hx hy hL k (by omega)
      have hstep : qall C mb lim (qD C R ys zs mb down) cx cy L (k + 1) = ((qrun C mb lim (qD C R ys zs mb down k) k ((qall C mb lim (qD C R ys zs mb down) cx cy L k).1, (qall C mb lim (qD C R ys zs mb down) cx cy L k).2.1, qD C R ys zs mb down k cx cy) L).1, (qrun C mb lim (qD C R ys zs mb down k) k ((qall C mb lim (qD C R ys zs mb down) cx cy L k).1, (qall C mb lim (qD C R ys zs mb down) cx cy L k).2.1, qD C R ys zs mb down k cx cy) L).2.1,
        (qall C mb lim (qD C R ys zs mb down) cx cy L k).2.2 + (qrun C mb lim (qD C R ys zs mb down k) k ((qall C mb lim (qD C R ys zs mb down) cx cy L k).1, (qall C mb lim (qD C R ys zs mb down) cx cy L k).2.1, qD C R ys zs mb down k cx cy) L).2.2) := rfl
      generalize hq : qall C mb lim (qD C R ys zs mb down) cx cy L k = q at *
      have hq0 : QOK (q.1, q.2.1, qD C R ys zs mb down k cx cy) := ⟨q1, q2, hD k _ _⟩
      simp only [f9_7, g9_7, inI_c, inC_c, inB_c, nilK_c, inX_c, nilX_c, rA_all hfl, rA_all hgl]
      refine s21 (hf.ext hxh) (hg.ext hxh) hm (by omega) (by omega) (by omega) ?_
      have ed : dist C R ys zs mb (k : Int) cx cy down = qD C R ys zs mb down k cx cy := rfl
      simp only [asI_c, ed]
      rw [rA_all (n := 2) (xs := sl2 far lim) rfl]
      refine s22 hx hy (.inl rfl) (by decide) fun H'' a n z hS => ?_
      have en : nst 1 2 = 5 := by decide
      rw [en, hLL] at hS
      have hnL : n = L.length := by
        rcases hS.at' with ⟨h1, h2, h3, h4⟩ | ⟨b, h1, h2, h3, h4⟩
        · rw [List.map_eq_nil_iff.1 h1, h3]; rfl
        · simpa using h2.symm
      have hS0 : SlH H0 H'' 34 1 a n z (L.map vecP) := by
        refine ⟨hxh.trans hS.ext, ?_⟩
        rcases hS.at' with h | ⟨b, h1, h2, h3, h4, h5⟩
        · exact .inl h
        · exact .inr ⟨b, h1, h2, h3, h4, hxh.non h5⟩
      simp only [asSl_c]
      refine lp (σ := Nat) (fun j => [.int .i64 mb, .complex .f64 (fb cx) (fb cy), .bool down, .int .i64 q.2.2, .int .i64 (k : Nat), .int .i64 (qrun C mb lim (qD C R ys zs mb down k) k (q.1, q.2.1, qD C R ys zs mb down k cx cy) (L.take j)).2.2, .int .i64 (k : Nat), .slice a n z, .int .i64 (n : Nat), .int .i64 (j : Nat)])
        (fun j => qB f g far lim (qrun C mb lim (qD C R ys zs mb down k) k (q.1, q.2.1, qD C R ys zs mb down k cx cy) (L.take j)).1 (qrun C mb lim (qD C R ys zs mb down k) k (q.1, q.2.1, qD C R ys zs mb down k cx cy) (L.take j)).2.1) (fun j H3 => H3 = H'' ∧ j ≤ n) (fun j _ => n - j) 0 rfl rfl ⟨rfl, by omega⟩ ?_
      rintro j H3 kj ⟨rfl, hj⟩ hkj
      have hqj := QOK.run (C := C) (mb := mb) (lim := lim) (k := k) (hD k) (L := L.take j) hq0 fun p hp => hL p (List.mem_of_mem_take hp)
      have etake : ∀ hjl : j < L.length, qrun C mb lim (qD C R ys zs mb down k) k (q.1, q.2.1, qD C R ys zs mb down k cx cy) (L.take (j + 1)) = qstep C mb lim (qD C R ys zs mb down k) k (qrun C mb lim (qD C R ys zs mb down k) k (q.1, q.2.1, qD C R ys zs mb down k cx cy) (L.take j)) L[j] := by
        intro hjl
        unfold qrun
        rw [List.take_add_one, List.getElem?_eq_getElem hjl, List.foldl_append]
        rfl
      generalize hqr : qrun C mb lim (qD C R ys zs mb down k) k (q.1, q.2.1, qD C R ys zs mb down k cx cy) (L.take j) = qj at *
      simp only [qB, f9_l10, g9_l10, inI_c, inC_c, inB_c, inSl_c, nilK_c, inX_c, nilX_c]
      refine bdec (fun h' => ?_) (fun h' => ?_)
      · have hjl : j < L.length := by omega
        refine q11 (s := qj) hf hg hm hS0 hnL (by omega) hk4 hjl hL hqj ?_
        rw [← etake hjl, upK_same]
        exact hkj (j + 1) H3 ⟨rfl, by omega⟩ (by omega)
      · have hjL : j = L.length := by omega
        subst hjL
        rw [List.take_length] at hqr
        have hl := hqj.l
        simp only [f9_18, g9_18, f9_19, g9_19, inI_c, inC_c, inB_c, nilK_c, inX_c, nilX_c]
        rw [w64 (x := q.2.2 + qj.2.2) (by omega) (by omega), wn (by omega), upK_ne (by decide), upK_same]
        have := hkk (k + 1) H3 ⟨hxh.trans hS.ext, by omega⟩ (by omega)
        rw [hstep, hqr] at this
        exact this
    · have : k = 4 := by omega
      subst this
      simp only [f9_20, g9_20, inI_c, nilK_c, inX_c, nilX_c, rA_all (vs4_len _ _), gd_simp, vs4_len]
      refine ⟨⟨trivial, by decide⟩, ?_⟩
      rw [stC_all (by rw [z4_len, vs4_len]), rA_all (vs4_len _ _)]
      exact hQ2' H' hxh _ rfl
end
end Go.Am
