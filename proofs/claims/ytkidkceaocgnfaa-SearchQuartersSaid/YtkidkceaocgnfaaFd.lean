/- printed: functions 7 18 9 13 16 20 21 24 27 28 32 39 40 47 48 3 -/
import Derived.Test.YtkidkceaocgnfaaT2
set_option maxRecDepth 100000
set_option linter.all false
namespace Go.Am
open Go.Proofs
/-! ## 7 (kinescope/kinescopelaw06.Small).Sized -/

def g7_19 (Q : Value → AHeap → Prop) (kb : KB) (vs : List Value) (bs : List (List Value)) (H : AHeap) : Prop :=
 nilK vs <|
 inX bs fun y6 bs =>
 inX bs fun y7 bs =>
 nilX bs <|
 rA 11 y7 0 fun l130 =>
 gd (l130.length = 11 ∧ 0 + 11 ≤ y6.length) <|
 rA 11 (stC y6 0 l130) 0 fun l =>
 Q (.agg ⟨l⟩) H
def f7_19 (Q : Value → AHeap → Prop) : PT := g7_19 Q

def g7_18 (Q : Value → AHeap → Prop) (kb : KB) (vs : List Value) (bs : List (List Value)) (H : AHeap) : Prop :=
 inSl vs fun a82 n82 z82 vs =>
 inI .i64 vs fun x83 vs =>
 inI .i64 vs fun x84 vs =>
 nilK vs <|
 inX bs fun y6 bs =>
 inX bs fun y7 bs =>
 nilX bs <|
 kb 12 [.slice a82 n82 z82, .int .i64 x83, .int .i64 (IntKind.wrap .i64 (x84 + 1))] [y6, y7] H
def f7_18 (Q : Value → AHeap → Prop) : PT := g7_18 Q

def g7_13 (Q : Value → AHeap → Prop) (F18 : PT) (kb : KB) (vs : List Value) (bs : List (List Value)) (H : AHeap) : Prop :=
 inSl vs fun a82 n82 z82 vs =>
 inI .i64 vs fun x83 vs =>
 inI .i64 vs fun x84 vs =>
 nilK vs <|
 inX bs fun y6 bs =>
 inX bs fun y7 bs =>
 nilX bs <|
 hp a82 fun b87 o87 =>
 aidx x84 n82 fun j87 =>
 rdH H b87 fun y88 =>
 rI .u8 y88 (o87 + j87 * 1) fun x88 =>
 rSl y7 4 fun a92 n92 z92 =>
 bif (decide ((x84 : Int) < (n92 : Int))) then (
  bif (decide ((x84 : Int) < 600)) then (
   rSl y7 4 fun a101 n101 z101 =>
   hp a101 fun b104 o104 =>
   aidx x84 n101 fun j104 =>
   wrH H b104 fun y e =>
   gd (o104 + j104 * 1 < y.length) <|
   rSl y7 7 fun a107 n107 z107 =>
   rSl y7 7 fun a111 n111 z111 =>
   nz (n111 : Int) <|
   hp a107 fun b116 o116 =>
   aidx (x84.tmod (n111 : Int)) n107 fun j116 =>
   wrH (AHeap.put H b104 (.cells (List.set y (o104 + j104 * 1) (.int .u8 x88)) e true)) b116 fun y_2 e_2 =>
   gd (o116 + j116 * 1 < y_2.length) <|
   rSl y7 10 fun a119 n119 z119 =>
   rSl y7 10 fun a123 n123 z123 =>
   nz (n123 : Int) <|
   hp a119 fun b128 o128 =>
   aidx (x84.tmod (n123 : Int)) n119 fun j128 =>
   wrH (AHeap.put (AHeap.put H b104 (.cells (List.set y (o104 + j104 * 1) (.int .u8 x88)) e true)) b116 (.cells (List.set y_2 (o116 + j116 * 1) (.int .u8 (IntKind.wrap .u8 (x88.tdiv 2)))) e_2 true)) b128 fun y_3 e_3 =>
   gd (o128 + j128 * 1 < y_3.length) <|
   F18 kb [.slice a82 n82 z82, .int .i64 x83, .int .i64 x84] [y6, y7] (AHeap.put (AHeap.put (AHeap.put H b104 (.cells (List.set y (o104 + j104 * 1) (.int .u8 x88)) e true)) b116 (.cells (List.set y_2 (o116 + j116 * 1) (.int .u8 (IntKind.wrap .u8 (x88.tdiv 2)))) e_2 true)) b128 (.cells (List.set y_3 (o128 + j128 * 1) (.int .u8 (IntKind.wrap .u8 (255 - x88)))) e_3 true))
  ) else (
   F18 kb [.slice a82 n82 z82, .int .i64 x83, .int .i64 x84] [y6, y7] H
  )
 ) else (
  F18 kb [.slice a82 n82 z82, .int .i64 x83, .int .i64 x84] [y6, y7] H
 )
def f7_13 (Q : Value → AHeap → Prop) : PT := g7_13 Q (f7_18 Q)

def g7_l12 (Q : Value → AHeap → Prop) (F13 F19 : PT) (kb : KB) (vs : List Value) (bs : List (List Value)) (H : AHeap) : Prop :=
 inSl vs fun a82 n82 z82 vs =>
 inI .i64 vs fun x83 vs =>
 inI .i64 vs fun x84 vs =>
 nilK vs <|
 inX bs fun y6 bs =>
 inX bs fun y7 bs =>
 nilX bs <|
 bif (decide ((x84 : Int) < x83)) then (
  F13 kb [.slice a82 n82 z82, .int .i64 x83, .int .i64 x84] [y6, y7] H
 ) else (
  F19 kb [] [y6, y7] H
 )
def f7_l12 (Q : Value → AHeap → Prop) : PT := g7_l12 Q (f7_13 Q) (f7_19 Q)

/-- (kinescope/kinescopelaw06.Small).Sized -/
def g7 (Q : Value → AHeap → Prop) (L12 F19 : PT) (vs : List Value) (H : AHeap) : Prop :=
 inA 8 vs fun l0 vs =>
 inI .i64 vs fun x1 vs =>
 inI .i64 vs fun x2 vs =>
 nilK vs <|
 gd (l0.length = 8) <|
 rI .u8 l0 3 fun x13 =>
 call Try.prog 15 [.int .i64 x1, .int .i64 x2, .int .u8 x13] H fun r14 H14 =>
 asA 11 r14 fun l14 =>
 gd (l14.length = 11 ∧ 0 + 11 ≤ List.length (α := Value) [.int .i64 0, .int .i64 0, .int .i64 0, .int .i64 0, .slice none 0 0, .int .i64 0, .int .i64 0, .slice none 0 0, .int .i64 0, .int .i64 0, .slice none 0 0]) <|
 rI .u8 l0 2 fun x16 =>
 bif (((x16.tmod 5) : Int) == 1) then (
  rA 11 (stC [.int .i64 0, .int .i64 0, .int .i64 0, .int .i64 0, .slice none 0 0, .int .i64 0, .int .i64 0, .slice none 0 0, .int .i64 0, .int .i64 0, .slice none 0 0] 0 l14) 0 fun l20 =>
  rI .u8 l0 3 fun x22 =>
  rI .u8 l0 4 fun x25 =>
  rI .u8 l0 5 fun x30 =>
  call Try.prog 17 [.agg ⟨l20⟩, .int .i64 (IntKind.wrap .i64 x22), .int .i64 (IntKind.wrap .i64 (((IntKind.wrap .i64 x25).tmod 40) - 20)), .int .i64 (IntKind.wrap .i64 (((IntKind.wrap .i64 x30).tmod 40) - 20))] H14 fun r34 H34 =>
  tupK r34 fun l =>
  nilK l <|
  F19 kb0 [] [[.int .i64 0, .int .i64 0, .int .i64 0, .int .i64 0, .slice none 0 0, .int .i64 0, .int .i64 0, .slice none 0 0, .int .i64 0, .int .i64 0, .slice none 0 0], (stC [.int .i64 0, .int .i64 0, .int .i64 0, .int .i64 0, .slice none 0 0, .int .i64 0, .int .i64 0, .slice none 0 0, .int .i64 0, .int .i64 0, .slice none 0 0] 0 l14)] H34
 ) else (
  bif (((x16.tmod 5) : Int) == 2) then (
   rA 11 (stC [.int .i64 0, .int .i64 0, .int .i64 0, .int .i64 0, .slice none 0 0, .int .i64 0, .int .i64 0, .slice none 0 0, .int .i64 0, .int .i64 0, .slice none 0 0] 0 l14) 0 fun l37 =>
   rI .u8 l0 3 fun x39 =>
   rI .u8 l0 4 fun x42 =>
   rI .u8 l0 5 fun x47 =>
   call Try.prog 17 [.agg ⟨l37⟩, .int .i64 (IntKind.wrap .i64 x39), .int .i64 (IntKind.wrap .i64 (((IntKind.wrap .i64 x42).tmod 40) - 20)), .int .i64 (IntKind.wrap .i64 (((IntKind.wrap .i64 x47).tmod 40) - 20))] H14 fun r51 H51 =>
   tupK r51 fun l_2 =>
   nilK l_2 <|
   rA 11 (stC [.int .i64 0, .int .i64 0, .int .i64 0, .int .i64 0, .slice none 0 0, .int .i64 0, .int .i64 0, .slice none 0 0, .int .i64 0, .int .i64 0, .slice none 0 0] 0 l14) 0 fun l52 =>
   rI .u32 l0 6 fun x54 =>
   rI .u8 l0 5 fun x56 =>
   call Try.prog 18 [.agg ⟨l52⟩, .int .u32 x54, .int .i64 (IntKind.wrap .i64 (x56.tmod 30))] H51 fun r59 H59 =>
   tupK r59 fun l_3 =>
   nilK l_3 <|
   F19 kb0 [] [[.int .i64 0, .int .i64 0, .int .i64 0, .int .i64 0, .slice none 0 0, .int .i64 0, .int .i64 0, .slice none 0 0, .int .i64 0, .int .i64 0, .slice none 0 0], (stC [.int .i64 0, .int .i64 0, .int .i64 0, .int .i64 0, .slice none 0 0, .int .i64 0, .int .i64 0, .slice none 0 0, .int .i64 0, .int .i64 0, .slice none 0 0] 0 l14)] H59
  ) else (
   bif (((x16.tmod 5) : Int) == 3) then (
    rA 11 (stC [.int .i64 0, .int .i64 0, .int .i64 0, .int .i64 0, .slice none 0 0, .int .i64 0, .int .i64 0, .slice none 0 0, .int .i64 0, .int .i64 0, .slice none 0 0] 0 l14) 0 fun l62 =>
    rI .u8 l0 4 fun x64 =>
    rI .u8 l0 5 fun x68 =>
    rI .u8 l0 3 fun x72 =>
    rI .u8 l0 4 fun x75 =>
    rI .u8 l0 5 fun x77 =>
    call Try.prog 19 [.agg ⟨l62⟩, .int .i64 (IntKind.wrap .i64 (x64.tmod 40)), .int .i64 (IntKind.wrap .i64 (x68.tmod 40)), .int .i64 9, .int .i64 13, .int .u8 (IntKind.wrap .u8 (255 - x72)), .int .u8 x75, .int .u8 x77] H14 fun r78 H78 =>
    tupK r78 fun l_4 =>
    nilK l_4 <|
    F19 kb0 [] [[.int .i64 0, .int .i64 0, .int .i64 0, .int .i64 0, .slice none 0 0, .int .i64 0, .int .i64 0, .slice none 0 0, .int .i64 0, .int .i64 0, .slice none 0 0], (stC [.int .i64 0, .int .i64 0, .int .i64 0, .int .i64 0, .slice none 0 0, .int .i64 0, .int .i64 0, .slice none 0 0, .int .i64 0, .int .i64 0, .slice none 0 0] 0 l14)] H78
   ) else (
    bif (((x16.tmod 5) : Int) == 4) then (
     rSl l0 7 fun a82 n82 z82 =>
     lpW L12 kb0 12 [.slice a82 n82 z82, .int .i64 (n82 : Int), .int .i64 0] [[.int .i64 0, .int .i64 0, .int .i64 0, .int .i64 0, .slice none 0 0, .int .i64 0, .int .i64 0, .slice none 0 0, .int .i64 0, .int .i64 0, .slice none 0 0], (stC [.int .i64 0, .int .i64 0, .int .i64 0, .int .i64 0, .slice none 0 0, .int .i64 0, .int .i64 0, .slice none 0 0, .int .i64 0, .int .i64 0, .slice none 0 0] 0 l14)] H14
    ) else (
     F19 kb0 [] [[.int .i64 0, .int .i64 0, .int .i64 0, .int .i64 0, .slice none 0 0, .int .i64 0, .int .i64 0, .slice none 0 0, .int .i64 0, .int .i64 0, .slice none 0 0], (stC [.int .i64 0, .int .i64 0, .int .i64 0, .int .i64 0, .slice none 0 0, .int .i64 0, .int .i64 0, .slice none 0 0, .int .i64 0, .int .i64 0, .slice none 0 0] 0 l14)] H14
    )
   )
  )
 )
def f7 (vs : List Value) (H : AHeap) (Q : Value → AHeap → Prop) : Prop := g7 Q (f7_l12 Q) (f7_19 Q) vs H

noncomputable def x7 (Q : Value → AHeap → Prop) (F19 F18 F13 L12 : PT) : Pc := pc Try.prog 131 [(3, 3), (6, 6), (7, 7), (12, 3), (15, 3), (21, 3), (24, 3), (29, 3), (38, 3), (41, 3), (46, 3), (53, 3), (55, 3), (63, 3), (67, 3), (71, 3), (74, 3), (76, 3), (81, 3), (90, 7), (91, 7), (99, 7), (100, 7), (105, 7), (106, 7), (109, 7), (110, 7), (117, 7), (118, 7), (121, 7), (122, 7)]
  [(19, ⟨[], [(6, 6), (7, 7)], [6, 7]⟩), (18, ⟨[82, 83, 84], [(6, 6), (7, 7)], [6, 7]⟩), (13, ⟨[82, 83, 84], [(6, 6), (7, 7)], [6, 7]⟩)]
  [(12, ⟨[82, 83, 84], [(6, 6), (7, 7)], [6, 7]⟩)]
  [(16, [(0, []), (1, []), (2, []), (3, []), (4, []), (5, []), (6, []), (7, []), (8, []), (9, []), (10, []), (11, []), (12, [])]), (17, [(0, []), (1, []), (2, []), (3, []), (4, []), (5, []), (6, []), (7, []), (8, []), (9, []), (10, []), (11, []), (12, [])])]
  (shOf [(19, F19), (18, F18), (13, F13)])
  (shOf [(12, L12)])
  [.cell 6 31] Q
theorem o7_0 (Q : Value → AHeap → Prop) (F18 F13 L12 : PT) : cutOK (x7 Q (g7_19 Q) F18 F13 L12) (cutAt (bodyOf Try.f7) 0) := by
  refine cutOK_of (F := g7_19 Q) (by kernel_rfl) ?_
  intro kb vs bs H h
  obtain ⟨rfl, g⟩ := deN h
  obtain ⟨_, _, rfl, g1⟩ := deX g
  obtain ⟨_, _, rfl, g2⟩ := deX g1
  obtain ⟨rfl, k⟩ := deNX g2
  exact Eq.mp (by kernel_rfl) k
theorem o7_1 (Q : Value → AHeap → Prop) (F19 F18 F13 : PT) : cutOK (x7 Q F19 F18 F13 (g7_l12 Q F13 F19)) (cutAt (bodyOf Try.f7) 1) := by
  refine cutOK_of (F := g7_l12 Q F13 F19) (by kernel_rfl) ?_
  intro kb vs bs H h
  obtain ⟨_, _, _, _, rfl, h1⟩ := deSl h
  obtain ⟨_, _, rfl, h2⟩ := deI h1
  obtain ⟨_, _, rfl, h3⟩ := deI h2
  obtain ⟨rfl, g⟩ := deN h3
  obtain ⟨_, _, rfl, g1⟩ := deX g
  obtain ⟨_, _, rfl, g2⟩ := deX g1
  obtain ⟨rfl, k⟩ := deNX g2
  exact Eq.mp (by kernel_rfl) k
theorem o7_2 (Q : Value → AHeap → Prop) (F19 F18 L12 : PT) : cutOK (x7 Q F19 F18 (g7_13 Q F18) L12) (cutAt (bodyOf Try.f7) 2) := by
  refine cutOK_of (F := g7_13 Q F18) (by kernel_rfl) ?_
  intro kb vs bs H h
  obtain ⟨_, _, _, _, rfl, h1⟩ := deSl h
  obtain ⟨_, _, rfl, h2⟩ := deI h1
  obtain ⟨_, _, rfl, h3⟩ := deI h2
  obtain ⟨rfl, g⟩ := deN h3
  obtain ⟨_, _, rfl, g1⟩ := deX g
  obtain ⟨_, _, rfl, g2⟩ := deX g1
  obtain ⟨rfl, k⟩ := deNX g2
  exact Eq.mp (by kernel_rfl) k
theorem o7_3 (Q : Value → AHeap → Prop) (F19 F13 L12 : PT) : cutOK (x7 Q F19 (g7_18 Q) F13 L12) (cutAt (bodyOf Try.f7) 3) := by
  refine cutOK_of (F := g7_18 Q) (by kernel_rfl) ?_
  intro kb vs bs H h
  obtain ⟨_, _, _, _, rfl, h1⟩ := deSl h
  obtain ⟨_, _, rfl, h2⟩ := deI h1
  obtain ⟨_, _, rfl, h3⟩ := deI h2
  obtain ⟨rfl, g⟩ := deN h3
  obtain ⟨_, _, rfl, g1⟩ := deX g
  obtain ⟨_, _, rfl, g2⟩ := deX g1
  obtain ⟨rfl, k⟩ := deNX g2
  exact Eq.mp (by kernel_rfl) k
theorem m7 {Q : Value → AHeap → Prop} (F19 F18 F13 L12 : PT) {vs : List Value} {H : AHeap} (h : g7 Q L12 F19 vs H) : Nat.ble vs.length 131 = true ∧ interp (x7 Q F19 F18 F13 L12) kb0 (bodyOf Try.f7) [] (entry vs H) := by
  obtain ⟨_, _, rfl, h1⟩ := deA h
  obtain ⟨_, _, rfl, h2⟩ := deI h1
  obtain ⟨_, _, rfl, h3⟩ := deI h2
  obtain ⟨rfl, g⟩ := deN h3
  exact ⟨by kernel_rfl, Eq.mp (by kernel_rfl) g⟩
theorem c7 {vs : List Value} {H : AHeap} {Q : Value → AHeap → Prop} (h : f7 vs H Q) : call Try.prog 7 vs H Q :=
  call_of' noNG (X := x7 Q (f7_19 Q) (f7_18 Q) (f7_13 Q) (f7_l12 Q)) (fn := Try.f7) (by kernel_rfl) (by kernel_rfl) (by kernel_rfl) (by kernel_rfl) (by kernel_rfl) (obl_of (n := 4) (by kernel_rfl) (by kernel_rfl) ⟨o7_0 Q (f7_18 Q) (f7_13 Q) (f7_l12 Q), o7_1 Q (f7_19 Q) (f7_18 Q) (f7_13 Q), o7_2 Q (f7_19 Q) (f7_18 Q) (f7_l12 Q), o7_3 Q (f7_19 Q) (f7_13 Q) (f7_l12 Q), trivial⟩) (m7 (f7_19 Q) (f7_18 Q) (f7_13 Q) (f7_l12 Q) h).1 (m7 (f7_19 Q) (f7_18 Q) (f7_13 Q) (f7_l12 Q) h).2

/-! ## 18 (kinescope/plane.Frame).Noise -/

def g18_10 (Q : Value → AHeap → Prop) (kb : KB) (vs : List Value) (bs : List (List Value)) (H : AHeap) : Prop :=
 inI .u32 vs fun x1 vs =>
 inI .i64 vs fun x2 vs =>
 inA 9 vs fun l14 vs =>
 inI .i64 vs fun x15 vs =>
 inSl vs fun a19 n19 z19 vs =>
 inI .i64 vs fun x20 vs =>
 inI .i64 vs fun x21 vs =>
 nilK vs <|
 inX bs fun y7 bs =>
 nilX bs <|
 kb 6 [.int .u32 x1, .int .i64 x2, .agg ⟨l14⟩, .int .i64 x15, .slice a19 n19 z19, .int .i64 x20, .int .i64 (IntKind.wrap .i64 (x21 + 1))] [y7] H
def f18_10 (Q : Value → AHeap → Prop) : PT := g18_10 Q

def g18_7 (Q : Value → AHeap → Prop) (F10 : PT) (kb : KB) (vs : List Value) (bs : List (List Value)) (H : AHeap) : Prop :=
 inI .u32 vs fun x1 vs =>
 inI .i64 vs fun x2 vs =>
 inA 9 vs fun l14 vs =>
 inI .i64 vs fun x15 vs =>
 inSl vs fun a19 n19 z19 vs =>
 inI .i64 vs fun x20 vs =>
 inI .i64 vs fun x21 vs =>
 nilK vs <|
 inX bs fun y7 bs =>
 nilX bs <|
 hp a19 fun b24 o24 =>
 aidx x21 n19 fun j24 =>
 rdH H b24 fun y25 =>
 rI .u8 y25 (o24 + j24 * 1) fun x25 =>
 rSl y7 2 fun a30 n30 z30 =>
 nz (IntKind.wrap .i64 ((IntKind.wrap .i64 (2 * x2)) + 1)) <|
 hp a30 fun b47 o47 =>
 aidx x21 n30 fun j47 =>
 wrH H b47 fun y e =>
 gd (o47 + j47 * 1 < y.length) <|
 F10 kb [.int .u32 (IntKind.wrap .u32 ((IntKind.wrap .u32 (x1 * 1664525)) + 1013904223)), .int .i64 x2, .agg ⟨l14⟩, .int .i64 x15, .slice a19 n19 z19, .int .i64 x20, .int .i64 x21] [y7] (AHeap.put H b47 (.cells (List.set y (o47 + j47 * 1) (.int .u8 (IntKind.wrap .u8 (mxI (mnI (IntKind.wrap .i64 ((IntKind.wrap .i64 ((IntKind.wrap .i64 x25) + ((IntKind.wrap .i64 (shrI .u32 (IntKind.wrap .u32 ((IntKind.wrap .u32 (x1 * 1664525)) + 1013904223)) 16)).tmod (IntKind.wrap .i64 ((IntKind.wrap .i64 (2 * x2)) + 1))))) - x2)) 255) 0)))) e true))
def f18_7 (Q : Value → AHeap → Prop) : PT := g18_7 Q (f18_10 Q)

def g18_11 (Q : Value → AHeap → Prop) (kb : KB) (vs : List Value) (bs : List (List Value)) (H : AHeap) : Prop :=
 inI .u32 vs fun x1 vs =>
 inI .i64 vs fun x2 vs =>
 inA 9 vs fun l14 vs =>
 inI .i64 vs fun x15 vs =>
 nilK vs <|
 nilX bs <|
 kb 3 [.int .u32 x1, .int .i64 x2, .agg ⟨l14⟩, .int .i64 (IntKind.wrap .i64 (x15 + 1))] [] H
def f18_11 (Q : Value → AHeap → Prop) : PT := g18_11 Q

def g18_l6 (Q : Value → AHeap → Prop) (F7 F11 : PT) (kb : KB) (vs : List Value) (bs : List (List Value)) (H : AHeap) : Prop :=
 inI .u32 vs fun x1 vs =>
 inI .i64 vs fun x2 vs =>
 inA 9 vs fun l14 vs =>
 inI .i64 vs fun x15 vs =>
 inSl vs fun a19 n19 z19 vs =>
 inI .i64 vs fun x20 vs =>
 inI .i64 vs fun x21 vs =>
 nilK vs <|
 inX bs fun y7 bs =>
 nilX bs <|
 bif (decide ((x21 : Int) < x20)) then (
  F7 kb [.int .u32 x1, .int .i64 x2, .agg ⟨l14⟩, .int .i64 x15, .slice a19 n19 z19, .int .i64 x20, .int .i64 x21] [y7] H
 ) else (
  F11 kb [.int .u32 x1, .int .i64 x2, .agg ⟨l14⟩, .int .i64 x15] [] H
 )
def f18_l6 (Q : Value → AHeap → Prop) : PT := g18_l6 Q (f18_7 Q) (f18_11 Q)

def g18_4 (Q : Value → AHeap → Prop) (L6 : PT) (kb : KB) (vs : List Value) (bs : List (List Value)) (H : AHeap) : Prop :=
 inI .u32 vs fun x1 vs =>
 inI .i64 vs fun x2 vs =>
 inA 9 vs fun l14 vs =>
 inI .i64 vs fun x15 vs =>
 nilK vs <|
 nilX bs <|
 aidx x15 3 fun j17 =>
 rA 3 l14 (j17 * 3) fun l17 =>
 gd (l17.length = 3 ∧ 0 + 3 ≤ List.length (α := Value) [.int .i64 0, .int .i64 0, .slice none 0 0]) <|
 rSl (stC [.int .i64 0, .int .i64 0, .slice none 0 0] 0 l17) 2 fun a19 n19 z19 =>
 lpW L6 kb 6 [.int .u32 x1, .int .i64 x2, .agg ⟨l14⟩, .int .i64 x15, .slice a19 n19 z19, .int .i64 (n19 : Int), .int .i64 0] [(stC [.int .i64 0, .int .i64 0, .slice none 0 0] 0 l17)] H
def f18_4 (Q : Value → AHeap → Prop) : PT := g18_4 Q (f18_l6 Q)

def g18_l3 (Q : Value → AHeap → Prop) (F4 : PT) (kb : KB) (vs : List Value) (bs : List (List Value)) (H : AHeap) : Prop :=
 inI .u32 vs fun x1 vs =>
 inI .i64 vs fun x2 vs =>
 inA 9 vs fun l14 vs =>
 inI .i64 vs fun x15 vs =>
 nilK vs <|
 nilX bs <|
 bif (decide ((x15 : Int) < 3)) then (
  F4 kb [.int .u32 x1, .int .i64 x2, .agg ⟨l14⟩, .int .i64 x15] [] H
 ) else (
  Q (.tuple ⟨[]⟩) H
 )
def f18_l3 (Q : Value → AHeap → Prop) : PT := g18_l3 Q (f18_4 Q)

/-- (kinescope/plane.Frame).Noise -/
def g18 (Q : Value → AHeap → Prop) (L3 : PT) (vs : List Value) (H : AHeap) : Prop :=
 inA 11 vs fun l0 vs =>
 inI .u32 vs fun x1 vs =>
 inI .i64 vs fun x2 vs =>
 nilK vs <|
 gd (l0.length = 11) <|
 rA 11 l0 0 fun l13 =>
 call Try.prog 35 [.agg ⟨l13⟩] H fun r14 H14 =>
 asA 9 r14 fun l14 =>
 lpW L3 kb0 3 [.int .u32 x1, .int .i64 (mnI (mxI x2 0) 255), .agg ⟨l14⟩, .int .i64 0] [] H14
def f18 (vs : List Value) (H : AHeap) (Q : Value → AHeap → Prop) : Prop := g18 Q (f18_l3 Q) vs H

noncomputable def x18 (Q : Value → AHeap → Prop) (F10 F7 F11 F4 L6 L3 : PT) : Pc := pc Try.prog 50 [(3, 3), (7, 7), (18, 7), (29, 7)]
  [(10, ⟨[1, 2, 14, 15, 19, 20, 21], [(7, 7)], [7]⟩), (7, ⟨[1, 2, 14, 15, 19, 20, 21], [(7, 7)], [7]⟩), (11, ⟨[1, 2, 14, 15], [], []⟩), (4, ⟨[1, 2, 14, 15], [], []⟩)]
  [(6, ⟨[1, 2, 14, 15, 19, 20, 21], [(7, 7)], [7]⟩), (3, ⟨[1, 2, 14, 15], [], []⟩)]
  [(9, [(0, []), (1, []), (2, []), (3, []), (4, []), (5, []), (6, []), (7, []), (8, []), (9, []), (10, []), (11, []), (12, []), (13, []), (14, []), (15, []), (16, []), (17, []), (18, []), (19, [])])]
  (shOf [(10, F10), (7, F7), (11, F11), (4, F4)])
  (shOf [(6, L6), (3, L3)])
  [] Q
theorem o18_0 (Q : Value → AHeap → Prop) (F10 F7 F11 F4 L6 : PT) : cutOK (x18 Q F10 F7 F11 F4 L6 (g18_l3 Q F4)) (cutAt (bodyOf Try.f18) 0) := by
  refine cutOK_of (F := g18_l3 Q F4) (by kernel_rfl) ?_
  intro kb vs bs H h
  obtain ⟨_, _, rfl, h1⟩ := deI h
  obtain ⟨_, _, rfl, h2⟩ := deI h1
  obtain ⟨_, _, rfl, h3⟩ := deA h2
  obtain ⟨_, _, rfl, h4⟩ := deI h3
  obtain ⟨rfl, g⟩ := deN h4
  obtain ⟨rfl, k⟩ := deNX g
  exact Eq.mp (by kernel_rfl) k
theorem o18_1 (Q : Value → AHeap → Prop) (F10 F7 F11 L6 L3 : PT) : cutOK (x18 Q F10 F7 F11 (g18_4 Q L6) L6 L3) (cutAt (bodyOf Try.f18) 1) := by
  refine cutOK_of (F := g18_4 Q L6) (by kernel_rfl) ?_
  intro kb vs bs H h
  obtain ⟨_, _, rfl, h1⟩ := deI h
  obtain ⟨_, _, rfl, h2⟩ := deI h1
  obtain ⟨_, _, rfl, h3⟩ := deA h2
  obtain ⟨_, _, rfl, h4⟩ := deI h3
  obtain ⟨rfl, g⟩ := deN h4
  obtain ⟨rfl, k⟩ := deNX g
  exact Eq.mp (by kernel_rfl) k
theorem o18_2 (Q : Value → AHeap → Prop) (F10 F7 F4 L6 L3 : PT) : cutOK (x18 Q F10 F7 (g18_11 Q) F4 L6 L3) (cutAt (bodyOf Try.f18) 2) := by
  refine cutOK_of (F := g18_11 Q) (by kernel_rfl) ?_
  intro kb vs bs H h
  obtain ⟨_, _, rfl, h1⟩ := deI h
  obtain ⟨_, _, rfl, h2⟩ := deI h1
  obtain ⟨_, _, rfl, h3⟩ := deA h2
  obtain ⟨_, _, rfl, h4⟩ := deI h3
  obtain ⟨rfl, g⟩ := deN h4
  obtain ⟨rfl, k⟩ := deNX g
  exact Eq.mp (by kernel_rfl) k
theorem o18_3 (Q : Value → AHeap → Prop) (F10 F7 F11 F4 L3 : PT) : cutOK (x18 Q F10 F7 F11 F4 (g18_l6 Q F7 F11) L3) (cutAt (bodyOf Try.f18) 3) := by
  refine cutOK_of (F := g18_l6 Q F7 F11) (by kernel_rfl) ?_
  intro kb vs bs H h
  obtain ⟨_, _, rfl, h1⟩ := deI h
  obtain ⟨_, _, rfl, h2⟩ := deI h1
  obtain ⟨_, _, rfl, h3⟩ := deA h2
  obtain ⟨_, _, rfl, h4⟩ := deI h3
  obtain ⟨_, _, _, _, rfl, h5⟩ := deSl h4
  obtain ⟨_, _, rfl, h6⟩ := deI h5
  obtain ⟨_, _, rfl, h7⟩ := deI h6
  obtain ⟨rfl, g⟩ := deN h7
  obtain ⟨_, _, rfl, g1⟩ := deX g
  obtain ⟨rfl, k⟩ := deNX g1
  exact Eq.mp (by kernel_rfl) k
theorem o18_4 (Q : Value → AHeap → Prop) (F10 F11 F4 L6 L3 : PT) : cutOK (x18 Q F10 (g18_7 Q F10) F11 F4 L6 L3) (cutAt (bodyOf Try.f18) 4) := by
  refine cutOK_of (F := g18_7 Q F10) (by kernel_rfl) ?_
  intro kb vs bs H h
  obtain ⟨_, _, rfl, h1⟩ := deI h
  obtain ⟨_, _, rfl, h2⟩ := deI h1
  obtain ⟨_, _, rfl, h3⟩ := deA h2
  obtain ⟨_, _, rfl, h4⟩ := deI h3
  obtain ⟨_, _, _, _, rfl, h5⟩ := deSl h4
  obtain ⟨_, _, rfl, h6⟩ := deI h5
  obtain ⟨_, _, rfl, h7⟩ := deI h6
  obtain ⟨rfl, g⟩ := deN h7
  obtain ⟨_, _, rfl, g1⟩ := deX g
  obtain ⟨rfl, k⟩ := deNX g1
  exact Eq.mp (by kernel_rfl) k
theorem o18_5 (Q : Value → AHeap → Prop) (F7 F11 F4 L6 L3 : PT) : cutOK (x18 Q (g18_10 Q) F7 F11 F4 L6 L3) (cutAt (bodyOf Try.f18) 5) := by
  refine cutOK_of (F := g18_10 Q) (by kernel_rfl) ?_
  intro kb vs bs H h
  obtain ⟨_, _, rfl, h1⟩ := deI h
  obtain ⟨_, _, rfl, h2⟩ := deI h1
  obtain ⟨_, _, rfl, h3⟩ := deA h2
  obtain ⟨_, _, rfl, h4⟩ := deI h3
  obtain ⟨_, _, _, _, rfl, h5⟩ := deSl h4
  obtain ⟨_, _, rfl, h6⟩ := deI h5
  obtain ⟨_, _, rfl, h7⟩ := deI h6
  obtain ⟨rfl, g⟩ := deN h7
  obtain ⟨_, _, rfl, g1⟩ := deX g
  obtain ⟨rfl, k⟩ := deNX g1
  exact Eq.mp (by kernel_rfl) k
theorem m18 {Q : Value → AHeap → Prop} (F10 F7 F11 F4 L6 L3 : PT) {vs : List Value} {H : AHeap} (h : g18 Q L3 vs H) : Nat.ble vs.length 50 = true ∧ interp (x18 Q F10 F7 F11 F4 L6 L3) kb0 (bodyOf Try.f18) [] (entry vs H) := by
  obtain ⟨_, _, rfl, h1⟩ := deA h
  obtain ⟨_, _, rfl, h2⟩ := deI h1
  obtain ⟨_, _, rfl, h3⟩ := deI h2
  obtain ⟨rfl, g⟩ := deN h3
  exact ⟨by kernel_rfl, Eq.mp (by kernel_rfl) g⟩
theorem c18 {vs : List Value} {H : AHeap} {Q : Value → AHeap → Prop} (h : f18 vs H Q) : call Try.prog 18 vs H Q :=
  call_of' noNG (X := x18 Q (f18_10 Q) (f18_7 Q) (f18_11 Q) (f18_4 Q) (f18_l6 Q) (f18_l3 Q)) (fn := Try.f18) (by kernel_rfl) (by kernel_rfl) (by kernel_rfl) (by kernel_rfl) (by kernel_rfl) (obl_of (n := 6) (by kernel_rfl) (by kernel_rfl) ⟨o18_0 Q (f18_10 Q) (f18_7 Q) (f18_11 Q) (f18_4 Q) (f18_l6 Q), o18_1 Q (f18_10 Q) (f18_7 Q) (f18_11 Q) (f18_l6 Q) (f18_l3 Q), o18_2 Q (f18_10 Q) (f18_7 Q) (f18_4 Q) (f18_l6 Q) (f18_l3 Q), o18_3 Q (f18_10 Q) (f18_7 Q) (f18_11 Q) (f18_4 Q) (f18_l3 Q), o18_4 Q (f18_10 Q) (f18_11 Q) (f18_4 Q) (f18_l6 Q) (f18_l3 Q), o18_5 Q (f18_7 Q) (f18_11 Q) (f18_4 Q) (f18_l6 Q) (f18_l3 Q), trivial⟩) (m18 (f18_10 Q) (f18_7 Q) (f18_11 Q) (f18_4 Q) (f18_l6 Q) (f18_l3 Q) h).1 (m18 (f18_10 Q) (f18_7 Q) (f18_11 Q) (f18_4 Q) (f18_l6 Q) (f18_l3 Q) h).2

/-! ## 9 (kinescope/search.Searcher).Quarters -/

def g9_17 (Q : Value → AHeap → Prop) (kb : KB) (vs : List Value) (bs : List (List Value)) (H : AHeap) : Prop :=
 inI .i64 vs fun x3 vs =>
 inC vs fun r4 i4 vs =>
 inB vs fun c5 vs =>
 inI .i64 vs fun x16 vs =>
 inI .i64 vs fun x17 vs =>
 inI .i64 vs fun x18 vs =>
 inI .i64 vs fun x33 vs =>
 inSl vs fun a45 n45 z45 vs =>
 inI .i64 vs fun x46 vs =>
 inI .i64 vs fun x47 vs =>
 nilK vs <|
 inX bs fun y6 bs =>
 inX bs fun y7 bs =>
 inX bs fun y8 bs =>
 inX bs fun y12 bs =>
 inX bs fun y15 bs =>
 nilX bs <|
 kb 10 [.int .i64 x3, .complex .f64 r4 i4, .bool c5, .int .i64 x16, .int .i64 x17, .int .i64 x18, .int .i64 x33, .slice a45 n45 z45, .int .i64 x46, .int .i64 (IntKind.wrap .i64 (x47 + 1))] [y6, y7, y8, y12, y15] H
def f9_17 (Q : Value → AHeap → Prop) : PT := g9_17 Q

def g9_11 (Q : Value → AHeap → Prop) (F17 : PT) (kb : KB) (vs : List Value) (bs : List (List Value)) (H : AHeap) : Prop :=
 inI .i64 vs fun x3 vs =>
 inC vs fun r4 i4 vs =>
 inB vs fun c5 vs =>
 inI .i64 vs fun x16 vs =>
 inI .i64 vs fun x17 vs =>
 inI .i64 vs fun x18 vs =>
 inI .i64 vs fun x33 vs =>
 inSl vs fun a45 n45 z45 vs =>
 inI .i64 vs fun x46 vs =>
 inI .i64 vs fun x47 vs =>
 nilK vs <|
 inX bs fun y6 bs =>
 inX bs fun y7 bs =>
 inX bs fun y8 bs =>
 inX bs fun y12 bs =>
 inX bs fun y15 bs =>
 nilX bs <|
 hp a45 fun b49 o49 =>
 aidx x47 n45 fun j49 =>
 rdH H b49 fun y50 =>
 rC y50 (o49 + j49 * 1) fun r50 i50 =>
 rA 4 y15 0 fun l51 =>
 gd (l51.length = 4 ∧ 0 + 4 ≤ List.length (α := Value) [.complex .f64 0 0, .complex .f64 0 0, .complex .f64 0 0, .complex .f64 0 0]) <|
 aidx x17 4 fun j54 =>
 gd (0 + j54 * 1 < List.length (α := Value) (stC [.complex .f64 0 0, .complex .f64 0 0, .complex .f64 0 0, .complex .f64 0 0] 0 l51)) <|
 rA 11 y7 0 fun l55 =>
 rA 11 y8 0 fun l56 =>
 call Try.prog 21 [.agg ⟨l55⟩, .agg ⟨l56⟩, .int .i64 x3, .int .i64 x17, .complex .f64 r50 i50, .bool c5] H fun r61 H61 =>
 asI .i64 r61 fun x61 =>
 bif (decide ((x61 : Int) < x18)) then (
  rA 2 y6 0 fun l66 =>
  rI .i64 y7 0 fun x68 =>
  rA 4 (List.set (stC [.complex .f64 0 0, .complex .f64 0 0, .complex .f64 0 0, .complex .f64 0 0] 0 l51) (0 + j54 * 1) (.complex .f64 r50 i50)) 0 fun l70 =>
  call Try.prog 20 [.agg ⟨l66⟩, .int .i64 x68, .int .i64 x3, .agg ⟨l70⟩] H61 fun r71 H71 =>
  asB r71 fun c71 =>
  bif c71 then (
   rA 4 (List.set (stC [.complex .f64 0 0, .complex .f64 0 0, .complex .f64 0 0, .complex .f64 0 0] 0 l51) (0 + j54 * 1) (.complex .f64 r50 i50)) 0 fun l74 =>
   gd (l74.length = 4 ∧ 0 + 4 ≤ y15.length) <|
   F17 kb [.int .i64 x3, .complex .f64 r4 i4, .bool c5, .int .i64 x16, .int .i64 x17, .int .i64 x61, .int .i64 x33, .slice a45 n45 z45, .int .i64 x46, .int .i64 x47] [y6, y7, y8, y12, (stC y15 0 l74)] H71
  ) else (
   F17 kb [.int .i64 x3, .complex .f64 r4 i4, .bool c5, .int .i64 x16, .int .i64 x17, .int .i64 x18, .int .i64 x33, .slice a45 n45 z45, .int .i64 x46, .int .i64 x47] [y6, y7, y8, y12, y15] H71
  )
 ) else (
  F17 kb [.int .i64 x3, .complex .f64 r4 i4, .bool c5, .int .i64 x16, .int .i64 x17, .int .i64 x18, .int .i64 x33, .slice a45 n45 z45, .int .i64 x46, .int .i64 x47] [y6, y7, y8, y12, y15] H61
 )
def f9_11 (Q : Value → AHeap → Prop) : PT := g9_11 Q (f9_17 Q)

def g9_19 (Q : Value → AHeap → Prop) (kb : KB) (vs : List Value) (bs : List (List Value)) (H : AHeap) : Prop :=
 inI .i64 vs fun x3 vs =>
 inC vs fun r4 i4 vs =>
 inB vs fun c5 vs =>
 inI .i64 vs fun x16 vs =>
 inI .i64 vs fun x33 vs =>
 nilK vs <|
 inX bs fun y6 bs =>
 inX bs fun y7 bs =>
 inX bs fun y8 bs =>
 inX bs fun y12 bs =>
 inX bs fun y15 bs =>
 nilX bs <|
 kb 6 [.int .i64 x3, .complex .f64 r4 i4, .bool c5, .int .i64 x16, .int .i64 (IntKind.wrap .i64 (x33 + 1))] [y6, y7, y8, y12, y15] H
def f9_19 (Q : Value → AHeap → Prop) : PT := g9_19 Q

def g9_18 (Q : Value → AHeap → Prop) (F19 : PT) (kb : KB) (vs : List Value) (bs : List (List Value)) (H : AHeap) : Prop :=
 inI .i64 vs fun x3 vs =>
 inC vs fun r4 i4 vs =>
 inB vs fun c5 vs =>
 inI .i64 vs fun x16 vs =>
 inI .i64 vs fun x18 vs =>
 inI .i64 vs fun x33 vs =>
 nilK vs <|
 inX bs fun y6 bs =>
 inX bs fun y7 bs =>
 inX bs fun y8 bs =>
 inX bs fun y12 bs =>
 inX bs fun y15 bs =>
 nilX bs <|
 F19 kb [.int .i64 x3, .complex .f64 r4 i4, .bool c5, .int .i64 (IntKind.wrap .i64 (x16 + x18)), .int .i64 x33] [y6, y7, y8, y12, y15] H
def f9_18 (Q : Value → AHeap → Prop) : PT := g9_18 Q (f9_19 Q)

def g9_l10 (Q : Value → AHeap → Prop) (F11 F18 : PT) (kb : KB) (vs : List Value) (bs : List (List Value)) (H : AHeap) : Prop :=
 inI .i64 vs fun x3 vs =>
 inC vs fun r4 i4 vs =>
 inB vs fun c5 vs =>
 inI .i64 vs fun x16 vs =>
 inI .i64 vs fun x17 vs =>
 inI .i64 vs fun x18 vs =>
 inI .i64 vs fun x33 vs =>
 inSl vs fun a45 n45 z45 vs =>
 inI .i64 vs fun x46 vs =>
 inI .i64 vs fun x47 vs =>
 nilK vs <|
 inX bs fun y6 bs =>
 inX bs fun y7 bs =>
 inX bs fun y8 bs =>
 inX bs fun y12 bs =>
 inX bs fun y15 bs =>
 nilX bs <|
 bif (decide ((x47 : Int) < x46)) then (
  F11 kb [.int .i64 x3, .complex .f64 r4 i4, .bool c5, .int .i64 x16, .int .i64 x17, .int .i64 x18, .int .i64 x33, .slice a45 n45 z45, .int .i64 x46, .int .i64 x47] [y6, y7, y8, y12, y15] H
 ) else (
  F18 kb [.int .i64 x3, .complex .f64 r4 i4, .bool c5, .int .i64 x16, .int .i64 x18, .int .i64 x33] [y6, y7, y8, y12, y15] H
 )
def f9_l10 (Q : Value → AHeap → Prop) : PT := g9_l10 Q (f9_11 Q) (f9_18 Q)

def g9_7 (Q : Value → AHeap → Prop) (L10 : PT) (kb : KB) (vs : List Value) (bs : List (List Value)) (H : AHeap) : Prop :=
 inI .i64 vs fun x3 vs =>
 inC vs fun r4 i4 vs =>
 inB vs fun c5 vs =>
 inI .i64 vs fun x16 vs =>
 inI .i64 vs fun x33 vs =>
 nilK vs <|
 inX bs fun y6 bs =>
 inX bs fun y7 bs =>
 inX bs fun y8 bs =>
 inX bs fun y12 bs =>
 inX bs fun y15 bs =>
 nilX bs <|
 rA 11 y7 0 fun l36 =>
 rA 11 y8 0 fun l37 =>
 call Try.prog 21 [.agg ⟨l36⟩, .agg ⟨l37⟩, .int .i64 x3, .int .i64 x33, .complex .f64 r4 i4, .bool c5] H fun r42 H42 =>
 asI .i64 r42 fun x42 =>
 rA 2 y6 0 fun l43 =>
 call Try.prog 22 [.agg ⟨l43⟩, .complex .f64 r4 i4, .int .i64 1, .int .i64 2] H42 fun r45 H45 =>
 asSl r45 fun a45 n45 z45 =>
 lpW L10 kb 10 [.int .i64 x3, .complex .f64 r4 i4, .bool c5, .int .i64 x16, .int .i64 x33, .int .i64 x42, .int .i64 x33, .slice a45 n45 z45, .int .i64 (n45 : Int), .int .i64 0] [y6, y7, y8, y12, y15] H45
def f9_7 (Q : Value → AHeap → Prop) : PT := g9_7 Q (f9_l10 Q)

def g9_20 (Q : Value → AHeap → Prop) (kb : KB) (vs : List Value) (bs : List (List Value)) (H : AHeap) : Prop :=
 inI .i64 vs fun x16 vs =>
 nilK vs <|
 inX bs fun y12 bs =>
 inX bs fun y15 bs =>
 nilX bs <|
 rA 4 y15 0 fun l80 =>
 gd (l80.length = 4 ∧ 0 + 4 ≤ y12.length) <|
 rA 4 (stC y12 0 l80) 0 fun l =>
 Q (.tuple ⟨[.agg ⟨l⟩, .int .i64 x16, .bool true]⟩) H
def f9_20 (Q : Value → AHeap → Prop) : PT := g9_20 Q

def g9_l6 (Q : Value → AHeap → Prop) (F7 F20 : PT) (kb : KB) (vs : List Value) (bs : List (List Value)) (H : AHeap) : Prop :=
 inI .i64 vs fun x3 vs =>
 inC vs fun r4 i4 vs =>
 inB vs fun c5 vs =>
 inI .i64 vs fun x16 vs =>
 inI .i64 vs fun x33 vs =>
 nilK vs <|
 inX bs fun y6 bs =>
 inX bs fun y7 bs =>
 inX bs fun y8 bs =>
 inX bs fun y12 bs =>
 inX bs fun y15 bs =>
 nilX bs <|
 bif (decide ((x33 : Int) < 4)) then (
  F7 kb [.int .i64 x3, .complex .f64 r4 i4, .bool c5, .int .i64 x16, .int .i64 x33] [y6, y7, y8, y12, y15] H
 ) else (
  F20 kb [.int .i64 x16] [y12, y15] H
 )
def f9_l6 (Q : Value → AHeap → Prop) : PT := g9_l6 Q (f9_7 Q) (f9_20 Q)

def g9_4 (Q : Value → AHeap → Prop) (L6 : PT) (kb : KB) (vs : List Value) (bs : List (List Value)) (H : AHeap) : Prop :=
 inI .i64 vs fun x3 vs =>
 inC vs fun r4 i4 vs =>
 inB vs fun c5 vs =>
 nilK vs <|
 inX bs fun y6 bs =>
 inX bs fun y7 bs =>
 inX bs fun y8 bs =>
 inX bs fun y12 bs =>
 inX bs fun y15 bs =>
 nilX bs <|
 lpW L6 kb 6 [.int .i64 x3, .complex .f64 r4 i4, .bool c5, .int .i64 0, .int .i64 0] [y6, y7, y8, y12, y15] H
def f9_4 (Q : Value → AHeap → Prop) : PT := g9_4 Q (f9_l6 Q)

/-- (kinescope/search.Searcher).Quarters -/
def g9 (Q : Value → AHeap → Prop) (F4 : PT) (vs : List Value) (H : AHeap) : Prop :=
 inA 2 vs fun l0 vs =>
 inA 11 vs fun l1 vs =>
 inA 11 vs fun l2 vs =>
 inI .i64 vs fun x3 vs =>
 inC vs fun r4 i4 vs =>
 inB vs fun c5 vs =>
 nilK vs <|
 gd (l0.length = 2) <|
 gd (l1.length = 11) <|
 gd (l2.length = 11) <|
 call Try.prog 10 [.complex .f64 r4 i4] H fun r24 H24 =>
 asA 4 r24 fun l24 =>
 gd (l24.length = 4 ∧ 0 + 4 ≤ List.length (α := Value) [.complex .f64 0 0, .complex .f64 0 0, .complex .f64 0 0, .complex .f64 0 0]) <|
 rA 2 l0 0 fun l25 =>
 rI .i64 l1 0 fun x27 =>
 rA 4 (stC [.complex .f64 0 0, .complex .f64 0 0, .complex .f64 0 0, .complex .f64 0 0] 0 l24) 0 fun l29 =>
 call Try.prog 20 [.agg ⟨l25⟩, .int .i64 x27, .int .i64 x3, .agg ⟨l29⟩] H24 fun r30 H30 =>
 asB r30 fun c30 =>
 bif (!c30) then (
  Q (.tuple ⟨[.agg ⟨[.complex .f64 0 0, .complex .f64 0 0, .complex .f64 0 0, .complex .f64 0 0]⟩, .int .i64 0, .bool false]⟩) H30
 ) else (
  F4 kb0 [.int .i64 x3, .complex .f64 r4 i4, .bool c5] [l0, l1, l2, [.complex .f64 0 0, .complex .f64 0 0, .complex .f64 0 0, .complex .f64 0 0], (stC [.complex .f64 0 0, .complex .f64 0 0, .complex .f64 0 0, .complex .f64 0 0] 0 l24)] H30
 )
def f9 (vs : List Value) (H : AHeap) (Q : Value → AHeap → Prop) : Prop := g9 Q (f9_4 Q) vs H

noncomputable def x9 (Q : Value → AHeap → Prop) (F17 F11 F19 F18 F7 F20 F4 L10 L6 : PT) : Pc := pc Try.prog 82 [(6, 6), (7, 7), (8, 8), (12, 12), (15, 15), (21, 21), (26, 7), (54, 21), (67, 7)]
  [(17, ⟨[3, 4, 5, 16, 17, 18, 33, 45, 46, 47], [(6, 6), (7, 7), (8, 8), (12, 12), (15, 15)], [6, 7, 8, 12, 15]⟩), (11, ⟨[3, 4, 5, 16, 17, 18, 33, 45, 46, 47], [(6, 6), (7, 7), (8, 8), (12, 12), (15, 15)], [6, 7, 8, 12, 15]⟩), (19, ⟨[3, 4, 5, 16, 33], [(6, 6), (7, 7), (8, 8), (12, 12), (15, 15)], [6, 7, 8, 12, 15]⟩), (18, ⟨[3, 4, 5, 16, 18, 33], [(6, 6), (7, 7), (8, 8), (12, 12), (15, 15)], [6, 7, 8, 12, 15]⟩), (7, ⟨[3, 4, 5, 16, 33], [(6, 6), (7, 7), (8, 8), (12, 12), (15, 15)], [6, 7, 8, 12, 15]⟩), (20, ⟨[16], [(12, 12), (15, 15)], [12, 15]⟩), (4, ⟨[3, 4, 5], [(6, 6), (7, 7), (8, 8), (12, 12), (15, 15)], [6, 7, 8, 12, 15]⟩)]
  [(10, ⟨[3, 4, 5, 16, 17, 18, 33, 45, 46, 47], [(6, 6), (7, 7), (8, 8), (12, 12), (15, 15)], [6, 7, 8, 12, 15]⟩), (6, ⟨[3, 4, 5, 16, 33], [(6, 6), (7, 7), (8, 8), (12, 12), (15, 15)], [6, 7, 8, 12, 15]⟩)]
  [(16, [(0, []), (1, []), (2, []), (3, [])])]
  (shOf [(17, F17), (11, F11), (19, F19), (18, F18), (7, F7), (20, F20), (4, F4)])
  (shOf [(10, L10), (6, L6)])
  [.cell 12 37, .tmp 13, .tmp 14] Q
theorem o9_0 (Q : Value → AHeap → Prop) (F17 F11 F19 F18 F7 F20 L10 L6 : PT) : cutOK (x9 Q F17 F11 F19 F18 F7 F20 (g9_4 Q L6) L10 L6) (cutAt (bodyOf Try.f9) 0) := by
  refine cutOK_of (F := g9_4 Q L6) (by kernel_rfl) ?_
  intro kb vs bs H h
  obtain ⟨_, _, rfl, h1⟩ := deI h
  obtain ⟨_, _, _, rfl, h2⟩ := deC h1
  obtain ⟨_, _, rfl, h3⟩ := deB h2
  obtain ⟨rfl, g⟩ := deN h3
  obtain ⟨_, _, rfl, g1⟩ := deX g
  obtain ⟨_, _, rfl, g2⟩ := deX g1
  obtain ⟨_, _, rfl, g3⟩ := deX g2
  obtain ⟨_, _, rfl, g4⟩ := deX g3
  obtain ⟨_, _, rfl, g5⟩ := deX g4
  obtain ⟨rfl, k⟩ := deNX g5
  exact Eq.mp (by kernel_rfl) k
theorem o9_1 (Q : Value → AHeap → Prop) (F17 F11 F19 F18 F7 F4 L10 L6 : PT) : cutOK (x9 Q F17 F11 F19 F18 F7 (g9_20 Q) F4 L10 L6) (cutAt (bodyOf Try.f9) 1) := by
  refine cutOK_of (F := g9_20 Q) (by kernel_rfl) ?_
  intro kb vs bs H h
  obtain ⟨_, _, rfl, h1⟩ := deI h
  obtain ⟨rfl, g⟩ := deN h1
  obtain ⟨_, _, rfl, g1⟩ := deX g
  obtain ⟨_, _, rfl, g2⟩ := deX g1
  obtain ⟨rfl, k⟩ := deNX g2
  exact Eq.mp (by kernel_rfl) k
theorem o9_2 (Q : Value → AHeap → Prop) (F17 F11 F19 F18 F7 F20 F4 L10 : PT) : cutOK (x9 Q F17 F11 F19 F18 F7 F20 F4 L10 (g9_l6 Q F7 F20)) (cutAt (bodyOf Try.f9) 2) := by
  refine cutOK_of (F := g9_l6 Q F7 F20) (by kernel_rfl) ?_
  intro kb vs bs H h
  obtain ⟨_, _, rfl, h1⟩ := deI h
  obtain ⟨_, _, _, rfl, h2⟩ := deC h1
  obtain ⟨_, _, rfl, h3⟩ := deB h2
  obtain ⟨_, _, rfl, h4⟩ := deI h3
  obtain ⟨_, _, rfl, h5⟩ := deI h4
  obtain ⟨rfl, g⟩ := deN h5
  obtain ⟨_, _, rfl, g1⟩ := deX g
  obtain ⟨_, _, rfl, g2⟩ := deX g1
  obtain ⟨_, _, rfl, g3⟩ := deX g2
  obtain ⟨_, _, rfl, g4⟩ := deX g3
  obtain ⟨_, _, rfl, g5⟩ := deX g4
  obtain ⟨rfl, k⟩ := deNX g5
  exact Eq.mp (by kernel_rfl) k
theorem o9_3 (Q : Value → AHeap → Prop) (F17 F11 F19 F18 F20 F4 L10 L6 : PT) : cutOK (x9 Q F17 F11 F19 F18 (g9_7 Q L10) F20 F4 L10 L6) (cutAt (bodyOf Try.f9) 3) := by
  refine cutOK_of (F := g9_7 Q L10) (by kernel_rfl) ?_
  intro kb vs bs H h
  obtain ⟨_, _, rfl, h1⟩ := deI h
  obtain ⟨_, _, _, rfl, h2⟩ := deC h1
  obtain ⟨_, _, rfl, h3⟩ := deB h2
  obtain ⟨_, _, rfl, h4⟩ := deI h3
  obtain ⟨_, _, rfl, h5⟩ := deI h4
  obtain ⟨rfl, g⟩ := deN h5
  obtain ⟨_, _, rfl, g1⟩ := deX g
  obtain ⟨_, _, rfl, g2⟩ := deX g1
  obtain ⟨_, _, rfl, g3⟩ := deX g2
  obtain ⟨_, _, rfl, g4⟩ := deX g3
  obtain ⟨_, _, rfl, g5⟩ := deX g4
  obtain ⟨rfl, k⟩ := deNX g5
  exact Eq.mp (by kernel_rfl) k
theorem o9_4 (Q : Value → AHeap → Prop) (F17 F11 F18 F7 F20 F4 L10 L6 : PT) : cutOK (x9 Q F17 F11 (g9_19 Q) F18 F7 F20 F4 L10 L6) (cutAt (bodyOf Try.f9) 4) := by
  refine cutOK_of (F := g9_19 Q) (by kernel_rfl) ?_
  intro kb vs bs H h
  obtain ⟨_, _, rfl, h1⟩ := deI h
  obtain ⟨_, _, _, rfl, h2⟩ := deC h1
  obtain ⟨_, _, rfl, h3⟩ := deB h2
  obtain ⟨_, _, rfl, h4⟩ := deI h3
  obtain ⟨_, _, rfl, h5⟩ := deI h4
  obtain ⟨rfl, g⟩ := deN h5
  obtain ⟨_, _, rfl, g1⟩ := deX g
  obtain ⟨_, _, rfl, g2⟩ := deX g1
  obtain ⟨_, _, rfl, g3⟩ := deX g2
  obtain ⟨_, _, rfl, g4⟩ := deX g3
  obtain ⟨_, _, rfl, g5⟩ := deX g4
  obtain ⟨rfl, k⟩ := deNX g5
  exact Eq.mp (by kernel_rfl) k
theorem o9_5 (Q : Value → AHeap → Prop) (F17 F11 F19 F7 F20 F4 L10 L6 : PT) : cutOK (x9 Q F17 F11 F19 (g9_18 Q F19) F7 F20 F4 L10 L6) (cutAt (bodyOf Try.f9) 5) := by
  refine cutOK_of (F := g9_18 Q F19) (by kernel_rfl) ?_
  intro kb vs bs H h
  obtain ⟨_, _, rfl, h1⟩ := deI h
  obtain ⟨_, _, _, rfl, h2⟩ := deC h1
  obtain ⟨_, _, rfl, h3⟩ := deB h2
  obtain ⟨_, _, rfl, h4⟩ := deI h3
  obtain ⟨_, _, rfl, h5⟩ := deI h4
  obtain ⟨_, _, rfl, h6⟩ := deI h5
  obtain ⟨rfl, g⟩ := deN h6
  obtain ⟨_, _, rfl, g1⟩ := deX g
  obtain ⟨_, _, rfl, g2⟩ := deX g1
  obtain ⟨_, _, rfl, g3⟩ := deX g2
  obtain ⟨_, _, rfl, g4⟩ := deX g3
  obtain ⟨_, _, rfl, g5⟩ := deX g4
  obtain ⟨rfl, k⟩ := deNX g5
  exact Eq.mp (by kernel_rfl) k
theorem o9_6 (Q : Value → AHeap → Prop) (F17 F11 F19 F18 F7 F20 F4 L6 : PT) : cutOK (x9 Q F17 F11 F19 F18 F7 F20 F4 (g9_l10 Q F11 F18) L6) (cutAt (bodyOf Try.f9) 6) := by
  refine cutOK_of (F := g9_l10 Q F11 F18) (by kernel_rfl) ?_
  intro kb vs bs H h
  obtain ⟨_, _, rfl, h1⟩ := deI h
  obtain ⟨_, _, _, rfl, h2⟩ := deC h1
  obtain ⟨_, _, rfl, h3⟩ := deB h2
  obtain ⟨_, _, rfl, h4⟩ := deI h3
  obtain ⟨_, _, rfl, h5⟩ := deI h4
  obtain ⟨_, _, rfl, h6⟩ := deI h5
  obtain ⟨_, _, rfl, h7⟩ := deI h6
  obtain ⟨_, _, _, _, rfl, h8⟩ := deSl h7
  obtain ⟨_, _, rfl, h9⟩ := deI h8
  obtain ⟨_, _, rfl, h10⟩ := deI h9
  obtain ⟨rfl, g⟩ := deN h10
  obtain ⟨_, _, rfl, g1⟩ := deX g
  obtain ⟨_, _, rfl, g2⟩ := deX g1
  obtain ⟨_, _, rfl, g3⟩ := deX g2
  obtain ⟨_, _, rfl, g4⟩ := deX g3
  obtain ⟨_, _, rfl, g5⟩ := deX g4
  obtain ⟨rfl, k⟩ := deNX g5
  exact Eq.mp (by kernel_rfl) k
theorem o9_7 (Q : Value → AHeap → Prop) (F17 F19 F18 F7 F20 F4 L10 L6 : PT) : cutOK (x9 Q F17 (g9_11 Q F17) F19 F18 F7 F20 F4 L10 L6) (cutAt (bodyOf Try.f9) 7) := by
  refine cutOK_of (F := g9_11 Q F17) (by kernel_rfl) ?_
  intro kb vs bs H h
  obtain ⟨_, _, rfl, h1⟩ := deI h
  obtain ⟨_, _, _, rfl, h2⟩ := deC h1
  obtain ⟨_, _, rfl, h3⟩ := deB h2
  obtain ⟨_, _, rfl, h4⟩ := deI h3
  obtain ⟨_, _, rfl, h5⟩ := deI h4
  obtain ⟨_, _, rfl, h6⟩ := deI h5
  obtain ⟨_, _, rfl, h7⟩ := deI h6
  obtain ⟨_, _, _, _, rfl, h8⟩ := deSl h7
  obtain ⟨_, _, rfl, h9⟩ := deI h8
  obtain ⟨_, _, rfl, h10⟩ := deI h9
  obtain ⟨rfl, g⟩ := deN h10
  obtain ⟨_, _, rfl, g1⟩ := deX g
  obtain ⟨_, _, rfl, g2⟩ := deX g1
  obtain ⟨_, _, rfl, g3⟩ := deX g2
  obtain ⟨_, _, rfl, g4⟩ := deX g3
  obtain ⟨_, _, rfl, g5⟩ := deX g4
  obtain ⟨rfl, k⟩ := deNX g5
  exact Eq.mp (by kernel_rfl) k
theorem o9_8 (Q : Value → AHeap → Prop) (F11 F19 F18 F7 F20 F4 L10 L6 : PT) : cutOK (x9 Q (g9_17 Q) F11 F19 F18 F7 F20 F4 L10 L6) (cutAt (bodyOf Try.f9) 8) := by
  refine cutOK_of (F := g9_17 Q) (by kernel_rfl) ?_
  intro kb vs bs H h
  obtain ⟨_, _, rfl, h1⟩ := deI h
  obtain ⟨_, _, _, rfl, h2⟩ := deC h1
  obtain ⟨_, _, rfl, h3⟩ := deB h2
  obtain ⟨_, _, rfl, h4⟩ := deI h3
  obtain ⟨_, _, rfl, h5⟩ := deI h4
  obtain ⟨_, _, rfl, h6⟩ := deI h5
  obtain ⟨_, _, rfl, h7⟩ := deI h6
  obtain ⟨_, _, _, _, rfl, h8⟩ := deSl h7
  obtain ⟨_, _, rfl, h9⟩ := deI h8
  obtain ⟨_, _, rfl, h10⟩ := deI h9
  obtain ⟨rfl, g⟩ := deN h10
  obtain ⟨_, _, rfl, g1⟩ := deX g
  obtain ⟨_, _, rfl, g2⟩ := deX g1
  obtain ⟨_, _, rfl, g3⟩ := deX g2
  obtain ⟨_, _, rfl, g4⟩ := deX g3
  obtain ⟨_, _, rfl, g5⟩ := deX g4
  obtain ⟨rfl, k⟩ := deNX g5
  exact Eq.mp (by kernel_rfl) k
theorem m9 {Q : Value → AHeap → Prop} (F17 F11 F19 F18 F7 F20 F4 L10 L6 : PT) {vs : List Value} {H : AHeap} (h : g9 Q F4 vs H) : Nat.ble vs.length 82 = true ∧ interp (x9 Q F17 F11 F19 F18 F7 F20 F4 L10 L6) kb0 (bodyOf Try.f9) [] (entry vs H) := by
  obtain ⟨_, _, rfl, h1⟩ := deA h
  obtain ⟨_, _, rfl, h2⟩ := deA h1
  obtain ⟨_, _, rfl, h3⟩ := deA h2
  obtain ⟨_, _, rfl, h4⟩ := deI h3
  obtain ⟨_, _, _, rfl, h5⟩ := deC h4
  obtain ⟨_, _, rfl, h6⟩ := deB h5
  obtain ⟨rfl, g⟩ := deN h6
  exact ⟨by kernel_rfl, Eq.mp (by kernel_rfl) g⟩
theorem c9 {vs : List Value} {H : AHeap} {Q : Value → AHeap → Prop} (h : f9 vs H Q) : call Try.prog 9 vs H Q :=
  call_of' noNG (X := x9 Q (f9_17 Q) (f9_11 Q) (f9_19 Q) (f9_18 Q) (f9_7 Q) (f9_20 Q) (f9_4 Q) (f9_l10 Q) (f9_l6 Q)) (fn := Try.f9) (by kernel_rfl) (by kernel_rfl) (by kernel_rfl) (by kernel_rfl) (by kernel_rfl) (obl_of (n := 9) (by kernel_rfl) (by kernel_rfl) ⟨o9_0 Q (f9_17 Q) (f9_11 Q) (f9_19 Q) (f9_18 Q) (f9_7 Q) (f9_20 Q) (f9_l10 Q) (f9_l6 Q), o9_1 Q (f9_17 Q) (f9_11 Q) (f9_19 Q) (f9_18 Q) (f9_7 Q) (f9_4 Q) (f9_l10 Q) (f9_l6 Q), o9_2 Q (f9_17 Q) (f9_11 Q) (f9_19 Q) (f9_18 Q) (f9_7 Q) (f9_20 Q) (f9_4 Q) (f9_l10 Q), o9_3 Q (f9_17 Q) (f9_11 Q) (f9_19 Q) (f9_18 Q) (f9_20 Q) (f9_4 Q) (f9_l10 Q) (f9_l6 Q), o9_4 Q (f9_17 Q) (f9_11 Q) (f9_18 Q) (f9_7 Q) (f9_20 Q) (f9_4 Q) (f9_l10 Q) (f9_l6 Q), o9_5 Q (f9_17 Q) (f9_11 Q) (f9_19 Q) (f9_7 Q) (f9_20 Q) (f9_4 Q) (f9_l10 Q) (f9_l6 Q), o9_6 Q (f9_17 Q) (f9_11 Q) (f9_19 Q) (f9_18 Q) (f9_7 Q) (f9_20 Q) (f9_4 Q) (f9_l6 Q), o9_7 Q (f9_17 Q) (f9_19 Q) (f9_18 Q) (f9_7 Q) (f9_20 Q) (f9_4 Q) (f9_l10 Q) (f9_l6 Q), o9_8 Q (f9_11 Q) (f9_19 Q) (f9_18 Q) (f9_7 Q) (f9_20 Q) (f9_4 Q) (f9_l10 Q) (f9_l6 Q), trivial⟩) (m9 (f9_17 Q) (f9_11 Q) (f9_19 Q) (f9_18 Q) (f9_7 Q) (f9_20 Q) (f9_4 Q) (f9_l10 Q) (f9_l6 Q) h).1 (m9 (f9_17 Q) (f9_11 Q) (f9_19 Q) (f9_18 Q) (f9_7 Q) (f9_20 Q) (f9_4 Q) (f9_l10 Q) (f9_l6 Q) h).2

/-! ## 13 kinescope/kinescopelaw28.away -/

def g13_9 (Q : Value → AHeap → Prop) (kb : KB) (vs : List Value) (bs : List (List Value)) (H : AHeap) : Prop :=
 inB vs fun c5 vs =>
 inI .i64 vs fun x14 vs =>
 inI .i64 vs fun x15 vs =>
 inI .i64 vs fun x16 vs =>
 inI .i64 vs fun x17 vs =>
 inI .i64 vs fun x18 vs =>
 inI .i64 vs fun x34 vs =>
 nilK vs <|
 inX bs fun y7 bs =>
 inX bs fun y13 bs =>
 nilX bs <|
 kb 5 [.bool c5, .int .i64 x14, .int .i64 x15, .int .i64 x16, .int .i64 x17, .int .i64 x18, .int .i64 (IntKind.wrap .i64 (x34 + 1))] [y7, y13] H
def f13_9 (Q : Value → AHeap → Prop) : PT := g13_9 Q

def g13_6 (Q : Value → AHeap → Prop) (F9 : PT) (kb : KB) (vs : List Value) (bs : List (List Value)) (H : AHeap) : Prop :=
 inB vs fun c5 vs =>
 inI .i64 vs fun x14 vs =>
 inI .i64 vs fun x15 vs =>
 inI .i64 vs fun x16 vs =>
 inI .i64 vs fun x17 vs =>
 inI .i64 vs fun x18 vs =>
 inI .i64 vs fun x34 vs =>
 nilK vs <|
 inX bs fun y7 bs =>
 inX bs fun y13 bs =>
 nilX bs <|
 rA 3 y13 0 fun l37 =>
 rA 3 y7 2 fun l49 =>
 call Try.prog 28 [.agg ⟨l37⟩, .int .i64 (IntKind.wrap .i64 (x14 + (x34.tmod 8))), .int .i64 (IntKind.wrap .i64 (x15 + (IntKind.wrap .i64 (x34.tdiv 8))))] H fun r46 H46 =>
 asI .u8 r46 fun x46 =>
 call Try.prog 29 [.agg ⟨l49⟩] H46 fun r50 H50 =>
 asA 3 r50 fun l50 =>
 call Try.prog 30 [.agg ⟨l50⟩, .int .i64 (IntKind.wrap .i64 ((IntKind.wrap .i64 (2 * (IntKind.wrap .i64 (x14 + (x34.tmod 8))))) + x16)), .int .i64 (IntKind.wrap .i64 ((IntKind.wrap .i64 (2 * (IntKind.wrap .i64 (x15 + (IntKind.wrap .i64 (x34.tdiv 8)))))) + x17)), .bool c5] H50 fun r66 H66 =>
 asI .i64 r66 fun x66 =>
 F9 kb [.bool c5, .int .i64 x14, .int .i64 x15, .int .i64 x16, .int .i64 x17, .int .i64 (IntKind.wrap .i64 (x18 + (mxI (IntKind.wrap .i64 ((IntKind.wrap .i64 x46) - x66)) (IntKind.wrap .i64 (0 - (IntKind.wrap .i64 ((IntKind.wrap .i64 x46) - x66))))))), .int .i64 x34] [y7, y13] H66
def f13_6 (Q : Value → AHeap → Prop) : PT := g13_6 Q (f13_9 Q)

def g13_10 (Q : Value → AHeap → Prop) (kb : KB) (vs : List Value) (bs : List (List Value)) (H : AHeap) : Prop :=
 inI .i64 vs fun x18 vs =>
 nilK vs <|
 nilX bs <|
 Q (.int .i64 x18) H
def f13_10 (Q : Value → AHeap → Prop) : PT := g13_10 Q

def g13_l5 (Q : Value → AHeap → Prop) (F6 F10 : PT) (kb : KB) (vs : List Value) (bs : List (List Value)) (H : AHeap) : Prop :=
 inB vs fun c5 vs =>
 inI .i64 vs fun x14 vs =>
 inI .i64 vs fun x15 vs =>
 inI .i64 vs fun x16 vs =>
 inI .i64 vs fun x17 vs =>
 inI .i64 vs fun x18 vs =>
 inI .i64 vs fun x34 vs =>
 nilK vs <|
 inX bs fun y7 bs =>
 inX bs fun y13 bs =>
 nilX bs <|
 bif (decide ((x34 : Int) < 64)) then (
  F6 kb [.bool c5, .int .i64 x14, .int .i64 x15, .int .i64 x16, .int .i64 x17, .int .i64 x18, .int .i64 x34] [y7, y13] H
 ) else (
  F10 kb [.int .i64 x18] [] H
 )
def f13_l5 (Q : Value → AHeap → Prop) : PT := g13_l5 Q (f13_6 Q) (f13_10 Q)

/-- kinescope/kinescopelaw28.away -/
def g13 (Q : Value → AHeap → Prop) (L5 : PT) (vs : List Value) (H : AHeap) : Prop :=
 inA 11 vs fun l0 vs =>
 inA 11 vs fun l1 vs =>
 inI .i64 vs fun x2 vs =>
 inI .i64 vs fun x3 vs =>
 inC vs fun r4 i4 vs =>
 inB vs fun c5 vs =>
 nilK vs <|
 gd (l0.length = 11) <|
 gd (l1.length = 11) <|
 rA 11 l0 0 fun l22 =>
 call Try.prog 27 [.agg ⟨l22⟩, .int .i64 x2, .int .i64 x3] H fun r25 H25 =>
 tupK r25 fun l =>
 inA 3 l fun l25a l_2 =>
 inI .i64 l_2 fun x25b l_3 =>
 inI .i64 l_3 fun x25c l_4 =>
 nilK l_4 <|
 gd (l25a.length = 3 ∧ 0 + 3 ≤ List.length (α := Value) [.int .i64 0, .int .i64 0, .slice none 0 0]) <|
 call Try.prog 12 [.complex .f64 r4 i4] H25 fun r31 H31 =>
 tupK r31 fun l_5 =>
 inI .i64 l_5 fun x31a l_6 =>
 inI .i64 l_6 fun x31b l_7 =>
 nilK l_7 <|
 lpW L5 kb0 5 [.bool c5, .int .i64 x25b, .int .i64 x25c, .int .i64 x31a, .int .i64 x31b, .int .i64 0, .int .i64 0] [l1, (stC [.int .i64 0, .int .i64 0, .slice none 0 0] 0 l25a)] H31
def f13 (vs : List Value) (H : AHeap) (Q : Value → AHeap → Prop) : Prop := g13 Q (f13_l5 Q) vs H

noncomputable def x13 (Q : Value → AHeap → Prop) (F9 F6 F10 L5 : PT) : Pc := pc Try.prog 76 [(6, 6), (7, 7), (13, 13), (48, 7)]
  [(9, ⟨[5, 14, 15, 16, 17, 18, 34], [(7, 7), (13, 13)], [7, 13]⟩), (6, ⟨[5, 14, 15, 16, 17, 18, 34], [(7, 7), (13, 13)], [7, 13]⟩), (10, ⟨[18], [], []⟩)]
  [(5, ⟨[5, 14, 15, 16, 17, 18, 34], [(7, 7), (13, 13)], [7, 13]⟩)]
  [(7, [(0, []), (1, []), (2, []), (3, []), (4, []), (5, []), (6, []), (7, []), (8, []), (11, []), (12, []), (14, []), (15, []), (16, []), (17, []), (18, []), (19, []), (20, []), (21, []), (22, []), (23, []), (24, []), (25, []), (26, []), (27, []), (28, []), (9, []), (10, []), (13, []), (29, []), (30, []), (31, [])])]
  (shOf [(9, F9), (6, F6), (10, F10)])
  (shOf [(5, L5)])
  [.tmp 12] Q
theorem o13_0 (Q : Value → AHeap → Prop) (F9 F6 L5 : PT) : cutOK (x13 Q F9 F6 (g13_10 Q) L5) (cutAt (bodyOf Try.f13) 0) := by
  refine cutOK_of (F := g13_10 Q) (by kernel_rfl) ?_
  intro kb vs bs H h
  obtain ⟨_, _, rfl, h1⟩ := deI h
  obtain ⟨rfl, g⟩ := deN h1
  obtain ⟨rfl, k⟩ := deNX g
  exact Eq.mp (by kernel_rfl) k
theorem o13_1 (Q : Value → AHeap → Prop) (F9 F6 F10 : PT) : cutOK (x13 Q F9 F6 F10 (g13_l5 Q F6 F10)) (cutAt (bodyOf Try.f13) 1) := by
  refine cutOK_of (F := g13_l5 Q F6 F10) (by kernel_rfl) ?_
  intro kb vs bs H h
  obtain ⟨_, _, rfl, h1⟩ := deB h
  obtain ⟨_, _, rfl, h2⟩ := deI h1
  obtain ⟨_, _, rfl, h3⟩ := deI h2
  obtain ⟨_, _, rfl, h4⟩ := deI h3
  obtain ⟨_, _, rfl, h5⟩ := deI h4
  obtain ⟨_, _, rfl, h6⟩ := deI h5
  obtain ⟨_, _, rfl, h7⟩ := deI h6
  obtain ⟨rfl, g⟩ := deN h7
  obtain ⟨_, _, rfl, g1⟩ := deX g
  obtain ⟨_, _, rfl, g2⟩ := deX g1
  obtain ⟨rfl, k⟩ := deNX g2
  exact Eq.mp (by kernel_rfl) k
theorem o13_2 (Q : Value → AHeap → Prop) (F9 F10 L5 : PT) : cutOK (x13 Q F9 (g13_6 Q F9) F10 L5) (cutAt (bodyOf Try.f13) 2) := by
  refine cutOK_of (F := g13_6 Q F9) (by kernel_rfl) ?_
  intro kb vs bs H h
  obtain ⟨_, _, rfl, h1⟩ := deB h
  obtain ⟨_, _, rfl, h2⟩ := deI h1
  obtain ⟨_, _, rfl, h3⟩ := deI h2
  obtain ⟨_, _, rfl, h4⟩ := deI h3
  obtain ⟨_, _, rfl, h5⟩ := deI h4
  obtain ⟨_, _, rfl, h6⟩ := deI h5
  obtain ⟨_, _, rfl, h7⟩ := deI h6
  obtain ⟨rfl, g⟩ := deN h7
  obtain ⟨_, _, rfl, g1⟩ := deX g
  obtain ⟨_, _, rfl, g2⟩ := deX g1
  obtain ⟨rfl, k⟩ := deNX g2
  exact Eq.mp (by kernel_rfl) k
theorem o13_3 (Q : Value → AHeap → Prop) (F6 F10 L5 : PT) : cutOK (x13 Q (g13_9 Q) F6 F10 L5) (cutAt (bodyOf Try.f13) 3) := by
  refine cutOK_of (F := g13_9 Q) (by kernel_rfl) ?_
  intro kb vs bs H h
  obtain ⟨_, _, rfl, h1⟩ := deB h
  obtain ⟨_, _, rfl, h2⟩ := deI h1
  obtain ⟨_, _, rfl, h3⟩ := deI h2
  obtain ⟨_, _, rfl, h4⟩ := deI h3
  obtain ⟨_, _, rfl, h5⟩ := deI h4
  obtain ⟨_, _, rfl, h6⟩ := deI h5
  obtain ⟨_, _, rfl, h7⟩ := deI h6
  obtain ⟨rfl, g⟩ := deN h7
  obtain ⟨_, _, rfl, g1⟩ := deX g
  obtain ⟨_, _, rfl, g2⟩ := deX g1
  obtain ⟨rfl, k⟩ := deNX g2
  exact Eq.mp (by kernel_rfl) k
theorem m13 {Q : Value → AHeap → Prop} (F9 F6 F10 L5 : PT) {vs : List Value} {H : AHeap} (h : g13 Q L5 vs H) : Nat.ble vs.length 76 = true ∧ interp (x13 Q F9 F6 F10 L5) kb0 (bodyOf Try.f13) [] (entry vs H) := by
  obtain ⟨_, _, rfl, h1⟩ := deA h
  obtain ⟨_, _, rfl, h2⟩ := deA h1
  obtain ⟨_, _, rfl, h3⟩ := deI h2
  obtain ⟨_, _, rfl, h4⟩ := deI h3
  obtain ⟨_, _, _, rfl, h5⟩ := deC h4
  obtain ⟨_, _, rfl, h6⟩ := deB h5
  obtain ⟨rfl, g⟩ := deN h6
  exact ⟨by kernel_rfl, Eq.mp (by kernel_rfl) g⟩
theorem c13 {vs : List Value} {H : AHeap} {Q : Value → AHeap → Prop} (h : f13 vs H Q) : call Try.prog 13 vs H Q :=
  call_of' noNG (X := x13 Q (f13_9 Q) (f13_6 Q) (f13_10 Q) (f13_l5 Q)) (fn := Try.f13) (by kernel_rfl) (by kernel_rfl) (by kernel_rfl) (by kernel_rfl) (by kernel_rfl) (obl_of (n := 4) (by kernel_rfl) (by kernel_rfl) ⟨o13_0 Q (f13_9 Q) (f13_6 Q) (f13_l5 Q), o13_1 Q (f13_9 Q) (f13_6 Q) (f13_10 Q), o13_2 Q (f13_9 Q) (f13_10 Q) (f13_l5 Q), o13_3 Q (f13_6 Q) (f13_10 Q) (f13_l5 Q), trivial⟩) (m13 (f13_9 Q) (f13_6 Q) (f13_10 Q) (f13_l5 Q) h).1 (m13 (f13_9 Q) (f13_6 Q) (f13_10 Q) (f13_l5 Q) h).2

/-! ## 16 (kinescope/search.Searcher).Whole -/

def g16_8 (Q : Value → AHeap → Prop) (kb : KB) (vs : List Value) (bs : List (List Value)) (H : AHeap) : Prop :=
 inP vs fun p13 vs =>
 inP vs fun p14 vs =>
 inP vs fun p15 vs =>
 nilK vs <|
 nilX bs <|
 hp p13 fun b38 o38 =>
 rdH H b38 fun y38 =>
 rC y38 (o38) fun r38 i38 =>
 hp p14 fun b39 o39 =>
 rdH H b39 fun y39 =>
 rI .i64 y39 (o39) fun x39 =>
 hp p15 fun b40 o40 =>
 rdH H b40 fun y40 =>
 rB y40 (o40) fun c40 =>
 Q (.tuple ⟨[.complex .f64 r38 i38, .int .i64 x39, .bool c40]⟩) H
def f16_8 (Q : Value → AHeap → Prop) : PT := g16_8 Q

/-- (kinescope/search.Searcher).Whole -/
def g16 (Q : Value → AHeap → Prop) (F8 : PT) (vs : List Value) (H : AHeap) : Prop :=
 inA 2 vs fun l0 vs =>
 inA 11 vs fun l1 vs =>
 inA 11 vs fun l2 vs =>
 inI .i64 vs fun x3 vs =>
 inB vs fun c4 vs =>
 nilK vs <|
 gd (l0.length = 2) <|
 newB H fun b5 =>
 gd (l1.length = 11) <|
 newB (AHeap.put H b5 (.cells l0 40 true)) fun b6 =>
 gd (l2.length = 11) <|
 newB (AHeap.put (AHeap.put H b5 (.cells l0 40 true)) b6 (.cells l1 31 true)) fun b7 =>
 newB (AHeap.put (AHeap.put (AHeap.put H b5 (.cells l0 40 true)) b6 (.cells l1 31 true)) b7 (.cells l2 31 true)) fun b8 =>
 newB (AHeap.put (AHeap.put (AHeap.put (AHeap.put H b5 (.cells l0 40 true)) b6 (.cells l1 31 true)) b7 (.cells l2 31 true)) b8 (.cells [.int .i64 x3] 3 true)) fun b9 =>
 newB (AHeap.put (AHeap.put (AHeap.put (AHeap.put (AHeap.put H b5 (.cells l0 40 true)) b6 (.cells l1 31 true)) b7 (.cells l2 31 true)) b8 (.cells [.int .i64 x3] 3 true)) b9 (.cells [.bool c4] 4 true)) fun b13 =>
 newB (AHeap.put (AHeap.put (AHeap.put (AHeap.put (AHeap.put (AHeap.put H b5 (.cells l0 40 true)) b6 (.cells l1 31 true)) b7 (.cells l2 31 true)) b8 (.cells [.int .i64 x3] 3 true)) b9 (.cells [.bool c4] 4 true)) b13 (.cells [.complex .f64 0 0] 34 true)) fun b14 =>
 newB (AHeap.put (AHeap.put (AHeap.put (AHeap.put (AHeap.put (AHeap.put (AHeap.put H b5 (.cells l0 40 true)) b6 (.cells l1 31 true)) b7 (.cells l2 31 true)) b8 (.cells [.int .i64 x3] 3 true)) b9 (.cells [.bool c4] 4 true)) b13 (.cells [.complex .f64 0 0] 34 true)) b14 (.cells [.int .i64 0] 3 true)) fun b15 =>
 wrH (AHeap.put (AHeap.put (AHeap.put (AHeap.put (AHeap.put (AHeap.put (AHeap.put (AHeap.put H b5 (.cells l0 40 true)) b6 (.cells l1 31 true)) b7 (.cells l2 31 true)) b8 (.cells [.int .i64 x3] 3 true)) b9 (.cells [.bool c4] 4 true)) b13 (.cells [.complex .f64 0 0] 34 true)) b14 (.cells [.int .i64 0] 3 true)) b15 (.cells [.bool false] 4 true)) b13 fun y e =>
 gd (0 < y.length) <|
 wrH (AHeap.put (AHeap.put (AHeap.put (AHeap.put (AHeap.put (AHeap.put (AHeap.put (AHeap.put (AHeap.put H b5 (.cells l0 40 true)) b6 (.cells l1 31 true)) b7 (.cells l2 31 true)) b8 (.cells [.int .i64 x3] 3 true)) b9 (.cells [.bool c4] 4 true)) b13 (.cells [.complex .f64 0 0] 34 true)) b14 (.cells [.int .i64 0] 3 true)) b15 (.cells [.bool false] 4 true)) b13 (.cells (List.set y 0 (.complex .f64 0 0)) e true)) b14 fun y_2 e_2 =>
 gd (0 < y_2.length) <|
 wrH (AHeap.put (AHeap.put (AHeap.put (AHeap.put (AHeap.put (AHeap.put (AHeap.put (AHeap.put (AHeap.put (AHeap.put H b5 (.cells l0 40 true)) b6 (.cells l1 31 true)) b7 (.cells l2 31 true)) b8 (.cells [.int .i64 x3] 3 true)) b9 (.cells [.bool c4] 4 true)) b13 (.cells [.complex .f64 0 0] 34 true)) b14 (.cells [.int .i64 0] 3 true)) b15 (.cells [.bool false] 4 true)) b13 (.cells (List.set y 0 (.complex .f64 0 0)) e true)) b14 (.cells (List.set y_2 0 (.int .i64 0)) e_2 true)) b15 fun y_3 e_3 =>
 gd (0 < y_3.length) <|
 rdH (AHeap.put (AHeap.put (AHeap.put (AHeap.put (AHeap.put (AHeap.put (AHeap.put (AHeap.put (AHeap.put (AHeap.put (AHeap.put H b5 (.cells l0 40 true)) b6 (.cells l1 31 true)) b7 (.cells l2 31 true)) b8 (.cells [.int .i64 x3] 3 true)) b9 (.cells [.bool c4] 4 true)) b13 (.cells [.complex .f64 0 0] 34 true)) b14 (.cells [.int .i64 0] 3 true)) b15 (.cells [.bool false] 4 true)) b13 (.cells (List.set y 0 (.complex .f64 0 0)) e true)) b14 (.cells (List.set y_2 0 (.int .i64 0)) e_2 true)) b15 (.cells (List.set y_3 0 (.bool false)) e_3 true)) b5 fun y20 =>
 rI .i64 y20 0 fun x20 =>
 newB (AHeap.put (AHeap.put (AHeap.put (AHeap.put (AHeap.put (AHeap.put (AHeap.put (AHeap.put (AHeap.put (AHeap.put (AHeap.put H b5 (.cells l0 40 true)) b6 (.cells l1 31 true)) b7 (.cells l2 31 true)) b8 (.cells [.int .i64 x3] 3 true)) b9 (.cells [.bool c4] 4 true)) b13 (.cells [.complex .f64 0 0] 34 true)) b14 (.cells [.int .i64 0] 3 true)) b15 (.cells [.bool false] 4 true)) b13 (.cells (List.set y 0 (.complex .f64 0 0)) e true)) b14 (.cells (List.set y_2 0 (.int .i64 0)) e_2 true)) b15 (.cells (List.set y_3 0 (.bool false)) e_3 true)) fun b24 =>
 call Try.prog 32 [.slice (some ⟨b24, 0, none⟩) 1 1, .pointer (some ⟨b5, 0, none⟩), .pointer (some ⟨b6, 0, none⟩), .pointer (some ⟨b8, 0, none⟩), .pointer (some ⟨b7, 0, none⟩), .pointer (some ⟨b9, 0, none⟩), .pointer (some ⟨b15, 0, none⟩), .pointer (some ⟨b14, 0, none⟩), .pointer (some ⟨b13, 0, none⟩)] (AHeap.put (AHeap.put (AHeap.put (AHeap.put (AHeap.put (AHeap.put (AHeap.put (AHeap.put (AHeap.put (AHeap.put (AHeap.put (AHeap.put H b5 (.cells l0 40 true)) b6 (.cells l1 31 true)) b7 (.cells l2 31 true)) b8 (.cells [.int .i64 x3] 3 true)) b9 (.cells [.bool c4] 4 true)) b13 (.cells [.complex .f64 0 0] 34 true)) b14 (.cells [.int .i64 0] 3 true)) b15 (.cells [.bool false] 4 true)) b13 (.cells (List.set y 0 (.complex .f64 0 0)) e true)) b14 (.cells (List.set y_2 0 (.int .i64 0)) e_2 true)) b15 (.cells (List.set y_3 0 (.bool false)) e_3 true)) b24 (.cells [.complex .f64 0 0] 34 true)) fun r25 H25 =>
 tupK r25 fun l =>
 nilK l <|
 rdH H25 b5 fun y27 =>
 rH 2 y27 0 fun l27 =>
 call Try.prog 22 [.agg ⟨l27⟩, .complex .f64 0 0, .int .i64 2, .int .i64 (IntKind.wrap .i64 (2 * (mnI (mxI x20 0) 15)))] H25 fun r30 H30 =>
 asSl r30 fun a30 n30 z30 =>
 call Try.prog 32 [.slice a30 n30 z30, .pointer (some ⟨b5, 0, none⟩), .pointer (some ⟨b6, 0, none⟩), .pointer (some ⟨b8, 0, none⟩), .pointer (some ⟨b7, 0, none⟩), .pointer (some ⟨b9, 0, none⟩), .pointer (some ⟨b15, 0, none⟩), .pointer (some ⟨b14, 0, none⟩), .pointer (some ⟨b13, 0, none⟩)] H30 fun r31 H31 =>
 tupK r31 fun l_2 =>
 nilK l_2 <|
 rdH H31 b15 fun y32 =>
 rB y32 0 fun c32 =>
 bif c32 then (
  rdH H31 b5 fun y34 =>
  rH 2 y34 0 fun l34 =>
  rdH H31 b13 fun y35 =>
  rC y35 0 fun r35 i35 =>
  call Try.prog 22 [.agg ⟨l34⟩, .complex .f64 r35 i35, .int .i64 1, .int .i64 1] H31 fun r36 H36 =>
  asSl r36 fun a36 n36 z36 =>
  call Try.prog 32 [.slice a36 n36 z36, .pointer (some ⟨b5, 0, none⟩), .pointer (some ⟨b6, 0, none⟩), .pointer (some ⟨b8, 0, none⟩), .pointer (some ⟨b7, 0, none⟩), .pointer (some ⟨b9, 0, none⟩), .pointer (some ⟨b15, 0, none⟩), .pointer (some ⟨b14, 0, none⟩), .pointer (some ⟨b13, 0, none⟩)] H36 fun r37 H37 =>
  tupK r37 fun l_3 =>
  nilK l_3 <|
  F8 kb0 [.pointer (some ⟨b13, 0, none⟩), .pointer (some ⟨b14, 0, none⟩), .pointer (some ⟨b15, 0, none⟩)] [] H37
 ) else (
  F8 kb0 [.pointer (some ⟨b13, 0, none⟩), .pointer (some ⟨b14, 0, none⟩), .pointer (some ⟨b15, 0, none⟩)] [] H31
 )
def f16 (vs : List Value) (H : AHeap) (Q : Value → AHeap → Prop) : Prop := g16 Q (f16_8 Q) vs H

noncomputable def x16 (Q : Value → AHeap → Prop) (F8 : PT) : Pc := pc Try.prog 41 []
  [(8, ⟨[13, 14, 15], [], []⟩)]
  []
  [(8, [(0, []), (1, []), (2, []), (3, []), (4, []), (5, [])])]
  (shOf [(8, F8)])
  (shOf [])
  [.tmp 10, .tmp 11, .tmp 12] Q
theorem o16_0 (Q : Value → AHeap → Prop) : cutOK (x16 Q (g16_8 Q)) (cutAt (bodyOf Try.f16) 0) := by
  refine cutOK_of (F := g16_8 Q) (by kernel_rfl) ?_
  intro kb vs bs H h
  obtain ⟨_, _, rfl, h1⟩ := deP h
  obtain ⟨_, _, rfl, h2⟩ := deP h1
  obtain ⟨_, _, rfl, h3⟩ := deP h2
  obtain ⟨rfl, g⟩ := deN h3
  obtain ⟨rfl, k⟩ := deNX g
  exact Eq.mp (by kernel_rfl) k
theorem m16 {Q : Value → AHeap → Prop} (F8 : PT) {vs : List Value} {H : AHeap} (h : g16 Q F8 vs H) : Nat.ble vs.length 41 = true ∧ interp (x16 Q F8) kb0 (bodyOf Try.f16) [] (entry vs H) := by
  obtain ⟨_, _, rfl, h1⟩ := deA h
  obtain ⟨_, _, rfl, h2⟩ := deA h1
  obtain ⟨_, _, rfl, h3⟩ := deA h2
  obtain ⟨_, _, rfl, h4⟩ := deI h3
  obtain ⟨_, _, rfl, h5⟩ := deB h4
  obtain ⟨rfl, g⟩ := deN h5
  exact ⟨by kernel_rfl, Eq.mp (by kernel_rfl) g⟩
theorem c16 {vs : List Value} {H : AHeap} {Q : Value → AHeap → Prop} (h : f16 vs H Q) : call Try.prog 16 vs H Q :=
  call_of' noNG (X := x16 Q (f16_8 Q)) (fn := Try.f16) (by kernel_rfl) (by kernel_rfl) (by kernel_rfl) (by kernel_rfl) (by kernel_rfl) (obl_of (n := 1) (by kernel_rfl) (by kernel_rfl) ⟨o16_0 Q, trivial⟩) (m16 (f16_8 Q) h).1 (m16 (f16_8 Q) h).2

/-! ## 20 (kinescope/search.Searcher).allowed -/

/-- (kinescope/search.Searcher).allowed -/
def g20 (Q : Value → AHeap → Prop) (vs : List Value) (H : AHeap) : Prop :=
 inA 2 vs fun l0 vs =>
 inI .i64 vs fun x1 vs =>
 inI .i64 vs fun x2 vs =>
 inA 4 vs fun l3 vs =>
 nilK vs <|
 gd (l0.length = 2) <|
 gd (l3.length = 4) <|
 rI .i64 l0 1 fun x10 =>
 bif (decide ((x10 : Int) ≤ 0)) then (
  Q (.bool true) H
 ) else (
  rA 4 l3 0 fun l15 =>
  rI .i64 l0 1 fun x18 =>
  call Try.prog 36 [.int .i64 x1, .int .i64 x2, .agg ⟨l15⟩] H fun r16 H16 =>
  asI .i64 r16 fun x16 =>
  Q (.bool (decide ((x16 : Int) < x18))) H16
 )
def f20 (vs : List Value) (H : AHeap) (Q : Value → AHeap → Prop) : Prop := g20 Q vs H

noncomputable def x20 (Q : Value → AHeap → Prop) : Pc := pc Try.prog 21 [(4, 4), (7, 7), (9, 4), (17, 4)]
  []
  []
  [(1, [(0, []), (1, []), (2, []), (3, []), (4, []), (5, []), (6, []), (8, []), (9, []), (7, []), (10, []), (11, []), (12, [])])]
  (shOf [])
  (shOf [])
  [.tmp 8] Q
theorem m20 {Q : Value → AHeap → Prop} {vs : List Value} {H : AHeap} (h : g20 Q vs H) : Nat.ble vs.length 21 = true ∧ interp (x20 Q) kb0 (bodyOf Try.f20) [] (entry vs H) := by
  obtain ⟨_, _, rfl, h1⟩ := deA h
  obtain ⟨_, _, rfl, h2⟩ := deI h1
  obtain ⟨_, _, rfl, h3⟩ := deI h2
  obtain ⟨_, _, rfl, h4⟩ := deA h3
  obtain ⟨rfl, g⟩ := deN h4
  exact ⟨by kernel_rfl, Eq.mp (by kernel_rfl) g⟩
theorem c20 {vs : List Value} {H : AHeap} {Q : Value → AHeap → Prop} (h : f20 vs H Q) : call Try.prog 20 vs H Q :=
  call_of' noNG (X := x20 Q) (fn := Try.f20) (by kernel_rfl) (by kernel_rfl) (by kernel_rfl) (by kernel_rfl) (by kernel_rfl) (obl_of (n := 0) (by kernel_rfl) (by kernel_rfl) trivial) (m20 h).1 (m20 h).2

/-! ## 21 kinescope/search.Away -/

def g21_10 (Q : Value → AHeap → Prop) (kb : KB) (vs : List Value) (bs : List (List Value)) (H : AHeap) : Prop :=
 inI .i64 vs fun x23 vs =>
 inA 64 vs fun l58 vs =>
 inI .i64 vs fun x59 vs =>
 nilK vs <|
 inX bs fun y22 bs =>
 nilX bs <|
 kb 7 [.int .i64 x23, .agg ⟨l58⟩, .int .i64 (IntKind.wrap .i64 (x59 + 1))] [y22] H
def f21_10 (Q : Value → AHeap → Prop) : PT := g21_10 Q

def g21_8 (Q : Value → AHeap → Prop) (F10 : PT) (kb : KB) (vs : List Value) (bs : List (List Value)) (H : AHeap) : Prop :=
 inI .i64 vs fun x23 vs =>
 inA 64 vs fun l58 vs =>
 inI .i64 vs fun x59 vs =>
 nilK vs <|
 inX bs fun y22 bs =>
 nilX bs <|
 aidx x59 64 fun j62 =>
 rI .i64 l58 (j62 * 1) fun x62 =>
 aidx x59 64 fun j66 =>
 rI .i64 y22 (0 + j66 * 1) fun x67 =>
 aidx x59 64 fun j70 =>
 rI .i64 y22 (0 + j70 * 1) fun x71 =>
 F10 kb [.int .i64 (IntKind.wrap .i64 (x23 + (mxI (IntKind.wrap .i64 (x62 - x67)) (IntKind.wrap .i64 (x71 - x62))))), .agg ⟨l58⟩, .int .i64 x59] [y22] H
def f21_8 (Q : Value → AHeap → Prop) : PT := g21_8 Q (f21_10 Q)

def g21_11 (Q : Value → AHeap → Prop) (kb : KB) (vs : List Value) (bs : List (List Value)) (H : AHeap) : Prop :=
 inI .i64 vs fun x23 vs =>
 nilK vs <|
 nilX bs <|
 Q (.int .i64 x23) H
def f21_11 (Q : Value → AHeap → Prop) : PT := g21_11 Q

def g21_l7 (Q : Value → AHeap → Prop) (F8 F11 : PT) (kb : KB) (vs : List Value) (bs : List (List Value)) (H : AHeap) : Prop :=
 inI .i64 vs fun x23 vs =>
 inA 64 vs fun l58 vs =>
 inI .i64 vs fun x59 vs =>
 nilK vs <|
 inX bs fun y22 bs =>
 nilX bs <|
 bif (decide ((x59 : Int) < 64)) then (
  F8 kb [.int .i64 x23, .agg ⟨l58⟩, .int .i64 x59] [y22] H
 ) else (
  F11 kb [.int .i64 x23] [] H
 )
def f21_l7 (Q : Value → AHeap → Prop) : PT := g21_l7 Q (f21_8 Q) (f21_11 Q)

/-- kinescope/search.Away -/
def g21 (Q : Value → AHeap → Prop) (L7 : PT) (vs : List Value) (H : AHeap) : Prop :=
 inA 11 vs fun l0 vs =>
 inA 11 vs fun l1 vs =>
 inI .i64 vs fun x2 vs =>
 inI .i64 vs fun x3 vs =>
 inC vs fun r4 i4 vs =>
 inB vs fun c5 vs =>
 nilK vs <|
 gd (l0.length = 11) <|
 gd (l1.length = 11) <|
 call Try.prog 12 [.complex .f64 r4 i4] H fun r28 H28 =>
 tupK r28 fun l =>
 inI .i64 l fun x28a l_2 =>
 inI .i64 l_2 fun x28b l_3 =>
 nilK l_3 <|
 rA 11 l0 0 fun l32 =>
 call Try.prog 27 [.agg ⟨l32⟩, .int .i64 x2, .int .i64 x3] H28 fun r35 H35 =>
 tupK r35 fun l_4 =>
 inA 3 l_4 fun l35a l_5 =>
 inI .i64 l_5 fun x35b l_6 =>
 inI .i64 l_6 fun x35c l_7 =>
 nilK l_7 <|
 gd (l35a.length = 3 ∧ 0 + 3 ≤ List.length (α := Value) [.int .i64 0, .int .i64 0, .slice none 0 0]) <|
 rA 11 l1 0 fun l40 =>
 call Try.prog 27 [.agg ⟨l40⟩, .int .i64 x2, .int .i64 x3] H35 fun r43 H43 =>
 tupK r43 fun l_8 =>
 inA 3 l_8 fun l43a l_9 =>
 inI .i64 l_9 fun x43b l_10 =>
 inI .i64 l_10 fun x43c l_11 =>
 nilK l_11 <|
 gd (l43a.length = 3 ∧ 0 + 3 ≤ List.length (α := Value) [.int .i64 0, .int .i64 0, .slice none 0 0]) <|
 rA 3 (stC [.int .i64 0, .int .i64 0, .slice none 0 0] 0 l35a) 0 fun l47 =>
 rA 3 (stC [.int .i64 0, .int .i64 0, .slice none 0 0] 0 l43a) 0 fun l51 =>
 call Try.prog 37 [.agg ⟨l47⟩, .int .i64 x35b, .int .i64 x35c] H43 fun r50 H50 =>
 asA 64 r50 fun l50 =>
 call Try.prog 38 [.agg ⟨l51⟩, .int .i64 x35b, .int .i64 x35c, .int .i64 x28a, .int .i64 x28b, .bool c5] H50 fun r57 H57 =>
 asA 64 r57 fun l57 =>
 gd (l50.length = 64 ∧ 0 + 64 ≤ List.length (α := Value) (List.replicate 64 (.int .i64 0))) <|
 gd (l57.length = 64 ∧ 0 + 64 ≤ List.length (α := Value) (List.replicate 64 (.int .i64 0))) <|
 rA 64 (stC (List.replicate 64 (.int .i64 0)) 0 l50) 0 fun l58 =>
 lpW L7 kb0 7 [.int .i64 0, .agg ⟨l58⟩, .int .i64 0] [(stC (List.replicate 64 (.int .i64 0)) 0 l57)] H57
def f21 (vs : List Value) (H : AHeap) (Q : Value → AHeap → Prop) : Prop := g21 Q (f21_l7 Q) vs H

noncomputable def x21 (Q : Value → AHeap → Prop) (F10 F8 F11 L7 : PT) : Pc := pc Try.prog 78 [(6, 6), (7, 7), (15, 15), (18, 18), (21, 21), (22, 22), (66, 22), (70, 22)]
  [(10, ⟨[23, 58, 59], [(22, 22)], [22]⟩), (8, ⟨[23, 58, 59], [(22, 22)], [22]⟩), (11, ⟨[23], [], []⟩)]
  [(7, ⟨[23, 58, 59], [(22, 22)], [22]⟩)]
  [(4, [(0, []), (1, []), (2, []), (4, []), (5, []), (6, []), (7, []), (8, []), (9, []), (11, []), (12, []), (3, []), (10, []), (13, []), (14, [])]), (9, [(0, []), (1, []), (2, []), (3, []), (4, []), (5, []), (6, []), (7, []), (8, []), (9, []), (10, []), (11, []), (12, []), (13, [])])]
  (shOf [(10, F10), (8, F8), (11, F11)])
  (shOf [(7, L7)])
  [.tmp 12] Q
theorem o21_0 (Q : Value → AHeap → Prop) (F10 F8 L7 : PT) : cutOK (x21 Q F10 F8 (g21_11 Q) L7) (cutAt (bodyOf Try.f21) 0) := by
  refine cutOK_of (F := g21_11 Q) (by kernel_rfl) ?_
  intro kb vs bs H h
  obtain ⟨_, _, rfl, h1⟩ := deI h
  obtain ⟨rfl, g⟩ := deN h1
  obtain ⟨rfl, k⟩ := deNX g
  exact Eq.mp (by kernel_rfl) k
theorem o21_1 (Q : Value → AHeap → Prop) (F10 F8 F11 : PT) : cutOK (x21 Q F10 F8 F11 (g21_l7 Q F8 F11)) (cutAt (bodyOf Try.f21) 1) := by
  refine cutOK_of (F := g21_l7 Q F8 F11) (by kernel_rfl) ?_
  intro kb vs bs H h
  obtain ⟨_, _, rfl, h1⟩ := deI h
  obtain ⟨_, _, rfl, h2⟩ := deA h1
  obtain ⟨_, _, rfl, h3⟩ := deI h2
  obtain ⟨rfl, g⟩ := deN h3
  obtain ⟨_, _, rfl, g1⟩ := deX g
  obtain ⟨rfl, k⟩ := deNX g1
  exact Eq.mp (by kernel_rfl) k
theorem o21_2 (Q : Value → AHeap → Prop) (F10 F11 L7 : PT) : cutOK (x21 Q F10 (g21_8 Q F10) F11 L7) (cutAt (bodyOf Try.f21) 2) := by
  refine cutOK_of (F := g21_8 Q F10) (by kernel_rfl) ?_
  intro kb vs bs H h
  obtain ⟨_, _, rfl, h1⟩ := deI h
  obtain ⟨_, _, rfl, h2⟩ := deA h1
  obtain ⟨_, _, rfl, h3⟩ := deI h2
  obtain ⟨rfl, g⟩ := deN h3
  obtain ⟨_, _, rfl, g1⟩ := deX g
  obtain ⟨rfl, k⟩ := deNX g1
  exact Eq.mp (by kernel_rfl) k
theorem o21_3 (Q : Value → AHeap → Prop) (F8 F11 L7 : PT) : cutOK (x21 Q (g21_10 Q) F8 F11 L7) (cutAt (bodyOf Try.f21) 3) := by
  refine cutOK_of (F := g21_10 Q) (by kernel_rfl) ?_
  intro kb vs bs H h
  obtain ⟨_, _, rfl, h1⟩ := deI h
  obtain ⟨_, _, rfl, h2⟩ := deA h1
  obtain ⟨_, _, rfl, h3⟩ := deI h2
  obtain ⟨rfl, g⟩ := deN h3
  obtain ⟨_, _, rfl, g1⟩ := deX g
  obtain ⟨rfl, k⟩ := deNX g1
  exact Eq.mp (by kernel_rfl) k
theorem m21 {Q : Value → AHeap → Prop} (F10 F8 F11 L7 : PT) {vs : List Value} {H : AHeap} (h : g21 Q L7 vs H) : Nat.ble vs.length 78 = true ∧ interp (x21 Q F10 F8 F11 L7) kb0 (bodyOf Try.f21) [] (entry vs H) := by
  obtain ⟨_, _, rfl, h1⟩ := deA h
  obtain ⟨_, _, rfl, h2⟩ := deA h1
  obtain ⟨_, _, rfl, h3⟩ := deI h2
  obtain ⟨_, _, rfl, h4⟩ := deI h3
  obtain ⟨_, _, _, rfl, h5⟩ := deC h4
  obtain ⟨_, _, rfl, h6⟩ := deB h5
  obtain ⟨rfl, g⟩ := deN h6
  exact ⟨by kernel_rfl, Eq.mp (by kernel_rfl) g⟩
theorem c21 {vs : List Value} {H : AHeap} {Q : Value → AHeap → Prop} (h : f21 vs H Q) : call Try.prog 21 vs H Q :=
  call_of' noNG (X := x21 Q (f21_10 Q) (f21_8 Q) (f21_11 Q) (f21_l7 Q)) (fn := Try.f21) (by kernel_rfl) (by kernel_rfl) (by kernel_rfl) (by kernel_rfl) (by kernel_rfl) (obl_of (n := 4) (by kernel_rfl) (by kernel_rfl) ⟨o21_0 Q (f21_10 Q) (f21_8 Q) (f21_l7 Q), o21_1 Q (f21_10 Q) (f21_8 Q) (f21_11 Q), o21_2 Q (f21_10 Q) (f21_11 Q) (f21_l7 Q), o21_3 Q (f21_8 Q) (f21_11 Q) (f21_l7 Q), trivial⟩) (m21 (f21_10 Q) (f21_8 Q) (f21_11 Q) (f21_l7 Q) h).1 (m21 (f21_10 Q) (f21_8 Q) (f21_11 Q) (f21_l7 Q) h).2

/-! ## 24 kinescope/kinescoperef13.Touches -/

def g24_21 (Q : Value → AHeap → Prop) (kb : KB) (vs : List Value) (bs : List (List Value)) (H : AHeap) : Prop :=
 inI .i64 vs fun x0 vs =>
 inI .i64 vs fun x1 vs =>
 inI .i64 vs fun x2 vs =>
 inSl vs fun a10 n10 z10 vs =>
 inI .i64 vs fun x11 vs =>
 inI .i64 vs fun x12 vs =>
 inI .i64 vs fun x13 vs =>
 inI .i64 vs fun x14 vs =>
 inI .i64 vs fun x15 vs =>
 inI .i64 vs fun x16 vs =>
 inI .i64 vs fun x17 vs =>
 inI .i64 vs fun x18 vs =>
 inI .i64 vs fun x19 vs =>
 inI .i64 vs fun x20 vs =>
 inI .i64 vs fun x21 vs =>
 inI .i64 vs fun x22 vs =>
 inI .i64 vs fun x23 vs =>
 inI .i64 vs fun x24 vs =>
 nilK vs <|
 inX bs fun y7 bs =>
 nilX bs <|
 kb 20 [.int .i64 x0, .int .i64 x1, .int .i64 x2, .slice a10 n10 z10, .int .i64 x11, .int .i64 x12, .int .i64 x13, .int .i64 x14, .int .i64 x15, .int .i64 x16, .int .i64 x17, .int .i64 x18, .int .i64 x19, .int .i64 x20, .int .i64 x21, .int .i64 x22, .int .i64 x23, .int .i64 (IntKind.wrap .i64 (x24 + 1))] [y7] H
def f24_21 (Q : Value → AHeap → Prop) : PT := g24_21 Q

def g24_26 (Q : Value → AHeap → Prop) (F21 : PT) (kb : KB) (vs : List Value) (bs : List (List Value)) (H : AHeap) : Prop :=
 inI .i64 vs fun x0 vs =>
 inI .i64 vs fun x1 vs =>
 inI .i64 vs fun x2 vs =>
 inSl vs fun a10 n10 z10 vs =>
 inI .i64 vs fun x11 vs =>
 inI .i64 vs fun x12 vs =>
 inI .i64 vs fun x13 vs =>
 inI .i64 vs fun x14 vs =>
 inI .i64 vs fun x15 vs =>
 inI .i64 vs fun x16 vs =>
 inI .i64 vs fun x17 vs =>
 inI .i64 vs fun x18 vs =>
 inI .i64 vs fun x19 vs =>
 inI .i64 vs fun x20 vs =>
 inI .i64 vs fun x21 vs =>
 inI .i64 vs fun x22 vs =>
 inI .i64 vs fun x23 vs =>
 inI .i64 vs fun x24 vs =>
 inI .i64 vs fun x25 vs =>
 nilK vs <|
 inX bs fun y7 bs =>
 nilX bs <|
 bif (decide ((x25 : Int) > x11)) then (
  F21 kb [.int .i64 x0, .int .i64 x1, .int .i64 x2, .slice a10 n10 z10, .int .i64 x25, .int .i64 x12, .int .i64 x13, .int .i64 x14, .int .i64 x15, .int .i64 x16, .int .i64 x17, .int .i64 x18, .int .i64 x19, .int .i64 x20, .int .i64 x21, .int .i64 x22, .int .i64 x23, .int .i64 x24] [y7] H
 ) else (
  F21 kb [.int .i64 x0, .int .i64 x1, .int .i64 x2, .slice a10 n10 z10, .int .i64 x11, .int .i64 x12, .int .i64 x13, .int .i64 x14, .int .i64 x15, .int .i64 x16, .int .i64 x17, .int .i64 x18, .int .i64 x19, .int .i64 x20, .int .i64 x21, .int .i64 x22, .int .i64 x23, .int .i64 x24] [y7] H
 )
def f24_26 (Q : Value → AHeap → Prop) : PT := g24_26 Q (f24_21 Q)

def g24_22 (Q : Value → AHeap → Prop) (F26 : PT) (kb : KB) (vs : List Value) (bs : List (List Value)) (H : AHeap) : Prop :=
 inI .i64 vs fun x0 vs =>
 inI .i64 vs fun x1 vs =>
 inI .i64 vs fun x2 vs =>
 inSl vs fun a10 n10 z10 vs =>
 inI .i64 vs fun x11 vs =>
 inI .i64 vs fun x12 vs =>
 inI .i64 vs fun x13 vs =>
 inI .i64 vs fun x14 vs =>
 inI .i64 vs fun x15 vs =>
 inI .i64 vs fun x16 vs =>
 inI .i64 vs fun x17 vs =>
 inI .i64 vs fun x18 vs =>
 inI .i64 vs fun x19 vs =>
 inI .i64 vs fun x20 vs =>
 inI .i64 vs fun x21 vs =>
 inI .i64 vs fun x22 vs =>
 inI .i64 vs fun x23 vs =>
 inI .i64 vs fun x24 vs =>
 nilK vs <|
 inX bs fun y7 bs =>
 nilX bs <|
 call Try.prog 42 [.int .i64 (IntKind.wrap .i64 (x19 + x24)), .int .i64 (IntKind.wrap .i64 (x13 * x0))] H fun r92 H92 =>
 asI .i64 r92 fun x92 =>
 call Try.prog 42 [.int .i64 (IntKind.wrap .i64 (x21 + x23)), .int .i64 (IntKind.wrap .i64 (x13 * x1))] H92 fun r99 H99 =>
 asI .i64 r99 fun x99 =>
 nz x13 <|
 nz x13 <|
 hp a10 fun b110 o110 =>
 aidx (IntKind.wrap .i64 ((IntKind.wrap .i64 ((IntKind.wrap .i64 (x99.tdiv x13)) * x0)) + (IntKind.wrap .i64 (x92.tdiv x13)))) n10 fun j110 =>
 wrH H99 b110 fun y e =>
 gd (o110 + j110 * 1 < y.length) <|
 bif ((x13 : Int) == 8) then (
  F26 kb [.int .i64 x0, .int .i64 x1, .int .i64 x2, .slice a10 n10 z10, .int .i64 x11, .int .i64 x12, .int .i64 x13, .int .i64 x14, .int .i64 x15, .int .i64 x16, .int .i64 x17, .int .i64 x18, .int .i64 x19, .int .i64 x20, .int .i64 x21, .int .i64 x22, .int .i64 x23, .int .i64 x24, .int .i64 (IntKind.wrap .i64 ((IntKind.wrap .i64 (2 * x92)) + 1))] [y7] (AHeap.put H99 b110 (.cells (List.set y (o110 + j110 * 1) (.bool true)) e true))
 ) else (
  F26 kb [.int .i64 x0, .int .i64 x1, .int .i64 x2, .slice a10 n10 z10, .int .i64 x11, .int .i64 x12, .int .i64 x13, .int .i64 x14, .int .i64 x15, .int .i64 x16, .int .i64 x17, .int .i64 x18, .int .i64 x19, .int .i64 x20, .int .i64 x21, .int .i64 x22, .int .i64 x23, .int .i64 x24, .int .i64 x92] [y7] (AHeap.put H99 b110 (.cells (List.set y (o110 + j110 * 1) (.bool true)) e true))
 )
def f24_22 (Q : Value → AHeap → Prop) : PT := g24_22 Q (f24_26 Q)

def g24_18 (Q : Value → AHeap → Prop) (kb : KB) (vs : List Value) (bs : List (List Value)) (H : AHeap) : Prop :=
 inI .i64 vs fun x0 vs =>
 inI .i64 vs fun x1 vs =>
 inI .i64 vs fun x2 vs =>
 inSl vs fun a10 n10 z10 vs =>
 inI .i64 vs fun x11 vs =>
 inI .i64 vs fun x12 vs =>
 inI .i64 vs fun x13 vs =>
 inI .i64 vs fun x14 vs =>
 inI .i64 vs fun x15 vs =>
 inI .i64 vs fun x16 vs =>
 inI .i64 vs fun x17 vs =>
 inI .i64 vs fun x18 vs =>
 inI .i64 vs fun x19 vs =>
 inI .i64 vs fun x20 vs =>
 inI .i64 vs fun x21 vs =>
 inI .i64 vs fun x22 vs =>
 inI .i64 vs fun x23 vs =>
 nilK vs <|
 inX bs fun y7 bs =>
 nilX bs <|
 kb 17 [.int .i64 x0, .int .i64 x1, .int .i64 x2, .slice a10 n10 z10, .int .i64 x11, .int .i64 x12, .int .i64 x13, .int .i64 x14, .int .i64 x15, .int .i64 x16, .int .i64 x17, .int .i64 x18, .int .i64 x19, .int .i64 x20, .int .i64 x21, .int .i64 x22, .int .i64 (IntKind.wrap .i64 (x23 + 1))] [y7] H
def f24_18 (Q : Value → AHeap → Prop) : PT := g24_18 Q

def g24_l20 (Q : Value → AHeap → Prop) (F18 F22 : PT) (kb : KB) (vs : List Value) (bs : List (List Value)) (H : AHeap) : Prop :=
 inI .i64 vs fun x0 vs =>
 inI .i64 vs fun x1 vs =>
 inI .i64 vs fun x2 vs =>
 inSl vs fun a10 n10 z10 vs =>
 inI .i64 vs fun x11 vs =>
 inI .i64 vs fun x12 vs =>
 inI .i64 vs fun x13 vs =>
 inI .i64 vs fun x14 vs =>
 inI .i64 vs fun x15 vs =>
 inI .i64 vs fun x16 vs =>
 inI .i64 vs fun x17 vs =>
 inI .i64 vs fun x18 vs =>
 inI .i64 vs fun x19 vs =>
 inI .i64 vs fun x20 vs =>
 inI .i64 vs fun x21 vs =>
 inI .i64 vs fun x22 vs =>
 inI .i64 vs fun x23 vs =>
 inI .i64 vs fun x24 vs =>
 nilK vs <|
 inX bs fun y7 bs =>
 nilX bs <|
 bif (decide ((x24 : Int) ≤ x20)) then (
  F22 kb [.int .i64 x0, .int .i64 x1, .int .i64 x2, .slice a10 n10 z10, .int .i64 x11, .int .i64 x12, .int .i64 x13, .int .i64 x14, .int .i64 x15, .int .i64 x16, .int .i64 x17, .int .i64 x18, .int .i64 x19, .int .i64 x20, .int .i64 x21, .int .i64 x22, .int .i64 x23, .int .i64 x24] [y7] H
 ) else (
  F18 kb [.int .i64 x0, .int .i64 x1, .int .i64 x2, .slice a10 n10 z10, .int .i64 x11, .int .i64 x12, .int .i64 x13, .int .i64 x14, .int .i64 x15, .int .i64 x16, .int .i64 x17, .int .i64 x18, .int .i64 x19, .int .i64 x20, .int .i64 x21, .int .i64 x22, .int .i64 x23] [y7] H
 )
def f24_l20 (Q : Value → AHeap → Prop) : PT := g24_l20 Q (f24_18 Q) (f24_22 Q)

def g24_19 (Q : Value → AHeap → Prop) (L20 : PT) (kb : KB) (vs : List Value) (bs : List (List Value)) (H : AHeap) : Prop :=
 inI .i64 vs fun x0 vs =>
 inI .i64 vs fun x1 vs =>
 inI .i64 vs fun x2 vs =>
 inSl vs fun a10 n10 z10 vs =>
 inI .i64 vs fun x11 vs =>
 inI .i64 vs fun x12 vs =>
 inI .i64 vs fun x13 vs =>
 inI .i64 vs fun x14 vs =>
 inI .i64 vs fun x15 vs =>
 inI .i64 vs fun x16 vs =>
 inI .i64 vs fun x17 vs =>
 inI .i64 vs fun x18 vs =>
 inI .i64 vs fun x19 vs =>
 inI .i64 vs fun x20 vs =>
 inI .i64 vs fun x21 vs =>
 inI .i64 vs fun x22 vs =>
 inI .i64 vs fun x23 vs =>
 nilK vs <|
 inX bs fun y7 bs =>
 nilX bs <|
 lpW L20 kb 20 [.int .i64 x0, .int .i64 x1, .int .i64 x2, .slice a10 n10 z10, .int .i64 x11, .int .i64 x12, .int .i64 x13, .int .i64 x14, .int .i64 x15, .int .i64 x16, .int .i64 x17, .int .i64 x18, .int .i64 x19, .int .i64 x20, .int .i64 x21, .int .i64 x22, .int .i64 x23, .int .i64 0] [y7] H
def f24_19 (Q : Value → AHeap → Prop) : PT := g24_19 Q (f24_l20 Q)

def g24_13 (Q : Value → AHeap → Prop) (kb : KB) (vs : List Value) (bs : List (List Value)) (H : AHeap) : Prop :=
 inI .i64 vs fun x0 vs =>
 inI .i64 vs fun x1 vs =>
 inI .i64 vs fun x2 vs =>
 inSl vs fun a10 n10 z10 vs =>
 inI .i64 vs fun x11 vs =>
 inI .i64 vs fun x12 vs =>
 inI .i64 vs fun x13 vs =>
 inI .i64 vs fun x14 vs =>
 inI .i64 vs fun x15 vs =>
 inI .i64 vs fun x16 vs =>
 inI .i64 vs fun x17 vs =>
 inI .i64 vs fun x18 vs =>
 nilK vs <|
 inX bs fun y7 bs =>
 nilX bs <|
 kb 12 [.int .i64 x0, .int .i64 x1, .int .i64 x2, .slice a10 n10 z10, .int .i64 x11, .int .i64 x12, .int .i64 x13, .int .i64 x14, .int .i64 x15, .int .i64 x16, .int .i64 x17, .int .i64 (IntKind.wrap .i64 (x18 + 1))] [y7] H
def f24_13 (Q : Value → AHeap → Prop) : PT := g24_13 Q

def g24_l17 (Q : Value → AHeap → Prop) (F13 F19 : PT) (kb : KB) (vs : List Value) (bs : List (List Value)) (H : AHeap) : Prop :=
 inI .i64 vs fun x0 vs =>
 inI .i64 vs fun x1 vs =>
 inI .i64 vs fun x2 vs =>
 inSl vs fun a10 n10 z10 vs =>
 inI .i64 vs fun x11 vs =>
 inI .i64 vs fun x12 vs =>
 inI .i64 vs fun x13 vs =>
 inI .i64 vs fun x14 vs =>
 inI .i64 vs fun x15 vs =>
 inI .i64 vs fun x16 vs =>
 inI .i64 vs fun x17 vs =>
 inI .i64 vs fun x18 vs =>
 inI .i64 vs fun x19 vs =>
 inI .i64 vs fun x20 vs =>
 inI .i64 vs fun x21 vs =>
 inI .i64 vs fun x22 vs =>
 inI .i64 vs fun x23 vs =>
 nilK vs <|
 inX bs fun y7 bs =>
 nilX bs <|
 bif (decide ((x23 : Int) ≤ x22)) then (
  F19 kb [.int .i64 x0, .int .i64 x1, .int .i64 x2, .slice a10 n10 z10, .int .i64 x11, .int .i64 x12, .int .i64 x13, .int .i64 x14, .int .i64 x15, .int .i64 x16, .int .i64 x17, .int .i64 x18, .int .i64 x19, .int .i64 x20, .int .i64 x21, .int .i64 x22, .int .i64 x23] [y7] H
 ) else (
  F13 kb [.int .i64 x0, .int .i64 x1, .int .i64 x2, .slice a10 n10 z10, .int .i64 x11, .int .i64 x12, .int .i64 x13, .int .i64 x14, .int .i64 x15, .int .i64 x16, .int .i64 x17, .int .i64 x18] [y7] H
 )
def f24_l17 (Q : Value → AHeap → Prop) : PT := g24_l17 Q (f24_13 Q) (f24_19 Q)

def g24_14 (Q : Value → AHeap → Prop) (L17 : PT) (kb : KB) (vs : List Value) (bs : List (List Value)) (H : AHeap) : Prop :=
 inI .i64 vs fun x0 vs =>
 inI .i64 vs fun x1 vs =>
 inI .i64 vs fun x2 vs =>
 inSl vs fun a10 n10 z10 vs =>
 inI .i64 vs fun x11 vs =>
 inI .i64 vs fun x12 vs =>
 inI .i64 vs fun x13 vs =>
 inI .i64 vs fun x14 vs =>
 inI .i64 vs fun x15 vs =>
 inI .i64 vs fun x16 vs =>
 inI .i64 vs fun x17 vs =>
 inI .i64 vs fun x18 vs =>
 nilK vs <|
 inX bs fun y7 bs =>
 nilX bs <|
 call Try.prog 41 [.int .i64 (IntKind.wrap .i64 ((IntKind.wrap .i64 (2 * (IntKind.wrap .i64 (x14 + (x18.tmod 8))))) + x16))] H fun r62 H62 =>
 tupK r62 fun l =>
 inI .i64 l fun x62a l_2 =>
 inI .i64 l_2 fun x62b l_3 =>
 nilK l_3 <|
 call Try.prog 41 [.int .i64 (IntKind.wrap .i64 ((IntKind.wrap .i64 (2 * (IntKind.wrap .i64 (x15 + (IntKind.wrap .i64 (x18.tdiv 8)))))) + x17))] H62 fun r73 H73 =>
 tupK r73 fun l_4 =>
 inI .i64 l_4 fun x73a l_5 =>
 inI .i64 l_5 fun x73b l_6 =>
 nilK l_6 <|
 lpW L17 kb 17 [.int .i64 x0, .int .i64 x1, .int .i64 x2, .slice a10 n10 z10, .int .i64 x11, .int .i64 x12, .int .i64 x13, .int .i64 x14, .int .i64 x15, .int .i64 x16, .int .i64 x17, .int .i64 x18, .int .i64 x62a, .int .i64 x62b, .int .i64 x73a, .int .i64 x73b, .int .i64 0] [y7] H73
def f24_14 (Q : Value → AHeap → Prop) : PT := g24_14 Q (f24_l17 Q)

def g24_5 (Q : Value → AHeap → Prop) (kb : KB) (vs : List Value) (bs : List (List Value)) (H : AHeap) : Prop :=
 inI .i64 vs fun x0 vs =>
 inI .i64 vs fun x1 vs =>
 inI .i64 vs fun x2 vs =>
 inSl vs fun a10 n10 z10 vs =>
 inI .i64 vs fun x11 vs =>
 inI .i64 vs fun x12 vs =>
 nilK vs <|
 inX bs fun y7 bs =>
 nilX bs <|
 kb 4 [.int .i64 x0, .int .i64 x1, .int .i64 x2, .slice a10 n10 z10, .int .i64 x11, .int .i64 (IntKind.wrap .i64 (x12 + 1))] [y7] H
def f24_5 (Q : Value → AHeap → Prop) : PT := g24_5 Q

def g24_l12 (Q : Value → AHeap → Prop) (F5 F14 : PT) (kb : KB) (vs : List Value) (bs : List (List Value)) (H : AHeap) : Prop :=
 inI .i64 vs fun x0 vs =>
 inI .i64 vs fun x1 vs =>
 inI .i64 vs fun x2 vs =>
 inSl vs fun a10 n10 z10 vs =>
 inI .i64 vs fun x11 vs =>
 inI .i64 vs fun x12 vs =>
 inI .i64 vs fun x13 vs =>
 inI .i64 vs fun x14 vs =>
 inI .i64 vs fun x15 vs =>
 inI .i64 vs fun x16 vs =>
 inI .i64 vs fun x17 vs =>
 inI .i64 vs fun x18 vs =>
 nilK vs <|
 inX bs fun y7 bs =>
 nilX bs <|
 bif (decide ((x18 : Int) < 64)) then (
  F14 kb [.int .i64 x0, .int .i64 x1, .int .i64 x2, .slice a10 n10 z10, .int .i64 x11, .int .i64 x12, .int .i64 x13, .int .i64 x14, .int .i64 x15, .int .i64 x16, .int .i64 x17, .int .i64 x18] [y7] H
 ) else (
  F5 kb [.int .i64 x0, .int .i64 x1, .int .i64 x2, .slice a10 n10 z10, .int .i64 x11, .int .i64 x12] [y7] H
 )
def f24_l12 (Q : Value → AHeap → Prop) : PT := g24_l12 Q (f24_5 Q) (f24_14 Q)

def g24_9 (Q : Value → AHeap → Prop) (L12 : PT) (kb : KB) (vs : List Value) (bs : List (List Value)) (H : AHeap) : Prop :=
 inI .i64 vs fun x0 vs =>
 inI .i64 vs fun x1 vs =>
 inI .i64 vs fun x2 vs =>
 inSl vs fun a10 n10 z10 vs =>
 inI .i64 vs fun x11 vs =>
 inI .i64 vs fun x12 vs =>
 inI .i64 vs fun x13 vs =>
 nilK vs <|
 inX bs fun y7 bs =>
 nilX bs <|
 call Try.prog 39 [.int .i64 x0, .int .i64 x2, .int .i64 x12] H fun r41 H41 =>
 tupK r41 fun l =>
 inI .i64 l fun x41a l_2 =>
 inI .i64 l_2 fun x41b l_3 =>
 nilK l_3 <|
 rA 395 y7 0 fun l45 =>
 call Try.prog 40 [.agg ⟨l45⟩, .int .i64 x12] H41 fun r47 H47 =>
 tupK r47 fun l_4 =>
 inI .i64 l_4 fun x47a l_5 =>
 inI .i64 l_5 fun x47b l_6 =>
 nilK l_6 <|
 lpW L12 kb 12 [.int .i64 x0, .int .i64 x1, .int .i64 x2, .slice a10 n10 z10, .int .i64 x11, .int .i64 x12, .int .i64 x13, .int .i64 x41a, .int .i64 x41b, .int .i64 x47a, .int .i64 x47b, .int .i64 0] [y7] H47
def f24_9 (Q : Value → AHeap → Prop) : PT := g24_9 Q (f24_l12 Q)

def g24_6 (Q : Value → AHeap → Prop) (F9 : PT) (kb : KB) (vs : List Value) (bs : List (List Value)) (H : AHeap) : Prop :=
 inI .i64 vs fun x0 vs =>
 inI .i64 vs fun x1 vs =>
 inI .i64 vs fun x2 vs =>
 inSl vs fun a10 n10 z10 vs =>
 inI .i64 vs fun x11 vs =>
 inI .i64 vs fun x12 vs =>
 nilK vs <|
 inX bs fun y7 bs =>
 nilX bs <|
 bif ((x12 : Int) == 4) then (
  F9 kb [.int .i64 x0, .int .i64 x1, .int .i64 x2, .slice a10 n10 z10, .int .i64 x11, .int .i64 x12, .int .i64 8] [y7] H
 ) else (
  F9 kb [.int .i64 x0, .int .i64 x1, .int .i64 x2, .slice a10 n10 z10, .int .i64 x11, .int .i64 x12, .int .i64 16] [y7] H
 )
def f24_6 (Q : Value → AHeap → Prop) : PT := g24_6 Q (f24_9 Q)

def g24_28 (Q : Value → AHeap → Prop) (kb : KB) (vs : List Value) (bs : List (List Value)) (H : AHeap) : Prop :=
 inSl vs fun a10 n10 z10 vs =>
 inI .i64 vs fun x11 vs =>
 nilK vs <|
 nilX bs <|
 Q (.tuple ⟨[.slice a10 n10 z10, .int .i64 x11]⟩) H
def f24_28 (Q : Value → AHeap → Prop) : PT := g24_28 Q

def g24_l4 (Q : Value → AHeap → Prop) (F6 F28 : PT) (kb : KB) (vs : List Value) (bs : List (List Value)) (H : AHeap) : Prop :=
 inI .i64 vs fun x0 vs =>
 inI .i64 vs fun x1 vs =>
 inI .i64 vs fun x2 vs =>
 inSl vs fun a10 n10 z10 vs =>
 inI .i64 vs fun x11 vs =>
 inI .i64 vs fun x12 vs =>
 nilK vs <|
 inX bs fun y7 bs =>
 nilX bs <|
 bif (decide ((x12 : Int) < 5)) then (
  F6 kb [.int .i64 x0, .int .i64 x1, .int .i64 x2, .slice a10 n10 z10, .int .i64 x11, .int .i64 x12] [y7] H
 ) else (
  F28 kb [.slice a10 n10 z10, .int .i64 x11] [] H
 )
def f24_l4 (Q : Value → AHeap → Prop) : PT := g24_l4 Q (f24_6 Q) (f24_28 Q)

/-- kinescope/kinescoperef13.Touches -/
def g24 (Q : Value → AHeap → Prop) (L4 : PT) (vs : List Value) (H : AHeap) : Prop :=
 inI .i64 vs fun x0 vs =>
 inI .i64 vs fun x1 vs =>
 inI .i64 vs fun x2 vs =>
 inA 395 vs fun l3 vs =>
 nilK vs <|
 gd (l3.length = 395) <|
 mkW H 4 [.bool false] 1 (IntKind.wrap .i64 (x0 * x1)) (IntKind.wrap .i64 (x0 * x1)) fun a30 n30 z30 H30 =>
 lpW L4 kb0 4 [.int .i64 x0, .int .i64 x1, .int .i64 x2, .slice a30 n30 z30, .int .i64 0, .int .i64 0] [l3] H30
def f24 (vs : List Value) (H : AHeap) (Q : Value → AHeap → Prop) : Prop := g24 Q (f24_l4 Q) vs H

noncomputable def x24 (Q : Value → AHeap → Prop) (F21 F26 F22 F18 F19 F13 F14 F5 F9 F6 F28 L20 L17 L12 L4 : PT) : Pc := pc Try.prog 122 [(7, 7)]
  [(21, ⟨[0, 1, 2, 10, 11, 12, 13, 14, 15, 16, 17, 18, 19, 20, 21, 22, 23, 24], [(7, 7)], [7]⟩), (26, ⟨[0, 1, 2, 10, 11, 12, 13, 14, 15, 16, 17, 18, 19, 20, 21, 22, 23, 24, 25], [(7, 7)], [7]⟩), (22, ⟨[0, 1, 2, 10, 11, 12, 13, 14, 15, 16, 17, 18, 19, 20, 21, 22, 23, 24], [(7, 7)], [7]⟩), (18, ⟨[0, 1, 2, 10, 11, 12, 13, 14, 15, 16, 17, 18, 19, 20, 21, 22, 23], [(7, 7)], [7]⟩), (19, ⟨[0, 1, 2, 10, 11, 12, 13, 14, 15, 16, 17, 18, 19, 20, 21, 22, 23], [(7, 7)], [7]⟩), (13, ⟨[0, 1, 2, 10, 11, 12, 13, 14, 15, 16, 17, 18], [(7, 7)], [7]⟩), (14, ⟨[0, 1, 2, 10, 11, 12, 13, 14, 15, 16, 17, 18], [(7, 7)], [7]⟩), (5, ⟨[0, 1, 2, 10, 11, 12], [(7, 7)], [7]⟩), (9, ⟨[0, 1, 2, 10, 11, 12, 13], [(7, 7)], [7]⟩), (6, ⟨[0, 1, 2, 10, 11, 12], [(7, 7)], [7]⟩), (28, ⟨[10, 11], [], []⟩)]
  [(20, ⟨[0, 1, 2, 10, 11, 12, 13, 14, 15, 16, 17, 18, 19, 20, 21, 22, 23, 24], [(7, 7)], [7]⟩), (17, ⟨[0, 1, 2, 10, 11, 12, 13, 14, 15, 16, 17, 18, 19, 20, 21, 22, 23], [(7, 7)], [7]⟩), (12, ⟨[0, 1, 2, 10, 11, 12, 13, 14, 15, 16, 17, 18], [(7, 7)], [7]⟩), (4, ⟨[0, 1, 2, 10, 11, 12], [(7, 7)], [7]⟩)]
  [(23, [(0, []), (1, []), (2, []), (3, []), (4, []), (5, []), (6, []), (7, []), (8, []), (9, []), (10, []), (11, [])])]
  (shOf [(21, F21), (26, F26), (22, F22), (18, F18), (19, F19), (13, F13), (14, F14), (5, F5), (9, F9), (6, F6), (28, F28)])
  (shOf [(20, L20), (17, L17), (12, L12), (4, L4)])
  [.tmp 8, .tmp 9] Q
theorem o24_0 (Q : Value → AHeap → Prop) (F21 F26 F22 F18 F19 F13 F14 F5 F9 F6 L20 L17 L12 L4 : PT) : cutOK (x24 Q F21 F26 F22 F18 F19 F13 F14 F5 F9 F6 (g24_28 Q) L20 L17 L12 L4) (cutAt (bodyOf Try.f24) 0) := by
  refine cutOK_of (F := g24_28 Q) (by kernel_rfl) ?_
  intro kb vs bs H h
  obtain ⟨_, _, _, _, rfl, h1⟩ := deSl h
  obtain ⟨_, _, rfl, h2⟩ := deI h1
  obtain ⟨rfl, g⟩ := deN h2
  obtain ⟨rfl, k⟩ := deNX g
  exact Eq.mp (by kernel_rfl) k
theorem o24_1 (Q : Value → AHeap → Prop) (F21 F26 F22 F18 F19 F13 F14 F5 F9 F6 F28 L20 L17 L12 : PT) : cutOK (x24 Q F21 F26 F22 F18 F19 F13 F14 F5 F9 F6 F28 L20 L17 L12 (g24_l4 Q F6 F28)) (cutAt (bodyOf Try.f24) 1) := by
  refine cutOK_of (F := g24_l4 Q F6 F28) (by kernel_rfl) ?_
  intro kb vs bs H h
  obtain ⟨_, _, rfl, h1⟩ := deI h
  obtain ⟨_, _, rfl, h2⟩ := deI h1
  obtain ⟨_, _, rfl, h3⟩ := deI h2
  obtain ⟨_, _, _, _, rfl, h4⟩ := deSl h3
  obtain ⟨_, _, rfl, h5⟩ := deI h4
  obtain ⟨_, _, rfl, h6⟩ := deI h5
  obtain ⟨rfl, g⟩ := deN h6
  obtain ⟨_, _, rfl, g1⟩ := deX g
  obtain ⟨rfl, k⟩ := deNX g1
  exact Eq.mp (by kernel_rfl) k
theorem o24_2 (Q : Value → AHeap → Prop) (F21 F26 F22 F18 F19 F13 F14 F5 F9 F28 L20 L17 L12 L4 : PT) : cutOK (x24 Q F21 F26 F22 F18 F19 F13 F14 F5 F9 (g24_6 Q F9) F28 L20 L17 L12 L4) (cutAt (bodyOf Try.f24) 2) := by
  refine cutOK_of (F := g24_6 Q F9) (by kernel_rfl) ?_
  intro kb vs bs H h
  obtain ⟨_, _, rfl, h1⟩ := deI h
  obtain ⟨_, _, rfl, h2⟩ := deI h1
  obtain ⟨_, _, rfl, h3⟩ := deI h2
  obtain ⟨_, _, _, _, rfl, h4⟩ := deSl h3
  obtain ⟨_, _, rfl, h5⟩ := deI h4
  obtain ⟨_, _, rfl, h6⟩ := deI h5
  obtain ⟨rfl, g⟩ := deN h6
  obtain ⟨_, _, rfl, g1⟩ := deX g
  obtain ⟨rfl, k⟩ := deNX g1
  exact Eq.mp (by kernel_rfl) k
theorem o24_3 (Q : Value → AHeap → Prop) (F21 F26 F22 F18 F19 F13 F14 F9 F6 F28 L20 L17 L12 L4 : PT) : cutOK (x24 Q F21 F26 F22 F18 F19 F13 F14 (g24_5 Q) F9 F6 F28 L20 L17 L12 L4) (cutAt (bodyOf Try.f24) 3) := by
  refine cutOK_of (F := g24_5 Q) (by kernel_rfl) ?_
  intro kb vs bs H h
  obtain ⟨_, _, rfl, h1⟩ := deI h
  obtain ⟨_, _, rfl, h2⟩ := deI h1
  obtain ⟨_, _, rfl, h3⟩ := deI h2
  obtain ⟨_, _, _, _, rfl, h4⟩ := deSl h3
  obtain ⟨_, _, rfl, h5⟩ := deI h4
  obtain ⟨_, _, rfl, h6⟩ := deI h5
  obtain ⟨rfl, g⟩ := deN h6
  obtain ⟨_, _, rfl, g1⟩ := deX g
  obtain ⟨rfl, k⟩ := deNX g1
  exact Eq.mp (by kernel_rfl) k
theorem o24_4 (Q : Value → AHeap → Prop) (F21 F26 F22 F18 F19 F13 F14 F5 F6 F28 L20 L17 L12 L4 : PT) : cutOK (x24 Q F21 F26 F22 F18 F19 F13 F14 F5 (g24_9 Q L12) F6 F28 L20 L17 L12 L4) (cutAt (bodyOf Try.f24) 4) := by
  refine cutOK_of (F := g24_9 Q L12) (by kernel_rfl) ?_
  intro kb vs bs H h
  obtain ⟨_, _, rfl, h1⟩ := deI h
  obtain ⟨_, _, rfl, h2⟩ := deI h1
  obtain ⟨_, _, rfl, h3⟩ := deI h2
  obtain ⟨_, _, _, _, rfl, h4⟩ := deSl h3
  obtain ⟨_, _, rfl, h5⟩ := deI h4
  obtain ⟨_, _, rfl, h6⟩ := deI h5
  obtain ⟨_, _, rfl, h7⟩ := deI h6
  obtain ⟨rfl, g⟩ := deN h7
  obtain ⟨_, _, rfl, g1⟩ := deX g
  obtain ⟨rfl, k⟩ := deNX g1
  exact Eq.mp (by kernel_rfl) k
theorem o24_5 (Q : Value → AHeap → Prop) (F21 F26 F22 F18 F19 F13 F14 F5 F9 F6 F28 L20 L17 L4 : PT) : cutOK (x24 Q F21 F26 F22 F18 F19 F13 F14 F5 F9 F6 F28 L20 L17 (g24_l12 Q F5 F14) L4) (cutAt (bodyOf Try.f24) 5) := by
  refine cutOK_of (F := g24_l12 Q F5 F14) (by kernel_rfl) ?_
  intro kb vs bs H h
  obtain ⟨_, _, rfl, h1⟩ := deI h
  obtain ⟨_, _, rfl, h2⟩ := deI h1
  obtain ⟨_, _, rfl, h3⟩ := deI h2
  obtain ⟨_, _, _, _, rfl, h4⟩ := deSl h3
  obtain ⟨_, _, rfl, h5⟩ := deI h4
  obtain ⟨_, _, rfl, h6⟩ := deI h5
  obtain ⟨_, _, rfl, h7⟩ := deI h6
  obtain ⟨_, _, rfl, h8⟩ := deI h7
  obtain ⟨_, _, rfl, h9⟩ := deI h8
  obtain ⟨_, _, rfl, h10⟩ := deI h9
  obtain ⟨_, _, rfl, h11⟩ := deI h10
  obtain ⟨_, _, rfl, h12⟩ := deI h11
  obtain ⟨rfl, g⟩ := deN h12
  obtain ⟨_, _, rfl, g1⟩ := deX g
  obtain ⟨rfl, k⟩ := deNX g1
  exact Eq.mp (by kernel_rfl) k
theorem o24_6 (Q : Value → AHeap → Prop) (F21 F26 F22 F18 F19 F13 F5 F9 F6 F28 L20 L17 L12 L4 : PT) : cutOK (x24 Q F21 F26 F22 F18 F19 F13 (g24_14 Q L17) F5 F9 F6 F28 L20 L17 L12 L4) (cutAt (bodyOf Try.f24) 6) := by
  refine cutOK_of (F := g24_14 Q L17) (by kernel_rfl) ?_
  intro kb vs bs H h
  obtain ⟨_, _, rfl, h1⟩ := deI h
  obtain ⟨_, _, rfl, h2⟩ := deI h1
  obtain ⟨_, _, rfl, h3⟩ := deI h2
  obtain ⟨_, _, _, _, rfl, h4⟩ := deSl h3
  obtain ⟨_, _, rfl, h5⟩ := deI h4
  obtain ⟨_, _, rfl, h6⟩ := deI h5
  obtain ⟨_, _, rfl, h7⟩ := deI h6
  obtain ⟨_, _, rfl, h8⟩ := deI h7
  obtain ⟨_, _, rfl, h9⟩ := deI h8
  obtain ⟨_, _, rfl, h10⟩ := deI h9
  obtain ⟨_, _, rfl, h11⟩ := deI h10
  obtain ⟨_, _, rfl, h12⟩ := deI h11
  obtain ⟨rfl, g⟩ := deN h12
  obtain ⟨_, _, rfl, g1⟩ := deX g
  obtain ⟨rfl, k⟩ := deNX g1
  exact Eq.mp (by kernel_rfl) k
theorem o24_7 (Q : Value → AHeap → Prop) (F21 F26 F22 F18 F19 F14 F5 F9 F6 F28 L20 L17 L12 L4 : PT) : cutOK (x24 Q F21 F26 F22 F18 F19 (g24_13 Q) F14 F5 F9 F6 F28 L20 L17 L12 L4) (cutAt (bodyOf Try.f24) 7) := by
  refine cutOK_of (F := g24_13 Q) (by kernel_rfl) ?_
  intro kb vs bs H h
  obtain ⟨_, _, rfl, h1⟩ := deI h
  obtain ⟨_, _, rfl, h2⟩ := deI h1
  obtain ⟨_, _, rfl, h3⟩ := deI h2
  obtain ⟨_, _, _, _, rfl, h4⟩ := deSl h3
  obtain ⟨_, _, rfl, h5⟩ := deI h4
  obtain ⟨_, _, rfl, h6⟩ := deI h5
  obtain ⟨_, _, rfl, h7⟩ := deI h6
  obtain ⟨_, _, rfl, h8⟩ := deI h7
  obtain ⟨_, _, rfl, h9⟩ := deI h8
  obtain ⟨_, _, rfl, h10⟩ := deI h9
  obtain ⟨_, _, rfl, h11⟩ := deI h10
  obtain ⟨_, _, rfl, h12⟩ := deI h11
  obtain ⟨rfl, g⟩ := deN h12
  obtain ⟨_, _, rfl, g1⟩ := deX g
  obtain ⟨rfl, k⟩ := deNX g1
  exact Eq.mp (by kernel_rfl) k
theorem o24_8 (Q : Value → AHeap → Prop) (F21 F26 F22 F18 F19 F13 F14 F5 F9 F6 F28 L20 L12 L4 : PT) : cutOK (x24 Q F21 F26 F22 F18 F19 F13 F14 F5 F9 F6 F28 L20 (g24_l17 Q F13 F19) L12 L4) (cutAt (bodyOf Try.f24) 8) := by
  refine cutOK_of (F := g24_l17 Q F13 F19) (by kernel_rfl) ?_
  intro kb vs bs H h
  obtain ⟨_, _, rfl, h1⟩ := deI h
  obtain ⟨_, _, rfl, h2⟩ := deI h1
  obtain ⟨_, _, rfl, h3⟩ := deI h2
  obtain ⟨_, _, _, _, rfl, h4⟩ := deSl h3
  obtain ⟨_, _, rfl, h5⟩ := deI h4
  obtain ⟨_, _, rfl, h6⟩ := deI h5
  obtain ⟨_, _, rfl, h7⟩ := deI h6
  obtain ⟨_, _, rfl, h8⟩ := deI h7
  obtain ⟨_, _, rfl, h9⟩ := deI h8
  obtain ⟨_, _, rfl, h10⟩ := deI h9
  obtain ⟨_, _, rfl, h11⟩ := deI h10
  obtain ⟨_, _, rfl, h12⟩ := deI h11
  obtain ⟨_, _, rfl, h13⟩ := deI h12
  obtain ⟨_, _, rfl, h14⟩ := deI h13
  obtain ⟨_, _, rfl, h15⟩ := deI h14
  obtain ⟨_, _, rfl, h16⟩ := deI h15
  obtain ⟨_, _, rfl, h17⟩ := deI h16
  obtain ⟨rfl, g⟩ := deN h17
  obtain ⟨_, _, rfl, g1⟩ := deX g
  obtain ⟨rfl, k⟩ := deNX g1
  exact Eq.mp (by kernel_rfl) k
theorem o24_9 (Q : Value → AHeap → Prop) (F21 F26 F22 F18 F13 F14 F5 F9 F6 F28 L20 L17 L12 L4 : PT) : cutOK (x24 Q F21 F26 F22 F18 (g24_19 Q L20) F13 F14 F5 F9 F6 F28 L20 L17 L12 L4) (cutAt (bodyOf Try.f24) 9) := by
  refine cutOK_of (F := g24_19 Q L20) (by kernel_rfl) ?_
  intro kb vs bs H h
  obtain ⟨_, _, rfl, h1⟩ := deI h
  obtain ⟨_, _, rfl, h2⟩ := deI h1
  obtain ⟨_, _, rfl, h3⟩ := deI h2
  obtain ⟨_, _, _, _, rfl, h4⟩ := deSl h3
  obtain ⟨_, _, rfl, h5⟩ := deI h4
  obtain ⟨_, _, rfl, h6⟩ := deI h5
  obtain ⟨_, _, rfl, h7⟩ := deI h6
  obtain ⟨_, _, rfl, h8⟩ := deI h7
  obtain ⟨_, _, rfl, h9⟩ := deI h8
  obtain ⟨_, _, rfl, h10⟩ := deI h9
  obtain ⟨_, _, rfl, h11⟩ := deI h10
  obtain ⟨_, _, rfl, h12⟩ := deI h11
  obtain ⟨_, _, rfl, h13⟩ := deI h12
  obtain ⟨_, _, rfl, h14⟩ := deI h13
  obtain ⟨_, _, rfl, h15⟩ := deI h14
  obtain ⟨_, _, rfl, h16⟩ := deI h15
  obtain ⟨_, _, rfl, h17⟩ := deI h16
  obtain ⟨rfl, g⟩ := deN h17
  obtain ⟨_, _, rfl, g1⟩ := deX g
  obtain ⟨rfl, k⟩ := deNX g1
  exact Eq.mp (by kernel_rfl) k
theorem o24_10 (Q : Value → AHeap → Prop) (F21 F26 F22 F19 F13 F14 F5 F9 F6 F28 L20 L17 L12 L4 : PT) : cutOK (x24 Q F21 F26 F22 (g24_18 Q) F19 F13 F14 F5 F9 F6 F28 L20 L17 L12 L4) (cutAt (bodyOf Try.f24) 10) := by
  refine cutOK_of (F := g24_18 Q) (by kernel_rfl) ?_
  intro kb vs bs H h
  obtain ⟨_, _, rfl, h1⟩ := deI h
  obtain ⟨_, _, rfl, h2⟩ := deI h1
  obtain ⟨_, _, rfl, h3⟩ := deI h2
  obtain ⟨_, _, _, _, rfl, h4⟩ := deSl h3
  obtain ⟨_, _, rfl, h5⟩ := deI h4
  obtain ⟨_, _, rfl, h6⟩ := deI h5
  obtain ⟨_, _, rfl, h7⟩ := deI h6
  obtain ⟨_, _, rfl, h8⟩ := deI h7
  obtain ⟨_, _, rfl, h9⟩ := deI h8
  obtain ⟨_, _, rfl, h10⟩ := deI h9
  obtain ⟨_, _, rfl, h11⟩ := deI h10
  obtain ⟨_, _, rfl, h12⟩ := deI h11
  obtain ⟨_, _, rfl, h13⟩ := deI h12
  obtain ⟨_, _, rfl, h14⟩ := deI h13
  obtain ⟨_, _, rfl, h15⟩ := deI h14
  obtain ⟨_, _, rfl, h16⟩ := deI h15
  obtain ⟨_, _, rfl, h17⟩ := deI h16
  obtain ⟨rfl, g⟩ := deN h17
  obtain ⟨_, _, rfl, g1⟩ := deX g
  obtain ⟨rfl, k⟩ := deNX g1
  exact Eq.mp (by kernel_rfl) k
theorem o24_11 (Q : Value → AHeap → Prop) (F21 F26 F22 F18 F19 F13 F14 F5 F9 F6 F28 L17 L12 L4 : PT) : cutOK (x24 Q F21 F26 F22 F18 F19 F13 F14 F5 F9 F6 F28 (g24_l20 Q F18 F22) L17 L12 L4) (cutAt (bodyOf Try.f24) 11) := by
  refine cutOK_of (F := g24_l20 Q F18 F22) (by kernel_rfl) ?_
  intro kb vs bs H h
  obtain ⟨_, _, rfl, h1⟩ := deI h
  obtain ⟨_, _, rfl, h2⟩ := deI h1
  obtain ⟨_, _, rfl, h3⟩ := deI h2
  obtain ⟨_, _, _, _, rfl, h4⟩ := deSl h3
  obtain ⟨_, _, rfl, h5⟩ := deI h4
  obtain ⟨_, _, rfl, h6⟩ := deI h5
  obtain ⟨_, _, rfl, h7⟩ := deI h6
  obtain ⟨_, _, rfl, h8⟩ := deI h7
  obtain ⟨_, _, rfl, h9⟩ := deI h8
  obtain ⟨_, _, rfl, h10⟩ := deI h9
  obtain ⟨_, _, rfl, h11⟩ := deI h10
  obtain ⟨_, _, rfl, h12⟩ := deI h11
  obtain ⟨_, _, rfl, h13⟩ := deI h12
  obtain ⟨_, _, rfl, h14⟩ := deI h13
  obtain ⟨_, _, rfl, h15⟩ := deI h14
  obtain ⟨_, _, rfl, h16⟩ := deI h15
  obtain ⟨_, _, rfl, h17⟩ := deI h16
  obtain ⟨_, _, rfl, h18⟩ := deI h17
  obtain ⟨rfl, g⟩ := deN h18
  obtain ⟨_, _, rfl, g1⟩ := deX g
  obtain ⟨rfl, k⟩ := deNX g1
  exact Eq.mp (by kernel_rfl) k
theorem o24_12 (Q : Value → AHeap → Prop) (F21 F26 F18 F19 F13 F14 F5 F9 F6 F28 L20 L17 L12 L4 : PT) : cutOK (x24 Q F21 F26 (g24_22 Q F26) F18 F19 F13 F14 F5 F9 F6 F28 L20 L17 L12 L4) (cutAt (bodyOf Try.f24) 12) := by
  refine cutOK_of (F := g24_22 Q F26) (by kernel_rfl) ?_
  intro kb vs bs H h
  obtain ⟨_, _, rfl, h1⟩ := deI h
  obtain ⟨_, _, rfl, h2⟩ := deI h1
  obtain ⟨_, _, rfl, h3⟩ := deI h2
  obtain ⟨_, _, _, _, rfl, h4⟩ := deSl h3
  obtain ⟨_, _, rfl, h5⟩ := deI h4
  obtain ⟨_, _, rfl, h6⟩ := deI h5
  obtain ⟨_, _, rfl, h7⟩ := deI h6
  obtain ⟨_, _, rfl, h8⟩ := deI h7
  obtain ⟨_, _, rfl, h9⟩ := deI h8
  obtain ⟨_, _, rfl, h10⟩ := deI h9
  obtain ⟨_, _, rfl, h11⟩ := deI h10
  obtain ⟨_, _, rfl, h12⟩ := deI h11
  obtain ⟨_, _, rfl, h13⟩ := deI h12
  obtain ⟨_, _, rfl, h14⟩ := deI h13
  obtain ⟨_, _, rfl, h15⟩ := deI h14
  obtain ⟨_, _, rfl, h16⟩ := deI h15
  obtain ⟨_, _, rfl, h17⟩ := deI h16
  obtain ⟨_, _, rfl, h18⟩ := deI h17
  obtain ⟨rfl, g⟩ := deN h18
  obtain ⟨_, _, rfl, g1⟩ := deX g
  obtain ⟨rfl, k⟩ := deNX g1
  exact Eq.mp (by kernel_rfl) k
theorem o24_13 (Q : Value → AHeap → Prop) (F26 F22 F18 F19 F13 F14 F5 F9 F6 F28 L20 L17 L12 L4 : PT) : cutOK (x24 Q (g24_21 Q) F26 F22 F18 F19 F13 F14 F5 F9 F6 F28 L20 L17 L12 L4) (cutAt (bodyOf Try.f24) 13) := by
  refine cutOK_of (F := g24_21 Q) (by kernel_rfl) ?_
  intro kb vs bs H h
  obtain ⟨_, _, rfl, h1⟩ := deI h
  obtain ⟨_, _, rfl, h2⟩ := deI h1
  obtain ⟨_, _, rfl, h3⟩ := deI h2
  obtain ⟨_, _, _, _, rfl, h4⟩ := deSl h3
  obtain ⟨_, _, rfl, h5⟩ := deI h4
  obtain ⟨_, _, rfl, h6⟩ := deI h5
  obtain ⟨_, _, rfl, h7⟩ := deI h6
  obtain ⟨_, _, rfl, h8⟩ := deI h7
  obtain ⟨_, _, rfl, h9⟩ := deI h8
  obtain ⟨_, _, rfl, h10⟩ := deI h9
  obtain ⟨_, _, rfl, h11⟩ := deI h10
  obtain ⟨_, _, rfl, h12⟩ := deI h11
  obtain ⟨_, _, rfl, h13⟩ := deI h12
  obtain ⟨_, _, rfl, h14⟩ := deI h13
  obtain ⟨_, _, rfl, h15⟩ := deI h14
  obtain ⟨_, _, rfl, h16⟩ := deI h15
  obtain ⟨_, _, rfl, h17⟩ := deI h16
  obtain ⟨_, _, rfl, h18⟩ := deI h17
  obtain ⟨rfl, g⟩ := deN h18
  obtain ⟨_, _, rfl, g1⟩ := deX g
  obtain ⟨rfl, k⟩ := deNX g1
  exact Eq.mp (by kernel_rfl) k
theorem o24_14 (Q : Value → AHeap → Prop) (F21 F22 F18 F19 F13 F14 F5 F9 F6 F28 L20 L17 L12 L4 : PT) : cutOK (x24 Q F21 (g24_26 Q F21) F22 F18 F19 F13 F14 F5 F9 F6 F28 L20 L17 L12 L4) (cutAt (bodyOf Try.f24) 14) := by
  refine cutOK_of (F := g24_26 Q F21) (by kernel_rfl) ?_
  intro kb vs bs H h
  obtain ⟨_, _, rfl, h1⟩ := deI h
  obtain ⟨_, _, rfl, h2⟩ := deI h1
  obtain ⟨_, _, rfl, h3⟩ := deI h2
  obtain ⟨_, _, _, _, rfl, h4⟩ := deSl h3
  obtain ⟨_, _, rfl, h5⟩ := deI h4
  obtain ⟨_, _, rfl, h6⟩ := deI h5
  obtain ⟨_, _, rfl, h7⟩ := deI h6
  obtain ⟨_, _, rfl, h8⟩ := deI h7
  obtain ⟨_, _, rfl, h9⟩ := deI h8
  obtain ⟨_, _, rfl, h10⟩ := deI h9
  obtain ⟨_, _, rfl, h11⟩ := deI h10
  obtain ⟨_, _, rfl, h12⟩ := deI h11
  obtain ⟨_, _, rfl, h13⟩ := deI h12
  obtain ⟨_, _, rfl, h14⟩ := deI h13
  obtain ⟨_, _, rfl, h15⟩ := deI h14
  obtain ⟨_, _, rfl, h16⟩ := deI h15
  obtain ⟨_, _, rfl, h17⟩ := deI h16
  obtain ⟨_, _, rfl, h18⟩ := deI h17
  obtain ⟨_, _, rfl, h19⟩ := deI h18
  obtain ⟨rfl, g⟩ := deN h19
  obtain ⟨_, _, rfl, g1⟩ := deX g
  obtain ⟨rfl, k⟩ := deNX g1
  exact Eq.mp (by kernel_rfl) k
theorem m24 {Q : Value → AHeap → Prop} (F21 F26 F22 F18 F19 F13 F14 F5 F9 F6 F28 L20 L17 L12 L4 : PT) {vs : List Value} {H : AHeap} (h : g24 Q L4 vs H) : Nat.ble vs.length 122 = true ∧ interp (x24 Q F21 F26 F22 F18 F19 F13 F14 F5 F9 F6 F28 L20 L17 L12 L4) kb0 (bodyOf Try.f24) [] (entry vs H) := by
  obtain ⟨_, _, rfl, h1⟩ := deI h
  obtain ⟨_, _, rfl, h2⟩ := deI h1
  obtain ⟨_, _, rfl, h3⟩ := deI h2
  obtain ⟨_, _, rfl, h4⟩ := deA h3
  obtain ⟨rfl, g⟩ := deN h4
  exact ⟨by kernel_rfl, Eq.mp (by kernel_rfl) g⟩
theorem c24 {vs : List Value} {H : AHeap} {Q : Value → AHeap → Prop} (h : f24 vs H Q) : call Try.prog 24 vs H Q :=
  call_of' noNG (X := x24 Q (f24_21 Q) (f24_26 Q) (f24_22 Q) (f24_18 Q) (f24_19 Q) (f24_13 Q) (f24_14 Q) (f24_5 Q) (f24_9 Q) (f24_6 Q) (f24_28 Q) (f24_l20 Q) (f24_l17 Q) (f24_l12 Q) (f24_l4 Q)) (fn := Try.f24) (by kernel_rfl) (by kernel_rfl) (by kernel_rfl) (by kernel_rfl) (by kernel_rfl) (obl_of (n := 15) (by kernel_rfl) (by kernel_rfl) ⟨o24_0 Q (f24_21 Q) (f24_26 Q) (f24_22 Q) (f24_18 Q) (f24_19 Q) (f24_13 Q) (f24_14 Q) (f24_5 Q) (f24_9 Q) (f24_6 Q) (f24_l20 Q) (f24_l17 Q) (f24_l12 Q) (f24_l4 Q), o24_1 Q (f24_21 Q) (f24_26 Q) (f24_22 Q) (f24_18 Q) (f24_19 Q) (f24_13 Q) (f24_14 Q) (f24_5 Q) (f24_9 Q) (f24_6 Q) (f24_28 Q) (f24_l20 Q) (f24_l17 Q) (f24_l12 Q), o24_2 Q (f24_21 Q) (f24_26 Q) (f24_22 Q) (f24_18 Q) (f24_19 Q) (f24_13 Q) (f24_14 Q) (f24_5 Q) (f24_9 Q) (f24_28 Q) (f24_l20 Q) (f24_l17 Q) (f24_l12 Q) (f24_l4 Q), o24_3 Q (f24_21 Q) (f24_26 Q) (f24_22 Q) (f24_18 Q) (f24_19 Q) (f24_13 Q) (f24_14 Q) (f24_9 Q) (f24_6 Q) (f24_28 Q) (f24_l20 Q) (f24_l17 Q) (f24_l12 Q) (f24_l4 Q), o24_4 Q (f24_21 Q) (f24_26 Q) (f24_22 Q) (f24_18 Q) (f24_19 Q) (f24_13 Q) (f24_14 Q) (f24_5 Q) (f24_6 Q) (f24_28 Q) (f24_l20 Q) (f24_l17 Q) (f24_l12 Q) (f24_l4 Q), o24_5 Q (f24_21 Q) (f24_26 Q) (f24_22 Q) (f24_18 Q) (f24_19 Q) (f24_13 Q) (f24_14 Q) (f24_5 Q) (f24_9 Q) (f24_6 Q) (f24_28 Q) (f24_l20 Q) (f24_l17 Q) (f24_l4 Q), o24_6 Q (f24_21 Q) (f24_26 Q) (f24_22 Q) (f24_18 Q) (f24_19 Q) (f24_13 Q) (f24_5 Q) (f24_9 Q) (f24_6 Q) (f24_28 Q) (f24_l20 Q) (f24_l17 Q) (f24_l12 Q) (f24_l4 Q), o24_7 Q (f24_21 Q) (f24_26 Q) (f24_22 Q) (f24_18 Q) (f24_19 Q) (f24_14 Q) (f24_5 Q) (f24_9 Q) (f24_6 Q) (f24_28 Q) (f24_l20 Q) (f24_l17 Q) (f24_l12 Q) (f24_l4 Q), o24_8 Q (f24_21 Q) (f24_26 Q) (f24_22 Q) (f24_18 Q) (f24_19 Q) (f24_13 Q) (f24_14 Q) (f24_5 Q) (f24_9 Q) (f24_6 Q) (f24_28 Q) (f24_l20 Q) (f24_l12 Q) (f24_l4 Q), o24_9 Q (f24_21 Q) (f24_26 Q) (f24_22 Q) (f24_18 Q) (f24_13 Q) (f24_14 Q) (f24_5 Q) (f24_9 Q) (f24_6 Q) (f24_28 Q) (f24_l20 Q) (f24_l17 Q) (f24_l12 Q) (f24_l4 Q), o24_10 Q (f24_21 Q) (f24_26 Q) (f24_22 Q) (f24_19 Q) (f24_13 Q) (f24_14 Q) (f24_5 Q) (f24_9 Q) (f24_6 Q) (f24_28 Q) (f24_l20 Q) (f24_l17 Q) (f24_l12 Q) (f24_l4 Q), o24_11 Q (f24_21 Q) (f24_26 Q) (f24_22 Q) (f24_18 Q) (f24_19 Q) (f24_13 Q) (f24_14 Q) (f24_5 Q) (f24_9 Q) (f24_6 Q) (f24_28 Q) (f24_l17 Q) (f24_l12 Q) (f24_l4 Q), o24_12 Q (f24_21 Q) (f24_26 Q) (f24_18 Q) (f24_19 Q) (f24_13 Q) (f24_14 Q) (f24_5 Q) (f24_9 Q) (f24_6 Q) (f24_28 Q) (f24_l20 Q) (f24_l17 Q) (f24_l12 Q) (f24_l4 Q), o24_13 Q (f24_26 Q) (f24_22 Q) (f24_18 Q) (f24_19 Q) (f24_13 Q) (f24_14 Q) (f24_5 Q) (f24_9 Q) (f24_6 Q) (f24_28 Q) (f24_l20 Q) (f24_l17 Q) (f24_l12 Q) (f24_l4 Q), o24_14 Q (f24_21 Q) (f24_22 Q) (f24_18 Q) (f24_19 Q) (f24_13 Q) (f24_14 Q) (f24_5 Q) (f24_9 Q) (f24_6 Q) (f24_28 Q) (f24_l20 Q) (f24_l17 Q) (f24_l12 Q) (f24_l4 Q), trivial⟩) (m24 (f24_21 Q) (f24_26 Q) (f24_22 Q) (f24_18 Q) (f24_19 Q) (f24_13 Q) (f24_14 Q) (f24_5 Q) (f24_9 Q) (f24_6 Q) (f24_28 Q) (f24_l20 Q) (f24_l17 Q) (f24_l12 Q) (f24_l4 Q) h).1 (m24 (f24_21 Q) (f24_26 Q) (f24_22 Q) (f24_18 Q) (f24_19 Q) (f24_13 Q) (f24_14 Q) (f24_5 Q) (f24_9 Q) (f24_6 Q) (f24_28 Q) (f24_l20 Q) (f24_l17 Q) (f24_l12 Q) (f24_l4 Q) h).2

/-! ## 27 (kinescope/plane.Frame).Block -/

def g27_7 (Q : Value → AHeap → Prop) (kb : KB) (vs : List Value) (bs : List (List Value)) (H : AHeap) : Prop :=
 inI .i64 vs fun x10 vs =>
 inI .i64 vs fun x11 vs =>
 nilK vs <|
 inX bs fun y3 bs =>
 inX bs fun y6 bs =>
 nilX bs <|
 rA 3 y3 8 fun l48 =>
 gd (l48.length = 3 ∧ 0 + 3 ≤ y6.length) <|
 rA 3 (stC y6 0 l48) 0 fun l =>
 Q (.tuple ⟨[.agg ⟨l⟩, .int .i64 (IntKind.wrap .i64 (8 * x10)), .int .i64 (IntKind.wrap .i64 (8 * x11))]⟩) H
def f27_7 (Q : Value → AHeap → Prop) : PT := g27_7 Q

/-- (kinescope/plane.Frame).Block -/
def g27 (Q : Value → AHeap → Prop) (F7 : PT) (vs : List Value) (H : AHeap) : Prop :=
 inA 11 vs fun l0 vs =>
 inI .i64 vs fun x1 vs =>
 inI .i64 vs fun x2 vs =>
 nilK vs <|
 gd (l0.length = 11) <|
 rI .i64 l0 0 fun x13 =>
 nz (mxI x13 1) <|
 nz (mxI x13 1) <|
 bif (decide ((x2 : Int) < 4)) then (
  rA 3 l0 2 fun l25 =>
  gd (l25.length = 3 ∧ 0 + 3 ≤ List.length (α := Value) [.int .i64 0, .int .i64 0, .slice none 0 0]) <|
  rA 3 (stC [.int .i64 0, .int .i64 0, .slice none 0 0] 0 l25) 0 fun l =>
  Q (.tuple ⟨[.agg ⟨l⟩, .int .i64 (IntKind.wrap .i64 ((IntKind.wrap .i64 (16 * (x1.tmod (mxI x13 1)))) + (IntKind.wrap .i64 (8 * (x2.tmod 2))))), .int .i64 (IntKind.wrap .i64 ((IntKind.wrap .i64 (16 * (IntKind.wrap .i64 (x1.tdiv (mxI x13 1))))) + (IntKind.wrap .i64 (8 * (IntKind.wrap .i64 (x2.tdiv 2))))))]⟩) H
 ) else (
  bif ((x2 : Int) == 4) then (
   rA 3 l0 5 fun l42 =>
   gd (l42.length = 3 ∧ 0 + 3 ≤ List.length (α := Value) [.int .i64 0, .int .i64 0, .slice none 0 0]) <|
   rA 3 (stC [.int .i64 0, .int .i64 0, .slice none 0 0] 0 l42) 0 fun l_2 =>
   Q (.tuple ⟨[.agg ⟨l_2⟩, .int .i64 (IntKind.wrap .i64 (8 * (x1.tmod (mxI x13 1)))), .int .i64 (IntKind.wrap .i64 (8 * (IntKind.wrap .i64 (x1.tdiv (mxI x13 1)))))]⟩) H
  ) else (
   F7 kb0 [.int .i64 (x1.tmod (mxI x13 1)), .int .i64 (IntKind.wrap .i64 (x1.tdiv (mxI x13 1)))] [l0, [.int .i64 0, .int .i64 0, .slice none 0 0]] H
  )
 )
def f27 (vs : List Value) (H : AHeap) (Q : Value → AHeap → Prop) : Prop := g27 Q (f27_7 Q) vs H

noncomputable def x27 (Q : Value → AHeap → Prop) (F7 : PT) : Pc := pc Try.prog 53 [(3, 3), (6, 6), (12, 3), (24, 3), (41, 3), (47, 3)]
  [(7, ⟨[10, 11], [(3, 3), (6, 6)], [3, 6]⟩)]
  []
  [(2, [(0, []), (1, []), (2, []), (3, []), (4, []), (5, []), (6, []), (7, [])])]
  (shOf [(7, F7)])
  (shOf [])
  [.cell 6 29, .tmp 7, .tmp 8] Q
theorem o27_0 (Q : Value → AHeap → Prop) : cutOK (x27 Q (g27_7 Q)) (cutAt (bodyOf Try.f27) 0) := by
  refine cutOK_of (F := g27_7 Q) (by kernel_rfl) ?_
  intro kb vs bs H h
  obtain ⟨_, _, rfl, h1⟩ := deI h
  obtain ⟨_, _, rfl, h2⟩ := deI h1
  obtain ⟨rfl, g⟩ := deN h2
  obtain ⟨_, _, rfl, g1⟩ := deX g
  obtain ⟨_, _, rfl, g2⟩ := deX g1
  obtain ⟨rfl, k⟩ := deNX g2
  exact Eq.mp (by kernel_rfl) k
theorem m27 {Q : Value → AHeap → Prop} (F7 : PT) {vs : List Value} {H : AHeap} (h : g27 Q F7 vs H) : Nat.ble vs.length 53 = true ∧ interp (x27 Q F7) kb0 (bodyOf Try.f27) [] (entry vs H) := by
  obtain ⟨_, _, rfl, h1⟩ := deA h
  obtain ⟨_, _, rfl, h2⟩ := deI h1
  obtain ⟨_, _, rfl, h3⟩ := deI h2
  obtain ⟨rfl, g⟩ := deN h3
  exact ⟨by kernel_rfl, Eq.mp (by kernel_rfl) g⟩
theorem c27 {vs : List Value} {H : AHeap} {Q : Value → AHeap → Prop} (h : f27 vs H Q) : call Try.prog 27 vs H Q :=
  call_of' noNG (X := x27 Q (f27_7 Q)) (fn := Try.f27) (by kernel_rfl) (by kernel_rfl) (by kernel_rfl) (by kernel_rfl) (by kernel_rfl) (obl_of (n := 1) (by kernel_rfl) (by kernel_rfl) ⟨o27_0 Q, trivial⟩) (m27 (f27_7 Q) h).1 (m27 (f27_7 Q) h).2

/-! ## 28 (kinescope/plane.Plane).At -/

def g28_4 (Q : Value → AHeap → Prop) (kb : KB) (vs : List Value) (bs : List (List Value)) (H : AHeap) : Prop :=
 inI .i64 vs fun x7 vs =>
 nilK vs <|
 inX bs fun y3 bs =>
 nilX bs <|
 rSl y3 2 fun a36 n36 z36 =>
 hp a36 fun b38 o38 =>
 aidx x7 n36 fun j38 =>
 rdH H b38 fun y39 =>
 rI .u8 y39 (o38 + j38 * 1) fun x39 =>
 Q (.int .u8 x39) H
def f28_4 (Q : Value → AHeap → Prop) : PT := g28_4 Q

/-- (kinescope/plane.Plane).At -/
def g28 (Q : Value → AHeap → Prop) (F4 : PT) (vs : List Value) (H : AHeap) : Prop :=
 inA 3 vs fun l0 vs =>
 inI .i64 vs fun x1 vs =>
 inI .i64 vs fun x2 vs =>
 nilK vs <|
 gd (l0.length = 3) <|
 rI .i64 l0 1 fun x10 =>
 rI .i64 l0 0 fun x13 =>
 rI .i64 l0 0 fun x17 =>
 call Try.prog 43 [.int .i64 x2, .int .i64 x10] H fun r11 H11 =>
 asI .i64 r11 fun x11 =>
 call Try.prog 43 [.int .i64 x1, .int .i64 x17] H11 fun r18 H18 =>
 asI .i64 r18 fun x18 =>
 rI .i64 l0 0 fun x21 =>
 bif (decide ((x21 : Int) ≤ 0)) then (
  Q (.int .u8 0) H18
 ) else (
  rI .i64 l0 1 fun x25 =>
  bif (decide ((x25 : Int) ≤ 0)) then (
   Q (.int .u8 0) H18
  ) else (
   rSl l0 2 fun a31 n31 z31 =>
   bif (decide (((IntKind.wrap .i64 ((IntKind.wrap .i64 (x11 * x13)) + x18)) : Int) ≥ (n31 : Int))) then (
    Q (.int .u8 0) H18
   ) else (
    F4 kb0 [.int .i64 (IntKind.wrap .i64 ((IntKind.wrap .i64 (x11 * x13)) + x18))] [l0] H18
   )
  )
 )
def f28 (vs : List Value) (H : AHeap) (Q : Value → AHeap → Prop) : Prop := g28 Q (f28_4 Q) vs H

noncomputable def x28 (Q : Value → AHeap → Prop) (F4 : PT) : Pc := pc Try.prog 40 [(3, 3), (9, 3), (12, 3), (16, 3), (20, 3), (24, 3), (30, 3), (35, 3)]
  [(4, ⟨[7], [(3, 3)], [3]⟩)]
  []
  [(1, [(0, []), (1, []), (2, []), (4, []), (5, []), (7, []), (8, []), (9, []), (3, []), (6, []), (10, []), (11, []), (12, [])])]
  (shOf [(4, F4)])
  (shOf [])
  [.tmp 6] Q
theorem o28_0 (Q : Value → AHeap → Prop) : cutOK (x28 Q (g28_4 Q)) (cutAt (bodyOf Try.f28) 0) := by
  refine cutOK_of (F := g28_4 Q) (by kernel_rfl) ?_
  intro kb vs bs H h
  obtain ⟨_, _, rfl, h1⟩ := deI h
  obtain ⟨rfl, g⟩ := deN h1
  obtain ⟨_, _, rfl, g1⟩ := deX g
  obtain ⟨rfl, k⟩ := deNX g1
  exact Eq.mp (by kernel_rfl) k
theorem m28 {Q : Value → AHeap → Prop} (F4 : PT) {vs : List Value} {H : AHeap} (h : g28 Q F4 vs H) : Nat.ble vs.length 40 = true ∧ interp (x28 Q F4) kb0 (bodyOf Try.f28) [] (entry vs H) := by
  obtain ⟨_, _, rfl, h1⟩ := deA h
  obtain ⟨_, _, rfl, h2⟩ := deI h1
  obtain ⟨_, _, rfl, h3⟩ := deI h2
  obtain ⟨rfl, g⟩ := deN h3
  exact ⟨by kernel_rfl, Eq.mp (by kernel_rfl) g⟩
theorem c28 {vs : List Value} {H : AHeap} {Q : Value → AHeap → Prop} (h : f28 vs H Q) : call Try.prog 28 vs H Q :=
  call_of' noNG (X := x28 Q (f28_4 Q)) (fn := Try.f28) (by kernel_rfl) (by kernel_rfl) (by kernel_rfl) (by kernel_rfl) (by kernel_rfl) (obl_of (n := 1) (by kernel_rfl) (by kernel_rfl) ⟨o28_0 Q, trivial⟩) (m28 (f28_4 Q) h).1 (m28 (f28_4 Q) h).2

/-! ## 32 (kinescope/search.Searcher).Whole$1 -/

def g32_7 (Q : Value → AHeap → Prop) (kb : KB) (vs : List Value) (bs : List (List Value)) (H : AHeap) : Prop :=
 inP vs fun p1 vs =>
 inP vs fun p2 vs =>
 inP vs fun p3 vs =>
 inP vs fun p4 vs =>
 inP vs fun p5 vs =>
 inP vs fun p6 vs =>
 inP vs fun p7 vs =>
 inP vs fun p8 vs =>
 inSl vs fun a13 n13 z13 vs =>
 inI .i64 vs fun x14 vs =>
 inI .i64 vs fun x15 vs =>
 nilK vs <|
 nilX bs <|
 kb 1 [.pointer p1, .pointer p2, .pointer p3, .pointer p4, .pointer p5, .pointer p6, .pointer p7, .pointer p8, .slice a13 n13 z13, .int .i64 x14, .int .i64 (IntKind.wrap .i64 (x15 + 1))] [] H
def f32_7 (Q : Value → AHeap → Prop) : PT := g32_7 Q

def g32_4 (Q : Value → AHeap → Prop) (F7 : PT) (kb : KB) (vs : List Value) (bs : List (List Value)) (H : AHeap) : Prop :=
 inP vs fun p1 vs =>
 inP vs fun p2 vs =>
 inP vs fun p3 vs =>
 inP vs fun p4 vs =>
 inP vs fun p5 vs =>
 inP vs fun p6 vs =>
 inP vs fun p7 vs =>
 inP vs fun p8 vs =>
 inC vs fun r11 i11 vs =>
 inSl vs fun a13 n13 z13 vs =>
 inI .i64 vs fun x14 vs =>
 inI .i64 vs fun x15 vs =>
 nilK vs <|
 nilX bs <|
 hp p2 fun b27 o27 =>
 rdH H b27 fun y27 =>
 rH 11 y27 (o27) fun l27 =>
 hp p4 fun b28 o28 =>
 rdH H b28 fun y28 =>
 rH 11 y28 (o28) fun l28 =>
 hp p3 fun b29 o29 =>
 rdH H b29 fun y29 =>
 rI .i64 y29 (o29) fun x29 =>
 hp p5 fun b31 o31 =>
 rdH H b31 fun y31 =>
 rB y31 (o31) fun c31 =>
 call Try.prog 33 [.agg ⟨l27⟩, .agg ⟨l28⟩, .int .i64 x29, .complex .f64 r11 i11, .bool c31] H fun r32 H32 =>
 asI .i64 r32 fun x32 =>
 hp p6 fun b33 o33 =>
 rdH H32 b33 fun y33 =>
 rB y33 (o33) fun c33 =>
 bif (!c33) then (
  hp p8 fun b o =>
  wrH H32 b fun y e =>
  gd (o < y.length) <|
  hp p7 fun b_2 o_2 =>
  wrH (AHeap.put H32 b (.cells (List.set y (o) (.complex .f64 r11 i11)) e true)) b_2 fun y_2 e_2 =>
  gd (o_2 < y_2.length) <|
  hp p6 fun b_3 o_3 =>
  wrH (AHeap.put (AHeap.put H32 b (.cells (List.set y (o) (.complex .f64 r11 i11)) e true)) b_2 (.cells (List.set y_2 (o_2) (.int .i64 x32)) e_2 true)) b_3 fun y_3 e_3 =>
  gd (o_3 < y_3.length) <|
  F7 kb [.pointer p1, .pointer p2, .pointer p3, .pointer p4, .pointer p5, .pointer p6, .pointer p7, .pointer p8, .slice a13 n13 z13, .int .i64 x14, .int .i64 x15] [] (AHeap.put (AHeap.put (AHeap.put H32 b (.cells (List.set y (o) (.complex .f64 r11 i11)) e true)) b_2 (.cells (List.set y_2 (o_2) (.int .i64 x32)) e_2 true)) b_3 (.cells (List.set y_3 (o_3) (.bool true)) e_3 true))
 ) else (
  hp p7 fun b37 o37 =>
  rdH H32 b37 fun y37 =>
  rI .i64 y37 (o37) fun x37 =>
  bif (decide ((x32 : Int) < x37)) then (
   hp p8 fun b_4 o_4 =>
   wrH H32 b_4 fun y_4 e_4 =>
   gd (o_4 < y_4.length) <|
   hp p7 fun b_5 o_5 =>
   wrH (AHeap.put H32 b_4 (.cells (List.set y_4 (o_4) (.complex .f64 r11 i11)) e_4 true)) b_5 fun y_5 e_5 =>
   gd (o_5 < y_5.length) <|
   hp p6 fun b_6 o_6 =>
   wrH (AHeap.put (AHeap.put H32 b_4 (.cells (List.set y_4 (o_4) (.complex .f64 r11 i11)) e_4 true)) b_5 (.cells (List.set y_5 (o_5) (.int .i64 x32)) e_5 true)) b_6 fun y_6 e_6 =>
   gd (o_6 < y_6.length) <|
   F7 kb [.pointer p1, .pointer p2, .pointer p3, .pointer p4, .pointer p5, .pointer p6, .pointer p7, .pointer p8, .slice a13 n13 z13, .int .i64 x14, .int .i64 x15] [] (AHeap.put (AHeap.put (AHeap.put H32 b_4 (.cells (List.set y_4 (o_4) (.complex .f64 r11 i11)) e_4 true)) b_5 (.cells (List.set y_5 (o_5) (.int .i64 x32)) e_5 true)) b_6 (.cells (List.set y_6 (o_6) (.bool true)) e_6 true))
  ) else (
   F7 kb [.pointer p1, .pointer p2, .pointer p3, .pointer p4, .pointer p5, .pointer p6, .pointer p7, .pointer p8, .slice a13 n13 z13, .int .i64 x14, .int .i64 x15] [] H32
  )
 )
def f32_4 (Q : Value → AHeap → Prop) : PT := g32_4 Q (f32_7 Q)

def g32_2 (Q : Value → AHeap → Prop) (F4 F7 : PT) (kb : KB) (vs : List Value) (bs : List (List Value)) (H : AHeap) : Prop :=
 inP vs fun p1 vs =>
 inP vs fun p2 vs =>
 inP vs fun p3 vs =>
 inP vs fun p4 vs =>
 inP vs fun p5 vs =>
 inP vs fun p6 vs =>
 inP vs fun p7 vs =>
 inP vs fun p8 vs =>
 inSl vs fun a13 n13 z13 vs =>
 inI .i64 vs fun x14 vs =>
 inI .i64 vs fun x15 vs =>
 nilK vs <|
 nilX bs <|
 hp a13 fun b17 o17 =>
 aidx x15 n13 fun j17 =>
 rdH H b17 fun y18 =>
 rC y18 (o17 + j17 * 1) fun r18 i18 =>
 hp p1 fun b19 o19 =>
 rdH H b19 fun y19 =>
 rH 2 y19 (o19) fun l19 =>
 hp p2 fun b20 o20 =>
 rdH H b20 fun y21 =>
 rI .i64 y21 (o20 + 0) fun x21 =>
 hp p3 fun b22 o22 =>
 rdH H b22 fun y22 =>
 rI .i64 y22 (o22) fun x22 =>
 call Try.prog 10 [.complex .f64 r18 i18] H fun r24 H24 =>
 asA 4 r24 fun l24 =>
 andK (
  hp p1 fun b19_2 o19_2 =>
  rdH H24 b19_2 fun y19_2 =>
  rH 2 y19_2 (o19_2) fun l19_2 =>
  (.agg ⟨l19_2⟩ : Value) = .agg ⟨l19⟩
 ) <|
 andK (
  rdH H24 b20 fun y21_2 =>
  rI .i64 y21_2 (o20 + 0) fun x21_2 =>
  (.int .i64 x21_2 : Value) = .int .i64 x21
 ) <|
 andK (
  hp p3 fun b22_2 o22_2 =>
  rdH H24 b22_2 fun y22_2 =>
  rI .i64 y22_2 (o22_2) fun x22_2 =>
  (.int .i64 x22_2 : Value) = .int .i64 x22
 ) <|
 call Try.prog 20 [.agg ⟨l19⟩, .int .i64 x21, .int .i64 x22, .agg ⟨l24⟩] H24 fun r25 H25 =>
 asB r25 fun c25 =>
 bif (!c25) then (
  F7 kb [.pointer p1, .pointer p2, .pointer p3, .pointer p4, .pointer p5, .pointer p6, .pointer p7, .pointer p8, .slice a13 n13 z13, .int .i64 x14, .int .i64 x15] [] H25
 ) else (
  F4 kb [.pointer p1, .pointer p2, .pointer p3, .pointer p4, .pointer p5, .pointer p6, .pointer p7, .pointer p8, .complex .f64 r18 i18, .slice a13 n13 z13, .int .i64 x14, .int .i64 x15] [] H25
 )
def f32_2 (Q : Value → AHeap → Prop) : PT := g32_2 Q (f32_4 Q) (f32_7 Q)

def g32_l1 (Q : Value → AHeap → Prop) (F2 : PT) (kb : KB) (vs : List Value) (bs : List (List Value)) (H : AHeap) : Prop :=
 inP vs fun p1 vs =>
 inP vs fun p2 vs =>
 inP vs fun p3 vs =>
 inP vs fun p4 vs =>
 inP vs fun p5 vs =>
 inP vs fun p6 vs =>
 inP vs fun p7 vs =>
 inP vs fun p8 vs =>
 inSl vs fun a13 n13 z13 vs =>
 inI .i64 vs fun x14 vs =>
 inI .i64 vs fun x15 vs =>
 nilK vs <|
 nilX bs <|
 bif (decide ((x15 : Int) < x14)) then (
  F2 kb [.pointer p1, .pointer p2, .pointer p3, .pointer p4, .pointer p5, .pointer p6, .pointer p7, .pointer p8, .slice a13 n13 z13, .int .i64 x14, .int .i64 x15] [] H
 ) else (
  Q (.tuple ⟨[]⟩) H
 )
def f32_l1 (Q : Value → AHeap → Prop) : PT := g32_l1 Q (f32_2 Q)

/-- (kinescope/search.Searcher).Whole$1 -/
def g32 (Q : Value → AHeap → Prop) (L1 : PT) (vs : List Value) (H : AHeap) : Prop :=
 inSl vs fun a0 n0 z0 vs =>
 inP vs fun p1 vs =>
 inP vs fun p2 vs =>
 inP vs fun p3 vs =>
 inP vs fun p4 vs =>
 inP vs fun p5 vs =>
 inP vs fun p6 vs =>
 inP vs fun p7 vs =>
 inP vs fun p8 vs =>
 nilK vs <|
 lpW L1 kb0 1 [.pointer p1, .pointer p2, .pointer p3, .pointer p4, .pointer p5, .pointer p6, .pointer p7, .pointer p8, .slice a0 n0 z0, .int .i64 (n0 : Int), .int .i64 0] [] H
def f32 (vs : List Value) (H : AHeap) (Q : Value → AHeap → Prop) : Prop := g32 Q (f32_l1 Q) vs H

noncomputable def x32 (Q : Value → AHeap → Prop) (F7 F4 F2 L1 : PT) : Pc := pc Try.prog 43 []
  [(7, ⟨[1, 2, 3, 4, 5, 6, 7, 8, 13, 14, 15], [], []⟩), (4, ⟨[1, 2, 3, 4, 5, 6, 7, 8, 11, 13, 14, 15], [], []⟩), (2, ⟨[1, 2, 3, 4, 5, 6, 7, 8, 13, 14, 15], [], []⟩)]
  [(1, ⟨[1, 2, 3, 4, 5, 6, 7, 8, 13, 14, 15], [], []⟩)]
  [(3, [(0, []), (1, []), (2, []), (3, []), (4, []), (5, [0, 2, 3]), (6, []), (7, [])])]
  (shOf [(7, F7), (4, F4), (2, F2)])
  (shOf [(1, L1)])
  [] Q
theorem o32_0 (Q : Value → AHeap → Prop) (F7 F4 F2 : PT) : cutOK (x32 Q F7 F4 F2 (g32_l1 Q F2)) (cutAt (bodyOf Try.f32) 0) := by
  refine cutOK_of (F := g32_l1 Q F2) (by kernel_rfl) ?_
  intro kb vs bs H h
  obtain ⟨_, _, rfl, h1⟩ := deP h
  obtain ⟨_, _, rfl, h2⟩ := deP h1
  obtain ⟨_, _, rfl, h3⟩ := deP h2
  obtain ⟨_, _, rfl, h4⟩ := deP h3
  obtain ⟨_, _, rfl, h5⟩ := deP h4
  obtain ⟨_, _, rfl, h6⟩ := deP h5
  obtain ⟨_, _, rfl, h7⟩ := deP h6
  obtain ⟨_, _, rfl, h8⟩ := deP h7
  obtain ⟨_, _, _, _, rfl, h9⟩ := deSl h8
  obtain ⟨_, _, rfl, h10⟩ := deI h9
  obtain ⟨_, _, rfl, h11⟩ := deI h10
  obtain ⟨rfl, g⟩ := deN h11
  obtain ⟨rfl, k⟩ := deNX g
  exact Eq.mp (by kernel_rfl) k
theorem o32_1 (Q : Value → AHeap → Prop) (F7 F4 L1 : PT) : cutOK (x32 Q F7 F4 (g32_2 Q F4 F7) L1) (cutAt (bodyOf Try.f32) 1) := by
  refine cutOK_of (F := g32_2 Q F4 F7) (by kernel_rfl) ?_
  intro kb vs bs H h
  obtain ⟨_, _, rfl, h1⟩ := deP h
  obtain ⟨_, _, rfl, h2⟩ := deP h1
  obtain ⟨_, _, rfl, h3⟩ := deP h2
  obtain ⟨_, _, rfl, h4⟩ := deP h3
  obtain ⟨_, _, rfl, h5⟩ := deP h4
  obtain ⟨_, _, rfl, h6⟩ := deP h5
  obtain ⟨_, _, rfl, h7⟩ := deP h6
  obtain ⟨_, _, rfl, h8⟩ := deP h7
  obtain ⟨_, _, _, _, rfl, h9⟩ := deSl h8
  obtain ⟨_, _, rfl, h10⟩ := deI h9
  obtain ⟨_, _, rfl, h11⟩ := deI h10
  obtain ⟨rfl, g⟩ := deN h11
  obtain ⟨rfl, k⟩ := deNX g
  exact Eq.mp (by kernel_rfl) k
theorem o32_2 (Q : Value → AHeap → Prop) (F4 F2 L1 : PT) : cutOK (x32 Q (g32_7 Q) F4 F2 L1) (cutAt (bodyOf Try.f32) 2) := by
  refine cutOK_of (F := g32_7 Q) (by kernel_rfl) ?_
  intro kb vs bs H h
  obtain ⟨_, _, rfl, h1⟩ := deP h
  obtain ⟨_, _, rfl, h2⟩ := deP h1
  obtain ⟨_, _, rfl, h3⟩ := deP h2
  obtain ⟨_, _, rfl, h4⟩ := deP h3
  obtain ⟨_, _, rfl, h5⟩ := deP h4
  obtain ⟨_, _, rfl, h6⟩ := deP h5
  obtain ⟨_, _, rfl, h7⟩ := deP h6
  obtain ⟨_, _, rfl, h8⟩ := deP h7
  obtain ⟨_, _, _, _, rfl, h9⟩ := deSl h8
  obtain ⟨_, _, rfl, h10⟩ := deI h9
  obtain ⟨_, _, rfl, h11⟩ := deI h10
  obtain ⟨rfl, g⟩ := deN h11
  obtain ⟨rfl, k⟩ := deNX g
  exact Eq.mp (by kernel_rfl) k
theorem o32_3 (Q : Value → AHeap → Prop) (F7 F2 L1 : PT) : cutOK (x32 Q F7 (g32_4 Q F7) F2 L1) (cutAt (bodyOf Try.f32) 3) := by
  refine cutOK_of (F := g32_4 Q F7) (by kernel_rfl) ?_
  intro kb vs bs H h
  obtain ⟨_, _, rfl, h1⟩ := deP h
  obtain ⟨_, _, rfl, h2⟩ := deP h1
  obtain ⟨_, _, rfl, h3⟩ := deP h2
  obtain ⟨_, _, rfl, h4⟩ := deP h3
  obtain ⟨_, _, rfl, h5⟩ := deP h4
  obtain ⟨_, _, rfl, h6⟩ := deP h5
  obtain ⟨_, _, rfl, h7⟩ := deP h6
  obtain ⟨_, _, rfl, h8⟩ := deP h7
  obtain ⟨_, _, _, rfl, h9⟩ := deC h8
  obtain ⟨_, _, _, _, rfl, h10⟩ := deSl h9
  obtain ⟨_, _, rfl, h11⟩ := deI h10
  obtain ⟨_, _, rfl, h12⟩ := deI h11
  obtain ⟨rfl, g⟩ := deN h12
  obtain ⟨rfl, k⟩ := deNX g
  exact Eq.mp (by kernel_rfl) k
theorem m32 {Q : Value → AHeap → Prop} (F7 F4 F2 L1 : PT) {vs : List Value} {H : AHeap} (h : g32 Q L1 vs H) : Nat.ble vs.length 43 = true ∧ interp (x32 Q F7 F4 F2 L1) kb0 (bodyOf Try.f32) [] (entry vs H) := by
  obtain ⟨_, _, _, _, rfl, h1⟩ := deSl h
  obtain ⟨_, _, rfl, h2⟩ := deP h1
  obtain ⟨_, _, rfl, h3⟩ := deP h2
  obtain ⟨_, _, rfl, h4⟩ := deP h3
  obtain ⟨_, _, rfl, h5⟩ := deP h4
  obtain ⟨_, _, rfl, h6⟩ := deP h5
  obtain ⟨_, _, rfl, h7⟩ := deP h6
  obtain ⟨_, _, rfl, h8⟩ := deP h7
  obtain ⟨_, _, rfl, h9⟩ := deP h8
  obtain ⟨rfl, g⟩ := deN h9
  exact ⟨by kernel_rfl, Eq.mp (by kernel_rfl) g⟩
theorem c32 {vs : List Value} {H : AHeap} {Q : Value → AHeap → Prop} (h : f32 vs H Q) : call Try.prog 32 vs H Q :=
  call_of' noNG (X := x32 Q (f32_7 Q) (f32_4 Q) (f32_2 Q) (f32_l1 Q)) (fn := Try.f32) (by kernel_rfl) (by kernel_rfl) (by kernel_rfl) (by kernel_rfl) (by kernel_rfl) (obl_of (n := 4) (by kernel_rfl) (by kernel_rfl) ⟨o32_0 Q (f32_7 Q) (f32_4 Q) (f32_2 Q), o32_1 Q (f32_7 Q) (f32_4 Q) (f32_l1 Q), o32_2 Q (f32_4 Q) (f32_2 Q) (f32_l1 Q), o32_3 Q (f32_7 Q) (f32_2 Q) (f32_l1 Q), trivial⟩) (m32 (f32_7 Q) (f32_4 Q) (f32_2 Q) (f32_l1 Q) h).1 (m32 (f32_7 Q) (f32_4 Q) (f32_2 Q) (f32_l1 Q) h).2

/-! ## 39 kinescope/kinescoperef13.Place -/

def g39_3 (Q : Value → AHeap → Prop) (kb : KB) (vs : List Value) (bs : List (List Value)) (H : AHeap) : Prop :=
 inI .i64 vs fun x0 vs =>
 inI .i64 vs fun x1 vs =>
 nilK vs <|
 nilX bs <|
 nz x0 <|
 nz x0 <|
 Q (.tuple ⟨[.int .i64 (IntKind.wrap .i64 (8 * (x1.tmod x0))), .int .i64 (IntKind.wrap .i64 (8 * (IntKind.wrap .i64 (x1.tdiv x0))))]⟩) H
def f39_3 (Q : Value → AHeap → Prop) : PT := g39_3 Q

/-- kinescope/kinescoperef13.Place -/
def g39 (Q : Value → AHeap → Prop) (F3 : PT) (vs : List Value) (H : AHeap) : Prop :=
 inI .i64 vs fun x0 vs =>
 inI .i64 vs fun x1 vs =>
 inI .i64 vs fun x2 vs =>
 nilK vs <|
 bif (decide ((x2 : Int) < 4)) then (
  nz x0 <|
  nz x0 <|
  Q (.tuple ⟨[.int .i64 (IntKind.wrap .i64 ((IntKind.wrap .i64 (16 * (x1.tmod x0))) + (IntKind.wrap .i64 (8 * (x2.tmod 2))))), .int .i64 (IntKind.wrap .i64 ((IntKind.wrap .i64 (16 * (IntKind.wrap .i64 (x1.tdiv x0)))) + (IntKind.wrap .i64 (8 * (IntKind.wrap .i64 (x2.tdiv 2))))))]⟩) H
 ) else (
  F3 kb0 [.int .i64 x0, .int .i64 x1] [] H
 )
def f39 (vs : List Value) (H : AHeap) (Q : Value → AHeap → Prop) : Prop := g39 Q (f39_3 Q) vs H

noncomputable def x39 (Q : Value → AHeap → Prop) (F3 : PT) : Pc := pc Try.prog 34 []
  [(3, ⟨[0, 1], [], []⟩)]
  []
  [(2, [(0, []), (1, []), (2, []), (3, []), (4, []), (5, []), (6, []), (7, []), (8, []), (9, []), (10, []), (11, []), (12, []), (13, []), (14, []), (15, []), (16, []), (17, [])]), (3, [(0, []), (1, []), (2, []), (3, []), (4, []), (5, []), (6, []), (7, []), (8, []), (9, [])])]
  (shOf [(3, F3)])
  (shOf [])
  [.tmp 6, .tmp 7] Q
theorem o39_0 (Q : Value → AHeap → Prop) : cutOK (x39 Q (g39_3 Q)) (cutAt (bodyOf Try.f39) 0) := by
  refine cutOK_of (F := g39_3 Q) (by kernel_rfl) ?_
  intro kb vs bs H h
  obtain ⟨_, _, rfl, h1⟩ := deI h
  obtain ⟨_, _, rfl, h2⟩ := deI h1
  obtain ⟨rfl, g⟩ := deN h2
  obtain ⟨rfl, k⟩ := deNX g
  exact Eq.mp (by kernel_rfl) k
theorem m39 {Q : Value → AHeap → Prop} (F3 : PT) {vs : List Value} {H : AHeap} (h : g39 Q F3 vs H) : Nat.ble vs.length 34 = true ∧ interp (x39 Q F3) kb0 (bodyOf Try.f39) [] (entry vs H) := by
  obtain ⟨_, _, rfl, h1⟩ := deI h
  obtain ⟨_, _, rfl, h2⟩ := deI h1
  obtain ⟨_, _, rfl, h3⟩ := deI h2
  obtain ⟨rfl, g⟩ := deN h3
  exact ⟨by kernel_rfl, Eq.mp (by kernel_rfl) g⟩
theorem c39 {vs : List Value} {H : AHeap} {Q : Value → AHeap → Prop} (h : f39 vs H Q) : call Try.prog 39 vs H Q :=
  call_of' noNG (X := x39 Q (f39_3 Q)) (fn := Try.f39) (by kernel_rfl) (by kernel_rfl) (by kernel_rfl) (by kernel_rfl) (by kernel_rfl) (obl_of (n := 1) (by kernel_rfl) (by kernel_rfl) ⟨o39_0 Q, trivial⟩) (m39 (f39_3 Q) h).1 (m39 (f39_3 Q) h).2

/-! ## 40 (kinescope/kinescoperef13.Macro).Vector -/

def g40_3 (Q : Value → AHeap → Prop) (kb : KB) (vs : List Value) (bs : List (List Value)) (H : AHeap) : Prop :=
 nilK vs <|
 inX bs fun y2 bs =>
 nilX bs <|
 rA 395 y2 0 fun l16 =>
 call Try.prog 48 [.agg ⟨l16⟩] H fun r17 H17 =>
 tupK r17 fun l =>
 inI .i64 l fun x17a l_2 =>
 inI .i64 l_2 fun x17b l_3 =>
 nilK l_3 <|
 Q (.tuple ⟨[.int .i64 x17a, .int .i64 x17b]⟩) H17
def f40_3 (Q : Value → AHeap → Prop) : PT := g40_3 Q

/-- (kinescope/kinescoperef13.Macro).Vector -/
def g40 (Q : Value → AHeap → Prop) (F3 : PT) (vs : List Value) (H : AHeap) : Prop :=
 inA 395 vs fun l0 vs =>
 inI .i64 vs fun x1 vs =>
 nilK vs <|
 gd (l0.length = 395) <|
 bif (decide ((x1 : Int) < 4)) then (
  aidx x1 4 fun j10 =>
  rI .i64 l0 (3 + j10 * 1) fun x11 =>
  aidx x1 4 fun j14 =>
  rI .i64 l0 (7 + j14 * 1) fun x15 =>
  Q (.tuple ⟨[.int .i64 x11, .int .i64 x15]⟩) H
 ) else (
  F3 kb0 [] [l0] H
 )
def f40 (vs : List Value) (H : AHeap) (Q : Value → AHeap → Prop) : Prop := g40 Q (f40_3 Q) vs H

noncomputable def x40 (Q : Value → AHeap → Prop) (F3 : PT) : Pc := pc Try.prog 20 [(2, 2), (9, 2), (10, 2), (13, 2), (14, 2)]
  [(3, ⟨[], [(2, 2)], [2]⟩)]
  []
  [(2, [(0, []), (1, []), (2, []), (3, []), (4, []), (5, []), (6, []), (7, []), (8, []), (9, [])])]
  (shOf [(3, F3)])
  (shOf [])
  [.tmp 4, .tmp 5] Q
theorem o40_0 (Q : Value → AHeap → Prop) : cutOK (x40 Q (g40_3 Q)) (cutAt (bodyOf Try.f40) 0) := by
  refine cutOK_of (F := g40_3 Q) (by kernel_rfl) ?_
  intro kb vs bs H h
  obtain ⟨rfl, g⟩ := deN h
  obtain ⟨_, _, rfl, g1⟩ := deX g
  obtain ⟨rfl, k⟩ := deNX g1
  exact Eq.mp (by kernel_rfl) k
theorem m40 {Q : Value → AHeap → Prop} (F3 : PT) {vs : List Value} {H : AHeap} (h : g40 Q F3 vs H) : Nat.ble vs.length 20 = true ∧ interp (x40 Q F3) kb0 (bodyOf Try.f40) [] (entry vs H) := by
  obtain ⟨_, _, rfl, h1⟩ := deA h
  obtain ⟨_, _, rfl, h2⟩ := deI h1
  obtain ⟨rfl, g⟩ := deN h2
  exact ⟨by kernel_rfl, Eq.mp (by kernel_rfl) g⟩
theorem c40 {vs : List Value} {H : AHeap} {Q : Value → AHeap → Prop} (h : f40 vs H Q) : call Try.prog 40 vs H Q :=
  call_of' noNG (X := x40 Q (f40_3 Q)) (fn := Try.f40) (by kernel_rfl) (by kernel_rfl) (by kernel_rfl) (by kernel_rfl) (by kernel_rfl) (obl_of (n := 1) (by kernel_rfl) (by kernel_rfl) ⟨o40_0 Q, trivial⟩) (m40 (f40_3 Q) h).1 (m40 (f40_3 Q) h).2

/-! ## 47 kinescope/interp.At -/

def g47_13 (Q : Value → AHeap → Prop) (kb : KB) (vs : List Value) (bs : List (List Value)) (H : AHeap) : Prop :=
 inI .i64 vs fun x9 vs =>
 inI .i64 vs fun x11 vs =>
 inI .i64 vs fun x13 vs =>
 inI .i64 vs fun x14 vs =>
 nilK vs <|
 inX bs fun y4 bs =>
 nilX bs <|
 rA 3 y4 0 fun l70 =>
 rA 3 y4 0 fun l77 =>
 rA 3 y4 0 fun l84 =>
 call Try.prog 28 [.agg ⟨l70⟩, .int .i64 (IntKind.wrap .i64 (x9 + 1)), .int .i64 x11] H fun r74 H74 =>
 asI .u8 r74 fun x74 =>
 call Try.prog 28 [.agg ⟨l77⟩, .int .i64 x9, .int .i64 (IntKind.wrap .i64 (x11 + 1))] H74 fun r81 H81 =>
 asI .u8 r81 fun x81 =>
 call Try.prog 28 [.agg ⟨l84⟩, .int .i64 (IntKind.wrap .i64 (x9 + 1)), .int .i64 (IntKind.wrap .i64 (x11 + 1))] H81 fun r89 H89 =>
 asI .u8 r89 fun x89 =>
 Q (.int .i64 (IntKind.wrap .i64 ((IntKind.wrap .i64 ((IntKind.wrap .i64 ((IntKind.wrap .i64 ((IntKind.wrap .i64 ((IntKind.wrap .i64 (x14 + (IntKind.wrap .i64 x74))) + (IntKind.wrap .i64 x81))) + (IntKind.wrap .i64 x89))) + 2)) - x13)).tdiv 4))) H89
def f47_13 (Q : Value → AHeap → Prop) : PT := g47_13 Q

def g47_6 (Q : Value → AHeap → Prop) (F13 : PT) (kb : KB) (vs : List Value) (bs : List (List Value)) (H : AHeap) : Prop :=
 inI .i64 vs fun x9 vs =>
 inI .i64 vs fun x10 vs =>
 inI .i64 vs fun x11 vs =>
 inI .i64 vs fun x12 vs =>
 inI .i64 vs fun x13 vs =>
 nilK vs <|
 inX bs fun y4 bs =>
 nilX bs <|
 rA 3 y4 0 fun l26 =>
 call Try.prog 28 [.agg ⟨l26⟩, .int .i64 x9, .int .i64 x11] H fun r29 H29 =>
 asI .u8 r29 fun x29 =>
 bif ((x10 : Int) == 0) then (
  bif ((x12 : Int) == 0) then (
   Q (.int .i64 (IntKind.wrap .i64 x29)) H29
  ) else (
   bif ((x12 : Int) == 0) then (
    rA 3 y4 0 fun l43 =>
    call Try.prog 28 [.agg ⟨l43⟩, .int .i64 (IntKind.wrap .i64 (x9 + 1)), .int .i64 x11] H29 fun r47 H47 =>
    asI .u8 r47 fun x47 =>
    Q (.int .i64 (IntKind.wrap .i64 ((IntKind.wrap .i64 ((IntKind.wrap .i64 ((IntKind.wrap .i64 ((IntKind.wrap .i64 x29) + (IntKind.wrap .i64 x47))) + 1)) - x13)).tdiv 2))) H47
   ) else (
    bif ((x10 : Int) == 0) then (
     rA 3 y4 0 fun l58 =>
     call Try.prog 28 [.agg ⟨l58⟩, .int .i64 x9, .int .i64 (IntKind.wrap .i64 (x11 + 1))] H29 fun r62 H62 =>
     asI .u8 r62 fun x62 =>
     Q (.int .i64 (IntKind.wrap .i64 ((IntKind.wrap .i64 ((IntKind.wrap .i64 ((IntKind.wrap .i64 ((IntKind.wrap .i64 x29) + (IntKind.wrap .i64 x62))) + 1)) - x13)).tdiv 2))) H62
    ) else (
     F13 kb [.int .i64 x9, .int .i64 x11, .int .i64 x13, .int .i64 (IntKind.wrap .i64 x29)] [y4] H29
    )
   )
  )
 ) else (
  bif ((x12 : Int) == 0) then (
   rA 3 y4 0 fun l43_2 =>
   call Try.prog 28 [.agg ⟨l43_2⟩, .int .i64 (IntKind.wrap .i64 (x9 + 1)), .int .i64 x11] H29 fun r47_2 H47_2 =>
   asI .u8 r47_2 fun x47_2 =>
   Q (.int .i64 (IntKind.wrap .i64 ((IntKind.wrap .i64 ((IntKind.wrap .i64 ((IntKind.wrap .i64 ((IntKind.wrap .i64 x29) + (IntKind.wrap .i64 x47_2))) + 1)) - x13)).tdiv 2))) H47_2
  ) else (
   bif ((x10 : Int) == 0) then (
    rA 3 y4 0 fun l58_2 =>
    call Try.prog 28 [.agg ⟨l58_2⟩, .int .i64 x9, .int .i64 (IntKind.wrap .i64 (x11 + 1))] H29 fun r62_2 H62_2 =>
    asI .u8 r62_2 fun x62_2 =>
    Q (.int .i64 (IntKind.wrap .i64 ((IntKind.wrap .i64 ((IntKind.wrap .i64 ((IntKind.wrap .i64 ((IntKind.wrap .i64 x29) + (IntKind.wrap .i64 x62_2))) + 1)) - x13)).tdiv 2))) H62_2
   ) else (
    F13 kb [.int .i64 x9, .int .i64 x11, .int .i64 x13, .int .i64 (IntKind.wrap .i64 x29)] [y4] H29
   )
  )
 )
def f47_6 (Q : Value → AHeap → Prop) : PT := g47_6 Q (f47_13 Q)

/-- kinescope/interp.At -/
def g47 (Q : Value → AHeap → Prop) (F6 : PT) (vs : List Value) (H : AHeap) : Prop :=
 inA 3 vs fun l0 vs =>
 inI .i64 vs fun x1 vs =>
 inI .i64 vs fun x2 vs =>
 inB vs fun c3 vs =>
 nilK vs <|
 gd (l0.length = 3) <|
 call Try.prog 51 [.int .i64 x1] H fun r17 H17 =>
 tupK r17 fun l =>
 inI .i64 l fun x17a l_2 =>
 inI .i64 l_2 fun x17b l_3 =>
 nilK l_3 <|
 call Try.prog 51 [.int .i64 x2] H17 fun r22 H22 =>
 tupK r22 fun l_4 =>
 inI .i64 l_4 fun x22a l_5 =>
 inI .i64 l_5 fun x22b l_6 =>
 nilK l_6 <|
 bif c3 then (
  F6 kb0 [.int .i64 x17a, .int .i64 x17b, .int .i64 x22a, .int .i64 x22b, .int .i64 1] [l0] H22
 ) else (
  F6 kb0 [.int .i64 x17a, .int .i64 x17b, .int .i64 x22a, .int .i64 x22b, .int .i64 0] [l0] H22
 )
def f47 (vs : List Value) (H : AHeap) (Q : Value → AHeap → Prop) : Prop := g47 Q (f47_6 Q) vs H

noncomputable def x47 (Q : Value → AHeap → Prop) (F13 F6 : PT) : Pc := pc Try.prog 96 [(4, 4)]
  [(13, ⟨[9, 11, 13, 14], [(4, 4)], [4]⟩), (6, ⟨[9, 10, 11, 12, 13], [(4, 4)], [4]⟩)]
  []
  [(13, [(0, []), (1, []), (2, []), (3, []), (4, []), (8, []), (9, []), (10, []), (11, []), (15, []), (16, []), (17, []), (18, []), (19, []), (24, []), (5, []), (6, []), (7, []), (12, []), (13, []), (14, []), (20, []), (21, []), (22, []), (23, []), (25, []), (26, []), (27, [])])]
  (shOf [(13, F13), (6, F6)])
  (shOf [])
  [.tmp 8] Q
theorem o47_0 (Q : Value → AHeap → Prop) (F13 : PT) : cutOK (x47 Q F13 (g47_6 Q F13)) (cutAt (bodyOf Try.f47) 0) := by
  refine cutOK_of (F := g47_6 Q F13) (by kernel_rfl) ?_
  intro kb vs bs H h
  obtain ⟨_, _, rfl, h1⟩ := deI h
  obtain ⟨_, _, rfl, h2⟩ := deI h1
  obtain ⟨_, _, rfl, h3⟩ := deI h2
  obtain ⟨_, _, rfl, h4⟩ := deI h3
  obtain ⟨_, _, rfl, h5⟩ := deI h4
  obtain ⟨rfl, g⟩ := deN h5
  obtain ⟨_, _, rfl, g1⟩ := deX g
  obtain ⟨rfl, k⟩ := deNX g1
  exact Eq.mp (by kernel_rfl) k
theorem o47_1 (Q : Value → AHeap → Prop) (F6 : PT) : cutOK (x47 Q (g47_13 Q) F6) (cutAt (bodyOf Try.f47) 1) := by
  refine cutOK_of (F := g47_13 Q) (by kernel_rfl) ?_
  intro kb vs bs H h
  obtain ⟨_, _, rfl, h1⟩ := deI h
  obtain ⟨_, _, rfl, h2⟩ := deI h1
  obtain ⟨_, _, rfl, h3⟩ := deI h2
  obtain ⟨_, _, rfl, h4⟩ := deI h3
  obtain ⟨rfl, g⟩ := deN h4
  obtain ⟨_, _, rfl, g1⟩ := deX g
  obtain ⟨rfl, k⟩ := deNX g1
  exact Eq.mp (by kernel_rfl) k
theorem m47 {Q : Value → AHeap → Prop} (F13 F6 : PT) {vs : List Value} {H : AHeap} (h : g47 Q F6 vs H) : Nat.ble vs.length 96 = true ∧ interp (x47 Q F13 F6) kb0 (bodyOf Try.f47) [] (entry vs H) := by
  obtain ⟨_, _, rfl, h1⟩ := deA h
  obtain ⟨_, _, rfl, h2⟩ := deI h1
  obtain ⟨_, _, rfl, h3⟩ := deI h2
  obtain ⟨_, _, rfl, h4⟩ := deB h3
  obtain ⟨rfl, g⟩ := deN h4
  exact ⟨by kernel_rfl, Eq.mp (by kernel_rfl) g⟩
theorem c47 {vs : List Value} {H : AHeap} {Q : Value → AHeap → Prop} (h : f47 vs H Q) : call Try.prog 47 vs H Q :=
  call_of' noNG (X := x47 Q (f47_13 Q) (f47_6 Q)) (fn := Try.f47) (by kernel_rfl) (by kernel_rfl) (by kernel_rfl) (by kernel_rfl) (by kernel_rfl) (obl_of (n := 2) (by kernel_rfl) (by kernel_rfl) ⟨o47_0 Q (f47_13 Q), o47_1 Q (f47_6 Q), trivial⟩) (m47 (f47_13 Q) (f47_6 Q) h).1 (m47 (f47_13 Q) (f47_6 Q) h).2

/-! ## 48 (kinescope/kinescoperef13.Macro).Colour -/

/-- (kinescope/kinescoperef13.Macro).Colour -/
def g48 (Q : Value → AHeap → Prop) (vs : List Value) (H : AHeap) : Prop :=
 inA 395 vs fun l0 vs =>
 nilK vs <|
 gd (l0.length = 395) <|
 rI .i64 l0 3 fun x6 =>
 rI .i64 l0 4 fun x9 =>
 rI .i64 l0 5 fun x13 =>
 rI .i64 l0 6 fun x17 =>
 rI .i64 l0 7 fun x22 =>
 rI .i64 l0 8 fun x25 =>
 rI .i64 l0 9 fun x29 =>
 rI .i64 l0 10 fun x33 =>
 call Try.prog 52 [.int .i64 (IntKind.wrap .i64 ((IntKind.wrap .i64 ((IntKind.wrap .i64 (x6 + x9)) + x13)) + x17))] H fun r19 H19 =>
 asI .i64 r19 fun x19 =>
 call Try.prog 52 [.int .i64 (IntKind.wrap .i64 ((IntKind.wrap .i64 ((IntKind.wrap .i64 (x22 + x25)) + x29)) + x33))] H19 fun r35 H35 =>
 asI .i64 r35 fun x35 =>
 Q (.tuple ⟨[.int .i64 x19, .int .i64 x35]⟩) H35
def f48 (vs : List Value) (H : AHeap) (Q : Value → AHeap → Prop) : Prop := g48 Q vs H

noncomputable def x48 (Q : Value → AHeap → Prop) : Pc := pc Try.prog 36 [(1, 1), (4, 1), (5, 1), (7, 1), (8, 1), (11, 1), (12, 1), (15, 1), (16, 1), (20, 1), (21, 1), (23, 1), (24, 1), (27, 1), (28, 1), (31, 1), (32, 1)]
  []
  []
  [(1, [(0, []), (1, []), (2, []), (3, []), (4, []), (5, []), (6, []), (7, []), (8, []), (9, []), (10, []), (11, []), (12, []), (13, []), (14, []), (16, []), (17, []), (18, []), (19, []), (20, []), (21, []), (22, []), (23, []), (24, []), (25, []), (26, []), (27, []), (28, []), (29, []), (30, []), (15, []), (31, []), (32, []), (33, [])])]
  (shOf [])
  (shOf [])
  [.tmp 2, .tmp 3] Q
theorem m48 {Q : Value → AHeap → Prop} {vs : List Value} {H : AHeap} (h : g48 Q vs H) : Nat.ble vs.length 36 = true ∧ interp (x48 Q) kb0 (bodyOf Try.f48) [] (entry vs H) := by
  obtain ⟨_, _, rfl, h1⟩ := deA h
  obtain ⟨rfl, g⟩ := deN h1
  exact ⟨by kernel_rfl, Eq.mp (by kernel_rfl) g⟩
theorem c48 {vs : List Value} {H : AHeap} {Q : Value → AHeap → Prop} (h : f48 vs H Q) : call Try.prog 48 vs H Q :=
  call_of' noNG (X := x48 Q) (fn := Try.f48) (by kernel_rfl) (by kernel_rfl) (by kernel_rfl) (by kernel_rfl) (by kernel_rfl) (obl_of (n := 0) (by kernel_rfl) (by kernel_rfl) trivial) (m48 h).1 (m48 h).2

/-! ## 3 kinescope/kinescopelaw28.SearchQuarters -/

def g3_25 (Q : Value → AHeap → Prop) (kb : KB) (vs : List Value) (bs : List (List Value)) (H : AHeap) : Prop :=
 inB vs fun c6 vs =>
 inI .i64 vs fun x17 vs =>
 inC vs fun r18 i18 vs =>
 inI .i64 vs fun x19 vs =>
 inI .i64 vs fun x21 vs =>
 inB vs fun c22 vs =>
 inI .i64 vs fun x24 vs =>
 inI .i64 vs fun x25 vs =>
 inI .i64 vs fun x26 vs =>
 inI .i64 vs fun x27 vs =>
 inI .i64 vs fun x28 vs =>
 inI .i64 vs fun x29 vs =>
 inI .i64 vs fun x30 vs =>
 inI .i64 vs fun x103 vs =>
 nilK vs <|
 inX bs fun y15 bs =>
 inX bs fun y16 bs =>
 inX bs fun y20 bs =>
 inX bs fun y23 bs =>
 nilX bs <|
 kb 24 [.bool c6, .int .i64 x17, .complex .f64 r18 i18, .int .i64 x19, .int .i64 x21, .bool c22, .int .i64 x24, .int .i64 x25, .int .i64 x26, .int .i64 x27, .int .i64 x28, .int .i64 x29, .int .i64 (IntKind.wrap .i64 (x30 + 1)), .int .i64 x103] [y15, y16, y20, y23] H
def f3_25 (Q : Value → AHeap → Prop) : PT := g3_25 Q

def g3_29 (Q : Value → AHeap → Prop) (F25 : PT) (kb : KB) (vs : List Value) (bs : List (List Value)) (H : AHeap) : Prop :=
 inB vs fun c6 vs =>
 inI .i64 vs fun x17 vs =>
 inC vs fun r18 i18 vs =>
 inI .i64 vs fun x19 vs =>
 inI .i64 vs fun x21 vs =>
 inB vs fun c22 vs =>
 inI .i64 vs fun x24 vs =>
 inI .i64 vs fun x25 vs =>
 inI .i64 vs fun x26 vs =>
 inI .i64 vs fun x27 vs =>
 inI .i64 vs fun x28 vs =>
 inI .i64 vs fun x29 vs =>
 inI .i64 vs fun x30 vs =>
 inI .i64 vs fun x103 vs =>
 nilK vs <|
 inX bs fun y15 bs =>
 inX bs fun y16 bs =>
 inX bs fun y20 bs =>
 inX bs fun y23 bs =>
 inX bs fun y31 bs =>
 nilX bs <|
 rA 11 y15 0 fun l138 =>
 rA 11 y16 0 fun l139 =>
 aidx x27 4 fun j143 =>
 rC y31 (0 + j143 * 1) fun r144 i144 =>
 call Try.prog 13 [.agg ⟨l138⟩, .agg ⟨l139⟩, .int .i64 x17, .int .i64 x27, .complex .f64 r144 i144, .bool c6] H fun r146 H146 =>
 asI .i64 r146 fun x146 =>
 bif (decide ((x146 : Int) < x28)) then (
  rA 4 y31 0 fun l151 =>
  gd (l151.length = 4 ∧ 0 + 4 ≤ y23.length) <|
  F25 kb [.bool c6, .int .i64 x17, .complex .f64 r18 i18, .int .i64 x19, .int .i64 x21, .bool c22, .int .i64 x24, .int .i64 x25, .int .i64 x26, .int .i64 x27, .int .i64 x146, .int .i64 x29, .int .i64 x30, .int .i64 x103] [y15, y16, y20, (stC y23 0 l151)] H146
 ) else (
  F25 kb [.bool c6, .int .i64 x17, .complex .f64 r18 i18, .int .i64 x19, .int .i64 x21, .bool c22, .int .i64 x24, .int .i64 x25, .int .i64 x26, .int .i64 x27, .int .i64 x28, .int .i64 x29, .int .i64 x30, .int .i64 x103] [y15, y16, y20, y23] H146
 )
def f3_29 (Q : Value → AHeap → Prop) : PT := g3_29 Q (f3_25 Q)

def g3_26 (Q : Value → AHeap → Prop) (F25 F29 : PT) (kb : KB) (vs : List Value) (bs : List (List Value)) (H : AHeap) : Prop :=
 inB vs fun c6 vs =>
 inI .i64 vs fun x17 vs =>
 inC vs fun r18 i18 vs =>
 inI .i64 vs fun x19 vs =>
 inI .i64 vs fun x21 vs =>
 inB vs fun c22 vs =>
 inI .i64 vs fun x24 vs =>
 inI .i64 vs fun x25 vs =>
 inI .i64 vs fun x26 vs =>
 inI .i64 vs fun x27 vs =>
 inI .i64 vs fun x28 vs =>
 inI .i64 vs fun x29 vs =>
 inI .i64 vs fun x30 vs =>
 inI .i64 vs fun x103 vs =>
 nilK vs <|
 inX bs fun y15 bs =>
 inX bs fun y16 bs =>
 inX bs fun y20 bs =>
 inX bs fun y23 bs =>
 nilX bs <|
 rA 4 y23 0 fun l121 =>
 gd (l121.length = 4 ∧ 0 + 4 ≤ List.length (α := Value) [.complex .f64 0 0, .complex .f64 0 0, .complex .f64 0 0, .complex .f64 0 0]) <|
 call Try.prog 14 [.int .i64 (IntKind.wrap .i64 (x25 + x30)), .int .i64 (IntKind.wrap .i64 (x26 + x29))] H fun r129 H129 =>
 asC r129 fun r129_2 i129 =>
 aidx x27 4 fun j130 =>
 gd (0 + j130 * 1 < List.length (α := Value) (stC [.complex .f64 0 0, .complex .f64 0 0, .complex .f64 0 0, .complex .f64 0 0] 0 l121)) <|
 rI .i64 y15 0 fun x132 =>
 rA 4 (List.set (stC [.complex .f64 0 0, .complex .f64 0 0, .complex .f64 0 0, .complex .f64 0 0] 0 l121) (0 + j130 * 1) (.complex .f64 r129_2 i129)) 0 fun l135 =>
 call Try.prog 11 [.int .i64 x132, .int .i64 x19, .int .i64 x17, .agg ⟨l135⟩] H129 fun r136 H136 =>
 asB r136 fun c136 =>
 bif (!c136) then (
  F25 kb [.bool c6, .int .i64 x17, .complex .f64 r18 i18, .int .i64 x19, .int .i64 x21, .bool c22, .int .i64 x24, .int .i64 x25, .int .i64 x26, .int .i64 x27, .int .i64 x28, .int .i64 x29, .int .i64 x30, .int .i64 x103] [y15, y16, y20, y23] H136
 ) else (
  F29 kb [.bool c6, .int .i64 x17, .complex .f64 r18 i18, .int .i64 x19, .int .i64 x21, .bool c22, .int .i64 x24, .int .i64 x25, .int .i64 x26, .int .i64 x27, .int .i64 x28, .int .i64 x29, .int .i64 x30, .int .i64 x103] [y15, y16, y20, y23, (List.set (stC [.complex .f64 0 0, .complex .f64 0 0, .complex .f64 0 0, .complex .f64 0 0] 0 l121) (0 + j130 * 1) (.complex .f64 r129_2 i129))] H136
 )
def f3_26 (Q : Value → AHeap → Prop) : PT := g3_26 Q (f3_25 Q) (f3_29 Q)

def g3_22 (Q : Value → AHeap → Prop) (kb : KB) (vs : List Value) (bs : List (List Value)) (H : AHeap) : Prop :=
 inB vs fun c6 vs =>
 inI .i64 vs fun x17 vs =>
 inC vs fun r18 i18 vs =>
 inI .i64 vs fun x19 vs =>
 inI .i64 vs fun x21 vs =>
 inB vs fun c22 vs =>
 inI .i64 vs fun x24 vs =>
 inI .i64 vs fun x25 vs =>
 inI .i64 vs fun x26 vs =>
 inI .i64 vs fun x27 vs =>
 inI .i64 vs fun x28 vs =>
 inI .i64 vs fun x29 vs =>
 inI .i64 vs fun x103 vs =>
 nilK vs <|
 inX bs fun y15 bs =>
 inX bs fun y16 bs =>
 inX bs fun y20 bs =>
 inX bs fun y23 bs =>
 nilX bs <|
 kb 21 [.bool c6, .int .i64 x17, .complex .f64 r18 i18, .int .i64 x19, .int .i64 x21, .bool c22, .int .i64 x24, .int .i64 x25, .int .i64 x26, .int .i64 x27, .int .i64 x28, .int .i64 (IntKind.wrap .i64 (x29 + 1)), .int .i64 x103] [y15, y16, y20, y23] H
def f3_22 (Q : Value → AHeap → Prop) : PT := g3_22 Q

def g3_l24 (Q : Value → AHeap → Prop) (F22 F26 : PT) (kb : KB) (vs : List Value) (bs : List (List Value)) (H : AHeap) : Prop :=
 inB vs fun c6 vs =>
 inI .i64 vs fun x17 vs =>
 inC vs fun r18 i18 vs =>
 inI .i64 vs fun x19 vs =>
 inI .i64 vs fun x21 vs =>
 inB vs fun c22 vs =>
 inI .i64 vs fun x24 vs =>
 inI .i64 vs fun x25 vs =>
 inI .i64 vs fun x26 vs =>
 inI .i64 vs fun x27 vs =>
 inI .i64 vs fun x28 vs =>
 inI .i64 vs fun x29 vs =>
 inI .i64 vs fun x30 vs =>
 inI .i64 vs fun x103 vs =>
 nilK vs <|
 inX bs fun y15 bs =>
 inX bs fun y16 bs =>
 inX bs fun y20 bs =>
 inX bs fun y23 bs =>
 nilX bs <|
 bif (decide ((x30 : Int) ≤ 2)) then (
  F26 kb [.bool c6, .int .i64 x17, .complex .f64 r18 i18, .int .i64 x19, .int .i64 x21, .bool c22, .int .i64 x24, .int .i64 x25, .int .i64 x26, .int .i64 x27, .int .i64 x28, .int .i64 x29, .int .i64 x30, .int .i64 x103] [y15, y16, y20, y23] H
 ) else (
  F22 kb [.bool c6, .int .i64 x17, .complex .f64 r18 i18, .int .i64 x19, .int .i64 x21, .bool c22, .int .i64 x24, .int .i64 x25, .int .i64 x26, .int .i64 x27, .int .i64 x28, .int .i64 x29, .int .i64 x103] [y15, y16, y20, y23] H
 )
def f3_l24 (Q : Value → AHeap → Prop) : PT := g3_l24 Q (f3_22 Q) (f3_26 Q)

def g3_23 (Q : Value → AHeap → Prop) (L24 : PT) (kb : KB) (vs : List Value) (bs : List (List Value)) (H : AHeap) : Prop :=
 inB vs fun c6 vs =>
 inI .i64 vs fun x17 vs =>
 inC vs fun r18 i18 vs =>
 inI .i64 vs fun x19 vs =>
 inI .i64 vs fun x21 vs =>
 inB vs fun c22 vs =>
 inI .i64 vs fun x24 vs =>
 inI .i64 vs fun x25 vs =>
 inI .i64 vs fun x26 vs =>
 inI .i64 vs fun x27 vs =>
 inI .i64 vs fun x28 vs =>
 inI .i64 vs fun x29 vs =>
 inI .i64 vs fun x103 vs =>
 nilK vs <|
 inX bs fun y15 bs =>
 inX bs fun y16 bs =>
 inX bs fun y20 bs =>
 inX bs fun y23 bs =>
 nilX bs <|
 lpW L24 kb 24 [.bool c6, .int .i64 x17, .complex .f64 r18 i18, .int .i64 x19, .int .i64 x21, .bool c22, .int .i64 x24, .int .i64 x25, .int .i64 x26, .int .i64 x27, .int .i64 x28, .int .i64 x29, .int .i64 (-2), .int .i64 x103] [y15, y16, y20, y23] H
def f3_23 (Q : Value → AHeap → Prop) : PT := g3_23 Q (f3_l24 Q)

def g3_33 (Q : Value → AHeap → Prop) (kb : KB) (vs : List Value) (bs : List (List Value)) (H : AHeap) : Prop :=
 inB vs fun c6 vs =>
 inI .i64 vs fun x17 vs =>
 inC vs fun r18 i18 vs =>
 inI .i64 vs fun x19 vs =>
 inI .i64 vs fun x21 vs =>
 inB vs fun c22 vs =>
 inI .i64 vs fun x24 vs =>
 inI .i64 vs fun x25 vs =>
 inI .i64 vs fun x26 vs =>
 inI .i64 vs fun x103 vs =>
 nilK vs <|
 inX bs fun y15 bs =>
 inX bs fun y16 bs =>
 inX bs fun y20 bs =>
 inX bs fun y23 bs =>
 nilX bs <|
 kb 17 [.bool c6, .int .i64 x17, .complex .f64 r18 i18, .int .i64 x19, .int .i64 x21, .bool c22, .int .i64 x24, .int .i64 x25, .int .i64 x26, .int .i64 (IntKind.wrap .i64 (x103 + 1))] [y15, y16, y20, y23] H
def f3_33 (Q : Value → AHeap → Prop) : PT := g3_33 Q

def g3_32 (Q : Value → AHeap → Prop) (F33 : PT) (kb : KB) (vs : List Value) (bs : List (List Value)) (H : AHeap) : Prop :=
 inB vs fun c6 vs =>
 inI .i64 vs fun x17 vs =>
 inC vs fun r18 i18 vs =>
 inI .i64 vs fun x19 vs =>
 inI .i64 vs fun x21 vs =>
 inB vs fun c22 vs =>
 inI .i64 vs fun x24 vs =>
 inI .i64 vs fun x25 vs =>
 inI .i64 vs fun x26 vs =>
 inI .i64 vs fun x28 vs =>
 inI .i64 vs fun x103 vs =>
 nilK vs <|
 inX bs fun y15 bs =>
 inX bs fun y16 bs =>
 inX bs fun y20 bs =>
 inX bs fun y23 bs =>
 nilX bs <|
 F33 kb [.bool c6, .int .i64 x17, .complex .f64 r18 i18, .int .i64 x19, .int .i64 x21, .bool c22, .int .i64 (IntKind.wrap .i64 (x24 + x28)), .int .i64 x25, .int .i64 x26, .int .i64 x103] [y15, y16, y20, y23] H
def f3_32 (Q : Value → AHeap → Prop) : PT := g3_32 Q (f3_33 Q)

def g3_l21 (Q : Value → AHeap → Prop) (F23 F32 : PT) (kb : KB) (vs : List Value) (bs : List (List Value)) (H : AHeap) : Prop :=
 inB vs fun c6 vs =>
 inI .i64 vs fun x17 vs =>
 inC vs fun r18 i18 vs =>
 inI .i64 vs fun x19 vs =>
 inI .i64 vs fun x21 vs =>
 inB vs fun c22 vs =>
 inI .i64 vs fun x24 vs =>
 inI .i64 vs fun x25 vs =>
 inI .i64 vs fun x26 vs =>
 inI .i64 vs fun x27 vs =>
 inI .i64 vs fun x28 vs =>
 inI .i64 vs fun x29 vs =>
 inI .i64 vs fun x103 vs =>
 nilK vs <|
 inX bs fun y15 bs =>
 inX bs fun y16 bs =>
 inX bs fun y20 bs =>
 inX bs fun y23 bs =>
 nilX bs <|
 bif (decide ((x29 : Int) ≤ 2)) then (
  F23 kb [.bool c6, .int .i64 x17, .complex .f64 r18 i18, .int .i64 x19, .int .i64 x21, .bool c22, .int .i64 x24, .int .i64 x25, .int .i64 x26, .int .i64 x27, .int .i64 x28, .int .i64 x29, .int .i64 x103] [y15, y16, y20, y23] H
 ) else (
  F32 kb [.bool c6, .int .i64 x17, .complex .f64 r18 i18, .int .i64 x19, .int .i64 x21, .bool c22, .int .i64 x24, .int .i64 x25, .int .i64 x26, .int .i64 x28, .int .i64 x103] [y15, y16, y20, y23] H
 )
def f3_l21 (Q : Value → AHeap → Prop) : PT := g3_l21 Q (f3_23 Q) (f3_32 Q)

def g3_18 (Q : Value → AHeap → Prop) (L21 : PT) (kb : KB) (vs : List Value) (bs : List (List Value)) (H : AHeap) : Prop :=
 inB vs fun c6 vs =>
 inI .i64 vs fun x17 vs =>
 inC vs fun r18 i18 vs =>
 inI .i64 vs fun x19 vs =>
 inI .i64 vs fun x21 vs =>
 inB vs fun c22 vs =>
 inI .i64 vs fun x24 vs =>
 inI .i64 vs fun x25 vs =>
 inI .i64 vs fun x26 vs =>
 inI .i64 vs fun x103 vs =>
 nilK vs <|
 inX bs fun y15 bs =>
 inX bs fun y16 bs =>
 inX bs fun y20 bs =>
 inX bs fun y23 bs =>
 nilX bs <|
 rA 11 y15 0 fun l106 =>
 rA 11 y16 0 fun l107 =>
 call Try.prog 13 [.agg ⟨l106⟩, .agg ⟨l107⟩, .int .i64 x17, .int .i64 x103, .complex .f64 r18 i18, .bool c6] H fun r112 H112 =>
 asI .i64 r112 fun x112 =>
 lpW L21 kb 21 [.bool c6, .int .i64 x17, .complex .f64 r18 i18, .int .i64 x19, .int .i64 x21, .bool c22, .int .i64 x24, .int .i64 x25, .int .i64 x26, .int .i64 x103, .int .i64 x112, .int .i64 (-2), .int .i64 x103] [y15, y16, y20, y23] H112
def f3_18 (Q : Value → AHeap → Prop) : PT := g3_18 Q (f3_l21 Q)

def g3_34 (Q : Value → AHeap → Prop) (kb : KB) (vs : List Value) (bs : List (List Value)) (H : AHeap) : Prop :=
 inI .i64 vs fun x21 vs =>
 inB vs fun c22 vs =>
 inI .i64 vs fun x24 vs =>
 nilK vs <|
 inX bs fun y20 bs =>
 inX bs fun y23 bs =>
 nilX bs <|
 bif c22 then (
  rA 4 y20 0 fun l158 =>
  rA 4 y23 0 fun l159 =>
  eqA Try.prog .eql 37 (.tmp 158) (.tmp 159) l158 l159 fun c160 =>
  bif c160 then (
   Q (.bool ((x21 : Int) == x24)) H
  ) else (
   Q (.bool false) H
  )
 ) else (
  Q (.bool false) H
 )
def f3_34 (Q : Value → AHeap → Prop) : PT := g3_34 Q

def g3_l17 (Q : Value → AHeap → Prop) (F18 F34 : PT) (kb : KB) (vs : List Value) (bs : List (List Value)) (H : AHeap) : Prop :=
 inB vs fun c6 vs =>
 inI .i64 vs fun x17 vs =>
 inC vs fun r18 i18 vs =>
 inI .i64 vs fun x19 vs =>
 inI .i64 vs fun x21 vs =>
 inB vs fun c22 vs =>
 inI .i64 vs fun x24 vs =>
 inI .i64 vs fun x25 vs =>
 inI .i64 vs fun x26 vs =>
 inI .i64 vs fun x103 vs =>
 nilK vs <|
 inX bs fun y15 bs =>
 inX bs fun y16 bs =>
 inX bs fun y20 bs =>
 inX bs fun y23 bs =>
 nilX bs <|
 bif (decide ((x103 : Int) < 4)) then (
  F18 kb [.bool c6, .int .i64 x17, .complex .f64 r18 i18, .int .i64 x19, .int .i64 x21, .bool c22, .int .i64 x24, .int .i64 x25, .int .i64 x26, .int .i64 x103] [y15, y16, y20, y23] H
 ) else (
  F34 kb [.int .i64 x21, .bool c22, .int .i64 x24] [y20, y23] H
 )
def f3_l17 (Q : Value → AHeap → Prop) : PT := g3_l17 Q (f3_18 Q) (f3_34 Q)

def g3_14 (Q : Value → AHeap → Prop) (L17 : PT) (kb : KB) (vs : List Value) (bs : List (List Value)) (H : AHeap) : Prop :=
 inB vs fun c6 vs =>
 inI .i64 vs fun x17 vs =>
 inC vs fun r18 i18 vs =>
 inI .i64 vs fun x19 vs =>
 inI .i64 vs fun x21 vs =>
 inB vs fun c22 vs =>
 nilK vs <|
 inX bs fun y15 bs =>
 inX bs fun y16 bs =>
 inX bs fun y20 bs =>
 inX bs fun y23 bs =>
 nilX bs <|
 call Try.prog 12 [.complex .f64 r18 i18] H fun r100 H100 =>
 tupK r100 fun l =>
 inI .i64 l fun x100a l_2 =>
 inI .i64 l_2 fun x100b l_3 =>
 nilK l_3 <|
 lpW L17 kb 17 [.bool c6, .int .i64 x17, .complex .f64 r18 i18, .int .i64 x19, .int .i64 x21, .bool c22, .int .i64 0, .int .i64 x100a, .int .i64 x100b, .int .i64 0] [y15, y16, y20, y23] H100
def f3_14 (Q : Value → AHeap → Prop) : PT := g3_14 Q (f3_l17 Q)

def g3_5 (Q : Value → AHeap → Prop) (F14 : PT) (kb : KB) (vs : List Value) (bs : List (List Value)) (H : AHeap) : Prop :=
 inI .u8 vs fun x2 vs =>
 inI .i8 vs fun x3 vs =>
 inI .i8 vs fun x4 vs =>
 inI .u8 vs fun x5 vs =>
 inB vs fun c6 vs =>
 nilK vs <|
 inX bs fun y7 bs =>
 inX bs fun y8 bs =>
 nilX bs <|
 rA 8 y7 0 fun l43 =>
 call Try.prog 6 [.agg ⟨l43⟩] H fun r44 H44 =>
 asA 11 r44 fun l44 =>
 gd (l44.length = 11 ∧ 0 + 11 ≤ List.length (α := Value) [.int .i64 0, .int .i64 0, .int .i64 0, .int .i64 0, .slice none 0 0, .int .i64 0, .int .i64 0, .slice none 0 0, .int .i64 0, .int .i64 0, .slice none 0 0]) <|
 rA 8 y8 0 fun l45 =>
 rI .i64 (stC [.int .i64 0, .int .i64 0, .int .i64 0, .int .i64 0, .slice none 0 0, .int .i64 0, .int .i64 0, .slice none 0 0, .int .i64 0, .int .i64 0, .slice none 0 0] 0 l44) 0 fun x47 =>
 rI .i64 (stC [.int .i64 0, .int .i64 0, .int .i64 0, .int .i64 0, .slice none 0 0, .int .i64 0, .int .i64 0, .slice none 0 0, .int .i64 0, .int .i64 0, .slice none 0 0] 0 l44) 1 fun x49 =>
 call Try.prog 7 [.agg ⟨l45⟩, .int .i64 x47, .int .i64 x49] H44 fun r50 H50 =>
 asA 11 r50 fun l50 =>
 gd (l50.length = 11 ∧ 0 + 11 ≤ List.length (α := Value) [.int .i64 0, .int .i64 0, .int .i64 0, .int .i64 0, .slice none 0 0, .int .i64 0, .int .i64 0, .slice none 0 0, .int .i64 0, .int .i64 0, .slice none 0 0]) <|
 rI .i64 (stC [.int .i64 0, .int .i64 0, .int .i64 0, .int .i64 0, .slice none 0 0, .int .i64 0, .int .i64 0, .slice none 0 0, .int .i64 0, .int .i64 0, .slice none 0 0] 0 l44) 0 fun x54 =>
 rI .i64 (stC [.int .i64 0, .int .i64 0, .int .i64 0, .int .i64 0, .slice none 0 0, .int .i64 0, .int .i64 0, .slice none 0 0, .int .i64 0, .int .i64 0, .slice none 0 0] 0 l44) 1 fun x56 =>
 nz (IntKind.wrap .i64 (x54 * x56)) <|
 call Try.prog 8 [.int .i8 x3, .int .i8 x4] H50 fun r61 H61 =>
 asC r61 fun r61_2 i61 =>
 rA 11 (stC [.int .i64 0, .int .i64 0, .int .i64 0, .int .i64 0, .slice none 0 0, .int .i64 0, .int .i64 0, .slice none 0 0, .int .i64 0, .int .i64 0, .slice none 0 0] 0 l44) 0 fun l69 =>
 rA 11 (stC [.int .i64 0, .int .i64 0, .int .i64 0, .int .i64 0, .slice none 0 0, .int .i64 0, .int .i64 0, .slice none 0 0, .int .i64 0, .int .i64 0, .slice none 0 0] 0 l50) 0 fun l70 =>
 call Try.prog 9 [.agg ⟨[.int .i64 0, .int .i64 (IntKind.wrap .i64 ((IntKind.wrap .i64 (x5.tmod 5)) * 12))]⟩, .agg ⟨l69⟩, .agg ⟨l70⟩, .int .i64 ((IntKind.wrap .i64 x2).tmod (IntKind.wrap .i64 (x54 * x56))), .complex .f64 r61_2 i61, .bool c6] H61 fun r74 H74 =>
 tupK r74 fun l =>
 inA 4 l fun l74a l_2 =>
 inI .i64 l_2 fun x74b l_3 =>
 inB l_3 fun c74c l_4 =>
 nilK l_4 <|
 gd (l74a.length = 4 ∧ 0 + 4 ≤ List.length (α := Value) [.complex .f64 0 0, .complex .f64 0 0, .complex .f64 0 0, .complex .f64 0 0]) <|
 call Try.prog 10 [.complex .f64 r61_2 i61] H74 fun r79 H79 =>
 asA 4 r79 fun l79 =>
 gd (l79.length = 4 ∧ 0 + 4 ≤ List.length (α := Value) [.complex .f64 0 0, .complex .f64 0 0, .complex .f64 0 0, .complex .f64 0 0]) <|
 rI .i64 (stC [.int .i64 0, .int .i64 0, .int .i64 0, .int .i64 0, .slice none 0 0, .int .i64 0, .int .i64 0, .slice none 0 0, .int .i64 0, .int .i64 0, .slice none 0 0] 0 l44) 0 fun x81 =>
 rA 4 (stC [.complex .f64 0 0, .complex .f64 0 0, .complex .f64 0 0, .complex .f64 0 0] 0 l79) 0 fun l84 =>
 call Try.prog 11 [.int .i64 x81, .int .i64 (IntKind.wrap .i64 ((IntKind.wrap .i64 (x5.tmod 5)) * 12)), .int .i64 ((IntKind.wrap .i64 x2).tmod (IntKind.wrap .i64 (x54 * x56))), .agg ⟨l84⟩] H79 fun r85 H85 =>
 asB r85 fun c85 =>
 bif (!c85) then (
  bif (!c74c) then (
   rA 4 (stC [.complex .f64 0 0, .complex .f64 0 0, .complex .f64 0 0, .complex .f64 0 0] 0 l74a) 0 fun l90 =>
   eqA Try.prog .eql 37 (.tmp 90) (.tmp 91) l90 [.complex .f64 0 0, .complex .f64 0 0, .complex .f64 0 0, .complex .f64 0 0] fun c92 =>
   bif c92 then (
    Q (.bool ((x74b : Int) == 0)) H85
   ) else (
    Q (.bool false) H85
   )
  ) else (
   Q (.bool false) H85
  )
 ) else (
  F14 kb [.bool c6, .int .i64 ((IntKind.wrap .i64 x2).tmod (IntKind.wrap .i64 (x54 * x56))), .complex .f64 r61_2 i61, .int .i64 (IntKind.wrap .i64 ((IntKind.wrap .i64 (x5.tmod 5)) * 12)), .int .i64 x74b, .bool c74c] [(stC [.int .i64 0, .int .i64 0, .int .i64 0, .int .i64 0, .slice none 0 0, .int .i64 0, .int .i64 0, .slice none 0 0, .int .i64 0, .int .i64 0, .slice none 0 0] 0 l44), (stC [.int .i64 0, .int .i64 0, .int .i64 0, .int .i64 0, .slice none 0 0, .int .i64 0, .int .i64 0, .slice none 0 0, .int .i64 0, .int .i64 0, .slice none 0 0] 0 l50), (stC [.complex .f64 0 0, .complex .f64 0 0, .complex .f64 0 0, .complex .f64 0 0] 0 l74a), (stC [.complex .f64 0 0, .complex .f64 0 0, .complex .f64 0 0, .complex .f64 0 0] 0 l79)] H85
 )
def f3_5 (Q : Value → AHeap → Prop) : PT := g3_5 Q (f3_14 Q)

def g3_3 (Q : Value → AHeap → Prop) (F5 : PT) (kb : KB) (vs : List Value) (bs : List (List Value)) (H : AHeap) : Prop :=
 inI .u8 vs fun x2 vs =>
 inI .i8 vs fun x3 vs =>
 inI .i8 vs fun x4 vs =>
 inI .u8 vs fun x5 vs =>
 inB vs fun c6 vs =>
 nilK vs <|
 inX bs fun y7 bs =>
 inX bs fun y8 bs =>
 nilX bs <|
 rA 8 y7 0 fun l35 =>
 call Try.prog 5 [.agg ⟨l35⟩] H fun r36 H36 =>
 asB r36 fun c36 =>
 bif (!c36) then (
  Q (.bool true) H36
 ) else (
  rA 8 y8 0 fun l39 =>
  call Try.prog 5 [.agg ⟨l39⟩] H36 fun r40 H40 =>
  asB r40 fun c40 =>
  bif (!c40) then (
   Q (.bool true) H40
  ) else (
   F5 kb [.int .u8 x2, .int .i8 x3, .int .i8 x4, .int .u8 x5, .bool c6] [y7, y8] H40
  )
 )
def f3_3 (Q : Value → AHeap → Prop) : PT := g3_3 Q (f3_5 Q)

/-- kinescope/kinescopelaw28.SearchQuarters -/
def g3 (Q : Value → AHeap → Prop) (F3 : PT) (vs : List Value) (H : AHeap) : Prop :=
 inA 8 vs fun l0 vs =>
 inA 8 vs fun l1 vs =>
 inI .u8 vs fun x2 vs =>
 inI .i8 vs fun x3 vs =>
 inI .i8 vs fun x4 vs =>
 inI .u8 vs fun x5 vs =>
 inB vs fun c6 vs =>
 nilK vs <|
 gd (l0.length = 8) <|
 gd (l1.length = 8) <|
 call Try.prog 4 [] H fun r33 H33 =>
 asB r33 fun c33 =>
 bif (!c33) then (
  Q (.bool false) H33
 ) else (
  F3 kb0 [.int .u8 x2, .int .i8 x3, .int .i8 x4, .int .u8 x5, .bool c6] [l0, l1] H33
 )
def f3 (vs : List Value) (H : AHeap) (Q : Value → AHeap → Prop) : Prop := g3 Q (f3_3 Q) vs H

noncomputable def x3 (Q : Value → AHeap → Prop) (F25 F29 F26 F22 F23 F33 F32 F18 F34 F14 F5 F3 L24 L21 L17 : PT) : Pc := pc Try.prog 167 [(7, 7), (8, 8), (15, 15), (16, 16), (20, 20), (23, 23), (31, 31), (46, 15), (48, 15), (53, 15), (55, 15), (80, 15), (130, 31), (131, 15), (143, 31)]
  [(25, ⟨[6, 17, 18, 19, 21, 22, 24, 25, 26, 27, 28, 29, 30, 103], [(15, 15), (16, 16), (20, 20), (23, 23)], [15, 16, 20, 23]⟩), (29, ⟨[6, 17, 18, 19, 21, 22, 24, 25, 26, 27, 28, 29, 30, 103], [(15, 15), (16, 16), (20, 20), (23, 23), (31, 31)], [15, 16, 20, 23, 31]⟩), (26, ⟨[6, 17, 18, 19, 21, 22, 24, 25, 26, 27, 28, 29, 30, 103], [(15, 15), (16, 16), (20, 20), (23, 23)], [15, 16, 20, 23]⟩), (22, ⟨[6, 17, 18, 19, 21, 22, 24, 25, 26, 27, 28, 29, 103], [(15, 15), (16, 16), (20, 20), (23, 23)], [15, 16, 20, 23]⟩), (23, ⟨[6, 17, 18, 19, 21, 22, 24, 25, 26, 27, 28, 29, 103], [(15, 15), (16, 16), (20, 20), (23, 23)], [15, 16, 20, 23]⟩), (33, ⟨[6, 17, 18, 19, 21, 22, 24, 25, 26, 103], [(15, 15), (16, 16), (20, 20), (23, 23)], [15, 16, 20, 23]⟩), (32, ⟨[6, 17, 18, 19, 21, 22, 24, 25, 26, 28, 103], [(15, 15), (16, 16), (20, 20), (23, 23)], [15, 16, 20, 23]⟩), (18, ⟨[6, 17, 18, 19, 21, 22, 24, 25, 26, 103], [(15, 15), (16, 16), (20, 20), (23, 23)], [15, 16, 20, 23]⟩), (34, ⟨[21, 22, 24], [(20, 20), (23, 23)], [20, 23]⟩), (14, ⟨[6, 17, 18, 19, 21, 22], [(15, 15), (16, 16), (20, 20), (23, 23)], [15, 16, 20, 23]⟩), (5, ⟨[2, 3, 4, 5, 6], [(7, 7), (8, 8)], [7, 8]⟩), (3, ⟨[2, 3, 4, 5, 6], [(7, 7), (8, 8)], [7, 8]⟩)]
  [(24, ⟨[6, 17, 18, 19, 21, 22, 24, 25, 26, 27, 28, 29, 30, 103], [(15, 15), (16, 16), (20, 20), (23, 23)], [15, 16, 20, 23]⟩), (21, ⟨[6, 17, 18, 19, 21, 22, 24, 25, 26, 27, 28, 29, 103], [(15, 15), (16, 16), (20, 20), (23, 23)], [15, 16, 20, 23]⟩), (17, ⟨[6, 17, 18, 19, 21, 22, 24, 25, 26, 103], [(15, 15), (16, 16), (20, 20), (23, 23)], [15, 16, 20, 23]⟩)]
  [(29, [(0, []), (1, []), (2, []), (3, []), (4, []), (5, []), (6, []), (7, []), (8, []), (9, [])]), (31, [(0, []), (1, []), (2, []), (3, [])])]
  (shOf [(25, F25), (29, F29), (26, F26), (22, F22), (23, F23), (33, F33), (32, F32), (18, F18), (34, F34), (14, F14), (5, F5), (3, F3)])
  (shOf [(24, L24), (21, L21), (17, L17)])
  [.tmp 14] Q
theorem o3_0 (Q : Value → AHeap → Prop) (F25 F29 F26 F22 F23 F33 F32 F18 F34 F14 F5 L24 L21 L17 : PT) : cutOK (x3 Q F25 F29 F26 F22 F23 F33 F32 F18 F34 F14 F5 (g3_3 Q F5) L24 L21 L17) (cutAt (bodyOf Try.f3) 0) := by
  refine cutOK_of (F := g3_3 Q F5) (by kernel_rfl) ?_
  intro kb vs bs H h
  obtain ⟨_, _, rfl, h1⟩ := deI h
  obtain ⟨_, _, rfl, h2⟩ := deI h1
  obtain ⟨_, _, rfl, h3⟩ := deI h2
  obtain ⟨_, _, rfl, h4⟩ := deI h3
  obtain ⟨_, _, rfl, h5⟩ := deB h4
  obtain ⟨rfl, g⟩ := deN h5
  obtain ⟨_, _, rfl, g1⟩ := deX g
  obtain ⟨_, _, rfl, g2⟩ := deX g1
  obtain ⟨rfl, k⟩ := deNX g2
  exact Eq.mp (by kernel_rfl) k
theorem o3_1 (Q : Value → AHeap → Prop) (F25 F29 F26 F22 F23 F33 F32 F18 F34 F14 F3 L24 L21 L17 : PT) : cutOK (x3 Q F25 F29 F26 F22 F23 F33 F32 F18 F34 F14 (g3_5 Q F14) F3 L24 L21 L17) (cutAt (bodyOf Try.f3) 1) := by
  refine cutOK_of (F := g3_5 Q F14) (by kernel_rfl) ?_
  intro kb vs bs H h
  obtain ⟨_, _, rfl, h1⟩ := deI h
  obtain ⟨_, _, rfl, h2⟩ := deI h1
  obtain ⟨_, _, rfl, h3⟩ := deI h2
  obtain ⟨_, _, rfl, h4⟩ := deI h3
  obtain ⟨_, _, rfl, h5⟩ := deB h4
  obtain ⟨rfl, g⟩ := deN h5
  obtain ⟨_, _, rfl, g1⟩ := deX g
  obtain ⟨_, _, rfl, g2⟩ := deX g1
  obtain ⟨rfl, k⟩ := deNX g2
  exact Eq.mp (by kernel_rfl) k
theorem o3_2 (Q : Value → AHeap → Prop) (F25 F29 F26 F22 F23 F33 F32 F18 F34 F5 F3 L24 L21 L17 : PT) : cutOK (x3 Q F25 F29 F26 F22 F23 F33 F32 F18 F34 (g3_14 Q L17) F5 F3 L24 L21 L17) (cutAt (bodyOf Try.f3) 2) := by
  refine cutOK_of (F := g3_14 Q L17) (by kernel_rfl) ?_
  intro kb vs bs H h
  obtain ⟨_, _, rfl, h1⟩ := deB h
  obtain ⟨_, _, rfl, h2⟩ := deI h1
  obtain ⟨_, _, _, rfl, h3⟩ := deC h2
  obtain ⟨_, _, rfl, h4⟩ := deI h3
  obtain ⟨_, _, rfl, h5⟩ := deI h4
  obtain ⟨_, _, rfl, h6⟩ := deB h5
  obtain ⟨rfl, g⟩ := deN h6
  obtain ⟨_, _, rfl, g1⟩ := deX g
  obtain ⟨_, _, rfl, g2⟩ := deX g1
  obtain ⟨_, _, rfl, g3⟩ := deX g2
  obtain ⟨_, _, rfl, g4⟩ := deX g3
  obtain ⟨rfl, k⟩ := deNX g4
  exact Eq.mp (by kernel_rfl) k
theorem o3_3 (Q : Value → AHeap → Prop) (F25 F29 F26 F22 F23 F33 F32 F18 F14 F5 F3 L24 L21 L17 : PT) : cutOK (x3 Q F25 F29 F26 F22 F23 F33 F32 F18 (g3_34 Q) F14 F5 F3 L24 L21 L17) (cutAt (bodyOf Try.f3) 3) := by
  refine cutOK_of (F := g3_34 Q) (by kernel_rfl) ?_
  intro kb vs bs H h
  obtain ⟨_, _, rfl, h1⟩ := deI h
  obtain ⟨_, _, rfl, h2⟩ := deB h1
  obtain ⟨_, _, rfl, h3⟩ := deI h2
  obtain ⟨rfl, g⟩ := deN h3
  obtain ⟨_, _, rfl, g1⟩ := deX g
  obtain ⟨_, _, rfl, g2⟩ := deX g1
  obtain ⟨rfl, k⟩ := deNX g2
  exact Eq.mp (by kernel_rfl) k
theorem o3_4 (Q : Value → AHeap → Prop) (F25 F29 F26 F22 F23 F33 F32 F18 F34 F14 F5 F3 L24 L21 : PT) : cutOK (x3 Q F25 F29 F26 F22 F23 F33 F32 F18 F34 F14 F5 F3 L24 L21 (g3_l17 Q F18 F34)) (cutAt (bodyOf Try.f3) 4) := by
  refine cutOK_of (F := g3_l17 Q F18 F34) (by kernel_rfl) ?_
  intro kb vs bs H h
  obtain ⟨_, _, rfl, h1⟩ := deB h
  obtain ⟨_, _, rfl, h2⟩ := deI h1
  obtain ⟨_, _, _, rfl, h3⟩ := deC h2
  obtain ⟨_, _, rfl, h4⟩ := deI h3
  obtain ⟨_, _, rfl, h5⟩ := deI h4
  obtain ⟨_, _, rfl, h6⟩ := deB h5
  obtain ⟨_, _, rfl, h7⟩ := deI h6
  obtain ⟨_, _, rfl, h8⟩ := deI h7
  obtain ⟨_, _, rfl, h9⟩ := deI h8
  obtain ⟨_, _, rfl, h10⟩ := deI h9
  obtain ⟨rfl, g⟩ := deN h10
  obtain ⟨_, _, rfl, g1⟩ := deX g
  obtain ⟨_, _, rfl, g2⟩ := deX g1
  obtain ⟨_, _, rfl, g3⟩ := deX g2
  obtain ⟨_, _, rfl, g4⟩ := deX g3
  obtain ⟨rfl, k⟩ := deNX g4
  exact Eq.mp (by kernel_rfl) k
theorem o3_5 (Q : Value → AHeap → Prop) (F25 F29 F26 F22 F23 F33 F32 F34 F14 F5 F3 L24 L21 L17 : PT) : cutOK (x3 Q F25 F29 F26 F22 F23 F33 F32 (g3_18 Q L21) F34 F14 F5 F3 L24 L21 L17) (cutAt (bodyOf Try.f3) 5) := by
  refine cutOK_of (F := g3_18 Q L21) (by kernel_rfl) ?_
  intro kb vs bs H h
  obtain ⟨_, _, rfl, h1⟩ := deB h
  obtain ⟨_, _, rfl, h2⟩ := deI h1
  obtain ⟨_, _, _, rfl, h3⟩ := deC h2
  obtain ⟨_, _, rfl, h4⟩ := deI h3
  obtain ⟨_, _, rfl, h5⟩ := deI h4
  obtain ⟨_, _, rfl, h6⟩ := deB h5
  obtain ⟨_, _, rfl, h7⟩ := deI h6
  obtain ⟨_, _, rfl, h8⟩ := deI h7
  obtain ⟨_, _, rfl, h9⟩ := deI h8
  obtain ⟨_, _, rfl, h10⟩ := deI h9
  obtain ⟨rfl, g⟩ := deN h10
  obtain ⟨_, _, rfl, g1⟩ := deX g
  obtain ⟨_, _, rfl, g2⟩ := deX g1
  obtain ⟨_, _, rfl, g3⟩ := deX g2
  obtain ⟨_, _, rfl, g4⟩ := deX g3
  obtain ⟨rfl, k⟩ := deNX g4
  exact Eq.mp (by kernel_rfl) k
theorem o3_6 (Q : Value → AHeap → Prop) (F25 F29 F26 F22 F23 F32 F18 F34 F14 F5 F3 L24 L21 L17 : PT) : cutOK (x3 Q F25 F29 F26 F22 F23 (g3_33 Q) F32 F18 F34 F14 F5 F3 L24 L21 L17) (cutAt (bodyOf Try.f3) 6) := by
  refine cutOK_of (F := g3_33 Q) (by kernel_rfl) ?_
  intro kb vs bs H h
  obtain ⟨_, _, rfl, h1⟩ := deB h
  obtain ⟨_, _, rfl, h2⟩ := deI h1
  obtain ⟨_, _, _, rfl, h3⟩ := deC h2
  obtain ⟨_, _, rfl, h4⟩ := deI h3
  obtain ⟨_, _, rfl, h5⟩ := deI h4
  obtain ⟨_, _, rfl, h6⟩ := deB h5
  obtain ⟨_, _, rfl, h7⟩ := deI h6
  obtain ⟨_, _, rfl, h8⟩ := deI h7
  obtain ⟨_, _, rfl, h9⟩ := deI h8
  obtain ⟨_, _, rfl, h10⟩ := deI h9
  obtain ⟨rfl, g⟩ := deN h10
  obtain ⟨_, _, rfl, g1⟩ := deX g
  obtain ⟨_, _, rfl, g2⟩ := deX g1
  obtain ⟨_, _, rfl, g3⟩ := deX g2
  obtain ⟨_, _, rfl, g4⟩ := deX g3
  obtain ⟨rfl, k⟩ := deNX g4
  exact Eq.mp (by kernel_rfl) k
theorem o3_7 (Q : Value → AHeap → Prop) (F25 F29 F26 F22 F23 F33 F18 F34 F14 F5 F3 L24 L21 L17 : PT) : cutOK (x3 Q F25 F29 F26 F22 F23 F33 (g3_32 Q F33) F18 F34 F14 F5 F3 L24 L21 L17) (cutAt (bodyOf Try.f3) 7) := by
  refine cutOK_of (F := g3_32 Q F33) (by kernel_rfl) ?_
  intro kb vs bs H h
  obtain ⟨_, _, rfl, h1⟩ := deB h
  obtain ⟨_, _, rfl, h2⟩ := deI h1
  obtain ⟨_, _, _, rfl, h3⟩ := deC h2
  obtain ⟨_, _, rfl, h4⟩ := deI h3
  obtain ⟨_, _, rfl, h5⟩ := deI h4
  obtain ⟨_, _, rfl, h6⟩ := deB h5
  obtain ⟨_, _, rfl, h7⟩ := deI h6
  obtain ⟨_, _, rfl, h8⟩ := deI h7
  obtain ⟨_, _, rfl, h9⟩ := deI h8
  obtain ⟨_, _, rfl, h10⟩ := deI h9
  obtain ⟨_, _, rfl, h11⟩ := deI h10
  obtain ⟨rfl, g⟩ := deN h11
  obtain ⟨_, _, rfl, g1⟩ := deX g
  obtain ⟨_, _, rfl, g2⟩ := deX g1
  obtain ⟨_, _, rfl, g3⟩ := deX g2
  obtain ⟨_, _, rfl, g4⟩ := deX g3
  obtain ⟨rfl, k⟩ := deNX g4
  exact Eq.mp (by kernel_rfl) k
theorem o3_8 (Q : Value → AHeap → Prop) (F25 F29 F26 F22 F23 F33 F32 F18 F34 F14 F5 F3 L24 L17 : PT) : cutOK (x3 Q F25 F29 F26 F22 F23 F33 F32 F18 F34 F14 F5 F3 L24 (g3_l21 Q F23 F32) L17) (cutAt (bodyOf Try.f3) 8) := by
  refine cutOK_of (F := g3_l21 Q F23 F32) (by kernel_rfl) ?_
  intro kb vs bs H h
  obtain ⟨_, _, rfl, h1⟩ := deB h
  obtain ⟨_, _, rfl, h2⟩ := deI h1
  obtain ⟨_, _, _, rfl, h3⟩ := deC h2
  obtain ⟨_, _, rfl, h4⟩ := deI h3
  obtain ⟨_, _, rfl, h5⟩ := deI h4
  obtain ⟨_, _, rfl, h6⟩ := deB h5
  obtain ⟨_, _, rfl, h7⟩ := deI h6
  obtain ⟨_, _, rfl, h8⟩ := deI h7
  obtain ⟨_, _, rfl, h9⟩ := deI h8
  obtain ⟨_, _, rfl, h10⟩ := deI h9
  obtain ⟨_, _, rfl, h11⟩ := deI h10
  obtain ⟨_, _, rfl, h12⟩ := deI h11
  obtain ⟨_, _, rfl, h13⟩ := deI h12
  obtain ⟨rfl, g⟩ := deN h13
  obtain ⟨_, _, rfl, g1⟩ := deX g
  obtain ⟨_, _, rfl, g2⟩ := deX g1
  obtain ⟨_, _, rfl, g3⟩ := deX g2
  obtain ⟨_, _, rfl, g4⟩ := deX g3
  obtain ⟨rfl, k⟩ := deNX g4
  exact Eq.mp (by kernel_rfl) k
theorem o3_9 (Q : Value → AHeap → Prop) (F25 F29 F26 F22 F33 F32 F18 F34 F14 F5 F3 L24 L21 L17 : PT) : cutOK (x3 Q F25 F29 F26 F22 (g3_23 Q L24) F33 F32 F18 F34 F14 F5 F3 L24 L21 L17) (cutAt (bodyOf Try.f3) 9) := by
  refine cutOK_of (F := g3_23 Q L24) (by kernel_rfl) ?_
  intro kb vs bs H h
  obtain ⟨_, _, rfl, h1⟩ := deB h
  obtain ⟨_, _, rfl, h2⟩ := deI h1
  obtain ⟨_, _, _, rfl, h3⟩ := deC h2
  obtain ⟨_, _, rfl, h4⟩ := deI h3
  obtain ⟨_, _, rfl, h5⟩ := deI h4
  obtain ⟨_, _, rfl, h6⟩ := deB h5
  obtain ⟨_, _, rfl, h7⟩ := deI h6
  obtain ⟨_, _, rfl, h8⟩ := deI h7
  obtain ⟨_, _, rfl, h9⟩ := deI h8
  obtain ⟨_, _, rfl, h10⟩ := deI h9
  obtain ⟨_, _, rfl, h11⟩ := deI h10
  obtain ⟨_, _, rfl, h12⟩ := deI h11
  obtain ⟨_, _, rfl, h13⟩ := deI h12
  obtain ⟨rfl, g⟩ := deN h13
  obtain ⟨_, _, rfl, g1⟩ := deX g
  obtain ⟨_, _, rfl, g2⟩ := deX g1
  obtain ⟨_, _, rfl, g3⟩ := deX g2
  obtain ⟨_, _, rfl, g4⟩ := deX g3
  obtain ⟨rfl, k⟩ := deNX g4
  exact Eq.mp (by kernel_rfl) k
theorem o3_10 (Q : Value → AHeap → Prop) (F25 F29 F26 F23 F33 F32 F18 F34 F14 F5 F3 L24 L21 L17 : PT) : cutOK (x3 Q F25 F29 F26 (g3_22 Q) F23 F33 F32 F18 F34 F14 F5 F3 L24 L21 L17) (cutAt (bodyOf Try.f3) 10) := by
  refine cutOK_of (F := g3_22 Q) (by kernel_rfl) ?_
  intro kb vs bs H h
  obtain ⟨_, _, rfl, h1⟩ := deB h
  obtain ⟨_, _, rfl, h2⟩ := deI h1
  obtain ⟨_, _, _, rfl, h3⟩ := deC h2
  obtain ⟨_, _, rfl, h4⟩ := deI h3
  obtain ⟨_, _, rfl, h5⟩ := deI h4
  obtain ⟨_, _, rfl, h6⟩ := deB h5
  obtain ⟨_, _, rfl, h7⟩ := deI h6
  obtain ⟨_, _, rfl, h8⟩ := deI h7
  obtain ⟨_, _, rfl, h9⟩ := deI h8
  obtain ⟨_, _, rfl, h10⟩ := deI h9
  obtain ⟨_, _, rfl, h11⟩ := deI h10
  obtain ⟨_, _, rfl, h12⟩ := deI h11
  obtain ⟨_, _, rfl, h13⟩ := deI h12
  obtain ⟨rfl, g⟩ := deN h13
  obtain ⟨_, _, rfl, g1⟩ := deX g
  obtain ⟨_, _, rfl, g2⟩ := deX g1
  obtain ⟨_, _, rfl, g3⟩ := deX g2
  obtain ⟨_, _, rfl, g4⟩ := deX g3
  obtain ⟨rfl, k⟩ := deNX g4
  exact Eq.mp (by kernel_rfl) k
theorem o3_11 (Q : Value → AHeap → Prop) (F25 F29 F26 F22 F23 F33 F32 F18 F34 F14 F5 F3 L21 L17 : PT) : cutOK (x3 Q F25 F29 F26 F22 F23 F33 F32 F18 F34 F14 F5 F3 (g3_l24 Q F22 F26) L21 L17) (cutAt (bodyOf Try.f3) 11) := by
  refine cutOK_of (F := g3_l24 Q F22 F26) (by kernel_rfl) ?_
  intro kb vs bs H h
  obtain ⟨_, _, rfl, h1⟩ := deB h
  obtain ⟨_, _, rfl, h2⟩ := deI h1
  obtain ⟨_, _, _, rfl, h3⟩ := deC h2
  obtain ⟨_, _, rfl, h4⟩ := deI h3
  obtain ⟨_, _, rfl, h5⟩ := deI h4
  obtain ⟨_, _, rfl, h6⟩ := deB h5
  obtain ⟨_, _, rfl, h7⟩ := deI h6
  obtain ⟨_, _, rfl, h8⟩ := deI h7
  obtain ⟨_, _, rfl, h9⟩ := deI h8
  obtain ⟨_, _, rfl, h10⟩ := deI h9
  obtain ⟨_, _, rfl, h11⟩ := deI h10
  obtain ⟨_, _, rfl, h12⟩ := deI h11
  obtain ⟨_, _, rfl, h13⟩ := deI h12
  obtain ⟨_, _, rfl, h14⟩ := deI h13
  obtain ⟨rfl, g⟩ := deN h14
  obtain ⟨_, _, rfl, g1⟩ := deX g
  obtain ⟨_, _, rfl, g2⟩ := deX g1
  obtain ⟨_, _, rfl, g3⟩ := deX g2
  obtain ⟨_, _, rfl, g4⟩ := deX g3
  obtain ⟨rfl, k⟩ := deNX g4
  exact Eq.mp (by kernel_rfl) k
theorem o3_12 (Q : Value → AHeap → Prop) (F25 F29 F22 F23 F33 F32 F18 F34 F14 F5 F3 L24 L21 L17 : PT) : cutOK (x3 Q F25 F29 (g3_26 Q F25 F29) F22 F23 F33 F32 F18 F34 F14 F5 F3 L24 L21 L17) (cutAt (bodyOf Try.f3) 12) := by
  refine cutOK_of (F := g3_26 Q F25 F29) (by kernel_rfl) ?_
  intro kb vs bs H h
  obtain ⟨_, _, rfl, h1⟩ := deB h
  obtain ⟨_, _, rfl, h2⟩ := deI h1
  obtain ⟨_, _, _, rfl, h3⟩ := deC h2
  obtain ⟨_, _, rfl, h4⟩ := deI h3
  obtain ⟨_, _, rfl, h5⟩ := deI h4
  obtain ⟨_, _, rfl, h6⟩ := deB h5
  obtain ⟨_, _, rfl, h7⟩ := deI h6
  obtain ⟨_, _, rfl, h8⟩ := deI h7
  obtain ⟨_, _, rfl, h9⟩ := deI h8
  obtain ⟨_, _, rfl, h10⟩ := deI h9
  obtain ⟨_, _, rfl, h11⟩ := deI h10
  obtain ⟨_, _, rfl, h12⟩ := deI h11
  obtain ⟨_, _, rfl, h13⟩ := deI h12
  obtain ⟨_, _, rfl, h14⟩ := deI h13
  obtain ⟨rfl, g⟩ := deN h14
  obtain ⟨_, _, rfl, g1⟩ := deX g
  obtain ⟨_, _, rfl, g2⟩ := deX g1
  obtain ⟨_, _, rfl, g3⟩ := deX g2
  obtain ⟨_, _, rfl, g4⟩ := deX g3
  obtain ⟨rfl, k⟩ := deNX g4
  exact Eq.mp (by kernel_rfl) k
theorem o3_13 (Q : Value → AHeap → Prop) (F29 F26 F22 F23 F33 F32 F18 F34 F14 F5 F3 L24 L21 L17 : PT) : cutOK (x3 Q (g3_25 Q) F29 F26 F22 F23 F33 F32 F18 F34 F14 F5 F3 L24 L21 L17) (cutAt (bodyOf Try.f3) 13) := by
  refine cutOK_of (F := g3_25 Q) (by kernel_rfl) ?_
  intro kb vs bs H h
  obtain ⟨_, _, rfl, h1⟩ := deB h
  obtain ⟨_, _, rfl, h2⟩ := deI h1
  obtain ⟨_, _, _, rfl, h3⟩ := deC h2
  obtain ⟨_, _, rfl, h4⟩ := deI h3
  obtain ⟨_, _, rfl, h5⟩ := deI h4
  obtain ⟨_, _, rfl, h6⟩ := deB h5
  obtain ⟨_, _, rfl, h7⟩ := deI h6
  obtain ⟨_, _, rfl, h8⟩ := deI h7
  obtain ⟨_, _, rfl, h9⟩ := deI h8
  obtain ⟨_, _, rfl, h10⟩ := deI h9
  obtain ⟨_, _, rfl, h11⟩ := deI h10
  obtain ⟨_, _, rfl, h12⟩ := deI h11
  obtain ⟨_, _, rfl, h13⟩ := deI h12
  obtain ⟨_, _, rfl, h14⟩ := deI h13
  obtain ⟨rfl, g⟩ := deN h14
  obtain ⟨_, _, rfl, g1⟩ := deX g
  obtain ⟨_, _, rfl, g2⟩ := deX g1
  obtain ⟨_, _, rfl, g3⟩ := deX g2
  obtain ⟨_, _, rfl, g4⟩ := deX g3
  obtain ⟨rfl, k⟩ := deNX g4
  exact Eq.mp (by kernel_rfl) k
theorem o3_14 (Q : Value → AHeap → Prop) (F25 F26 F22 F23 F33 F32 F18 F34 F14 F5 F3 L24 L21 L17 : PT) : cutOK (x3 Q F25 (g3_29 Q F25) F26 F22 F23 F33 F32 F18 F34 F14 F5 F3 L24 L21 L17) (cutAt (bodyOf Try.f3) 14) := by
  refine cutOK_of (F := g3_29 Q F25) (by kernel_rfl) ?_
  intro kb vs bs H h
  obtain ⟨_, _, rfl, h1⟩ := deB h
  obtain ⟨_, _, rfl, h2⟩ := deI h1
  obtain ⟨_, _, _, rfl, h3⟩ := deC h2
  obtain ⟨_, _, rfl, h4⟩ := deI h3
  obtain ⟨_, _, rfl, h5⟩ := deI h4
  obtain ⟨_, _, rfl, h6⟩ := deB h5
  obtain ⟨_, _, rfl, h7⟩ := deI h6
  obtain ⟨_, _, rfl, h8⟩ := deI h7
  obtain ⟨_, _, rfl, h9⟩ := deI h8
  obtain ⟨_, _, rfl, h10⟩ := deI h9
  obtain ⟨_, _, rfl, h11⟩ := deI h10
  obtain ⟨_, _, rfl, h12⟩ := deI h11
  obtain ⟨_, _, rfl, h13⟩ := deI h12
  obtain ⟨_, _, rfl, h14⟩ := deI h13
  obtain ⟨rfl, g⟩ := deN h14
  obtain ⟨_, _, rfl, g1⟩ := deX g
  obtain ⟨_, _, rfl, g2⟩ := deX g1
  obtain ⟨_, _, rfl, g3⟩ := deX g2
  obtain ⟨_, _, rfl, g4⟩ := deX g3
  obtain ⟨_, _, rfl, g5⟩ := deX g4
  obtain ⟨rfl, k⟩ := deNX g5
  exact Eq.mp (by kernel_rfl) k
theorem m3 {Q : Value → AHeap → Prop} (F25 F29 F26 F22 F23 F33 F32 F18 F34 F14 F5 F3 L24 L21 L17 : PT) {vs : List Value} {H : AHeap} (h : g3 Q F3 vs H) : Nat.ble vs.length 167 = true ∧ interp (x3 Q F25 F29 F26 F22 F23 F33 F32 F18 F34 F14 F5 F3 L24 L21 L17) kb0 (bodyOf Try.f3) [] (entry vs H) := by
  obtain ⟨_, _, rfl, h1⟩ := deA h
  obtain ⟨_, _, rfl, h2⟩ := deA h1
  obtain ⟨_, _, rfl, h3⟩ := deI h2
  obtain ⟨_, _, rfl, h4⟩ := deI h3
  obtain ⟨_, _, rfl, h5⟩ := deI h4
  obtain ⟨_, _, rfl, h6⟩ := deI h5
  obtain ⟨_, _, rfl, h7⟩ := deB h6
  obtain ⟨rfl, g⟩ := deN h7
  exact ⟨by kernel_rfl, Eq.mp (by kernel_rfl) g⟩
theorem c3 {vs : List Value} {H : AHeap} {Q : Value → AHeap → Prop} (h : f3 vs H Q) : call Try.prog 3 vs H Q :=
  call_of' noNG (X := x3 Q (f3_25 Q) (f3_29 Q) (f3_26 Q) (f3_22 Q) (f3_23 Q) (f3_33 Q) (f3_32 Q) (f3_18 Q) (f3_34 Q) (f3_14 Q) (f3_5 Q) (f3_3 Q) (f3_l24 Q) (f3_l21 Q) (f3_l17 Q)) (fn := Try.f3) (by kernel_rfl) (by kernel_rfl) (by kernel_rfl) (by kernel_rfl) (by kernel_rfl) (obl_of (n := 15) (by kernel_rfl) (by kernel_rfl) ⟨o3_0 Q (f3_25 Q) (f3_29 Q) (f3_26 Q) (f3_22 Q) (f3_23 Q) (f3_33 Q) (f3_32 Q) (f3_18 Q) (f3_34 Q) (f3_14 Q) (f3_5 Q) (f3_l24 Q) (f3_l21 Q) (f3_l17 Q), o3_1 Q (f3_25 Q) (f3_29 Q) (f3_26 Q) (f3_22 Q) (f3_23 Q) (f3_33 Q) (f3_32 Q) (f3_18 Q) (f3_34 Q) (f3_14 Q) (f3_3 Q) (f3_l24 Q) (f3_l21 Q) (f3_l17 Q), o3_2 Q (f3_25 Q) (f3_29 Q) (f3_26 Q) (f3_22 Q) (f3_23 Q) (f3_33 Q) (f3_32 Q) (f3_18 Q) (f3_34 Q) (f3_5 Q) (f3_3 Q) (f3_l24 Q) (f3_l21 Q) (f3_l17 Q), o3_3 Q (f3_25 Q) (f3_29 Q) (f3_26 Q) (f3_22 Q) (f3_23 Q) (f3_33 Q) (f3_32 Q) (f3_18 Q) (f3_14 Q) (f3_5 Q) (f3_3 Q) (f3_l24 Q) (f3_l21 Q) (f3_l17 Q), o3_4 Q (f3_25 Q) (f3_29 Q) (f3_26 Q) (f3_22 Q) (f3_23 Q) (f3_33 Q) (f3_32 Q) (f3_18 Q) (f3_34 Q) (f3_14 Q) (f3_5 Q) (f3_3 Q) (f3_l24 Q) (f3_l21 Q), o3_5 Q (f3_25 Q) (f3_29 Q) (f3_26 Q) (f3_22 Q) (f3_23 Q) (f3_33 Q) (f3_32 Q) (f3_34 Q) (f3_14 Q) (f3_5 Q) (f3_3 Q) (f3_l24 Q) (f3_l21 Q) (f3_l17 Q), o3_6 Q (f3_25 Q) (f3_29 Q) (f3_26 Q) (f3_22 Q) (f3_23 Q) (f3_32 Q) (f3_18 Q) (f3_34 Q) (f3_14 Q) (f3_5 Q) (f3_3 Q) (f3_l24 Q) (f3_l21 Q) (f3_l17 Q), o3_7 Q (f3_25 Q) (f3_29 Q) (f3_26 Q) (f3_22 Q) (f3_23 Q) (f3_33 Q) (f3_18 Q) (f3_34 Q) (f3_14 Q) (f3_5 Q) (f3_3 Q) (f3_l24 Q) (f3_l21 Q) (f3_l17 Q), o3_8 Q (f3_25 Q) (f3_29 Q) (f3_26 Q) (f3_22 Q) (f3_23 Q) (f3_33 Q) (f3_32 Q) (f3_18 Q) (f3_34 Q) (f3_14 Q) (f3_5 Q) (f3_3 Q) (f3_l24 Q) (f3_l17 Q), o3_9 Q (f3_25 Q) (f3_29 Q) (f3_26 Q) (f3_22 Q) (f3_33 Q) (f3_32 Q) (f3_18 Q) (f3_34 Q) (f3_14 Q) (f3_5 Q) (f3_3 Q) (f3_l24 Q) (f3_l21 Q) (f3_l17 Q), o3_10 Q (f3_25 Q) (f3_29 Q) (f3_26 Q) (f3_23 Q) (f3_33 Q) (f3_32 Q) (f3_18 Q) (f3_34 Q) (f3_14 Q) (f3_5 Q) (f3_3 Q) (f3_l24 Q) (f3_l21 Q) (f3_l17 Q), o3_11 Q (f3_25 Q) (f3_29 Q) (f3_26 Q) (f3_22 Q) (f3_23 Q) (f3_33 Q) (f3_32 Q) (f3_18 Q) (f3_34 Q) (f3_14 Q) (f3_5 Q) (f3_3 Q) (f3_l21 Q) (f3_l17 Q), o3_12 Q (f3_25 Q) (f3_29 Q) (f3_22 Q) (f3_23 Q) (f3_33 Q) (f3_32 Q) (f3_18 Q) (f3_34 Q) (f3_14 Q) (f3_5 Q) (f3_3 Q) (f3_l24 Q) (f3_l21 Q) (f3_l17 Q), o3_13 Q (f3_29 Q) (f3_26 Q) (f3_22 Q) (f3_23 Q) (f3_33 Q) (f3_32 Q) (f3_18 Q) (f3_34 Q) (f3_14 Q) (f3_5 Q) (f3_3 Q) (f3_l24 Q) (f3_l21 Q) (f3_l17 Q), o3_14 Q (f3_25 Q) (f3_26 Q) (f3_22 Q) (f3_23 Q) (f3_33 Q) (f3_32 Q) (f3_18 Q) (f3_34 Q) (f3_14 Q) (f3_5 Q) (f3_3 Q) (f3_l24 Q) (f3_l21 Q) (f3_l17 Q), trivial⟩) (m3 (f3_25 Q) (f3_29 Q) (f3_26 Q) (f3_22 Q) (f3_23 Q) (f3_33 Q) (f3_32 Q) (f3_18 Q) (f3_34 Q) (f3_14 Q) (f3_5 Q) (f3_3 Q) (f3_l24 Q) (f3_l21 Q) (f3_l17 Q) h).1 (m3 (f3_25 Q) (f3_29 Q) (f3_26 Q) (f3_22 Q) (f3_23 Q) (f3_33 Q) (f3_32 Q) (f3_18 Q) (f3_34 Q) (f3_14 Q) (f3_5 Q) (f3_3 Q) (f3_l24 Q) (f3_l21 Q) (f3_l17 Q) h).2

end Go.Am
