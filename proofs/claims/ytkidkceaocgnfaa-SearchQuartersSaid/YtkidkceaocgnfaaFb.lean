/- printed: functions 4 6 15 17 19 22 29 31 33 -/
import Derived.Test.YtkidkceaocgnfaaT2
set_option maxRecDepth 100000
set_option linter.all false
namespace Go.Am
open Go.Proofs
/-! ## 4 kinescope/kinescopelaw28.Awake -/

/-- kinescope/kinescopelaw28.Awake -/
def g4 (Q : Value → AHeap → Prop) (vs : List Value) (H : AHeap) : Prop :=
 nilK vs <|
 call Try.prog 15 [.int .i64 1, .int .i64 1, .int .u8 9] H fun r5 H5 =>
 asA 11 r5 fun l5 =>
 gd (l5.length = 11 ∧ 0 + 11 ≤ List.length (α := Value) [.int .i64 0, .int .i64 0, .int .i64 0, .int .i64 0, .slice none 0 0, .int .i64 0, .int .i64 0, .slice none 0 0, .int .i64 0, .int .i64 0, .slice none 0 0]) <|
 rA 11 (stC [.int .i64 0, .int .i64 0, .int .i64 0, .int .i64 0, .slice none 0 0, .int .i64 0, .int .i64 0, .slice none 0 0, .int .i64 0, .int .i64 0, .slice none 0 0] 0 l5) 0 fun l8 =>
 rA 11 (stC [.int .i64 0, .int .i64 0, .int .i64 0, .int .i64 0, .slice none 0 0, .int .i64 0, .int .i64 0, .slice none 0 0, .int .i64 0, .int .i64 0, .slice none 0 0] 0 l5) 0 fun l9 =>
 call Try.prog 16 [.agg ⟨[.int .i64 1, .int .i64 0]⟩, .agg ⟨l8⟩, .agg ⟨l9⟩, .int .i64 0, .bool false] H5 fun r10 H10 =>
 tupK r10 fun l =>
 inC l fun r10a i10a l_2 =>
 inI .i64 l_2 fun x10b l_3 =>
 inB l_3 fun c10c l_4 =>
 nilK l_4 <|
 bif c10c then (
  bif (fEq .f64 r10a 0 && fEq .f64 i10a 0) then (
   Q (.bool ((x10b : Int) == 0)) H10
  ) else (
   Q (.bool false) H10
  )
 ) else (
  Q (.bool false) H10
 )
def f4 (vs : List Value) (H : AHeap) (Q : Value → AHeap → Prop) : Prop := g4 Q vs H

noncomputable def x4 (Q : Value → AHeap → Prop) : Pc := pc Try.prog 23 [(1, 1)]
  []
  []
  []
  (shOf [])
  (shOf [])
  [.tmp 0] Q
theorem m4 {Q : Value → AHeap → Prop} {vs : List Value} {H : AHeap} (h : g4 Q vs H) : Nat.ble vs.length 23 = true ∧ interp (x4 Q) kb0 (bodyOf Try.f4) [] (entry vs H) := by
  obtain ⟨rfl, g⟩ := deN h
  exact ⟨by kernel_rfl, Eq.mp (by kernel_rfl) g⟩
theorem c4 {vs : List Value} {H : AHeap} {Q : Value → AHeap → Prop} (h : f4 vs H Q) : call Try.prog 4 vs H Q :=
  call_of' noNG (X := x4 Q) (fn := Try.f4) (by kernel_rfl) (by kernel_rfl) (by kernel_rfl) (by kernel_rfl) (by kernel_rfl) (obl_of (n := 0) (by kernel_rfl) (by kernel_rfl) trivial) (m4 h).1 (m4 h).2

/-! ## 6 (kinescope/kinescopelaw06.Small).Frame -/

/-- (kinescope/kinescopelaw06.Small).Frame -/
def g6 (Q : Value → AHeap → Prop) (vs : List Value) (H : AHeap) : Prop :=
 inA 8 vs fun l0 vs =>
 nilK vs <|
 gd (l0.length = 8) <|
 rA 8 l0 0 fun l3 =>
 rI .u8 l0 0 fun x5 =>
 rI .u8 l0 1 fun x10 =>
 call Try.prog 7 [.agg ⟨l3⟩, .int .i64 (IntKind.wrap .i64 (1 + (IntKind.wrap .i64 (x5.tmod 3)))), .int .i64 (IntKind.wrap .i64 (1 + (IntKind.wrap .i64 (x10.tmod 3))))] H fun r14 H14 =>
 asA 11 r14 fun l14 =>
 gd (l14.length = 11 ∧ 0 + 11 ≤ List.length (α := Value) [.int .i64 0, .int .i64 0, .int .i64 0, .int .i64 0, .slice none 0 0, .int .i64 0, .int .i64 0, .slice none 0 0, .int .i64 0, .int .i64 0, .slice none 0 0]) <|
 rA 11 (stC [.int .i64 0, .int .i64 0, .int .i64 0, .int .i64 0, .slice none 0 0, .int .i64 0, .int .i64 0, .slice none 0 0, .int .i64 0, .int .i64 0, .slice none 0 0] 0 l14) 0 fun l =>
 Q (.agg ⟨l⟩) H14
def f6 (vs : List Value) (H : AHeap) (Q : Value → AHeap → Prop) : Prop := g6 Q vs H

noncomputable def x6 (Q : Value → AHeap → Prop) : Pc := pc Try.prog 15 [(1, 1), (2, 2), (4, 1), (9, 1)]
  []
  []
  []
  (shOf [])
  (shOf [])
  [.cell 2 31] Q
theorem m6 {Q : Value → AHeap → Prop} {vs : List Value} {H : AHeap} (h : g6 Q vs H) : Nat.ble vs.length 15 = true ∧ interp (x6 Q) kb0 (bodyOf Try.f6) [] (entry vs H) := by
  obtain ⟨_, _, rfl, h1⟩ := deA h
  obtain ⟨rfl, g⟩ := deN h1
  exact ⟨by kernel_rfl, Eq.mp (by kernel_rfl) g⟩
theorem c6 {vs : List Value} {H : AHeap} {Q : Value → AHeap → Prop} (h : f6 vs H Q) : call Try.prog 6 vs H Q :=
  call_of' noNG (X := x6 Q) (fn := Try.f6) (by kernel_rfl) (by kernel_rfl) (by kernel_rfl) (by kernel_rfl) (by kernel_rfl) (obl_of (n := 0) (by kernel_rfl) (by kernel_rfl) trivial) (m6 h).1 (m6 h).2

/-! ## 15 kinescope/plane.NewFrame -/

/-- kinescope/plane.NewFrame -/
def g15 (Q : Value → AHeap → Prop) (vs : List Value) (H : AHeap) : Prop :=
 inI .i64 vs fun x0 vs =>
 inI .i64 vs fun x1 vs =>
 inI .u8 vs fun x2 vs =>
 nilK vs <|
 call Try.prog 31 [.int .i64 (IntKind.wrap .i64 (16 * (mnI (mxI x0 0) 8))), .int .i64 (IntKind.wrap .i64 (16 * (mnI (mxI x1 0) 8))), .int .u8 x2] H fun r20 H20 =>
 asA 3 r20 fun l20 =>
 call Try.prog 31 [.int .i64 (IntKind.wrap .i64 (8 * (mnI (mxI x0 0) 8))), .int .i64 (IntKind.wrap .i64 (8 * (mnI (mxI x1 0) 8))), .int .u8 x2] H20 fun r26 H26 =>
 asA 3 r26 fun l26 =>
 call Try.prog 31 [.int .i64 (IntKind.wrap .i64 (8 * (mnI (mxI x0 0) 8))), .int .i64 (IntKind.wrap .i64 (8 * (mnI (mxI x1 0) 8))), .int .u8 x2] H26 fun r32 H32 =>
 asA 3 r32 fun l32 =>
 gd (l20.length = 3) <|
 gd (l26.length = 3) <|
 gd (l32.length = 3) <|
 gd (List.length (α := Value) ((.int .i64 (mnI (mxI x0 0) 8)) :: ((.int .i64 (mnI (mxI x1 0) 8)) :: (l20 ++ (l26 ++ (l32 ++ []))))) = 11 ∧ 0 + 11 ≤ List.length (α := Value) [.int .i64 0, .int .i64 0, .int .i64 0, .int .i64 0, .slice none 0 0, .int .i64 0, .int .i64 0, .slice none 0 0, .int .i64 0, .int .i64 0, .slice none 0 0]) <|
 rA 11 (stC [.int .i64 0, .int .i64 0, .int .i64 0, .int .i64 0, .slice none 0 0, .int .i64 0, .int .i64 0, .slice none 0 0, .int .i64 0, .int .i64 0, .slice none 0 0] 0 ((.int .i64 (mnI (mxI x0 0) 8)) :: ((.int .i64 (mnI (mxI x1 0) 8)) :: (l20 ++ (l26 ++ (l32 ++ [])))))) 0 fun l =>
 Q (.agg ⟨l⟩) H32
def f15 (vs : List Value) (H : AHeap) (Q : Value → AHeap → Prop) : Prop := g15 Q vs H

noncomputable def x15 (Q : Value → AHeap → Prop) : Pc := pc Try.prog 34 [(6, 6)]
  []
  []
  []
  (shOf [])
  (shOf [])
  [.cell 6 31] Q
theorem m15 {Q : Value → AHeap → Prop} {vs : List Value} {H : AHeap} (h : g15 Q vs H) : Nat.ble vs.length 34 = true ∧ interp (x15 Q) kb0 (bodyOf Try.f15) [] (entry vs H) := by
  obtain ⟨_, _, rfl, h1⟩ := deI h
  obtain ⟨_, _, rfl, h2⟩ := deI h1
  obtain ⟨_, _, rfl, h3⟩ := deI h2
  obtain ⟨rfl, g⟩ := deN h3
  exact ⟨by kernel_rfl, Eq.mp (by kernel_rfl) g⟩
theorem c15 {vs : List Value} {H : AHeap} {Q : Value → AHeap → Prop} (h : f15 vs H Q) : call Try.prog 15 vs H Q :=
  call_of' noNG (X := x15 Q) (fn := Try.f15) (by kernel_rfl) (by kernel_rfl) (by kernel_rfl) (by kernel_rfl) (by kernel_rfl) (obl_of (n := 0) (by kernel_rfl) (by kernel_rfl) trivial) (m15 h).1 (m15 h).2

/-! ## 17 (kinescope/plane.Frame).Slope -/

def g17_8 (Q : Value → AHeap → Prop) (kb : KB) (vs : List Value) (bs : List (List Value)) (H : AHeap) : Prop :=
 inI .i64 vs fun x1 vs =>
 inI .i64 vs fun x2 vs =>
 inI .i64 vs fun x3 vs =>
 inI .i64 vs fun x8 vs =>
 inI .i64 vs fun x12 vs =>
 inI .i64 vs fun x13 vs =>
 inI .i64 vs fun x18 vs =>
 inI .i64 vs fun x19 vs =>
 nilK vs <|
 inX bs fun y4 bs =>
 nilX bs <|
 kb 5 [.int .i64 x1, .int .i64 x2, .int .i64 x3, .int .i64 x8, .int .i64 x12, .int .i64 x13, .int .i64 x18, .int .i64 (IntKind.wrap .i64 (x19 + 1))] [y4] H
def f17_8 (Q : Value → AHeap → Prop) : PT := g17_8 Q

def g17_6 (Q : Value → AHeap → Prop) (F8 : PT) (kb : KB) (vs : List Value) (bs : List (List Value)) (H : AHeap) : Prop :=
 inI .i64 vs fun x1 vs =>
 inI .i64 vs fun x2 vs =>
 inI .i64 vs fun x3 vs =>
 inI .i64 vs fun x8 vs =>
 inI .i64 vs fun x12 vs =>
 inI .i64 vs fun x13 vs =>
 inI .i64 vs fun x18 vs =>
 inI .i64 vs fun x19 vs =>
 nilK vs <|
 inX bs fun y4 bs =>
 nilX bs <|
 rA 3 y4 2 fun l23 =>
 call Try.prog 34 [.agg ⟨l23⟩, .int .i64 x19, .int .i64 x8, .int .u8 (IntKind.wrap .u8 (IntKind.wrap .i64 (x1 + (IntKind.wrap .i64 ((IntKind.wrap .i64 ((IntKind.wrap .i64 (x19 * x2)) + (IntKind.wrap .i64 (x8 * x3)))).tdiv 16)))))] H fun r37 H37 =>
 tupK r37 fun l =>
 nilK l <|
 F8 kb [.int .i64 x1, .int .i64 x2, .int .i64 x3, .int .i64 x8, .int .i64 x12, .int .i64 x13, .int .i64 x18, .int .i64 x19] [y4] H37
def f17_6 (Q : Value → AHeap → Prop) : PT := g17_6 Q (f17_8 Q)

def g17_9 (Q : Value → AHeap → Prop) (kb : KB) (vs : List Value) (bs : List (List Value)) (H : AHeap) : Prop :=
 inI .i64 vs fun x1 vs =>
 inI .i64 vs fun x2 vs =>
 inI .i64 vs fun x3 vs =>
 inI .i64 vs fun x12 vs =>
 inI .i64 vs fun x13 vs =>
 nilK vs <|
 inX bs fun y4 bs =>
 nilX bs <|
 kb 2 [.int .i64 x1, .int .i64 x2, .int .i64 x3, .int .i64 x12, .int .i64 (IntKind.wrap .i64 (x13 + 1))] [y4] H
def f17_9 (Q : Value → AHeap → Prop) : PT := g17_9 Q

def g17_l5 (Q : Value → AHeap → Prop) (F6 F9 : PT) (kb : KB) (vs : List Value) (bs : List (List Value)) (H : AHeap) : Prop :=
 inI .i64 vs fun x1 vs =>
 inI .i64 vs fun x2 vs =>
 inI .i64 vs fun x3 vs =>
 inI .i64 vs fun x8 vs =>
 inI .i64 vs fun x12 vs =>
 inI .i64 vs fun x13 vs =>
 inI .i64 vs fun x18 vs =>
 inI .i64 vs fun x19 vs =>
 nilK vs <|
 inX bs fun y4 bs =>
 nilX bs <|
 bif (decide ((x19 : Int) < x18)) then (
  F6 kb [.int .i64 x1, .int .i64 x2, .int .i64 x3, .int .i64 x8, .int .i64 x12, .int .i64 x13, .int .i64 x18, .int .i64 x19] [y4] H
 ) else (
  F9 kb [.int .i64 x1, .int .i64 x2, .int .i64 x3, .int .i64 x12, .int .i64 x13] [y4] H
 )
def f17_l5 (Q : Value → AHeap → Prop) : PT := g17_l5 Q (f17_6 Q) (f17_9 Q)

def g17_3 (Q : Value → AHeap → Prop) (L5 : PT) (kb : KB) (vs : List Value) (bs : List (List Value)) (H : AHeap) : Prop :=
 inI .i64 vs fun x1 vs =>
 inI .i64 vs fun x2 vs =>
 inI .i64 vs fun x3 vs =>
 inI .i64 vs fun x12 vs =>
 inI .i64 vs fun x13 vs =>
 nilK vs <|
 inX bs fun y4 bs =>
 nilX bs <|
 rI .i64 y4 2 fun x18 =>
 lpW L5 kb 5 [.int .i64 x1, .int .i64 x2, .int .i64 x3, .int .i64 x13, .int .i64 x12, .int .i64 x13, .int .i64 x18, .int .i64 0] [y4] H
def f17_3 (Q : Value → AHeap → Prop) : PT := g17_3 Q (f17_l5 Q)

def g17_l2 (Q : Value → AHeap → Prop) (F3 : PT) (kb : KB) (vs : List Value) (bs : List (List Value)) (H : AHeap) : Prop :=
 inI .i64 vs fun x1 vs =>
 inI .i64 vs fun x2 vs =>
 inI .i64 vs fun x3 vs =>
 inI .i64 vs fun x12 vs =>
 inI .i64 vs fun x13 vs =>
 nilK vs <|
 inX bs fun y4 bs =>
 nilX bs <|
 bif (decide ((x13 : Int) < x12)) then (
  F3 kb [.int .i64 x1, .int .i64 x2, .int .i64 x3, .int .i64 x12, .int .i64 x13] [y4] H
 ) else (
  Q (.tuple ⟨[]⟩) H
 )
def f17_l2 (Q : Value → AHeap → Prop) : PT := g17_l2 Q (f17_3 Q)

/-- (kinescope/plane.Frame).Slope -/
def g17 (Q : Value → AHeap → Prop) (L2 : PT) (vs : List Value) (H : AHeap) : Prop :=
 inA 11 vs fun l0 vs =>
 inI .i64 vs fun x1 vs =>
 inI .i64 vs fun x2 vs =>
 inI .i64 vs fun x3 vs =>
 nilK vs <|
 gd (l0.length = 11) <|
 rI .i64 l0 3 fun x12 =>
 lpW L2 kb0 2 [.int .i64 x1, .int .i64 x2, .int .i64 x3, .int .i64 x12, .int .i64 0] [l0] H
def f17 (vs : List Value) (H : AHeap) (Q : Value → AHeap → Prop) : Prop := g17 Q (f17_l2 Q) vs H

noncomputable def x17 (Q : Value → AHeap → Prop) (F8 F6 F9 F3 L5 L2 : PT) : Pc := pc Try.prog 40 [(4, 4), (10, 4), (11, 4), (16, 4), (17, 4), (22, 4)]
  [(8, ⟨[1, 2, 3, 8, 12, 13, 18, 19], [(4, 4)], [4]⟩), (6, ⟨[1, 2, 3, 8, 12, 13, 18, 19], [(4, 4)], [4]⟩), (9, ⟨[1, 2, 3, 12, 13], [(4, 4)], [4]⟩), (3, ⟨[1, 2, 3, 12, 13], [(4, 4)], [4]⟩)]
  [(5, ⟨[1, 2, 3, 8, 12, 13, 18, 19], [(4, 4)], [4]⟩), (2, ⟨[1, 2, 3, 12, 13], [(4, 4)], [4]⟩)]
  []
  (shOf [(8, F8), (6, F6), (9, F9), (3, F3)])
  (shOf [(5, L5), (2, L2)])
  [] Q
theorem o17_0 (Q : Value → AHeap → Prop) (F8 F6 F9 F3 L5 : PT) : cutOK (x17 Q F8 F6 F9 F3 L5 (g17_l2 Q F3)) (cutAt (bodyOf Try.f17) 0) := by
  refine cutOK_of (F := g17_l2 Q F3) (by kernel_rfl) ?_
  intro kb vs bs H h
  obtain ⟨_, _, rfl, h1⟩ := deI h
  obtain ⟨_, _, rfl, h2⟩ := deI h1
  obtain ⟨_, _, rfl, h3⟩ := deI h2
  obtain ⟨_, _, rfl, h4⟩ := deI h3
  obtain ⟨_, _, rfl, h5⟩ := deI h4
  obtain ⟨rfl, g⟩ := deN h5
  obtain ⟨_, _, rfl, g1⟩ := deX g
  obtain ⟨rfl, k⟩ := deNX g1
  exact Eq.mp (by kernel_rfl) k
theorem o17_1 (Q : Value → AHeap → Prop) (F8 F6 F9 L5 L2 : PT) : cutOK (x17 Q F8 F6 F9 (g17_3 Q L5) L5 L2) (cutAt (bodyOf Try.f17) 1) := by
  refine cutOK_of (F := g17_3 Q L5) (by kernel_rfl) ?_
  intro kb vs bs H h
  obtain ⟨_, _, rfl, h1⟩ := deI h
  obtain ⟨_, _, rfl, h2⟩ := deI h1
  obtain ⟨_, _, rfl, h3⟩ := deI h2
  obtain ⟨_, _, rfl, h4⟩ := deI h3
  obtain ⟨_, _, rfl, h5⟩ := deI h4
  obtain ⟨rfl, g⟩ := deN h5
  obtain ⟨_, _, rfl, g1⟩ := deX g
  obtain ⟨rfl, k⟩ := deNX g1
  exact Eq.mp (by kernel_rfl) k
theorem o17_2 (Q : Value → AHeap → Prop) (F8 F6 F3 L5 L2 : PT) : cutOK (x17 Q F8 F6 (g17_9 Q) F3 L5 L2) (cutAt (bodyOf Try.f17) 2) := by
  refine cutOK_of (F := g17_9 Q) (by kernel_rfl) ?_
  intro kb vs bs H h
  obtain ⟨_, _, rfl, h1⟩ := deI h
  obtain ⟨_, _, rfl, h2⟩ := deI h1
  obtain ⟨_, _, rfl, h3⟩ := deI h2
  obtain ⟨_, _, rfl, h4⟩ := deI h3
  obtain ⟨_, _, rfl, h5⟩ := deI h4
  obtain ⟨rfl, g⟩ := deN h5
  obtain ⟨_, _, rfl, g1⟩ := deX g
  obtain ⟨rfl, k⟩ := deNX g1
  exact Eq.mp (by kernel_rfl) k
theorem o17_3 (Q : Value → AHeap → Prop) (F8 F6 F9 F3 L2 : PT) : cutOK (x17 Q F8 F6 F9 F3 (g17_l5 Q F6 F9) L2) (cutAt (bodyOf Try.f17) 3) := by
  refine cutOK_of (F := g17_l5 Q F6 F9) (by kernel_rfl) ?_
  intro kb vs bs H h
  obtain ⟨_, _, rfl, h1⟩ := deI h
  obtain ⟨_, _, rfl, h2⟩ := deI h1
  obtain ⟨_, _, rfl, h3⟩ := deI h2
  obtain ⟨_, _, rfl, h4⟩ := deI h3
  obtain ⟨_, _, rfl, h5⟩ := deI h4
  obtain ⟨_, _, rfl, h6⟩ := deI h5
  obtain ⟨_, _, rfl, h7⟩ := deI h6
  obtain ⟨_, _, rfl, h8⟩ := deI h7
  obtain ⟨rfl, g⟩ := deN h8
  obtain ⟨_, _, rfl, g1⟩ := deX g
  obtain ⟨rfl, k⟩ := deNX g1
  exact Eq.mp (by kernel_rfl) k
theorem o17_4 (Q : Value → AHeap → Prop) (F8 F9 F3 L5 L2 : PT) : cutOK (x17 Q F8 (g17_6 Q F8) F9 F3 L5 L2) (cutAt (bodyOf Try.f17) 4) := by
  refine cutOK_of (F := g17_6 Q F8) (by kernel_rfl) ?_
  intro kb vs bs H h
  obtain ⟨_, _, rfl, h1⟩ := deI h
  obtain ⟨_, _, rfl, h2⟩ := deI h1
  obtain ⟨_, _, rfl, h3⟩ := deI h2
  obtain ⟨_, _, rfl, h4⟩ := deI h3
  obtain ⟨_, _, rfl, h5⟩ := deI h4
  obtain ⟨_, _, rfl, h6⟩ := deI h5
  obtain ⟨_, _, rfl, h7⟩ := deI h6
  obtain ⟨_, _, rfl, h8⟩ := deI h7
  obtain ⟨rfl, g⟩ := deN h8
  obtain ⟨_, _, rfl, g1⟩ := deX g
  obtain ⟨rfl, k⟩ := deNX g1
  exact Eq.mp (by kernel_rfl) k
theorem o17_5 (Q : Value → AHeap → Prop) (F6 F9 F3 L5 L2 : PT) : cutOK (x17 Q (g17_8 Q) F6 F9 F3 L5 L2) (cutAt (bodyOf Try.f17) 5) := by
  refine cutOK_of (F := g17_8 Q) (by kernel_rfl) ?_
  intro kb vs bs H h
  obtain ⟨_, _, rfl, h1⟩ := deI h
  obtain ⟨_, _, rfl, h2⟩ := deI h1
  obtain ⟨_, _, rfl, h3⟩ := deI h2
  obtain ⟨_, _, rfl, h4⟩ := deI h3
  obtain ⟨_, _, rfl, h5⟩ := deI h4
  obtain ⟨_, _, rfl, h6⟩ := deI h5
  obtain ⟨_, _, rfl, h7⟩ := deI h6
  obtain ⟨_, _, rfl, h8⟩ := deI h7
  obtain ⟨rfl, g⟩ := deN h8
  obtain ⟨_, _, rfl, g1⟩ := deX g
  obtain ⟨rfl, k⟩ := deNX g1
  exact Eq.mp (by kernel_rfl) k
theorem m17 {Q : Value → AHeap → Prop} (F8 F6 F9 F3 L5 L2 : PT) {vs : List Value} {H : AHeap} (h : g17 Q L2 vs H) : Nat.ble vs.length 40 = true ∧ interp (x17 Q F8 F6 F9 F3 L5 L2) kb0 (bodyOf Try.f17) [] (entry vs H) := by
  obtain ⟨_, _, rfl, h1⟩ := deA h
  obtain ⟨_, _, rfl, h2⟩ := deI h1
  obtain ⟨_, _, rfl, h3⟩ := deI h2
  obtain ⟨_, _, rfl, h4⟩ := deI h3
  obtain ⟨rfl, g⟩ := deN h4
  exact ⟨by kernel_rfl, Eq.mp (by kernel_rfl) g⟩
theorem c17 {vs : List Value} {H : AHeap} {Q : Value → AHeap → Prop} (h : f17 vs H Q) : call Try.prog 17 vs H Q :=
  call_of' noNG (X := x17 Q (f17_8 Q) (f17_6 Q) (f17_9 Q) (f17_3 Q) (f17_l5 Q) (f17_l2 Q)) (fn := Try.f17) (by kernel_rfl) (by kernel_rfl) (by kernel_rfl) (by kernel_rfl) (by kernel_rfl) (obl_of (n := 6) (by kernel_rfl) (by kernel_rfl) ⟨o17_0 Q (f17_8 Q) (f17_6 Q) (f17_9 Q) (f17_3 Q) (f17_l5 Q), o17_1 Q (f17_8 Q) (f17_6 Q) (f17_9 Q) (f17_l5 Q) (f17_l2 Q), o17_2 Q (f17_8 Q) (f17_6 Q) (f17_3 Q) (f17_l5 Q) (f17_l2 Q), o17_3 Q (f17_8 Q) (f17_6 Q) (f17_9 Q) (f17_3 Q) (f17_l2 Q), o17_4 Q (f17_8 Q) (f17_9 Q) (f17_3 Q) (f17_l5 Q) (f17_l2 Q), o17_5 Q (f17_6 Q) (f17_9 Q) (f17_3 Q) (f17_l5 Q) (f17_l2 Q), trivial⟩) (m17 (f17_8 Q) (f17_6 Q) (f17_9 Q) (f17_3 Q) (f17_l5 Q) (f17_l2 Q) h).1 (m17 (f17_8 Q) (f17_6 Q) (f17_9 Q) (f17_3 Q) (f17_l5 Q) (f17_l2 Q) h).2

/-! ## 19 (kinescope/plane.Frame).Fill -/

def g19_6 (Q : Value → AHeap → Prop) (kb : KB) (vs : List Value) (bs : List (List Value)) (H : AHeap) : Prop :=
 inI .i64 vs fun x1 vs =>
 inI .i64 vs fun x2 vs =>
 inI .i64 vs fun x3 vs =>
 inI .i64 vs fun x4 vs =>
 inI .u8 vs fun x5 vs =>
 inI .u8 vs fun x6 vs =>
 inI .u8 vs fun x7 vs =>
 inI .i64 vs fun x16 vs =>
 inI .i64 vs fun x17 vs =>
 nilK vs <|
 inX bs fun y8 bs =>
 nilX bs <|
 kb 5 [.int .i64 x1, .int .i64 x2, .int .i64 x3, .int .i64 x4, .int .u8 x5, .int .u8 x6, .int .u8 x7, .int .i64 x16, .int .i64 (IntKind.wrap .i64 (x17 + 1))] [y8] H
def f19_6 (Q : Value → AHeap → Prop) : PT := g19_6 Q

def g19_7 (Q : Value → AHeap → Prop) (F6 : PT) (kb : KB) (vs : List Value) (bs : List (List Value)) (H : AHeap) : Prop :=
 inI .i64 vs fun x1 vs =>
 inI .i64 vs fun x2 vs =>
 inI .i64 vs fun x3 vs =>
 inI .i64 vs fun x4 vs =>
 inI .u8 vs fun x5 vs =>
 inI .u8 vs fun x6 vs =>
 inI .u8 vs fun x7 vs =>
 inI .i64 vs fun x16 vs =>
 inI .i64 vs fun x17 vs =>
 nilK vs <|
 inX bs fun y8 bs =>
 nilX bs <|
 rA 3 y8 2 fun l45 =>
 call Try.prog 34 [.agg ⟨l45⟩, .int .i64 x17, .int .i64 x16, .int .u8 x5] H fun r49 H49 =>
 tupK r49 fun l =>
 nilK l <|
 rA 3 y8 5 fun l51 =>
 call Try.prog 34 [.agg ⟨l51⟩, .int .i64 (IntKind.wrap .i64 (x17.tdiv 2)), .int .i64 (IntKind.wrap .i64 (x16.tdiv 2)), .int .u8 x6] H49 fun r57 H57 =>
 tupK r57 fun l_2 =>
 nilK l_2 <|
 rA 3 y8 8 fun l59 =>
 call Try.prog 34 [.agg ⟨l59⟩, .int .i64 (IntKind.wrap .i64 (x17.tdiv 2)), .int .i64 (IntKind.wrap .i64 (x16.tdiv 2)), .int .u8 x7] H57 fun r65 H65 =>
 tupK r65 fun l_3 =>
 nilK l_3 <|
 F6 kb [.int .i64 x1, .int .i64 x2, .int .i64 x3, .int .i64 x4, .int .u8 x5, .int .u8 x6, .int .u8 x7, .int .i64 x16, .int .i64 x17] [y8] H65
def f19_7 (Q : Value → AHeap → Prop) : PT := g19_7 Q (f19_6 Q)

def g19_3 (Q : Value → AHeap → Prop) (kb : KB) (vs : List Value) (bs : List (List Value)) (H : AHeap) : Prop :=
 inI .i64 vs fun x1 vs =>
 inI .i64 vs fun x2 vs =>
 inI .i64 vs fun x3 vs =>
 inI .i64 vs fun x4 vs =>
 inI .u8 vs fun x5 vs =>
 inI .u8 vs fun x6 vs =>
 inI .u8 vs fun x7 vs =>
 inI .i64 vs fun x16 vs =>
 nilK vs <|
 inX bs fun y8 bs =>
 nilX bs <|
 kb 2 [.int .i64 x1, .int .i64 x2, .int .i64 x3, .int .i64 x4, .int .u8 x5, .int .u8 x6, .int .u8 x7, .int .i64 (IntKind.wrap .i64 (x16 + 1))] [y8] H
def f19_3 (Q : Value → AHeap → Prop) : PT := g19_3 Q

def g19_l5 (Q : Value → AHeap → Prop) (F3 F7 : PT) (kb : KB) (vs : List Value) (bs : List (List Value)) (H : AHeap) : Prop :=
 inI .i64 vs fun x1 vs =>
 inI .i64 vs fun x2 vs =>
 inI .i64 vs fun x3 vs =>
 inI .i64 vs fun x4 vs =>
 inI .u8 vs fun x5 vs =>
 inI .u8 vs fun x6 vs =>
 inI .u8 vs fun x7 vs =>
 inI .i64 vs fun x16 vs =>
 inI .i64 vs fun x17 vs =>
 nilK vs <|
 inX bs fun y8 bs =>
 nilX bs <|
 rI .i64 y8 2 fun x39 =>
 bif (decide ((x17 : Int) < (mnI (IntKind.wrap .i64 (x1 + x3)) x39))) then (
  F7 kb [.int .i64 x1, .int .i64 x2, .int .i64 x3, .int .i64 x4, .int .u8 x5, .int .u8 x6, .int .u8 x7, .int .i64 x16, .int .i64 x17] [y8] H
 ) else (
  F3 kb [.int .i64 x1, .int .i64 x2, .int .i64 x3, .int .i64 x4, .int .u8 x5, .int .u8 x6, .int .u8 x7, .int .i64 x16] [y8] H
 )
def f19_l5 (Q : Value → AHeap → Prop) : PT := g19_l5 Q (f19_3 Q) (f19_7 Q)

def g19_4 (Q : Value → AHeap → Prop) (L5 : PT) (kb : KB) (vs : List Value) (bs : List (List Value)) (H : AHeap) : Prop :=
 inI .i64 vs fun x1 vs =>
 inI .i64 vs fun x2 vs =>
 inI .i64 vs fun x3 vs =>
 inI .i64 vs fun x4 vs =>
 inI .u8 vs fun x5 vs =>
 inI .u8 vs fun x6 vs =>
 inI .u8 vs fun x7 vs =>
 inI .i64 vs fun x16 vs =>
 nilK vs <|
 inX bs fun y8 bs =>
 nilX bs <|
 lpW L5 kb 5 [.int .i64 x1, .int .i64 x2, .int .i64 x3, .int .i64 x4, .int .u8 x5, .int .u8 x6, .int .u8 x7, .int .i64 x16, .int .i64 (mxI x1 0)] [y8] H
def f19_4 (Q : Value → AHeap → Prop) : PT := g19_4 Q (f19_l5 Q)

def g19_l2 (Q : Value → AHeap → Prop) (F4 : PT) (kb : KB) (vs : List Value) (bs : List (List Value)) (H : AHeap) : Prop :=
 inI .i64 vs fun x1 vs =>
 inI .i64 vs fun x2 vs =>
 inI .i64 vs fun x3 vs =>
 inI .i64 vs fun x4 vs =>
 inI .u8 vs fun x5 vs =>
 inI .u8 vs fun x6 vs =>
 inI .u8 vs fun x7 vs =>
 inI .i64 vs fun x16 vs =>
 nilK vs <|
 inX bs fun y8 bs =>
 nilX bs <|
 rI .i64 y8 3 fun x26 =>
 bif (decide ((x16 : Int) < (mnI (IntKind.wrap .i64 (x2 + x4)) x26))) then (
  F4 kb [.int .i64 x1, .int .i64 x2, .int .i64 x3, .int .i64 x4, .int .u8 x5, .int .u8 x6, .int .u8 x7, .int .i64 x16] [y8] H
 ) else (
  Q (.tuple ⟨[]⟩) H
 )
def f19_l2 (Q : Value → AHeap → Prop) : PT := g19_l2 Q (f19_4 Q)

/-- (kinescope/plane.Frame).Fill -/
def g19 (Q : Value → AHeap → Prop) (L2 : PT) (vs : List Value) (H : AHeap) : Prop :=
 inA 11 vs fun l0 vs =>
 inI .i64 vs fun x1 vs =>
 inI .i64 vs fun x2 vs =>
 inI .i64 vs fun x3 vs =>
 inI .i64 vs fun x4 vs =>
 inI .u8 vs fun x5 vs =>
 inI .u8 vs fun x6 vs =>
 inI .u8 vs fun x7 vs =>
 nilK vs <|
 gd (l0.length = 11) <|
 lpW L2 kb0 2 [.int .i64 x1, .int .i64 x2, .int .i64 x3, .int .i64 x4, .int .u8 x5, .int .u8 x6, .int .u8 x7, .int .i64 (mxI x2 0)] [l0] H
def f19 (vs : List Value) (H : AHeap) (Q : Value → AHeap → Prop) : Prop := g19 Q (f19_l2 Q) vs H

noncomputable def x19 (Q : Value → AHeap → Prop) (F6 F7 F3 F4 L5 L2 : PT) : Pc := pc Try.prog 66 [(8, 8), (24, 8), (25, 8), (37, 8), (38, 8), (44, 8), (50, 8), (58, 8)]
  [(6, ⟨[1, 2, 3, 4, 5, 6, 7, 16, 17], [(8, 8)], [8]⟩), (7, ⟨[1, 2, 3, 4, 5, 6, 7, 16, 17], [(8, 8)], [8]⟩), (3, ⟨[1, 2, 3, 4, 5, 6, 7, 16], [(8, 8)], [8]⟩), (4, ⟨[1, 2, 3, 4, 5, 6, 7, 16], [(8, 8)], [8]⟩)]
  [(5, ⟨[1, 2, 3, 4, 5, 6, 7, 16, 17], [(8, 8)], [8]⟩), (2, ⟨[1, 2, 3, 4, 5, 6, 7, 16], [(8, 8)], [8]⟩)]
  []
  (shOf [(6, F6), (7, F7), (3, F3), (4, F4)])
  (shOf [(5, L5), (2, L2)])
  [] Q
theorem o19_0 (Q : Value → AHeap → Prop) (F6 F7 F3 F4 L5 : PT) : cutOK (x19 Q F6 F7 F3 F4 L5 (g19_l2 Q F4)) (cutAt (bodyOf Try.f19) 0) := by
  refine cutOK_of (F := g19_l2 Q F4) (by kernel_rfl) ?_
  intro kb vs bs H h
  obtain ⟨_, _, rfl, h1⟩ := deI h
  obtain ⟨_, _, rfl, h2⟩ := deI h1
  obtain ⟨_, _, rfl, h3⟩ := deI h2
  obtain ⟨_, _, rfl, h4⟩ := deI h3
  obtain ⟨_, _, rfl, h5⟩ := deI h4
  obtain ⟨_, _, rfl, h6⟩ := deI h5
  obtain ⟨_, _, rfl, h7⟩ := deI h6
  obtain ⟨_, _, rfl, h8⟩ := deI h7
  obtain ⟨rfl, g⟩ := deN h8
  obtain ⟨_, _, rfl, g1⟩ := deX g
  obtain ⟨rfl, k⟩ := deNX g1
  exact Eq.mp (by kernel_rfl) k
theorem o19_1 (Q : Value → AHeap → Prop) (F6 F7 F3 L5 L2 : PT) : cutOK (x19 Q F6 F7 F3 (g19_4 Q L5) L5 L2) (cutAt (bodyOf Try.f19) 1) := by
  refine cutOK_of (F := g19_4 Q L5) (by kernel_rfl) ?_
  intro kb vs bs H h
  obtain ⟨_, _, rfl, h1⟩ := deI h
  obtain ⟨_, _, rfl, h2⟩ := deI h1
  obtain ⟨_, _, rfl, h3⟩ := deI h2
  obtain ⟨_, _, rfl, h4⟩ := deI h3
  obtain ⟨_, _, rfl, h5⟩ := deI h4
  obtain ⟨_, _, rfl, h6⟩ := deI h5
  obtain ⟨_, _, rfl, h7⟩ := deI h6
  obtain ⟨_, _, rfl, h8⟩ := deI h7
  obtain ⟨rfl, g⟩ := deN h8
  obtain ⟨_, _, rfl, g1⟩ := deX g
  obtain ⟨rfl, k⟩ := deNX g1
  exact Eq.mp (by kernel_rfl) k
theorem o19_2 (Q : Value → AHeap → Prop) (F6 F7 F4 L5 L2 : PT) : cutOK (x19 Q F6 F7 (g19_3 Q) F4 L5 L2) (cutAt (bodyOf Try.f19) 2) := by
  refine cutOK_of (F := g19_3 Q) (by kernel_rfl) ?_
  intro kb vs bs H h
  obtain ⟨_, _, rfl, h1⟩ := deI h
  obtain ⟨_, _, rfl, h2⟩ := deI h1
  obtain ⟨_, _, rfl, h3⟩ := deI h2
  obtain ⟨_, _, rfl, h4⟩ := deI h3
  obtain ⟨_, _, rfl, h5⟩ := deI h4
  obtain ⟨_, _, rfl, h6⟩ := deI h5
  obtain ⟨_, _, rfl, h7⟩ := deI h6
  obtain ⟨_, _, rfl, h8⟩ := deI h7
  obtain ⟨rfl, g⟩ := deN h8
  obtain ⟨_, _, rfl, g1⟩ := deX g
  obtain ⟨rfl, k⟩ := deNX g1
  exact Eq.mp (by kernel_rfl) k
theorem o19_3 (Q : Value → AHeap → Prop) (F6 F7 F3 F4 L2 : PT) : cutOK (x19 Q F6 F7 F3 F4 (g19_l5 Q F3 F7) L2) (cutAt (bodyOf Try.f19) 3) := by
  refine cutOK_of (F := g19_l5 Q F3 F7) (by kernel_rfl) ?_
  intro kb vs bs H h
  obtain ⟨_, _, rfl, h1⟩ := deI h
  obtain ⟨_, _, rfl, h2⟩ := deI h1
  obtain ⟨_, _, rfl, h3⟩ := deI h2
  obtain ⟨_, _, rfl, h4⟩ := deI h3
  obtain ⟨_, _, rfl, h5⟩ := deI h4
  obtain ⟨_, _, rfl, h6⟩ := deI h5
  obtain ⟨_, _, rfl, h7⟩ := deI h6
  obtain ⟨_, _, rfl, h8⟩ := deI h7
  obtain ⟨_, _, rfl, h9⟩ := deI h8
  obtain ⟨rfl, g⟩ := deN h9
  obtain ⟨_, _, rfl, g1⟩ := deX g
  obtain ⟨rfl, k⟩ := deNX g1
  exact Eq.mp (by kernel_rfl) k
theorem o19_4 (Q : Value → AHeap → Prop) (F6 F3 F4 L5 L2 : PT) : cutOK (x19 Q F6 (g19_7 Q F6) F3 F4 L5 L2) (cutAt (bodyOf Try.f19) 4) := by
  refine cutOK_of (F := g19_7 Q F6) (by kernel_rfl) ?_
  intro kb vs bs H h
  obtain ⟨_, _, rfl, h1⟩ := deI h
  obtain ⟨_, _, rfl, h2⟩ := deI h1
  obtain ⟨_, _, rfl, h3⟩ := deI h2
  obtain ⟨_, _, rfl, h4⟩ := deI h3
  obtain ⟨_, _, rfl, h5⟩ := deI h4
  obtain ⟨_, _, rfl, h6⟩ := deI h5
  obtain ⟨_, _, rfl, h7⟩ := deI h6
  obtain ⟨_, _, rfl, h8⟩ := deI h7
  obtain ⟨_, _, rfl, h9⟩ := deI h8
  obtain ⟨rfl, g⟩ := deN h9
  obtain ⟨_, _, rfl, g1⟩ := deX g
  obtain ⟨rfl, k⟩ := deNX g1
  exact Eq.mp (by kernel_rfl) k
theorem o19_5 (Q : Value → AHeap → Prop) (F7 F3 F4 L5 L2 : PT) : cutOK (x19 Q (g19_6 Q) F7 F3 F4 L5 L2) (cutAt (bodyOf Try.f19) 5) := by
  refine cutOK_of (F := g19_6 Q) (by kernel_rfl) ?_
  intro kb vs bs H h
  obtain ⟨_, _, rfl, h1⟩ := deI h
  obtain ⟨_, _, rfl, h2⟩ := deI h1
  obtain ⟨_, _, rfl, h3⟩ := deI h2
  obtain ⟨_, _, rfl, h4⟩ := deI h3
  obtain ⟨_, _, rfl, h5⟩ := deI h4
  obtain ⟨_, _, rfl, h6⟩ := deI h5
  obtain ⟨_, _, rfl, h7⟩ := deI h6
  obtain ⟨_, _, rfl, h8⟩ := deI h7
  obtain ⟨_, _, rfl, h9⟩ := deI h8
  obtain ⟨rfl, g⟩ := deN h9
  obtain ⟨_, _, rfl, g1⟩ := deX g
  obtain ⟨rfl, k⟩ := deNX g1
  exact Eq.mp (by kernel_rfl) k
theorem m19 {Q : Value → AHeap → Prop} (F6 F7 F3 F4 L5 L2 : PT) {vs : List Value} {H : AHeap} (h : g19 Q L2 vs H) : Nat.ble vs.length 66 = true ∧ interp (x19 Q F6 F7 F3 F4 L5 L2) kb0 (bodyOf Try.f19) [] (entry vs H) := by
  obtain ⟨_, _, rfl, h1⟩ := deA h
  obtain ⟨_, _, rfl, h2⟩ := deI h1
  obtain ⟨_, _, rfl, h3⟩ := deI h2
  obtain ⟨_, _, rfl, h4⟩ := deI h3
  obtain ⟨_, _, rfl, h5⟩ := deI h4
  obtain ⟨_, _, rfl, h6⟩ := deI h5
  obtain ⟨_, _, rfl, h7⟩ := deI h6
  obtain ⟨_, _, rfl, h8⟩ := deI h7
  obtain ⟨rfl, g⟩ := deN h8
  exact ⟨by kernel_rfl, Eq.mp (by kernel_rfl) g⟩
theorem c19 {vs : List Value} {H : AHeap} {Q : Value → AHeap → Prop} (h : f19 vs H Q) : call Try.prog 19 vs H Q :=
  call_of' noNG (X := x19 Q (f19_6 Q) (f19_7 Q) (f19_3 Q) (f19_4 Q) (f19_l5 Q) (f19_l2 Q)) (fn := Try.f19) (by kernel_rfl) (by kernel_rfl) (by kernel_rfl) (by kernel_rfl) (by kernel_rfl) (obl_of (n := 6) (by kernel_rfl) (by kernel_rfl) ⟨o19_0 Q (f19_6 Q) (f19_7 Q) (f19_3 Q) (f19_4 Q) (f19_l5 Q), o19_1 Q (f19_6 Q) (f19_7 Q) (f19_3 Q) (f19_l5 Q) (f19_l2 Q), o19_2 Q (f19_6 Q) (f19_7 Q) (f19_4 Q) (f19_l5 Q) (f19_l2 Q), o19_3 Q (f19_6 Q) (f19_7 Q) (f19_3 Q) (f19_4 Q) (f19_l2 Q), o19_4 Q (f19_6 Q) (f19_3 Q) (f19_4 Q) (f19_l5 Q) (f19_l2 Q), o19_5 Q (f19_7 Q) (f19_3 Q) (f19_4 Q) (f19_l5 Q) (f19_l2 Q), trivial⟩) (m19 (f19_6 Q) (f19_7 Q) (f19_3 Q) (f19_4 Q) (f19_l5 Q) (f19_l2 Q) h).1 (m19 (f19_6 Q) (f19_7 Q) (f19_3 Q) (f19_4 Q) (f19_l5 Q) (f19_l2 Q) h).2

/-! ## 22 (kinescope/search.Searcher).steps -/

def g22_8 (Q : Value → AHeap → Prop) (kb : KB) (vs : List Value) (bs : List (List Value)) (H : AHeap) : Prop :=
 inI .i64 vs fun x2 vs =>
 inI .i64 vs fun x3 vs =>
 inSl vs fun a9 n9 z9 vs =>
 inI .i64 vs fun x10 vs =>
 inI .i64 vs fun x11 vs =>
 inI .i64 vs fun x12 vs =>
 inI .i64 vs fun x13 vs =>
 nilK vs <|
 nilX bs <|
 kb 7 [.int .i64 x2, .int .i64 x3, .slice a9 n9 z9, .int .i64 x10, .int .i64 x11, .int .i64 x12, .int .i64 (IntKind.wrap .i64 (x13 + x2))] [] H
def f22_8 (Q : Value → AHeap → Prop) : PT := g22_8 Q

def g22_9 (Q : Value → AHeap → Prop) (F8 : PT) (kb : KB) (vs : List Value) (bs : List (List Value)) (H : AHeap) : Prop :=
 inI .i64 vs fun x2 vs =>
 inI .i64 vs fun x3 vs =>
 inSl vs fun a9 n9 z9 vs =>
 inI .i64 vs fun x10 vs =>
 inI .i64 vs fun x11 vs =>
 inI .i64 vs fun x12 vs =>
 inI .i64 vs fun x13 vs =>
 nilK vs <|
 nilX bs <|
 call Try.prog 14 [.int .i64 (IntKind.wrap .i64 (x10 + x13)), .int .i64 (IntKind.wrap .i64 (x11 + x12))] H fun r42 H42 =>
 asC r42 fun r42_2 i42 =>
 call Try.prog 23 [.complex .f64 r42_2 i42] H42 fun r44 H44 =>
 asB r44 fun c44 =>
 bif c44 then (
  newB H44 fun b47 =>
  srcW (AHeap.put H44 b47 (.cells [.complex .f64 r42_2 i42] 34 true)) (some ⟨b47, 0, none⟩) 1 1 fun q48 =>
  appW (AHeap.put H44 b47 (.cells [.complex .f64 r42_2 i42] 34 true)) 34 1 16 a9 n9 z9 q48 1 fun a48 n48 z48 H48 =>
  F8 kb [.int .i64 x2, .int .i64 x3, .slice a48 n48 z48, .int .i64 x10, .int .i64 x11, .int .i64 x12, .int .i64 x13] [] H48
 ) else (
  F8 kb [.int .i64 x2, .int .i64 x3, .slice a9 n9 z9, .int .i64 x10, .int .i64 x11, .int .i64 x12, .int .i64 x13] [] H44
 )
def f22_9 (Q : Value → AHeap → Prop) : PT := g22_9 Q (f22_8 Q)

def g22_5 (Q : Value → AHeap → Prop) (kb : KB) (vs : List Value) (bs : List (List Value)) (H : AHeap) : Prop :=
 inI .i64 vs fun x2 vs =>
 inI .i64 vs fun x3 vs =>
 inSl vs fun a9 n9 z9 vs =>
 inI .i64 vs fun x10 vs =>
 inI .i64 vs fun x11 vs =>
 inI .i64 vs fun x12 vs =>
 nilK vs <|
 nilX bs <|
 kb 4 [.int .i64 x2, .int .i64 x3, .slice a9 n9 z9, .int .i64 x10, .int .i64 x11, .int .i64 (IntKind.wrap .i64 (x12 + x2))] [] H
def f22_5 (Q : Value → AHeap → Prop) : PT := g22_5 Q

def g22_l7 (Q : Value → AHeap → Prop) (F5 F9 : PT) (kb : KB) (vs : List Value) (bs : List (List Value)) (H : AHeap) : Prop :=
 inI .i64 vs fun x2 vs =>
 inI .i64 vs fun x3 vs =>
 inSl vs fun a9 n9 z9 vs =>
 inI .i64 vs fun x10 vs =>
 inI .i64 vs fun x11 vs =>
 inI .i64 vs fun x12 vs =>
 inI .i64 vs fun x13 vs =>
 nilK vs <|
 nilX bs <|
 bif (decide ((x13 : Int) ≤ x3)) then (
  F9 kb [.int .i64 x2, .int .i64 x3, .slice a9 n9 z9, .int .i64 x10, .int .i64 x11, .int .i64 x12, .int .i64 x13] [] H
 ) else (
  F5 kb [.int .i64 x2, .int .i64 x3, .slice a9 n9 z9, .int .i64 x10, .int .i64 x11, .int .i64 x12] [] H
 )
def f22_l7 (Q : Value → AHeap → Prop) : PT := g22_l7 Q (f22_5 Q) (f22_9 Q)

def g22_6 (Q : Value → AHeap → Prop) (L7 : PT) (kb : KB) (vs : List Value) (bs : List (List Value)) (H : AHeap) : Prop :=
 inI .i64 vs fun x2 vs =>
 inI .i64 vs fun x3 vs =>
 inSl vs fun a9 n9 z9 vs =>
 inI .i64 vs fun x10 vs =>
 inI .i64 vs fun x11 vs =>
 inI .i64 vs fun x12 vs =>
 nilK vs <|
 nilX bs <|
 lpW L7 kb 7 [.int .i64 x2, .int .i64 x3, .slice a9 n9 z9, .int .i64 x10, .int .i64 x11, .int .i64 x12, .int .i64 (IntKind.wrap .i64 (0 - x3))] [] H
def f22_6 (Q : Value → AHeap → Prop) : PT := g22_6 Q (f22_l7 Q)

def g22_12 (Q : Value → AHeap → Prop) (kb : KB) (vs : List Value) (bs : List (List Value)) (H : AHeap) : Prop :=
 inSl vs fun a9 n9 z9 vs =>
 nilK vs <|
 nilX bs <|
 Q (.slice a9 n9 z9) H
def f22_12 (Q : Value → AHeap → Prop) : PT := g22_12 Q

def g22_l4 (Q : Value → AHeap → Prop) (F6 F12 : PT) (kb : KB) (vs : List Value) (bs : List (List Value)) (H : AHeap) : Prop :=
 inI .i64 vs fun x2 vs =>
 inI .i64 vs fun x3 vs =>
 inSl vs fun a9 n9 z9 vs =>
 inI .i64 vs fun x10 vs =>
 inI .i64 vs fun x11 vs =>
 inI .i64 vs fun x12 vs =>
 nilK vs <|
 nilX bs <|
 bif (decide ((x12 : Int) ≤ x3)) then (
  F6 kb [.int .i64 x2, .int .i64 x3, .slice a9 n9 z9, .int .i64 x10, .int .i64 x11, .int .i64 x12] [] H
 ) else (
  F12 kb [.slice a9 n9 z9] [] H
 )
def f22_l4 (Q : Value → AHeap → Prop) : PT := g22_l4 Q (f22_6 Q) (f22_12 Q)

/-- (kinescope/search.Searcher).steps -/
def g22 (Q : Value → AHeap → Prop) (L4 : PT) (vs : List Value) (H : AHeap) : Prop :=
 inA 2 vs fun l0 vs =>
 inC vs fun r1 i1 vs =>
 inI .i64 vs fun x2 vs =>
 inI .i64 vs fun x3 vs =>
 nilK vs <|
 gd (l0.length = 2) <|
 call Try.prog 12 [.complex .f64 r1 i1] H fun r17 H17 =>
 tupK r17 fun l =>
 inI .i64 l fun x17a l_2 =>
 inI .i64 l_2 fun x17b l_3 =>
 nilK l_3 <|
 lpW L4 kb0 4 [.int .i64 x2, .int .i64 x3, .slice none 0 0, .int .i64 x17a, .int .i64 x17b, .int .i64 (IntKind.wrap .i64 (0 - x3))] [] H17
def f22 (vs : List Value) (H : AHeap) (Q : Value → AHeap → Prop) : Prop := g22 Q (f22_l4 Q) vs H

noncomputable def x22 (Q : Value → AHeap → Prop) (F8 F9 F5 F6 F12 L7 L4 : PT) : Pc := pc Try.prog 50 [(4, 4)]
  [(8, ⟨[2, 3, 9, 10, 11, 12, 13], [], []⟩), (9, ⟨[2, 3, 9, 10, 11, 12, 13], [], []⟩), (5, ⟨[2, 3, 9, 10, 11, 12], [], []⟩), (6, ⟨[2, 3, 9, 10, 11, 12], [], []⟩), (12, ⟨[9], [], []⟩)]
  [(7, ⟨[2, 3, 9, 10, 11, 12, 13], [], []⟩), (4, ⟨[2, 3, 9, 10, 11, 12], [], []⟩)]
  []
  (shOf [(8, F8), (9, F9), (5, F5), (6, F6), (12, F12)])
  (shOf [(7, L7), (4, L4)])
  [.tmp 8] Q
theorem o22_0 (Q : Value → AHeap → Prop) (F8 F9 F5 F6 L7 L4 : PT) : cutOK (x22 Q F8 F9 F5 F6 (g22_12 Q) L7 L4) (cutAt (bodyOf Try.f22) 0) := by
  refine cutOK_of (F := g22_12 Q) (by kernel_rfl) ?_
  intro kb vs bs H h
  obtain ⟨_, _, _, _, rfl, h1⟩ := deSl h
  obtain ⟨rfl, g⟩ := deN h1
  obtain ⟨rfl, k⟩ := deNX g
  exact Eq.mp (by kernel_rfl) k
theorem o22_1 (Q : Value → AHeap → Prop) (F8 F9 F5 F6 F12 L7 : PT) : cutOK (x22 Q F8 F9 F5 F6 F12 L7 (g22_l4 Q F6 F12)) (cutAt (bodyOf Try.f22) 1) := by
  refine cutOK_of (F := g22_l4 Q F6 F12) (by kernel_rfl) ?_
  intro kb vs bs H h
  obtain ⟨_, _, rfl, h1⟩ := deI h
  obtain ⟨_, _, rfl, h2⟩ := deI h1
  obtain ⟨_, _, _, _, rfl, h3⟩ := deSl h2
  obtain ⟨_, _, rfl, h4⟩ := deI h3
  obtain ⟨_, _, rfl, h5⟩ := deI h4
  obtain ⟨_, _, rfl, h6⟩ := deI h5
  obtain ⟨rfl, g⟩ := deN h6
  obtain ⟨rfl, k⟩ := deNX g
  exact Eq.mp (by kernel_rfl) k
theorem o22_2 (Q : Value → AHeap → Prop) (F8 F9 F5 F12 L7 L4 : PT) : cutOK (x22 Q F8 F9 F5 (g22_6 Q L7) F12 L7 L4) (cutAt (bodyOf Try.f22) 2) := by
  refine cutOK_of (F := g22_6 Q L7) (by kernel_rfl) ?_
  intro kb vs bs H h
  obtain ⟨_, _, rfl, h1⟩ := deI h
  obtain ⟨_, _, rfl, h2⟩ := deI h1
  obtain ⟨_, _, _, _, rfl, h3⟩ := deSl h2
  obtain ⟨_, _, rfl, h4⟩ := deI h3
  obtain ⟨_, _, rfl, h5⟩ := deI h4
  obtain ⟨_, _, rfl, h6⟩ := deI h5
  obtain ⟨rfl, g⟩ := deN h6
  obtain ⟨rfl, k⟩ := deNX g
  exact Eq.mp (by kernel_rfl) k
theorem o22_3 (Q : Value → AHeap → Prop) (F8 F9 F6 F12 L7 L4 : PT) : cutOK (x22 Q F8 F9 (g22_5 Q) F6 F12 L7 L4) (cutAt (bodyOf Try.f22) 3) := by
  refine cutOK_of (F := g22_5 Q) (by kernel_rfl) ?_
  intro kb vs bs H h
  obtain ⟨_, _, rfl, h1⟩ := deI h
  obtain ⟨_, _, rfl, h2⟩ := deI h1
  obtain ⟨_, _, _, _, rfl, h3⟩ := deSl h2
  obtain ⟨_, _, rfl, h4⟩ := deI h3
  obtain ⟨_, _, rfl, h5⟩ := deI h4
  obtain ⟨_, _, rfl, h6⟩ := deI h5
  obtain ⟨rfl, g⟩ := deN h6
  obtain ⟨rfl, k⟩ := deNX g
  exact Eq.mp (by kernel_rfl) k
theorem o22_4 (Q : Value → AHeap → Prop) (F8 F9 F5 F6 F12 L4 : PT) : cutOK (x22 Q F8 F9 F5 F6 F12 (g22_l7 Q F5 F9) L4) (cutAt (bodyOf Try.f22) 4) := by
  refine cutOK_of (F := g22_l7 Q F5 F9) (by kernel_rfl) ?_
  intro kb vs bs H h
  obtain ⟨_, _, rfl, h1⟩ := deI h
  obtain ⟨_, _, rfl, h2⟩ := deI h1
  obtain ⟨_, _, _, _, rfl, h3⟩ := deSl h2
  obtain ⟨_, _, rfl, h4⟩ := deI h3
  obtain ⟨_, _, rfl, h5⟩ := deI h4
  obtain ⟨_, _, rfl, h6⟩ := deI h5
  obtain ⟨_, _, rfl, h7⟩ := deI h6
  obtain ⟨rfl, g⟩ := deN h7
  obtain ⟨rfl, k⟩ := deNX g
  exact Eq.mp (by kernel_rfl) k
theorem o22_5 (Q : Value → AHeap → Prop) (F8 F5 F6 F12 L7 L4 : PT) : cutOK (x22 Q F8 (g22_9 Q F8) F5 F6 F12 L7 L4) (cutAt (bodyOf Try.f22) 5) := by
  refine cutOK_of (F := g22_9 Q F8) (by kernel_rfl) ?_
  intro kb vs bs H h
  obtain ⟨_, _, rfl, h1⟩ := deI h
  obtain ⟨_, _, rfl, h2⟩ := deI h1
  obtain ⟨_, _, _, _, rfl, h3⟩ := deSl h2
  obtain ⟨_, _, rfl, h4⟩ := deI h3
  obtain ⟨_, _, rfl, h5⟩ := deI h4
  obtain ⟨_, _, rfl, h6⟩ := deI h5
  obtain ⟨_, _, rfl, h7⟩ := deI h6
  obtain ⟨rfl, g⟩ := deN h7
  obtain ⟨rfl, k⟩ := deNX g
  exact Eq.mp (by kernel_rfl) k
theorem o22_6 (Q : Value → AHeap → Prop) (F9 F5 F6 F12 L7 L4 : PT) : cutOK (x22 Q (g22_8 Q) F9 F5 F6 F12 L7 L4) (cutAt (bodyOf Try.f22) 6) := by
  refine cutOK_of (F := g22_8 Q) (by kernel_rfl) ?_
  intro kb vs bs H h
  obtain ⟨_, _, rfl, h1⟩ := deI h
  obtain ⟨_, _, rfl, h2⟩ := deI h1
  obtain ⟨_, _, _, _, rfl, h3⟩ := deSl h2
  obtain ⟨_, _, rfl, h4⟩ := deI h3
  obtain ⟨_, _, rfl, h5⟩ := deI h4
  obtain ⟨_, _, rfl, h6⟩ := deI h5
  obtain ⟨_, _, rfl, h7⟩ := deI h6
  obtain ⟨rfl, g⟩ := deN h7
  obtain ⟨rfl, k⟩ := deNX g
  exact Eq.mp (by kernel_rfl) k
theorem m22 {Q : Value → AHeap → Prop} (F8 F9 F5 F6 F12 L7 L4 : PT) {vs : List Value} {H : AHeap} (h : g22 Q L4 vs H) : Nat.ble vs.length 50 = true ∧ interp (x22 Q F8 F9 F5 F6 F12 L7 L4) kb0 (bodyOf Try.f22) [] (entry vs H) := by
  obtain ⟨_, _, rfl, h1⟩ := deA h
  obtain ⟨_, _, _, rfl, h2⟩ := deC h1
  obtain ⟨_, _, rfl, h3⟩ := deI h2
  obtain ⟨_, _, rfl, h4⟩ := deI h3
  obtain ⟨rfl, g⟩ := deN h4
  exact ⟨by kernel_rfl, Eq.mp (by kernel_rfl) g⟩
theorem c22 {vs : List Value} {H : AHeap} {Q : Value → AHeap → Prop} (h : f22 vs H Q) : call Try.prog 22 vs H Q :=
  call_of' noNG (X := x22 Q (f22_8 Q) (f22_9 Q) (f22_5 Q) (f22_6 Q) (f22_12 Q) (f22_l7 Q) (f22_l4 Q)) (fn := Try.f22) (by kernel_rfl) (by kernel_rfl) (by kernel_rfl) (by kernel_rfl) (by kernel_rfl) (obl_of (n := 7) (by kernel_rfl) (by kernel_rfl) ⟨o22_0 Q (f22_8 Q) (f22_9 Q) (f22_5 Q) (f22_6 Q) (f22_l7 Q) (f22_l4 Q), o22_1 Q (f22_8 Q) (f22_9 Q) (f22_5 Q) (f22_6 Q) (f22_12 Q) (f22_l7 Q), o22_2 Q (f22_8 Q) (f22_9 Q) (f22_5 Q) (f22_12 Q) (f22_l7 Q) (f22_l4 Q), o22_3 Q (f22_8 Q) (f22_9 Q) (f22_6 Q) (f22_12 Q) (f22_l7 Q) (f22_l4 Q), o22_4 Q (f22_8 Q) (f22_9 Q) (f22_5 Q) (f22_6 Q) (f22_12 Q) (f22_l4 Q), o22_5 Q (f22_8 Q) (f22_5 Q) (f22_6 Q) (f22_12 Q) (f22_l7 Q) (f22_l4 Q), o22_6 Q (f22_9 Q) (f22_5 Q) (f22_6 Q) (f22_12 Q) (f22_l7 Q) (f22_l4 Q), trivial⟩) (m22 (f22_8 Q) (f22_9 Q) (f22_5 Q) (f22_6 Q) (f22_12 Q) (f22_l7 Q) (f22_l4 Q) h).1 (m22 (f22_8 Q) (f22_9 Q) (f22_5 Q) (f22_6 Q) (f22_12 Q) (f22_l7 Q) (f22_l4 Q) h).2

/-! ## 29 kinescope/kinescopelaw13.Ref -/

/-- kinescope/kinescopelaw13.Ref -/
def g29 (Q : Value → AHeap → Prop) (vs : List Value) (H : AHeap) : Prop :=
 inA 3 vs fun l0 vs =>
 nilK vs <|
 gd (l0.length = 3) <|
 rI .i64 l0 0 fun x4 =>
 rI .i64 l0 1 fun x6 =>
 rSl l0 2 fun a8 n8 z8 =>
 Q (.agg ⟨[.int .i64 x4, .int .i64 x6, .slice a8 n8 z8]⟩) H
def f29 (vs : List Value) (H : AHeap) (Q : Value → AHeap → Prop) : Prop := g29 Q vs H

noncomputable def x29 (Q : Value → AHeap → Prop) : Pc := pc Try.prog 10 [(1, 1), (2, 2), (3, 1), (5, 1), (7, 1)]
  []
  []
  []
  (shOf [])
  (shOf [])
  [.cell 2 73] Q
theorem m29 {Q : Value → AHeap → Prop} {vs : List Value} {H : AHeap} (h : g29 Q vs H) : Nat.ble vs.length 10 = true ∧ interp (x29 Q) kb0 (bodyOf Try.f29) [] (entry vs H) := by
  obtain ⟨_, _, rfl, h1⟩ := deA h
  obtain ⟨rfl, g⟩ := deN h1
  exact ⟨by kernel_rfl, Eq.mp (by kernel_rfl) g⟩
theorem c29 {vs : List Value} {H : AHeap} {Q : Value → AHeap → Prop} (h : f29 vs H Q) : call Try.prog 29 vs H Q :=
  call_of' noNG (X := x29 Q) (fn := Try.f29) (by kernel_rfl) (by kernel_rfl) (by kernel_rfl) (by kernel_rfl) (by kernel_rfl) (obl_of (n := 0) (by kernel_rfl) (by kernel_rfl) trivial) (m29 h).1 (m29 h).2

/-! ## 31 kinescope/plane.New -/

def g31_7 (Q : Value → AHeap → Prop) (kb : KB) (vs : List Value) (bs : List (List Value)) (H : AHeap) : Prop :=
 inI .u8 vs fun x2 vs =>
 inI .i64 vs fun x24 vs =>
 inI .i64 vs fun x25 vs =>
 nilK vs <|
 inX bs fun y6 bs =>
 inX bs fun y7 bs =>
 nilX bs <|
 kb 4 [.int .u8 x2, .int .i64 x24, .int .i64 (IntKind.wrap .i64 (x25 + 1))] [y6, y7] H
def f31_7 (Q : Value → AHeap → Prop) : PT := g31_7 Q

def g31_5 (Q : Value → AHeap → Prop) (F7 : PT) (kb : KB) (vs : List Value) (bs : List (List Value)) (H : AHeap) : Prop :=
 inI .u8 vs fun x2 vs =>
 inI .i64 vs fun x24 vs =>
 inI .i64 vs fun x25 vs =>
 nilK vs <|
 inX bs fun y6 bs =>
 inX bs fun y7 bs =>
 nilX bs <|
 rSl y7 2 fun a29 n29 z29 =>
 hp a29 fun b32 o32 =>
 aidx x25 n29 fun j32 =>
 wrH H b32 fun y e =>
 gd (o32 + j32 * 1 < y.length) <|
 F7 kb [.int .u8 x2, .int .i64 x24, .int .i64 x25] [y6, y7] (AHeap.put H b32 (.cells (List.set y (o32 + j32 * 1) (.int .u8 x2)) e true))
def f31_5 (Q : Value → AHeap → Prop) : PT := g31_5 Q (f31_7 Q)

def g31_8 (Q : Value → AHeap → Prop) (kb : KB) (vs : List Value) (bs : List (List Value)) (H : AHeap) : Prop :=
 nilK vs <|
 inX bs fun y6 bs =>
 inX bs fun y7 bs =>
 nilX bs <|
 rA 3 y7 0 fun l34 =>
 gd (l34.length = 3 ∧ 0 + 3 ≤ y6.length) <|
 rA 3 (stC y6 0 l34) 0 fun l =>
 Q (.agg ⟨l⟩) H
def f31_8 (Q : Value → AHeap → Prop) : PT := g31_8 Q

def g31_l4 (Q : Value → AHeap → Prop) (F5 F8 : PT) (kb : KB) (vs : List Value) (bs : List (List Value)) (H : AHeap) : Prop :=
 inI .u8 vs fun x2 vs =>
 inI .i64 vs fun x24 vs =>
 inI .i64 vs fun x25 vs =>
 nilK vs <|
 inX bs fun y6 bs =>
 inX bs fun y7 bs =>
 nilX bs <|
 bif (decide ((x25 : Int) < x24)) then (
  F5 kb [.int .u8 x2, .int .i64 x24, .int .i64 x25] [y6, y7] H
 ) else (
  F8 kb [] [y6, y7] H
 )
def f31_l4 (Q : Value → AHeap → Prop) : PT := g31_l4 Q (f31_5 Q) (f31_8 Q)

/-- kinescope/plane.New -/
def g31 (Q : Value → AHeap → Prop) (L4 : PT) (vs : List Value) (H : AHeap) : Prop :=
 inI .i64 vs fun x0 vs =>
 inI .i64 vs fun x1 vs =>
 inI .u8 vs fun x2 vs =>
 nilK vs <|
 mkW H 5 [.int .u8 0] 1 (IntKind.wrap .i64 ((mnI (mxI x0 0) 1024) * (mnI (mxI x1 0) 1024))) (IntKind.wrap .i64 ((mnI (mxI x0 0) 1024) * (mnI (mxI x1 0) 1024))) fun a20 n20 z20 H20 =>
 lpW L4 kb0 4 [.int .u8 x2, .int .i64 (n20 : Int), .int .i64 0] [[.int .i64 0, .int .i64 0, .slice none 0 0], [.int .i64 (mnI (mxI x0 0) 1024), .int .i64 (mnI (mxI x1 0) 1024), .slice a20 n20 z20]] H20
def f31 (vs : List Value) (H : AHeap) (Q : Value → AHeap → Prop) : Prop := g31 Q (f31_l4 Q) vs H

noncomputable def x31 (Q : Value → AHeap → Prop) (F7 F5 F8 L4 : PT) : Pc := pc Try.prog 35 [(6, 6), (7, 7), (22, 7), (28, 7)]
  [(7, ⟨[2, 24, 25], [(6, 6), (7, 7)], [6, 7]⟩), (5, ⟨[2, 24, 25], [(6, 6), (7, 7)], [6, 7]⟩), (8, ⟨[], [(6, 6), (7, 7)], [6, 7]⟩)]
  [(4, ⟨[2, 24, 25], [(6, 6), (7, 7)], [6, 7]⟩)]
  []
  (shOf [(7, F7), (5, F5), (8, F8)])
  (shOf [(4, L4)])
  [.cell 6 29] Q
theorem o31_0 (Q : Value → AHeap → Prop) (F7 F5 L4 : PT) : cutOK (x31 Q F7 F5 (g31_8 Q) L4) (cutAt (bodyOf Try.f31) 0) := by
  refine cutOK_of (F := g31_8 Q) (by kernel_rfl) ?_
  intro kb vs bs H h
  obtain ⟨rfl, g⟩ := deN h
  obtain ⟨_, _, rfl, g1⟩ := deX g
  obtain ⟨_, _, rfl, g2⟩ := deX g1
  obtain ⟨rfl, k⟩ := deNX g2
  exact Eq.mp (by kernel_rfl) k
theorem o31_1 (Q : Value → AHeap → Prop) (F7 F5 F8 : PT) : cutOK (x31 Q F7 F5 F8 (g31_l4 Q F5 F8)) (cutAt (bodyOf Try.f31) 1) := by
  refine cutOK_of (F := g31_l4 Q F5 F8) (by kernel_rfl) ?_
  intro kb vs bs H h
  obtain ⟨_, _, rfl, h1⟩ := deI h
  obtain ⟨_, _, rfl, h2⟩ := deI h1
  obtain ⟨_, _, rfl, h3⟩ := deI h2
  obtain ⟨rfl, g⟩ := deN h3
  obtain ⟨_, _, rfl, g1⟩ := deX g
  obtain ⟨_, _, rfl, g2⟩ := deX g1
  obtain ⟨rfl, k⟩ := deNX g2
  exact Eq.mp (by kernel_rfl) k
theorem o31_2 (Q : Value → AHeap → Prop) (F7 F8 L4 : PT) : cutOK (x31 Q F7 (g31_5 Q F7) F8 L4) (cutAt (bodyOf Try.f31) 2) := by
  refine cutOK_of (F := g31_5 Q F7) (by kernel_rfl) ?_
  intro kb vs bs H h
  obtain ⟨_, _, rfl, h1⟩ := deI h
  obtain ⟨_, _, rfl, h2⟩ := deI h1
  obtain ⟨_, _, rfl, h3⟩ := deI h2
  obtain ⟨rfl, g⟩ := deN h3
  obtain ⟨_, _, rfl, g1⟩ := deX g
  obtain ⟨_, _, rfl, g2⟩ := deX g1
  obtain ⟨rfl, k⟩ := deNX g2
  exact Eq.mp (by kernel_rfl) k
theorem o31_3 (Q : Value → AHeap → Prop) (F5 F8 L4 : PT) : cutOK (x31 Q (g31_7 Q) F5 F8 L4) (cutAt (bodyOf Try.f31) 3) := by
  refine cutOK_of (F := g31_7 Q) (by kernel_rfl) ?_
  intro kb vs bs H h
  obtain ⟨_, _, rfl, h1⟩ := deI h
  obtain ⟨_, _, rfl, h2⟩ := deI h1
  obtain ⟨_, _, rfl, h3⟩ := deI h2
  obtain ⟨rfl, g⟩ := deN h3
  obtain ⟨_, _, rfl, g1⟩ := deX g
  obtain ⟨_, _, rfl, g2⟩ := deX g1
  obtain ⟨rfl, k⟩ := deNX g2
  exact Eq.mp (by kernel_rfl) k
theorem m31 {Q : Value → AHeap → Prop} (F7 F5 F8 L4 : PT) {vs : List Value} {H : AHeap} (h : g31 Q L4 vs H) : Nat.ble vs.length 35 = true ∧ interp (x31 Q F7 F5 F8 L4) kb0 (bodyOf Try.f31) [] (entry vs H) := by
  obtain ⟨_, _, rfl, h1⟩ := deI h
  obtain ⟨_, _, rfl, h2⟩ := deI h1
  obtain ⟨_, _, rfl, h3⟩ := deI h2
  obtain ⟨rfl, g⟩ := deN h3
  exact ⟨by kernel_rfl, Eq.mp (by kernel_rfl) g⟩
theorem c31 {vs : List Value} {H : AHeap} {Q : Value → AHeap → Prop} (h : f31 vs H Q) : call Try.prog 31 vs H Q :=
  call_of' noNG (X := x31 Q (f31_7 Q) (f31_5 Q) (f31_8 Q) (f31_l4 Q)) (fn := Try.f31) (by kernel_rfl) (by kernel_rfl) (by kernel_rfl) (by kernel_rfl) (by kernel_rfl) (obl_of (n := 4) (by kernel_rfl) (by kernel_rfl) ⟨o31_0 Q (f31_7 Q) (f31_5 Q) (f31_l4 Q), o31_1 Q (f31_7 Q) (f31_5 Q) (f31_8 Q), o31_2 Q (f31_7 Q) (f31_8 Q) (f31_l4 Q), o31_3 Q (f31_5 Q) (f31_8 Q) (f31_l4 Q), trivial⟩) (m31 (f31_7 Q) (f31_5 Q) (f31_8 Q) (f31_l4 Q) h).1 (m31 (f31_7 Q) (f31_5 Q) (f31_8 Q) (f31_l4 Q) h).2

/-! ## 33 kinescope/search.whole -/

def g33_6 (Q : Value → AHeap → Prop) (kb : KB) (vs : List Value) (bs : List (List Value)) (H : AHeap) : Prop :=
 inI .i64 vs fun x2 vs =>
 inC vs fun r3 i3 vs =>
 inB vs fun c4 vs =>
 inI .i64 vs fun x11 vs =>
 inI .i64 vs fun x13 vs =>
 nilK vs <|
 inX bs fun y5 bs =>
 inX bs fun y6 bs =>
 nilX bs <|
 kb 3 [.int .i64 x2, .complex .f64 r3 i3, .bool c4, .int .i64 x11, .int .i64 (IntKind.wrap .i64 (x13 + 1))] [y5, y6] H
def f33_6 (Q : Value → AHeap → Prop) : PT := g33_6 Q

def g33_4 (Q : Value → AHeap → Prop) (F6 : PT) (kb : KB) (vs : List Value) (bs : List (List Value)) (H : AHeap) : Prop :=
 inI .i64 vs fun x2 vs =>
 inC vs fun r3 i3 vs =>
 inB vs fun c4 vs =>
 inI .i64 vs fun x11 vs =>
 inI .i64 vs fun x13 vs =>
 nilK vs <|
 inX bs fun y5 bs =>
 inX bs fun y6 bs =>
 nilX bs <|
 rA 11 y5 0 fun l17 =>
 rA 11 y6 0 fun l18 =>
 call Try.prog 21 [.agg ⟨l17⟩, .agg ⟨l18⟩, .int .i64 x2, .int .i64 x13, .complex .f64 r3 i3, .bool c4] H fun r23 H23 =>
 asI .i64 r23 fun x23 =>
 F6 kb [.int .i64 x2, .complex .f64 r3 i3, .bool c4, .int .i64 (IntKind.wrap .i64 (x11 + x23)), .int .i64 x13] [y5, y6] H23
def f33_4 (Q : Value → AHeap → Prop) : PT := g33_4 Q (f33_6 Q)

def g33_7 (Q : Value → AHeap → Prop) (kb : KB) (vs : List Value) (bs : List (List Value)) (H : AHeap) : Prop :=
 inI .i64 vs fun x11 vs =>
 nilK vs <|
 nilX bs <|
 Q (.int .i64 x11) H
def f33_7 (Q : Value → AHeap → Prop) : PT := g33_7 Q

def g33_l3 (Q : Value → AHeap → Prop) (F4 F7 : PT) (kb : KB) (vs : List Value) (bs : List (List Value)) (H : AHeap) : Prop :=
 inI .i64 vs fun x2 vs =>
 inC vs fun r3 i3 vs =>
 inB vs fun c4 vs =>
 inI .i64 vs fun x11 vs =>
 inI .i64 vs fun x13 vs =>
 nilK vs <|
 inX bs fun y5 bs =>
 inX bs fun y6 bs =>
 nilX bs <|
 bif (decide ((x13 : Int) < 4)) then (
  F4 kb [.int .i64 x2, .complex .f64 r3 i3, .bool c4, .int .i64 x11, .int .i64 x13] [y5, y6] H
 ) else (
  F7 kb [.int .i64 x11] [] H
 )
def f33_l3 (Q : Value → AHeap → Prop) : PT := g33_l3 Q (f33_4 Q) (f33_7 Q)

/-- kinescope/search.whole -/
def g33 (Q : Value → AHeap → Prop) (L3 : PT) (vs : List Value) (H : AHeap) : Prop :=
 inA 11 vs fun l0 vs =>
 inA 11 vs fun l1 vs =>
 inI .i64 vs fun x2 vs =>
 inC vs fun r3 i3 vs =>
 inB vs fun c4 vs =>
 nilK vs <|
 gd (l0.length = 11) <|
 gd (l1.length = 11) <|
 lpW L3 kb0 3 [.int .i64 x2, .complex .f64 r3 i3, .bool c4, .int .i64 0, .int .i64 0] [l0, l1] H
def f33 (vs : List Value) (H : AHeap) (Q : Value → AHeap → Prop) : Prop := g33 Q (f33_l3 Q) vs H

noncomputable def x33 (Q : Value → AHeap → Prop) (F6 F4 F7 L3 : PT) : Pc := pc Try.prog 27 [(5, 5), (6, 6)]
  [(6, ⟨[2, 3, 4, 11, 13], [(5, 5), (6, 6)], [5, 6]⟩), (4, ⟨[2, 3, 4, 11, 13], [(5, 5), (6, 6)], [5, 6]⟩), (7, ⟨[11], [], []⟩)]
  [(3, ⟨[2, 3, 4, 11, 13], [(5, 5), (6, 6)], [5, 6]⟩)]
  []
  (shOf [(6, F6), (4, F4), (7, F7)])
  (shOf [(3, L3)])
  [.tmp 10] Q
theorem o33_0 (Q : Value → AHeap → Prop) (F6 F4 L3 : PT) : cutOK (x33 Q F6 F4 (g33_7 Q) L3) (cutAt (bodyOf Try.f33) 0) := by
  refine cutOK_of (F := g33_7 Q) (by kernel_rfl) ?_
  intro kb vs bs H h
  obtain ⟨_, _, rfl, h1⟩ := deI h
  obtain ⟨rfl, g⟩ := deN h1
  obtain ⟨rfl, k⟩ := deNX g
  exact Eq.mp (by kernel_rfl) k
theorem o33_1 (Q : Value → AHeap → Prop) (F6 F4 F7 : PT) : cutOK (x33 Q F6 F4 F7 (g33_l3 Q F4 F7)) (cutAt (bodyOf Try.f33) 1) := by
  refine cutOK_of (F := g33_l3 Q F4 F7) (by kernel_rfl) ?_
  intro kb vs bs H h
  obtain ⟨_, _, rfl, h1⟩ := deI h
  obtain ⟨_, _, _, rfl, h2⟩ := deC h1
  obtain ⟨_, _, rfl, h3⟩ := deB h2
  obtain ⟨_, _, rfl, h4⟩ := deI h3
  obtain ⟨_, _, rfl, h5⟩ := deI h4
  obtain ⟨rfl, g⟩ := deN h5
  obtain ⟨_, _, rfl, g1⟩ := deX g
  obtain ⟨_, _, rfl, g2⟩ := deX g1
  obtain ⟨rfl, k⟩ := deNX g2
  exact Eq.mp (by kernel_rfl) k
theorem o33_2 (Q : Value → AHeap → Prop) (F6 F7 L3 : PT) : cutOK (x33 Q F6 (g33_4 Q F6) F7 L3) (cutAt (bodyOf Try.f33) 2) := by
  refine cutOK_of (F := g33_4 Q F6) (by kernel_rfl) ?_
  intro kb vs bs H h
  obtain ⟨_, _, rfl, h1⟩ := deI h
  obtain ⟨_, _, _, rfl, h2⟩ := deC h1
  obtain ⟨_, _, rfl, h3⟩ := deB h2
  obtain ⟨_, _, rfl, h4⟩ := deI h3
  obtain ⟨_, _, rfl, h5⟩ := deI h4
  obtain ⟨rfl, g⟩ := deN h5
  obtain ⟨_, _, rfl, g1⟩ := deX g
  obtain ⟨_, _, rfl, g2⟩ := deX g1
  obtain ⟨rfl, k⟩ := deNX g2
  exact Eq.mp (by kernel_rfl) k
theorem o33_3 (Q : Value → AHeap → Prop) (F4 F7 L3 : PT) : cutOK (x33 Q (g33_6 Q) F4 F7 L3) (cutAt (bodyOf Try.f33) 3) := by
  refine cutOK_of (F := g33_6 Q) (by kernel_rfl) ?_
  intro kb vs bs H h
  obtain ⟨_, _, rfl, h1⟩ := deI h
  obtain ⟨_, _, _, rfl, h2⟩ := deC h1
  obtain ⟨_, _, rfl, h3⟩ := deB h2
  obtain ⟨_, _, rfl, h4⟩ := deI h3
  obtain ⟨_, _, rfl, h5⟩ := deI h4
  obtain ⟨rfl, g⟩ := deN h5
  obtain ⟨_, _, rfl, g1⟩ := deX g
  obtain ⟨_, _, rfl, g2⟩ := deX g1
  obtain ⟨rfl, k⟩ := deNX g2
  exact Eq.mp (by kernel_rfl) k
theorem m33 {Q : Value → AHeap → Prop} (F6 F4 F7 L3 : PT) {vs : List Value} {H : AHeap} (h : g33 Q L3 vs H) : Nat.ble vs.length 27 = true ∧ interp (x33 Q F6 F4 F7 L3) kb0 (bodyOf Try.f33) [] (entry vs H) := by
  obtain ⟨_, _, rfl, h1⟩ := deA h
  obtain ⟨_, _, rfl, h2⟩ := deA h1
  obtain ⟨_, _, rfl, h3⟩ := deI h2
  obtain ⟨_, _, _, rfl, h4⟩ := deC h3
  obtain ⟨_, _, rfl, h5⟩ := deB h4
  obtain ⟨rfl, g⟩ := deN h5
  exact ⟨by kernel_rfl, Eq.mp (by kernel_rfl) g⟩
theorem c33 {vs : List Value} {H : AHeap} {Q : Value → AHeap → Prop} (h : f33 vs H Q) : call Try.prog 33 vs H Q :=
  call_of' noNG (X := x33 Q (f33_6 Q) (f33_4 Q) (f33_7 Q) (f33_l3 Q)) (fn := Try.f33) (by kernel_rfl) (by kernel_rfl) (by kernel_rfl) (by kernel_rfl) (by kernel_rfl) (obl_of (n := 4) (by kernel_rfl) (by kernel_rfl) ⟨o33_0 Q (f33_6 Q) (f33_4 Q) (f33_l3 Q), o33_1 Q (f33_6 Q) (f33_4 Q) (f33_7 Q), o33_2 Q (f33_6 Q) (f33_7 Q) (f33_l3 Q), o33_3 Q (f33_4 Q) (f33_7 Q) (f33_l3 Q), trivial⟩) (m33 (f33_6 Q) (f33_4 Q) (f33_7 Q) (f33_l3 Q) h).1 (m33 (f33_6 Q) (f33_4 Q) (f33_7 Q) (f33_l3 Q) h).2

end Go.Am
