import Derived.Test.YtmlojdbahlfiaaaDoorProg
import Derived.Below
import Derived.ChangeArms
import Derived.SizedLaws
import Derived.Test.YtmlojdbahlfiaaaDoorM1SearchLess
set_option linter.unusedVariables false
set_option maxRecDepth 8000
set_option maxHeartbeats 2000000
namespace Go.Proofs.YtmlojdbahlfiaaaDoor
open Go.Px
def strT1_69c1 : ByteArray := ⟨#[48, 49, 50, 51, 52, 53, 54, 55, 56, 57, 97, 98, 99, 100, 101, 102, 103, 104, 105, 106, 107, 108, 109, 110, 111, 112, 113, 114, 115, 116, 117, 118, 119, 120, 121, 122]⟩
def strT1_7034 : ByteArray := ⟨#[48, 48, 48, 49, 48, 50, 48, 51, 48, 52, 48, 53, 48, 54, 48, 55, 48, 56, 48, 57, 49, 48, 49, 49, 49, 50, 49, 51, 49, 52, 49, 53, 49, 54, 49, 55, 49, 56, 49, 57, 50, 48, 50, 49, 50, 50, 50, 51, 50, 52, 50, 53, 50, 54, 50, 55, 50, 56, 50, 57, 51, 48, 51, 49, 51, 50, 51, 51, 51, 52, 51, 53, 51, 54, 51, 55, 51, 56, 51, 57, 52, 48, 52, 49, 52, 50, 52, 51, 52, 52, 52, 53, 52, 54, 52, 55, 52, 56, 52, 57, 53, 48, 53, 49, 53, 50, 53, 51, 53, 52, 53, 53, 53, 54, 53, 55, 53, 56, 53, 57, 54, 48, 54, 49, 54, 50, 54, 51, 54, 52, 54, 53, 54, 54, 54, 55, 54, 56, 54, 57, 55, 48, 55, 49, 55, 50, 55, 51, 55, 52, 55, 53, 55, 54, 55, 55, 55, 56, 55, 57, 56, 48, 56, 49, 56, 50, 56, 51, 56, 52, 56, 53, 56, 54, 56, 55, 56, 56, 56, 57, 57, 48, 57, 49, 57, 50, 57, 51, 57, 52, 57, 53, 57, 54, 57, 55, 57, 56, 57, 57]⟩
def strT1_2a39 : ByteArray := ⟨#[0, 1, 2, 2, 3, 3, 3, 3, 4, 4, 4, 4, 4, 4, 4, 4, 5, 5, 5, 5, 5, 5, 5, 5, 5, 5, 5, 5, 5, 5, 5, 5, 6, 6, 6, 6, 6, 6, 6, 6, 6, 6, 6, 6, 6, 6, 6, 6, 6, 6, 6, 6, 6, 6, 6, 6, 6, 6, 6, 6, 6, 6, 6, 6, 7, 7, 7, 7, 7, 7, 7, 7, 7, 7, 7, 7, 7, 7, 7, 7, 7, 7, 7, 7, 7, 7, 7, 7, 7, 7, 7, 7, 7, 7, 7, 7, 7, 7, 7, 7, 7, 7, 7, 7, 7, 7, 7, 7, 7, 7, 7, 7, 7, 7, 7, 7, 7, 7, 7, 7, 7, 7, 7, 7, 7, 7, 7, 7, 8, 8, 8, 8, 8, 8, 8, 8, 8, 8, 8, 8, 8, 8, 8, 8, 8, 8, 8, 8, 8, 8, 8, 8, 8, 8, 8, 8, 8, 8, 8, 8, 8, 8, 8, 8, 8, 8, 8, 8, 8, 8, 8, 8, 8, 8, 8, 8, 8, 8, 8, 8, 8, 8, 8, 8, 8, 8, 8, 8, 8, 8, 8, 8, 8, 8, 8, 8, 8, 8, 8, 8, 8, 8, 8, 8, 8, 8, 8, 8, 8, 8, 8, 8, 8, 8, 8, 8, 8, 8, 8, 8, 8, 8, 8, 8, 8, 8, 8, 8, 8, 8, 8, 8, 8, 8, 8, 8, 8, 8, 8, 8, 8, 8, 8, 8, 8, 8, 8, 8, 8, 8, 8, 8, 8, 8, 8, 8]⟩
def strconv_Itoa (R : RT) (u0 : Int) (I : IMem) (S : SH) : Prop :=
  Runs Tryd.prog 69 #[.int .i64 u0] I S fun v I1 S1 => ∃ u1, v = .string u1 ∧
  R (.string u1) I1 S1
theorem strconv_Itoa_fn (R : RT) (u0 : Int) (I : IMem) (S : SH) (h : strconv_Itoa R u0 I S) : Runs Tryd.prog 59 #[.int .i64 u0] I S R := by
  refine Runs.of_wp (c := cd Tryd.f59) Tryd.func59 (by kernel_rfl) (by kernel_rfl) ?_
  exact pS h
def strconv_Itoa_2 (R : RT) (u0 : Int) (I : IMem) (S : SH) : Prop :=
  Runs Tryd.prog 76 #[.int .i64 u0, .int .i64 10] I S fun v I1 S1 => ∃ u1, v = .string u1 ∧
  R (.string u1) I1 S1
theorem strconv_Itoa_2_fn (R : RT) (u0 : Int) (I : IMem) (S : SH) (h : strconv_Itoa_2 R u0 I S) : Runs Tryd.prog 69 #[.int .i64 u0] I S R := by
  refine Runs.of_wp (c := cd Tryd.f69) Tryd.func69 (by kernel_rfl) (by kernel_rfl) ?_
  exact pS h
def strconv_FormatInt (R : RT) (u0 u1 : Int) (I : IMem) (S : SH) : Prop :=
  Runs Tryd.prog 76 #[.int .i64 u0, .int .i64 u1] I S fun v I1 S1 => ∃ u2, v = .string u2 ∧
  R (.string u2) I1 S1
theorem strconv_FormatInt_fn (R : RT) (u0 u1 : Int) (I : IMem) (S : SH) (h : strconv_FormatInt R u0 u1 I S) : Runs Tryd.prog 70 #[.int .i64 u0, .int .i64 u1] I S R := by
  refine Runs.of_wp (c := cd Tryd.f70) Tryd.func70 (by kernel_rfl) (by kernel_rfl) ?_
  exact pS h
def strconv_FormatInt_2_b5 (R : RT) (x0 : Int) (x5 : Addr) (x6 : Int) (I : IMem) (S : SH) : Prop :=
  Runs Tryd.prog 85 #[.int .u64 x6] I S fun v I1 S1 => ∃ u0, v = .int .i64 u0 ∧
  (0 : Int) ≤ (IntKind.wrap .i64 ((1 : Int) + u0)) ∧ (IntKind.wrap .i64 ((1 : Int) + u0)) ≤ ((24 : Nat) : Int) ∧
  (0 : Int) ≤ (1 : Int) ∧ (1 : Int) ≤ (((IntKind.wrap .i64 ((1 : Int) + u0)).toNat : Nat) : Int) ∧
  Runs Tryd.prog 86 #[.slice (slA (some x5) 24 ((1 : Int).toNat) 1) ((IntKind.wrap .i64 ((1 : Int) + u0)).toNat - (1 : Int).toNat) (24 - (1 : Int).toNat), .int .u64 x6] I1 S1 fun v' I1' S1' => v' = .tuple #[] ∧
  bcase (decide (x0 < (0 : Int)))
    ((0 : Int) ≤ (0 : Int) ∧ (0 : Int) < ((24 : Nat) : Int) ∧
    StP S1' (x5.add ((0 : Int).toNat * 1)) [.int .u8 45] fun S1'' =>
    (0 : Int) ≤ (IntKind.wrap .i64 ((1 : Int) + u0)) ∧ (IntKind.wrap .i64 ((1 : Int) + u0)) ≤ ((24 : Nat) : Int) ∧
    ∃ u1 : ByteArray, BytesAt I1' S1'' (slA (some x5) 24 0 1) ((IntKind.wrap .i64 ((1 : Int) + u0)).toNat - 0) u1 ∧
    R (.string u1) I1' S1'')
    ((0 : Int) ≤ (IntKind.wrap .i64 ((1 : Int) + u0)) ∧ (IntKind.wrap .i64 ((1 : Int) + u0)) ≤ ((24 : Nat) : Int) ∧
    (0 : Int) ≤ (1 : Int) ∧ (1 : Int) ≤ (((IntKind.wrap .i64 ((1 : Int) + u0)).toNat : Nat) : Int) ∧
    ∃ u2 : ByteArray, BytesAt I1' S1' (slA (some x5) 24 ((1 : Int).toNat) 1) ((IntKind.wrap .i64 ((1 : Int) + u0)).toNat - (1 : Int).toNat) u2 ∧
    R (.string u2) I1' S1')
def strconv_FormatInt_2_b4 (R : RT) (x0 : Int) (I : IMem) (S : SH) : Prop :=
  ∀ b5 : Nat,
  bcase (decide (x0 < (0 : Int)))
    (strconv_FormatInt_2_b5 R x0 ⟨b5, 0, none⟩ (IntKind.wrap .u64 (0 - (IntKind.wrap .u64 x0))) I ((b5, .cells #[.int .u8 0, .int .u8 0, .int .u8 0, .int .u8 0, .int .u8 0, .int .u8 0, .int .u8 0, .int .u8 0, .int .u8 0, .int .u8 0, .int .u8 0, .int .u8 0, .int .u8 0, .int .u8 0, .int .u8 0, .int .u8 0, .int .u8 0, .int .u8 0, .int .u8 0, .int .u8 0, .int .u8 0, .int .u8 0, .int .u8 0, .int .u8 0] 165 (0, 0)) :: S))
    (strconv_FormatInt_2_b5 R x0 ⟨b5, 0, none⟩ (IntKind.wrap .u64 x0) I ((b5, .cells #[.int .u8 0, .int .u8 0, .int .u8 0, .int .u8 0, .int .u8 0, .int .u8 0, .int .u8 0, .int .u8 0, .int .u8 0, .int .u8 0, .int .u8 0, .int .u8 0, .int .u8 0, .int .u8 0, .int .u8 0, .int .u8 0, .int .u8 0, .int .u8 0, .int .u8 0, .int .u8 0, .int .u8 0, .int .u8 0, .int .u8 0, .int .u8 0] 165 (0, 0)) :: S))
def strconv_FormatInt_2_b3 (R : RT) (x0 : Int) (x17 : Bool) (I : IMem) (S : SH) : Prop :=
  bcase x17
    (Runs Tryd.prog 84 #[.int .i64 x0] I S fun v I1 S1 => ∃ u0, v = .string u0 ∧
    R (.string u0) I1 S1)
    (strconv_FormatInt_2_b4 R x0 I S)
def strconv_FormatInt_2_b6 (R : RT) (x0 x1 : Int) (I : IMem) (S : SH) : Prop :=
  Runs Tryd.prog 87 #[.slice none 0 0, .int .u64 (IntKind.wrap .u64 x0), .int .i64 x1, .bool (decide (x0 < (0 : Int))), .bool false] I S fun v I1 S1 => ∃ u0 u0n u0c u1, v = .tuple #[.slice u0 u0n u0c, .string u1] ∧
  R (.string u1) I1 S1
def strconv_FormatInt_2_b2 (R : RT) (x0 x1 : Int) (x11 : Bool) (I : IMem) (S : SH) : Prop :=
  bcase x11
    (bcase (decide ((0 : Int) ≤ x0))
      (strconv_FormatInt_2_b3 R x0 (decide (x0 < (100 : Int))) I S)
      (strconv_FormatInt_2_b3 R x0 false I S))
    (strconv_FormatInt_2_b6 R x0 x1 I S)
def strconv_FormatInt_2_b1 (R : RT) (x0 x1 : Int) (I : IMem) (S : SH) : Prop :=
  strconv_FormatInt_2_b2 R x0 x1 (x1 == (10 : Int)) I S
def strconv_FormatInt_2 (R : RT) (u0 u1 : Int) (I : IMem) (S : SH) : Prop :=
  strconv_FormatInt_2_b1 R u0 u1 I S
theorem strconv_FormatInt_2_fn (R : RT) (u0 u1 : Int) (I : IMem) (S : SH) (h : strconv_FormatInt_2 R u0 u1 I S) : Runs Tryd.prog 76 #[.int .i64 u0, .int .i64 u1] I S R := by
  refine Runs.of_wp (c := cd Tryd.f76) Tryd.func76 (by kernel_rfl) (by kernel_rfl) ?_
  refine cO 1 [kI .i64 0, kI .i64 1] (strconv_FormatInt_2_b1 R) h fun _ _ _ _ _ _ h => ?_
  refine sO [kI .i64 0, kI .i64 1] (strconv_FormatInt_2_b6 R) ?_ fun _ _ _ _ _ _ h => ?_
  · refine cO 1 [kI .i64 0, kI .i64 1, kB 11] (strconv_FormatInt_2_b2 R) h fun _ _ _ _ _ _ _ h => ?_
    refine cD h (fun h => ?_) fun h => pS h
    refine sO [kI .i64 0] (strconv_FormatInt_2_b4 R) ?_ fun _ _ _ _ _ h => ?_
    · refine cO 1 [kI .i64 0, kB 17] (strconv_FormatInt_2_b3 R) h fun _ _ _ _ _ _ h => ?_
      exact pS h
    refine cO 3 [kI .i64 0, kA 5, kI .u64 6] (strconv_FormatInt_2_b5 R) h fun _ _ _ _ _ _ _ h => ?_
    exact pS h
  exact pS h
def strconv_small (R : RT) (u0 : Int) (I : IMem) (S : SH) : Prop :=
  bcase (decide (u0 < (10 : Int)))
    ((0 : Int) ≤ (IntKind.wrap .i64 (u0 + (1 : Int))) ∧ (IntKind.wrap .i64 (u0 + (1 : Int))) ≤ ((strT1_69c1.size : Nat) : Int) ∧
    (0 : Int) ≤ u0 ∧ u0 ≤ (((IntKind.wrap .i64 (u0 + (1 : Int))).toNat : Nat) : Int) ∧
    R (.string (strT1_69c1.extract u0.toNat ((IntKind.wrap .i64 (u0 + (1 : Int))).toNat))) I S)
    ((0 : Int) ≤ (IntKind.wrap .i64 ((IntKind.wrap .i64 (u0 * (2 : Int))) + (2 : Int))) ∧ (IntKind.wrap .i64 ((IntKind.wrap .i64 (u0 * (2 : Int))) + (2 : Int))) ≤ ((strT1_7034.size : Nat) : Int) ∧
    (0 : Int) ≤ (IntKind.wrap .i64 (u0 * (2 : Int))) ∧ (IntKind.wrap .i64 (u0 * (2 : Int))) ≤ (((IntKind.wrap .i64 ((IntKind.wrap .i64 (u0 * (2 : Int))) + (2 : Int))).toNat : Nat) : Int) ∧
    R (.string (strT1_7034.extract ((IntKind.wrap .i64 (u0 * (2 : Int))).toNat) ((IntKind.wrap .i64 ((IntKind.wrap .i64 (u0 * (2 : Int))) + (2 : Int))).toNat))) I S)
theorem strconv_small_fn (R : RT) (u0 : Int) (I : IMem) (S : SH) (h : strconv_small R u0 I S) : Runs Tryd.prog 84 #[.int .i64 u0] I S R := by
  refine Runs.of_wp (c := cd Tryd.f84) Tryd.func84 (by kernel_rfl) (by kernel_rfl) ?_
  exact pS h
def strconv_numDigits (R : RT) (u0 : Int) (I : IMem) (S : SH) : Prop :=
  Runs Tryd.prog 98 #[.int .u64 u0] I S fun v I1 S1 => ∃ u1, v = .int .i64 u1 ∧
  Runs Tryd.prog 97 #[.int .i64 u1] I1 S1 fun v' I1' S1' => ∃ u2, v' = .int .i64 u2 ∧
  (0 : Int) ≤ u2 ∧ u2 < ((20 : Nat) : Int) ∧
  ∃ u3, Cell I1' S1' ((⟨0, 0, none⟩ : Addr).add (u2.toNat * 1)) (.int .u64 u3) ∧
  Runs Tryd.prog 99 #[.bool (decide (u0 ≥ u3))] I1' S1' fun v'' I1'' S1'' => ∃ u4, v'' = .int .i64 u4 ∧
  R (.int .i64 (IntKind.wrap .i64 (u2 + u4))) I1'' S1''
theorem strconv_numDigits_fn (R : RT) (u0 : Int) (I : IMem) (S : SH) (h : strconv_numDigits R u0 I S) : Runs Tryd.prog 85 #[.int .u64 u0] I S R := by
  refine Runs.of_wp (c := cd Tryd.f85) Tryd.func85 (by kernel_rfl) (by kernel_rfl) ?_
  exact pS h
abbrev strconv_formatBase10_t2 := OA → Nat → Nat → Int → Int → PR
def strconv_formatBase10_b8 (g2 : strconv_formatBase10_t2) (R : RT) (x0 : OA) (x0n x0c : Nat) (x1 x4 : Int) (I : IMem) (S : SH) : Prop :=
  g2 x0 x0n x0c x1 (IntKind.wrap .i64 (x4 - (8 : Int))) I S
def strconv_formatBase10_b7 (g2 : strconv_formatBase10_t2) (R : RT) (x0 : OA) (x0n x0c : Nat) (x1 x4 x10 : Int) (I : IMem) (S : SH) : Prop :=
  ∃ u0 : UInt8, (0 : Int) ≤ (IntKind.wrap .u32 (x10 + (1 : Int))) ∧ strT1_7034[(IntKind.wrap .u32 (x10 + (1 : Int))).toNat]? = some u0 ∧
  ∃ u1 : UInt8, (0 : Int) ≤ x10 ∧ strT1_7034[x10.toNat]? = some u1 ∧
  ptrP x0 fun u2 => (0 : Int) ≤ (IntKind.wrap .i64 (x4 - (7 : Int))) ∧ (IntKind.wrap .i64 (x4 - (7 : Int))) < (x0n : Int) ∧
  StP S (u2.add ((IntKind.wrap .i64 (x4 - (7 : Int))).toNat * 1)) [.int .u8 (u0.toNat : Int)] fun S1 =>
  ptrP x0 fun u3 => (0 : Int) ≤ (IntKind.wrap .i64 (x4 - (8 : Int))) ∧ (IntKind.wrap .i64 (x4 - (8 : Int))) < (x0n : Int) ∧
  StP S1 (u3.add ((IntKind.wrap .i64 (x4 - (8 : Int))).toNat * 1)) [.int .u8 (u1.toNat : Int)] fun S1' =>
  strconv_formatBase10_b8 g2 R x0 x0n x0c x1 x4 I S1'
def strconv_formatBase10_b6 (g2 : strconv_formatBase10_t2) (R : RT) (x0 : OA) (x0n x0c : Nat) (x1 x4 x10 x11 : Int) (I : IMem) (S : SH) : Prop :=
  ∃ u0 : UInt8, (0 : Int) ≤ (IntKind.wrap .u32 (x11 + (1 : Int))) ∧ strT1_7034[(IntKind.wrap .u32 (x11 + (1 : Int))).toNat]? = some u0 ∧
  ∃ u1 : UInt8, (0 : Int) ≤ x11 ∧ strT1_7034[x11.toNat]? = some u1 ∧
  ptrP x0 fun u2 => (0 : Int) ≤ (IntKind.wrap .i64 (x4 - (5 : Int))) ∧ (IntKind.wrap .i64 (x4 - (5 : Int))) < (x0n : Int) ∧
  StP S (u2.add ((IntKind.wrap .i64 (x4 - (5 : Int))).toNat * 1)) [.int .u8 (u0.toNat : Int)] fun S1 =>
  ptrP x0 fun u3 => (0 : Int) ≤ (IntKind.wrap .i64 (x4 - (6 : Int))) ∧ (IntKind.wrap .i64 (x4 - (6 : Int))) < (x0n : Int) ∧
  StP S1 (u3.add ((IntKind.wrap .i64 (x4 - (6 : Int))).toNat * 1)) [.int .u8 (u1.toNat : Int)] fun S1' =>
  strconv_formatBase10_b7 g2 R x0 x0n x0c x1 x4 x10 I S1'
def strconv_formatBase10_b5 (g2 : strconv_formatBase10_t2) (R : RT) (x0 : OA) (x0n x0c : Nat) (x1 x4 x8 x10 x11 : Int) (I : IMem) (S : SH) : Prop :=
  ∃ u0 : UInt8, (0 : Int) ≤ (IntKind.wrap .u32 (x8 + (1 : Int))) ∧ strT1_7034[(IntKind.wrap .u32 (x8 + (1 : Int))).toNat]? = some u0 ∧
  ∃ u1 : UInt8, (0 : Int) ≤ x8 ∧ strT1_7034[x8.toNat]? = some u1 ∧
  ptrP x0 fun u2 => (0 : Int) ≤ (IntKind.wrap .i64 (x4 - (3 : Int))) ∧ (IntKind.wrap .i64 (x4 - (3 : Int))) < (x0n : Int) ∧
  StP S (u2.add ((IntKind.wrap .i64 (x4 - (3 : Int))).toNat * 1)) [.int .u8 (u0.toNat : Int)] fun S1 =>
  ptrP x0 fun u3 => (0 : Int) ≤ (IntKind.wrap .i64 (x4 - (4 : Int))) ∧ (IntKind.wrap .i64 (x4 - (4 : Int))) < (x0n : Int) ∧
  StP S1 (u3.add ((IntKind.wrap .i64 (x4 - (4 : Int))).toNat * 1)) [.int .u8 (u1.toNat : Int)] fun S1' =>
  strconv_formatBase10_b6 g2 R x0 x0n x0c x1 x4 x10 x11 I S1'
def strconv_formatBase10_b4 (g2 : strconv_formatBase10_t2) (R : RT) (x0 : OA) (x0n x0c : Nat) (x1 x4 x8 x9 x10 x11 : Int) (I : IMem) (S : SH) : Prop :=
  ∃ u0 : UInt8, (0 : Int) ≤ (IntKind.wrap .u32 (x9 + (1 : Int))) ∧ strT1_7034[(IntKind.wrap .u32 (x9 + (1 : Int))).toNat]? = some u0 ∧
  ∃ u1 : UInt8, (0 : Int) ≤ x9 ∧ strT1_7034[x9.toNat]? = some u1 ∧
  ptrP x0 fun u2 => (0 : Int) ≤ (IntKind.wrap .i64 (x4 - (1 : Int))) ∧ (IntKind.wrap .i64 (x4 - (1 : Int))) < (x0n : Int) ∧
  StP S (u2.add ((IntKind.wrap .i64 (x4 - (1 : Int))).toNat * 1)) [.int .u8 (u0.toNat : Int)] fun S1 =>
  ptrP x0 fun u3 => (0 : Int) ≤ (IntKind.wrap .i64 (x4 - (2 : Int))) ∧ (IntKind.wrap .i64 (x4 - (2 : Int))) < (x0n : Int) ∧
  StP S1 (u3.add ((IntKind.wrap .i64 (x4 - (2 : Int))).toNat * 1)) [.int .u8 (u1.toNat : Int)] fun S1' =>
  strconv_formatBase10_b5 g2 R x0 x0n x0c x1 x4 x8 x10 x11 I S1'
def strconv_formatBase10_b3 (g2 : strconv_formatBase10_t2) (R : RT) (x0 : OA) (x0n x0c : Nat) (x1 x4 : Int) (I : IMem) (S : SH) : Prop :=
  strconv_formatBase10_b4 g2 R x0 x0n x0c (IntKind.wrap .u64 (x1.tdiv (100000000 : Int))) x4 (IntKind.wrap .u32 ((IntKind.wrap .u32 (((IntKind.wrap .u32 (x1.tmod (100000000 : Int))).tmod (10000 : Int)).tdiv (100 : Int))) * (2 : Int))) (IntKind.wrap .u32 ((((IntKind.wrap .u32 (x1.tmod (100000000 : Int))).tmod (10000 : Int)).tmod (100 : Int)) * (2 : Int))) (IntKind.wrap .u32 ((IntKind.wrap .u32 ((IntKind.wrap .u32 ((IntKind.wrap .u32 (x1.tmod (100000000 : Int))).tdiv (10000 : Int))).tdiv (100 : Int))) * (2 : Int))) (IntKind.wrap .u32 (((IntKind.wrap .u32 ((IntKind.wrap .u32 (x1.tmod (100000000 : Int))).tdiv (10000 : Int))).tmod (100 : Int)) * (2 : Int))) I S
def strconv_formatBase10_b19 (R : RT) (x0 : OA) (x0n x0c : Nat) (x4 x12 : Int) (I : IMem) (S : SH) : Prop :=
  bcase (decide (x4 > (0 : Int)))
    (ptrP x0 fun u0 => (0 : Int) ≤ (0 : Int) ∧ (0 : Int) < (x0n : Int) ∧
    StP S (u0.add ((0 : Int).toNat * 1)) [.int .u8 (IntKind.wrap .u8 (IntKind.wrap .u32 ((48 : Int) + x12)))] fun S1 =>
    R (.tuple #[]) I S1)
    (R (.tuple #[]) I S)
def strconv_formatBase10_b18 (R : RT) (x0 : OA) (x0n x0c : Nat) (x4 x12 : Int) (I : IMem) (S : SH) : Prop :=
  strconv_formatBase10_b19 R x0 x0n x0c (IntKind.wrap .i64 (x4 - (2 : Int))) x12 I S
def strconv_formatBase10_b17 (R : RT) (x0 : OA) (x0n x0c : Nat) (x4 x12 x16 : Int) (I : IMem) (S : SH) : Prop :=
  ∃ u0 : UInt8, (0 : Int) ≤ (IntKind.wrap .u32 (x16 + (1 : Int))) ∧ strT1_7034[(IntKind.wrap .u32 (x16 + (1 : Int))).toNat]? = some u0 ∧
  ∃ u1 : UInt8, (0 : Int) ≤ x16 ∧ strT1_7034[x16.toNat]? = some u1 ∧
  ptrP x0 fun u2 => (0 : Int) ≤ (IntKind.wrap .i64 (x4 - (1 : Int))) ∧ (IntKind.wrap .i64 (x4 - (1 : Int))) < (x0n : Int) ∧
  StP S (u2.add ((IntKind.wrap .i64 (x4 - (1 : Int))).toNat * 1)) [.int .u8 (u0.toNat : Int)] fun S1 =>
  ptrP x0 fun u3 => (0 : Int) ≤ (IntKind.wrap .i64 (x4 - (2 : Int))) ∧ (IntKind.wrap .i64 (x4 - (2 : Int))) < (x0n : Int) ∧
  StP S1 (u3.add ((IntKind.wrap .i64 (x4 - (2 : Int))).toNat * 1)) [.int .u8 (u1.toNat : Int)] fun S1' =>
  strconv_formatBase10_b18 R x0 x0n x0c x4 x12 I S1'
def strconv_formatBase10_b16 (R : RT) (x0 : OA) (x0n x0c : Nat) (x4 x12 : Int) (x139 : Bool) (I : IMem) (S : SH) : Prop :=
  bcase x139
    (strconv_formatBase10_b17 R x0 x0n x0c x4 (IntKind.wrap .u32 (x12.tdiv (100 : Int))) (IntKind.wrap .u32 ((x12.tmod (100 : Int)) * (2 : Int))) I S)
    (strconv_formatBase10_b19 R x0 x0n x0c x4 x12 I S)
def strconv_formatBase10_b15 (R : RT) (x0 : OA) (x0n x0c : Nat) (x4 x12 : Int) (I : IMem) (S : SH) : Prop :=
  strconv_formatBase10_b16 R x0 x0n x0c x4 x12 (decide (x4 ≥ (2 : Int))) I S
def strconv_formatBase10_b14 (R : RT) (x0 : OA) (x0n x0c : Nat) (x4 x12 : Int) (I : IMem) (S : SH) : Prop :=
  strconv_formatBase10_b15 R x0 x0n x0c (IntKind.wrap .i64 (x4 - (4 : Int))) x12 I S
def strconv_formatBase10_b13 (R : RT) (x0 : OA) (x0n x0c : Nat) (x4 x12 x14 : Int) (I : IMem) (S : SH) : Prop :=
  ∃ u0 : UInt8, (0 : Int) ≤ (IntKind.wrap .u32 (x14 + (1 : Int))) ∧ strT1_7034[(IntKind.wrap .u32 (x14 + (1 : Int))).toNat]? = some u0 ∧
  ∃ u1 : UInt8, (0 : Int) ≤ x14 ∧ strT1_7034[x14.toNat]? = some u1 ∧
  ptrP x0 fun u2 => (0 : Int) ≤ (IntKind.wrap .i64 (x4 - (3 : Int))) ∧ (IntKind.wrap .i64 (x4 - (3 : Int))) < (x0n : Int) ∧
  StP S (u2.add ((IntKind.wrap .i64 (x4 - (3 : Int))).toNat * 1)) [.int .u8 (u0.toNat : Int)] fun S1 =>
  ptrP x0 fun u3 => (0 : Int) ≤ (IntKind.wrap .i64 (x4 - (4 : Int))) ∧ (IntKind.wrap .i64 (x4 - (4 : Int))) < (x0n : Int) ∧
  StP S1 (u3.add ((IntKind.wrap .i64 (x4 - (4 : Int))).toNat * 1)) [.int .u8 (u1.toNat : Int)] fun S1' =>
  strconv_formatBase10_b14 R x0 x0n x0c x4 x12 I S1'
def strconv_formatBase10_b12 (R : RT) (x0 : OA) (x0n x0c : Nat) (x4 x12 x14 x15 : Int) (I : IMem) (S : SH) : Prop :=
  ∃ u0 : UInt8, (0 : Int) ≤ (IntKind.wrap .u32 (x15 + (1 : Int))) ∧ strT1_7034[(IntKind.wrap .u32 (x15 + (1 : Int))).toNat]? = some u0 ∧
  ∃ u1 : UInt8, (0 : Int) ≤ x15 ∧ strT1_7034[x15.toNat]? = some u1 ∧
  ptrP x0 fun u2 => (0 : Int) ≤ (IntKind.wrap .i64 (x4 - (1 : Int))) ∧ (IntKind.wrap .i64 (x4 - (1 : Int))) < (x0n : Int) ∧
  StP S (u2.add ((IntKind.wrap .i64 (x4 - (1 : Int))).toNat * 1)) [.int .u8 (u0.toNat : Int)] fun S1 =>
  ptrP x0 fun u3 => (0 : Int) ≤ (IntKind.wrap .i64 (x4 - (2 : Int))) ∧ (IntKind.wrap .i64 (x4 - (2 : Int))) < (x0n : Int) ∧
  StP S1 (u3.add ((IntKind.wrap .i64 (x4 - (2 : Int))).toNat * 1)) [.int .u8 (u1.toNat : Int)] fun S1' =>
  strconv_formatBase10_b13 R x0 x0n x0c x4 x12 x14 I S1'
def strconv_formatBase10_b11 (R : RT) (x0 : OA) (x0n x0c : Nat) (x4 x12 : Int) (x99 : Bool) (I : IMem) (S : SH) : Prop :=
  bcase x99
    (strconv_formatBase10_b12 R x0 x0n x0c x4 (IntKind.wrap .u32 (x12.tdiv (10000 : Int))) (IntKind.wrap .u32 ((IntKind.wrap .u32 ((x12.tmod (10000 : Int)).tdiv (100 : Int))) * (2 : Int))) (IntKind.wrap .u32 (((x12.tmod (10000 : Int)).tmod (100 : Int)) * (2 : Int))) I S)
    (strconv_formatBase10_b15 R x0 x0n x0c x4 x12 I S)
def strconv_formatBase10_b10 (R : RT) (x0 : OA) (x0n x0c : Nat) (x4 x12 : Int) (I : IMem) (S : SH) : Prop :=
  strconv_formatBase10_b11 R x0 x0n x0c x4 x12 (decide (x4 ≥ (4 : Int))) I S
def strconv_formatBase10_b9 (R : RT) (x0 : OA) (x0n x0c : Nat) (x1 x4 : Int) (I : IMem) (S : SH) : Prop :=
  strconv_formatBase10_b10 R x0 x0n x0c x4 (IntKind.wrap .u32 x1) I S
def strconv_formatBase10_l2 (g2 : strconv_formatBase10_t2) (R : RT) (x0 : OA) (x0n x0c : Nat) (x1 x4 : Int) (I : IMem) (S : SH) : Prop :=
  bcase (decide (x4 ≥ (8 : Int)))
    (strconv_formatBase10_b3 g2 R x0 x0n x0c x1 x4 I S)
    (strconv_formatBase10_b9 R x0 x0n x0c x1 x4 I S)
def strconv_formatBase10_b1 (R : RT) (x0 : OA) (x0n x0c : Nat) (x1 x4 : Int) (I : IMem) (S : SH) : Prop :=
  ∃ (Inv : Nat → strconv_formatBase10_t2) (m : Nat), Inv m x0 x0n x0c x1 x4 I S ∧
    ∀ (m : Nat) (x0 : OA) (x0n x0c : Nat) (x1 x4 : Int) (J : IMem) (T : SH), I.le J → Inv m x0 x0n x0c x1 x4 J T →
      strconv_formatBase10_l2 (fun x0 x0n x0c x1 x4 I S => ∃ m', m' < m ∧ Inv m' x0 x0n x0c x1 x4 I S) R x0 x0n x0c x1 x4 J T
def strconv_formatBase10 (R : RT) (u0 : OA) (u0n u0c : Nat) (u1 : Int) (I : IMem) (S : SH) : Prop :=
  strconv_formatBase10_b1 R u0 u0n u0c u1 (u0n : Int) I S
theorem strconv_formatBase10_fn (R : RT) (u0 : OA) (u0n u0c : Nat) (u1 : Int) (I : IMem) (S : SH) (h : strconv_formatBase10 R u0 u0n u0c u1 I S) : Runs Tryd.prog 86 #[.slice u0 u0n u0c, .int .u64 u1] I S R := by
  refine Runs.of_wp (c := cd Tryd.f86) Tryd.func86 (by kernel_rfl) (by kernel_rfl) ?_
  refine cO 1 [kL 0, kI .u64 1, kI .i64 4] (strconv_formatBase10_b1 R) h fun _ _ _ _ _ _ _ _ _ h => ?_
  refine sO [kL 0, kI .u64 1, kI .i64 4] (strconv_formatBase10_b9 R) ?_ fun _ _ _ _ _ _ _ _ _ h => ?_
  · refine bK ?_
    obtain ⟨Vg2, mg2, h, hr⟩ := h
    refine lO [kL 0, kI .u64 1, kI .i64 4] Vg2 mg2 h fun mg2 _ I S hle x0 x0n x0c x1 x4 h => ?_
    have h := hr mg2 x0 x0n x0c x1 x4 I S hle h
    refine cO 1 [kL 0, kI .u64 1, kI .i64 4] (strconv_formatBase10_b3 (fun x0 x0n x0c x1 x4 I S => ∃ m', m' < mg2 ∧ Vg2 m' x0 x0n x0c x1 x4 I S) R) h fun _ _ _ _ _ _ _ _ _ h => ?_
    refine bK ?_
    refine cO 5 [kL 0, kI .u64 1, kI .i64 4, kI .u32 8, kI .u32 9, kI .u32 10, kI .u32 11] (strconv_formatBase10_b4 (fun x0 x0n x0c x1 x4 I S => ∃ m', m' < mg2 ∧ Vg2 m' x0 x0n x0c x1 x4 I S) R) h fun _ _ _ _ _ _ _ _ _ _ _ _ _ h => ?_
    refine sO [kL 0, kI .u64 1, kI .i64 4, kI .u32 8, kI .u32 10, kI .u32 11] (strconv_formatBase10_b5 (fun x0 x0n x0c x1 x4 I S => ∃ m', m' < mg2 ∧ Vg2 m' x0 x0n x0c x1 x4 I S) R) (dR (tk 12 0 (.step 12 (.take 13 (.step 14 .done)))) [12, 14] h) fun _ _ _ _ _ _ _ _ _ _ _ _ h => ?_
    refine sO [kL 0, kI .u64 1, kI .i64 4, kI .u32 10, kI .u32 11] (strconv_formatBase10_b6 (fun x0 x0n x0c x1 x4 I S => ∃ m', m' < mg2 ∧ Vg2 m' x0 x0n x0c x1 x4 I S) R) (dR (tk 12 0 (.step 12 (.take 13 (.step 14 .done)))) [12, 14] h) fun _ _ _ _ _ _ _ _ _ _ _ h => ?_
    refine sO [kL 0, kI .u64 1, kI .i64 4, kI .u32 10] (strconv_formatBase10_b7 (fun x0 x0n x0c x1 x4 I S => ∃ m', m' < mg2 ∧ Vg2 m' x0 x0n x0c x1 x4 I S) R) (dR (tk 12 0 (.step 12 (.take 13 (.step 14 .done)))) [12, 14] h) fun _ _ _ _ _ _ _ _ _ _ h => ?_
    refine sO [kL 0, kI .u64 1, kI .i64 4] (strconv_formatBase10_b8 (fun x0 x0n x0c x1 x4 I S => ∃ m', m' < mg2 ∧ Vg2 m' x0 x0n x0c x1 x4 I S) R) (dR (tk 12 0 (.step 12 (.take 13 (.step 14 .done)))) [12, 14] h) fun _ _ _ _ _ _ _ _ _ h => ?_
    exact pS h
  refine cO 1 [kL 0, kI .i64 4, kI .u32 12] (strconv_formatBase10_b10 R) h fun _ _ _ _ _ _ _ _ _ h => ?_
  refine sO [kL 0, kI .i64 4, kI .u32 12] (strconv_formatBase10_b15 R) ?_ fun _ _ _ _ _ _ _ _ _ h => ?_
  · refine cO 1 [kL 0, kI .i64 4, kI .u32 12, kB 99] (strconv_formatBase10_b11 R) h fun _ _ _ _ _ _ _ _ _ _ h => ?_
    refine cD h (fun h => ?_) fun h => pS h
    refine cO 3 [kL 0, kI .i64 4, kI .u32 12, kI .u32 14, kI .u32 15] (strconv_formatBase10_b12 R) h fun _ _ _ _ _ _ _ _ _ _ _ h => ?_
    refine sO [kL 0, kI .i64 4, kI .u32 12, kI .u32 14] (strconv_formatBase10_b13 R) (dR (tk 12 0 (.step 12 (.take 13 (.step 14 .done)))) [12, 14] h) fun _ _ _ _ _ _ _ _ _ _ h => ?_
    refine sO [kL 0, kI .i64 4, kI .u32 12] (strconv_formatBase10_b14 R) (dR (tk 12 0 (.step 12 (.take 13 (.step 14 .done)))) [12, 14] h) fun _ _ _ _ _ _ _ _ _ h => ?_
    exact pS h
  refine sO [kL 0, kI .i64 4, kI .u32 12] (strconv_formatBase10_b19 R) ?_ fun _ _ _ _ _ _ _ _ _ h => ?_
  · refine cO 1 [kL 0, kI .i64 4, kI .u32 12, kB 139] (strconv_formatBase10_b16 R) h fun _ _ _ _ _ _ _ _ _ _ h => ?_
    refine cD h (fun h => ?_) fun h => pS h
    refine cO 2 [kL 0, kI .i64 4, kI .u32 12, kI .u32 16] (strconv_formatBase10_b17 R) h fun _ _ _ _ _ _ _ _ _ _ h => ?_
    refine sO [kL 0, kI .i64 4, kI .u32 12] (strconv_formatBase10_b18 R) (dR (tk 12 0 (.step 12 (.take 13 (.step 14 .done)))) [12, 14] h) fun _ _ _ _ _ _ _ _ _ h => ?_
    exact pS h
  exact pS h
abbrev strconv_formatBits_t7 := OA → Nat → Nat → Int → Bool → Bool → OA → Nat → Nat → ByteArray → Addr → Int → Int → Int → Int → PR
def strconv_formatBits_b10 (R : RT) (x0 : OA) (x0n x0c : Nat) (x4 : Bool) (x10 : OA) (x10n x10c : Nat) (x11 : ByteArray) (x12 : Addr) (x13 : Int) (I : IMem) (S : SH) : Prop :=
  bcase x4
    ((0 : Int) ≤ x13 ∧ x13 ≤ ((65 : Nat) : Int) ∧
    AppG 5 1 1 [.int .u8 0] (some (.slice 5)) I S (.slice x0 x0n x0c) (.slice (slA (some x12) 65 x13.toNat 1) (65 - x13.toNat) (65 - x13.toNat)) fun u0 u0n u0c S1 =>
    R (.tuple #[.slice u0 u0n u0c, .string x11]) I S1)
    ((0 : Int) ≤ x13 ∧ x13 ≤ ((65 : Nat) : Int) ∧
    ∃ u1 : ByteArray, BytesAt I S (slA (some x12) 65 x13.toNat 1) (65 - x13.toNat) u1 ∧
    R (.tuple #[.slice x10 x10n x10c, .string u1]) I S)
def strconv_formatBits_b9 (R : RT) (x0 : OA) (x0n x0c : Nat) (x3 x4 : Bool) (x10 : OA) (x10n x10c : Nat) (x11 : ByteArray) (x12 : Addr) (x13 : Int) (I : IMem) (S : SH) : Prop :=
  bcase x3
    ((0 : Int) ≤ (IntKind.wrap .i64 (x13 - (1 : Int))) ∧ (IntKind.wrap .i64 (x13 - (1 : Int))) < ((65 : Nat) : Int) ∧
    StP S (x12.add ((IntKind.wrap .i64 (x13 - (1 : Int))).toNat * 1)) [.int .u8 45] fun S1 =>
    strconv_formatBits_b10 R x0 x0n x0c x4 x10 x10n x10c x11 x12 (IntKind.wrap .i64 (x13 - (1 : Int))) I S1)
    (strconv_formatBits_b10 R x0 x0n x0c x4 x10 x10n x10c x11 x12 x13 I S)
def strconv_formatBits_b8 (R : RT) (x0 : OA) (x0n x0c : Nat) (x1 : Int) (x3 x4 : Bool) (x10 : OA) (x10n x10c : Nat) (x11 : ByteArray) (x12 : Addr) (x13 : Int) (I : IMem) (S : SH) : Prop :=
  ∃ u0 : UInt8, (0 : Int) ≤ x1 ∧ strT1_69c1[x1.toNat]? = some u0 ∧
  (0 : Int) ≤ (IntKind.wrap .i64 (x13 - (1 : Int))) ∧ (IntKind.wrap .i64 (x13 - (1 : Int))) < ((65 : Nat) : Int) ∧
  StP S (x12.add ((IntKind.wrap .i64 (x13 - (1 : Int))).toNat * 1)) [.int .u8 (u0.toNat : Int)] fun S1 =>
  strconv_formatBits_b9 R x0 x0n x0c x3 x4 x10 x10n x10c x11 x12 (IntKind.wrap .i64 (x13 - (1 : Int))) I S1
def strconv_formatBits_l7 (g7 : strconv_formatBits_t7) (R : RT) (x0 : OA) (x0n x0c : Nat) (x1 : Int) (x3 x4 : Bool) (x10 : OA) (x10n x10c : Nat) (x11 : ByteArray) (x12 : Addr) (x13 x14 x15 x16 : Int) (I : IMem) (S : SH) : Prop :=
  bcase (decide (x1 ≥ x15))
    (∃ u0 : UInt8, (0 : Int) ≤ (iand .u64 x1 x16) ∧ strT1_69c1[(iand .u64 x1 x16).toNat]? = some u0 ∧
    (0 : Int) ≤ (IntKind.wrap .i64 (x13 - (1 : Int))) ∧ (IntKind.wrap .i64 (x13 - (1 : Int))) < ((65 : Nat) : Int) ∧
    StP S (x12.add ((IntKind.wrap .i64 (x13 - (1 : Int))).toNat * 1)) [.int .u8 (u0.toNat : Int)] fun S1 =>
    bcase (decide (x14 < 0)) False (g7 x0 x0n x0c (x1.fdiv (2 ^ (min x14.toNat (IntKind.bits .u64)))) x3 x4 x10 x10n x10c x11 x12 (IntKind.wrap .i64 (x13 - (1 : Int))) x14 x15 x16 I S1))
    (strconv_formatBits_b8 R x0 x0n x0c x1 x3 x4 x10 x10n x10c x11 x12 x13 I S)
def strconv_formatBits_b6 (R : RT) (x0 : OA) (x0n x0c : Nat) (x1 : Int) (x3 x4 : Bool) (x10 : OA) (x10n x10c : Nat) (x11 : ByteArray) (x12 : Addr) (x13 x14 x15 x16 : Int) (I : IMem) (S : SH) : Prop :=
  ∃ (Inv : Nat → strconv_formatBits_t7) (m : Nat), Inv m x0 x0n x0c x1 x3 x4 x10 x10n x10c x11 x12 x13 x14 x15 x16 I S ∧
    ∀ (m : Nat) (x0 : OA) (x0n x0c : Nat) (x1 : Int) (x3 x4 : Bool) (x10 : OA) (x10n x10c : Nat) (x11 : ByteArray) (x12 : Addr) (x13 x14 x15 x16 : Int) (J : IMem) (T : SH), I.le J → Inv m x0 x0n x0c x1 x3 x4 x10 x10n x10c x11 x12 x13 x14 x15 x16 J T →
      strconv_formatBits_l7 (fun x0 x0n x0c x1 x3 x4 x10 x10n x10c x11 x12 x13 x14 x15 x16 I S => ∃ m', m' < m ∧ Inv m' x0 x0n x0c x1 x3 x4 x10 x10n x10c x11 x12 x13 x14 x15 x16 I S) R x0 x0n x0c x1 x3 x4 x10 x10n x10c x11 x12 x13 x14 x15 x16 J T
abbrev strconv_formatBits_t12 := OA → Nat → Nat → Int → Bool → Bool → OA → Nat → Nat → ByteArray → Addr → Int → Int → PR
def strconv_formatBits_b13 (R : RT) (x0 : OA) (x0n x0c : Nat) (x1 : Int) (x3 x4 : Bool) (x10 : OA) (x10n x10c : Nat) (x11 : ByteArray) (x12 : Addr) (x13 : Int) (I : IMem) (S : SH) : Prop :=
  ∃ u0 : UInt8, (0 : Int) ≤ x1 ∧ strT1_69c1[x1.toNat]? = some u0 ∧
  (0 : Int) ≤ (IntKind.wrap .i64 (x13 - (1 : Int))) ∧ (IntKind.wrap .i64 (x13 - (1 : Int))) < ((65 : Nat) : Int) ∧
  StP S (x12.add ((IntKind.wrap .i64 (x13 - (1 : Int))).toNat * 1)) [.int .u8 (u0.toNat : Int)] fun S1 =>
  strconv_formatBits_b9 R x0 x0n x0c x3 x4 x10 x10n x10c x11 x12 (IntKind.wrap .i64 (x13 - (1 : Int))) I S1
def strconv_formatBits_l12 (g12 : strconv_formatBits_t12) (R : RT) (x0 : OA) (x0n x0c : Nat) (x1 : Int) (x3 x4 : Bool) (x10 : OA) (x10n x10c : Nat) (x11 : ByteArray) (x12 : Addr) (x13 x17 : Int) (I : IMem) (S : SH) : Prop :=
  bcase (decide (x1 ≥ x17))
    (bcase (decide (x17 = 0)) False (∃ u0 : UInt8, (0 : Int) ≤ (IntKind.wrap .u64 (x1 - (IntKind.wrap .u64 ((IntKind.wrap .u64 (x1.tdiv x17)) * x17)))) ∧ strT1_69c1[(IntKind.wrap .u64 (x1 - (IntKind.wrap .u64 ((IntKind.wrap .u64 (x1.tdiv x17)) * x17)))).toNat]? = some u0 ∧
    (0 : Int) ≤ (IntKind.wrap .i64 (x13 - (1 : Int))) ∧ (IntKind.wrap .i64 (x13 - (1 : Int))) < ((65 : Nat) : Int) ∧
    StP S (x12.add ((IntKind.wrap .i64 (x13 - (1 : Int))).toNat * 1)) [.int .u8 (u0.toNat : Int)] fun S1 =>
    g12 x0 x0n x0c (IntKind.wrap .u64 (x1.tdiv x17)) x3 x4 x10 x10n x10c x11 x12 (IntKind.wrap .i64 (x13 - (1 : Int))) x17 I S1))
    (strconv_formatBits_b13 R x0 x0n x0c x1 x3 x4 x10 x10n x10c x11 x12 x13 I S)
def strconv_formatBits_b11 (R : RT) (x0 : OA) (x0n x0c : Nat) (x1 : Int) (x3 x4 : Bool) (x10 : OA) (x10n x10c : Nat) (x11 : ByteArray) (x12 : Addr) (x13 x17 : Int) (I : IMem) (S : SH) : Prop :=
  ∃ (Inv : Nat → strconv_formatBits_t12) (m : Nat), Inv m x0 x0n x0c x1 x3 x4 x10 x10n x10c x11 x12 x13 x17 I S ∧
    ∀ (m : Nat) (x0 : OA) (x0n x0c : Nat) (x1 : Int) (x3 x4 : Bool) (x10 : OA) (x10n x10c : Nat) (x11 : ByteArray) (x12 : Addr) (x13 x17 : Int) (J : IMem) (T : SH), I.le J → Inv m x0 x0n x0c x1 x3 x4 x10 x10n x10c x11 x12 x13 x17 J T →
      strconv_formatBits_l12 (fun x0 x0n x0c x1 x3 x4 x10 x10n x10c x11 x12 x13 x17 I S => ∃ m', m' < m ∧ Inv m' x0 x0n x0c x1 x3 x4 x10 x10n x10c x11 x12 x13 x17 I S) R x0 x0n x0c x1 x3 x4 x10 x10n x10c x11 x12 x13 x17 J T
def strconv_formatBits_b5 (R : RT) (x0 : OA) (x0n x0c : Nat) (x1 x2 : Int) (x3 x4 : Bool) (x10 : OA) (x10n x10c : Nat) (x11 : ByteArray) (x12 : Addr) (x13 : Int) (x34 : Bool) (I : IMem) (S : SH) : Prop :=
  bcase x34
    (Runs Tryd.prog 101 #[.int .u64 (IntKind.wrap .u64 x2)] I S fun v I1 S1 => ∃ u0, v = .int .i64 u0 ∧
    strconv_formatBits_b6 R x0 x0n x0c x1 x3 x4 x10 x10n x10c x11 x12 x13 (IntKind.wrap .u64 u0) (IntKind.wrap .u64 x2) (IntKind.wrap .u64 ((IntKind.wrap .u64 x2) - (1 : Int))) I1 S1)
    (strconv_formatBits_b11 R x0 x0n x0c x1 x3 x4 x10 x10n x10c x11 x12 x13 (IntKind.wrap .u64 x2) I S)
def strconv_formatBits_b4 (R : RT) (x0 : OA) (x0n x0c : Nat) (x1 x2 : Int) (x3 x4 : Bool) (x10 : OA) (x10n x10c : Nat) (x11 : ByteArray) (x12 : Addr) (x13 : Int) (I : IMem) (S : SH) : Prop :=
  Runs Tryd.prog 100 #[.int .i64 x2] I S fun v I1 S1 => ∃ u0, v = .bool u0 ∧
  strconv_formatBits_b5 R x0 x0n x0c x1 x2 x3 x4 x10 x10n x10c x11 x12 x13 u0 I1 S1
def strconv_formatBits_b3 (R : RT) (x0 : OA) (x0n x0c : Nat) (x1 x2 : Int) (x3 x4 : Bool) (x10 : OA) (x10n x10c : Nat) (x11 : ByteArray) (I : IMem) (S : SH) : Prop :=
  ∀ b12 : Nat,
  bcase x3
    (strconv_formatBits_b4 R x0 x0n x0c (IntKind.wrap .u64 (0 - x1)) x2 x3 x4 x10 x10n x10c x11 ⟨b12, 0, none⟩ 65 I ((b12, .cells #[.int .u8 0, .int .u8 0, .int .u8 0, .int .u8 0, .int .u8 0, .int .u8 0, .int .u8 0, .int .u8 0, .int .u8 0, .int .u8 0, .int .u8 0, .int .u8 0, .int .u8 0, .int .u8 0, .int .u8 0, .int .u8 0, .int .u8 0, .int .u8 0, .int .u8 0, .int .u8 0, .int .u8 0, .int .u8 0, .int .u8 0, .int .u8 0, .int .u8 0, .int .u8 0, .int .u8 0, .int .u8 0, .int .u8 0, .int .u8 0, .int .u8 0, .int .u8 0, .int .u8 0, .int .u8 0, .int .u8 0, .int .u8 0, .int .u8 0, .int .u8 0, .int .u8 0, .int .u8 0, .int .u8 0, .int .u8 0, .int .u8 0, .int .u8 0, .int .u8 0, .int .u8 0, .int .u8 0, .int .u8 0, .int .u8 0, .int .u8 0, .int .u8 0, .int .u8 0, .int .u8 0, .int .u8 0, .int .u8 0, .int .u8 0, .int .u8 0, .int .u8 0, .int .u8 0, .int .u8 0, .int .u8 0, .int .u8 0, .int .u8 0, .int .u8 0, .int .u8 0] 182 (0, 0)) :: S))
    (strconv_formatBits_b4 R x0 x0n x0c x1 x2 x3 x4 x10 x10n x10c x11 ⟨b12, 0, none⟩ 65 I ((b12, .cells #[.int .u8 0, .int .u8 0, .int .u8 0, .int .u8 0, .int .u8 0, .int .u8 0, .int .u8 0, .int .u8 0, .int .u8 0, .int .u8 0, .int .u8 0, .int .u8 0, .int .u8 0, .int .u8 0, .int .u8 0, .int .u8 0, .int .u8 0, .int .u8 0, .int .u8 0, .int .u8 0, .int .u8 0, .int .u8 0, .int .u8 0, .int .u8 0, .int .u8 0, .int .u8 0, .int .u8 0, .int .u8 0, .int .u8 0, .int .u8 0, .int .u8 0, .int .u8 0, .int .u8 0, .int .u8 0, .int .u8 0, .int .u8 0, .int .u8 0, .int .u8 0, .int .u8 0, .int .u8 0, .int .u8 0, .int .u8 0, .int .u8 0, .int .u8 0, .int .u8 0, .int .u8 0, .int .u8 0, .int .u8 0, .int .u8 0, .int .u8 0, .int .u8 0, .int .u8 0, .int .u8 0, .int .u8 0, .int .u8 0, .int .u8 0, .int .u8 0, .int .u8 0, .int .u8 0, .int .u8 0, .int .u8 0, .int .u8 0, .int .u8 0, .int .u8 0, .int .u8 0] 182 (0, 0)) :: S))
def strconv_formatBits_b2 (R : RT) (x0 : OA) (x0n x0c : Nat) (x1 x2 : Int) (x3 x4 : Bool) (x10 : OA) (x10n x10c : Nat) (x11 : ByteArray) (x28 : Bool) (I : IMem) (S : SH) : Prop :=
  bcase x28
    (False)
    (strconv_formatBits_b3 R x0 x0n x0c x1 x2 x3 x4 x10 x10n x10c x11 I S)
def strconv_formatBits_b1 (R : RT) (x0 : OA) (x0n x0c : Nat) (x1 x2 : Int) (x3 x4 : Bool) (x10 : OA) (x10n x10c : Nat) (x11 : ByteArray) (I : IMem) (S : SH) : Prop :=
  bcase (decide (x2 < (2 : Int)))
    (strconv_formatBits_b2 R x0 x0n x0c x1 x2 x3 x4 x10 x10n x10c x11 true I S)
    (bcase (x2 == (10 : Int))
      (strconv_formatBits_b2 R x0 x0n x0c x1 x2 x3 x4 x10 x10n x10c x11 true I S)
      (strconv_formatBits_b2 R x0 x0n x0c x1 x2 x3 x4 x10 x10n x10c x11 (decide (x2 > (36 : Int))) I S))
def strconv_formatBits (R : RT) (u0 : OA) (u0n u0c : Nat) (u1 u2 : Int) (u3 u4 : Bool) (I : IMem) (S : SH) : Prop :=
  strconv_formatBits_b1 R u0 u0n u0c u1 u2 u3 u4 none 0 0 ⟨#[]⟩ I S
theorem strconv_formatBits_fn (R : RT) (u0 : OA) (u0n u0c : Nat) (u1 u2 : Int) (u3 u4 : Bool) (I : IMem) (S : SH) (h : strconv_formatBits R u0 u0n u0c u1 u2 u3 u4 I S) : Runs Tryd.prog 87 #[.slice u0 u0n u0c, .int .u64 u1, .int .i64 u2, .bool u3, .bool u4] I S R := by
  refine Runs.of_wp (c := cd Tryd.f87) Tryd.func87 (by kernel_rfl) (by kernel_rfl) ?_
  refine cO 1 [kL 0, kI .u64 1, kI .i64 2, kB 3, kB 4, kL 10, kS 11] (strconv_formatBits_b1 R) h fun _ _ _ _ _ _ _ _ _ _ _ _ _ _ _ h => ?_
  refine sO [kL 0, kI .u64 1, kI .i64 2, kB 3, kB 4, kL 10, kS 11] (strconv_formatBits_b3 R) ?_ fun _ _ _ _ _ _ _ _ _ _ _ _ _ _ _ h => ?_
  · refine cO 1 [kL 0, kI .u64 1, kI .i64 2, kB 3, kB 4, kL 10, kS 11, kB 28] (strconv_formatBits_b2 R) h fun _ _ _ _ _ _ _ _ _ _ _ _ _ _ _ _ h => ?_
    exact pS h
  refine cO 3 [kL 0, kI .u64 1, kI .i64 2, kB 3, kB 4, kL 10, kS 11, kA 12, kI .i64 13] (strconv_formatBits_b4 R) h fun _ _ _ _ _ _ _ _ _ _ _ _ _ _ _ _ _ h => ?_
  refine sO [kL 0, kB 3, kB 4, kL 10, kS 11, kA 12, kI .i64 13] (strconv_formatBits_b9 R) ?_ fun _ _ _ _ _ _ _ _ _ _ _ _ _ _ _ h => ?_
  · refine cO 1 [kL 0, kI .u64 1, kI .i64 2, kB 3, kB 4, kL 10, kS 11, kA 12, kI .i64 13, kB 34] (strconv_formatBits_b5 R) h fun _ _ _ _ _ _ _ _ _ _ _ _ _ _ _ _ _ _ h => ?_
    refine cD h (fun h => ?_) fun h => ?_
    · refine cO 3 [kL 0, kI .u64 1, kB 3, kB 4, kL 10, kS 11, kA 12, kI .i64 13, kI .u64 14, kI .u64 15, kI .u64 16] (strconv_formatBits_b6 R) h fun _ _ _ _ _ _ _ _ _ _ _ _ _ _ _ _ _ _ _ h => ?_
      refine sO [kL 0, kI .u64 1, kB 3, kB 4, kL 10, kS 11, kA 12, kI .i64 13] (strconv_formatBits_b8 R) ?_ fun _ _ _ _ _ _ _ _ _ _ _ _ _ _ _ _ h => ?_
      · refine bK ?_
        obtain ⟨Vg7, mg7, h, hr⟩ := h
        refine lO [kL 0, kI .u64 1, kB 3, kB 4, kL 10, kS 11, kA 12, kI .i64 13, kI .u64 14, kI .u64 15, kI .u64 16] Vg7 mg7 h fun mg7 _ I S hle x0 x0n x0c x1 x3 x4 x10 x10n x10c x11 x12 x13 x14 x15 x16 h => ?_
        have h := hr mg7 x0 x0n x0c x1 x3 x4 x10 x10n x10c x11 x12 x13 x14 x15 x16 I S hle h
        exact pS h
      exact pS h
    refine cO 1 [kL 0, kI .u64 1, kB 3, kB 4, kL 10, kS 11, kA 12, kI .i64 13, kI .u64 17] (strconv_formatBits_b11 R) h fun _ _ _ _ _ _ _ _ _ _ _ _ _ _ _ _ _ h => ?_
    refine sO [kL 0, kI .u64 1, kB 3, kB 4, kL 10, kS 11, kA 12, kI .i64 13] (strconv_formatBits_b13 R) ?_ fun _ _ _ _ _ _ _ _ _ _ _ _ _ _ _ _ h => ?_
    · refine bK ?_
      obtain ⟨Vg12, mg12, h, hr⟩ := h
      refine lO [kL 0, kI .u64 1, kB 3, kB 4, kL 10, kS 11, kA 12, kI .i64 13, kI .u64 17] Vg12 mg12 h fun mg12 _ I S hle x0 x0n x0c x1 x3 x4 x10 x10n x10c x11 x12 x13 x17 h => ?_
      have h := hr mg12 x0 x0n x0c x1 x3 x4 x10 x10n x10c x11 x12 x13 x17 I S hle h
      exact pS h
    exact pS h
  refine cO 1 [kL 0, kB 4, kL 10, kS 11, kA 12, kI .i64 13] (strconv_formatBits_b10 R) h fun _ _ _ _ _ _ _ _ _ _ _ _ _ _ h => ?_
  exact pS h
def strconv_isPowerOfTwo (R : RT) (u0 : Int) (I : IMem) (S : SH) : Prop :=
  R (.bool ((iand .i64 u0 (IntKind.wrap .i64 (u0 - (1 : Int)))) == (0 : Int))) I S
theorem strconv_isPowerOfTwo_fn (R : RT) (u0 : Int) (I : IMem) (S : SH) (h : strconv_isPowerOfTwo R u0 I S) : Runs Tryd.prog 100 #[.int .i64 u0] I S R := by
  refine Runs.of_wp (c := cd Tryd.f100) Tryd.func100 (by kernel_rfl) (by kernel_rfl) ?_
  exact pS h
def bits_TrailingZeros (R : RT) (u0 : Int) (I : IMem) (S : SH) : Prop :=
  Runs Tryd.prog 113 #[.int .u64 u0] I S fun v I1 S1 => ∃ u1, v = .int .i64 u1 ∧
  R (.int .i64 u1) I1 S1
theorem bits_TrailingZeros_fn (R : RT) (u0 : Int) (I : IMem) (S : SH) (h : bits_TrailingZeros R u0 I S) : Runs Tryd.prog 101 #[.int .u64 u0] I S R := by
  refine Runs.of_wp (c := cd Tryd.f101) Tryd.func101 (by kernel_rfl) (by kernel_rfl) ?_
  exact pS h
def bits_TrailingZeros64 (R : RT) (u0 : Int) (I : IMem) (S : SH) : Prop :=
  bcase (u0 == (0 : Int))
    (R (.int .i64 64) I S)
    ((0 : Int) ≤ ((IntKind.wrap .u64 ((iand .u64 u0 (IntKind.wrap .u64 (0 - u0))) * (285870213051353865 : Int))).fdiv (2 ^ (min (58 : Int).toNat (IntKind.bits .u64)))) ∧ ((IntKind.wrap .u64 ((iand .u64 u0 (IntKind.wrap .u64 (0 - u0))) * (285870213051353865 : Int))).fdiv (2 ^ (min (58 : Int).toNat (IntKind.bits .u64)))) < ((64 : Nat) : Int) ∧
    ∃ u1, Cell I S ((⟨4, 0, none⟩ : Addr).add (((IntKind.wrap .u64 ((iand .u64 u0 (IntKind.wrap .u64 (0 - u0))) * (285870213051353865 : Int))).fdiv (2 ^ (min (58 : Int).toNat (IntKind.bits .u64)))).toNat * 1)) (.int .u8 u1) ∧
    R (.int .i64 (IntKind.wrap .i64 u1)) I S)
theorem bits_TrailingZeros64_fn (R : RT) (u0 : Int) (I : IMem) (S : SH) (h : bits_TrailingZeros64 R u0 I S) : Runs Tryd.prog 113 #[.int .u64 u0] I S R := by
  refine Runs.of_wp (c := cd Tryd.f113) Tryd.func113 (by kernel_rfl) (by kernel_rfl) ?_
  exact pS h
def strconv_log10Pow2 (R : RT) (u0 : Int) (I : IMem) (S : SH) : Prop :=
  R (.int .i64 ((IntKind.wrap .i64 (u0 * (78913 : Int))).fdiv (2 ^ (min (18 : Int).toNat (IntKind.bits .i64))))) I S
theorem strconv_log10Pow2_fn (R : RT) (u0 : Int) (I : IMem) (S : SH) (h : strconv_log10Pow2 R u0 I S) : Runs Tryd.prog 97 #[.int .i64 u0] I S R := by
  refine Runs.of_wp (c := cd Tryd.f97) Tryd.func97 (by kernel_rfl) (by kernel_rfl) ?_
  exact pS h
def bits_Len64_b3 (R : RT) (x0 x2 : Int) (I : IMem) (S : SH) : Prop :=
  ∃ u0 : UInt8, (0 : Int) ≤ (IntKind.wrap .u8 x0) ∧ strT1_2a39[(IntKind.wrap .u8 x0).toNat]? = some u0 ∧
  R (.int .i64 (IntKind.wrap .i64 (x2 + (IntKind.wrap .i64 (u0.toNat : Int))))) I S
def bits_Len64_b2 (R : RT) (x0 x2 : Int) (I : IMem) (S : SH) : Prop :=
  bcase (decide (x0 ≥ (256 : Int)))
    (bits_Len64_b3 R (x0.fdiv (2 ^ (min (8 : Int).toNat (IntKind.bits .u64)))) (IntKind.wrap .i64 (x2 + (8 : Int))) I S)
    (bits_Len64_b3 R x0 x2 I S)
def bits_Len64_b1 (R : RT) (x0 x2 : Int) (I : IMem) (S : SH) : Prop :=
  bcase (decide (x0 ≥ (65536 : Int)))
    (bits_Len64_b2 R (x0.fdiv (2 ^ (min (16 : Int).toNat (IntKind.bits .u64)))) (IntKind.wrap .i64 (x2 + (16 : Int))) I S)
    (bits_Len64_b2 R x0 x2 I S)
def bits_Len64 (R : RT) (u0 : Int) (I : IMem) (S : SH) : Prop :=
  bcase (decide (u0 ≥ (4294967296 : Int)))
    (bits_Len64_b1 R (u0.fdiv (2 ^ (min (32 : Int).toNat (IntKind.bits .u64)))) 32 I S)
    (bits_Len64_b1 R u0 0 I S)
theorem bits_Len64_fn (R : RT) (u0 : Int) (I : IMem) (S : SH) (h : bits_Len64 R u0 I S) : Runs Tryd.prog 98 #[.int .u64 u0] I S R := by
  refine Runs.of_wp (c := cd Tryd.f98) Tryd.func98 (by kernel_rfl) (by kernel_rfl) ?_
  refine cO 2 [kI .u64 0, kI .i64 2] (bits_Len64_b1 R) h fun _ _ _ _ _ _ h => ?_
  refine cO 1 [kI .u64 0, kI .i64 2] (bits_Len64_b2 R) h fun _ _ _ _ _ _ h => ?_
  refine cO 1 [kI .u64 0, kI .i64 2] (bits_Len64_b3 R) h fun _ _ _ _ _ _ h => ?_
  exact pS h
def strconv_bool2_int (R : RT) (u0 : Bool) (I : IMem) (S : SH) : Prop :=
  bcase u0
    (R (.int .i64 1) I S)
    (R (.int .i64 0) I S)
theorem strconv_bool2_int_fn (R : RT) (u0 : Bool) (I : IMem) (S : SH) (h : strconv_bool2_int R u0 I S) : Runs Tryd.prog 99 #[.bool u0] I S R := by
  refine Runs.of_wp (c := cd Tryd.f99) Tryd.func99 (by kernel_rfl) (by kernel_rfl) ?_
  exact pS h
def strconv_Atoi (R : RT) (u0 : ByteArray) (I : IMem) (S : SH) : Prop :=
  Runs Tryd.prog 88 #[.string u0] I S fun v I1 S1 => ∃ u1 u2, v = .tuple #[.int .i64 u1, u2] ∧
  ∃ nl, isNilI u2 = some nl ∧
  bcase (!nl)
    (Runs Tryd.prog 89 #[.string ⟨#[65, 116, 111, 105]⟩, .string u0, .int .i64 0, .int .i64 0, u2] I1 S1 fun v' I1' S1' => ∃ u3, v' = u3 ∧
    R (.tuple #[.int .i64 u1, u3]) I1' S1')
    (R (.tuple #[.int .i64 u1, .nilIface]) I1 S1)
theorem strconv_Atoi_fn (R : RT) (u0 : ByteArray) (I : IMem) (S : SH) (h : strconv_Atoi R u0 I S) : Runs Tryd.prog 77 #[.string u0] I S R := by
  refine Runs.of_wp (c := cd Tryd.f77) Tryd.func77 (by kernel_rfl) (by kernel_rfl) ?_
  exact pS h
abbrev strconv_Atoi_2_t8 := ByteArray → Int → OA → Nat → Nat → Int → Int → PR
def strconv_Atoi_2_b10 (R : RT) (x6 : Int) (I : IMem) (S : SH) : Prop :=
  R (.tuple #[.int .i64 x6, .nilIface]) I S
def strconv_Atoi_2_b9 (R : RT) (x5 : ByteArray) (x6 : Int) (I : IMem) (S : SH) : Prop :=
  ∃ u0 : UInt8, (0 : Int) ≤ (0 : Int) ∧ x5[(0 : Int).toNat]? = some u0 ∧
  bcase ((u0.toNat : Int) == (45 : Int))
    (strconv_Atoi_2_b10 R (IntKind.wrap .i64 (0 - x6)) I S)
    (strconv_Atoi_2_b10 R x6 I S)
def strconv_Atoi_2_l8 (g8 : strconv_Atoi_2_t8) (R : RT) (x5 : ByteArray) (x6 : Int) (x47 : OA) (x47n x47c : Nat) (x48 x49 : Int) (I : IMem) (S : SH) : Prop :=
  bcase (decide (x49 < x48))
    (ptrP x47 fun u0 => (0 : Int) ≤ x49 ∧ x49 < (x47n : Int) ∧
    ∃ u1, Cell I S (u0.add (x49.toNat * 1)) (.int .u8 u1) ∧
    bcase (decide ((IntKind.wrap .u8 (u1 - (48 : Int))) > (9 : Int)))
      (R (.tuple #[.int .i64 0, (.iface 185 (.int .i64 2))]) I S)
      (g8 x5 (IntKind.wrap .i64 ((IntKind.wrap .i64 (x6 * (10 : Int))) + (IntKind.wrap .i64 (IntKind.wrap .u8 (u1 - (48 : Int)))))) x47 x47n x47c x48 (IntKind.wrap .i64 (x49 + (1 : Int))) I S))
    (strconv_Atoi_2_b9 R x5 x6 I S)
def strconv_Atoi_2_b7 (R : RT) (x5 : ByteArray) (x6 : Int) (x47 : OA) (x47n x47c : Nat) (x48 x49 : Int) (I : IMem) (S : SH) : Prop :=
  ∃ (Inv : Nat → strconv_Atoi_2_t8) (m : Nat), Inv m x5 x6 x47 x47n x47c x48 x49 I S ∧
    ∀ (m : Nat) (x5 : ByteArray) (x6 : Int) (x47 : OA) (x47n x47c : Nat) (x48 x49 : Int) (J : IMem) (T : SH), I.le J → Inv m x5 x6 x47 x47n x47c x48 x49 J T →
      strconv_Atoi_2_l8 (fun x5 x6 x47 x47n x47c x48 x49 I S => ∃ m', m' < m ∧ Inv m' x5 x6 x47 x47n x47c x48 x49 I S) R x5 x6 x47 x47n x47c x48 x49 J T
def strconv_Atoi_2_b6 (R : RT) (x0 x5 : ByteArray) (x6 : Int) (I : IMem) (S : SH) : Prop :=
  x0.size ≤ maxLen ∧ ∀ b47 c47 : Nat, x0.size ≤ c47 → c47 ≤ maxLen →
  strconv_Atoi_2_b7 R x5 x6 (some ⟨b47, 0, none⟩) x0.size c47 ((x0.size : Nat) : Int) 0 I ((b47, .cells (byteCells x0 ++ repV (c47 - x0.size) [.int .u8 0]).toArray 5 (c47, c47 + 1)) :: S)
def strconv_Atoi_2_b5 (R : RT) (x0 x5 : ByteArray) (I : IMem) (S : SH) : Prop :=
  strconv_Atoi_2_b6 R x0 x5 0 I S
def strconv_Atoi_2_b4 (R : RT) (x0 x5 : ByteArray) (x39 : Bool) (I : IMem) (S : SH) : Prop :=
  bcase x39
    ((0 : Int) ≤ (1 : Int) ∧ (1 : Int) ≤ ((x0.size : Nat) : Int) ∧
    bcase (decide (((x0.extract ((1 : Int).toNat) x0.size).size : Int) < (1 : Int)))
      (R (.tuple #[.int .i64 0, (.iface 185 (.int .i64 2))]) I S)
      (strconv_Atoi_2_b5 R (x0.extract ((1 : Int).toNat) x0.size) x5 I S))
    (strconv_Atoi_2_b5 R x0 x5 I S)
def strconv_Atoi_2_b3 (R : RT) (x0 x5 : ByteArray) (I : IMem) (S : SH) : Prop :=
  ∃ u0 : UInt8, (0 : Int) ≤ (0 : Int) ∧ x0[(0 : Int).toNat]? = some u0 ∧
  bcase ((u0.toNat : Int) == (45 : Int))
    (strconv_Atoi_2_b4 R x0 x5 true I S)
    (∃ u1 : UInt8, (0 : Int) ≤ (0 : Int) ∧ x0[(0 : Int).toNat]? = some u1 ∧
    strconv_Atoi_2_b4 R x0 x5 ((u1.toNat : Int) == (43 : Int)) I S)
def strconv_Atoi_2_b11 (R : RT) (x0 : ByteArray) (I : IMem) (S : SH) : Prop :=
  Runs Tryd.prog 102 #[.string x0, .int .i64 10, .int .i64 0] I S fun v I1 S1 => ∃ u0 u1, v = .tuple #[.int .i64 u0, u1] ∧
  R (.tuple #[.int .i64 u0, u1]) I1 S1
def strconv_Atoi_2_b2 (R : RT) (x0 : ByteArray) (x30 : Bool) (I : IMem) (S : SH) : Prop :=
  bcase x30
    (strconv_Atoi_2_b3 R x0 x0 I S)
    (strconv_Atoi_2_b11 R x0 I S)
def strconv_Atoi_2_b1 (R : RT) (x0 : ByteArray) (x4 : Int) (I : IMem) (S : SH) : Prop :=
  bcase (decide ((0 : Int) < x4))
    (strconv_Atoi_2_b2 R x0 (decide (x4 < (19 : Int))) I S)
    (strconv_Atoi_2_b2 R x0 false I S)
def strconv_Atoi_2 (R : RT) (u0 : ByteArray) (I : IMem) (S : SH) : Prop :=
  strconv_Atoi_2_b1 R u0 (u0.size : Int) I S
theorem strconv_Atoi_2_fn (R : RT) (u0 : ByteArray) (I : IMem) (S : SH) (h : strconv_Atoi_2 R u0 I S) : Runs Tryd.prog 88 #[.string u0] I S R := by
  refine Runs.of_wp (c := cd Tryd.f88) Tryd.func88 (by kernel_rfl) (by kernel_rfl) ?_
  refine cO 2 [kS 0, kI .i64 4] (strconv_Atoi_2_b1 R) h fun _ _ _ _ _ _ h => ?_
  refine sO [kS 0] (strconv_Atoi_2_b11 R) ?_ fun _ _ _ _ _ h => ?_
  · refine cO 1 [kS 0, kB 30] (strconv_Atoi_2_b2 R) h fun _ _ _ _ _ _ h => ?_
    refine cD h (fun h => ?_) fun h => pS h
    refine cO 1 [kS 0, kS 5] (strconv_Atoi_2_b3 R) h fun _ _ _ _ _ _ h => ?_
    refine sO [kS 0, kS 5] (strconv_Atoi_2_b5 R) ?_ fun _ _ _ _ _ _ h => ?_
    · refine cO 1 [kS 0, kS 5, kB 39] (strconv_Atoi_2_b4 R) h fun _ _ _ _ _ _ _ h => ?_
      exact pS h
    refine cO 1 [kS 0, kS 5, kI .i64 6] (strconv_Atoi_2_b6 R) h fun _ _ _ _ _ _ _ h => ?_
    refine sO [kS 5, kI .i64 6] (strconv_Atoi_2_b9 R) ?_ fun _ _ _ _ _ _ h => ?_
    · refine cO 1 [kS 5, kI .i64 6, kL 47, kI .i64 48, kI .i64 49] (strconv_Atoi_2_b7 R) h fun _ _ _ _ _ _ _ _ _ _ _ h => ?_
      refine bK ?_
      obtain ⟨Vg8, mg8, h, hr⟩ := h
      refine lO [kS 5, kI .i64 6, kL 47, kI .i64 48, kI .i64 49] Vg8 mg8 h fun mg8 _ I S hle x5 x6 x47 x47n x47c x48 x49 h => ?_
      have h := hr mg8 x5 x6 x47 x47n x47c x48 x49 I S hle h
      exact pS h
    refine cO 1 [kI .i64 6] (strconv_Atoi_2_b10 R) h fun _ _ _ _ _ h => ?_
    exact pS h
  exact pS h
def strconv_toError (R : RT) (u0 u1 : ByteArray) (u2 u3 : Int) (u4 : Value) (I : IMem) (S : SH) : Prop :=
  ∃ ei, eqI Tryd.prog u4 185 (.int .i64 2) = some ei ∧
  bcase ei
    (Runs Tryd.prog 103 #[.string u0, .string u1] I S fun v I1 S1 => ∃ u5, v = .pointer u5 ∧
    R (.iface 188 (.pointer u5)) I1 S1)
    (∃ ei', eqI Tryd.prog u4 185 (.int .i64 1) = some ei' ∧
    bcase ei'
      (Runs Tryd.prog 104 #[.string u0, .string u1] I S fun v' I1' S1' => ∃ u6, v' = .pointer u6 ∧
      R (.iface 188 (.pointer u6)) I1' S1')
      (∃ ei'', eqI Tryd.prog u4 185 (.int .i64 3) = some ei'' ∧
      bcase ei''
        (Runs Tryd.prog 105 #[.string u0, .string u1, .int .i64 u2] I S fun v'' I1'' S1'' => ∃ u7, v'' = .pointer u7 ∧
        R (.iface 188 (.pointer u7)) I1'' S1'')
        (∃ ei_r3, eqI Tryd.prog u4 185 (.int .i64 4) = some ei_r3 ∧
        bcase ei_r3
          (Runs Tryd.prog 106 #[.string u0, .string u1, .int .i64 u3] I S fun v_r3 I1_r3 S1_r3 => ∃ u8, v_r3 = .pointer u8 ∧
          R (.iface 188 (.pointer u8)) I1_r3 S1_r3)
          (R u4 I S))))
theorem strconv_toError_fn (R : RT) (u0 u1 : ByteArray) (u2 u3 : Int) (u4 : Value) (I : IMem) (S : SH) (h : strconv_toError R u0 u1 u2 u3 u4 I S) : Runs Tryd.prog 89 #[.string u0, .string u1, .int .i64 u2, .int .i64 u3, u4] I S R := by
  refine Runs.of_wp (c := cd Tryd.f89) Tryd.func89 (by kernel_rfl) (by kernel_rfl) ?_
  exact pS h
def strconv_ParseUint (R : RT) (u0 : ByteArray) (u1 u2 : Int) (I : IMem) (S : SH) : Prop :=
  Runs Tryd.prog 110 #[.string u0, .int .i64 u1, .int .i64 u2] I S fun v I1 S1 => ∃ u3 u4, v = .tuple #[.int .u64 u3, u4] ∧
  ∃ nl, isNilI u4 = some nl ∧
  bcase (!nl)
    (Runs Tryd.prog 89 #[.string ⟨#[80, 97, 114, 115, 101, 85, 105, 110, 116]⟩, .string u0, .int .i64 u1, .int .i64 u2, u4] I1 S1 fun v' I1' S1' => ∃ u5, v' = u5 ∧
    R (.tuple #[.int .u64 u3, u5]) I1' S1')
    (R (.tuple #[.int .u64 u3, .nilIface]) I1 S1)
theorem strconv_ParseUint_fn (R : RT) (u0 : ByteArray) (u1 u2 : Int) (I : IMem) (S : SH) (h : strconv_ParseUint R u0 u1 u2 I S) : Runs Tryd.prog 95 #[.string u0, .int .i64 u1, .int .i64 u2] I S R := by
  refine Runs.of_wp (c := cd Tryd.f95) Tryd.func95 (by kernel_rfl) (by kernel_rfl) ?_
  exact pS h
abbrev strconv_ParseUint_2_t9 := Int → Bool → ByteArray → Int → Int → Bool → Int → OA → Nat → Nat → Int → Int → PR
def strconv_ParseUint_2_b13 (g9 : strconv_ParseUint_2_t9) (R : RT) (x1 : Int) (x8 : Bool) (x9 : ByteArray) (x10 x11 : Int) (x12 : Bool) (x13 : Int) (x99 : OA) (x99n x99c : Nat) (x100 x101 : Int) (I : IMem) (S : SH) : Prop :=
  g9 x1 x8 x9 x10 x11 x12 x13 x99 x99n x99c x100 (IntKind.wrap .i64 (x101 + (1 : Int))) I S
def strconv_ParseUint_2_b18 (g9 : strconv_ParseUint_2_t9) (R : RT) (x1 : Int) (x8 : Bool) (x9 : ByteArray) (x10 x11 : Int) (x12 : Bool) (x17 : Int) (x99 : OA) (x99n x99c : Nat) (x100 x101 : Int) (I : IMem) (S : SH) : Prop :=
  strconv_ParseUint_2_b13 g9 R x1 x8 x9 x10 x11 x12 x17 x99 x99n x99c x100 x101 I S
def strconv_ParseUint_2_b17 (g9 : strconv_ParseUint_2_t9) (R : RT) (x1 : Int) (x8 : Bool) (x9 : ByteArray) (x10 x11 : Int) (x12 : Bool) (x17 : Int) (x99 : OA) (x99n x99c : Nat) (x100 x101 : Int) (x159 : Bool) (I : IMem) (S : SH) : Prop :=
  bcase x159
    (R (.tuple #[.int .u64 x11, (.iface 185 (.int .i64 1))]) I S)
    (strconv_ParseUint_2_b18 g9 R x1 x8 x9 x10 x11 x12 x17 x99 x99n x99c x100 x101 I S)
def strconv_ParseUint_2_b16 (g9 : strconv_ParseUint_2_t9) (R : RT) (x1 : Int) (x8 : Bool) (x9 : ByteArray) (x10 x11 : Int) (x12 : Bool) (x13 x17 : Int) (x99 : OA) (x99n x99c : Nat) (x100 x101 : Int) (I : IMem) (S : SH) : Prop :=
  bcase (decide (x17 < x13))
    (strconv_ParseUint_2_b17 g9 R x1 x8 x9 x10 x11 x12 x17 x99 x99n x99c x100 x101 true I S)
    (strconv_ParseUint_2_b17 g9 R x1 x8 x9 x10 x11 x12 x17 x99 x99n x99c x100 x101 (decide (x17 > x11)) I S)
def strconv_ParseUint_2_b15 (g9 : strconv_ParseUint_2_t9) (R : RT) (x1 : Int) (x8 : Bool) (x9 : ByteArray) (x10 x11 : Int) (x12 : Bool) (x13 x16 : Int) (x99 : OA) (x99n x99c : Nat) (x100 x101 : Int) (I : IMem) (S : SH) : Prop :=
  bcase (decide (x16 ≥ (IntKind.wrap .u8 x1)))
    (R (.tuple #[.int .u64 0, (.iface 185 (.int .i64 2))]) I S)
    (bcase (decide (x13 ≥ x10))
      (R (.tuple #[.int .u64 x11, (.iface 185 (.int .i64 1))]) I S)
      (strconv_ParseUint_2_b16 g9 R x1 x8 x9 x10 x11 x12 (IntKind.wrap .u64 (x13 * (IntKind.wrap .u64 x1))) (IntKind.wrap .u64 ((IntKind.wrap .u64 (x13 * (IntKind.wrap .u64 x1))) + (IntKind.wrap .u64 x16))) x99 x99n x99c x100 x101 I S))
def strconv_ParseUint_2_b19 (g9 : strconv_ParseUint_2_t9) (R : RT) (x1 : Int) (x8 : Bool) (x9 : ByteArray) (x10 x11 : Int) (x12 : Bool) (x13 x15 : Int) (x99 : OA) (x99n x99c : Nat) (x100 x101 : Int) (x121 : Bool) (I : IMem) (S : SH) : Prop :=
  bcase x121
    (Runs Tryd.prog 116 #[.int .u8 x15] I S fun v I1 S1 => ∃ u0, v = .int .u8 u0 ∧
    strconv_ParseUint_2_b15 g9 R x1 x8 x9 x10 x11 x12 x13 (IntKind.wrap .u8 ((IntKind.wrap .u8 (u0 - (97 : Int))) + (10 : Int))) x99 x99n x99c x100 x101 I1 S1)
    (R (.tuple #[.int .u64 0, (.iface 185 (.int .i64 2))]) I S)
def strconv_ParseUint_2_b14 (g9 : strconv_ParseUint_2_t9) (R : RT) (x1 : Int) (x8 : Bool) (x9 : ByteArray) (x10 x11 : Int) (x12 : Bool) (x13 x15 : Int) (x99 : OA) (x99n x99c : Nat) (x100 x101 : Int) (x112 : Bool) (I : IMem) (S : SH) : Prop :=
  bcase x112
    (strconv_ParseUint_2_b15 g9 R x1 x8 x9 x10 x11 x12 x13 (IntKind.wrap .u8 (x15 - (48 : Int))) x99 x99n x99c x100 x101 I S)
    (Runs Tryd.prog 116 #[.int .u8 x15] I S fun v I1 S1 => ∃ u0, v = .int .u8 u0 ∧
    bcase (decide ((97 : Int) ≤ u0))
      (Runs Tryd.prog 116 #[.int .u8 x15] I1 S1 fun v' I1' S1' => ∃ u1, v' = .int .u8 u1 ∧
      strconv_ParseUint_2_b19 g9 R x1 x8 x9 x10 x11 x12 x13 x15 x99 x99n x99c x100 x101 (decide (u1 ≤ (122 : Int))) I1' S1')
      (strconv_ParseUint_2_b19 g9 R x1 x8 x9 x10 x11 x12 x13 x15 x99 x99n x99c x100 x101 false I1 S1))
def strconv_ParseUint_2_b12 (g9 : strconv_ParseUint_2_t9) (R : RT) (x1 : Int) (x8 : Bool) (x9 : ByteArray) (x10 x11 : Int) (x12 : Bool) (x13 x15 : Int) (x99 : OA) (x99n x99c : Nat) (x100 x101 : Int) (x106 : Bool) (I : IMem) (S : SH) : Prop :=
  bcase x106
    (strconv_ParseUint_2_b13 g9 R x1 x8 x9 x10 x11 true x13 x99 x99n x99c x100 x101 I S)
    (bcase (decide ((48 : Int) ≤ x15))
      (strconv_ParseUint_2_b14 g9 R x1 x8 x9 x10 x11 x12 x13 x15 x99 x99n x99c x100 x101 (decide (x15 ≤ (57 : Int))) I S)
      (strconv_ParseUint_2_b14 g9 R x1 x8 x9 x10 x11 x12 x13 x15 x99 x99n x99c x100 x101 false I S))
def strconv_ParseUint_2_b11 (g9 : strconv_ParseUint_2_t9) (R : RT) (x1 : Int) (x8 : Bool) (x9 : ByteArray) (x10 x11 : Int) (x12 : Bool) (x13 x15 : Int) (x99 : OA) (x99n x99c : Nat) (x100 x101 : Int) (I : IMem) (S : SH) : Prop :=
  bcase (x15 == (95 : Int))
    (strconv_ParseUint_2_b12 g9 R x1 x8 x9 x10 x11 x12 x13 x15 x99 x99n x99c x100 x101 x8 I S)
    (strconv_ParseUint_2_b12 g9 R x1 x8 x9 x10 x11 x12 x13 x15 x99 x99n x99c x100 x101 false I S)
def strconv_ParseUint_2_b10 (g9 : strconv_ParseUint_2_t9) (R : RT) (x1 : Int) (x8 : Bool) (x9 : ByteArray) (x10 x11 : Int) (x12 : Bool) (x13 : Int) (x99 : OA) (x99n x99c : Nat) (x100 x101 : Int) (I : IMem) (S : SH) : Prop :=
  ptrP x99 fun u0 => (0 : Int) ≤ x101 ∧ x101 < (x99n : Int) ∧
  ∃ u1, Cell I S (u0.add (x101.toNat * 1)) (.int .u8 u1) ∧
  strconv_ParseUint_2_b11 g9 R x1 x8 x9 x10 x11 x12 x13 u1 x99 x99n x99c x100 x101 I S
def strconv_ParseUint_2_b22 (R : RT) (x13 : Int) (I : IMem) (S : SH) : Prop :=
  R (.tuple #[.int .u64 x13, .nilIface]) I S
def strconv_ParseUint_2_b21 (R : RT) (x13 : Int) (x169 : Bool) (I : IMem) (S : SH) : Prop :=
  bcase x169
    (R (.tuple #[.int .u64 0, (.iface 185 (.int .i64 2))]) I S)
    (strconv_ParseUint_2_b22 R x13 I S)
def strconv_ParseUint_2_b20 (R : RT) (x9 : ByteArray) (x12 : Bool) (x13 : Int) (I : IMem) (S : SH) : Prop :=
  bcase x12
    (Runs Tryd.prog 117 #[.string x9] I S fun v I1 S1 => ∃ u0, v = .bool u0 ∧
    strconv_ParseUint_2_b21 R x13 (!u0) I1 S1)
    (strconv_ParseUint_2_b21 R x13 false I S)
def strconv_ParseUint_2_l9 (g9 : strconv_ParseUint_2_t9) (R : RT) (x1 : Int) (x8 : Bool) (x9 : ByteArray) (x10 x11 : Int) (x12 : Bool) (x13 : Int) (x99 : OA) (x99n x99c : Nat) (x100 x101 : Int) (I : IMem) (S : SH) : Prop :=
  bcase (decide (x101 < x100))
    (strconv_ParseUint_2_b10 g9 R x1 x8 x9 x10 x11 x12 x13 x99 x99n x99c x100 x101 I S)
    (strconv_ParseUint_2_b20 R x9 x12 x13 I S)
def strconv_ParseUint_2_b8 (R : RT) (x1 : Int) (x8 : Bool) (x9 : ByteArray) (x10 x11 : Int) (x12 : Bool) (x13 : Int) (x99 : OA) (x99n x99c : Nat) (x100 x101 : Int) (I : IMem) (S : SH) : Prop :=
  ∃ (Inv : Nat → strconv_ParseUint_2_t9) (m : Nat), Inv m x1 x8 x9 x10 x11 x12 x13 x99 x99n x99c x100 x101 I S ∧
    ∀ (m : Nat) (x1 : Int) (x8 : Bool) (x9 : ByteArray) (x10 x11 : Int) (x12 : Bool) (x13 : Int) (x99 : OA) (x99n x99c : Nat) (x100 x101 : Int) (J : IMem) (T : SH), I.le J → Inv m x1 x8 x9 x10 x11 x12 x13 x99 x99n x99c x100 x101 J T →
      strconv_ParseUint_2_l9 (fun x1 x8 x9 x10 x11 x12 x13 x99 x99n x99c x100 x101 I S => ∃ m', m' < m ∧ Inv m' x1 x8 x9 x10 x11 x12 x13 x99 x99n x99c x100 x101 I S) R x1 x8 x9 x10 x11 x12 x13 x99 x99n x99c x100 x101 J T
def strconv_ParseUint_2_b7 (R : RT) (x0 : ByteArray) (x1 : Int) (x8 : Bool) (x9 : ByteArray) (x10 x11 : Int) (x12 : Bool) (x13 : Int) (I : IMem) (S : SH) : Prop :=
  x0.size ≤ maxLen ∧ ∀ b99 c99 : Nat, x0.size ≤ c99 → c99 ≤ maxLen →
  strconv_ParseUint_2_b8 R x1 x8 x9 x10 x11 x12 x13 (some ⟨b99, 0, none⟩) x0.size c99 ((x0.size : Nat) : Int) 0 I ((b99, .cells (byteCells x0 ++ repV (c99 - x0.size) [.int .u8 0]).toArray 5 (c99, c99 + 1)) :: S)
def strconv_ParseUint_2_b6 (R : RT) (x0 : ByteArray) (x1 x2 : Int) (x8 : Bool) (x9 : ByteArray) (x10 : Int) (I : IMem) (S : SH) : Prop :=
  bcase (decide ((IntKind.wrap .u64 x2) < 0)) False (strconv_ParseUint_2_b7 R x0 x1 x8 x9 x10 (IntKind.wrap .u64 ((IntKind.wrap .u64 ((1 : Int) * 2 ^ (min (IntKind.wrap .u64 x2).toNat (IntKind.bits .u64)))) - (1 : Int))) false 0 I S)
def strconv_ParseUint_2_b5 (R : RT) (x0 : ByteArray) (x1 x2 : Int) (x8 : Bool) (x9 : ByteArray) (I : IMem) (S : SH) : Prop :=
  bcase (x1 == (10 : Int))
    (strconv_ParseUint_2_b6 R x0 x1 x2 x8 x9 1844674407370955162 I S)
    (bcase (x1 == (16 : Int))
      (strconv_ParseUint_2_b6 R x0 x1 x2 x8 x9 1152921504606846976 I S)
      (bcase (decide ((IntKind.wrap .u64 x1) = 0)) False (strconv_ParseUint_2_b6 R x0 x1 x2 x8 x9 (IntKind.wrap .u64 ((IntKind.wrap .u64 ((18446744073709551615 : Int).tdiv (IntKind.wrap .u64 x1))) + (1 : Int))) I S)))
def strconv_ParseUint_2_b23 (R : RT) (x0 : ByteArray) (x1 x2 : Int) (x8 : Bool) (x9 : ByteArray) (x83 : Bool) (I : IMem) (S : SH) : Prop :=
  bcase x83
    (R (.tuple #[.int .u64 0, (.iface 185 (.int .i64 4))]) I S)
    (strconv_ParseUint_2_b5 R x0 x1 x2 x8 x9 I S)
def strconv_ParseUint_2_b4 (R : RT) (x0 : ByteArray) (x1 x2 : Int) (x8 : Bool) (x9 : ByteArray) (x77 : Bool) (I : IMem) (S : SH) : Prop :=
  bcase x77
    (strconv_ParseUint_2_b5 R x0 x1 64 x8 x9 I S)
    (bcase (decide (x2 < (0 : Int)))
      (strconv_ParseUint_2_b23 R x0 x1 x2 x8 x9 true I S)
      (strconv_ParseUint_2_b23 R x0 x1 x2 x8 x9 (decide (x2 > (64 : Int))) I S))
def strconv_ParseUint_2_b3 (R : RT) (x0 : ByteArray) (x1 x2 : Int) (x8 : Bool) (x9 : ByteArray) (I : IMem) (S : SH) : Prop :=
  strconv_ParseUint_2_b4 R x0 x1 x2 x8 x9 (x2 == (0 : Int)) I S
def strconv_ParseUint_2_b28 (R : RT) (x0 : ByteArray) (x2 : Int) (x8 : Bool) (x9 : ByteArray) (x64 : Bool) (I : IMem) (S : SH) : Prop :=
  bcase x64
    ((0 : Int) ≤ (2 : Int) ∧ (2 : Int) ≤ ((x0.size : Nat) : Int) ∧
    strconv_ParseUint_2_b3 R (x0.extract ((2 : Int).toNat) x0.size) 16 x2 x8 x9 I S)
    ((0 : Int) ≤ (1 : Int) ∧ (1 : Int) ≤ ((x0.size : Nat) : Int) ∧
    strconv_ParseUint_2_b3 R (x0.extract ((1 : Int).toNat) x0.size) 8 x2 x8 x9 I S)
def strconv_ParseUint_2_b27 (R : RT) (x0 : ByteArray) (x2 : Int) (x8 : Bool) (x9 : ByteArray) (x52 : Bool) (I : IMem) (S : SH) : Prop :=
  bcase x52
    ((0 : Int) ≤ (2 : Int) ∧ (2 : Int) ≤ ((x0.size : Nat) : Int) ∧
    strconv_ParseUint_2_b3 R (x0.extract ((2 : Int).toNat) x0.size) 8 x2 x8 x9 I S)
    (bcase (decide ((x0.size : Int) ≥ (3 : Int)))
      (∃ u0 : UInt8, (0 : Int) ≤ (1 : Int) ∧ x0[(1 : Int).toNat]? = some u0 ∧
      Runs Tryd.prog 116 #[.int .u8 (u0.toNat : Int)] I S fun v I1 S1 => ∃ u1, v = .int .u8 u1 ∧
      strconv_ParseUint_2_b28 R x0 x2 x8 x9 (u1 == (120 : Int)) I1 S1)
      (strconv_ParseUint_2_b28 R x0 x2 x8 x9 false I S))
def strconv_ParseUint_2_b26 (R : RT) (x0 : ByteArray) (x2 : Int) (x8 : Bool) (x9 : ByteArray) (x40 : Bool) (I : IMem) (S : SH) : Prop :=
  bcase x40
    ((0 : Int) ≤ (2 : Int) ∧ (2 : Int) ≤ ((x0.size : Nat) : Int) ∧
    strconv_ParseUint_2_b3 R (x0.extract ((2 : Int).toNat) x0.size) 2 x2 x8 x9 I S)
    (bcase (decide ((x0.size : Int) ≥ (3 : Int)))
      (∃ u0 : UInt8, (0 : Int) ≤ (1 : Int) ∧ x0[(1 : Int).toNat]? = some u0 ∧
      Runs Tryd.prog 116 #[.int .u8 (u0.toNat : Int)] I S fun v I1 S1 => ∃ u1, v = .int .u8 u1 ∧
      strconv_ParseUint_2_b27 R x0 x2 x8 x9 (u1 == (111 : Int)) I1 S1)
      (strconv_ParseUint_2_b27 R x0 x2 x8 x9 false I S))
def strconv_ParseUint_2_b25 (R : RT) (x0 : ByteArray) (x1 x2 : Int) (x8 : Bool) (x9 : ByteArray) (x37 : Bool) (I : IMem) (S : SH) : Prop :=
  bcase x37
    (bcase (decide ((x0.size : Int) ≥ (3 : Int)))
      (∃ u0 : UInt8, (0 : Int) ≤ (1 : Int) ∧ x0[(1 : Int).toNat]? = some u0 ∧
      Runs Tryd.prog 116 #[.int .u8 (u0.toNat : Int)] I S fun v I1 S1 => ∃ u1, v = .int .u8 u1 ∧
      strconv_ParseUint_2_b26 R x0 x2 x8 x9 (u1 == (98 : Int)) I1 S1)
      (strconv_ParseUint_2_b26 R x0 x2 x8 x9 false I S))
    (strconv_ParseUint_2_b3 R x0 x1 x2 x8 x9 I S)
def strconv_ParseUint_2_b24 (R : RT) (x0 : ByteArray) (x2 : Int) (x8 : Bool) (x9 : ByteArray) (x32 : Bool) (I : IMem) (S : SH) : Prop :=
  bcase x32
    (∃ u0 : UInt8, (0 : Int) ≤ (0 : Int) ∧ x0[(0 : Int).toNat]? = some u0 ∧
    strconv_ParseUint_2_b25 R x0 10 x2 x8 x9 ((u0.toNat : Int) == (48 : Int)) I S)
    (R (.tuple #[.int .u64 0, (.iface 185 (.int .i64 3))]) I S)
def strconv_ParseUint_2_b2 (R : RT) (x0 : ByteArray) (x1 x2 : Int) (x8 : Bool) (x9 : ByteArray) (x25 : Bool) (I : IMem) (S : SH) : Prop :=
  bcase x25
    (strconv_ParseUint_2_b3 R x0 x1 x2 x8 x9 I S)
    (strconv_ParseUint_2_b24 R x0 x2 x8 x9 (x1 == (0 : Int)) I S)
def strconv_ParseUint_2_b1 (R : RT) (x0 : ByteArray) (x1 x2 : Int) (x8 : Bool) (x9 : ByteArray) (I : IMem) (S : SH) : Prop :=
  bcase (decide ((2 : Int) ≤ x1))
    (strconv_ParseUint_2_b2 R x0 x1 x2 x8 x9 (decide (x1 ≤ (36 : Int))) I S)
    (strconv_ParseUint_2_b2 R x0 x1 x2 x8 x9 false I S)
def strconv_ParseUint_2 (R : RT) (u0 : ByteArray) (u1 u2 : Int) (I : IMem) (S : SH) : Prop :=
  bcase (u0.toList == (⟨#[]⟩ : ByteArray).toList)
    (R (.tuple #[.int .u64 0, (.iface 185 (.int .i64 2))]) I S)
    (strconv_ParseUint_2_b1 R u0 u1 u2 (u1 == (0 : Int)) u0 I S)
theorem strconv_ParseUint_2_fn (R : RT) (u0 : ByteArray) (u1 u2 : Int) (I : IMem) (S : SH) (h : strconv_ParseUint_2 R u0 u1 u2 I S) : Runs Tryd.prog 110 #[.string u0, .int .i64 u1, .int .i64 u2] I S R := by
  refine Runs.of_wp (c := cd Tryd.f110) Tryd.func110 (by kernel_rfl) (by kernel_rfl) ?_
  refine cO 4 [kS 0, kI .i64 1, kI .i64 2, kB 8, kS 9] (strconv_ParseUint_2_b1 R) h fun _ _ _ _ _ _ _ _ _ h => ?_
  refine sO [kS 0, kI .i64 1, kI .i64 2, kB 8, kS 9] (strconv_ParseUint_2_b3 R) ?_ fun _ _ _ _ _ _ _ _ _ h => ?_
  · refine bK ?_
    refine cO 1 [kS 0, kI .i64 1, kI .i64 2, kB 8, kS 9, kB 25] (strconv_ParseUint_2_b2 R) h fun _ _ _ _ _ _ _ _ _ _ h => ?_
    refine cD h (fun h => pS h) fun h => ?_
    refine cO 1 [kS 0, kI .i64 2, kB 8, kS 9, kB 32] (strconv_ParseUint_2_b24 R) h fun _ _ _ _ _ _ _ _ _ h => ?_
    refine cD h (fun h => ?_) fun h => pS h
    refine cO 2 [kS 0, kI .i64 1, kI .i64 2, kB 8, kS 9, kB 37] (strconv_ParseUint_2_b25 R) h fun _ _ _ _ _ _ _ _ _ _ h => ?_
    refine cD h (fun h => ?_) fun h => pS h
    refine bK ?_
    refine cO 1 [kS 0, kI .i64 2, kB 8, kS 9, kB 40] (strconv_ParseUint_2_b26 R) h fun _ _ _ _ _ _ _ _ _ h => ?_
    refine cD h (fun h => pS h) fun h => ?_
    refine cO 1 [kS 0, kI .i64 2, kB 8, kS 9, kB 52] (strconv_ParseUint_2_b27 R) h fun _ _ _ _ _ _ _ _ _ h => ?_
    refine cD h (fun h => pS h) fun h => ?_
    refine cO 1 [kS 0, kI .i64 2, kB 8, kS 9, kB 64] (strconv_ParseUint_2_b28 R) h fun _ _ _ _ _ _ _ _ _ h => ?_
    exact pS h
  refine sO [kS 0, kI .i64 1, kI .i64 2, kB 8, kS 9] (strconv_ParseUint_2_b5 R) ?_ fun _ _ _ _ _ _ _ _ _ h => ?_
  · refine cO 1 [kS 0, kI .i64 1, kI .i64 2, kB 8, kS 9, kB 77] (strconv_ParseUint_2_b4 R) h fun _ _ _ _ _ _ _ _ _ _ h => ?_
    refine cD h (fun h => pS h) fun h => ?_
    refine cO 1 [kS 0, kI .i64 1, kI .i64 2, kB 8, kS 9, kB 83] (strconv_ParseUint_2_b23 R) h fun _ _ _ _ _ _ _ _ _ _ h => ?_
    exact pS h
  refine cO 2 [kS 0, kI .i64 1, kI .i64 2, kB 8, kS 9, kI .u64 10] (strconv_ParseUint_2_b6 R) h fun _ _ _ _ _ _ _ _ _ _ h => ?_
  refine cO 3 [kS 0, kI .i64 1, kB 8, kS 9, kI .u64 10, kI .u64 11, kB 12, kI .u64 13] (strconv_ParseUint_2_b7 R) h fun _ _ _ _ _ _ _ _ _ _ _ _ h => ?_
  refine sO [kS 9, kB 12, kI .u64 13] (strconv_ParseUint_2_b20 R) ?_ fun _ _ _ _ _ _ _ h => ?_
  · refine cO 1 [kI .i64 1, kB 8, kS 9, kI .u64 10, kI .u64 11, kB 12, kI .u64 13, kL 99, kI .i64 100, kI .i64 101] (strconv_ParseUint_2_b8 R) h fun _ _ _ _ _ _ _ _ _ _ _ _ _ _ _ _ h => ?_
    refine bK ?_
    obtain ⟨Vg9, mg9, h, hr⟩ := h
    refine lO [kI .i64 1, kB 8, kS 9, kI .u64 10, kI .u64 11, kB 12, kI .u64 13, kL 99, kI .i64 100, kI .i64 101] Vg9 mg9 h fun mg9 _ I S hle x1 x8 x9 x10 x11 x12 x13 x99 x99n x99c x100 x101 h => ?_
    have h := hr mg9 x1 x8 x9 x10 x11 x12 x13 x99 x99n x99c x100 x101 I S hle h
    refine cO 2 [kI .i64 1, kB 8, kS 9, kI .u64 10, kI .u64 11, kB 12, kI .u64 13, kL 99, kI .i64 100, kI .i64 101] (strconv_ParseUint_2_b10 (fun x1 x8 x9 x10 x11 x12 x13 x99 x99n x99c x100 x101 I S => ∃ m', m' < mg9 ∧ Vg9 m' x1 x8 x9 x10 x11 x12 x13 x99 x99n x99c x100 x101 I S) R) h fun _ _ _ _ _ _ _ _ _ _ _ _ _ _ _ _ h => ?_
    refine sO [kI .i64 1, kB 8, kS 9, kI .u64 10, kI .u64 11, kB 12, kI .u64 13, kL 99, kI .i64 100, kI .i64 101] (strconv_ParseUint_2_b13 (fun x1 x8 x9 x10 x11 x12 x13 x99 x99n x99c x100 x101 I S => ∃ m', m' < mg9 ∧ Vg9 m' x1 x8 x9 x10 x11 x12 x13 x99 x99n x99c x100 x101 I S) R) ?_ fun _ _ _ _ _ _ _ _ _ _ _ _ _ _ _ _ h => ?_
    · refine bK ?_
      refine cO 2 [kI .i64 1, kB 8, kS 9, kI .u64 10, kI .u64 11, kB 12, kI .u64 13, kI .u8 15, kL 99, kI .i64 100, kI .i64 101] (strconv_ParseUint_2_b11 (fun x1 x8 x9 x10 x11 x12 x13 x99 x99n x99c x100 x101 I S => ∃ m', m' < mg9 ∧ Vg9 m' x1 x8 x9 x10 x11 x12 x13 x99 x99n x99c x100 x101 I S) R) h fun _ _ _ _ _ _ _ _ _ _ _ _ _ _ _ _ _ h => ?_
      refine sO [kI .i64 1, kB 8, kS 9, kI .u64 10, kI .u64 11, kB 12, kI .u64 13, kI .u8 16, kL 99, kI .i64 100, kI .i64 101] (strconv_ParseUint_2_b15 (fun x1 x8 x9 x10 x11 x12 x13 x99 x99n x99c x100 x101 I S => ∃ m', m' < mg9 ∧ Vg9 m' x1 x8 x9 x10 x11 x12 x13 x99 x99n x99c x100 x101 I S) R) ?_ fun _ _ _ _ _ _ _ _ _ _ _ _ _ _ _ _ _ h => ?_
      · refine bK ?_
        refine cO 1 [kI .i64 1, kB 8, kS 9, kI .u64 10, kI .u64 11, kB 12, kI .u64 13, kI .u8 15, kL 99, kI .i64 100, kI .i64 101, kB 106] (strconv_ParseUint_2_b12 (fun x1 x8 x9 x10 x11 x12 x13 x99 x99n x99c x100 x101 I S => ∃ m', m' < mg9 ∧ Vg9 m' x1 x8 x9 x10 x11 x12 x13 x99 x99n x99c x100 x101 I S) R) h fun _ _ _ _ _ _ _ _ _ _ _ _ _ _ _ _ _ _ h => ?_
        refine cD h (fun h => pS h) fun h => ?_
        refine cO 1 [kI .i64 1, kB 8, kS 9, kI .u64 10, kI .u64 11, kB 12, kI .u64 13, kI .u8 15, kL 99, kI .i64 100, kI .i64 101, kB 112] (strconv_ParseUint_2_b14 (fun x1 x8 x9 x10 x11 x12 x13 x99 x99n x99c x100 x101 I S => ∃ m', m' < mg9 ∧ Vg9 m' x1 x8 x9 x10 x11 x12 x13 x99 x99n x99c x100 x101 I S) R) h fun _ _ _ _ _ _ _ _ _ _ _ _ _ _ _ _ _ _ h => ?_
        refine cD h (fun h => pS h) fun h => ?_
        refine cO 1 [kI .i64 1, kB 8, kS 9, kI .u64 10, kI .u64 11, kB 12, kI .u64 13, kI .u8 15, kL 99, kI .i64 100, kI .i64 101, kB 121] (strconv_ParseUint_2_b19 (fun x1 x8 x9 x10 x11 x12 x13 x99 x99n x99c x100 x101 I S => ∃ m', m' < mg9 ∧ Vg9 m' x1 x8 x9 x10 x11 x12 x13 x99 x99n x99c x100 x101 I S) R) h fun _ _ _ _ _ _ _ _ _ _ _ _ _ _ _ _ _ _ h => ?_
        exact pS h
      refine cO 4 [kI .i64 1, kB 8, kS 9, kI .u64 10, kI .u64 11, kB 12, kI .u64 13, kI .u64 17, kL 99, kI .i64 100, kI .i64 101] (strconv_ParseUint_2_b16 (fun x1 x8 x9 x10 x11 x12 x13 x99 x99n x99c x100 x101 I S => ∃ m', m' < mg9 ∧ Vg9 m' x1 x8 x9 x10 x11 x12 x13 x99 x99n x99c x100 x101 I S) R) h fun _ _ _ _ _ _ _ _ _ _ _ _ _ _ _ _ _ h => ?_
      refine sO [kI .i64 1, kB 8, kS 9, kI .u64 10, kI .u64 11, kB 12, kI .u64 17, kL 99, kI .i64 100, kI .i64 101] (strconv_ParseUint_2_b18 (fun x1 x8 x9 x10 x11 x12 x13 x99 x99n x99c x100 x101 I S => ∃ m', m' < mg9 ∧ Vg9 m' x1 x8 x9 x10 x11 x12 x13 x99 x99n x99c x100 x101 I S) R) ?_ fun _ _ _ _ _ _ _ _ _ _ _ _ _ _ _ _ h => ?_
      · refine cO 1 [kI .i64 1, kB 8, kS 9, kI .u64 10, kI .u64 11, kB 12, kI .u64 17, kL 99, kI .i64 100, kI .i64 101, kB 159] (strconv_ParseUint_2_b17 (fun x1 x8 x9 x10 x11 x12 x13 x99 x99n x99c x100 x101 I S => ∃ m', m' < mg9 ∧ Vg9 m' x1 x8 x9 x10 x11 x12 x13 x99 x99n x99c x100 x101 I S) R) h fun _ _ _ _ _ _ _ _ _ _ _ _ _ _ _ _ _ h => ?_
        exact pS h
      exact pS h
    exact pS h
  refine sO [kI .u64 13] (strconv_ParseUint_2_b22 R) ?_ fun _ _ _ _ _ h => ?_
  · refine cO 1 [kI .u64 13, kB 169] (strconv_ParseUint_2_b21 R) h fun _ _ _ _ _ _ h => ?_
    exact pS h
  exact pS h
def strconv_FormatUint (R : RT) (u0 u1 : Int) (I : IMem) (S : SH) : Prop :=
  Runs Tryd.prog 111 #[.int .u64 u0, .int .i64 u1] I S fun v I1 S1 => ∃ u2, v = .string u2 ∧
  R (.string u2) I1 S1
theorem strconv_FormatUint_fn (R : RT) (u0 u1 : Int) (I : IMem) (S : SH) (h : strconv_FormatUint R u0 u1 I S) : Runs Tryd.prog 96 #[.int .u64 u0, .int .i64 u1] I S R := by
  refine Runs.of_wp (c := cd Tryd.f96) Tryd.func96 (by kernel_rfl) (by kernel_rfl) ?_
  exact pS h
def strconv_FormatUint_2 (R : RT) (u0 u1 : Int) (I : IMem) (S : SH) : Prop :=
  bcase (u1 == (10 : Int))
    (bcase (decide (u0 < (100 : Int)))
      (Runs Tryd.prog 84 #[.int .i64 (IntKind.wrap .i64 u0)] I S fun v I1 S1 => ∃ u2, v = .string u2 ∧
      R (.string u2) I1 S1)
      (∀ b5 : Nat,
      Runs Tryd.prog 85 #[.int .u64 u0] I ((b5, .cells #[.int .u8 0, .int .u8 0, .int .u8 0, .int .u8 0, .int .u8 0, .int .u8 0, .int .u8 0, .int .u8 0, .int .u8 0, .int .u8 0, .int .u8 0, .int .u8 0, .int .u8 0, .int .u8 0, .int .u8 0, .int .u8 0, .int .u8 0, .int .u8 0, .int .u8 0, .int .u8 0, .int .u8 0, .int .u8 0, .int .u8 0, .int .u8 0] 165 (0, 0)) :: S) fun v' I1' S1' => ∃ u3, v' = .int .i64 u3 ∧
      (0 : Int) ≤ u3 ∧ u3 ≤ ((24 : Nat) : Int) ∧
      Runs Tryd.prog 86 #[.slice (slA (some ⟨b5, 0, none⟩) 24 0 1) (u3.toNat - 0) (24 - 0), .int .u64 u0] I1' S1' fun v'' I1'' S1'' => v'' = .tuple #[] ∧
      (0 : Int) ≤ u3 ∧ u3 ≤ ((24 : Nat) : Int) ∧
      ∃ u4 : ByteArray, BytesAt I1'' S1'' (slA (some ⟨b5, 0, none⟩) 24 0 1) (u3.toNat - 0) u4 ∧
      R (.string u4) I1'' S1''))
    (Runs Tryd.prog 87 #[.slice none 0 0, .int .u64 u0, .int .i64 u1, .bool false, .bool false] I S fun v_r3 I1_r3 S1_r3 => ∃ u5 u5n u5c u6, v_r3 = .tuple #[.slice u5 u5n u5c, .string u6] ∧
    R (.string u6) I1_r3 S1_r3)
theorem strconv_FormatUint_2_fn (R : RT) (u0 u1 : Int) (I : IMem) (S : SH) (h : strconv_FormatUint_2 R u0 u1 I S) : Runs Tryd.prog 111 #[.int .u64 u0, .int .i64 u1] I S R := by
  refine Runs.of_wp (c := cd Tryd.f111) Tryd.func111 (by kernel_rfl) (by kernel_rfl) ?_
  exact pS h
def strconv_ParseInt_b11 (R : RT) (x11 : Int) (I : IMem) (S : SH) : Prop :=
  R (.tuple #[.int .i64 x11, .nilIface]) I S
def strconv_ParseInt_b10 (R : RT) (x8 : Bool) (x9 : Int) (I : IMem) (S : SH) : Prop :=
  bcase x8
    (strconv_ParseInt_b11 R (IntKind.wrap .i64 (0 - (IntKind.wrap .i64 x9))) I S)
    (strconv_ParseInt_b11 R (IntKind.wrap .i64 x9) I S)
def strconv_ParseInt_b9 (R : RT) (x8 : Bool) (x9 x10 : Int) (x62 : Bool) (I : IMem) (S : SH) : Prop :=
  bcase x62
    (R (.tuple #[.int .i64 (IntKind.wrap .i64 (0 - (IntKind.wrap .i64 x10))), (.iface 185 (.int .i64 1))]) I S)
    (strconv_ParseInt_b10 R x8 x9 I S)
def strconv_ParseInt_b8 (R : RT) (x8 : Bool) (x9 x10 : Int) (I : IMem) (S : SH) : Prop :=
  bcase x8
    (strconv_ParseInt_b9 R x8 x9 x10 (decide (x9 > x10)) I S)
    (strconv_ParseInt_b9 R x8 x9 x10 false I S)
def strconv_ParseInt_b7 (R : RT) (x8 : Bool) (x9 x10 : Int) (x52 : Bool) (I : IMem) (S : SH) : Prop :=
  bcase x52
    (R (.tuple #[.int .i64 (IntKind.wrap .i64 (IntKind.wrap .u64 (x10 - (1 : Int)))), (.iface 185 (.int .i64 1))]) I S)
    (strconv_ParseInt_b8 R x8 x9 x10 I S)
def strconv_ParseInt_b6 (R : RT) (x8 : Bool) (x9 x10 : Int) (I : IMem) (S : SH) : Prop :=
  bcase (!x8)
    (strconv_ParseInt_b7 R x8 x9 x10 (decide (x9 ≥ x10)) I S)
    (strconv_ParseInt_b7 R x8 x9 x10 false I S)
def strconv_ParseInt_b5 (R : RT) (x2 : Int) (x8 : Bool) (x9 : Int) (I : IMem) (S : SH) : Prop :=
  bcase (decide ((IntKind.wrap .u64 (IntKind.wrap .i64 (x2 - (1 : Int)))) < 0)) False (strconv_ParseInt_b6 R x8 x9 (IntKind.wrap .u64 ((1 : Int) * 2 ^ (min (IntKind.wrap .u64 (IntKind.wrap .i64 (x2 - (1 : Int)))).toNat (IntKind.bits .u64)))) I S)
def strconv_ParseInt_b4 (R : RT) (x2 : Int) (x8 : Bool) (x9 : Int) (I : IMem) (S : SH) : Prop :=
  bcase (x2 == (0 : Int))
    (strconv_ParseInt_b5 R 64 x8 x9 I S)
    (strconv_ParseInt_b5 R x2 x8 x9 I S)
def strconv_ParseInt_b3 (R : RT) (x2 : Int) (x7 : Value) (x8 : Bool) (x9 : Int) (x38 : Bool) (I : IMem) (S : SH) : Prop :=
  bcase x38
    (R (.tuple #[.int .i64 0, x7]) I S)
    (strconv_ParseInt_b4 R x2 x8 x9 I S)
def strconv_ParseInt_b2 (R : RT) (x2 : Int) (x7 : Value) (x8 : Bool) (x9 : Int) (I : IMem) (S : SH) : Prop :=
  ∃ nl, isNilI x7 = some nl ∧
  bcase (!nl)
    (∃ ei, eqI Tryd.prog x7 185 (.int .i64 1) = some ei ∧
    strconv_ParseInt_b3 R x2 x7 x8 x9 (!ei) I S)
    (strconv_ParseInt_b3 R x2 x7 x8 x9 false I S)
def strconv_ParseInt_b1 (R : RT) (x0 : ByteArray) (x1 x2 : Int) (x8 : Bool) (I : IMem) (S : SH) : Prop :=
  Runs Tryd.prog 110 #[.string x0, .int .i64 x1, .int .i64 x2] I S fun v I1 S1 => ∃ u0 u1, v = .tuple #[.int .u64 u0, u1] ∧
  strconv_ParseInt_b2 R x2 u1 x8 u0 I1 S1
def strconv_ParseInt (R : RT) (u0 : ByteArray) (u1 u2 : Int) (I : IMem) (S : SH) : Prop :=
  bcase (u0.toList == (⟨#[]⟩ : ByteArray).toList)
    (R (.tuple #[.int .i64 0, (.iface 185 (.int .i64 2))]) I S)
    (∃ u3 : UInt8, (0 : Int) ≤ (0 : Int) ∧ u0[(0 : Int).toNat]? = some u3 ∧
    bcase ((u3.toNat : Int) == (43 : Int))
      ((0 : Int) ≤ (1 : Int) ∧ (1 : Int) ≤ ((u0.size : Nat) : Int) ∧
      strconv_ParseInt_b1 R (u0.extract ((1 : Int).toNat) u0.size) u1 u2 false I S)
      (bcase ((u3.toNat : Int) == (45 : Int))
        ((0 : Int) ≤ (1 : Int) ∧ (1 : Int) ≤ ((u0.size : Nat) : Int) ∧
        strconv_ParseInt_b1 R (u0.extract ((1 : Int).toNat) u0.size) u1 u2 true I S)
        (strconv_ParseInt_b1 R u0 u1 u2 false I S)))
theorem strconv_ParseInt_fn (R : RT) (u0 : ByteArray) (u1 u2 : Int) (I : IMem) (S : SH) (h : strconv_ParseInt R u0 u1 u2 I S) : Runs Tryd.prog 102 #[.string u0, .int .i64 u1, .int .i64 u2] I S R := by
  refine Runs.of_wp (c := cd Tryd.f102) Tryd.func102 (by kernel_rfl) (by kernel_rfl) ?_
  refine cO 4 [kS 0, kI .i64 1, kI .i64 2, kB 8] (strconv_ParseInt_b1 R) h fun _ _ _ _ _ _ _ _ h => ?_
  refine cO 2 [kI .i64 2, kV 7, kB 8, kI .u64 9] (strconv_ParseInt_b2 R) h fun _ _ _ _ _ _ _ _ h => ?_
  refine sO [kI .i64 2, kB 8, kI .u64 9] (strconv_ParseInt_b4 R) ?_ fun _ _ _ _ _ _ _ h => ?_
  · refine cO 1 [kI .i64 2, kV 7, kB 8, kI .u64 9, kB 38] (strconv_ParseInt_b3 R) h fun _ _ _ _ _ _ _ _ _ h => ?_
    exact pS h
  refine cO 1 [kI .i64 2, kB 8, kI .u64 9] (strconv_ParseInt_b5 R) h fun _ _ _ _ _ _ _ h => ?_
  refine cO 1 [kB 8, kI .u64 9, kI .u64 10] (strconv_ParseInt_b6 R) h fun _ _ _ _ _ _ _ h => ?_
  refine sO [kB 8, kI .u64 9, kI .u64 10] (strconv_ParseInt_b8 R) ?_ fun _ _ _ _ _ _ _ h => ?_
  · refine cO 1 [kB 8, kI .u64 9, kI .u64 10, kB 52] (strconv_ParseInt_b7 R) h fun _ _ _ _ _ _ _ _ h => ?_
    exact pS h
  refine sO [kB 8, kI .u64 9] (strconv_ParseInt_b10 R) ?_ fun _ _ _ _ _ _ h => ?_
  · refine cO 1 [kB 8, kI .u64 9, kI .u64 10, kB 62] (strconv_ParseInt_b9 R) h fun _ _ _ _ _ _ _ _ h => ?_
    exact pS h
  refine cO 2 [kI .i64 11] (strconv_ParseInt_b11 R) h fun _ _ _ _ _ h => ?_
  exact pS h
def strconv_syntaxError_b2 (R : RT) (x4 : OA) (I : IMem) (S : SH) : Prop :=
  R (.pointer x4) I S
def strconv_syntaxError_b1 (R : RT) (x0 x1 : ByteArray) (I : IMem) (S : SH) : Prop :=
  ∃ u0 u1, Cell I S ⟨1, 0, none⟩ (.iface u0 u1) ∧
  Runs Tryd.prog 114 #[.string x1] I S fun v I1 S1 => ∃ u2, v = .string u2 ∧
  Keep I S I1 S1 ∧
  ∀ b10 : Nat,
  strconv_syntaxError_b2 R (some ⟨b10, 0, none⟩) I1 ((b10, .cells #[.string x0, .string u2, (.iface u0 u1)] 198 (0, 0)) :: S1)
def strconv_syntaxError (R : RT) (u0 u1 : ByteArray) (I : IMem) (S : SH) : Prop :=
  strconv_syntaxError_b1 R u0 u1 I S
theorem strconv_syntaxError_fn (R : RT) (u0 u1 : ByteArray) (I : IMem) (S : SH) (h : strconv_syntaxError R u0 u1 I S) : Runs Tryd.prog 103 #[.string u0, .string u1] I S R := by
  refine Runs.of_wp (c := cd Tryd.f103) Tryd.func103 (by kernel_rfl) (by kernel_rfl) ?_
  refine cO 1 [kS 0, kS 1] (strconv_syntaxError_b1 R) h fun _ _ _ _ _ _ h => ?_
  refine sO [kP 4] (strconv_syntaxError_b2 R) (dR (.take 0 (.take 1 (.take 3 (.step 2 (.take 4 (.step 5 (.take 6 .done))))))) [2, 5] h) fun _ _ _ _ _ h => ?_
  exact pS h
def strconv_rangeError_b2 (R : RT) (x4 : OA) (I : IMem) (S : SH) : Prop :=
  R (.pointer x4) I S
def strconv_rangeError_b1 (R : RT) (x0 x1 : ByteArray) (I : IMem) (S : SH) : Prop :=
  ∃ u0 u1, Cell I S ⟨2, 0, none⟩ (.iface u0 u1) ∧
  Runs Tryd.prog 114 #[.string x1] I S fun v I1 S1 => ∃ u2, v = .string u2 ∧
  Keep I S I1 S1 ∧
  ∀ b10 : Nat,
  strconv_rangeError_b2 R (some ⟨b10, 0, none⟩) I1 ((b10, .cells #[.string x0, .string u2, (.iface u0 u1)] 198 (0, 0)) :: S1)
def strconv_rangeError (R : RT) (u0 u1 : ByteArray) (I : IMem) (S : SH) : Prop :=
  strconv_rangeError_b1 R u0 u1 I S
theorem strconv_rangeError_fn (R : RT) (u0 u1 : ByteArray) (I : IMem) (S : SH) (h : strconv_rangeError R u0 u1 I S) : Runs Tryd.prog 104 #[.string u0, .string u1] I S R := by
  refine Runs.of_wp (c := cd Tryd.f104) Tryd.func104 (by kernel_rfl) (by kernel_rfl) ?_
  refine cO 1 [kS 0, kS 1] (strconv_rangeError_b1 R) h fun _ _ _ _ _ _ h => ?_
  refine sO [kP 4] (strconv_rangeError_b2 R) (dR (.take 0 (.take 1 (.take 3 (.step 2 (.take 4 (.step 5 (.take 6 .done))))))) [2, 5] h) fun _ _ _ _ _ h => ?_
  exact pS h
def stringslite_Clone (R : RT) (u0 : ByteArray) (I : IMem) (S : SH) : Prop :=
  bcase ((u0.size : Int) == (0 : Int))
    (R (.string ⟨#[]⟩) I S)
    ((0 : Int) ≤ (u0.size : Int) ∧ (u0.size : Int) ≤ (u0.size : Int) ∧ (u0.size : Int) ≤ 9223372036854775807 ∧ (1 : Int) * (u0.size : Int) ≤ 281474976710656 ∧ ∀ b9 : Nat,
    CpyP 1 I ((b9, .cells (repV (u0.size : Int).toNat [.int .u8 0]).toArray 5 (0, 0)) :: S) (.slice (some ⟨b9, 0, none⟩) ((u0.size : Int).toNat) ((u0.size : Int).toNat)) (.string u0) fun u1 S1 =>
    ptrP (some ⟨b9, 0, none⟩) fun u2 => (0 : Int) ≤ (0 : Int) ∧ (0 : Int) < ((u0.size : Int).toNat : Int) ∧
    UsP Tryd.prog 5 I S1 (some (u2.add ((0 : Int).toNat * 1))) (((u0.size : Int).toNat : Nat) : Int) fun u3 S1' =>
    R (.string u3) I S1')
theorem stringslite_Clone_fn (R : RT) (u0 : ByteArray) (I : IMem) (S : SH) (h : stringslite_Clone R u0 I S) : Runs Tryd.prog 114 #[.string u0] I S R := by
  refine Runs.of_wp (c := cd Tryd.f114) Tryd.func114 (by kernel_rfl) (by kernel_rfl) ?_
  exact pS h
def strconv_lower (R : RT) (u0 : Int) (I : IMem) (S : SH) : Prop :=
  R (.int .u8 (ior .u8 u0 (32 : Int))) I S
theorem strconv_lower_fn (R : RT) (u0 : Int) (I : IMem) (S : SH) (h : strconv_lower R u0 I S) : Runs Tryd.prog 116 #[.int .u8 u0] I S R := by
  refine Runs.of_wp (c := cd Tryd.f116) Tryd.func116 (by kernel_rfl) (by kernel_rfl) ?_
  exact pS h
def bits_Mul (R : RT) (u0 u1 : Int) (I : IMem) (S : SH) : Prop :=
  Runs Tryd.prog 108 #[.int .u64 u0, .int .u64 u1] I S fun v I1 S1 => ∃ u2 u3, v = .tuple #[.int .u64 u2, .int .u64 u3] ∧
  R (.tuple #[.int .u64 u2, .int .u64 u3]) I1 S1
theorem bits_Mul_fn (R : RT) (u0 u1 : Int) (I : IMem) (S : SH) (h : bits_Mul R u0 u1 I S) : Runs Tryd.prog 90 #[.int .u64 u0, .int .u64 u1] I S R := by
  refine Runs.of_wp (c := cd Tryd.f90) Tryd.func90 (by kernel_rfl) (by kernel_rfl) ?_
  exact pS h
end Go.Proofs.YtmlojdbahlfiaaaDoor
set_option linter.unusedVariables false
set_option maxRecDepth 8000
set_option maxHeartbeats 2000000
namespace Go.Proofs.YtmlojdbahlfiaaaDoor
open Go.Px
def owner_Prefix (R : RT) (u0 : ByteArray) (u1 : Int) (I : IMem) (S : SH) : Prop :=
  ∀ b1 : Nat,
  ∃ u2, Cell I ((b1, .cells #[.string u0, .int .i64 u1] 25 (0, 0)) :: S) ⟨b1, 0, none⟩ (.string u2) ∧
  ∃ u3, Cell I ((b1, .cells #[.string u0, .int .i64 u1] 25 (0, 0)) :: S) ⟨b1, 1, none⟩ (.int .i64 u3) ∧
  Runs Tryd.prog 42 #[.agg #[.string u2, .int .i64 u3]] I ((b1, .cells #[.string u0, .int .i64 u1] 25 (0, 0)) :: S) fun v I1 S1 => ∃ u4, v = .bool u4 ∧
  bcase (!u4)
    (R (.slice none 0 0) I1 S1)
    (∃ u5, Cell I1 S1 ⟨b1, 1, none⟩ (.int .i64 u5) ∧
    Runs Tryd.prog 59 #[.int .i64 u5] I1 S1 fun v' I1' S1' => ∃ u6, v' = .string u6 ∧
    ∀ b10 : Nat,
    ∃ u7, Cell I1' ((b10, .cells #[.string u6] 9 (0, 0)) :: S1') ⟨b1, 0, none⟩ (.string u7) ∧
    bcase ((u7.size : Int) == (4 : Int))
      (∃ u8, Cell I1' ((b10, .cells #[.string u6] 9 (0, 0)) :: S1') ⟨b1, 0, none⟩ (.string u8) ∧
      Runs Tryd.prog 60 #[.string u8] I1' ((b10, .cells #[.string u6] 9 (0, 0)) :: S1') fun v'' I1'' S1'' => ∃ u9 u9n u9c, v'' = .slice u9 u9n u9c ∧
      AppG 9 1 16 [.string ⟨#[]⟩] (some (.slice 9)) I1'' S1'' (.slice (some ⟨b10, 0, none⟩) 1 1) (.slice u9 u9n u9c) fun ua uan uac S1_r3 =>
      R (.slice ua uan uac) I1'' S1_r3)
      (∃ ub, Cell I1' ((b10, .cells #[.string u6] 9 (0, 0)) :: S1') ⟨b1, 0, none⟩ (.string ub) ∧
      Runs Tryd.prog 61 #[.string ub] I1' ((b10, .cells #[.string u6] 9 (0, 0)) :: S1') fun v_r3 I1_r3 S1_r4 => ∃ uc ucn ucc, v_r3 = .slice uc ucn ucc ∧
      AppG 9 1 16 [.string ⟨#[]⟩] (some (.slice 9)) I1_r3 S1_r4 (.slice (some ⟨b10, 0, none⟩) 1 1) (.slice uc ucn ucc) fun ud udn udc S1_r5 =>
      R (.slice ud udn udc) I1_r3 S1_r5))
theorem owner_Prefix_fn (R : RT) (u0 : ByteArray) (u1 : Int) (I : IMem) (S : SH) (h : owner_Prefix R u0 u1 I S) : Runs Tryd.prog 38 #[.agg #[.string u0, .int .i64 u1]] I S R := by
  refine Runs.of_wp (c := cd Tryd.f38) Tryd.func38 (by kernel_rfl) (by kernel_rfl) ?_
  exact pS h
def owner_Address_b3 (R : RT) (x2 x8 : Addr) (I : IMem) (S : SH) : Prop :=
  ∃ u0, Cell I S x8 (.string u0) ∧
  ∃ u1, Cell I S (x8.add 1) (.int .i64 u1) ∧
  StP S x2 [.string u0, .int .i64 u1] fun S1 =>
  ∃ u2, Cell I S1 x2 (.string u2) ∧
  ∃ u3, Cell I S1 (x2.add 1) (.int .i64 u3) ∧
  R (.tuple #[.agg #[.string u2, .int .i64 u3], .bool true]) I S1
def owner_Address_b2 (R : RT) (x2 x8 : Addr) (x41 : Bool) (I : IMem) (S : SH) : Prop :=
  bcase x41
    (StP S x2 [.string ⟨#[]⟩, .int .i64 0] fun S1 =>
    ∃ u0, Cell I S1 x2 (.string u0) ∧
    ∃ u1, Cell I S1 (x2.add 1) (.int .i64 u1) ∧
    R (.tuple #[.agg #[.string u0, .int .i64 u1], .bool false]) I S1)
    (owner_Address_b3 R x2 x8 I S)
def owner_Address_b1 (R : RT) (x0 : OA) (x0n x0c : Nat) (x2 : Addr) (x5 x7 : Bool) (x8 : Addr) (I : IMem) (S : SH) : Prop :=
  bcase (!x5)
    (owner_Address_b2 R x2 x8 true I S)
    (bcase (!x7)
      (owner_Address_b2 R x2 x8 true I S)
      (∃ u0, Cell I S x8 (.string u0) ∧
      ∃ u1, Cell I S (x8.add 1) (.int .i64 u1) ∧
      Runs Tryd.prog 38 #[.agg #[.string u0, .int .i64 u1]] I S fun v I1 S1 => ∃ u2 u2n u2c, v = .slice u2 u2n u2c ∧
      Runs Tryd.prog 74 #[.slice u2 u2n u2c, .slice x0 x0n x0c] I1 S1 fun v' I1' S1' => ∃ u3, v' = .bool u3 ∧
      owner_Address_b2 R x2 x8 (!u3) I1' S1'))
def owner_Address (R : RT) (u0 : OA) (u0n u0c : Nat) (I : IMem) (S : SH) : Prop :=
  ∀ b2 : Nat,
  bcase (decide ((u0n : Int) < (2 : Int)))
    (StP ((b2, .cells #[.string ⟨#[]⟩, .int .i64 0] 25 (0, 0)) :: S) ⟨b2, 0, none⟩ [.string ⟨#[]⟩, .int .i64 0] fun S1 =>
    ∃ u1, Cell I S1 ⟨b2, 0, none⟩ (.string u1) ∧
    ∃ u2, Cell I S1 ⟨b2, 1, none⟩ (.int .i64 u2) ∧
    R (.tuple #[.agg #[.string u1, .int .i64 u2], .bool false]) I S1)
    (ptrP u0 fun u3 => (0 : Int) ≤ (0 : Int) ∧ (0 : Int) < (u0n : Int) ∧
    ∃ u4, Cell I ((b2, .cells #[.string ⟨#[]⟩, .int .i64 0] 25 (0, 0)) :: S) (u3.add ((0 : Int).toNat * 1)) (.string u4) ∧
    Runs Tryd.prog 72 #[.string u4, .int .i64 128] I ((b2, .cells #[.string ⟨#[]⟩, .int .i64 0] 25 (0, 0)) :: S) fun v I1 S1' => ∃ u5 u6, v = .tuple #[.int .i64 u5, .bool u6] ∧
    (0 : Int) ≤ (1 : Int) ∧ (1 : Int) ≤ ((u0n : Nat) : Int) ∧
    Runs Tryd.prog 73 #[.slice (slA u0 u0c ((1 : Int).toNat) 1) (u0n - (1 : Int).toNat) (u0c - (1 : Int).toNat)] I1 S1' fun v' I1' S1'' => ∃ u7 u8, v' = .tuple #[.string u7, .bool u8] ∧
    ∀ b8 : Nat,
    StP ((b8, .cells #[.string ⟨#[]⟩, .int .i64 0] 25 (0, 0)) :: S1'') ⟨b8, 0, none⟩ [.string u7, .int .i64 u5] fun S1_r3 =>
    owner_Address_b1 R u0 u0n u0c ⟨b2, 0, none⟩ u6 u8 ⟨b8, 0, none⟩ I1' S1_r3)
theorem owner_Address_fn (R : RT) (u0 : OA) (u0n u0c : Nat) (I : IMem) (S : SH) (h : owner_Address R u0 u0n u0c I S) : Runs Tryd.prog 63 #[.slice u0 u0n u0c] I S R := by
  refine Runs.of_wp (c := cd Tryd.f63) Tryd.func63 (by kernel_rfl) (by kernel_rfl) ?_
  refine cO 5 [kL 0, kA 2, kB 5, kB 7, kA 8] (owner_Address_b1 R) h fun _ _ _ _ _ _ _ _ _ _ _ h => ?_
  refine sO [kA 2, kA 8] (owner_Address_b3 R) ?_ fun _ _ _ _ _ _ h => ?_
  · refine cO 1 [kA 2, kA 8, kB 41] (owner_Address_b2 R) h fun _ _ _ _ _ _ _ h => ?_
    exact pS h
  exact pS h
def prefix_May_b1 (R : RT) (x2 : Bool) (I : IMem) (S : SH) : Prop :=
  R (.bool x2) I S
def prefix_May (R : RT) (u0 : ByteArray) (u1 : Int) (I : IMem) (S : SH) : Prop :=
  ∀ b1 : Nat,
  ∃ u2, Cell I ((b1, .cells #[.string u0, .int .i64 u1] 25 (0, 0)) :: S) ⟨b1, 0, none⟩ (.string u2) ∧
  ∃ u3, Cell I ((b1, .cells #[.string u0, .int .i64 u1] 25 (0, 0)) :: S) ⟨b1, 1, none⟩ (.int .i64 u3) ∧
  Runs Tryd.prog 11 #[.string u2, .int .i64 u3] I ((b1, .cells #[.string u0, .int .i64 u1] 25 (0, 0)) :: S) fun v I1 S1 => ∃ u4 u5 u6, v = .tuple #[.agg #[.string u4, .int .i64 u5], .bool u6] ∧
  ∀ b3 : Nat,
  StP ((b3, .cells #[.string ⟨#[]⟩, .int .i64 0] 25 (0, 0)) :: S1) ⟨b3, 0, none⟩ [.string u4, .int .i64 u5] fun S1' =>
  bcase u6
    (∃ u7, Cell I1 S1' ⟨b3, 0, none⟩ (.string u7) ∧
    ∃ u8, Cell I1 S1' ⟨b3, 1, none⟩ (.int .i64 u8) ∧
    ∃ u9, Cell I1 S1' ⟨b1, 0, none⟩ (.string u9) ∧
    ∃ ua, Cell I1 S1' ⟨b1, 1, none⟩ (.int .i64 ua) ∧
    prefix_May_b1 R (((u7 : ByteArray) == (u9 : ByteArray)) && (((u8 : Int) == (ua : Int)) && true)) I1 S1')
    (prefix_May_b1 R false I1 S1')
theorem prefix_May_fn (R : RT) (u0 : ByteArray) (u1 : Int) (I : IMem) (S : SH) (h : prefix_May R u0 u1 I S) : Runs Tryd.prog 42 #[.agg #[.string u0, .int .i64 u1]] I S R := by
  refine Runs.of_wp (c := cd Tryd.f42) Tryd.func42 (by kernel_rfl) (by kernel_rfl) ?_
  refine cO 3 [kB 2] (prefix_May_b1 R) h fun _ _ _ _ _ h => ?_
  exact pS h
abbrev prefix_Cut_t6 := ByteArray → Int → Addr → OA → Nat → Nat → Int → PR
def prefix_Cut_b8 (g6 : prefix_Cut_t6) (R : RT) (x0 : ByteArray) (x1 : Int) (x4 : Addr) (x6 : OA) (x6n x6c : Nat) (x7 : Int) (I : IMem) (S : SH) : Prop :=
  g6 x0 x1 x4 x6 x6n x6c (IntKind.wrap .i64 (x7 + (1 : Int))) I S
def prefix_Cut_b7 (g6 : prefix_Cut_t6) (R : RT) (x0 : ByteArray) (x1 : Int) (x4 : Addr) (x6 : OA) (x6n x6c : Nat) (x7 : Int) (I : IMem) (S : SH) : Prop :=
  ptrP x6 fun u0 => (0 : Int) ≤ (IntKind.wrap .i64 (x7.tdiv (8 : Int))) ∧ (IntKind.wrap .i64 (x7.tdiv (8 : Int))) < (x6n : Int) ∧
  ∃ u1, Cell I S (u0.add ((IntKind.wrap .i64 (x7.tdiv (8 : Int))).toNat * 1)) (.int .u8 u1) ∧
  bcase (decide ((IntKind.wrap .i64 ((7 : Int) - (x7.tmod (8 : Int)))) < 0)) False (ptrP x6 fun u2 => (0 : Int) ≤ (IntKind.wrap .i64 (x7.tdiv (8 : Int))) ∧ (IntKind.wrap .i64 (x7.tdiv (8 : Int))) < (x6n : Int) ∧
  StP S (u2.add ((IntKind.wrap .i64 (x7.tdiv (8 : Int))).toNat * 1)) [.int .u8 (ibic .u8 u1 (IntKind.wrap .u8 ((1 : Int) * 2 ^ (min (IntKind.wrap .i64 ((7 : Int) - (x7.tmod (8 : Int)))).toNat (IntKind.bits .u8)))))] fun S1 =>
  prefix_Cut_b8 g6 R x0 x1 x4 x6 x6n x6c x7 I S1)
def prefix_Cut_b9 (R : RT) (x1 : Int) (x4 : Addr) (x6 : OA) (x6n x6c : Nat) (I : IMem) (S : SH) : Prop :=
  ∃ u0 : ByteArray, BytesAt I S x6 x6n u0 ∧
  StP S x4 [.string u0, .int .i64 x1] fun S1 =>
  ∃ u1, Cell I S1 x4 (.string u1) ∧
  ∃ u2, Cell I S1 (x4.add 1) (.int .i64 u2) ∧
  R (.tuple #[.agg #[.string u1, .int .i64 u2], .bool true]) I S1
def prefix_Cut_l6 (g6 : prefix_Cut_t6) (R : RT) (x0 : ByteArray) (x1 : Int) (x4 : Addr) (x6 : OA) (x6n x6c : Nat) (x7 : Int) (I : IMem) (S : SH) : Prop :=
  bcase (decide (x7 < (IntKind.wrap .i64 ((8 : Int) * (x0.size : Int)))))
    (prefix_Cut_b7 g6 R x0 x1 x4 x6 x6n x6c x7 I S)
    (prefix_Cut_b9 R x1 x4 x6 x6n x6c I S)
def prefix_Cut_b5 (R : RT) (x0 : ByteArray) (x1 : Int) (x4 : Addr) (x6 : OA) (x6n x6c : Nat) (x7 : Int) (I : IMem) (S : SH) : Prop :=
  ∃ (Inv : Nat → prefix_Cut_t6) (m : Nat), Inv m x0 x1 x4 x6 x6n x6c x7 I S ∧
    ∀ (m : Nat) (x0 : ByteArray) (x1 : Int) (x4 : Addr) (x6 : OA) (x6n x6c : Nat) (x7 : Int) (J : IMem) (T : SH), I.le J → Inv m x0 x1 x4 x6 x6n x6c x7 J T →
      prefix_Cut_l6 (fun x0 x1 x4 x6 x6n x6c x7 I S => ∃ m', m' < m ∧ Inv m' x0 x1 x4 x6 x6n x6c x7 I S) R x0 x1 x4 x6 x6n x6c x7 J T
def prefix_Cut_b4 (R : RT) (x0 : ByteArray) (x1 : Int) (x4 : Addr) (x6 : OA) (x6n x6c : Nat) (I : IMem) (S : SH) : Prop :=
  prefix_Cut_b5 R x0 x1 x4 x6 x6n x6c x1 I S
def prefix_Cut_b3 (R : RT) (x0 : ByteArray) (x1 : Int) (x4 : Addr) (I : IMem) (S : SH) : Prop :=
  x0.size ≤ maxLen ∧ ∀ b24 c24 : Nat, x0.size ≤ c24 → c24 ≤ maxLen →
  prefix_Cut_b4 R x0 x1 x4 (some ⟨b24, 0, none⟩) x0.size c24 I ((b24, .cells (byteCells x0 ++ repV (c24 - x0.size) [.int .u8 0]).toArray 5 (c24, c24 + 1)) :: S)
def prefix_Cut_b2 (R : RT) (x0 : ByteArray) (x1 : Int) (x4 : Addr) (x21 : Bool) (I : IMem) (S : SH) : Prop :=
  bcase x21
    (StP S x4 [.string ⟨#[]⟩, .int .i64 0] fun S1 =>
    ∃ u0, Cell I S1 x4 (.string u0) ∧
    ∃ u1, Cell I S1 (x4.add 1) (.int .i64 u1) ∧
    R (.tuple #[.agg #[.string u0, .int .i64 u1], .bool false]) I S1)
    (prefix_Cut_b3 R x0 x1 x4 I S)
def prefix_Cut_b1 (R : RT) (x0 : ByteArray) (x1 : Int) (x4 : Addr) (I : IMem) (S : SH) : Prop :=
  Runs Tryd.prog 17 #[.string x0] I S fun v I1 S1 => ∃ u0, v = .bool u0 ∧
  bcase (!u0)
    (prefix_Cut_b2 R x0 x1 x4 true I1 S1)
    (bcase (decide (x1 < (0 : Int)))
      (prefix_Cut_b2 R x0 x1 x4 true I1 S1)
      (prefix_Cut_b2 R x0 x1 x4 (decide (x1 > (IntKind.wrap .i64 ((8 : Int) * (x0.size : Int))))) I1 S1))
def prefix_Cut (R : RT) (u0 : ByteArray) (u1 : Int) (I : IMem) (S : SH) : Prop :=
  ∀ b4 : Nat,
  prefix_Cut_b1 R u0 u1 ⟨b4, 0, none⟩ I ((b4, .cells #[.string ⟨#[]⟩, .int .i64 0] 25 (0, 0)) :: S)
theorem prefix_Cut_fn (R : RT) (u0 : ByteArray) (u1 : Int) (I : IMem) (S : SH) (h : prefix_Cut R u0 u1 I S) : Runs Tryd.prog 11 #[.string u0, .int .i64 u1] I S R := by
  refine Runs.of_wp (c := cd Tryd.f11) Tryd.func11 (by kernel_rfl) (by kernel_rfl) ?_
  refine cO 1 [kS 0, kI .i64 1, kA 4] (prefix_Cut_b1 R) h fun _ _ _ _ _ _ _ h => ?_
  refine sO [kS 0, kI .i64 1, kA 4] (prefix_Cut_b3 R) ?_ fun _ _ _ _ _ _ _ h => ?_
  · refine cO 1 [kS 0, kI .i64 1, kA 4, kB 21] (prefix_Cut_b2 R) h fun _ _ _ _ _ _ _ _ h => ?_
    exact pS h
  refine cO 1 [kS 0, kI .i64 1, kA 4, kL 6] (prefix_Cut_b4 R) h fun _ _ _ _ _ _ _ _ _ _ h => ?_
  refine sO [kI .i64 1, kA 4, kL 6] (prefix_Cut_b9 R) ?_ fun _ _ _ _ _ _ _ _ _ h => ?_
  · refine cO 1 [kS 0, kI .i64 1, kA 4, kL 6, kI .i64 7] (prefix_Cut_b5 R) h fun _ _ _ _ _ _ _ _ _ _ _ h => ?_
    refine bK ?_
    obtain ⟨Vg6, mg6, h, hr⟩ := h
    refine lO [kS 0, kI .i64 1, kA 4, kL 6, kI .i64 7] Vg6 mg6 h fun mg6 _ I S hle x0 x1 x4 x6 x6n x6c x7 h => ?_
    have h := hr mg6 x0 x1 x4 x6 x6n x6c x7 I S hle h
    refine cO 1 [kS 0, kI .i64 1, kA 4, kL 6, kI .i64 7] (prefix_Cut_b7 (fun x0 x1 x4 x6 x6n x6c x7 I S => ∃ m', m' < mg6 ∧ Vg6 m' x0 x1 x4 x6 x6n x6c x7 I S) R) h fun _ _ _ _ _ _ _ _ _ _ _ h => ?_
    refine sO [kS 0, kI .i64 1, kA 4, kL 6, kI .i64 7] (prefix_Cut_b8 (fun x0 x1 x4 x6 x6n x6c x7 I S => ∃ m', m' < mg6 ∧ Vg6 m' x0 x1 x4 x6 x6n x6c x7 I S) R) (bK (dR (tk 11 0 (.step 11 .done)) [11] h)) fun _ _ _ _ _ _ _ _ _ _ _ h => ?_
    exact pS h
  exact pS h
def prefix_Address_b1 (R : RT) (x2 : Bool) (I : IMem) (S : SH) : Prop :=
  R (.bool x2) I S
def prefix_Address (R : RT) (u0 : ByteArray) (I : IMem) (S : SH) : Prop :=
  bcase ((u0.size : Int) == (4 : Int))
    (prefix_Address_b1 R true I S)
    (prefix_Address_b1 R ((u0.size : Int) == (16 : Int)) I S)
theorem prefix_Address_fn (R : RT) (u0 : ByteArray) (I : IMem) (S : SH) (h : prefix_Address R u0 I S) : Runs Tryd.prog 17 #[.string u0] I S R := by
  refine Runs.of_wp (c := cd Tryd.f17) Tryd.func17 (by kernel_rfl) (by kernel_rfl) ?_
  refine cO 2 [kB 2] (prefix_Address_b1 R) h fun _ _ _ _ _ h => ?_
  exact pS h
abbrev owner_four_t3 := ByteArray → OA → Nat → Nat → Int → PR
def owner_four_b4 (R : RT) (x3 : OA) (x3n x3c : Nat) (I : IMem) (S : SH) : Prop :=
  R (.slice x3 x3n x3c) I S
def owner_four_l3 (g3 : owner_four_t3) (R : RT) (x0 : ByteArray) (x3 : OA) (x3n x3c : Nat) (x4 : Int) (I : IMem) (S : SH) : Prop :=
  bcase (decide (x4 ≥ (0 : Int)))
    (∃ u0 : UInt8, (0 : Int) ≤ x4 ∧ x0[x4.toNat]? = some u0 ∧
    Runs Tryd.prog 59 #[.int .i64 (IntKind.wrap .i64 (u0.toNat : Int))] I S fun v I1 S1 => ∃ u1, v = .string u1 ∧
    ∀ b15 : Nat,
    AppG 9 1 16 [.string ⟨#[]⟩] (some (.slice 9)) I1 ((b15, .cells #[.string u1] 9 (0, 0)) :: S1) (.slice x3 x3n x3c) (.slice (some ⟨b15, 0, none⟩) 1 1) fun u2 u2n u2c S1' =>
    g3 x0 u2 u2n u2c (IntKind.wrap .i64 (x4 - (1 : Int))) I1 S1')
    (owner_four_b4 R x3 x3n x3c I S)
def owner_four_b2 (R : RT) (x0 : ByteArray) (x3 : OA) (x3n x3c : Nat) (x4 : Int) (I : IMem) (S : SH) : Prop :=
  ∃ (Inv : Nat → owner_four_t3) (m : Nat), Inv m x0 x3 x3n x3c x4 I S ∧
    ∀ (m : Nat) (x0 : ByteArray) (x3 : OA) (x3n x3c : Nat) (x4 : Int) (J : IMem) (T : SH), I.le J → Inv m x0 x3 x3n x3c x4 J T →
      owner_four_l3 (fun x0 x3 x3n x3c x4 I S => ∃ m', m' < m ∧ Inv m' x0 x3 x3n x3c x4 I S) R x0 x3 x3n x3c x4 J T
def owner_four_b1 (R : RT) (x0 : ByteArray) (x3 : OA) (x3n x3c : Nat) (I : IMem) (S : SH) : Prop :=
  owner_four_b2 R x0 x3 x3n x3c 3 I S
def owner_four (R : RT) (u0 : ByteArray) (I : IMem) (S : SH) : Prop :=
  owner_four_b1 R u0 none 0 0 I S
theorem owner_four_fn (R : RT) (u0 : ByteArray) (I : IMem) (S : SH) (h : owner_four R u0 I S) : Runs Tryd.prog 60 #[.string u0] I S R := by
  refine Runs.of_wp (c := cd Tryd.f60) Tryd.func60 (by kernel_rfl) (by kernel_rfl) ?_
  refine cO 2 [kS 0, kL 3] (owner_four_b1 R) h fun _ _ _ _ _ _ _ _ h => ?_
  refine sO [kL 3] (owner_four_b4 R) ?_ fun _ _ _ _ _ _ _ h => ?_
  · refine cO 1 [kS 0, kL 3, kI .i64 4] (owner_four_b2 R) h fun _ _ _ _ _ _ _ _ _ h => ?_
    refine bK ?_
    obtain ⟨Vg3, mg3, h, hr⟩ := h
    refine lO [kS 0, kL 3, kI .i64 4] Vg3 mg3 h fun mg3 _ I S hle x0 x3 x3n x3c x4 h => ?_
    have h := hr mg3 x0 x3 x3n x3c x4 I S hle h
    exact pS h
  exact pS h
abbrev owner_six_t3 := ByteArray → OA → Nat → Nat → Int → Int → PR
def owner_six_b6 (g3 : owner_six_t3) (R : RT) (x0 : ByteArray) (x3 : OA) (x3n x3c : Nat) (x13 x14 : Int) (I : IMem) (S : SH) : Prop :=
  g3 x0 x3 x3n x3c x13 (IntKind.wrap .i64 (x14 + (1 : Int))) I S
def owner_six_b5 (g3 : owner_six_t3) (R : RT) (x0 : ByteArray) (x3 : OA) (x3n x3c : Nat) (x4 x13 x14 : Int) (I : IMem) (S : SH) : Prop :=
  ∃ u0 : UInt8, (0 : Int) ≤ (IntKind.wrap .i64 ((2 : Int) * x4)) ∧ x0[(IntKind.wrap .i64 ((2 : Int) * x4)).toNat]? = some u0 ∧
  ∃ u1 : UInt8, (0 : Int) ≤ (IntKind.wrap .i64 ((IntKind.wrap .i64 ((2 : Int) * x4)) + (1 : Int))) ∧ x0[(IntKind.wrap .i64 ((IntKind.wrap .i64 ((2 : Int) * x4)) + (1 : Int))).toNat]? = some u1 ∧
  ptrP x3 fun u2 => (0 : Int) ≤ x4 ∧ x4 < (x3n : Int) ∧
  StP S (u2.add (x4.toNat * 1)) [.int .i64 (ior .i64 (IntKind.wrap .i64 ((IntKind.wrap .i64 (u0.toNat : Int)) * 2 ^ (min (8 : Int).toNat (IntKind.bits .i64)))) (IntKind.wrap .i64 (u1.toNat : Int)))] fun S1 =>
  owner_six_b6 g3 R x0 x3 x3n x3c x13 x14 I S1
def owner_six_b4 (g3 : owner_six_t3) (R : RT) (x0 : ByteArray) (x3 : OA) (x3n x3c : Nat) (x13 x14 : Int) (I : IMem) (S : SH) : Prop :=
  owner_six_b5 g3 R x0 x3 x3n x3c x14 x13 x14 I S
abbrev owner_six_t10 := OA → Nat → Nat → Int → Int → Int → PR
abbrev owner_six_t13 := OA → Nat → Nat → Int → Int → Int → Int → PR
def owner_six_b15 (g10 : owner_six_t10) (g13 : owner_six_t13) (R : RT) (x3 : OA) (x3n x3c : Nat) (x5 x6 x7 x8 : Int) (I : IMem) (S : SH) : Prop :=
  g13 x3 x3n x3c x5 x6 x7 (IntKind.wrap .i64 (x8 + (1 : Int))) I S
def owner_six_b17 (g10 : owner_six_t10) (R : RT) (x3 : OA) (x3n x3c : Nat) (x5 x6 x7 : Int) (I : IMem) (S : SH) : Prop :=
  g10 x3 x3n x3c x5 x6 (IntKind.wrap .i64 (x7 + (1 : Int))) I S
def owner_six_b16 (g10 : owner_six_t10) (R : RT) (x3 : OA) (x3n x3c : Nat) (x5 x6 x7 x8 : Int) (I : IMem) (S : SH) : Prop :=
  bcase (decide (x8 > x6))
    (owner_six_b17 g10 R x3 x3n x3c x7 x8 x7 I S)
    (owner_six_b17 g10 R x3 x3n x3c x5 x6 x7 I S)
def owner_six_b14 (g10 : owner_six_t10) (g13 : owner_six_t13) (R : RT) (x3 : OA) (x3n x3c : Nat) (x5 x6 x7 x8 : Int) (x50 : Bool) (I : IMem) (S : SH) : Prop :=
  bcase x50
    (owner_six_b15 g10 g13 R x3 x3n x3c x5 x6 x7 x8 I S)
    (owner_six_b16 g10 R x3 x3n x3c x5 x6 x7 x8 I S)
def owner_six_l13 (g10 : owner_six_t10) (g13 : owner_six_t13) (R : RT) (x3 : OA) (x3n x3c : Nat) (x5 x6 x7 x8 : Int) (I : IMem) (S : SH) : Prop :=
  bcase (decide ((IntKind.wrap .i64 (x7 + x8)) < (8 : Int)))
    (ptrP x3 fun u0 => (0 : Int) ≤ (IntKind.wrap .i64 (x7 + x8)) ∧ (IntKind.wrap .i64 (x7 + x8)) < (x3n : Int) ∧
    ∃ u1, Cell I S (u0.add ((IntKind.wrap .i64 (x7 + x8)).toNat * 1)) (.int .i64 u1) ∧
    owner_six_b14 g10 g13 R x3 x3n x3c x5 x6 x7 x8 (u1 == (0 : Int)) I S)
    (owner_six_b14 g10 g13 R x3 x3n x3c x5 x6 x7 x8 false I S)
def owner_six_b12 (g10 : owner_six_t10) (R : RT) (x3 : OA) (x3n x3c : Nat) (x5 x6 x7 x8 : Int) (I : IMem) (S : SH) : Prop :=
  ∃ (Inv : Nat → owner_six_t13) (m : Nat), Inv m x3 x3n x3c x5 x6 x7 x8 I S ∧
    ∀ (m : Nat) (x3 : OA) (x3n x3c : Nat) (x5 x6 x7 x8 : Int) (J : IMem) (T : SH), I.le J → Inv m x3 x3n x3c x5 x6 x7 x8 J T →
      owner_six_l13 g10 (fun x3 x3n x3c x5 x6 x7 x8 I S => ∃ m', m' < m ∧ Inv m' x3 x3n x3c x5 x6 x7 x8 I S) R x3 x3n x3c x5 x6 x7 x8 J T
def owner_six_b11 (g10 : owner_six_t10) (R : RT) (x3 : OA) (x3n x3c : Nat) (x5 x6 x7 : Int) (I : IMem) (S : SH) : Prop :=
  owner_six_b12 g10 R x3 x3n x3c x5 x6 x7 0 I S
abbrev owner_six_t21 := OA → Nat → Nat → Int → Int → OA → Nat → Nat → Int → PR
def owner_six_b22 (g21 : owner_six_t21) (R : RT) (x3 : OA) (x3n x3c : Nat) (x5 x6 : Int) (x9 : OA) (x9n x9c : Nat) (x10 : Int) (I : IMem) (S : SH) : Prop :=
  g21 x3 x3n x3c x5 x6 x9 x9n x9c (IntKind.wrap .i64 (x10 + (1 : Int))) I S
def owner_six_b23 (R : RT) (x9 : OA) (x9n x9c : Nat) (I : IMem) (S : SH) : Prop :=
  Runs Tryd.prog 71 #[.slice x9 x9n x9c] I S fun v I1 S1 => v = .tuple #[] ∧
  R (.slice x9 x9n x9c) I1 S1
def owner_six_l21 (g21 : owner_six_t21) (R : RT) (x3 : OA) (x3n x3c : Nat) (x5 x6 : Int) (x9 : OA) (x9n x9c : Nat) (x10 : Int) (I : IMem) (S : SH) : Prop :=
  bcase (decide (x10 < (8 : Int)))
    (bcase (x10 == x5)
      (∀ b66 : Nat,
      AppG 9 1 16 [.string ⟨#[]⟩] (some (.slice 9)) I ((b66, .cells #[.string ⟨#[122, 122]⟩] 9 (0, 0)) :: S) (.slice x9 x9n x9c) (.slice (some ⟨b66, 0, none⟩) 1 1) fun u0 u0n u0c S1 =>
      owner_six_b22 g21 R x3 x3n x3c x5 x6 u0 u0n u0c (IntKind.wrap .i64 (x10 + (IntKind.wrap .i64 (x6 - (1 : Int))))) I S1)
      (ptrP x3 fun u1 => (0 : Int) ≤ x10 ∧ x10 < (x3n : Int) ∧
      ∃ u2, Cell I S (u1.add (x10.toNat * 1)) (.int .i64 u2) ∧
      Runs Tryd.prog 70 #[.int .i64 u2, .int .i64 16] I S fun v I1 S1' => ∃ u3, v = .string u3 ∧
      ∀ b78 : Nat,
      AppG 9 1 16 [.string ⟨#[]⟩] (some (.slice 9)) I1 ((b78, .cells #[.string u3] 9 (0, 0)) :: S1') (.slice x9 x9n x9c) (.slice (some ⟨b78, 0, none⟩) 1 1) fun u4 u4n u4c S1'' =>
      owner_six_b22 g21 R x3 x3n x3c x5 x6 u4 u4n u4c x10 I1 S1''))
    (owner_six_b23 R x9 x9n x9c I S)
def owner_six_b20 (R : RT) (x3 : OA) (x3n x3c : Nat) (x5 x6 : Int) (x9 : OA) (x9n x9c : Nat) (x10 : Int) (I : IMem) (S : SH) : Prop :=
  ∃ (Inv : Nat → owner_six_t21) (m : Nat), Inv m x3 x3n x3c x5 x6 x9 x9n x9c x10 I S ∧
    ∀ (m : Nat) (x3 : OA) (x3n x3c : Nat) (x5 x6 : Int) (x9 : OA) (x9n x9c : Nat) (x10 : Int) (J : IMem) (T : SH), I.le J → Inv m x3 x3n x3c x5 x6 x9 x9n x9c x10 J T →
      owner_six_l21 (fun x3 x3n x3c x5 x6 x9 x9n x9c x10 I S => ∃ m', m' < m ∧ Inv m' x3 x3n x3c x5 x6 x9 x9n x9c x10 I S) R x3 x3n x3c x5 x6 x9 x9n x9c x10 J T
def owner_six_b19 (R : RT) (x3 : OA) (x3n x3c : Nat) (x5 x6 : Int) (x9 : OA) (x9n x9c : Nat) (I : IMem) (S : SH) : Prop :=
  owner_six_b20 R x3 x3n x3c x5 x6 x9 x9n x9c 0 I S
def owner_six_b18 (R : RT) (x3 : OA) (x3n x3c : Nat) (x5 x6 : Int) (I : IMem) (S : SH) : Prop :=
  owner_six_b19 R x3 x3n x3c x5 x6 none 0 0 I S
def owner_six_l10 (g10 : owner_six_t10) (R : RT) (x3 : OA) (x3n x3c : Nat) (x5 x6 x7 : Int) (I : IMem) (S : SH) : Prop :=
  bcase (decide (x7 < (8 : Int)))
    (owner_six_b11 g10 R x3 x3n x3c x5 x6 x7 I S)
    (owner_six_b18 R x3 x3n x3c x5 x6 I S)
def owner_six_b9 (R : RT) (x3 : OA) (x3n x3c : Nat) (x5 x6 x7 : Int) (I : IMem) (S : SH) : Prop :=
  ∃ (Inv : Nat → owner_six_t10) (m : Nat), Inv m x3 x3n x3c x5 x6 x7 I S ∧
    ∀ (m : Nat) (x3 : OA) (x3n x3c : Nat) (x5 x6 x7 : Int) (J : IMem) (T : SH), I.le J → Inv m x3 x3n x3c x5 x6 x7 J T →
      owner_six_l10 (fun x3 x3n x3c x5 x6 x7 I S => ∃ m', m' < m ∧ Inv m' x3 x3n x3c x5 x6 x7 I S) R x3 x3n x3c x5 x6 x7 J T
def owner_six_b8 (R : RT) (x3 : OA) (x3n x3c : Nat) (x5 x6 : Int) (I : IMem) (S : SH) : Prop :=
  owner_six_b9 R x3 x3n x3c x5 x6 0 I S
def owner_six_b7 (R : RT) (x3 : OA) (x3n x3c : Nat) (I : IMem) (S : SH) : Prop :=
  owner_six_b8 R x3 x3n x3c (-1) 1 I S
def owner_six_l3 (g3 : owner_six_t3) (R : RT) (x0 : ByteArray) (x3 : OA) (x3n x3c : Nat) (x13 x14 : Int) (I : IMem) (S : SH) : Prop :=
  bcase (decide (x14 < x13))
    (owner_six_b4 g3 R x0 x3 x3n x3c x13 x14 I S)
    (owner_six_b7 R x3 x3n x3c I S)
def owner_six_b2 (R : RT) (x0 : ByteArray) (x3 : OA) (x3n x3c : Nat) (x13 x14 : Int) (I : IMem) (S : SH) : Prop :=
  ∃ (Inv : Nat → owner_six_t3) (m : Nat), Inv m x0 x3 x3n x3c x13 x14 I S ∧
    ∀ (m : Nat) (x0 : ByteArray) (x3 : OA) (x3n x3c : Nat) (x13 x14 : Int) (J : IMem) (T : SH), I.le J → Inv m x0 x3 x3n x3c x13 x14 J T →
      owner_six_l3 (fun x0 x3 x3n x3c x13 x14 I S => ∃ m', m' < m ∧ Inv m' x0 x3 x3n x3c x13 x14 I S) R x0 x3 x3n x3c x13 x14 J T
def owner_six_b1 (R : RT) (x0 : ByteArray) (x3 : OA) (x3n x3c : Nat) (I : IMem) (S : SH) : Prop :=
  owner_six_b2 R x0 x3 x3n x3c (x3n : Int) 0 I S
def owner_six (R : RT) (u0 : ByteArray) (I : IMem) (S : SH) : Prop :=
  (0 : Int) ≤ 8 ∧ (8 : Int) ≤ 8 ∧ (8 : Int) ≤ 9223372036854775807 ∧ (8 : Int) * 8 ≤ 281474976710656 ∧ ∀ b11 : Nat,
  owner_six_b1 R u0 (some ⟨b11, 0, none⟩) 8 8 I ((b11, .cells #[.int .i64 0, .int .i64 0, .int .i64 0, .int .i64 0, .int .i64 0, .int .i64 0, .int .i64 0, .int .i64 0] 3 (0, 0)) :: S)
theorem owner_six_fn (R : RT) (u0 : ByteArray) (I : IMem) (S : SH) (h : owner_six R u0 I S) : Runs Tryd.prog 61 #[.string u0] I S R := by
  refine Runs.of_wp (c := cd Tryd.f61) Tryd.func61 (by kernel_rfl) (by kernel_rfl) ?_
  refine cO 2 [kS 0, kL 3] (owner_six_b1 R) h fun _ _ _ _ _ _ _ _ h => ?_
  refine sO [kL 3] (owner_six_b7 R) ?_ fun _ _ _ _ _ _ _ h => ?_
  · refine cO 1 [kS 0, kL 3, kI .i64 13, kI .i64 14] (owner_six_b2 R) h fun _ _ _ _ _ _ _ _ _ _ h => ?_
    refine bK ?_
    obtain ⟨Vg3, mg3, h, hr⟩ := h
    refine lO [kS 0, kL 3, kI .i64 13, kI .i64 14] Vg3 mg3 h fun mg3 _ I S hle x0 x3 x3n x3c x13 x14 h => ?_
    have h := hr mg3 x0 x3 x3n x3c x13 x14 I S hle h
    refine cO 2 [kS 0, kL 3, kI .i64 13, kI .i64 14] (owner_six_b4 (fun x0 x3 x3n x3c x13 x14 I S => ∃ m', m' < mg3 ∧ Vg3 m' x0 x3 x3n x3c x13 x14 I S) R) h fun _ _ _ _ _ _ _ _ _ _ h => ?_
    refine sO [kS 0, kL 3, kI .i64 13, kI .i64 14] (owner_six_b6 (fun x0 x3 x3n x3c x13 x14 I S => ∃ m', m' < mg3 ∧ Vg3 m' x0 x3 x3n x3c x13 x14 I S) R) ?_ fun _ _ _ _ _ _ _ _ _ _ h => ?_
    · refine bK ?_
      refine cO 1 [kS 0, kL 3, kI .i64 4, kI .i64 13, kI .i64 14] (owner_six_b5 (fun x0 x3 x3n x3c x13 x14 I S => ∃ m', m' < mg3 ∧ Vg3 m' x0 x3 x3n x3c x13 x14 I S) R) h fun _ _ _ _ _ _ _ _ _ _ _ h => ?_
      exact dR (tk 16 0 (.step 16 .done)) [16] h
    exact pS h
  refine cO 1 [kL 3, kI .i64 5, kI .i64 6] (owner_six_b8 R) h fun _ _ _ _ _ _ _ _ _ h => ?_
  refine sO [kL 3, kI .i64 5, kI .i64 6] (owner_six_b18 R) ?_ fun _ _ _ _ _ _ _ _ _ h => ?_
  · refine cO 1 [kL 3, kI .i64 5, kI .i64 6, kI .i64 7] (owner_six_b9 R) h fun _ _ _ _ _ _ _ _ _ _ h => ?_
    refine bK ?_
    obtain ⟨Vg10, mg10, h, hr⟩ := h
    refine lO [kL 3, kI .i64 5, kI .i64 6, kI .i64 7] Vg10 mg10 h fun mg10 _ I S hle x3 x3n x3c x5 x6 x7 h => ?_
    have h := hr mg10 x3 x3n x3c x5 x6 x7 I S hle h
    refine cO 1 [kL 3, kI .i64 5, kI .i64 6, kI .i64 7] (owner_six_b11 (fun x3 x3n x3c x5 x6 x7 I S => ∃ m', m' < mg10 ∧ Vg10 m' x3 x3n x3c x5 x6 x7 I S) R) h fun _ _ _ _ _ _ _ _ _ _ h => ?_
    refine sO [kL 3, kI .i64 5, kI .i64 6, kI .i64 7] (owner_six_b17 (fun x3 x3n x3c x5 x6 x7 I S => ∃ m', m' < mg10 ∧ Vg10 m' x3 x3n x3c x5 x6 x7 I S) R) ?_ fun _ _ _ _ _ _ _ _ _ _ h => ?_
    · refine bK ?_
      refine cO 1 [kL 3, kI .i64 5, kI .i64 6, kI .i64 7, kI .i64 8] (owner_six_b12 (fun x3 x3n x3c x5 x6 x7 I S => ∃ m', m' < mg10 ∧ Vg10 m' x3 x3n x3c x5 x6 x7 I S) R) h fun _ _ _ _ _ _ _ _ _ _ _ h => ?_
      refine sO [kL 3, kI .i64 5, kI .i64 6, kI .i64 7, kI .i64 8] (owner_six_b16 (fun x3 x3n x3c x5 x6 x7 I S => ∃ m', m' < mg10 ∧ Vg10 m' x3 x3n x3c x5 x6 x7 I S) R) ?_ fun _ _ _ _ _ _ _ _ _ _ _ h => ?_
      · refine bK ?_
        obtain ⟨Vg13, mg13, h, hr⟩ := h
        refine lO [kL 3, kI .i64 5, kI .i64 6, kI .i64 7, kI .i64 8] Vg13 mg13 h fun mg13 _ I S hle x3 x3n x3c x5 x6 x7 x8 h => ?_
        have h := hr mg13 x3 x3n x3c x5 x6 x7 x8 I S hle h
        refine sO [kL 3, kI .i64 5, kI .i64 6, kI .i64 7, kI .i64 8] (owner_six_b15 (fun x3 x3n x3c x5 x6 x7 I S => ∃ m', m' < mg10 ∧ Vg10 m' x3 x3n x3c x5 x6 x7 I S) (fun x3 x3n x3c x5 x6 x7 x8 I S => ∃ m', m' < mg13 ∧ Vg13 m' x3 x3n x3c x5 x6 x7 x8 I S) R) ?_ fun _ _ _ _ _ _ _ _ _ _ _ h => ?_
        · refine cO 1 [kL 3, kI .i64 5, kI .i64 6, kI .i64 7, kI .i64 8, kB 50] (owner_six_b14 (fun x3 x3n x3c x5 x6 x7 I S => ∃ m', m' < mg10 ∧ Vg10 m' x3 x3n x3c x5 x6 x7 I S) (fun x3 x3n x3c x5 x6 x7 x8 I S => ∃ m', m' < mg13 ∧ Vg13 m' x3 x3n x3c x5 x6 x7 x8 I S) R) h fun _ _ _ _ _ _ _ _ _ _ _ _ h => ?_
          exact pS h
        exact pS h
      exact pS h
    exact pS h
  refine cO 1 [kL 3, kI .i64 5, kI .i64 6, kL 9] (owner_six_b19 R) h fun _ _ _ _ _ _ _ _ _ _ _ _ h => ?_
  refine sO [kL 9] (owner_six_b23 R) ?_ fun _ _ _ _ _ _ _ h => ?_
  · refine cO 1 [kL 3, kI .i64 5, kI .i64 6, kL 9, kI .i64 10] (owner_six_b20 R) h fun _ _ _ _ _ _ _ _ _ _ _ _ _ h => ?_
    refine bK ?_
    obtain ⟨Vg21, mg21, h, hr⟩ := h
    refine lO [kL 3, kI .i64 5, kI .i64 6, kL 9, kI .i64 10] Vg21 mg21 h fun mg21 _ I S hle x3 x3n x3c x5 x6 x9 x9n x9c x10 h => ?_
    have h := hr mg21 x3 x3n x3c x5 x6 x9 x9n x9c x10 I S hle h
    refine cO 2 [kL 3, kI .i64 5, kI .i64 6, kL 9, kI .i64 10] (owner_six_b22 (fun x3 x3n x3c x5 x6 x9 x9n x9c x10 I S => ∃ m', m' < mg21 ∧ Vg21 m' x3 x3n x3c x5 x6 x9 x9n x9c x10 I S) R) h fun _ _ _ _ _ _ _ _ _ _ _ _ _ h => ?_
    exact pS h
  exact pS h
def owner_decimal_b1 (R : RT) (x4 : Int) (x5 : Bool) (I : IMem) (S : SH) : Prop :=
  R (.tuple #[.int .i64 x4, .bool x5]) I S
def owner_decimal (R : RT) (u0 : ByteArray) (u1 : Int) (I : IMem) (S : SH) : Prop :=
  Runs Tryd.prog 77 #[.string u0] I S fun v I1 S1 => ∃ u2 u3, v = .tuple #[.int .i64 u2, u3] ∧
  ∃ nl, isNilI u3 = some nl ∧
  bcase nl
    (bcase (decide (u2 ≥ (0 : Int)))
      (bcase (decide (u2 ≤ u1))
        (Runs Tryd.prog 59 #[.int .i64 u2] I1 S1 fun v' I1' S1' => ∃ u4, v' = .string u4 ∧
        owner_decimal_b1 R u2 (u4.toList == u0.toList) I1' S1')
        (owner_decimal_b1 R u2 false I1 S1))
      (owner_decimal_b1 R u2 false I1 S1))
    (owner_decimal_b1 R u2 false I1 S1)
theorem owner_decimal_fn (R : RT) (u0 : ByteArray) (u1 : Int) (I : IMem) (S : SH) (h : owner_decimal R u0 u1 I S) : Runs Tryd.prog 72 #[.string u0, .int .i64 u1] I S R := by
  refine Runs.of_wp (c := cd Tryd.f72) Tryd.func72 (by kernel_rfl) (by kernel_rfl) ?_
  refine cO 3 [kI .i64 4, kB 5] (owner_decimal_b1 R) h fun _ _ _ _ _ _ h => ?_
  exact pS h
abbrev owner_address_t4 := OA → Nat → Nat → OA → Nat → Nat → Int → Int → PR
def owner_address_b5 (R : RT) (x4 : OA) (x4n x4c : Nat) (I : IMem) (S : SH) : Prop :=
  ∃ u0 : ByteArray, BytesAt I S x4 x4n u0 ∧
  R (.tuple #[.string u0, .bool true]) I S
def owner_address_l4 (g4 : owner_address_t4) (R : RT) (x4 : OA) (x4n x4c : Nat) (x27 : OA) (x27n x27c : Nat) (x28 x29 : Int) (I : IMem) (S : SH) : Prop :=
  bcase (decide (x29 < x28))
    (ptrP x27 fun u0 => (0 : Int) ≤ x29 ∧ x29 < (x27n : Int) ∧
    ∃ u1, Cell I S (u0.add (x29.toNat * 1)) (.string u1) ∧
    Runs Tryd.prog 72 #[.string u1, .int .i64 255] I S fun v I1 S1 => ∃ u2 u3, v = .tuple #[.int .i64 u2, .bool u3] ∧
    bcase (!u3)
      (R (.tuple #[.string ⟨#[]⟩, .bool false]) I1 S1)
      (∀ b43 : Nat,
      AppG 5 1 1 [.int .u8 0] (some (.slice 5)) I1 ((b43, .cells #[.int .u8 (IntKind.wrap .u8 u2)] 5 (0, 0)) :: S1) (.slice x4 x4n x4c) (.slice (some ⟨b43, 0, none⟩) 1 1) fun u4 u4n u4c S1' =>
      g4 u4 u4n u4c x27 x27n x27c x28 (IntKind.wrap .i64 (x29 + (1 : Int))) I1 S1'))
    (owner_address_b5 R x4 x4n x4c I S)
def owner_address_b3 (R : RT) (x4 : OA) (x4n x4c : Nat) (x27 : OA) (x27n x27c : Nat) (x28 x29 : Int) (I : IMem) (S : SH) : Prop :=
  ∃ (Inv : Nat → owner_address_t4) (m : Nat), Inv m x4 x4n x4c x27 x27n x27c x28 x29 I S ∧
    ∀ (m : Nat) (x4 : OA) (x4n x4c : Nat) (x27 : OA) (x27n x27c : Nat) (x28 x29 : Int) (J : IMem) (T : SH), I.le J → Inv m x4 x4n x4c x27 x27n x27c x28 x29 J T →
      owner_address_l4 (fun x4 x4n x4c x27 x27n x27c x28 x29 I S => ∃ m', m' < m ∧ Inv m' x4 x4n x4c x27 x27n x27c x28 x29 I S) R x4 x4n x4c x27 x27n x27c x28 x29 J T
abbrev owner_address_t11 := OA → Nat → Nat → OA → Nat → Nat → Int → Int → PR
def owner_address_b12 (R : RT) (x4 : OA) (x4n x4c : Nat) (I : IMem) (S : SH) : Prop :=
  ∃ u0 : ByteArray, BytesAt I S x4 x4n u0 ∧
  R (.tuple #[.string u0, .bool true]) I S
def owner_address_l11 (g11 : owner_address_t11) (R : RT) (x4 : OA) (x4n x4c : Nat) (x71 : OA) (x71n x71c : Nat) (x72 x73 : Int) (I : IMem) (S : SH) : Prop :=
  bcase (decide (x73 < x72))
    (ptrP x71 fun u0 => (0 : Int) ≤ x73 ∧ x73 < (x71n : Int) ∧
    ∃ u1, Cell I S (u0.add (x73.toNat * 1)) (.string u1) ∧
    Runs Tryd.prog 83 #[.string u1] I S fun v I1 S1 => ∃ u2 u3, v = .tuple #[.int .i64 u2, .bool u3] ∧
    bcase (!u3)
      (R (.tuple #[.string ⟨#[]⟩, .bool false]) I1 S1)
      (∀ b90 : Nat,
      AppG 5 1 1 [.int .u8 0] (some (.slice 5)) I1 ((b90, .cells #[.int .u8 (IntKind.wrap .u8 (u2.fdiv (2 ^ (min (8 : Int).toNat (IntKind.bits .i64))))), .int .u8 (IntKind.wrap .u8 u2)] 5 (0, 0)) :: S1) (.slice x4 x4n x4c) (.slice (some ⟨b90, 0, none⟩) 2 2) fun u4 u4n u4c S1' =>
      g11 u4 u4n u4c x71 x71n x71c x72 (IntKind.wrap .i64 (x73 + (1 : Int))) I1 S1'))
    (owner_address_b12 R x4 x4n x4c I S)
def owner_address_b10 (R : RT) (x4 : OA) (x4n x4c : Nat) (x71 : OA) (x71n x71c : Nat) (x72 x73 : Int) (I : IMem) (S : SH) : Prop :=
  ∃ (Inv : Nat → owner_address_t11) (m : Nat), Inv m x4 x4n x4c x71 x71n x71c x72 x73 I S ∧
    ∀ (m : Nat) (x4 : OA) (x4n x4c : Nat) (x71 : OA) (x71n x71c : Nat) (x72 x73 : Int) (J : IMem) (T : SH), I.le J → Inv m x4 x4n x4c x71 x71n x71c x72 x73 J T →
      owner_address_l11 (fun x4 x4n x4c x71 x71n x71c x72 x73 I S => ∃ m', m' < m ∧ Inv m' x4 x4n x4c x71 x71n x71c x72 x73 I S) R x4 x4n x4c x71 x71n x71c x72 x73 J T
def owner_address_b9 (R : RT) (x0 : OA) (x0n x0c : Nat) (x4 : OA) (x4n x4c : Nat) (I : IMem) (S : SH) : Prop :=
  owner_address_b10 R x4 x4n x4c x0 x0n x0c (x0n : Int) 0 I S
def owner_address_b8 (R : RT) (x0 : OA) (x0n x0c : Nat) (x4 : OA) (x4n x4c : Nat) (I : IMem) (S : SH) : Prop :=
  bcase ((x0n : Int) != (8 : Int))
    (R (.tuple #[.string ⟨#[]⟩, .bool false]) I S)
    (owner_address_b9 R x0 x0n x0c x4 x4n x4c I S)
def owner_address_b7 (R : RT) (x0 : OA) (x0n x0c : Nat) (x4 : OA) (x4n x4c : Nat) (x9 : Int) (x56 : Bool) (I : IMem) (S : SH) : Prop :=
  bcase x56
    (∀ b57 : Nat,
    Runs Tryd.prog 81 #[.slice (some ⟨b57, 0, none⟩) 1 1, .int .i64 (IntKind.wrap .i64 ((9 : Int) - (x0n : Int)))] I ((b57, .cells #[.string ⟨#[48]⟩] 9 (0, 0)) :: S) fun v I1 S1 => ∃ u0 u0n u0c, v = .slice u0 u0n u0c ∧
    Runs Tryd.prog 82 #[.slice x0 x0n x0c, .int .i64 x9, .int .i64 (IntKind.wrap .i64 (x9 + (1 : Int))), .slice u0 u0n u0c] I1 S1 fun v' I1' S1' => ∃ u1 u1n u1c, v' = .slice u1 u1n u1c ∧
    owner_address_b8 R u1 u1n u1c x4 x4n x4c I1' S1')
    (owner_address_b8 R x0 x0n x0c x4 x4n x4c I S)
def owner_address_b6 (R : RT) (x0 : OA) (x0n x0c : Nat) (x4 : OA) (x4n x4c : Nat) (I : IMem) (S : SH) : Prop :=
  Runs Tryd.prog 80 #[.slice x0 x0n x0c, .string ⟨#[122, 122]⟩] I S fun v I1 S1 => ∃ u0, v = .int .i64 u0 ∧
  bcase (decide (u0 ≥ (0 : Int)))
    (owner_address_b7 R x0 x0n x0c x4 x4n x4c u0 (decide ((x0n : Int) ≤ (7 : Int))) I1 S1)
    (owner_address_b7 R x0 x0n x0c x4 x4n x4c u0 false I1 S1)
def owner_address_b2 (R : RT) (x0 : OA) (x0n x0c : Nat) (x4 : OA) (x4n x4c : Nat) (x26 : Bool) (I : IMem) (S : SH) : Prop :=
  bcase x26
    (owner_address_b3 R x4 x4n x4c x0 x0n x0c (x0n : Int) 0 I S)
    (owner_address_b6 R x0 x0n x0c x4 x4n x4c I S)
def owner_address_b1 (R : RT) (x0 : OA) (x0n x0c : Nat) (x4 : OA) (x4n x4c : Nat) (I : IMem) (S : SH) : Prop :=
  bcase ((x0n : Int) == (4 : Int))
    (Runs Tryd.prog 79 #[.slice x0 x0n x0c, .string ⟨#[122, 122]⟩] I S fun v I1 S1 => ∃ u0, v = .bool u0 ∧
    owner_address_b2 R x0 x0n x0c x4 x4n x4c (!u0) I1 S1)
    (owner_address_b2 R x0 x0n x0c x4 x4n x4c false I S)
def owner_address (R : RT) (u0 : OA) (u0n u0c : Nat) (I : IMem) (S : SH) : Prop :=
  Runs Tryd.prog 78 #[.slice u0 u0n u0c] I S fun v I1 S1 => ∃ u1 u1n u1c, v = .slice u1 u1n u1c ∧
  Runs Tryd.prog 71 #[.slice u1 u1n u1c] I1 S1 fun v' I1' S1' => v' = .tuple #[] ∧
  owner_address_b1 R u1 u1n u1c none 0 0 I1' S1'
theorem owner_address_fn (R : RT) (u0 : OA) (u0n u0c : Nat) (I : IMem) (S : SH) (h : owner_address R u0 u0n u0c I S) : Runs Tryd.prog 73 #[.slice u0 u0n u0c] I S R := by
  refine Runs.of_wp (c := cd Tryd.f73) Tryd.func73 (by kernel_rfl) (by kernel_rfl) ?_
  refine cO 4 [kL 0, kL 4] (owner_address_b1 R) h fun _ _ _ _ _ _ _ _ _ _ h => ?_
  refine sO [kL 0, kL 4] (owner_address_b6 R) ?_ fun _ _ _ _ _ _ _ _ _ _ h => ?_
  · refine cO 1 [kL 0, kL 4, kB 26] (owner_address_b2 R) h fun _ _ _ _ _ _ _ _ _ _ _ h => ?_
    refine cD h (fun h => ?_) fun h => pS h
    refine sO [kL 4] (owner_address_b5 R) ?_ fun _ _ _ _ _ _ _ h => ?_
    · refine cO 1 [kL 4, kL 27, kI .i64 28, kI .i64 29] (owner_address_b3 R) h fun _ _ _ _ _ _ _ _ _ _ _ _ h => ?_
      refine bK ?_
      obtain ⟨Vg4, mg4, h, hr⟩ := h
      refine lO [kL 4, kL 27, kI .i64 28, kI .i64 29] Vg4 mg4 h fun mg4 _ I S hle x4 x4n x4c x27 x27n x27c x28 x29 h => ?_
      have h := hr mg4 x4 x4n x4c x27 x27n x27c x28 x29 I S hle h
      exact pS h
    exact pS h
  refine sO [kL 0, kL 4] (owner_address_b8 R) ?_ fun _ _ _ _ _ _ _ _ _ _ h => ?_
  · refine cO 2 [kL 0, kL 4, kI .i64 9, kB 56] (owner_address_b7 R) h fun _ _ _ _ _ _ _ _ _ _ _ _ h => ?_
    exact pS h
  refine cO 1 [kL 0, kL 4] (owner_address_b9 R) h fun _ _ _ _ _ _ _ _ _ _ h => ?_
  refine sO [kL 4] (owner_address_b12 R) ?_ fun _ _ _ _ _ _ _ h => ?_
  · refine cO 1 [kL 4, kL 71, kI .i64 72, kI .i64 73] (owner_address_b10 R) h fun _ _ _ _ _ _ _ _ _ _ _ _ h => ?_
    refine bK ?_
    obtain ⟨Vg11, mg11, h, hr⟩ := h
    refine lO [kL 4, kL 71, kI .i64 72, kI .i64 73] Vg11 mg11 h fun mg11 _ I S hle x4 x4n x4c x71 x71n x71c x72 x73 h => ?_
    have h := hr mg11 x4 x4n x4c x71 x71n x71c x72 x73 I S hle h
    exact pS h
  exact pS h
abbrev slices_Equal__string_string_t3 := OA → Nat → Nat → OA → Nat → Nat → Int → Int → PR
def slices_Equal__string_string_b7 (g3 : slices_Equal__string_string_t3) (R : RT) (x0 : OA) (x0n x0c : Nat) (x1 : OA) (x1n x1c : Nat) (x12 x13 : Int) (I : IMem) (S : SH) : Prop :=
  g3 x0 x0n x0c x1 x1n x1c x12 (IntKind.wrap .i64 (x13 + (1 : Int))) I S
def slices_Equal__string_string_b6 (g3 : slices_Equal__string_string_t3) (R : RT) (x0 : OA) (x0n x0c : Nat) (x1 : OA) (x1n x1c : Nat) (x12 x13 : Int) (x24 : Bool) (I : IMem) (S : SH) : Prop :=
  bcase x24
    (R (.bool false) I S)
    (slices_Equal__string_string_b7 g3 R x0 x0n x0c x1 x1n x1c x12 x13 I S)
def slices_Equal__string_string_b5 (g3 : slices_Equal__string_string_t3) (R : RT) (x0 : OA) (x0n x0c : Nat) (x1 : OA) (x1n x1c : Nat) (x5 x12 x13 : Int) (I : IMem) (S : SH) : Prop :=
  ptrP x0 fun u0 => (0 : Int) ≤ x5 ∧ x5 < (x0n : Int) ∧
  ∃ u1, Cell I S (u0.add (x5.toNat * 1)) (.string u1) ∧
  ptrP x1 fun u2 => (0 : Int) ≤ x5 ∧ x5 < (x1n : Int) ∧
  ∃ u3, Cell I S (u2.add (x5.toNat * 1)) (.string u3) ∧
  slices_Equal__string_string_b6 g3 R x0 x0n x0c x1 x1n x1c x12 x13 (!(u1.toList == u3.toList)) I S
def slices_Equal__string_string_b4 (g3 : slices_Equal__string_string_t3) (R : RT) (x0 : OA) (x0n x0c : Nat) (x1 : OA) (x1n x1c : Nat) (x12 x13 : Int) (I : IMem) (S : SH) : Prop :=
  slices_Equal__string_string_b5 g3 R x0 x0n x0c x1 x1n x1c x13 x12 x13 I S
def slices_Equal__string_string_b8 (R : RT) (I : IMem) (S : SH) : Prop :=
  R (.bool true) I S
def slices_Equal__string_string_l3 (g3 : slices_Equal__string_string_t3) (R : RT) (x0 : OA) (x0n x0c : Nat) (x1 : OA) (x1n x1c : Nat) (x12 x13 : Int) (I : IMem) (S : SH) : Prop :=
  bcase (decide (x13 < x12))
    (slices_Equal__string_string_b4 g3 R x0 x0n x0c x1 x1n x1c x12 x13 I S)
    (slices_Equal__string_string_b8 R I S)
def slices_Equal__string_string_b2 (R : RT) (x0 : OA) (x0n x0c : Nat) (x1 : OA) (x1n x1c : Nat) (x12 x13 : Int) (I : IMem) (S : SH) : Prop :=
  ∃ (Inv : Nat → slices_Equal__string_string_t3) (m : Nat), Inv m x0 x0n x0c x1 x1n x1c x12 x13 I S ∧
    ∀ (m : Nat) (x0 : OA) (x0n x0c : Nat) (x1 : OA) (x1n x1c : Nat) (x12 x13 : Int) (J : IMem) (T : SH), I.le J → Inv m x0 x0n x0c x1 x1n x1c x12 x13 J T →
      slices_Equal__string_string_l3 (fun x0 x0n x0c x1 x1n x1c x12 x13 I S => ∃ m', m' < m ∧ Inv m' x0 x0n x0c x1 x1n x1c x12 x13 I S) R x0 x0n x0c x1 x1n x1c x12 x13 J T
def slices_Equal__string_string_b1 (R : RT) (x0 : OA) (x0n x0c : Nat) (x1 : OA) (x1n x1c : Nat) (I : IMem) (S : SH) : Prop :=
  slices_Equal__string_string_b2 R x0 x0n x0c x1 x1n x1c (x0n : Int) 0 I S
def slices_Equal__string_string (R : RT) (u0 : OA) (u0n u0c : Nat) (u1 : OA) (u1n u1c : Nat) (I : IMem) (S : SH) : Prop :=
  bcase ((u0n : Int) != (u1n : Int))
    (R (.bool false) I S)
    (slices_Equal__string_string_b1 R u0 u0n u0c u1 u1n u1c I S)
theorem slices_Equal__string_string_fn (R : RT) (u0 : OA) (u0n u0c : Nat) (u1 : OA) (u1n u1c : Nat) (I : IMem) (S : SH) (h : slices_Equal__string_string R u0 u0n u0c u1 u1n u1c I S) : Runs Tryd.prog 74 #[.slice u0 u0n u0c, .slice u1 u1n u1c] I S R := by
  refine Runs.of_wp (c := cd Tryd.f74) Tryd.func74 (by kernel_rfl) (by kernel_rfl) ?_
  refine cO 2 [kL 0, kL 1] (slices_Equal__string_string_b1 R) h fun _ _ _ _ _ _ _ _ _ _ h => ?_
  refine sO [] (slices_Equal__string_string_b8 R) ?_ fun _ _ _ _ h => ?_
  · refine cO 1 [kL 0, kL 1, kI .i64 12, kI .i64 13] (slices_Equal__string_string_b2 R) h fun _ _ _ _ _ _ _ _ _ _ _ _ h => ?_
    refine bK ?_
    obtain ⟨Vg3, mg3, h, hr⟩ := h
    refine lO [kL 0, kL 1, kI .i64 12, kI .i64 13] Vg3 mg3 h fun mg3 _ I S hle x0 x0n x0c x1 x1n x1c x12 x13 h => ?_
    have h := hr mg3 x0 x0n x0c x1 x1n x1c x12 x13 I S hle h
    refine cO 2 [kL 0, kL 1, kI .i64 12, kI .i64 13] (slices_Equal__string_string_b4 (fun x0 x0n x0c x1 x1n x1c x12 x13 I S => ∃ m', m' < mg3 ∧ Vg3 m' x0 x0n x0c x1 x1n x1c x12 x13 I S) R) h fun _ _ _ _ _ _ _ _ _ _ _ _ h => ?_
    refine sO [kL 0, kL 1, kI .i64 12, kI .i64 13] (slices_Equal__string_string_b7 (fun x0 x0n x0c x1 x1n x1c x12 x13 I S => ∃ m', m' < mg3 ∧ Vg3 m' x0 x0n x0c x1 x1n x1c x12 x13 I S) R) ?_ fun _ _ _ _ _ _ _ _ _ _ _ _ h => ?_
    · refine bK ?_
      refine cO 1 [kL 0, kL 1, kI .i64 5, kI .i64 12, kI .i64 13] (slices_Equal__string_string_b5 (fun x0 x0n x0c x1 x1n x1c x12 x13 I S => ∃ m', m' < mg3 ∧ Vg3 m' x0 x0n x0c x1 x1n x1c x12 x13 I S) R) h fun _ _ _ _ _ _ _ _ _ _ _ _ _ h => ?_
      refine sO [kL 0, kL 1, kI .i64 12, kI .i64 13, kB 24] (slices_Equal__string_string_b6 (fun x0 x0n x0c x1 x1n x1c x12 x13 I S => ∃ m', m' < mg3 ∧ Vg3 m' x0 x0n x0c x1 x1n x1c x12 x13 I S) R) (qT h) fun _ _ _ _ _ _ _ _ _ _ _ _ _ h => ?_
      exact pS h
    exact pS h
  exact pS h
def owner_kinds (R : RT) (I : IMem) (S : SH) : Prop :=
  ∀ u0 : Nat,
  MapSt ((u0, .map #[] 0) :: S) (some u0) (.int .i64) (.int .i64 0) (.string ⟨#[114, 112, 122, 45, 99, 108, 105, 101, 110, 116, 45, 105, 112]⟩) fun S1 =>
  MapSt S1 (some u0) (.int .i64) (.int .i64 3) (.string ⟨#[114, 112, 122, 45, 105, 112]⟩) fun S1' =>
  MapSt S1' (some u0) (.int .i64) (.int .i64 4) (.string ⟨#[114, 112, 122, 45, 110, 115, 100, 110, 97, 109, 101]⟩) fun S1'' =>
  MapSt S1'' (some u0) (.int .i64) (.int .i64 6) (.string ⟨#[114, 112, 122, 45, 110, 115, 105, 112]⟩) fun S1_r3 =>
  R (.map (some u0)) I S1_r3
theorem owner_kinds_fn (R : RT) (I : IMem) (S : SH) (h : owner_kinds R I S) : Runs Tryd.prog 37 #[] I S R := by
  refine Runs.of_wp (c := cd Tryd.f37) Tryd.func37 (by kernel_rfl) (by kernel_rfl) ?_
  exact pS h
def owner_named_b6 (R : RT) (x6 : Addr) (x8 : Int) (x9 : ByteArray) (I : IMem) (S : SH) : Prop :=
  StP S x6 [.int .i64 x8, .string x9, .string ⟨#[]⟩, .int .i64 0] fun S1 =>
  ∃ u0, Cell I S1 x6 (.int .i64 u0) ∧
  ∃ u1, Cell I S1 (x6.add 1) (.string u1) ∧
  ∃ u2, Cell I S1 (x6.add 2) (.string u2) ∧
  ∃ u3, Cell I S1 (x6.add 3) (.int .i64 u3) ∧
  R (.tuple #[.agg #[.int .i64 u0, .string u1, .string u2, .int .i64 u3], .bool true]) I S1
def owner_named_b5 (R : RT) (x6 : Addr) (x8 : Int) (x9 : ByteArray) (x40 : Bool) (I : IMem) (S : SH) : Prop :=
  bcase x40
    (StP S x6 [.int .i64 0, .string ⟨#[]⟩, .string ⟨#[]⟩, .int .i64 0] fun S1 =>
    ∃ u0, Cell I S1 x6 (.int .i64 u0) ∧
    ∃ u1, Cell I S1 (x6.add 1) (.string u1) ∧
    ∃ u2, Cell I S1 (x6.add 2) (.string u2) ∧
    ∃ u3, Cell I S1 (x6.add 3) (.int .i64 u3) ∧
    R (.tuple #[.agg #[.int .i64 u0, .string u1, .string u2, .int .i64 u3], .bool false]) I S1)
    (owner_named_b6 R x6 x8 x9 I S)
def owner_named_b4 (R : RT) (x0 : OA) (x0n x0c : Nat) (x1 : Int) (x6 : Addr) (x8 : Int) (x9 : ByteArray) (x10 : Bool) (I : IMem) (S : SH) : Prop :=
  bcase (!x10)
    (owner_named_b5 R x6 x8 x9 true I S)
    (bcase ((x0n : Int) == (0 : Int))
      (owner_named_b5 R x6 x8 x9 (x8 == x1) I S)
      (owner_named_b5 R x6 x8 x9 false I S))
def owner_named_b3 (R : RT) (x0 : OA) (x0n x0c : Nat) (x1 : Int) (x6 : Addr) (x8 : Int) (I : IMem) (S : SH) : Prop :=
  Runs Tryd.prog 15 #[.slice x0 x0n x0c] I S fun v I1 S1 => ∃ u0 u1, v = .tuple #[.string u0, .bool u1] ∧
  owner_named_b4 R x0 x0n x0c x1 x6 x8 u0 u1 I1 S1
def owner_named_b2 (R : RT) (x0 : OA) (x0n x0c : Nat) (x1 x2 : Int) (x6 : Addr) (x8 : Int) (x20 : Bool) (I : IMem) (S : SH) : Prop :=
  bcase x20
    ((0 : Int) ≤ (1 : Int) ∧ (1 : Int) ≤ ((x0n : Nat) : Int) ∧
    owner_named_b3 R (slA x0 x0c ((1 : Int).toNat) 1) (x0n - (1 : Int).toNat) (x0c - (1 : Int).toNat) x1 x6 x2 I S)
    (owner_named_b3 R x0 x0n x0c x1 x6 x8 I S)
def owner_named_b1 (R : RT) (x0 : OA) (x0n x0c : Nat) (x1 x2 : Int) (x6 : Addr) (x8 : Int) (I : IMem) (S : SH) : Prop :=
  bcase (decide ((x0n : Int) > (0 : Int)))
    (ptrP x0 fun u0 => (0 : Int) ≤ (0 : Int) ∧ (0 : Int) < (x0n : Int) ∧
    ∃ u1, Cell I S (u0.add ((0 : Int).toNat * 1)) (.string u1) ∧
    owner_named_b2 R x0 x0n x0c x1 x2 x6 x8 (u1.toList == (⟨#[42]⟩ : ByteArray).toList) I S)
    (owner_named_b2 R x0 x0n x0c x1 x2 x6 x8 false I S)
def owner_named (R : RT) (u0 : OA) (u0n u0c : Nat) (u1 u2 : Int) (I : IMem) (S : SH) : Prop :=
  ∀ b6 : Nat,
  owner_named_b1 R u0 u0n u0c u1 u2 ⟨b6, 0, none⟩ u1 I ((b6, .cells #[.int .i64 0, .string ⟨#[]⟩, .string ⟨#[]⟩, .int .i64 0] 27 (0, 0)) :: S)
theorem owner_named_fn (R : RT) (u0 : OA) (u0n u0c : Nat) (u1 u2 : Int) (I : IMem) (S : SH) (h : owner_named R u0 u0n u0c u1 u2 I S) : Runs Tryd.prog 62 #[.slice u0 u0n u0c, .int .i64 u1, .int .i64 u2] I S R := by
  refine Runs.of_wp (c := cd Tryd.f62) Tryd.func62 (by kernel_rfl) (by kernel_rfl) ?_
  refine cO 2 [kL 0, kI .i64 1, kI .i64 2, kA 6, kI .i64 8] (owner_named_b1 R) h fun _ _ _ _ _ _ _ _ _ _ _ h => ?_
  refine sO [kL 0, kI .i64 1, kA 6, kI .i64 8] (owner_named_b3 R) ?_ fun _ _ _ _ _ _ _ _ _ _ h => ?_
  · refine cO 1 [kL 0, kI .i64 1, kI .i64 2, kA 6, kI .i64 8, kB 20] (owner_named_b2 R) h fun _ _ _ _ _ _ _ _ _ _ _ _ h => ?_
    exact cD h (fun h => qT h) fun h => pS h
  refine cO 1 [kL 0, kI .i64 1, kA 6, kI .i64 8, kS 9, kB 10] (owner_named_b4 R) h fun _ _ _ _ _ _ _ _ _ _ _ _ h => ?_
  refine sO [kA 6, kI .i64 8, kS 9] (owner_named_b6 R) ?_ fun _ _ _ _ _ _ _ h => ?_
  · refine cO 1 [kA 6, kI .i64 8, kS 9, kB 40] (owner_named_b5 R) h fun _ _ _ _ _ _ _ _ h => ?_
    exact pS h
  exact pS h
def owner_hex_b1 (R : RT) (x2 : Int) (x3 : Bool) (I : IMem) (S : SH) : Prop :=
  R (.tuple #[.int .i64 x2, .bool x3]) I S
def owner_hex (R : RT) (u0 : ByteArray) (I : IMem) (S : SH) : Prop :=
  Runs Tryd.prog 95 #[.string u0, .int .i64 16, .int .i64 16] I S fun v I1 S1 => ∃ u1 u2, v = .tuple #[.int .u64 u1, u2] ∧
  ∃ nl, isNilI u2 = some nl ∧
  bcase nl
    (Runs Tryd.prog 96 #[.int .u64 u1, .int .i64 16] I1 S1 fun v' I1' S1' => ∃ u3, v' = .string u3 ∧
    owner_hex_b1 R (IntKind.wrap .i64 u1) (u3.toList == u0.toList) I1' S1')
    (owner_hex_b1 R (IntKind.wrap .i64 u1) false I1 S1)
theorem owner_hex_fn (R : RT) (u0 : ByteArray) (I : IMem) (S : SH) (h : owner_hex R u0 I S) : Runs Tryd.prog 83 #[.string u0] I S R := by
  refine Runs.of_wp (c := cd Tryd.f83) Tryd.func83 (by kernel_rfl) (by kernel_rfl) ?_
  refine cO 3 [kI .i64 2, kB 3] (owner_hex_b1 R) h fun _ _ _ _ _ _ h => ?_
  exact pS h
abbrev slices_Reverse__string_string_t2 := OA → Nat → Nat → Int → Int → PR
def slices_Reverse__string_string_b4 (g2 : slices_Reverse__string_string_t2) (R : RT) (x0 : OA) (x0n x0c : Nat) (x2 x3 : Int) (I : IMem) (S : SH) : Prop :=
  g2 x0 x0n x0c (IntKind.wrap .i64 (x2 + (1 : Int))) (IntKind.wrap .i64 (x3 - (1 : Int))) I S
def slices_Reverse__string_string_b3 (g2 : slices_Reverse__string_string_t2) (R : RT) (x0 : OA) (x0n x0c : Nat) (x2 x3 : Int) (I : IMem) (S : SH) : Prop :=
  ptrP x0 fun u0 => (0 : Int) ≤ x3 ∧ x3 < (x0n : Int) ∧
  ∃ u1, Cell I S (u0.add (x3.toNat * 1)) (.string u1) ∧
  ptrP x0 fun u2 => (0 : Int) ≤ x2 ∧ x2 < (x0n : Int) ∧
  ∃ u3, Cell I S (u2.add (x2.toNat * 1)) (.string u3) ∧
  ptrP x0 fun u4 => (0 : Int) ≤ x2 ∧ x2 < (x0n : Int) ∧
  StP S (u4.add (x2.toNat * 1)) [.string u1] fun S1 =>
  ptrP x0 fun u5 => (0 : Int) ≤ x3 ∧ x3 < (x0n : Int) ∧
  StP S1 (u5.add (x3.toNat * 1)) [.string u3] fun S1' =>
  slices_Reverse__string_string_b4 g2 R x0 x0n x0c x2 x3 I S1'
def slices_Reverse__string_string_l2 (g2 : slices_Reverse__string_string_t2) (R : RT) (x0 : OA) (x0n x0c : Nat) (x2 x3 : Int) (I : IMem) (S : SH) : Prop :=
  bcase (decide (x2 < x3))
    (slices_Reverse__string_string_b3 g2 R x0 x0n x0c x2 x3 I S)
    (R (.tuple #[]) I S)
def slices_Reverse__string_string_b1 (R : RT) (x0 : OA) (x0n x0c : Nat) (x2 x3 : Int) (I : IMem) (S : SH) : Prop :=
  ∃ (Inv : Nat → slices_Reverse__string_string_t2) (m : Nat), Inv m x0 x0n x0c x2 x3 I S ∧
    ∀ (m : Nat) (x0 : OA) (x0n x0c : Nat) (x2 x3 : Int) (J : IMem) (T : SH), I.le J → Inv m x0 x0n x0c x2 x3 J T →
      slices_Reverse__string_string_l2 (fun x0 x0n x0c x2 x3 I S => ∃ m', m' < m ∧ Inv m' x0 x0n x0c x2 x3 I S) R x0 x0n x0c x2 x3 J T
def slices_Reverse__string_string (R : RT) (u0 : OA) (u0n u0c : Nat) (I : IMem) (S : SH) : Prop :=
  slices_Reverse__string_string_b1 R u0 u0n u0c 0 (IntKind.wrap .i64 ((u0n : Int) - (1 : Int))) I S
theorem slices_Reverse__string_string_fn (R : RT) (u0 : OA) (u0n u0c : Nat) (I : IMem) (S : SH) (h : slices_Reverse__string_string R u0 u0n u0c I S) : Runs Tryd.prog 71 #[.slice u0 u0n u0c] I S R := by
  refine Runs.of_wp (c := cd Tryd.f71) Tryd.func71 (by kernel_rfl) (by kernel_rfl) ?_
  refine cO 1 [kL 0, kI .i64 2, kI .i64 3] (slices_Reverse__string_string_b1 R) h fun _ _ _ _ _ _ _ _ _ h => ?_
  refine bK ?_
  obtain ⟨Vg2, mg2, h, hr⟩ := h
  refine lO [kL 0, kI .i64 2, kI .i64 3] Vg2 mg2 h fun mg2 _ I S hle x0 x0n x0c x2 x3 h => ?_
  have h := hr mg2 x0 x0n x0c x2 x3 I S hle h
  refine cO 1 [kL 0, kI .i64 2, kI .i64 3] (slices_Reverse__string_string_b3 (fun x0 x0n x0c x2 x3 I S => ∃ m', m' < mg2 ∧ Vg2 m' x0 x0n x0c x2 x3 I S) R) h fun _ _ _ _ _ _ _ _ _ h => ?_
  refine sO [kL 0, kI .i64 2, kI .i64 3] (slices_Reverse__string_string_b4 (fun x0 x0n x0c x2 x3 I S => ∃ m', m' < mg2 ∧ Vg2 m' x0 x0n x0c x2 x3 I S) R) (bK (dR (tk 13 0 (.step 13 (.take 14 (.step 15 .done)))) [13, 15] h)) fun _ _ _ _ _ _ _ _ _ h => ?_
  exact pS h
def slices_Clone__string_string (R : RT) (u0 : OA) (u0n u0c : Nat) (I : IMem) (S : SH) : Prop :=
  bcase ((u0 : Option Addr).isNone)
    (R (.slice none 0 0) I S)
    (∀ b5 : Nat,
    AppG 9 1 16 [.string ⟨#[]⟩] (some (.slice 9)) I ((b5, .cells #[] 9 (0, 0)) :: S) (.slice (some ⟨b5, 0, none⟩) 0 0) (.slice u0 u0n u0c) fun u1 u1n u1c S1 =>
    R (.slice u1 u1n u1c) I S1)
theorem slices_Clone__string_string_fn (R : RT) (u0 : OA) (u0n u0c : Nat) (I : IMem) (S : SH) (h : slices_Clone__string_string R u0 u0n u0c I S) : Runs Tryd.prog 78 #[.slice u0 u0n u0c] I S R := by
  refine Runs.of_wp (c := cd Tryd.f78) Tryd.func78 (by kernel_rfl) (by kernel_rfl) ?_
  exact pS h
def slices_Contains__string_string (R : RT) (u0 : OA) (u0n u0c : Nat) (u1 : ByteArray) (I : IMem) (S : SH) : Prop :=
  Runs Tryd.prog 80 #[.slice u0 u0n u0c, .string u1] I S fun v I1 S1 => ∃ u2, v = .int .i64 u2 ∧
  R (.bool (decide (u2 ≥ (0 : Int)))) I1 S1
theorem slices_Contains__string_string_fn (R : RT) (u0 : OA) (u0n u0c : Nat) (u1 : ByteArray) (I : IMem) (S : SH) (h : slices_Contains__string_string R u0 u0n u0c u1 I S) : Runs Tryd.prog 79 #[.slice u0 u0n u0c, .string u1] I S R := by
  refine Runs.of_wp (c := cd Tryd.f79) Tryd.func79 (by kernel_rfl) (by kernel_rfl) ?_
  exact pS h
abbrev slices_Index__string_string_t3 := OA → Nat → Nat → ByteArray → Int → Int → PR
def slices_Index__string_string_b4 (R : RT) (I : IMem) (S : SH) : Prop :=
  R (.int .i64 (-1)) I S
def slices_Index__string_string_l3 (g3 : slices_Index__string_string_t3) (R : RT) (x0 : OA) (x0n x0c : Nat) (x1 : ByteArray) (x7 x8 : Int) (I : IMem) (S : SH) : Prop :=
  bcase (decide (x8 < x7))
    (ptrP x0 fun u0 => (0 : Int) ≤ x8 ∧ x8 < (x0n : Int) ∧
    ∃ u1, Cell I S (u0.add (x8.toNat * 1)) (.string u1) ∧
    bcase (x1.toList == u1.toList)
      (R (.int .i64 x8) I S)
      (g3 x0 x0n x0c x1 x7 (IntKind.wrap .i64 (x8 + (1 : Int))) I S))
    (slices_Index__string_string_b4 R I S)
def slices_Index__string_string_b2 (R : RT) (x0 : OA) (x0n x0c : Nat) (x1 : ByteArray) (x7 x8 : Int) (I : IMem) (S : SH) : Prop :=
  ∃ (Inv : Nat → slices_Index__string_string_t3) (m : Nat), Inv m x0 x0n x0c x1 x7 x8 I S ∧
    ∀ (m : Nat) (x0 : OA) (x0n x0c : Nat) (x1 : ByteArray) (x7 x8 : Int) (J : IMem) (T : SH), I.le J → Inv m x0 x0n x0c x1 x7 x8 J T →
      slices_Index__string_string_l3 (fun x0 x0n x0c x1 x7 x8 I S => ∃ m', m' < m ∧ Inv m' x0 x0n x0c x1 x7 x8 I S) R x0 x0n x0c x1 x7 x8 J T
def slices_Index__string_string_b1 (R : RT) (x0 : OA) (x0n x0c : Nat) (x1 : ByteArray) (I : IMem) (S : SH) : Prop :=
  slices_Index__string_string_b2 R x0 x0n x0c x1 (x0n : Int) 0 I S
def slices_Index__string_string (R : RT) (u0 : OA) (u0n u0c : Nat) (u1 : ByteArray) (I : IMem) (S : SH) : Prop :=
  slices_Index__string_string_b1 R u0 u0n u0c u1 I S
theorem slices_Index__string_string_fn (R : RT) (u0 : OA) (u0n u0c : Nat) (u1 : ByteArray) (I : IMem) (S : SH) (h : slices_Index__string_string R u0 u0n u0c u1 I S) : Runs Tryd.prog 80 #[.slice u0 u0n u0c, .string u1] I S R := by
  refine Runs.of_wp (c := cd Tryd.f80) Tryd.func80 (by kernel_rfl) (by kernel_rfl) ?_
  refine cO 1 [kL 0, kS 1] (slices_Index__string_string_b1 R) h fun _ _ _ _ _ _ _ _ h => ?_
  refine sO [] (slices_Index__string_string_b4 R) ?_ fun _ _ _ _ h => ?_
  · refine cO 1 [kL 0, kS 1, kI .i64 7, kI .i64 8] (slices_Index__string_string_b2 R) h fun _ _ _ _ _ _ _ _ _ _ h => ?_
    refine bK ?_
    obtain ⟨Vg3, mg3, h, hr⟩ := h
    refine lO [kL 0, kS 1, kI .i64 7, kI .i64 8] Vg3 mg3 h fun mg3 _ I S hle x0 x0n x0c x1 x7 x8 h => ?_
    have h := hr mg3 x0 x0n x0c x1 x7 x8 I S hle h
    exact pS h
  exact pS h
abbrev slices_Repeat__string_string_t6 := OA → Nat → Nat → Int → PR
def slices_Repeat__string_string_b7 (g6 : slices_Repeat__string_string_t6) (R : RT) (x7 : OA) (x7n x7c : Nat) (x8 : Int) (I : IMem) (S : SH) : Prop :=
  (0 : Int) ≤ x8 ∧ x8 ≤ ((x7n : Nat) : Int) ∧
  (0 : Int) ≤ x8 ∧ x8 ≤ ((x7c : Nat) : Int) ∧
  CpyP 1 I S (.slice (slA x7 x7c x8.toNat 1) (x7n - x8.toNat) (x7c - x8.toNat)) (.slice (slA x7 x7c 0 1) (x8.toNat - 0) (x7c - 0)) fun u0 S1 =>
  g6 x7 x7n x7c (IntKind.wrap .i64 (x8 + (u0 : Int))) I S1
def slices_Repeat__string_string_b8 (R : RT) (x7 : OA) (x7n x7c : Nat) (I : IMem) (S : SH) : Prop :=
  R (.slice x7 x7n x7c) I S
def slices_Repeat__string_string_l6 (g6 : slices_Repeat__string_string_t6) (R : RT) (x7 : OA) (x7n x7c : Nat) (x8 : Int) (I : IMem) (S : SH) : Prop :=
  bcase (decide (x8 < (x7n : Int)))
    (slices_Repeat__string_string_b7 g6 R x7 x7n x7c x8 I S)
    (slices_Repeat__string_string_b8 R x7 x7n x7c I S)
def slices_Repeat__string_string_b5 (R : RT) (x7 : OA) (x7n x7c : Nat) (x8 : Int) (I : IMem) (S : SH) : Prop :=
  ∃ (Inv : Nat → slices_Repeat__string_string_t6) (m : Nat), Inv m x7 x7n x7c x8 I S ∧
    ∀ (m : Nat) (x7 : OA) (x7n x7c : Nat) (x8 : Int) (J : IMem) (T : SH), I.le J → Inv m x7 x7n x7c x8 J T →
      slices_Repeat__string_string_l6 (fun x7 x7n x7c x8 I S => ∃ m', m' < m ∧ Inv m' x7 x7n x7c x8 I S) R x7 x7n x7c x8 J T
def slices_Repeat__string_string_b4 (R : RT) (x0 : OA) (x0n x0c : Nat) (x6 : Int) (I : IMem) (S : SH) : Prop :=
  (0 : Int) ≤ (IntKind.wrap .i64 x6) ∧ (IntKind.wrap .i64 x6) ≤ (IntKind.wrap .i64 x6) ∧ (IntKind.wrap .i64 x6) ≤ 9223372036854775807 ∧ (16 : Int) * (IntKind.wrap .i64 x6) ≤ 281474976710656 ∧ ∀ b30 : Nat,
  CpyP 1 I ((b30, .cells (repV (IntKind.wrap .i64 x6).toNat [.string ⟨#[]⟩]).toArray 9 (0, 0)) :: S) (.slice (some ⟨b30, 0, none⟩) ((IntKind.wrap .i64 x6).toNat) ((IntKind.wrap .i64 x6).toNat)) (.slice x0 x0n x0c) fun u0 S1 =>
  slices_Repeat__string_string_b5 R (some ⟨b30, 0, none⟩) ((IntKind.wrap .i64 x6).toNat) ((IntKind.wrap .i64 x6).toNat) (u0 : Int) I S1
def slices_Repeat__string_string_b3 (R : RT) (x0 : OA) (x0n x0c : Nat) (x6 : Int) (x26 : Bool) (I : IMem) (S : SH) : Prop :=
  bcase x26
    (False)
    (slices_Repeat__string_string_b4 R x0 x0n x0c x6 I S)
def slices_Repeat__string_string_b2 (R : RT) (x0 : OA) (x0n x0c : Nat) (x5 x6 : Int) (I : IMem) (S : SH) : Prop :=
  bcase (decide (x5 > (0 : Int)))
    (slices_Repeat__string_string_b3 R x0 x0n x0c x6 true I S)
    (slices_Repeat__string_string_b3 R x0 x0n x0c x6 (decide (x6 > (9223372036854775807 : Int))) I S)
def slices_Repeat__string_string_b1 (R : RT) (x0 : OA) (x0n x0c : Nat) (x1 : Int) (I : IMem) (S : SH) : Prop :=
  Runs Tryd.prog 90 #[.int .u64 (IntKind.wrap .u64 (x0n : Int)), .int .u64 (IntKind.wrap .u64 x1)] I S fun v I1 S1 => ∃ u0 u1, v = .tuple #[.int .u64 u0, .int .u64 u1] ∧
  slices_Repeat__string_string_b2 R x0 x0n x0c u0 u1 I1 S1
def slices_Repeat__string_string (R : RT) (u0 : OA) (u0n u0c : Nat) (u1 : Int) (I : IMem) (S : SH) : Prop :=
  bcase (decide (u1 < (0 : Int)))
    (False)
    (slices_Repeat__string_string_b1 R u0 u0n u0c u1 I S)
theorem slices_Repeat__string_string_fn (R : RT) (u0 : OA) (u0n u0c : Nat) (u1 : Int) (I : IMem) (S : SH) (h : slices_Repeat__string_string R u0 u0n u0c u1 I S) : Runs Tryd.prog 81 #[.slice u0 u0n u0c, .int .i64 u1] I S R := by
  refine Runs.of_wp (c := cd Tryd.f81) Tryd.func81 (by kernel_rfl) (by kernel_rfl) ?_
  refine cO 2 [kL 0, kI .i64 1] (slices_Repeat__string_string_b1 R) h fun _ _ _ _ _ _ _ _ h => ?_
  refine cO 1 [kL 0, kI .u64 5, kI .u64 6] (slices_Repeat__string_string_b2 R) h fun _ _ _ _ _ _ _ _ _ h => ?_
  refine sO [kL 0, kI .u64 6] (slices_Repeat__string_string_b4 R) ?_ fun _ _ _ _ _ _ _ _ h => ?_
  · refine cO 1 [kL 0, kI .u64 6, kB 26] (slices_Repeat__string_string_b3 R) h fun _ _ _ _ _ _ _ _ _ h => ?_
    exact pS h
  refine cO 2 [kL 7, kI .i64 8] (slices_Repeat__string_string_b5 R) h fun _ _ _ _ _ _ _ _ h => ?_
  refine sO [kL 7] (slices_Repeat__string_string_b8 R) ?_ fun _ _ _ _ _ _ _ h => ?_
  · refine bK ?_
    obtain ⟨Vg6, mg6, h, hr⟩ := h
    refine lO [kL 7, kI .i64 8] Vg6 mg6 h fun mg6 _ I S hle x7 x7n x7c x8 h => ?_
    have h := hr mg6 x7 x7n x7c x8 I S hle h
    refine cO 1 [kL 7, kI .i64 8] (slices_Repeat__string_string_b7 (fun x7 x7n x7c x8 I S => ∃ m', m' < mg6 ∧ Vg6 m' x7 x7n x7c x8 I S) R) h fun _ _ _ _ _ _ _ _ h => ?_
    exact bK (dR (tk 7 0 (.step 7 (.take 8 (.take 9 .done)))) [7] h)
  exact pS h
def slices_Replace__string_string_b3 (R : RT) (x9 : OA) (x9n x9c : Nat) (I : IMem) (S : SH) : Prop :=
  R (.slice x9 x9n x9c) I S
def slices_Replace__string_string_b8 (R : RT) (x11 : OA) (x11n x11c : Nat) (I : IMem) (S : SH) : Prop :=
  R (.slice x11 x11n x11c) I S
def slices_Replace__string_string_b7 (R : RT) (x0 : OA) (x0n x0c : Nat) (x1 x2 : Int) (x3 : OA) (x3n x3c : Nat) (x11 : OA) (x11n x11c : Nat) (I : IMem) (S : SH) : Prop :=
  (0 : Int) ≤ (IntKind.wrap .i64 (x1 + (x3n : Int))) ∧ (IntKind.wrap .i64 (x1 + (x3n : Int))) ≤ ((x11n : Nat) : Int) ∧
  (0 : Int) ≤ x2 ∧ x2 ≤ ((x0n : Nat) : Int) ∧
  CpyP 1 I S (.slice (slA x11 x11c ((IntKind.wrap .i64 (x1 + (x3n : Int))).toNat) 1) (x11n - (IntKind.wrap .i64 (x1 + (x3n : Int))).toNat) (x11c - (IntKind.wrap .i64 (x1 + (x3n : Int))).toNat)) (.slice (slA x0 x0c x2.toNat 1) (x0n - x2.toNat) (x0c - x2.toNat)) fun u0 S1 =>
  slices_Replace__string_string_b8 R x11 x11n x11c I S1
def slices_Replace__string_string_b13 (R : RT) (x0 : OA) (x0n x0c : Nat) (x10 : Int) (x12 : OA) (x12n x12c : Nat) (I : IMem) (S : SH) : Prop :=
  (0 : Int) ≤ x10 ∧ x10 ≤ ((x0n : Nat) : Int) ∧
  ClrP [.string ⟨#[]⟩] S (slA x0 x0c x10.toNat 1) (x0n - x10.toNat) fun S1 =>
  R (.slice x12 x12n x12c) I S1
def slices_Replace__string_string_b12 (R : RT) (x0 : OA) (x0n x0c : Nat) (x1 x2 : Int) (x3 : OA) (x3n x3c : Nat) (x10 : Int) (x12 : OA) (x12n x12c : Nat) (I : IMem) (S : SH) : Prop :=
  (0 : Int) ≤ (IntKind.wrap .i64 (x1 + (x3n : Int))) ∧ (IntKind.wrap .i64 (x1 + (x3n : Int))) ≤ ((x12n : Nat) : Int) ∧
  (0 : Int) ≤ x2 ∧ x2 ≤ ((x0n : Nat) : Int) ∧
  CpyP 1 I S (.slice (slA x12 x12c ((IntKind.wrap .i64 (x1 + (x3n : Int))).toNat) 1) (x12n - (IntKind.wrap .i64 (x1 + (x3n : Int))).toNat) (x12c - (IntKind.wrap .i64 (x1 + (x3n : Int))).toNat)) (.slice (slA x0 x0c x2.toNat 1) (x0n - x2.toNat) (x0c - x2.toNat)) fun u0 S1 =>
  slices_Replace__string_string_b13 R x0 x0n x0c x10 x12 x12n x12c I S1
def slices_Replace__string_string_b16 (R : RT) (x1 : Int) (x3 : OA) (x3n x3c : Nat) (x12 : OA) (x12n x12c : Nat) (I : IMem) (S : SH) : Prop :=
  (0 : Int) ≤ x1 ∧ x1 ≤ ((x12n : Nat) : Int) ∧
  CpyP 1 I S (.slice (slA x12 x12c x1.toNat 1) (x12n - x1.toNat) (x12c - x1.toNat)) (.slice x3 x3n x3c) fun u0 S1 =>
  R (.slice x12 x12n x12c) I S1
def slices_Replace__string_string_b21 (R : RT) (x1 : Int) (x12 : OA) (x12n x12c : Nat) (x13 : Int) (I : IMem) (S : SH) : Prop :=
  (0 : Int) ≤ x1 ∧ x1 ≤ ((x12n : Nat) : Int) ∧
  Runs Tryd.prog 93 #[.slice (slA x12 x12c x1.toNat 1) (x12n - x1.toNat) (x12c - x1.toNat), .int .i64 x13] I S fun v I1 S1 => v = .tuple #[] ∧
  R (.slice x12 x12n x12c) I1 S1
def slices_Replace__string_string_b20 (R : RT) (x0 : OA) (x0n x0c : Nat) (x1 : Int) (x3 : OA) (x3n x3c : Nat) (x12 : OA) (x12n x12c : Nat) (x13 : Int) (I : IMem) (S : SH) : Prop :=
  (0 : Int) ≤ (x0n : Int) ∧ (x0n : Int) ≤ ((x12n : Nat) : Int) ∧
  (0 : Int) ≤ x13 ∧ x13 ≤ ((x3c : Nat) : Int) ∧
  CpyP 1 I S (.slice (slA x12 x12c ((x0n : Int).toNat) 1) (x12n - (x0n : Int).toNat) (x12c - (x0n : Int).toNat)) (.slice (slA x3 x3c 0 1) (x13.toNat - 0) (x3c - 0)) fun u0 S1 =>
  slices_Replace__string_string_b21 R x1 x12 x12n x12c x13 I S1
def slices_Replace__string_string_b25 (R : RT) (x1 : Int) (x12 : OA) (x12n x12c : Nat) (x13 : Int) (I : IMem) (S : SH) : Prop :=
  (0 : Int) ≤ x1 ∧ x1 ≤ ((x12n : Nat) : Int) ∧
  Runs Tryd.prog 93 #[.slice (slA x12 x12c x1.toNat 1) (x12n - x1.toNat) (x12c - x1.toNat), .int .i64 x13] I S fun v I1 S1 => v = .tuple #[] ∧
  R (.slice x12 x12n x12c) I1 S1
def slices_Replace__string_string_b24 (R : RT) (x1 x2 : Int) (x3 : OA) (x3n x3c : Nat) (x12 : OA) (x12n x12c : Nat) (x13 : Int) (I : IMem) (S : SH) : Prop :=
  (0 : Int) ≤ x2 ∧ x2 ≤ ((x12c : Nat) : Int) ∧
  (0 : Int) ≤ x1 ∧ x1 ≤ ((x2.toNat : Nat) : Int) ∧
  (0 : Int) ≤ x13 ∧ x13 ≤ ((x3n : Nat) : Int) ∧
  CpyP 1 I S (.slice (slA x12 x12c x1.toNat 1) (x2.toNat - x1.toNat) (x12c - x1.toNat)) (.slice (slA x3 x3c x13.toNat 1) (x3n - x13.toNat) (x3c - x13.toNat)) fun u0 S1 =>
  slices_Replace__string_string_b25 R x1 x12 x12n x12c x13 I S1
def slices_Replace__string_string_b28 (R : RT) (x12 : OA) (x12n x12c : Nat) (I : IMem) (S : SH) : Prop :=
  R (.slice x12 x12n x12c) I S
def slices_Replace__string_string_b27 (R : RT) (x1 : Int) (x3 : OA) (x3n x3c : Nat) (x12 : OA) (x12n x12c : Nat) (x14 : Int) (I : IMem) (S : SH) : Prop :=
  (0 : Int) ≤ (IntKind.wrap .i64 (x1 + (x3n : Int))) ∧ (IntKind.wrap .i64 (x1 + (x3n : Int))) ≤ ((x12n : Nat) : Int) ∧
  (0 : Int) ≤ (IntKind.wrap .i64 (x1 + x14)) ∧ (IntKind.wrap .i64 (x1 + x14)) ≤ ((x12n : Nat) : Int) ∧
  CpyP 1 I S (.slice (slA x12 x12c ((IntKind.wrap .i64 (x1 + (x3n : Int))).toNat) 1) (x12n - (IntKind.wrap .i64 (x1 + (x3n : Int))).toNat) (x12c - (IntKind.wrap .i64 (x1 + (x3n : Int))).toNat)) (.slice (slA x12 x12c ((IntKind.wrap .i64 (x1 + x14)).toNat) 1) (x12n - (IntKind.wrap .i64 (x1 + x14)).toNat) (x12c - (IntKind.wrap .i64 (x1 + x14)).toNat)) fun u0 S1 =>
  slices_Replace__string_string_b28 R x12 x12n x12c I S1
def slices_Replace__string_string_b26 (R : RT) (x0 : OA) (x0n x0c : Nat) (x1 x2 : Int) (x3 : OA) (x3n x3c : Nat) (x12 : OA) (x12n x12c : Nat) (I : IMem) (S : SH) : Prop :=
  (0 : Int) ≤ x2 ∧ x2 ≤ ((x0n : Nat) : Int) ∧
  Runs Tryd.prog 94 #[.slice x3 x3n x3c, .slice (slA x0 x0c x2.toNat 1) (x0n - x2.toNat) (x0c - x2.toNat)] I S fun v I1 S1 => ∃ u0, v = .int .i64 u0 ∧
  (0 : Int) ≤ x1 ∧ x1 ≤ ((x12n : Nat) : Int) ∧
  CpyP 1 I1 S1 (.slice (slA x12 x12c x1.toNat 1) (x12n - x1.toNat) (x12c - x1.toNat)) (.slice x3 x3n x3c) fun u1 S1' =>
  slices_Replace__string_string_b27 R x1 x3 x3n x3c x12 x12n x12c u0 I1 S1'
def slices_Replace__string_string_b23 (R : RT) (x0 : OA) (x0n x0c : Nat) (x1 x2 : Int) (x3 : OA) (x3n x3c : Nat) (x12 : OA) (x12n x12c : Nat) (x13 : Int) (x178 : Bool) (I : IMem) (S : SH) : Prop :=
  bcase x178
    ((0 : Int) ≤ (x0n : Int) ∧ (x0n : Int) ≤ ((x12n : Nat) : Int) ∧
    (0 : Int) ≤ x13 ∧ x13 ≤ ((x3c : Nat) : Int) ∧
    CpyP 1 I S (.slice (slA x12 x12c ((x0n : Int).toNat) 1) (x12n - (x0n : Int).toNat) (x12c - (x0n : Int).toNat)) (.slice (slA x3 x3c 0 1) (x13.toNat - 0) (x3c - 0)) fun u0 S1 =>
    slices_Replace__string_string_b24 R x1 x2 x3 x3n x3c x12 x12n x12c x13 I S1)
    (slices_Replace__string_string_b26 R x0 x0n x0c x1 x2 x3 x3n x3c x12 x12n x12c I S)
def slices_Replace__string_string_b22 (R : RT) (x0 : OA) (x0n x0c : Nat) (x1 x2 : Int) (x3 : OA) (x3n x3c : Nat) (x12 : OA) (x12n x12c : Nat) (x13 : Int) (I : IMem) (S : SH) : Prop :=
  (0 : Int) ≤ (x0n : Int) ∧ (x0n : Int) ≤ ((x12n : Nat) : Int) ∧
  RunsX Tryd.prog 92 #[.slice (slA x12 x12c ((x0n : Int).toNat) 1) (x12n - (x0n : Int).toNat) (x12c - (x0n : Int).toNat), .slice x3 x3n x3c] I S fun v I1 S1 => ∃ u0, v = .bool u0 ∧
  slices_Replace__string_string_b23 R x0 x0n x0c x1 x2 x3 x3n x3c x12 x12n x12c x13 (!u0) I1 S1
def slices_Replace__string_string_b19 (R : RT) (x0 : OA) (x0n x0c : Nat) (x1 x2 : Int) (x3 : OA) (x3n x3c : Nat) (x12 : OA) (x12n x12c : Nat) (x13 : Int) (x149 : Bool) (I : IMem) (S : SH) : Prop :=
  bcase x149
    ((0 : Int) ≤ x2 ∧ x2 ≤ ((x12c : Nat) : Int) ∧
    (0 : Int) ≤ x1 ∧ x1 ≤ ((x2.toNat : Nat) : Int) ∧
    (0 : Int) ≤ x13 ∧ x13 ≤ ((x3n : Nat) : Int) ∧
    CpyP 1 I S (.slice (slA x12 x12c x1.toNat 1) (x2.toNat - x1.toNat) (x12c - x1.toNat)) (.slice (slA x3 x3c x13.toNat 1) (x3n - x13.toNat) (x3c - x13.toNat)) fun u0 S1 =>
    slices_Replace__string_string_b20 R x0 x0n x0c x1 x3 x3n x3c x12 x12n x12c x13 I S1)
    (slices_Replace__string_string_b22 R x0 x0n x0c x1 x2 x3 x3n x3c x12 x12n x12c x13 I S)
def slices_Replace__string_string_b18 (R : RT) (x0 : OA) (x0n x0c : Nat) (x1 x2 : Int) (x3 : OA) (x3n x3c : Nat) (x12 : OA) (x12n x12c : Nat) (x13 : Int) (I : IMem) (S : SH) : Prop :=
  (0 : Int) ≤ x2 ∧ x2 ≤ ((x12c : Nat) : Int) ∧
  (0 : Int) ≤ x1 ∧ x1 ≤ ((x2.toNat : Nat) : Int) ∧
  RunsX Tryd.prog 92 #[.slice (slA x12 x12c x1.toNat 1) (x2.toNat - x1.toNat) (x12c - x1.toNat), .slice x3 x3n x3c] I S fun v I1 S1 => ∃ u0, v = .bool u0 ∧
  slices_Replace__string_string_b19 R x0 x0n x0c x1 x2 x3 x3n x3c x12 x12n x12c x13 (!u0) I1 S1
def slices_Replace__string_string_b17 (R : RT) (x0 : OA) (x0n x0c : Nat) (x1 x2 : Int) (x3 : OA) (x3n x3c : Nat) (x12 : OA) (x12n x12c : Nat) (I : IMem) (S : SH) : Prop :=
  slices_Replace__string_string_b18 R x0 x0n x0c x1 x2 x3 x3n x3c x12 x12n x12c (IntKind.wrap .i64 ((x3n : Int) - (IntKind.wrap .i64 (x2 - x1)))) I S
def slices_Replace__string_string_b15 (R : RT) (x0 : OA) (x0n x0c : Nat) (x1 x2 : Int) (x3 : OA) (x3n x3c : Nat) (x12 : OA) (x12n x12c : Nat) (x120 : Bool) (I : IMem) (S : SH) : Prop :=
  bcase x120
    ((0 : Int) ≤ (IntKind.wrap .i64 (x1 + (x3n : Int))) ∧ (IntKind.wrap .i64 (x1 + (x3n : Int))) ≤ ((x12n : Nat) : Int) ∧
    (0 : Int) ≤ x2 ∧ x2 ≤ ((x0n : Nat) : Int) ∧
    CpyP 1 I S (.slice (slA x12 x12c ((IntKind.wrap .i64 (x1 + (x3n : Int))).toNat) 1) (x12n - (IntKind.wrap .i64 (x1 + (x3n : Int))).toNat) (x12c - (IntKind.wrap .i64 (x1 + (x3n : Int))).toNat)) (.slice (slA x0 x0c x2.toNat 1) (x0n - x2.toNat) (x0c - x2.toNat)) fun u0 S1 =>
    slices_Replace__string_string_b16 R x1 x3 x3n x3c x12 x12n x12c I S1)
    (slices_Replace__string_string_b17 R x0 x0n x0c x1 x2 x3 x3n x3c x12 x12n x12c I S)
def slices_Replace__string_string_b14 (R : RT) (x0 : OA) (x0n x0c : Nat) (x1 x2 : Int) (x3 : OA) (x3n x3c : Nat) (x12 : OA) (x12n x12c : Nat) (I : IMem) (S : SH) : Prop :=
  (0 : Int) ≤ (IntKind.wrap .i64 (x1 + (x3n : Int))) ∧ (IntKind.wrap .i64 (x1 + (x3n : Int))) ≤ ((x12n : Nat) : Int) ∧
  RunsX Tryd.prog 92 #[.slice (slA x12 x12c ((IntKind.wrap .i64 (x1 + (x3n : Int))).toNat) 1) (x12n - (IntKind.wrap .i64 (x1 + (x3n : Int))).toNat) (x12c - (IntKind.wrap .i64 (x1 + (x3n : Int))).toNat), .slice x3 x3n x3c] I S fun v I1 S1 => ∃ u0, v = .bool u0 ∧
  slices_Replace__string_string_b15 R x0 x0n x0c x1 x2 x3 x3n x3c x12 x12n x12c (!u0) I1 S1
def slices_Replace__string_string_b11 (R : RT) (x0 : OA) (x0n x0c : Nat) (x1 x2 : Int) (x3 : OA) (x3n x3c : Nat) (x10 : Int) (x12 : OA) (x12n x12c : Nat) (x92 : Bool) (I : IMem) (S : SH) : Prop :=
  bcase x92
    ((0 : Int) ≤ x1 ∧ x1 ≤ ((x12n : Nat) : Int) ∧
    CpyP 1 I S (.slice (slA x12 x12c x1.toNat 1) (x12n - x1.toNat) (x12c - x1.toNat)) (.slice x3 x3n x3c) fun u0 S1 =>
    slices_Replace__string_string_b12 R x0 x0n x0c x1 x2 x3 x3n x3c x10 x12 x12n x12c I S1)
    (slices_Replace__string_string_b14 R x0 x0n x0c x1 x2 x3 x3n x3c x12 x12n x12c I S)
def slices_Replace__string_string_b10 (R : RT) (x0 : OA) (x0n x0c : Nat) (x1 x2 : Int) (x3 : OA) (x3n x3c : Nat) (x10 : Int) (x12 : OA) (x12n x12c : Nat) (I : IMem) (S : SH) : Prop :=
  slices_Replace__string_string_b11 R x0 x0n x0c x1 x2 x3 x3n x3c x10 x12 x12n x12c (decide ((IntKind.wrap .i64 (x1 + (x3n : Int))) ≤ x2)) I S
def slices_Replace__string_string_b9 (R : RT) (x0 : OA) (x0n x0c : Nat) (x1 x2 : Int) (x3 : OA) (x3n x3c : Nat) (x10 : Int) (I : IMem) (S : SH) : Prop :=
  (0 : Int) ≤ x10 ∧ x10 ≤ ((x0c : Nat) : Int) ∧
  slices_Replace__string_string_b10 R x0 x0n x0c x1 x2 x3 x3n x3c x10 (slA x0 x0c 0 1) (x10.toNat - 0) (x0c - 0) I S
def slices_Replace__string_string_b6 (R : RT) (x0 : OA) (x0n x0c : Nat) (x1 x2 : Int) (x3 : OA) (x3n x3c : Nat) (x10 : Int) (x60 : Bool) (I : IMem) (S : SH) : Prop :=
  bcase x60
    ((0 : Int) ≤ x1 ∧ x1 ≤ ((x0c : Nat) : Int) ∧
    AppG 9 1 16 [.string ⟨#[]⟩] (some (.int .i64)) I S (.slice (slA x0 x0c 0 1) (x1.toNat - 0) (x0c - 0)) (.int .i64 (IntKind.wrap .i64 (x10 - x1))) fun u0 u0n u0c S1 =>
    (0 : Int) ≤ x1 ∧ x1 ≤ ((u0n : Nat) : Int) ∧
    CpyP 1 I S1 (.slice (slA u0 u0c x1.toNat 1) (u0n - x1.toNat) (u0c - x1.toNat)) (.slice x3 x3n x3c) fun u1 S1' =>
    slices_Replace__string_string_b7 R x0 x0n x0c x1 x2 x3 x3n x3c u0 u0n u0c I S1')
    (slices_Replace__string_string_b9 R x0 x0n x0c x1 x2 x3 x3n x3c x10 I S)
def slices_Replace__string_string_b5 (R : RT) (x0 : OA) (x0n x0c : Nat) (x1 x2 : Int) (x3 : OA) (x3n x3c : Nat) (x10 : Int) (I : IMem) (S : SH) : Prop :=
  slices_Replace__string_string_b6 R x0 x0n x0c x1 x2 x3 x3n x3c x10 (decide (x10 > (x0c : Int))) I S
def slices_Replace__string_string_b4 (R : RT) (x0 : OA) (x0n x0c : Nat) (x1 x2 : Int) (x3 : OA) (x3n x3c : Nat) (I : IMem) (S : SH) : Prop :=
  (0 : Int) ≤ x1 ∧ x1 ≤ ((x0c : Nat) : Int) ∧
  (0 : Int) ≤ x2 ∧ x2 ≤ ((x0n : Nat) : Int) ∧
  slices_Replace__string_string_b5 R x0 x0n x0c x1 x2 x3 x3n x3c (IntKind.wrap .i64 ((IntKind.wrap .i64 ((((x1.toNat - 0) : Nat) : Int) + (x3n : Int))) + (((x0n - x2.toNat) : Nat) : Int))) I S
def slices_Replace__string_string_b2 (R : RT) (x0 : OA) (x0n x0c : Nat) (x1 x2 : Int) (x3 : OA) (x3n x3c : Nat) (x29 : Bool) (I : IMem) (S : SH) : Prop :=
  bcase x29
    ((0 : Int) ≤ x1 ∧ x1 ≤ ((x0c : Nat) : Int) ∧
    AppG 9 1 16 [.string ⟨#[]⟩] (some (.slice 9)) I S (.slice (slA x0 x0c 0 1) (x1.toNat - 0) (x0c - 0)) (.slice x3 x3n x3c) fun u0 u0n u0c S1 =>
    bcase (decide ((u0n : Int) < (x0n : Int)))
      ((0 : Int) ≤ (u0n : Int) ∧ (u0n : Int) ≤ ((x0n : Nat) : Int) ∧
      ClrP [.string ⟨#[]⟩] S1 (slA x0 x0c ((u0n : Int).toNat) 1) (x0n - (u0n : Int).toNat) fun S1' =>
      slices_Replace__string_string_b3 R u0 u0n u0c I S1')
      (slices_Replace__string_string_b3 R u0 u0n u0c I S1))
    (slices_Replace__string_string_b4 R x0 x0n x0c x1 x2 x3 x3n x3c I S)
def slices_Replace__string_string_b1 (R : RT) (x0 : OA) (x0n x0c : Nat) (x1 x2 : Int) (x3 : OA) (x3n x3c : Nat) (I : IMem) (S : SH) : Prop :=
  slices_Replace__string_string_b2 R x0 x0n x0c x1 x2 x3 x3n x3c (x2 == (x0n : Int)) I S
def slices_Replace__string_string (R : RT) (u0 : OA) (u0n u0c : Nat) (u1 u2 : Int) (u3 : OA) (u3n u3c : Nat) (I : IMem) (S : SH) : Prop :=
  (0 : Int) ≤ u2 ∧ u2 ≤ ((u0c : Nat) : Int) ∧
  (0 : Int) ≤ u1 ∧ u1 ≤ ((u2.toNat : Nat) : Int) ∧
  bcase (u1 == u2)
    (Runs Tryd.prog 91 #[.slice u0 u0n u0c, .int .i64 u1, .slice u3 u3n u3c] I S fun v I1 S1 => ∃ u4 u4n u4c, v = .slice u4 u4n u4c ∧
    R (.slice u4 u4n u4c) I1 S1)
    (slices_Replace__string_string_b1 R u0 u0n u0c u1 u2 u3 u3n u3c I S)
theorem slices_Replace__string_string_fn (R : RT) (u0 : OA) (u0n u0c : Nat) (u1 u2 : Int) (u3 : OA) (u3n u3c : Nat) (I : IMem) (S : SH) (h : slices_Replace__string_string R u0 u0n u0c u1 u2 u3 u3n u3c I S) : Runs Tryd.prog 82 #[.slice u0 u0n u0c, .int .i64 u1, .int .i64 u2, .slice u3 u3n u3c] I S R := by
  refine Runs.of_wp (c := cd Tryd.f82) Tryd.func82 (by kernel_rfl) (by kernel_rfl) ?_
  refine cO 3 [kL 0, kI .i64 1, kI .i64 2, kL 3] (slices_Replace__string_string_b1 R) h fun _ _ _ _ _ _ _ _ _ _ _ _ h => ?_
  refine sO [kL 0, kI .i64 1, kI .i64 2, kL 3] (slices_Replace__string_string_b4 R) ?_ fun _ _ _ _ _ _ _ _ _ _ _ _ h => ?_
  · refine cO 1 [kL 0, kI .i64 1, kI .i64 2, kL 3, kB 29] (slices_Replace__string_string_b2 R) h fun _ _ _ _ _ _ _ _ _ _ _ _ _ h => ?_
    refine cD h (fun h => ?_) fun h => pS h
    refine cO 2 [kL 9] (slices_Replace__string_string_b3 R) h fun _ _ _ _ _ _ _ h => ?_
    exact pS h
  refine sO [kL 0, kI .i64 1, kI .i64 2, kL 3, kI .i64 10] (slices_Replace__string_string_b5 R) (qT h) fun _ _ _ _ _ _ _ _ _ _ _ _ _ h => ?_
  refine sO [kL 0, kI .i64 1, kI .i64 2, kL 3, kI .i64 10] (slices_Replace__string_string_b9 R) ?_ fun _ _ _ _ _ _ _ _ _ _ _ _ _ h => ?_
  · refine cO 1 [kL 0, kI .i64 1, kI .i64 2, kL 3, kI .i64 10, kB 60] (slices_Replace__string_string_b6 R) h fun _ _ _ _ _ _ _ _ _ _ _ _ _ _ h => ?_
    refine cD h (fun h => ?_) fun h => pS h
    refine cO 2 [kL 0, kI .i64 1, kI .i64 2, kL 3, kL 11] (slices_Replace__string_string_b7 R) h fun _ _ _ _ _ _ _ _ _ _ _ _ _ _ _ h => ?_
    refine sO [kL 11] (slices_Replace__string_string_b8 R) (dR (tk 9 0 (.step 9 .done)) [9] h) fun _ _ _ _ _ _ _ h => ?_
    exact pS h
  refine cO 1 [kL 0, kI .i64 1, kI .i64 2, kL 3, kI .i64 10, kL 12] (slices_Replace__string_string_b10 R) h fun _ _ _ _ _ _ _ _ _ _ _ _ _ _ _ _ h => ?_
  refine sO [kL 0, kI .i64 1, kI .i64 2, kL 3, kL 12] (slices_Replace__string_string_b14 R) ?_ fun _ _ _ _ _ _ _ _ _ _ _ _ _ _ _ h => ?_
  · refine cO 1 [kL 0, kI .i64 1, kI .i64 2, kL 3, kI .i64 10, kL 12, kB 92] (slices_Replace__string_string_b11 R) h fun _ _ _ _ _ _ _ _ _ _ _ _ _ _ _ _ _ h => ?_
    refine cD h (fun h => ?_) fun h => pS h
    refine cO 1 [kL 0, kI .i64 1, kI .i64 2, kL 3, kI .i64 10, kL 12] (slices_Replace__string_string_b12 R) h fun _ _ _ _ _ _ _ _ _ _ _ _ _ _ _ _ h => ?_
    refine sO [kL 0, kI .i64 10, kL 12] (slices_Replace__string_string_b13 R) (dR (tk 9 0 (.step 9 .done)) [9] h) fun _ _ _ _ _ _ _ _ _ _ _ h => ?_
    exact pS h
  refine sO [kL 0, kI .i64 1, kI .i64 2, kL 3, kL 12] (slices_Replace__string_string_b17 R) ?_ fun _ _ _ _ _ _ _ _ _ _ _ _ _ _ _ h => ?_
  · refine cO 1 [kL 0, kI .i64 1, kI .i64 2, kL 3, kL 12, kB 120] (slices_Replace__string_string_b15 R) h fun _ _ _ _ _ _ _ _ _ _ _ _ _ _ _ _ h => ?_
    refine cD h (fun h => ?_) fun h => pS h
    refine sO [kI .i64 1, kL 3, kL 12] (slices_Replace__string_string_b16 R) (dR (tk 9 0 (.step 9 .done)) [9] h) fun _ _ _ _ _ _ _ _ _ _ _ h => ?_
    exact pS h
  refine cO 1 [kL 0, kI .i64 1, kI .i64 2, kL 3, kL 12, kI .i64 13] (slices_Replace__string_string_b18 R) h fun _ _ _ _ _ _ _ _ _ _ _ _ _ _ _ _ h => ?_
  refine sO [kL 0, kI .i64 1, kI .i64 2, kL 3, kL 12, kI .i64 13] (slices_Replace__string_string_b22 R) ?_ fun _ _ _ _ _ _ _ _ _ _ _ _ _ _ _ _ h => ?_
  · refine cO 1 [kL 0, kI .i64 1, kI .i64 2, kL 3, kL 12, kI .i64 13, kB 149] (slices_Replace__string_string_b19 R) h fun _ _ _ _ _ _ _ _ _ _ _ _ _ _ _ _ _ h => ?_
    refine cD h (fun h => ?_) fun h => pS h
    refine sO [kL 0, kI .i64 1, kL 3, kL 12, kI .i64 13] (slices_Replace__string_string_b20 R) (dR (tk 7 0 (.step 7 .done)) [7] h) fun _ _ _ _ _ _ _ _ _ _ _ _ _ _ _ h => ?_
    refine sO [kI .i64 1, kL 12, kI .i64 13] (slices_Replace__string_string_b21 R) (dR (tk 7 0 (.step 7 .done)) [7] h) fun _ _ _ _ _ _ _ _ _ h => ?_
    exact pS h
  refine sO [kL 0, kI .i64 1, kI .i64 2, kL 3, kL 12] (slices_Replace__string_string_b26 R) ?_ fun _ _ _ _ _ _ _ _ _ _ _ _ _ _ _ h => ?_
  · refine cO 1 [kL 0, kI .i64 1, kI .i64 2, kL 3, kL 12, kI .i64 13, kB 178] (slices_Replace__string_string_b23 R) h fun _ _ _ _ _ _ _ _ _ _ _ _ _ _ _ _ _ h => ?_
    refine cD h (fun h => ?_) fun h => pS h
    refine sO [kI .i64 1, kI .i64 2, kL 3, kL 12, kI .i64 13] (slices_Replace__string_string_b24 R) (dR (tk 7 0 (.step 7 .done)) [7] h) fun _ _ _ _ _ _ _ _ _ _ _ _ _ h => ?_
    refine sO [kI .i64 1, kL 12, kI .i64 13] (slices_Replace__string_string_b25 R) (dR (tk 7 0 (.step 7 .done)) [7] h) fun _ _ _ _ _ _ _ _ _ h => ?_
    exact pS h
  refine cO 2 [kI .i64 1, kL 3, kL 12, kI .i64 14] (slices_Replace__string_string_b27 R) h fun _ _ _ _ _ _ _ _ _ _ _ _ h => ?_
  refine sO [kL 12] (slices_Replace__string_string_b28 R) (dR (tk 11 0 (.step 11 .done)) [11] h) fun _ _ _ _ _ _ _ h => ?_
  exact pS h
abbrev owner_Decode_t6 := Addr → OA → Nat → Nat → ByteArray → OA → Nat → Nat → Addr → PR
def owner_Decode_b7 (R : RT) (x2 : Addr) (x4 : OA) (x4n x4c : Nat) (I : IMem) (S : SH) : Prop :=
  Runs Tryd.prog 62 #[.slice x4 x4n x4c, .int .i64 1, .int .i64 2] I S fun v I1 S1 => ∃ u0 u1 u2 u3 u4, v = .tuple #[.agg #[.int .i64 u0, .string u1, .string u2, .int .i64 u3], .bool u4] ∧
  StP S1 x2 [.int .i64 u0, .string u1, .string u2, .int .i64 u3] fun S1' =>
  ∃ u5, Cell I1 S1' x2 (.int .i64 u5) ∧
  ∃ u6, Cell I1 S1' (x2.add 1) (.string u6) ∧
  ∃ u7, Cell I1 S1' (x2.add 2) (.string u7) ∧
  ∃ u8, Cell I1 S1' (x2.add 3) (.int .i64 u8) ∧
  R (.tuple #[.agg #[.int .i64 u5, .string u6, .string u7, .int .i64 u8], .bool u4]) I1 S1'
def owner_Decode_b9 (g6 : owner_Decode_t6) (R : RT) (x2 : Addr) (x4 : OA) (x4n x4c : Nat) (x6 : ByteArray) (x7 : OA) (x7n x7c : Nat) (x8 : Int) (x9 : ByteArray) (x37 : Addr) (I : IMem) (S : SH) : Prop :=
  bcase (!(x9.toList == x6.toList))
    (g6 x2 x4 x4n x4c x6 x7 x7n x7c x37 I S)
    (bcase (x8 == (4 : Int))
      (Runs Tryd.prog 62 #[.slice x7 x7n x7c, .int .i64 4, .int .i64 5] I S fun v I1 S1 => ∃ u0 u1 u2 u3 u4, v = .tuple #[.agg #[.int .i64 u0, .string u1, .string u2, .int .i64 u3], .bool u4] ∧
      StP S1 x2 [.int .i64 u0, .string u1, .string u2, .int .i64 u3] fun S1' =>
      ∃ u5, Cell I1 S1' x2 (.int .i64 u5) ∧
      ∃ u6, Cell I1 S1' (x2.add 1) (.string u6) ∧
      ∃ u7, Cell I1 S1' (x2.add 2) (.string u7) ∧
      ∃ u8, Cell I1 S1' (x2.add 3) (.int .i64 u8) ∧
      R (.tuple #[.agg #[.int .i64 u5, .string u6, .string u7, .int .i64 u8], .bool u4]) I1 S1')
      (Runs Tryd.prog 63 #[.slice x7 x7n x7c] I S fun v' I1' S1'' => ∃ u9 ua ub, v' = .tuple #[.agg #[.string u9, .int .i64 ua], .bool ub] ∧
      ∀ b10 : Nat,
      StP ((b10, .cells #[.string ⟨#[]⟩, .int .i64 0] 25 (0, 0)) :: S1'') ⟨b10, 0, none⟩ [.string u9, .int .i64 ua] fun S1_r3 =>
      bcase (!ub)
        (StP S1_r3 x2 [.int .i64 0, .string ⟨#[]⟩, .string ⟨#[]⟩, .int .i64 0] fun S1_r4 =>
        ∃ uc, Cell I1' S1_r4 x2 (.int .i64 uc) ∧
        ∃ ud, Cell I1' S1_r4 (x2.add 1) (.string ud) ∧
        ∃ ue, Cell I1' S1_r4 (x2.add 2) (.string ue) ∧
        ∃ uf, Cell I1' S1_r4 (x2.add 3) (.int .i64 uf) ∧
        R (.tuple #[.agg #[.int .i64 uc, .string ud, .string ue, .int .i64 uf], .bool false]) I1' S1_r4)
        (∃ ug, Cell I1' S1_r3 ⟨b10, 0, none⟩ (.string ug) ∧
        ∃ uh, Cell I1' S1_r3 ⟨b10, 1, none⟩ (.int .i64 uh) ∧
        StP S1_r3 x2 [.int .i64 x8, .string ⟨#[]⟩, .string ug, .int .i64 uh] fun S1_r5 =>
        ∃ ui, Cell I1' S1_r5 x2 (.int .i64 ui) ∧
        ∃ uj, Cell I1' S1_r5 (x2.add 1) (.string uj) ∧
        ∃ uk, Cell I1' S1_r5 (x2.add 2) (.string uk) ∧
        ∃ ul, Cell I1' S1_r5 (x2.add 3) (.int .i64 ul) ∧
        R (.tuple #[.agg #[.int .i64 ui, .string uj, .string uk, .int .i64 ul], .bool true]) I1' S1_r5)))
def owner_Decode_b8 (g6 : owner_Decode_t6) (R : RT) (x2 : Addr) (x4 : OA) (x4n x4c : Nat) (x6 : ByteArray) (x7 : OA) (x7n x7c : Nat) (x37 : Addr) (I : IMem) (S : SH) : Prop :=
  EnP I S x37 fun u0 u1 =>
  asI .i64 u0 fun u2 => asStr u1 fun u3 => owner_Decode_b9 g6 R x2 x4 x4n x4c x6 x7 x7n x7c u2 u3 x37 I S
def owner_Decode_l6 (g6 : owner_Decode_t6) (R : RT) (x2 : Addr) (x4 : OA) (x4n x4c : Nat) (x6 : ByteArray) (x7 : OA) (x7n x7c : Nat) (x37 : Addr) (I : IMem) (S : SH) : Prop :=
  NxP I S x37 (owner_Decode_b7 R x2 x4 x4n x4c I S) fun u0 u1 S1 =>
  owner_Decode_b8 g6 R x2 x4 x4n x4c x6 x7 x7n x7c x37 I S1
def owner_Decode_b5 (R : RT) (x2 : Addr) (x4 : OA) (x4n x4c : Nat) (x6 : ByteArray) (x7 : OA) (x7n x7c : Nat) (x37 : Addr) (I : IMem) (S : SH) : Prop :=
  ∃ (Inv : Nat → owner_Decode_t6) (m : Nat), Inv m x2 x4 x4n x4c x6 x7 x7n x7c x37 I S ∧
    ∀ (m : Nat) (x2 : Addr) (x4 : OA) (x4n x4c : Nat) (x6 : ByteArray) (x7 : OA) (x7n x7c : Nat) (x37 : Addr) (J : IMem) (T : SH), I.le J → Inv m x2 x4 x4n x4c x6 x7 x7n x7c x37 J T →
      owner_Decode_l6 (fun x2 x4 x4n x4c x6 x7 x7n x7c x37 I S => ∃ m', m' < m ∧ Inv m' x2 x4 x4n x4c x6 x7 x7n x7c x37 I S) R x2 x4 x4n x4c x6 x7 x7n x7c x37 J T
def owner_Decode_b4 (R : RT) (x2 : Addr) (x4 : OA) (x4n x4c : Nat) (x6 : ByteArray) (x7 : OA) (x7n x7c : Nat) (I : IMem) (S : SH) : Prop :=
  Runs Tryd.prog 37 #[] I S fun v I1 S1 => ∃ u0, v = .map u0 ∧
  mapP u0 fun m => ∃ es ck, MpC I1 S1 m es ck ∧ ∀ b37 : Nat,
  owner_Decode_b5 R x2 x4 x4n x4c x6 x7 x7n x7c ⟨b37, 0, none⟩ I1 ((b37, .mapIter (some m) ck #[] ck) :: S1)
def owner_Decode_b3 (R : RT) (x2 : Addr) (x4 : OA) (x4n x4c : Nat) (I : IMem) (S : SH) : Prop :=
  ptrP x4 fun u0 => (0 : Int) ≤ (IntKind.wrap .i64 ((x4n : Int) - (1 : Int))) ∧ (IntKind.wrap .i64 ((x4n : Int) - (1 : Int))) < (x4n : Int) ∧
  ∃ u1, Cell I S (u0.add ((IntKind.wrap .i64 ((x4n : Int) - (1 : Int))).toNat * 1)) (.string u1) ∧
  (0 : Int) ≤ (IntKind.wrap .i64 ((x4n : Int) - (1 : Int))) ∧ (IntKind.wrap .i64 ((x4n : Int) - (1 : Int))) ≤ ((x4c : Nat) : Int) ∧
  owner_Decode_b4 R x2 x4 x4n x4c u1 (slA x4 x4c 0 1) ((IntKind.wrap .i64 ((x4n : Int) - (1 : Int))).toNat - 0) (x4c - 0) I S
def owner_Decode_b2 (R : RT) (x2 : Addr) (x4 : OA) (x4n x4c : Nat) (x23 : Bool) (I : IMem) (S : SH) : Prop :=
  bcase x23
    (StP S x2 [.int .i64 0, .string ⟨#[]⟩, .string ⟨#[]⟩, .int .i64 0] fun S1 =>
    ∃ u0, Cell I S1 x2 (.int .i64 u0) ∧
    ∃ u1, Cell I S1 (x2.add 1) (.string u1) ∧
    ∃ u2, Cell I S1 (x2.add 2) (.string u2) ∧
    ∃ u3, Cell I S1 (x2.add 3) (.int .i64 u3) ∧
    R (.tuple #[.agg #[.int .i64 u0, .string u1, .string u2, .int .i64 u3], .bool false]) I S1)
    (owner_Decode_b3 R x2 x4 x4n x4c I S)
def owner_Decode_b1 (R : RT) (x2 : Addr) (x4 : OA) (x4n x4c : Nat) (x5 : Bool) (I : IMem) (S : SH) : Prop :=
  bcase (!x5)
    (owner_Decode_b2 R x2 x4 x4n x4c true I S)
    (owner_Decode_b2 R x2 x4 x4n x4c ((x4n : Int) == (0 : Int)) I S)
def owner_Decode (R : RT) (u0 : ByteArray) (I : IMem) (S : SH) : Prop :=
  ∀ b2 : Nat,
  Runs Tryd.prog 36 #[.string u0] I ((b2, .cells #[.int .i64 0, .string ⟨#[]⟩, .string ⟨#[]⟩, .int .i64 0] 27 (0, 0)) :: S) fun v I1 S1 => ∃ u1 u1n u1c u2, v = .tuple #[.slice u1 u1n u1c, .bool u2] ∧
  owner_Decode_b1 R ⟨b2, 0, none⟩ u1 u1n u1c u2 I1 S1
theorem owner_Decode_fn (R : RT) (u0 : ByteArray) (I : IMem) (S : SH) (h : owner_Decode R u0 I S) : Runs Tryd.prog 39 #[.string u0] I S R := by
  refine Runs.of_wp (c := cd Tryd.f39) Tryd.func39 (by kernel_rfl) (by kernel_rfl) ?_
  refine cO 2 [kA 2, kL 4, kB 5] (owner_Decode_b1 R) h fun _ _ _ _ _ _ _ _ _ h => ?_
  refine sO [kA 2, kL 4] (owner_Decode_b3 R) ?_ fun _ _ _ _ _ _ _ _ h => ?_
  · refine cO 1 [kA 2, kL 4, kB 23] (owner_Decode_b2 R) h fun _ _ _ _ _ _ _ _ _ h => ?_
    exact pS h
  refine cO 2 [kA 2, kL 4, kS 6, kL 7] (owner_Decode_b4 R) h fun _ _ _ _ _ _ _ _ _ _ _ _ h => ?_
  refine sO [kA 2, kL 4] (owner_Decode_b7 R) ?_ fun _ _ _ _ _ _ _ _ h => ?_
  · refine cO 1 [kA 2, kL 4, kS 6, kL 7, kA 37] (owner_Decode_b5 R) h fun _ _ _ _ _ _ _ _ _ _ _ _ _ h => ?_
    refine bK ?_
    obtain ⟨Vg6, mg6, h, hr⟩ := h
    refine lO [kA 2, kL 4, kS 6, kL 7, kA 37] Vg6 mg6 h fun mg6 _ I S hle x2 x4 x4n x4c x6 x7 x7n x7c x37 h => ?_
    have h := hr mg6 x2 x4 x4n x4c x6 x7 x7n x7c x37 I S hle h
    refine cO 2 [kA 2, kL 4, kS 6, kL 7, kA 37] (owner_Decode_b8 (fun x2 x4 x4n x4c x6 x7 x7n x7c x37 I S => ∃ m', m' < mg6 ∧ Vg6 m' x2 x4 x4n x4c x6 x7 x7n x7c x37 I S) R) h fun _ _ _ _ _ _ _ _ _ _ _ _ _ h => ?_
    refine bK ?_
    refine cO 1 [kA 2, kL 4, kS 6, kL 7, kI .i64 8, kS 9, kA 37] (owner_Decode_b9 (fun x2 x4 x4n x4c x6 x7 x7n x7c x37 I S => ∃ m', m' < mg6 ∧ Vg6 m' x2 x4 x4n x4c x6 x7 x7n x7c x37 I S) R) h fun _ _ _ _ _ _ _ _ _ _ _ _ _ _ _ h => ?_
    exact pS h
  exact pS h
end Go.Proofs.YtmlojdbahlfiaaaDoor
set_option linter.unusedVariables false
set_option maxRecDepth 8000
set_option maxHeartbeats 2000000
namespace Go.Proofs.YtmlojdbahlfiaaaDoor
open Go.Px
abbrev name_Labels_t4 := OA → Nat → Nat → ByteArray → PR
def name_Labels_b8 (g4 : name_Labels_t4) (R : RT) (x4 : OA) (x4n x4c : Nat) (x5 : ByteArray) (x6 : Int) (I : IMem) (S : SH) : Prop :=
  (0 : Int) ≤ (IntKind.wrap .i64 ((1 : Int) + x6)) ∧ (IntKind.wrap .i64 ((1 : Int) + x6)) ≤ ((x5.size : Nat) : Int) ∧
  (0 : Int) ≤ (1 : Int) ∧ (1 : Int) ≤ (((IntKind.wrap .i64 ((1 : Int) + x6)).toNat : Nat) : Int) ∧
  ∀ b40 : Nat,
  AppG 9 1 16 [.string ⟨#[]⟩] (some (.slice 9)) I ((b40, .cells #[.string (x5.extract ((1 : Int).toNat) ((IntKind.wrap .i64 ((1 : Int) + x6)).toNat))] 9 (0, 0)) :: S) (.slice x4 x4n x4c) (.slice (some ⟨b40, 0, none⟩) 1 1) fun u0 u0n u0c S1 =>
  (0 : Int) ≤ (IntKind.wrap .i64 ((1 : Int) + x6)) ∧ (IntKind.wrap .i64 ((1 : Int) + x6)) ≤ ((x5.size : Nat) : Int) ∧
  g4 u0 u0n u0c (x5.extract ((IntKind.wrap .i64 ((1 : Int) + x6)).toNat) x5.size) I S1
def name_Labels_b7 (g4 : name_Labels_t4) (R : RT) (x4 : OA) (x4n x4c : Nat) (x5 : ByteArray) (x6 : Int) (x34 : Bool) (I : IMem) (S : SH) : Prop :=
  bcase x34
    (R (.tuple #[.slice none 0 0, .bool false]) I S)
    (name_Labels_b8 g4 R x4 x4n x4c x5 x6 I S)
def name_Labels_b6 (g4 : name_Labels_t4) (R : RT) (x4 : OA) (x4n x4c : Nat) (x5 : ByteArray) (x6 : Int) (I : IMem) (S : SH) : Prop :=
  bcase (decide (x6 < (1 : Int)))
    (name_Labels_b7 g4 R x4 x4n x4c x5 x6 true I S)
    (bcase (decide (x6 > (63 : Int)))
      (name_Labels_b7 g4 R x4 x4n x4c x5 x6 true I S)
      (name_Labels_b7 g4 R x4 x4n x4c x5 x6 (decide (x6 ≥ (x5.size : Int))) I S))
def name_Labels_b5 (g4 : name_Labels_t4) (R : RT) (x4 : OA) (x4n x4c : Nat) (x5 : ByteArray) (I : IMem) (S : SH) : Prop :=
  ∃ u0 : UInt8, (0 : Int) ≤ (0 : Int) ∧ x5[(0 : Int).toNat]? = some u0 ∧
  name_Labels_b6 g4 R x4 x4n x4c x5 (IntKind.wrap .i64 (u0.toNat : Int)) I S
def name_Labels_b9 (R : RT) (x4 : OA) (x4n x4c : Nat) (I : IMem) (S : SH) : Prop :=
  R (.tuple #[.slice x4 x4n x4c, .bool true]) I S
def name_Labels_l4 (g4 : name_Labels_t4) (R : RT) (x4 : OA) (x4n x4c : Nat) (x5 : ByteArray) (I : IMem) (S : SH) : Prop :=
  bcase (decide ((x5.size : Int) > (0 : Int)))
    (name_Labels_b5 g4 R x4 x4n x4c x5 I S)
    (name_Labels_b9 R x4 x4n x4c I S)
def name_Labels_b3 (R : RT) (x4 : OA) (x4n x4c : Nat) (x5 : ByteArray) (I : IMem) (S : SH) : Prop :=
  ∃ (Inv : Nat → name_Labels_t4) (m : Nat), Inv m x4 x4n x4c x5 I S ∧
    ∀ (m : Nat) (x4 : OA) (x4n x4c : Nat) (x5 : ByteArray) (J : IMem) (T : SH), I.le J → Inv m x4 x4n x4c x5 J T →
      name_Labels_l4 (fun x4 x4n x4c x5 I S => ∃ m', m' < m ∧ Inv m' x4 x4n x4c x5 I S) R x4 x4n x4c x5 J T
def name_Labels_b2 (R : RT) (x4 : OA) (x4n x4c : Nat) (x5 : ByteArray) (x16 : Bool) (I : IMem) (S : SH) : Prop :=
  bcase x16
    (R (.tuple #[.slice none 0 0, .bool false]) I S)
    (name_Labels_b3 R x4 x4n x4c x5 I S)
def name_Labels_b1 (R : RT) (x4 : OA) (x4n x4c : Nat) (x5 : ByteArray) (I : IMem) (S : SH) : Prop :=
  bcase (decide ((x5.size : Int) > (254 : Int)))
    (name_Labels_b2 R x4 x4n x4c x5 true I S)
    (Runs Tryd.prog 31 #[.string x5] I S fun v I1 S1 => ∃ u0, v = .string u0 ∧
    name_Labels_b2 R x4 x4n x4c x5 (!(x5.toList == u0.toList)) I1 S1)
def name_Labels (R : RT) (u0 : ByteArray) (I : IMem) (S : SH) : Prop :=
  name_Labels_b1 R none 0 0 u0 I S
theorem name_Labels_fn (R : RT) (u0 : ByteArray) (I : IMem) (S : SH) (h : name_Labels R u0 I S) : Runs Tryd.prog 36 #[.string u0] I S R := by
  refine Runs.of_wp (c := cd Tryd.f36) Tryd.func36 (by kernel_rfl) (by kernel_rfl) ?_
  refine cO 3 [kL 4, kS 5] (name_Labels_b1 R) h fun _ _ _ _ _ _ _ _ h => ?_
  refine sO [kL 4, kS 5] (name_Labels_b3 R) ?_ fun _ _ _ _ _ _ _ _ h => ?_
  · refine cO 1 [kL 4, kS 5, kB 16] (name_Labels_b2 R) h fun _ _ _ _ _ _ _ _ _ h => ?_
    exact pS h
  refine sO [kL 4] (name_Labels_b9 R) ?_ fun _ _ _ _ _ _ _ h => ?_
  · refine bK ?_
    obtain ⟨Vg4, mg4, h, hr⟩ := h
    refine lO [kL 4, kS 5] Vg4 mg4 h fun mg4 _ I S hle x4 x4n x4c x5 h => ?_
    have h := hr mg4 x4 x4n x4c x5 I S hle h
    refine cO 1 [kL 4, kS 5] (name_Labels_b5 (fun x4 x4n x4c x5 I S => ∃ m', m' < mg4 ∧ Vg4 m' x4 x4n x4c x5 I S) R) h fun _ _ _ _ _ _ _ _ h => ?_
    refine bK ?_
    refine cO 1 [kL 4, kS 5, kI .i64 6] (name_Labels_b6 (fun x4 x4n x4c x5 I S => ∃ m', m' < mg4 ∧ Vg4 m' x4 x4n x4c x5 I S) R) h fun _ _ _ _ _ _ _ _ _ h => ?_
    refine sO [kL 4, kS 5, kI .i64 6] (name_Labels_b8 (fun x4 x4n x4c x5 I S => ∃ m', m' < mg4 ∧ Vg4 m' x4 x4n x4c x5 I S) R) ?_ fun _ _ _ _ _ _ _ _ _ h => ?_
    · refine cO 1 [kL 4, kS 5, kI .i64 6, kB 34] (name_Labels_b7 (fun x4 x4n x4c x5 I S => ∃ m', m' < mg4 ∧ Vg4 m' x4 x4n x4c x5 I S) R) h fun _ _ _ _ _ _ _ _ _ _ h => ?_
      exact pS h
    exact pS h
  exact pS h
abbrev name_Make_t3 := Addr → OA → Nat → Nat → Int → Int → PR
def name_Make_b8 (g3 : name_Make_t3) (R : RT) (x4 : Addr) (x7 : OA) (x7n x7c : Nat) (x8 x9 : Int) (I : IMem) (S : SH) : Prop :=
  g3 x4 x7 x7n x7c x8 (IntKind.wrap .i64 (x9 + (1 : Int))) I S
def name_Make_b7 (g3 : name_Make_t3) (R : RT) (x4 : Addr) (x6 : ByteArray) (x7 : OA) (x7n x7c : Nat) (x8 x9 : Int) (I : IMem) (S : SH) : Prop :=
  Runs Tryd.prog 29 #[.pointer (some x4), .int .u8 (IntKind.wrap .u8 (x6.size : Int))] I S fun v I1 S1 => ∃ u0, v = u0 ∧
  Runs Tryd.prog 31 #[.string x6] I1 S1 fun v' I1' S1' => ∃ u1, v' = .string u1 ∧
  Runs Tryd.prog 30 #[.pointer (some x4), .string u1] I1' S1' fun v'' I1'' S1'' => ∃ u2 u3, v'' = .tuple #[.int .i64 u2, u3] ∧
  name_Make_b8 g3 R x4 x7 x7n x7c x8 x9 I1'' S1''
def name_Make_b6 (g3 : name_Make_t3) (R : RT) (x4 : Addr) (x6 : ByteArray) (x7 : OA) (x7n x7c : Nat) (x8 x9 : Int) (x28 : Bool) (I : IMem) (S : SH) : Prop :=
  bcase x28
    (R (.tuple #[.string ⟨#[]⟩, .bool false]) I S)
    (name_Make_b7 g3 R x4 x6 x7 x7n x7c x8 x9 I S)
def name_Make_b5 (g3 : name_Make_t3) (R : RT) (x4 : Addr) (x6 : ByteArray) (x7 : OA) (x7n x7c : Nat) (x8 x9 : Int) (I : IMem) (S : SH) : Prop :=
  bcase (decide ((x6.size : Int) < (1 : Int)))
    (name_Make_b6 g3 R x4 x6 x7 x7n x7c x8 x9 true I S)
    (bcase (decide ((x6.size : Int) > (63 : Int)))
      (name_Make_b6 g3 R x4 x6 x7 x7n x7c x8 x9 true I S)
      (Runs Tryd.prog 28 #[.pointer (some x4)] I S fun v I1 S1 => ∃ u0, v = .int .i64 u0 ∧
      name_Make_b6 g3 R x4 x6 x7 x7n x7c x8 x9 (decide ((IntKind.wrap .i64 ((IntKind.wrap .i64 (u0 + (1 : Int))) + (x6.size : Int))) > (254 : Int))) I1 S1))
def name_Make_b4 (g3 : name_Make_t3) (R : RT) (x4 : Addr) (x7 : OA) (x7n x7c : Nat) (x8 x9 : Int) (I : IMem) (S : SH) : Prop :=
  ptrP x7 fun u0 => (0 : Int) ≤ x9 ∧ x9 < (x7n : Int) ∧
  ∃ u1, Cell I S (u0.add (x9.toNat * 1)) (.string u1) ∧
  name_Make_b5 g3 R x4 u1 x7 x7n x7c x8 x9 I S
def name_Make_b9 (R : RT) (x4 : Addr) (I : IMem) (S : SH) : Prop :=
  Runs Tryd.prog 32 #[.pointer (some x4)] I S fun v I1 S1 => ∃ u0, v = .string u0 ∧
  R (.tuple #[.string u0, .bool true]) I1 S1
def name_Make_l3 (g3 : name_Make_t3) (R : RT) (x4 : Addr) (x7 : OA) (x7n x7c : Nat) (x8 x9 : Int) (I : IMem) (S : SH) : Prop :=
  bcase (decide (x9 < x8))
    (name_Make_b4 g3 R x4 x7 x7n x7c x8 x9 I S)
    (name_Make_b9 R x4 I S)
def name_Make_b2 (R : RT) (x4 : Addr) (x7 : OA) (x7n x7c : Nat) (x8 x9 : Int) (I : IMem) (S : SH) : Prop :=
  ∃ (Inv : Nat → name_Make_t3) (m : Nat), Inv m x4 x7 x7n x7c x8 x9 I S ∧
    ∀ (m : Nat) (x4 : Addr) (x7 : OA) (x7n x7c : Nat) (x8 x9 : Int) (J : IMem) (T : SH), I.le J → Inv m x4 x7 x7n x7c x8 x9 J T →
      name_Make_l3 (fun x4 x7 x7n x7c x8 x9 I S => ∃ m', m' < m ∧ Inv m' x4 x7 x7n x7c x8 x9 I S) R x4 x7 x7n x7c x8 x9 J T
def name_Make_b1 (R : RT) (x0 : OA) (x0n x0c : Nat) (x4 : Addr) (I : IMem) (S : SH) : Prop :=
  name_Make_b2 R x4 x0 x0n x0c (x0n : Int) 0 I S
def name_Make (R : RT) (u0 : OA) (u0n u0c : Nat) (I : IMem) (S : SH) : Prop :=
  ∀ b4 : Nat,
  name_Make_b1 R u0 u0n u0c ⟨b4, 0, none⟩ I ((b4, .cells #[.pointer none, .slice none 0 0] 89 (0, 0)) :: S)
theorem name_Make_fn (R : RT) (u0 : OA) (u0n u0c : Nat) (I : IMem) (S : SH) (h : name_Make R u0 u0n u0c I S) : Runs Tryd.prog 15 #[.slice u0 u0n u0c] I S R := by
  refine Runs.of_wp (c := cd Tryd.f15) Tryd.func15 (by kernel_rfl) (by kernel_rfl) ?_
  refine cO 2 [kL 0, kA 4] (name_Make_b1 R) h fun _ _ _ _ _ _ _ _ h => ?_
  refine sO [kA 4] (name_Make_b9 R) ?_ fun _ _ _ _ _ h => ?_
  · refine cO 1 [kA 4, kL 7, kI .i64 8, kI .i64 9] (name_Make_b2 R) h fun _ _ _ _ _ _ _ _ _ _ h => ?_
    refine bK ?_
    obtain ⟨Vg3, mg3, h, hr⟩ := h
    refine lO [kA 4, kL 7, kI .i64 8, kI .i64 9] Vg3 mg3 h fun mg3 _ I S hle x4 x7 x7n x7c x8 x9 h => ?_
    have h := hr mg3 x4 x7 x7n x7c x8 x9 I S hle h
    refine cO 2 [kA 4, kL 7, kI .i64 8, kI .i64 9] (name_Make_b4 (fun x4 x7 x7n x7c x8 x9 I S => ∃ m', m' < mg3 ∧ Vg3 m' x4 x7 x7n x7c x8 x9 I S) R) h fun _ _ _ _ _ _ _ _ _ _ h => ?_
    refine sO [kA 4, kL 7, kI .i64 8, kI .i64 9] (name_Make_b8 (fun x4 x7 x7n x7c x8 x9 I S => ∃ m', m' < mg3 ∧ Vg3 m' x4 x7 x7n x7c x8 x9 I S) R) ?_ fun _ _ _ _ _ _ _ _ _ _ h => ?_
    · refine bK ?_
      refine cO 1 [kA 4, kS 6, kL 7, kI .i64 8, kI .i64 9] (name_Make_b5 (fun x4 x7 x7n x7c x8 x9 I S => ∃ m', m' < mg3 ∧ Vg3 m' x4 x7 x7n x7c x8 x9 I S) R) h fun _ _ _ _ _ _ _ _ _ _ _ h => ?_
      refine sO [kA 4, kS 6, kL 7, kI .i64 8, kI .i64 9] (name_Make_b7 (fun x4 x7 x7n x7c x8 x9 I S => ∃ m', m' < mg3 ∧ Vg3 m' x4 x7 x7n x7c x8 x9 I S) R) ?_ fun _ _ _ _ _ _ _ _ _ _ _ h => ?_
      · refine cO 1 [kA 4, kS 6, kL 7, kI .i64 8, kI .i64 9, kB 28] (name_Make_b6 (fun x4 x7 x7n x7c x8 x9 I S => ∃ m', m' < mg3 ∧ Vg3 m' x4 x7 x7n x7c x8 x9 I S) R) h fun _ _ _ _ _ _ _ _ _ _ _ _ h => ?_
        exact pS h
      exact pS h
    exact pS h
  exact pS h
def name_May (R : RT) (u0 : ByteArray) (I : IMem) (S : SH) : Prop :=
  Runs Tryd.prog 36 #[.string u0] I S fun v I1 S1 => ∃ u1 u1n u1c u2, v = .tuple #[.slice u1 u1n u1c, .bool u2] ∧
  R (.bool u2) I1 S1
theorem name_May_fn (R : RT) (u0 : ByteArray) (I : IMem) (S : SH) (h : name_May R u0 I S) : Runs Tryd.prog 46 #[.string u0] I S R := by
  refine Runs.of_wp (c := cd Tryd.f46) Tryd.func46 (by kernel_rfl) (by kernel_rfl) ?_
  exact pS h
abbrev name_folded_t3 := OA → Nat → Nat → OA → Nat → Nat → Int → Int → PR
def name_folded_b4 (R : RT) (x3 : OA) (x3n x3c : Nat) (I : IMem) (S : SH) : Prop :=
  ∃ u0 : ByteArray, BytesAt I S x3 x3n u0 ∧
  R (.string u0) I S
def name_folded_l3 (g3 : name_folded_t3) (R : RT) (x3 : OA) (x3n x3c : Nat) (x8 : OA) (x8n x8c : Nat) (x9 x10 : Int) (I : IMem) (S : SH) : Prop :=
  bcase (decide (x10 < x9))
    (ptrP x8 fun u0 => (0 : Int) ≤ x10 ∧ x10 < (x8n : Int) ∧
    ∃ u1, Cell I S (u0.add (x10.toNat * 1)) (.int .u8 u1) ∧
    Runs Tryd.prog 48 #[.int .u8 u1] I S fun v I1 S1 => ∃ u2, v = .int .u8 u2 ∧
    ptrP x3 fun u3 => (0 : Int) ≤ x10 ∧ x10 < (x3n : Int) ∧
    StP S1 (u3.add (x10.toNat * 1)) [.int .u8 u2] fun S1' =>
    g3 x3 x3n x3c x8 x8n x8c x9 (IntKind.wrap .i64 (x10 + (1 : Int))) I1 S1')
    (name_folded_b4 R x3 x3n x3c I S)
def name_folded_b2 (R : RT) (x3 : OA) (x3n x3c : Nat) (x8 : OA) (x8n x8c : Nat) (x9 x10 : Int) (I : IMem) (S : SH) : Prop :=
  ∃ (Inv : Nat → name_folded_t3) (m : Nat), Inv m x3 x3n x3c x8 x8n x8c x9 x10 I S ∧
    ∀ (m : Nat) (x3 : OA) (x3n x3c : Nat) (x8 : OA) (x8n x8c : Nat) (x9 x10 : Int) (J : IMem) (T : SH), I.le J → Inv m x3 x3n x3c x8 x8n x8c x9 x10 J T →
      name_folded_l3 (fun x3 x3n x3c x8 x8n x8c x9 x10 I S => ∃ m', m' < m ∧ Inv m' x3 x3n x3c x8 x8n x8c x9 x10 I S) R x3 x3n x3c x8 x8n x8c x9 x10 J T
def name_folded_b1 (R : RT) (x3 : OA) (x3n x3c : Nat) (I : IMem) (S : SH) : Prop :=
  name_folded_b2 R x3 x3n x3c x3 x3n x3c (x3n : Int) 0 I S
def name_folded (R : RT) (u0 : ByteArray) (I : IMem) (S : SH) : Prop :=
  u0.size ≤ maxLen ∧ ∀ b7 c7 : Nat, u0.size ≤ c7 → c7 ≤ maxLen →
  name_folded_b1 R (some ⟨b7, 0, none⟩) u0.size c7 I ((b7, .cells (byteCells u0 ++ repV (c7 - u0.size) [.int .u8 0]).toArray 5 (c7, c7 + 1)) :: S)
theorem name_folded_fn (R : RT) (u0 : ByteArray) (I : IMem) (S : SH) (h : name_folded R u0 I S) : Runs Tryd.prog 31 #[.string u0] I S R := by
  refine Runs.of_wp (c := cd Tryd.f31) Tryd.func31 (by kernel_rfl) (by kernel_rfl) ?_
  refine cO 2 [kL 3] (name_folded_b1 R) h fun _ _ _ _ _ _ _ h => ?_
  refine sO [kL 3] (name_folded_b4 R) ?_ fun _ _ _ _ _ _ _ h => ?_
  · refine cO 1 [kL 3, kL 8, kI .i64 9, kI .i64 10] (name_folded_b2 R) h fun _ _ _ _ _ _ _ _ _ _ _ _ h => ?_
    refine bK ?_
    obtain ⟨Vg3, mg3, h, hr⟩ := h
    refine lO [kL 3, kL 8, kI .i64 9, kI .i64 10] Vg3 mg3 h fun mg3 _ I S hle x3 x3n x3c x8 x8n x8c x9 x10 h => ?_
    have h := hr mg3 x3 x3n x3c x8 x8n x8c x9 x10 I S hle h
    exact pS h
  exact pS h
def strings_Builder_Len (R : RT) (u0 : OA) (I : IMem) (S : SH) : Prop :=
  ptrP u0 fun u1 =>
  ∃ u2 u2n u2c, Cell I S (u1.add 1) (.slice u2 u2n u2c) ∧
  R (.int .i64 (u2n : Int)) I S
theorem strings_Builder_Len_fn (R : RT) (u0 : OA) (I : IMem) (S : SH) (h : strings_Builder_Len R u0 I S) : Runs Tryd.prog 28 #[.pointer u0] I S R := by
  refine Runs.of_wp (c := cd Tryd.f28) Tryd.func28 (by kernel_rfl) (by kernel_rfl) ?_
  exact pS h
def strings_Builder_WriteByte (R : RT) (u0 : OA) (u1 : Int) (I : IMem) (S : SH) : Prop :=
  Runs Tryd.prog 47 #[.pointer u0] I S fun v I1 S1 => v = .tuple #[] ∧
  ptrP u0 fun u2 =>
  ∃ u3 u3n u3c, Cell I1 S1 (u2.add 1) (.slice u3 u3n u3c) ∧
  ∀ b13 : Nat,
  AppG 5 1 1 [.int .u8 0] (some (.slice 5)) I1 ((b13, .cells #[.int .u8 u1] 5 (0, 0)) :: S1) (.slice u3 u3n u3c) (.slice (some ⟨b13, 0, none⟩) 1 1) fun u4 u4n u4c S1' =>
  ptrP u0 fun u5 =>
  StP S1' (u5.add 1) [.slice u4 u4n u4c] fun S1'' =>
  R .nilIface I1 S1''
theorem strings_Builder_WriteByte_fn (R : RT) (u0 : OA) (u1 : Int) (I : IMem) (S : SH) (h : strings_Builder_WriteByte R u0 u1 I S) : Runs Tryd.prog 29 #[.pointer u0, .int .u8 u1] I S R := by
  refine Runs.of_wp (c := cd Tryd.f29) Tryd.func29 (by kernel_rfl) (by kernel_rfl) ?_
  exact pS h
def strings_Builder_WriteString (R : RT) (u0 : OA) (u1 : ByteArray) (I : IMem) (S : SH) : Prop :=
  Runs Tryd.prog 47 #[.pointer u0] I S fun v I1 S1 => v = .tuple #[] ∧
  ptrP u0 fun u2 =>
  ∃ u3 u3n u3c, Cell I1 S1 (u2.add 1) (.slice u3 u3n u3c) ∧
  AppG 5 1 1 [.int .u8 0] (some .string) I1 S1 (.slice u3 u3n u3c) (.string u1) fun u4 u4n u4c S1' =>
  ptrP u0 fun u5 =>
  StP S1' (u5.add 1) [.slice u4 u4n u4c] fun S1'' =>
  R (.tuple #[.int .i64 (u1.size : Int), .nilIface]) I1 S1''
theorem strings_Builder_WriteString_fn (R : RT) (u0 : OA) (u1 : ByteArray) (I : IMem) (S : SH) (h : strings_Builder_WriteString R u0 u1 I S) : Runs Tryd.prog 30 #[.pointer u0, .string u1] I S R := by
  refine Runs.of_wp (c := cd Tryd.f30) Tryd.func30 (by kernel_rfl) (by kernel_rfl) ?_
  exact pS h
def strings_Builder_String_b2 (R : RT) (x2 : ByteArray) (I : IMem) (S : SH) : Prop :=
  R (.string x2) I S
def strings_Builder_String_b1 (R : RT) (x0 : OA) (I : IMem) (S : SH) : Prop :=
  ptrP x0 fun u0 =>
  ∃ u1 u1n u1c, Cell I S (u0.add 1) (.slice u1 u1n u1c) ∧
  ((u1 : Option Addr).isSome = true → u1c ≠ 0) ∧
  ptrP x0 fun u2 =>
  ∃ u3 u3n u3c, Cell I S (u2.add 1) (.slice u3 u3n u3c) ∧
  UsP Tryd.prog 5 I S u1 (u3n : Int) fun u4 S1 =>
  strings_Builder_String_b2 R u4 I S1
def strings_Builder_String (R : RT) (u0 : OA) (I : IMem) (S : SH) : Prop :=
  strings_Builder_String_b1 R u0 I S
theorem strings_Builder_String_fn (R : RT) (u0 : OA) (I : IMem) (S : SH) (h : strings_Builder_String R u0 I S) : Runs Tryd.prog 32 #[.pointer u0] I S R := by
  refine Runs.of_wp (c := cd Tryd.f32) Tryd.func32 (by kernel_rfl) (by kernel_rfl) ?_
  refine cO 1 [kP 0] (strings_Builder_String_b1 R) h fun _ _ _ _ _ h => ?_
  refine sO [kS 2] (strings_Builder_String_b2 R) (dR (tk 10 0 (.step 10 (.take 11 .done))) [10] h) fun _ _ _ _ _ h => ?_
  exact pS h
def name_Fold_b3 (R : RT) (x0 : Int) (I : IMem) (S : SH) : Prop :=
  R (.int .u8 x0) I S
def name_Fold_b2 (R : RT) (x0 : Int) (x8 : Bool) (I : IMem) (S : SH) : Prop :=
  bcase x8
    (R (.int .u8 (IntKind.wrap .u8 ((IntKind.wrap .u8 (x0 + (97 : Int))) - (65 : Int)))) I S)
    (name_Fold_b3 R x0 I S)
def name_Fold_b1 (R : RT) (x0 : Int) (I : IMem) (S : SH) : Prop :=
  bcase (decide (x0 ≥ (65 : Int)))
    (name_Fold_b2 R x0 (decide (x0 ≤ (90 : Int))) I S)
    (name_Fold_b2 R x0 false I S)
def name_Fold (R : RT) (u0 : Int) (I : IMem) (S : SH) : Prop :=
  name_Fold_b1 R u0 I S
theorem name_Fold_fn (R : RT) (u0 : Int) (I : IMem) (S : SH) (h : name_Fold R u0 I S) : Runs Tryd.prog 48 #[.int .u8 u0] I S R := by
  refine Runs.of_wp (c := cd Tryd.f48) Tryd.func48 (by kernel_rfl) (by kernel_rfl) ?_
  refine cO 1 [kI .u8 0] (name_Fold_b1 R) h fun _ _ _ _ _ h => ?_
  refine sO [kI .u8 0] (name_Fold_b3 R) ?_ fun _ _ _ _ _ h => ?_
  · refine cO 1 [kI .u8 0, kB 8] (name_Fold_b2 R) h fun _ _ _ _ _ _ h => ?_
    exact pS h
  exact pS h
def strings_Builder_copyCheck (R : RT) (u0 : Addr) (I : IMem) (S : SH) : Prop :=
  ∃ u1, Cell I S u0 (.pointer u1) ∧
  bcase ((u1 : Option Addr).isNone)
    (∃ u2 u3, BlkAt I S u0.block u2 u3 ∧ u0.off < u2.size ∧
    RunsX Tryd.prog 65 #[.pointer (some u0)] I S fun v I1 S1 => ∃ u4, v = .pointer u4 ∧
    ptrP u4 fun u5 => ∃ u6 u7, BlkAt I1 S1 u5.block u6 u7 ∧ liesAt Tryd.prog (Program.depth Tryd.prog) u7 (u6.size / Program.cellsOf Tryd.prog u7) u5.off 89 1 = true ∧
    StP S1 u0 [.pointer (some u5)] fun S1' =>
    R (.tuple #[]) I1 S1')
    (∃ u8, Cell I S u0 (.pointer u8) ∧
    (u8 : Option Addr) = some u0 ∧
    R (.tuple #[]) I S)
theorem strings_Builder_copyCheck_fn (R : RT) (u0 : Addr) (I : IMem) (S : SH) (h : strings_Builder_copyCheck R u0 I S) : Runs Tryd.prog 47 #[.pointer (some u0)] I S R := by
  refine Runs.of_wp (c := cd Tryd.f47) Tryd.func47 (by kernel_rfl) (by kernel_rfl) ?_
  exact pS h
abbrev name_Below_t3 := ByteArray → ByteArray → Bool → PR
def name_Below_b4 (R : RT) (I : IMem) (S : SH) : Prop :=
  R (.bool false) I S
def name_Below_l3 (g3 : name_Below_t3) (R : RT) (x0 x1 : ByteArray) (x5 : Bool) (I : IMem) (S : SH) : Prop :=
  bcase x5
    (bcase (x0.toList == x1.toList)
      (R (.bool true) I S)
      (Runs Tryd.prog 26 #[.string x0] I S fun v I1 S1 => ∃ u0 u1, v = .tuple #[.string u0, .bool u1] ∧
      g3 u0 x1 u1 I1 S1))
    (name_Below_b4 R I S)
def name_Below_b2 (R : RT) (x0 x1 : ByteArray) (x5 : Bool) (I : IMem) (S : SH) : Prop :=
  ∃ (Inv : Nat → name_Below_t3) (m : Nat), Inv m x0 x1 x5 I S ∧
    ∀ (m : Nat) (x0 x1 : ByteArray) (x5 : Bool) (J : IMem) (T : SH), I.le J → Inv m x0 x1 x5 J T →
      name_Below_l3 (fun x0 x1 x5 I S => ∃ m', m' < m ∧ Inv m' x0 x1 x5 I S) R x0 x1 x5 J T
def name_Below_b1 (R : RT) (x0 x1 : ByteArray) (I : IMem) (S : SH) : Prop :=
  Runs Tryd.prog 46 #[.string x0] I S fun v I1 S1 => ∃ u0, v = .bool u0 ∧
  bcase u0
    (Runs Tryd.prog 46 #[.string x1] I1 S1 fun v' I1' S1' => ∃ u1, v' = .bool u1 ∧
    name_Below_b2 R x0 x1 u1 I1' S1')
    (name_Below_b2 R x0 x1 false I1 S1)
def name_Below (R : RT) (u0 u1 : ByteArray) (I : IMem) (S : SH) : Prop :=
  name_Below_b1 R u0 u1 I S
theorem name_Below_fn (R : RT) (u0 u1 : ByteArray) (I : IMem) (S : SH) (h : name_Below R u0 u1 I S) : Runs Tryd.prog 56 #[.string u0, .string u1] I S R := by
  refine Runs.of_wp (c := cd Tryd.f56) Tryd.func56 (by kernel_rfl) (by kernel_rfl) ?_
  refine cO 1 [kS 0, kS 1] (name_Below_b1 R) h fun _ _ _ _ _ _ h => ?_
  refine sO [] (name_Below_b4 R) ?_ fun _ _ _ _ h => ?_
  · refine cO 1 [kS 0, kS 1, kB 5] (name_Below_b2 R) h fun _ _ _ _ _ _ _ h => ?_
    refine bK ?_
    obtain ⟨Vg3, mg3, h, hr⟩ := h
    refine lO [kS 0, kS 1, kB 5] Vg3 mg3 h fun mg3 _ I S hle x0 x1 x5 h => ?_
    have h := hr mg3 x0 x1 x5 I S hle h
    exact pS h
  exact pS h
def name_Parent_b3 (R : RT) (x0 : ByteArray) (I : IMem) (S : SH) : Prop :=
  ∃ u0 : UInt8, (0 : Int) ≤ (0 : Int) ∧ x0[(0 : Int).toNat]? = some u0 ∧
  (0 : Int) ≤ (IntKind.wrap .i64 ((1 : Int) + (IntKind.wrap .i64 (u0.toNat : Int)))) ∧ (IntKind.wrap .i64 ((1 : Int) + (IntKind.wrap .i64 (u0.toNat : Int)))) ≤ ((x0.size : Nat) : Int) ∧
  R (.tuple #[.string (x0.extract ((IntKind.wrap .i64 ((1 : Int) + (IntKind.wrap .i64 (u0.toNat : Int)))).toNat) x0.size), .bool true]) I S
def name_Parent_b2 (R : RT) (x0 : ByteArray) (x11 : Bool) (I : IMem) (S : SH) : Prop :=
  bcase x11
    (R (.tuple #[.string ⟨#[]⟩, .bool false]) I S)
    (name_Parent_b3 R x0 I S)
def name_Parent_b1 (R : RT) (x0 : ByteArray) (I : IMem) (S : SH) : Prop :=
  bcase ((x0.size : Int) == (0 : Int))
    (name_Parent_b2 R x0 true I S)
    (Runs Tryd.prog 46 #[.string x0] I S fun v I1 S1 => ∃ u0, v = .bool u0 ∧
    name_Parent_b2 R x0 (!u0) I1 S1)
def name_Parent (R : RT) (u0 : ByteArray) (I : IMem) (S : SH) : Prop :=
  name_Parent_b1 R u0 I S
theorem name_Parent_fn (R : RT) (u0 : ByteArray) (I : IMem) (S : SH) (h : name_Parent R u0 I S) : Runs Tryd.prog 26 #[.string u0] I S R := by
  refine Runs.of_wp (c := cd Tryd.f26) Tryd.func26 (by kernel_rfl) (by kernel_rfl) ?_
  refine cO 1 [kS 0] (name_Parent_b1 R) h fun _ _ _ _ _ h => ?_
  refine sO [kS 0] (name_Parent_b3 R) ?_ fun _ _ _ _ _ h => ?_
  · refine cO 1 [kS 0, kB 11] (name_Parent_b2 R) h fun _ _ _ _ _ _ h => ?_
    exact pS h
  exact pS h
def name_Strip (R : RT) (u0 u1 : ByteArray) (I : IMem) (S : SH) : Prop :=
  Runs Tryd.prog 56 #[.string u0, .string u1] I S fun v I1 S1 => ∃ u2, v = .bool u2 ∧
  bcase (!u2)
    (R (.tuple #[.string ⟨#[]⟩, .bool false]) I1 S1)
    ((0 : Int) ≤ (IntKind.wrap .i64 ((u0.size : Int) - (u1.size : Int))) ∧ (IntKind.wrap .i64 ((u0.size : Int) - (u1.size : Int))) ≤ ((u0.size : Nat) : Int) ∧
    R (.tuple #[.string (u0.extract 0 ((IntKind.wrap .i64 ((u0.size : Int) - (u1.size : Int))).toNat)), .bool true]) I1 S1)
theorem name_Strip_fn (R : RT) (u0 u1 : ByteArray) (I : IMem) (S : SH) (h : name_Strip R u0 u1 I S) : Runs Tryd.prog 49 #[.string u0, .string u1] I S R := by
  refine Runs.of_wp (c := cd Tryd.f49) Tryd.func49 (by kernel_rfl) (by kernel_rfl) ?_
  exact pS h
def name_Count (R : RT) (u0 : ByteArray) (I : IMem) (S : SH) : Prop :=
  Runs Tryd.prog 36 #[.string u0] I S fun v I1 S1 => ∃ u1 u1n u1c u2, v = .tuple #[.slice u1 u1n u1c, .bool u2] ∧
  R (.int .i64 (u1n : Int)) I1 S1
theorem name_Count_fn (R : RT) (u0 : ByteArray) (I : IMem) (S : SH) (h : name_Count R u0 I S) : Runs Tryd.prog 67 #[.string u0] I S R := by
  refine Runs.of_wp (c := cd Tryd.f67) Tryd.func67 (by kernel_rfl) (by kernel_rfl) ?_
  exact pS h
end Go.Proofs.YtmlojdbahlfiaaaDoor
set_option linter.unusedVariables false
set_option maxRecDepth 8000
set_option maxHeartbeats 2000000
namespace Go.Proofs.YtmlojdbahlfiaaaDoor
open Go.Px
abbrev zone_At_t3 := ByteArray → OA → Nat → Nat → OA → Nat → Nat → Int → Int → PR
def zone_At_b4 (g3 : zone_At_t3) (R : RT) (x1 : ByteArray) (x5 : OA) (x5n x5c : Nat) (x8 : OA) (x8n x8c : Nat) (x9 x10 : Int) (I : IMem) (S : SH) : Prop :=
  g3 x1 x5 x5n x5c x8 x8n x8c x9 (IntKind.wrap .i64 (x10 + (1 : Int))) I S
def zone_At_b5 (R : RT) (x5 : OA) (x5n x5c : Nat) (I : IMem) (S : SH) : Prop :=
  R (.slice x5 x5n x5c) I S
def zone_At_l3 (g3 : zone_At_t3) (R : RT) (x1 : ByteArray) (x5 : OA) (x5n x5c : Nat) (x8 : OA) (x8n x8c : Nat) (x9 x10 : Int) (I : IMem) (S : SH) : Prop :=
  bcase (decide (x10 < x9))
    (ptrP x8 fun u0 => (0 : Int) ≤ x10 ∧ x10 < (x8n : Int) ∧
    ∃ u1, Cell I S (u0.add (x10.toNat * 4)) (.string u1) ∧
    ∃ u2, Cell I S ((u0.add (x10.toNat * 4)).add 1) (.int .u16 u2) ∧
    ∃ u3, Cell I S ((u0.add (x10.toNat * 4)).add 2) (.int .u32 u3) ∧
    ∃ u4, Cell I S ((u0.add (x10.toNat * 4)).add 3) (.string u4) ∧
    ∀ b7 : Nat,
    StP ((b7, .cells #[.string ⟨#[]⟩, .int .u16 0, .int .u32 0, .string ⟨#[]⟩] 57 (0, 0)) :: S) ⟨b7, 0, none⟩ [.string u1, .int .u16 u2, .int .u32 u3, .string u4] fun S1 =>
    ∃ u5, Cell I S1 ⟨b7, 0, none⟩ (.string u5) ∧
    bcase (u5.toList == x1.toList)
      (∃ u6, Cell I S1 ⟨b7, 0, none⟩ (.string u6) ∧
      ∃ u7, Cell I S1 ⟨b7, 1, none⟩ (.int .u16 u7) ∧
      ∃ u8, Cell I S1 ⟨b7, 2, none⟩ (.int .u32 u8) ∧
      ∃ u9, Cell I S1 ⟨b7, 3, none⟩ (.string u9) ∧
      ∀ b20 : Nat,
      AppG 57 4 40 [.string ⟨#[]⟩, .int .u16 0, .int .u32 0, .string ⟨#[]⟩] (some (.slice 57)) I ((b20, .cells #[.string u6, .int .u16 u7, .int .u32 u8, .string u9] 57 (0, 0)) :: S1) (.slice x5 x5n x5c) (.slice (some ⟨b20, 0, none⟩) 1 1) fun ua uan uac S1' =>
      zone_At_b4 g3 R x1 ua uan uac x8 x8n x8c x9 x10 I S1')
      (zone_At_b4 g3 R x1 x5 x5n x5c x8 x8n x8c x9 x10 I S1))
    (zone_At_b5 R x5 x5n x5c I S)
def zone_At_b2 (R : RT) (x1 : ByteArray) (x5 : OA) (x5n x5c : Nat) (x8 : OA) (x8n x8c : Nat) (x9 x10 : Int) (I : IMem) (S : SH) : Prop :=
  ∃ (Inv : Nat → zone_At_t3) (m : Nat), Inv m x1 x5 x5n x5c x8 x8n x8c x9 x10 I S ∧
    ∀ (m : Nat) (x1 : ByteArray) (x5 : OA) (x5n x5c : Nat) (x8 : OA) (x8n x8c : Nat) (x9 x10 : Int) (J : IMem) (T : SH), I.le J → Inv m x1 x5 x5n x5c x8 x8n x8c x9 x10 J T →
      zone_At_l3 (fun x1 x5 x5n x5c x8 x8n x8c x9 x10 I S => ∃ m', m' < m ∧ Inv m' x1 x5 x5n x5c x8 x8n x8c x9 x10 I S) R x1 x5 x5n x5c x8 x8n x8c x9 x10 J T
def zone_At_b1 (R : RT) (x0 : OA) (x0n x0c : Nat) (x1 : ByteArray) (x5 : OA) (x5n x5c : Nat) (I : IMem) (S : SH) : Prop :=
  zone_At_b2 R x1 x5 x5n x5c x0 x0n x0c (x0n : Int) 0 I S
def zone_At (R : RT) (u0 : OA) (u0n u0c : Nat) (u1 : ByteArray) (I : IMem) (S : SH) : Prop :=
  zone_At_b1 R u0 u0n u0c u1 none 0 0 I S
theorem zone_At_fn (R : RT) (u0 : OA) (u0n u0c : Nat) (u1 : ByteArray) (I : IMem) (S : SH) (h : zone_At R u0 u0n u0c u1 I S) : Runs Tryd.prog 51 #[.slice u0 u0n u0c, .string u1] I S R := by
  refine Runs.of_wp (c := cd Tryd.f51) Tryd.func51 (by kernel_rfl) (by kernel_rfl) ?_
  refine cO 2 [kL 0, kS 1, kL 5] (zone_At_b1 R) h fun _ _ _ _ _ _ _ _ _ _ _ h => ?_
  refine sO [kL 5] (zone_At_b5 R) ?_ fun _ _ _ _ _ _ _ h => ?_
  · refine cO 1 [kS 1, kL 5, kL 8, kI .i64 9, kI .i64 10] (zone_At_b2 R) h fun _ _ _ _ _ _ _ _ _ _ _ _ _ h => ?_
    refine bK ?_
    obtain ⟨Vg3, mg3, h, hr⟩ := h
    refine lO [kS 1, kL 5, kL 8, kI .i64 9, kI .i64 10] Vg3 mg3 h fun mg3 _ I S hle x1 x5 x5n x5c x8 x8n x8c x9 x10 h => ?_
    have h := hr mg3 x1 x5 x5n x5c x8 x8n x8c x9 x10 I S hle h
    refine cO 3 [kS 1, kL 5, kL 8, kI .i64 9, kI .i64 10] (zone_At_b4 (fun x1 x5 x5n x5c x8 x8n x8c x9 x10 I S => ∃ m', m' < mg3 ∧ Vg3 m' x1 x5 x5n x5c x8 x8n x8c x9 x10 I S) R) h fun _ _ _ _ _ _ _ _ _ _ _ _ _ h => ?_
    exact pS h
  exact pS h
end Go.Proofs.YtmlojdbahlfiaaaDoor
set_option linter.unusedVariables false
set_option maxRecDepth 8000
set_option maxHeartbeats 2000000
namespace Go.Proofs.YtmlojdbahlfiaaaDoor
open Go.Px
def prefix_Has_b1 (R : RT) (x4 : Bool) (I : IMem) (S : SH) : Prop :=
  R (.bool x4) I S
def prefix_Has (R : RT) (u0 : ByteArray) (u1 : Int) (u2 : ByteArray) (I : IMem) (S : SH) : Prop :=
  ∀ b2 : Nat,
  ∃ u3, Cell I ((b2, .cells #[.string u0, .int .i64 u1] 25 (0, 0)) :: S) ⟨b2, 1, none⟩ (.int .i64 u3) ∧
  Runs Tryd.prog 11 #[.string u2, .int .i64 u3] I ((b2, .cells #[.string u0, .int .i64 u1] 25 (0, 0)) :: S) fun v I1 S1 => ∃ u4 u5 u6, v = .tuple #[.agg #[.string u4, .int .i64 u5], .bool u6] ∧
  ∀ b5 : Nat,
  StP ((b5, .cells #[.string ⟨#[]⟩, .int .i64 0] 25 (0, 0)) :: S1) ⟨b5, 0, none⟩ [.string u4, .int .i64 u5] fun S1' =>
  bcase u6
    (∃ u7, Cell I1 S1' ⟨b2, 0, none⟩ (.string u7) ∧
    ∃ u8, Cell I1 S1' ⟨b2, 1, none⟩ (.int .i64 u8) ∧
    Runs Tryd.prog 42 #[.agg #[.string u7, .int .i64 u8]] I1 S1' fun v' I1' S1'' => ∃ u9, v' = .bool u9 ∧
    bcase u9
      (∃ ua, Cell I1' S1'' ⟨b5, 0, none⟩ (.string ua) ∧
      ∃ ub, Cell I1' S1'' ⟨b5, 1, none⟩ (.int .i64 ub) ∧
      ∃ uc, Cell I1' S1'' ⟨b2, 0, none⟩ (.string uc) ∧
      ∃ ud, Cell I1' S1'' ⟨b2, 1, none⟩ (.int .i64 ud) ∧
      prefix_Has_b1 R (((ua : ByteArray) == (uc : ByteArray)) && (((ub : Int) == (ud : Int)) && true)) I1' S1'')
      (prefix_Has_b1 R false I1' S1''))
    (prefix_Has_b1 R false I1 S1')
theorem prefix_Has_fn (R : RT) (u0 : ByteArray) (u1 : Int) (u2 : ByteArray) (I : IMem) (S : SH) (h : prefix_Has R u0 u1 u2 I S) : Runs Tryd.prog 54 #[.agg #[.string u0, .int .i64 u1], .string u2] I S R := by
  refine Runs.of_wp (c := cd Tryd.f54) Tryd.func54 (by kernel_rfl) (by kernel_rfl) ?_
  refine cO 3 [kB 4] (prefix_Has_b1 R) h fun _ _ _ _ _ h => ?_
  exact pS h
end Go.Proofs.YtmlojdbahlfiaaaDoor
/- Imports alone. -/
/- Words for proofs over printed functions: what is owned among more, rows of structs, numbers in range. -/
namespace Go.Px
set_option linter.unusedVariables false

def Sub (L T : SH) : Prop := ∃ G, T.Perm (L ++ G)
theorem Sub.refl (L : SH) : Sub L L := ⟨[], by simp⟩
theorem Sub.cons {L T : SH} (h : Sub L T) (p : Nat × Obj) : Sub (p :: L) (p :: T) := let ⟨G, hp⟩ := h; ⟨G, hp.cons p⟩
theorem Sub.skip {L T : SH} (h : Sub L T) (p : Nat × Obj) : Sub L (p :: T) := let ⟨G, hp⟩ := h; ⟨p :: G, (hp.cons p).trans List.perm_middle.symm⟩
theorem Sub.perm {L L' T : SH} (h : Sub L T) (hp : L.Perm L') : Sub L' T := let ⟨G, hg⟩ := h; ⟨G, hg.trans (hp.append_right G)⟩
theorem Sub.trans {L M T : SH} (h : Sub L M) (g : Sub M T) : Sub L T := by
  obtain ⟨G, hp⟩ := h
  obtain ⟨G', hp'⟩ := g
  exact ⟨G ++ G', by rw [← List.append_assoc]; exact hp'.trans (hp.append_right G')⟩
theorem Sub.drop {p : Nat × Obj} {L T : SH} (h : Sub (p :: L) T) : Sub L T := let ⟨G, hp⟩ := h; ⟨p :: G, hp.trans List.perm_middle.symm⟩
theorem Sub.left {L M T : SH} (h : Sub (L ++ M) T) : Sub L T := let ⟨G, hp⟩ := h; ⟨M ++ G, by rw [← List.append_assoc]; exact hp⟩
theorem Sub.right {L M T : SH} (h : Sub (L ++ M) T) : Sub M T := Sub.left (h.perm List.perm_append_comm)
theorem Sub.keep {I J : IMem} {L T : SH} (hle : I.le J) (h : Sub L T) : Keep I L J T := let ⟨G, hp⟩ := h; ⟨hle, G, hp.trans List.perm_append_comm⟩
theorem Keep.sub {I J : IMem} {L T : SH} (h : Keep I L J T) : Sub L T := let ⟨_, G, hp⟩ := h; ⟨G, hp.trans List.perm_append_comm⟩
theorem Sub.sat {I : IMem} {L T : SH} {w : World} (h : Sub L T) (hw : Sat I T w) : Sat I L w := let ⟨G, hp⟩ := h; (hw.perm (hp.trans List.perm_append_comm)).drop
theorem Sub.cell {I J : IMem} {L T : SH} {a : Addr} {v : Value} (h : Sub L T) (hle : I.le J) (hc : Cell I L a v) : Cell J T a v := hc.mono (h.keep hle)
theorem Sub.cell' {I : IMem} {L T : SH} {a : Addr} {v : Value} (h : Sub L T) (hc : Cell I L a v) : Cell I T a v := h.cell (IMem.le.refl I) hc

theorem Runs.sub {P : Program} {f : FuncId} {args : Array Value} {I : IMem} {L T : SH} {R : Value → IMem → SH → Prop} (h : Sub L T) (hr : Runs P f args I L R) : Runs P f args I T R := fun w hw => hr w (h.sat hw)
/-- a call, from what is owned among more -/
theorem Runs.use {P : Program} {f : FuncId} {args : Array Value} {I : IMem} {L T : SH} {R R' : Value → IMem → SH → Prop} (hs : Sub L T) (h : Runs P f args I L R) (hr : ∀ v J T, I.le J → R v J T → R' v J T) : Runs P f args I T R' :=
  (h.mono hr).sub hs
/-- at the end one may forget what is owned besides -/
theorem Runs.drop {P : Program} {f : FuncId} {args : Array Value} {I : IMem} {S : SH} {R : Value → IMem → SH → Prop} (h : Runs P f args I S fun v J T => ∃ L, Sub L T ∧ R v J L) : Runs P f args I S R :=
  fun w hw => (h w hw).mono fun _ _ ⟨v, J, T, he, hle, hs, L, hsub, hR⟩ => ⟨v, J, L, he, hle, hsub.sat hs, hR⟩
theorem add_mk (b o k : Nat) : (⟨b, o, none⟩ : Addr).add k = ⟨b, o + k, none⟩ := by
  unfold Addr.add; split
  · rename_i h; subst h; rfl
  · rfl
theorem add_add (a : Addr) (h : a.spot = none) (i j : Nat) : (a.add i).add j = a.add (i + j) := by
  obtain ⟨b, o, s⟩ := a
  dsimp only at h; subst h
  rw [add_mk, add_mk, add_mk, Nat.add_assoc]

theorem Cell.at0 {I : IMem} {S : SH} {b o : Nat} {cs : Array Value} {e : TypeId} {fz : Nat × Nat} {v : Value} (h : cs[o]? = some v) : Cell I ((b, .cells cs e fz) :: S) ⟨b, o, none⟩ v :=
  ⟨rfl, cs, e, fz, .inr (List.mem_cons_self ..), h⟩
theorem Cell.tl {I : IMem} {S : SH} {a : Addr} {v : Value} {p : Nat × Obj} (h : Cell I S a v) : Cell I (p :: S) a v := by
  obtain ⟨hs, cs, e, fz, hb, hv⟩ := h
  exact ⟨hs, cs, e, fz, hb.imp id (List.mem_cons_of_mem p), hv⟩
theorem Cell.im {I : IMem} {S : SH} {b o : Nat} {cs : Array Value} {e : TypeId} {fz : Nat × Nat} {v : Value} (hb : I.at_ b = some (.cells cs e fz)) (h : cs[o]? = some v) : Cell I S ⟨b, o, none⟩ v :=
  ⟨rfl, cs, e, fz, .inl hb, h⟩
theorem Cell.le {I J : IMem} {S : SH} {a : Addr} {v : Value} (hle : I.le J) (h : Cell I S a v) : Cell J S a v := h.mono ⟨hle, [], List.Perm.refl _⟩

theorem StP.at0 {S : SH} {b o : Nat} {cs : Array Value} {e : TypeId} {vs : List Value} {K : SH → Prop} (hl : o + vs.length ≤ cs.size) (ho : vs.all one = true) (h : K ((b, .cells (setR cs o vs) e (0, 0)) :: S)) :
    StP ((b, .cells cs e (0, 0)) :: S) ⟨b, o, none⟩ vs K := ⟨0, cs, e, (0, 0), rfl, rfl, hl, .inl (Nat.le_refl _), ho, h⟩
theorem StP.tl {S : SH} {a : Addr} {vs : List Value} {K : SH → Prop} {p : Nat × Obj} (h : StP S a vs fun T => K (p :: T)) : StP (p :: S) a vs K :=
  let ⟨i, cs, e, fz, h1, h2, h3, h4, h5, h6⟩ := h; ⟨i + 1, cs, e, fz, h1, by simpa using h2, h3, h4, h5, by simpa using h6⟩
theorem StP.of_sub {L T : SH} {a : Addr} {vs : List Value} {K : SH → Prop} (hs : Sub L T) (h : StP L a vs fun L' => ∀ T', Sub L' T' → K T') : StP T a vs K := by
  obtain ⟨i, cs, e, fz, h1, h2, h3, h4, h5, h6⟩ := h
  obtain ⟨G, hp⟩ := hs
  have hm : (a.block, Obj.cells cs e fz) ∈ T := hp.mem_iff.2 (List.mem_append_left _ (List.mem_of_getElem? h2))
  obtain ⟨k, hk⟩ := List.getElem?_of_mem hm
  refine ⟨k, cs, e, fz, h1, hk, h3, h4, h5, h6 _ ⟨G, ?_⟩⟩
  -- both are the same list but for one entry
  have key : ∀ (A : SH) (i : Nat) (x y : Nat × Obj), A[i]? = some x → (y :: A).Perm (x :: A.set i y) := by
    intro A
    induction A with
    | nil => intro i x y h; simp at h
    | cons z A ih =>
      intro i x y h
      cases i with
      | zero => simp at h; subst h; exact List.Perm.swap ..
      | succ i =>
        simp at h
        have := ih i x y h
        exact (List.Perm.swap z y A).trans ((this.cons z).trans (List.Perm.swap x z _))
  have k1 := key T k _ (a.block, Obj.cells (setR cs a.off vs) e fz) hk
  have k2 := key L i _ (a.block, Obj.cells (setR cs a.off vs) e fz) h2
  have k3 : ((a.block, Obj.cells cs e fz) :: T.set k (a.block, Obj.cells (setR cs a.off vs) e fz)).Perm ((a.block, Obj.cells cs e fz) :: (L.set i (a.block, Obj.cells (setR cs a.off vs) e fz) ++ G)) :=
    k1.symm.trans ((hp.cons _).trans (k2.append_right G))
  exact List.Perm.cons_inv k3

/-! ### numbers in range -/
theorem wrap_i64 {x : Int} (h1 : -9223372036854775808 ≤ x) (h2 : x ≤ 9223372036854775807) : IntKind.wrap .i64 x = x := by
  simp only [IntKind.wrap, IntKind.bits, IntKind.signed]; simp; omega
theorem wrap_u8 {x : Int} (h1 : 0 ≤ x) (h2 : x ≤ 255) : IntKind.wrap .u8 x = x := by
  simp only [IntKind.wrap, IntKind.bits, IntKind.signed]; simp; omega
theorem wrap_u32 {x : Int} (h1 : 0 ≤ x) (h2 : x ≤ 4294967295) : IntKind.wrap .u32 x = x := by
  simp only [IntKind.wrap, IntKind.bits, IntKind.signed]; simp; omega
theorem wrap_u64 {x : Int} (h1 : 0 ≤ x) (h2 : x ≤ 18446744073709551615) : IntKind.wrap .u64 x = x := by
  simp only [IntKind.wrap, IntKind.bits, IntKind.signed]; simp; omega
theorem wrap_u8_eq (x : Int) : IntKind.wrap .u8 x = x % 256 := by simp [IntKind.wrap, IntKind.bits, IntKind.signed]
theorem wrap_u64_eq (x : Int) : IntKind.wrap .u64 x = x % 18446744073709551616 := by simp [IntKind.wrap, IntKind.bits, IntKind.signed]

/-! ### rows of structs -/
section
variable {α : Type} {enc : α → List Value} {sz : Nat}
def rowA (enc : α → List Value) (xs : List α) : Array Value := (xs.flatMap enc).toArray
theorem flatMap_len (he : ∀ x, (enc x).length = sz) : ∀ xs : List α, (xs.flatMap enc).length = xs.length * sz
  | [] => by simp
  | x :: xs => by simp only [List.flatMap_cons, List.length_append, he, flatMap_len he xs, List.length_cons, Nat.succ_mul]; omega
theorem rowA_size (he : ∀ x, (enc x).length = sz) (xs : List α) : (rowA enc xs).size = xs.length * sz := by simp [rowA, flatMap_len he]
theorem flatMap_get (he : ∀ x, (enc x).length = sz) : ∀ (xs : List α) (i j : Nat) (x : α), xs[i]? = some x → j < sz → (xs.flatMap enc)[i * sz + j]? = (enc x)[j]?
  | [], i, j, x, h, _ => by simp at h
  | y :: xs, 0, j, x, h, hj => by
    simp at h; subst h
    simp only [List.flatMap_cons, Nat.zero_mul, Nat.zero_add]
    rw [List.getElem?_append_left (by rw [he]; exact hj)]
  | y :: xs, i + 1, j, x, h, hj => by
    simp at h
    simp only [List.flatMap_cons]
    rw [List.getElem?_append_right (by rw [he, Nat.succ_mul]; omega), he, show (i + 1) * sz + j - sz = i * sz + j by rw [Nat.succ_mul]; omega]
    exact flatMap_get he xs i j x h hj
theorem rowA_get (he : ∀ x, (enc x).length = sz) {xs : List α} {i j : Nat} {x : α} (h : xs[i]? = some x) (hj : j < sz) : (rowA enc xs)[i * sz + j]? = (enc x)[j]? := by
  rw [rowA, List.getElem?_toArray]; exact flatMap_get he xs i j x h hj
theorem Cell.row (he : ∀ x, (enc x).length = sz) {I : IMem} {S : SH} {b : Nat} {e : TypeId} {fz : Nat × Nat} {xs : List α} {i j : Nat} {x : α} {v : Value} (hx : xs[i]? = some x) (hj : j < sz) (hv : (enc x)[j]? = some v) :
    Cell I ((b, .cells (rowA enc xs) e fz) :: S) (((⟨b, 0, none⟩ : Addr).add (i * sz)).add j) v := by
  rw [add_mk, add_mk, Nat.zero_add]
  exact Cell.at0 ((rowA_get he hx hj).trans hv)
theorem StP.row (he : ∀ x, (enc x).length = sz) (h1 : ∀ x, (enc x).all one = true) {S : SH} {b : Nat} {e : TypeId} {xs : List α} {i : Nat} {x : α} {K : SH → Prop} (hi : i < xs.length)
    (hset : setR (rowA enc xs) (i * sz) (enc x) = rowA enc (xs.set i x)) (h : K ((b, .cells (rowA enc (xs.set i x)) e (0, 0)) :: S)) :
    StP ((b, .cells (rowA enc xs) e (0, 0)) :: S) ((⟨b, 0, none⟩ : Addr).add (i * sz)) (enc x) K := by
  rw [add_mk, Nat.zero_add]
  refine StP.at0 ?_ (h1 x) ?_
  · rw [he, rowA_size he, ← Nat.succ_mul]; exact Nat.mul_le_mul_right _ hi
  · rw [hset]; exact h
theorem setR_list : ∀ (vs cs : List Value) (o : Nat), o + vs.length ≤ cs.length → setR cs.toArray o vs = (cs.take o ++ vs ++ cs.drop (o + vs.length)).toArray
  | [], cs, o, _ => by simp [setR]
  | v :: vs, cs, o, h => by
    simp only [List.length_cons] at h
    have : cs.toArray.setIfInBounds o v = (cs.set o v).toArray := by simp
    rw [setR, this, setR_list vs (cs.set o v) (o + 1) (by simp; omega)]
    congr 1
    rw [List.take_set, List.drop_set_of_lt (by omega)]
    rw [List.take_succ_eq_append_getElem (by omega : o < cs.length)]
    rw [List.set_append_right _ _ (by simp; omega)]
    have h1 : o - (List.take o cs).length = 0 := by simp; omega
    rw [h1]
    simp only [List.set_cons_zero, List.append_assoc, List.cons_append, List.nil_append, List.length_cons]
    rw [show o + 1 + vs.length = o + (vs.length + 1) by omega]
end
end Go.Px
/- From what a call does to what the model's rows ask. -/
namespace Go.Px
open Go.RowKit
def imW (W : World) : IMem := ⟨fun b => W.heap[b]?, W.os, W.tape, W.output, W.drawn⟩
theorem imW_sat (W : World) : Sat (imW W) [] W := ⟨rfl, rfl, rfl, Nat.le_refl _, fun _ _ h => h, (fun _ h => by cases h), (fun _ h => by cases h), List.nodup_nil⟩
theorem Runs.below {P : Program} {f : FuncId} {args : Array Value} {W : World} {u : Value} (h : Runs P f args (imW W) [] fun v _ _ => v = u) : Calls P f args W fun e W' => e = .returned u ∧ Below W.heap.size W W' := by
  refine (h W (imW_sat W)).mono ?_
  rintro e W' ⟨v, J, T, rfl, hle, hs, rfl⟩
  have hb : ∀ i, i < W.heap.size → W'.heap[i]? = W.heap[i]? := fun i hi => by
    have h1 : (imW W).at_ i = some W.heap[i] := Array.getElem?_eq_getElem hi
    rw [hs.im i _ (hle.at_ i _ h1), Array.getElem?_eq_getElem hi]
  refine ⟨rfl, hs.os.trans hle.os, hs.tape.trans hle.tape, hs.out.trans hle.out, ?_, fun i hi => hb i hi⟩
  rcases Nat.lt_or_ge W'.heap.size W.heap.size with hlt | hge
  · have := hb W'.heap.size hlt
    rw [Array.getElem?_eq_none (Nat.le_refl _), Array.getElem?_eq_getElem hlt] at this
    cases this
  · exact hge
end Go.Px
/- What a slice that is read as data holds. -/
namespace Go.Px
set_option linter.unusedVariables false
section
variable {H : Type} {enc : TypeId × Value → H} {P : Program} {W : World} {sp : Nat → Bool} {held : Bool} {n : Nat} {t : TypeId} {c : Value} {x : DataW H × List MemPlace}
theorem trod_int {k : IntKind} (hu : P.underlying t = some (.int k)) (h : DataW.trod enc P W 0 sp held n t [c] = some x) : ∃ m, c = .int k m ∧ (Lit.int k m).wf = true := by
  cases n with
  | zero => simp [DataW.trod] at h
  | succ n =>
    unfold DataW.trod at h
    rw [hu] at h
    split at h <;> simp_all
theorem trod_str (hu : P.underlying t = some .string) (h : DataW.trod enc P W 0 sp held n t [c] = some x) : ∃ m, c = .string m ∧ m.size ≤ maxLen := by
  cases n with
  | zero => simp [DataW.trod] at h
  | succ n =>
    unfold DataW.trod at h
    rw [hu] at h
    split at h <;> simp_all
theorem trod_field {cs : List Value} {fs : Array Field} (hE : P.underlying t = some (.struct fs)) (h : DataW.trod enc P W 0 sp held n t cs = some x) (i : Nat) (f : Field) (hf : fs[i]? = some f) : ∃ n' y, DataW.trod enc P W 0 sp held n' f.type ((cs.drop f.offset).take (P.cellsOf f.type)) = some y := by
  obtain ⟨xs, n', _, _, _, hl, hx⟩ := DataW.trod_struct hE h
  have hi : i < xs.length := by
    rcases Nat.lt_or_ge i fs.size with g | g
    · omega
    · rw [Array.getElem?_eq_none g] at hf; cases hf
  exact ⟨n', xs[i], (hx i f hf).trans (List.getElem?_eq_getElem hi)⟩
/-- a slice that stays as it is: its elements -/
def SlIn {α : Type} (I : IMem) (a : Option Addr) (len sz : Nat) (el : α → List Value) (xs : List α) : Prop :=
  xs.length = len ∧ ∀ i x, xs[i]? = some x → ∃ a', a = some a' ∧ ∀ j v, (el x)[j]? = some v → Cell I [] ((a'.add (i * sz)).add j) v
theorem SlIn.cell {α : Type} {I : IMem} {a : Option Addr} {len sz : Nat} {el : α → List Value} {xs : List α} (h : SlIn I a len sz el xs) {i : Nat} {x : α} (hx : xs[i]? = some x) : ∃ a', a = some a' ∧ ∀ J T, I.le J → ∀ j v, (el x)[j]? = some v → Cell J T ((a'.add (i * sz)).add j) v := by
  obtain ⟨a', ha, hc⟩ := h.2 i x hx
  exact ⟨a', ha, fun J T hle j v hj => Sub.cell ⟨T, List.Perm.refl _⟩ hle (hc j v hj)⟩
end
end Go.Px
/- Words for maps and for bytes that are read as words. -/
namespace Go.Px
set_option linter.unusedVariables false
set_option linter.unusedSectionVars false
set_option linter.unusedSimpArgs false

def byV (s : ByteArray) : Array Value := (s.data.toList.map fun c => Value.int .u8 (c.toNat : Int)).toArray
theorem byV_get (s : ByteArray) (i : Nat) : (byV s)[i]? = (s[i]?).map fun c => Value.int .u8 (c.toNat : Int) := by
  unfold byV
  rw [List.getElem?_toArray, List.getElem?_map]
  congr 1
  by_cases h : i < s.size
  · rw [getElem?_pos s i h, List.getElem?_eq_getElem (by simpa using h)]; rfl
  · rw [getElem?_neg s i h, List.getElem?_eq_none (by simpa using h)]
theorem BytesAt.at0 {I : IMem} {S : SH} {b n : Nat} {e : TypeId} {fz : Nat × Nat} {cs : Array Value} (s : ByteArray) (hn : n = s.size) (h : cs = byV s) : BytesAt I ((b, .cells cs e fz) :: S) (some ⟨b, 0, none⟩) n s := by
  subst hn h
  refine ⟨rfl, fun i c hc => ?_⟩
  rw [add_mk, Nat.zero_add]
  exact Cell.at0 (by rw [byV_get, hc]; rfl)
theorem BytesAt.tl {I : IMem} {S : SH} {p : Option Addr} {n : Nat} {s : ByteArray} {q : Nat × Obj} (h : BytesAt I S p n s) : BytesAt I (q :: S) p n s := by
  cases p with
  | none => exact h
  | some a => exact ⟨h.1, fun i c hc => Cell.tl (h.2 i c hc)⟩

/-! ### maps -/
section
variable {κ υ : Type} [DecidableEq κ]
def look : List (κ × υ) → κ → Nat → Option (Nat × υ)
  | [], _, _ => none
  | (a, v) :: l, k, j => if k = a then some (j, v) else look l k (j + 1)
theorem look_some {k : κ} {v : υ} : ∀ {l : List (κ × υ)} {j i : Nat}, look l k j = some (i, v) → j ≤ i ∧ l[i - j]? = some (k, v)
  | [], j, i, h => by simp [look] at h
  | (a, u) :: l, j, i, h => by
    simp only [look] at h
    split at h
    · rename_i e; subst e
      injection h with h; injection h with h1 h2; subst h1; subst h2
      exact ⟨Nat.le_refl _, by simp⟩
    · obtain ⟨h1, h2⟩ := look_some h
      exact ⟨by omega, by rw [show i - j = (i - (j + 1)) + 1 by omega]; simpa using h2⟩
theorem look_none {k : κ} : ∀ {l : List (κ × υ)} {j : Nat}, look l k j = none → ∀ v, (k, v) ∉ l
  | [], j, h, v => by simp
  | (a, u) :: l, j, h, v => by
    simp only [look] at h
    split at h
    · cases h
    · rename_i e
      intro hm
      rcases List.mem_cons.1 hm with hm | hm
      · injection hm with h1 _; exact e h1
      · exact look_none h v hm
variable (kd : TypeDesc) (ek : κ → Value) (ew : υ → Value)
def KeyOK : Prop := ∀ a b : κ, Instr.sameNow kd (ek a) (ek b) = some (decide (a = b))
variable {kd ek ew}
theorem findNow_look (hk : KeyOK kd ek) (k : κ) : ∀ (l : List (κ × υ)) (es : List MapEntry) (j : Nat), es.map (fun e => (e.key, e.val)) = l.map (fun p => (ek p.1, ew p.2)) →
    Instr.findNow kd (ek k) es j = some ((look l k j).map fun p => (p.1, ew p.2))
  | [], [], j, _ => rfl
  | [], e :: es, j, h => by simp at h
  | p :: l, [], j, h => by simp at h
  | (a, v) :: l, e :: es, j, h => by
    simp only [List.map_cons, List.cons.injEq, Prod.mk.injEq] at h
    obtain ⟨⟨h1, h2⟩, h3⟩ := h
    unfold Instr.findNow
    rw [h1, hk]
    by_cases he : k = a
    · simp [look, he, h2]
    · simp only [look, he, decide_false, if_false]
      exact findNow_look hk k l es (j + 1) h3
/-- a map's entries, as a finite map of so many words -/
def MpI (ek : κ → Value) (ew : υ → Value) (es : Array MapEntry) (M : κ → Option υ) (n : Nat) : Prop :=
  ∃ l : List (κ × υ), es.toList.map (fun e => (e.key, e.val)) = l.map (fun p => (ek p.1, ew p.2)) ∧ (l.map (·.1)).Nodup ∧ (∀ k v, M k = some v ↔ (k, v) ∈ l) ∧ l.length = n
def fput (M : κ → Option υ) (k : κ) (v : υ) : κ → Option υ := fun x => if x = k then some v else M x
def fdel (M : κ → Option υ) (k : κ) : κ → Option υ := fun x => if x = k then none else M x
theorem MpI.nil : MpI ek ew #[] (fun _ => none) 0 := ⟨[], rfl, List.nodup_nil, fun k v => by simp, rfl⟩
theorem MpI.size {es : Array MapEntry} {M : κ → Option υ} {n : Nat} (h : MpI ek ew es M n) : es.size = n := by
  obtain ⟨l, h1, _, _, h4⟩ := h
  have := congrArg List.length h1
  simpa [h4] using this
theorem MpI.find (hk : KeyOK kd ek) {es : Array MapEntry} {M : κ → Option υ} {n : Nat} (h : MpI ek ew es M n) (k : κ) :
    (∃ i v, M k = some v ∧ Instr.findNow kd (ek k) es.toList 0 = some (some (i, ew v))) ∨ (M k = none ∧ Instr.findNow kd (ek k) es.toList 0 = some none) := by
  obtain ⟨l, h1, h2, h3, h4⟩ := h
  rw [findNow_look hk k l es.toList 0 h1]
  cases hl : look l k 0 with
  | none => exact .inr ⟨by cases hM : M k with
      | none => rfl
      | some v => exact absurd ((h3 k v).1 hM) (look_none hl v), rfl⟩
  | some p =>
    obtain ⟨i, v⟩ := p
    obtain ⟨_, hi⟩ := look_some hl
    exact .inl ⟨i, v, (h3 k v).2 (List.mem_of_getElem? hi), rfl⟩
theorem MapAt.of (hk : KeyOK kd ek) {I : IMem} {S : SH} {r clock : Nat} {es : Array MapEntry} {M : κ → Option υ} {n : Nat} (hc : MpC I S r es clock) (h : MpI ek ew es M n) (k : κ) (z : Value) :
    MapAt I S (some r) kd (ek k) z (match M k with | some v => ew v | none => z) (M k).isSome := by
  refine ⟨es, ⟨clock, hc⟩, ?_⟩
  rcases h.find hk k with ⟨i, v, hM, hf⟩ | ⟨hM, hf⟩
  · rw [hM]; exact .inl ⟨i, hf, rfl⟩
  · rw [hM]; exact .inr ⟨hf, rfl, rfl⟩
theorem mapSet_ok (hk : KeyOK kd ek) {clock : Nat} {es : Array MapEntry} {M : κ → Option υ} {n : Nat} (h : MpI ek ew es M n) (k : κ) (v : υ) :
    ∃ es' clock', mapSet kd (ek k) (ew v) es clock = some (es', clock') ∧ MpI ek ew es' (fput M k v) (n + if (M k).isSome then 0 else 1) := by
  obtain ⟨l, h1, h2, h3, h4⟩ := h
  unfold mapSet
  rw [findNow_look hk k l es.toList 0 h1]
  cases hl : look l k 0 with
  | none =>
    have hnone : M k = none := by
      cases hM : M k with
      | none => rfl
      | some u => exact absurd ((h3 k u).1 hM) (look_none hl u)
    refine ⟨_, _, rfl, l ++ [(k, v)], by simp [h1], ?_, fun x u => ?_, by simp [h4, hnone]⟩
    · rw [List.map_append, List.nodup_append]
      refine ⟨h2, by simp, ?_⟩
      intro a ha b hb
      simp at hb
      subst hb
      obtain ⟨p, hp, rfl⟩ := List.mem_map.1 ha
      intro e
      exact look_none hl p.2 (by rw [← e]; exact hp)
    · simp only [fput, List.mem_append, List.mem_singleton, Prod.mk.injEq]
      by_cases hx : x = k
      · subst hx
        simp only [if_true, true_and, Option.some.injEq]
        exact ⟨fun e => .inr e.symm, fun e => e.elim (fun hm => absurd hm (look_none hl u)) Eq.symm⟩
      · simp [hx, h3]
  | some p =>
    obtain ⟨i, u⟩ := p
    obtain ⟨_, hi⟩ := look_some hl
    simp only [Nat.sub_zero] at hi
    have hil : i < l.length := by
      rcases Nat.lt_or_ge i l.length with g | g
      · exact g
      · rw [List.getElem?_eq_none g] at hi; cases hi
    have hsome : M k = some u := (h3 k u).2 (List.mem_of_getElem? hi)
    refine ⟨_, _, rfl, l.set i (k, v), ?_, ?_, fun x w => ?_, by simp [h4, hsome]⟩
    · apply List.ext_getElem?
      intro j
      have hj := congrArg (fun z : List (Value × Value) => z[j]?) h1
      simp only [List.getElem?_map, Array.getElem?_toList] at hj
      simp only [List.getElem?_map, Array.getElem?_toList, Array.getElem?_modify, List.getElem?_set]
      by_cases hij : i = j
      · subst hij
        rw [List.getElem?_eq_getElem hil] at hj
        cases he : es[i]? with
        | none => rw [he] at hj; cases hj
        | some e => simp [hil]
      · simp [hij, hj]
    · have : (l.set i (k, v)).map (·.1) = l.map (·.1) := by
        rw [List.map_set]
        apply List.ext_getElem?
        intro j
        rw [List.getElem?_set]
        split
        · rename_i e; subst e
          split
          · rw [List.getElem?_map, hi]; rfl
          · rename_i hlt; rw [List.getElem?_eq_none (by simpa using hlt)]
        · rfl
      rw [this]; exact h2
    · have huniq : ∀ (j : Nat) (w : υ), l[j]? = some (k, w) → j = i := fun j w hj => by
        have e1 : (l.map (·.1))[j]? = some k := by simp [hj]
        have e2 : (l.map (·.1))[i]? = some k := by simp [hi]
        have hj' : j < (l.map (·.1)).length := (List.getElem?_eq_some_iff.1 e1).1
        have hi' : i < (l.map (·.1)).length := (List.getElem?_eq_some_iff.1 e2).1
        exact (List.getElem_inj h2).1 ((List.getElem?_eq_some_iff.1 e1).2.trans (List.getElem?_eq_some_iff.1 e2).2.symm)
      simp only [fput]
      by_cases hx : x = k
      · subst hx
        simp only [if_true, Option.some.injEq]
        constructor
        · rintro rfl; exact List.mem_of_getElem? (i := i) (by simp [hil])
        · intro hm
          obtain ⟨j, hj⟩ := List.getElem?_of_mem hm
          rw [List.getElem?_set] at hj
          split at hj
          · simp [hil] at hj; exact hj
          · rename_i hne; exact absurd (huniq j w hj).symm hne
      · simp only [hx, if_false, h3]
        constructor
        · intro hm
          obtain ⟨j, hj⟩ := List.getElem?_of_mem hm
          refine List.mem_of_getElem? (i := j) ?_
          rw [List.getElem?_set, if_neg (fun e => by subst e; rw [hi] at hj; injection hj with hj; injection hj with e1 _; exact hx e1.symm)]
          exact hj
        · intro hm
          obtain ⟨j, hj⟩ := List.getElem?_of_mem hm
          rw [List.getElem?_set] at hj
          split at hj
          · simp [hil] at hj; exact absurd hj.1.symm hx
          · exact List.mem_of_getElem? hj
theorem mapDel_ok (hk : KeyOK kd ek) {es : Array MapEntry} {M : κ → Option υ} {n : Nat} (h : MpI ek ew es M n) (k : κ) :
    ∃ es', mapDel kd (ek k) es = some es' ∧ MpI ek ew es' (fdel M k) (n - if (M k).isSome then 1 else 0) := by
  obtain ⟨l, h1, h2, h3, h4⟩ := h
  unfold mapDel
  rw [findNow_look hk k l es.toList 0 h1]
  cases hl : look l k 0 with
  | none =>
    have hnone : M k = none := by
      cases hM : M k with
      | none => rfl
      | some u => exact absurd ((h3 k u).1 hM) (look_none hl u)
    refine ⟨_, rfl, l, h1, h2, fun x u => ?_, by simp [h4, hnone]⟩
    simp only [fdel]
    by_cases hx : x = k
    · subst hx; simp only [if_true]; exact ⟨(fun e => by cases e), fun hm => absurd hm (look_none hl u)⟩
    · simp [hx, h3]
  | some p =>
    obtain ⟨i, u⟩ := p
    obtain ⟨_, hi⟩ := look_some hl
    simp only [Nat.sub_zero] at hi
    have hil : i < l.length := by
      rcases Nat.lt_or_ge i l.length with g | g
      · exact g
      · rw [List.getElem?_eq_none g] at hi; cases hi
    have hsome : M k = some u := (h3 k u).2 (List.mem_of_getElem? hi)
    have hes : i < es.size := by have := congrArg List.length h1; simp at this; omega
    refine ⟨_, rfl, l.eraseIdx i, ?_, ?_, fun x w => ?_, by rw [List.length_eraseIdx, if_pos hil, h4, hsome]; rfl⟩
    · have : (es.eraseIdxIfInBounds i).toList = es.toList.eraseIdx i := by simp [Array.eraseIdxIfInBounds, hes, Array.toList_eraseIdx]
      rw [this]
      have key : ∀ {α β : Type} (f : α → β) (xs : List α) (i : Nat), (xs.eraseIdx i).map f = (xs.map f).eraseIdx i := by
        intro α β f xs
        induction xs with
        | nil => intro i; simp
        | cons x xs ih => intro i; cases i with
          | zero => simp
          | succ i => simp [ih]
      rw [key, key, h1]
    · have key : ((l.eraseIdx i).map (·.1)).Sublist (l.map (·.1)) := (List.eraseIdx_sublist l i).map _
      exact key.nodup h2
    · have huniq : ∀ (j : Nat) (w : υ), l[j]? = some (k, w) → j = i := fun j w hj => by
        have e1 : (l.map (·.1))[j]? = some k := by simp [hj]
        have e2 : (l.map (·.1))[i]? = some k := by simp [hi]
        exact (List.getElem_inj h2).1 ((List.getElem?_eq_some_iff.1 e1).2.trans (List.getElem?_eq_some_iff.1 e2).2.symm)
      simp only [fdel]
      have hmem : (x, w) ∈ l.eraseIdx i ↔ ∃ j, j ≠ i ∧ l[j]? = some (x, w) := by rw [List.mem_eraseIdx_iff_getElem?]
      rw [hmem]
      by_cases hx : x = k
      · subst hx; simp only [if_true]; exact ⟨(fun e => by cases e), fun ⟨j, hj, he⟩ => absurd (huniq j w he) hj⟩
      · simp only [hx, if_false, h3]
        constructor
        · intro hm
          obtain ⟨j, hj⟩ := List.getElem?_of_mem hm
          exact ⟨j, fun e => by subst e; rw [hi] at hj; injection hj with hj; injection hj with e1 _; exact hx e1.symm, hj⟩
        · rintro ⟨j, _, hj⟩; exact List.mem_of_getElem? hj
theorem Sub.put {p : Nat × Obj} {L T : SH} (h : Sub (p :: L) T) (q : Nat × Obj) : ∃ i, T[i]? = some p ∧ Sub (q :: L) (T.set i q) := by
  obtain ⟨G, hp⟩ := h
  have hm : p ∈ T := hp.mem_iff.2 (by simp)
  obtain ⟨i, hi⟩ := List.getElem?_of_mem hm
  refine ⟨i, hi, G, ?_⟩
  have key : ∀ (A : SH) (i : Nat) (x y : Nat × Obj), A[i]? = some x → (y :: A).Perm (x :: A.set i y) := by
    intro A
    induction A with
    | nil => intro i x y h; simp at h
    | cons z A ih =>
      intro i x y h
      cases i with
      | zero => simp at h; subst h; exact List.Perm.swap ..
      | succ i =>
        simp at h
        have := ih i x y h
        exact (List.Perm.swap z y A).trans ((this.cons z).trans (List.Perm.swap x z _))
  have k1 := key T i p q hi
  have k2 : (p :: T.set i q).Perm (p :: (q :: (L ++ G))) := k1.symm.trans ((hp.cons q).trans (List.Perm.swap ..))
  exact List.Perm.cons_inv k2
theorem MpC.of_sub {I : IMem} {L T : SH} {r clock : Nat} {es : Array MapEntry} (h : Sub ((r, .map es clock) :: L) T) : MpC I T r es clock := by
  obtain ⟨G, hp⟩ := h
  exact .inr (hp.mem_iff.2 (by simp))
theorem MapSt.of (hk : KeyOK kd ek) {L T : SH} {r clock : Nat} {es : Array MapEntry} {M : κ → Option υ} {n : Nat} (hs : Sub ((r, .map es clock) :: L) T) (h : MpI ek ew es M n) (k : κ) (v : υ) {K : SH → Prop}
    (hK : ∀ es' clock' T', MpI ek ew es' (fput M k v) (n + if (M k).isSome then 0 else 1) → Sub ((r, .map es' clock') :: L) T' → K T') : MapSt T (some r) kd (ek k) (ew v) K := by
  obtain ⟨es', clock', h1, h2⟩ := mapSet_ok (clock := clock) hk h k v
  obtain ⟨i, hi, hs'⟩ := hs.put (r, .map es' clock')
  exact ⟨r, i, es, clock, es', clock', rfl, hi, h1, hK es' clock' _ h2 hs'⟩
theorem MapDl.of (hk : KeyOK kd ek) {L T : SH} {r clock : Nat} {es : Array MapEntry} {M : κ → Option υ} {n : Nat} (hs : Sub ((r, .map es clock) :: L) T) (h : MpI ek ew es M n) (k : κ) {K : SH → Prop}
    (hK : ∀ es' T', MpI ek ew es' (fdel M k) (n - if (M k).isSome then 1 else 0) → Sub ((r, .map es' clock) :: L) T' → K T') : MapDl T (some r) kd (ek k) K := by
  obtain ⟨es', h1, h2⟩ := mapDel_ok hk h k
  obtain ⟨i, hi, hs'⟩ := hs.put (r, .map es' clock)
  exact ⟨i, es, clock, es', hi, h1, hK es' _ h2 hs'⟩
theorem MapLen.of {I : IMem} {L T : SH} {r clock : Nat} {es : Array MapEntry} {M : κ → Option υ} {n : Nat} (hs : Sub ((r, .map es clock) :: L) T) (h : MpI ek ew es M n) : MapLen I T (some r) n := ⟨es, clock, MpC.of_sub hs, h.size.symm⟩
end
end Go.Px
/- Rows that a call owns, whatever their elements: reading, writing, appending, copying. -/
namespace Go.Px
set_option linter.unusedVariables false
set_option linter.unusedSimpArgs false

section
variable {α : Type} {el : α → List Value} {sz : Nat}
/-- a slice's elements -/
def RowIn (I : IMem) (S : SH) (a : Option Addr) (len sz : Nat) (el : α → List Value) (xs : List α) : Prop :=
  xs.length = len ∧ ∀ i x, xs[i]? = some x → ∃ a', a = some a' ∧ a'.spot = none ∧ ∀ j v, (el x)[j]? = some v → Cell I S ((a'.add (i * sz)).add j) v
theorem RowIn.keep {I J : IMem} {S T : SH} {a : Option Addr} {len : Nat} {xs : List α} (hk : Keep I S J T) (h : RowIn I S a len sz el xs) : RowIn J T a len sz el xs :=
  ⟨h.1, fun i x hx => let ⟨a', h1, h2, h3⟩ := h.2 i x hx; ⟨a', h1, h2, fun j v hj => (h3 j v hj).mono hk⟩⟩
theorem RowIn.sub {I : IMem} {S T : SH} {a : Option Addr} {len : Nat} {xs : List α} (hs : Sub S T) (h : RowIn I S a len sz el xs) : RowIn I T a len sz el xs := h.keep (hs.keep (IMem.le.refl I))
theorem RowIn.le {I J : IMem} {S : SH} {a : Option Addr} {len : Nat} {xs : List α} (hle : I.le J) (h : RowIn I S a len sz el xs) : RowIn J S a len sz el xs := h.keep ((Sub.refl S).keep hle)
theorem RowIn.cell {I : IMem} {S : SH} {a : Option Addr} {len : Nat} {xs : List α} (h : RowIn I S a len sz el xs) {i : Nat} {x : α} (hx : xs[i]? = some x) : ∃ a', a = some a' ∧ ∀ j v, (el x)[j]? = some v → Cell I S ((a'.add (i * sz)).add j) v :=
  let ⟨a', h1, _, h3⟩ := h.2 i x hx; ⟨a', h1, h3⟩
theorem RowIn.take {I : IMem} {S : SH} {a : Option Addr} {len j : Nat} {xs : List α} (h : RowIn I S a len sz el xs) (hj : j ≤ len) : RowIn I S a j sz el (xs.take j) := by
  refine ⟨by rw [List.length_take, h.1]; omega, fun i x hx => ?_⟩
  rw [List.getElem?_take] at hx
  split at hx
  · exact h.2 i x hx
  · cases hx
theorem RowIn.drop {I : IMem} {S : SH} {a : Option Addr} {len j c : Nat} {xs : List α} (h : RowIn I S a len sz el xs) (hj : j ≤ len) (hc : len ≤ c) : RowIn I S (slA a c j sz) (len - j) sz el (xs.drop j) := by
  refine ⟨by rw [List.length_drop, h.1], fun i x hx => ?_⟩
  rw [List.getElem?_drop] at hx
  obtain ⟨a', rfl, hs, hcl⟩ := h.2 _ x hx
  have hlt : j + i < xs.length := by
    rcases Nat.lt_or_ge (j + i) xs.length with g | g
    · exact g
    · rw [List.getElem?_eq_none g] at hx; cases hx
  rw [h.1] at hlt
  unfold slA
  rw [if_neg (by omega)]
  refine ⟨a'.add (j * sz), rfl, ?_, fun k v hk => ?_⟩
  · obtain ⟨b, o, sp⟩ := a'
    dsimp only at hs; subst hs
    rw [add_mk]
  · rw [add_add _ hs, ← Nat.add_mul]; exact hcl k v hk
theorem flatMap_at (he : ∀ x, (el x).length = sz) (hsz : 0 < sz) : ∀ {xs : List α} {j : Nat} {u : Value}, (xs.flatMap el)[j]? = some u → ∃ x, xs[j / sz]? = some x ∧ (el x)[j % sz]? = some u
  | [], j, u, h => by simp at h
  | x :: xs, j, u, h => by
    simp only [List.flatMap_cons] at h
    by_cases hj : j < sz
    · rw [List.getElem?_append_left (by rw [he]; exact hj)] at h
      exact ⟨x, by rw [Nat.div_eq_of_lt hj]; rfl, by rw [Nat.mod_eq_of_lt hj]; exact h⟩
    · rw [List.getElem?_append_right (by rw [he]; omega), he] at h
      obtain ⟨y, h1, h2⟩ := flatMap_at he hsz h
      refine ⟨y, ?_, ?_⟩
      · rw [show j / sz = (j - sz) / sz + 1 by rw [Nat.div_eq_sub_div hsz (by omega)]]
        simpa using h1
      · rw [Nat.mod_eq_sub_mod (by omega)]; exact h2
theorem RowIn.rd (he : ∀ x, (el x).length = sz) (hsz : 0 < sz) {I : IMem} {S : SH} {a : Option Addr} {len c : Nat} {xs : List α} (h : RowIn I S a len sz el xs) : Rd I S sz (.slice a len c) len (xs.flatMap el) := by
  refine ⟨a, c, rfl, by rw [flatMap_len he, h.1], fun j u hj => ?_⟩
  obtain ⟨x, h1, h2⟩ := flatMap_at he hsz hj
  obtain ⟨a', ha, hs, hc⟩ := h.2 _ x h1
  refine ⟨a', ha, ?_⟩
  have := hc _ u h2
  rw [add_add _ hs, Nat.mul_comm, Nat.div_add_mod] at this
  exact this
theorem flatMap_one (ho : ∀ x, (el x).all one = true) : ∀ xs : List α, (xs.flatMap el).all one = true
  | [] => rfl
  | x :: xs => by simp only [List.flatMap_cons, List.all_append, ho, flatMap_one ho xs, Bool.and_self]

/-! ### a block as a list -/
theorem StP.list {S : SH} {g o : Nat} {L : List Value} {e : TypeId} {vs : List Value} {K : SH → Prop} (hl : o + vs.length ≤ L.length) (ho : vs.all one = true) (h : K ((g, .cells (L.take o ++ vs ++ L.drop (o + vs.length)).toArray e (0, 0)) :: S)) :
    StP ((g, .cells L.toArray e (0, 0)) :: S) ⟨g, o, none⟩ vs K := by
  refine StP.at0 (by simpa using hl) ho ?_
  rw [setR_list _ _ _ hl]; exact h
theorem Rd.list {I : IMem} {S : SH} {g o m c : Nat} {L vs : List Value} {e : TypeId} {fz : Nat × Nat} (hv : vs = (L.drop o).take (m * sz)) (hl : o + m * sz ≤ L.length) : Rd I ((g, .cells L.toArray e fz) :: S) sz (.slice (some ⟨g, o, none⟩) m c) m vs := by
  subst hv
  refine ⟨_, c, rfl, by simp; omega, fun j u hj => ⟨_, rfl, ?_⟩⟩
  rw [add_mk]
  refine Cell.at0 ?_
  rw [List.getElem?_toArray]
  rw [List.getElem?_take] at hj
  split at hj
  · rw [List.getElem?_drop] at hj; exact hj
  · cases hj
theorem Rd.none {I : IMem} {S : SH} {a : Option Addr} {c : Nat} : Rd I S sz (.slice a 0 c) 0 [] := ⟨a, c, rfl, by simp, fun j u h => by simp at h⟩
theorem Rd.keep {I J : IMem} {S T : SH} {x : Value} {m : Nat} {vs : List Value} (hk : Keep I S J T) (h : Rd I S sz x m vs) : Rd J T sz x m vs :=
  let ⟨A, c, h1, h2, h3⟩ := h; ⟨A, c, h1, h2, fun j u hj => let ⟨a, ha, hc⟩ := h3 j u hj; ⟨a, ha, hc.mono hk⟩⟩

/-! ### a row that the call owns -/
def OwnR (e : TypeId) (sz : Nat) (el : α → List Value) (v : Value) (xs : List α) (own : SH) : Prop :=
  (v = .slice none 0 0 ∧ xs = [] ∧ own = []) ∨
    ∃ g cap rest, v = .slice (some ⟨g, 0, none⟩) xs.length cap ∧ own = [(g, .cells (xs.flatMap el ++ rest).toArray e (0, 0))] ∧ xs.length * sz + rest.length = cap * sz ∧ cap ≤ maxLen
theorem OwnR.nil {e : TypeId} : OwnR e sz el (.slice none 0 0) [] [] := .inl ⟨rfl, rfl, rfl⟩
theorem OwnR.slice {e : TypeId} {v : Value} {xs : List α} {own : SH} (h : OwnR e sz el v xs own) : ∃ a c, v = .slice a xs.length c := by
  rcases h with ⟨rfl, rfl, _⟩ | ⟨g, cap, rest, rfl, _⟩
  · exact ⟨_, _, rfl⟩
  · exact ⟨_, _, rfl⟩
theorem OwnR.len {e : TypeId} {a : Option Addr} {n c : Nat} {xs : List α} {own : SH} (h : OwnR e sz el (.slice a n c) xs own) : n = xs.length := by
  obtain ⟨a', c', he⟩ := h.slice
  injection he
theorem OwnR.row (he : ∀ x, (el x).length = sz) {e : TypeId} {I : IMem} {a : Option Addr} {n c : Nat} {xs : List α} {own : SH} (h : OwnR e sz el (.slice a n c) xs own) : RowIn I own a n sz el xs := by
  refine ⟨h.len.symm, fun i x hx => ?_⟩
  rcases h with ⟨_, rfl, _⟩ | ⟨g, cap, rest, hv, rfl, _⟩
  · simp at hx
  · injection hv with ha
    refine ⟨_, ha, rfl, fun j v hj => ?_⟩
    rw [add_mk, add_mk, Nat.zero_add]
    refine Cell.at0 ?_
    have hil : i < xs.length := by
      rcases Nat.lt_or_ge i xs.length with h | h
      · exact h
      · rw [List.getElem?_eq_none h] at hx; cases hx
    have hjl : j < sz := by
      rcases Nat.lt_or_ge j (el x).length with h | h
      · rw [he] at h; exact h
      · rw [List.getElem?_eq_none h] at hj; cases hj
    rw [List.getElem?_toArray, List.getElem?_append_left, flatMap_get he xs i j x hx hjl]
    · exact hj
    · rw [flatMap_len he]
      have := Nat.mul_le_mul_right sz (Nat.succ_le_of_lt hil)
      rw [Nat.succ_mul] at this; omega
theorem take_flat (he : ∀ x, (el x).length = sz) (xs : List α) (rest : List Value) : (xs.flatMap el ++ rest).take (xs.length * sz) = xs.flatMap el := by
  rw [← flatMap_len he xs]; exact List.take_left
theorem drop_flat (he : ∀ x, (el x).length = sz) (xs : List α) (rest : List Value) : (xs.flatMap el ++ rest).drop (xs.length * sz) = rest := by
  rw [← flatMap_len he xs]; exact List.drop_left
/-- what is appended to a row of the call's own -/
theorem AppG.own (he : ∀ x, (el x).length = sz) (ho : ∀ x, (el x).all one = true) {e : TypeId} {bytes : Nat} {z : List Value} {td : Option TypeDesc} {I : IMem} {S own F : SH} {v x : Value} {xs ys : List α} {K : Option Addr → Nat → Nat → SH → Prop}
    (hz : z.length = sz) (hp : S.Perm (own ++ F)) (hv : OwnR e sz el v xs own) (hx : SrcP td sz z I S x ys.length (ys.flatMap el)) (hm : xs.length + ys.length ≤ maxLen) (hb : (xs.length + ys.length) * bytes ≤ 140737488355328)
    (hK : ∀ p n c own', OwnR e sz el (.slice p n c) (xs ++ ys) own' → K p n c (own' ++ F)) : AppG e sz bytes z td I S v x K := by
  have hlen : (xs ++ ys).length = xs.length + ys.length := List.length_append
  have grow : ∀ g c, xs.length + ys.length ≤ c → c ≤ maxLen → OwnR e sz el (.slice (some ⟨g, 0, none⟩) (xs.length + ys.length) c) (xs ++ ys) [(g, .cells (xs.flatMap el ++ ys.flatMap el ++ repV (c - (xs.length + ys.length)) z).toArray e (0, 0))] := by
    intro g c h1 h2
    refine .inr ⟨g, c, repV (c - (xs.length + ys.length)) z, by rw [hlen], by rw [List.flatMap_append], ?_, h2⟩
    rw [repV_length, hz, hlen, ← Nat.add_mul]; congr 1; omega
  rcases hv with ⟨rfl, rfl, rfl⟩ | ⟨g, cap, rest, rfl, rfl, hr, hc⟩
  · refine ⟨[] ++ F, [], F, none, 0, 0, ys.length, [], ys.flatMap el, hp, List.Perm.refl _, rfl, hx, by simpa using hm, by simpa using hb, fun h => .inl ?_, fun h => ⟨Rd.none, fun g c h1 h2 => ?_⟩⟩
    · have hy : ys = [] := List.eq_nil_of_length_eq_zero (by omega)
      subst hy
      exact ⟨rfl, hK none 0 0 [] OwnR.nil⟩
    · have := hK (some ⟨g, 0, none⟩) _ c _ (by simpa using grow g c (by simpa using h1) h2)
      simpa using this
  · refine ⟨_, [_], F, some ⟨g, 0, none⟩, xs.length, cap, ys.length, xs.flatMap el, ys.flatMap el, hp, List.Perm.refl _, rfl, hx, hm, hb, fun h => .inr ⟨_, rfl, ?_⟩, fun h => ⟨?_, fun g' c h1 h2 => ?_⟩⟩
    · rw [add_mk, Nat.zero_add]
      have hfit : xs.length * sz + ys.length * sz ≤ cap * sz := by rw [← Nat.add_mul]; exact Nat.mul_le_mul_right _ h
      refine StP.list ?_ (flatMap_one ho ys) ?_
      · rw [List.length_append, flatMap_len he, flatMap_len he]; omega
      · rw [take_flat he, flatMap_len he, ← List.drop_drop, drop_flat he]
        refine hK _ _ _ [_] (.inr ⟨g, cap, rest.drop (ys.length * sz), by rw [hlen], ?_, ?_, hc⟩)
        · rw [List.flatMap_append]
        · rw [List.length_drop, hlen, Nat.add_mul]; omega
    · refine Rd.keep (Sub.keep (IMem.le.refl I) (T := S) ⟨F, hp⟩) (Rd.list ?_ ?_)
      · rw [List.drop_zero, take_flat he]
      · rw [List.length_append, flatMap_len he]; omega
    · exact hK (some ⟨g', 0, none⟩) _ c _ (grow g' c h1 h2)
end
theorem RunsX.mono {P : Program} {f : FuncId} {args : Array Value} {I : IMem} {S : SH} {R R' : Value → IMem → SH → Prop} (h : RunsX P f args I S R) (hr : ∀ v J T, I.le J → R v J T → R' v J T) : RunsX P f args I S R' :=
  fun w hw => let ⟨v, w', J, T, h1, h2, h3, h4⟩ := h w hw; ⟨v, w', J, T, h1, h2, h3, hr v J T h2 h4⟩
theorem StP.mid {B : SH} {b o : Nat} {cs : Array Value} {e : TypeId} {vs : List Value} : ∀ {A : SH} {K : SH → Prop}, o + vs.length ≤ cs.size → vs.all one = true → K (A ++ (b, .cells (setR cs o vs) e (0, 0)) :: B) → StP (A ++ (b, .cells cs e (0, 0)) :: B) ⟨b, o, none⟩ vs K
  | [], K, hl, ho, h => StP.at0 hl ho h
  | x :: A, K, hl, ho, h => StP.tl (StP.mid (A := A) (K := fun T => K (x :: T)) hl ho h)
theorem StP.listF {S : SH} {g o : Nat} {L : List Value} {e : TypeId} {vs : List Value} {K : SH → Prop} {fz : Nat × Nat} (hl : o + vs.length ≤ L.length) (hf : o + vs.length ≤ fz.1) (ho : vs.all one = true) (h : K ((g, .cells (L.take o ++ vs ++ L.drop (o + vs.length)).toArray e fz) :: S)) :
    StP ((g, .cells L.toArray e fz) :: S) ⟨g, o, none⟩ vs K := by
  refine ⟨0, L.toArray, e, fz, rfl, rfl, by simpa using hl, .inr (.inl hf), ho, ?_⟩
  rw [setR_list _ _ _ hl]; exact h
theorem Cell.mid {I : IMem} {A B : SH} {b o : Nat} {cs : Array Value} {e : TypeId} {fz : Nat × Nat} {v : Value} (h : cs[o]? = some v) : Cell I (A ++ (b, .cells cs e fz) :: B) ⟨b, o, none⟩ v :=
  ⟨rfl, cs, e, fz, .inr (by simp), h⟩
theorem sub_swap {A B : SH} {x y : Nat × Obj} : Sub ((y :: A) ++ B) (A ++ x :: y :: B) :=
  ⟨[x], (List.perm_middle.trans ((List.perm_middle).cons _)).trans (List.perm_append_comm (l₁ := [x]))⟩
theorem perm_mid2 {A B : SH} {x y : Nat × Obj} : (x :: y :: (A ++ B)).Perm (A ++ x :: y :: B) := (List.perm_middle.trans ((List.perm_middle).cons _)).symm
theorem perm_mid1 {A B : SH} {x : Nat × Obj} : (x :: (A ++ B)).Perm (A ++ x :: B) := List.perm_middle.symm

/-! ### bytes -/
def elB (b : UInt8) : List Value := [.int .u8 (b.toNat : Int)]
theorem elB_len (b : UInt8) : (elB b).length = 1 := rfl
theorem elB_one (b : UInt8) : (elB b).all one = true := rfl
def bytL (l : List UInt8) : List Value := l.map fun b => .int .u8 (b.toNat : Int)
theorem flat_elB : ∀ l : List UInt8, l.flatMap elB = bytL l
  | [] => rfl
  | b :: l => by rw [List.flatMap_cons, flat_elB l]; rfl
theorem bytL_len (l : List UInt8) : (bytL l).length = l.length := List.length_map ..
theorem BytesAt.list {I : IMem} {S : SH} {g n : Nat} {l : List UInt8} {rest : List Value} {e : TypeId} {fz : Nat × Nat} (hn : n = l.length) : BytesAt I ((g, .cells (bytL l ++ rest).toArray e fz) :: S) (some ⟨g, 0, none⟩) n ⟨l.toArray⟩ := by
  subst hn
  refine ⟨by simp [ByteArray.size], fun i c hc => ?_⟩
  rw [add_mk, Nat.zero_add]
  refine Cell.at0 ?_
  have hi : i < l.length := by
    rcases Nat.lt_or_ge i l.length with h | h
    · exact h
    · rw [getElem?_neg (⟨l.toArray⟩ : ByteArray) i (by simp [ByteArray.size]; omega)] at hc; cases hc
  have hli : l[i]? = some c := by
    rw [getElem?_pos (⟨l.toArray⟩ : ByteArray) i (by simp [ByteArray.size]; omega)] at hc
    injection hc with hc
    rw [List.getElem?_eq_getElem hi, ← hc]; rfl
  rw [List.getElem?_toArray, List.getElem?_append_left (by rw [bytL_len]; exact hi), bytL, List.getElem?_map, hli]
  rfl
end Go.Px
/- Which blocks lie in a heap, by counting. -/
namespace Go.Px
set_option linter.unusedVariables false

open Classical in
/-- a block is this one -/
noncomputable def iv (a x : Nat × Obj) : Nat := if x = a then 1 else 0
noncomputable def cnt (a : Nat × Obj) : SH → Nat
  | [] => 0
  | x :: L => iv a x + cnt a L
theorem cnt_nil (a : Nat × Obj) : cnt a [] = 0 := rfl
theorem cnt_cons (a x : Nat × Obj) (L : SH) : cnt a (x :: L) = iv a x + cnt a L := rfl
theorem cnt_app (a : Nat × Obj) : ∀ (L M : SH), cnt a (L ++ M) = cnt a L + cnt a M
  | [], M => by rw [List.nil_append, cnt_nil, Nat.zero_add]
  | x :: L, M => by rw [List.cons_append, cnt_cons, cnt_cons, cnt_app a L M, Nat.add_assoc]
theorem cnt_perm {a : Nat × Obj} {L M : SH} (h : L.Perm M) : cnt a L = cnt a M := by
  induction h with
  | nil => rfl
  | cons x _ ih => rw [cnt_cons, cnt_cons, ih]
  | swap x y l => rw [cnt_cons, cnt_cons, cnt_cons, cnt_cons]; omega
  | trans _ _ ih1 ih2 => rw [ih1, ih2]
theorem iv_self (x : Nat × Obj) : iv x x = 1 := by unfold iv; rw [if_pos rfl]
theorem cnt_pos {a : Nat × Obj} : ∀ {T : SH}, 0 < cnt a T → ∃ A B, T = A ++ a :: B
  | [], h => by rw [cnt_nil] at h; omega
  | x :: T, h => by
    by_cases e : x = a
    · exact ⟨[], T, by rw [e]; rfl⟩
    · have : iv a x = 0 := by unfold iv; rw [if_neg e]
      rw [cnt_cons, this, Nat.zero_add] at h
      obtain ⟨A, B, rfl⟩ := cnt_pos h
      exact ⟨x :: A, B, rfl⟩
theorem Sub.cnt {L T : SH} (h : Sub L T) (a : Nat × Obj) : cnt a L ≤ cnt a T := by
  obtain ⟨G, hp⟩ := h
  rw [cnt_perm hp, cnt_app]; omega
theorem sub_of : ∀ {L T : SH}, (∀ a, Go.Px.cnt a L ≤ Go.Px.cnt a T) → Sub L T
  | [], T, _ => ⟨T, by simp⟩
  | x :: L, T, h => by
    have hx := h x
    rw [cnt_cons, iv_self] at hx
    obtain ⟨A, B, rfl⟩ := cnt_pos (show 0 < Go.Px.cnt x T by omega)
    have h2 : Sub L (A ++ B) := sub_of fun a => by
      have := h a
      rw [cnt_cons, cnt_app, cnt_cons] at this
      rw [cnt_app]; omega
    obtain ⟨G, hG⟩ := h2
    exact ⟨G, List.perm_middle.trans (hG.cons x)⟩
/-- from one heap to another one -/
theorem Sub.re {L M T : SH} (h : Sub M T) (g : ∀ a, Go.Px.cnt a L ≤ Go.Px.cnt a M) : Sub L T := (sub_of g).trans h
end Go.Px
