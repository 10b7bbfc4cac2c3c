import Derived.Test.YtkagfmlaolmdnaaDoorProg
import Derived.Test.YtkagfmlaolmdnaaDoorPx6
set_option linter.unusedVariables false
set_option maxRecDepth 8000
set_option maxHeartbeats 2000000
namespace Go.Proofs.YtkagfmlaolmdnaaDoor
open Go.Px
def strT1_69c1 : ByteArray := ⟨#[48, 49, 50, 51, 52, 53, 54, 55, 56, 57, 97, 98, 99, 100, 101, 102, 103, 104, 105, 106, 107, 108, 109, 110, 111, 112, 113, 114, 115, 116, 117, 118, 119, 120, 121, 122]⟩
def strT1_7034 : ByteArray := ⟨#[48, 48, 48, 49, 48, 50, 48, 51, 48, 52, 48, 53, 48, 54, 48, 55, 48, 56, 48, 57, 49, 48, 49, 49, 49, 50, 49, 51, 49, 52, 49, 53, 49, 54, 49, 55, 49, 56, 49, 57, 50, 48, 50, 49, 50, 50, 50, 51, 50, 52, 50, 53, 50, 54, 50, 55, 50, 56, 50, 57, 51, 48, 51, 49, 51, 50, 51, 51, 51, 52, 51, 53, 51, 54, 51, 55, 51, 56, 51, 57, 52, 48, 52, 49, 52, 50, 52, 51, 52, 52, 52, 53, 52, 54, 52, 55, 52, 56, 52, 57, 53, 48, 53, 49, 53, 50, 53, 51, 53, 52, 53, 53, 53, 54, 53, 55, 53, 56, 53, 57, 54, 48, 54, 49, 54, 50, 54, 51, 54, 52, 54, 53, 54, 54, 54, 55, 54, 56, 54, 57, 55, 48, 55, 49, 55, 50, 55, 51, 55, 52, 55, 53, 55, 54, 55, 55, 55, 56, 55, 57, 56, 48, 56, 49, 56, 50, 56, 51, 56, 52, 56, 53, 56, 54, 56, 55, 56, 56, 56, 57, 57, 48, 57, 49, 57, 50, 57, 51, 57, 52, 57, 53, 57, 54, 57, 55, 57, 56, 57, 57]⟩
def strT1_9726 : ByteArray := ⟨#[115, 116, 114, 99, 111, 110, 118, 58, 32, 105, 108, 108, 101, 103, 97, 108, 32, 65, 112, 112, 101, 110, 100, 73, 110, 116, 47, 70, 111, 114, 109, 97, 116, 73, 110, 116, 32, 98, 97, 115, 101]⟩
def strT1_2a39 : ByteArray := ⟨#[0, 1, 2, 2, 3, 3, 3, 3, 4, 4, 4, 4, 4, 4, 4, 4, 5, 5, 5, 5, 5, 5, 5, 5, 5, 5, 5, 5, 5, 5, 5, 5, 6, 6, 6, 6, 6, 6, 6, 6, 6, 6, 6, 6, 6, 6, 6, 6, 6, 6, 6, 6, 6, 6, 6, 6, 6, 6, 6, 6, 6, 6, 6, 6, 7, 7, 7, 7, 7, 7, 7, 7, 7, 7, 7, 7, 7, 7, 7, 7, 7, 7, 7, 7, 7, 7, 7, 7, 7, 7, 7, 7, 7, 7, 7, 7, 7, 7, 7, 7, 7, 7, 7, 7, 7, 7, 7, 7, 7, 7, 7, 7, 7, 7, 7, 7, 7, 7, 7, 7, 7, 7, 7, 7, 7, 7, 7, 7, 8, 8, 8, 8, 8, 8, 8, 8, 8, 8, 8, 8, 8, 8, 8, 8, 8, 8, 8, 8, 8, 8, 8, 8, 8, 8, 8, 8, 8, 8, 8, 8, 8, 8, 8, 8, 8, 8, 8, 8, 8, 8, 8, 8, 8, 8, 8, 8, 8, 8, 8, 8, 8, 8, 8, 8, 8, 8, 8, 8, 8, 8, 8, 8, 8, 8, 8, 8, 8, 8, 8, 8, 8, 8, 8, 8, 8, 8, 8, 8, 8, 8, 8, 8, 8, 8, 8, 8, 8, 8, 8, 8, 8, 8, 8, 8, 8, 8, 8, 8, 8, 8, 8, 8, 8, 8, 8, 8, 8, 8, 8, 8, 8, 8, 8, 8, 8, 8, 8, 8, 8, 8, 8, 8, 8, 8, 8, 8]⟩
/-! ### strconv_Itoa: function 38, strconv.Itoa -/
noncomputable def strconv_Itoa_code : Code := (Tryd.f38.body).getD .skip
def strconv_Itoa (R : Value → IMem → SH → Prop) (i_0 : Int) (I : IMem) (S : SH) : Prop :=
  Runs Tryd.prog 59 #[.int .i64 i_0] I S fun v I1 S1 => ∃ x4, v = .string x4 ∧
  R (.string x4) I1 S1
theorem strconv_Itoa_fn (R : Value → IMem → SH → Prop) (i_0 : Int) (I : IMem) (S : SH) (h : strconv_Itoa R i_0 I S) :
    Runs Tryd.prog 38 #[.int .i64 i_0] I S R := by
  refine Runs.of_wp (args := [.int .i64 i_0]) (c := strconv_Itoa_code) Tryd.func38 (by kernel_rfl) (by kernel_rfl) ?_
  exact Pre.sound _ _ _ _ _ (cast (by kernel_rfl) h)
/-! ### strconv_Itoa_2: function 59, internal/strconv.Itoa -/
noncomputable def strconv_Itoa_2_code : Code := (Tryd.f59.body).getD .skip
def strconv_Itoa_2 (R : Value → IMem → SH → Prop) (i_0 : Int) (I : IMem) (S : SH) : Prop :=
  Runs Tryd.prog 71 #[.int .i64 i_0, .int .i64 10] I S fun v I1 S1 => ∃ x4, v = .string x4 ∧
  R (.string x4) I1 S1
theorem strconv_Itoa_2_fn (R : Value → IMem → SH → Prop) (i_0 : Int) (I : IMem) (S : SH) (h : strconv_Itoa_2 R i_0 I S) :
    Runs Tryd.prog 59 #[.int .i64 i_0] I S R := by
  refine Runs.of_wp (args := [.int .i64 i_0]) (c := strconv_Itoa_2_code) Tryd.func59 (by kernel_rfl) (by kernel_rfl) ?_
  exact Pre.sound _ _ _ _ _ (cast (by kernel_rfl) h)
/-! ### strconv_FormatInt: function 60, strconv.FormatInt -/
noncomputable def strconv_FormatInt_code : Code := (Tryd.f60.body).getD .skip
def strconv_FormatInt (R : Value → IMem → SH → Prop) (i_0 : Int) (base_1 : Int) (I : IMem) (S : SH) : Prop :=
  Runs Tryd.prog 71 #[.int .i64 i_0, .int .i64 base_1] I S fun v I1 S1 => ∃ x7, v = .string x7 ∧
  R (.string x7) I1 S1
theorem strconv_FormatInt_fn (R : Value → IMem → SH → Prop) (i_0 : Int) (base_1 : Int) (I : IMem) (S : SH) (h : strconv_FormatInt R i_0 base_1 I S) :
    Runs Tryd.prog 60 #[.int .i64 i_0, .int .i64 base_1] I S R := by
  refine Runs.of_wp (args := [.int .i64 i_0, .int .i64 base_1]) (c := strconv_FormatInt_code) Tryd.func60 (by kernel_rfl) (by kernel_rfl) ?_
  exact Pre.sound _ _ _ _ _ (cast (by kernel_rfl) h)
/-! ### strconv_FormatInt_2: function 71, internal/strconv.FormatInt -/
noncomputable def strconv_FormatInt_2_code : Code := (Tryd.f71.body).getD .skip
def strconv_FormatInt_2_b5 (R : Value → IMem → SH → Prop) (i_0 : Int) (a_5 : Addr) (u_6 : Int) (I : IMem) (S : SH) : Prop :=
  Runs Tryd.prog 83 #[.int .u64 u_6] I S fun v I1 S1 => ∃ x27, v = .int .i64 x27 ∧
  (0 : Int) ≤ (IntKind.wrap .i64 ((1 : Int) + x27)) ∧ (IntKind.wrap .i64 ((1 : Int) + x27)) ≤ ((24 : Nat) : Int) ∧
  (0 : Int) ≤ (1 : Int) ∧ (1 : Int) ≤ (((IntKind.wrap .i64 ((1 : Int) + x27)).toNat : Nat) : Int) ∧
  Runs Tryd.prog 84 #[.slice (slA (some a_5) 24 ((1 : Int).toNat) 1) ((IntKind.wrap .i64 ((1 : Int) + x27)).toNat - (1 : Int).toNat) (24 - (1 : Int).toNat), .int .u64 u_6] I1 S1 fun v' I1' S1' => v' = .tuple #[] ∧
  bcase (decide (i_0 < (0 : Int)))
    ((0 : Int) ≤ (0 : Int) ∧ (0 : Int) < ((24 : Nat) : Int) ∧
    StP S1' (a_5.add ((0 : Int).toNat * 1)) [.int .u8 45] fun S1'' =>
    (0 : Int) ≤ (IntKind.wrap .i64 ((1 : Int) + x27)) ∧ (IntKind.wrap .i64 ((1 : Int) + x27)) ≤ ((24 : Nat) : Int) ∧
    ∃ x39 : ByteArray, BytesAt I1' S1'' (slA (some a_5) 24 0 1) ((IntKind.wrap .i64 ((1 : Int) + x27)).toNat - 0) x39 ∧
    R (.string x39) I1' S1'')
    ((0 : Int) ≤ (IntKind.wrap .i64 ((1 : Int) + x27)) ∧ (IntKind.wrap .i64 ((1 : Int) + x27)) ≤ ((24 : Nat) : Int) ∧
    (0 : Int) ≤ (1 : Int) ∧ (1 : Int) ≤ (((IntKind.wrap .i64 ((1 : Int) + x27)).toNat : Nat) : Int) ∧
    ∃ x43 : ByteArray, BytesAt I1' S1' (slA (some a_5) 24 ((1 : Int).toNat) 1) ((IntKind.wrap .i64 ((1 : Int) + x27)).toNat - (1 : Int).toNat) x43 ∧
    R (.string x43) I1' S1')
def strconv_FormatInt_2_b4 (R : Value → IMem → SH → Prop) (i_0 : Int) (I : IMem) (S : SH) : Prop :=
  ∀ b5 : Nat,
  bcase (decide (i_0 < (0 : Int)))
    (strconv_FormatInt_2_b5 R i_0 ⟨b5, 0, none⟩ (IntKind.wrap .u64 (0 - (IntKind.wrap .u64 i_0))) I ((b5, .cells #[.int .u8 0, .int .u8 0, .int .u8 0, .int .u8 0, .int .u8 0, .int .u8 0, .int .u8 0, .int .u8 0, .int .u8 0, .int .u8 0, .int .u8 0, .int .u8 0, .int .u8 0, .int .u8 0, .int .u8 0, .int .u8 0, .int .u8 0, .int .u8 0, .int .u8 0, .int .u8 0, .int .u8 0, .int .u8 0, .int .u8 0, .int .u8 0] 137 (0, 0)) :: S))
    (strconv_FormatInt_2_b5 R i_0 ⟨b5, 0, none⟩ (IntKind.wrap .u64 i_0) I ((b5, .cells #[.int .u8 0, .int .u8 0, .int .u8 0, .int .u8 0, .int .u8 0, .int .u8 0, .int .u8 0, .int .u8 0, .int .u8 0, .int .u8 0, .int .u8 0, .int .u8 0, .int .u8 0, .int .u8 0, .int .u8 0, .int .u8 0, .int .u8 0, .int .u8 0, .int .u8 0, .int .u8 0, .int .u8 0, .int .u8 0, .int .u8 0, .int .u8 0] 137 (0, 0)) :: S))
def strconv_FormatInt_2_b3 (R : Value → IMem → SH → Prop) (i_0 : Int) (x17 : Bool) (I : IMem) (S : SH) : Prop :=
  bcase x17
    (Runs Tryd.prog 82 #[.int .i64 i_0] I S fun v I1 S1 => ∃ x19, v = .string x19 ∧
    R (.string x19) I1 S1)
    (strconv_FormatInt_2_b4 R i_0 I S)
def strconv_FormatInt_2_b6 (R : Value → IMem → SH → Prop) (i_0 : Int) (base_1 : Int) (I : IMem) (S : SH) : Prop :=
  Runs Tryd.prog 85 #[.slice none 0 0, .int .u64 (IntKind.wrap .u64 i_0), .int .i64 base_1, .bool (decide (i_0 < (0 : Int))), .bool false] I S fun v I1 S1 => ∃ x50_0 x50_0n x50_0c x50_1, v = .tuple #[.slice x50_0 x50_0n x50_0c, .string x50_1] ∧
  R (.string x50_1) I1 S1
def strconv_FormatInt_2_b2 (R : Value → IMem → SH → Prop) (i_0 : Int) (base_1 : Int) (x11 : Bool) (I : IMem) (S : SH) : Prop :=
  bcase x11
    (bcase (decide ((0 : Int) ≤ i_0))
      (strconv_FormatInt_2_b3 R i_0 (decide (i_0 < (100 : Int))) I S)
      (strconv_FormatInt_2_b3 R i_0 false I S))
    (strconv_FormatInt_2_b6 R i_0 base_1 I S)
def strconv_FormatInt_2_b1 (R : Value → IMem → SH → Prop) (i_0 : Int) (base_1 : Int) (I : IMem) (S : SH) : Prop :=
  strconv_FormatInt_2_b2 R i_0 base_1 (base_1 == (10 : Int)) I S
def strconv_FormatInt_2 (R : Value → IMem → SH → Prop) (i_0 : Int) (base_1 : Int) (I : IMem) (S : SH) : Prop :=
  strconv_FormatInt_2_b1 R i_0 base_1 I S
theorem strconv_FormatInt_2_fn (R : Value → IMem → SH → Prop) (i_0 : Int) (base_1 : Int) (I : IMem) (S : SH) (h : strconv_FormatInt_2 R i_0 base_1 I S) :
    Runs Tryd.prog 71 #[.int .i64 i_0, .int .i64 base_1] I S R := by
  refine Runs.of_wp (args := [.int .i64 i_0, .int .i64 base_1]) (c := strconv_FormatInt_2_code) Tryd.func71 (by kernel_rfl) (by kernel_rfl) ?_
  refine WP.cut 1 (fun l I S => asI .i64 (l 0) fun i_0 => asI .i64 (l 1) fun base_1 => strconv_FormatInt_2_b1 R i_0 base_1 I S) (cast (by kernel_rfl) h) ?_
  clear h
  intro l I S _ h
  obtain ⟨i_0, e0, h⟩ := asI_e h
  obtain ⟨base_1, e1, h⟩ := asI_e h
  rw [upd_eta e0, upd_eta e1]
  refine WP.seqY (by kernel_rfl) (fun l I S => asI .i64 (l 0) fun i_0 => asI .i64 (l 1) fun base_1 => strconv_FormatInt_2_b6 R i_0 base_1 I S) ?_ ?_
  ·
    refine WP.cut 1 (fun l I S => asI .i64 (l 0) fun i_0 => asI .i64 (l 1) fun base_1 => asB (l 11) fun x11 => strconv_FormatInt_2_b2 R i_0 base_1 x11 I S) (cast (by kernel_rfl) h) ?_
    clear h
    intro l I S _ h
    obtain ⟨i_0, e0, h⟩ := asI_e h
    obtain ⟨base_1, e1, h⟩ := asI_e h
    obtain ⟨x11, e11, h⟩ := asB_e h
    rw [upd_eta e0, upd_eta e1, upd_eta e11]
    refine WP.cond' (by kernel_rfl) (by kernel_rfl) h ?_ ?_
    · clear h
      intro h
      refine WP.seqY (by kernel_rfl) (fun l I S => asI .i64 (l 0) fun i_0 => strconv_FormatInt_2_b4 R i_0 I S) ?_ ?_
      ·
        refine WP.cut 1 (fun l I S => asI .i64 (l 0) fun i_0 => asB (l 17) fun x17 => strconv_FormatInt_2_b3 R i_0 x17 I S) (cast (by kernel_rfl) h) ?_
        clear h
        intro l I S _ h
        obtain ⟨i_0, e0, h⟩ := asI_e h
        obtain ⟨x17, e17, h⟩ := asB_e h
        rw [upd_eta e0, upd_eta e17]
        exact Pre.sound _ _ _ _ _ (cast (by kernel_rfl) h)
      · clear h
        intro l I S _ h
        obtain ⟨i_0, e0, h⟩ := asI_e h
        rw [upd_eta e0]
        refine WP.cut 3 (fun l I S => asI .i64 (l 0) fun i_0 => asAdr (l 5) fun a_5 => asI .u64 (l 6) fun u_6 => strconv_FormatInt_2_b5 R i_0 a_5 u_6 I S) (cast (by kernel_rfl) h) ?_
        clear h
        intro l I S _ h
        obtain ⟨i_0, e0, h⟩ := asI_e h
        obtain ⟨a_5, e5, h⟩ := asAdr_e h
        obtain ⟨u_6, e6, h⟩ := asI_e h
        rw [upd_eta e0, upd_eta e5, upd_eta e6]
        exact Pre.sound _ _ _ _ _ (cast (by kernel_rfl) h)
    · clear h
      intro h
      exact Pre.sound _ _ _ _ _ (cast (by kernel_rfl) h)
  · clear h
    intro l I S _ h
    obtain ⟨i_0, e0, h⟩ := asI_e h
    obtain ⟨base_1, e1, h⟩ := asI_e h
    rw [upd_eta e0, upd_eta e1]
    exact Pre.sound _ _ _ _ _ (cast (by kernel_rfl) h)
/-! ### strconv_small: function 82, internal/strconv.small -/
noncomputable def strconv_small_code : Code := (Tryd.f82.body).getD .skip
def strconv_small (R : Value → IMem → SH → Prop) (i_0 : Int) (I : IMem) (S : SH) : Prop :=
  bcase (decide (i_0 < (10 : Int)))
    ((0 : Int) ≤ (IntKind.wrap .i64 (i_0 + (1 : Int))) ∧ (IntKind.wrap .i64 (i_0 + (1 : Int))) ≤ ((strT1_69c1.size : Nat) : Int) ∧
    (0 : Int) ≤ i_0 ∧ i_0 ≤ (((IntKind.wrap .i64 (i_0 + (1 : Int))).toNat : Nat) : Int) ∧
    R (.string (strT1_69c1.extract i_0.toNat ((IntKind.wrap .i64 (i_0 + (1 : Int))).toNat))) I S)
    ((0 : Int) ≤ (IntKind.wrap .i64 ((IntKind.wrap .i64 (i_0 * (2 : Int))) + (2 : Int))) ∧ (IntKind.wrap .i64 ((IntKind.wrap .i64 (i_0 * (2 : Int))) + (2 : Int))) ≤ ((strT1_7034.size : Nat) : Int) ∧
    (0 : Int) ≤ (IntKind.wrap .i64 (i_0 * (2 : Int))) ∧ (IntKind.wrap .i64 (i_0 * (2 : Int))) ≤ (((IntKind.wrap .i64 ((IntKind.wrap .i64 (i_0 * (2 : Int))) + (2 : Int))).toNat : Nat) : Int) ∧
    R (.string (strT1_7034.extract ((IntKind.wrap .i64 (i_0 * (2 : Int))).toNat) ((IntKind.wrap .i64 ((IntKind.wrap .i64 (i_0 * (2 : Int))) + (2 : Int))).toNat))) I S)
theorem strconv_small_fn (R : Value → IMem → SH → Prop) (i_0 : Int) (I : IMem) (S : SH) (h : strconv_small R i_0 I S) :
    Runs Tryd.prog 82 #[.int .i64 i_0] I S R := by
  refine Runs.of_wp (args := [.int .i64 i_0]) (c := strconv_small_code) Tryd.func82 (by kernel_rfl) (by kernel_rfl) ?_
  exact Pre.sound _ _ _ _ _ (cast (by kernel_rfl) h)
/-! ### strconv_numDigits: function 83, internal/strconv.numDigits -/
noncomputable def strconv_numDigits_code : Code := (Tryd.f83.body).getD .skip
def strconv_numDigits (R : Value → IMem → SH → Prop) (d_0 : Int) (I : IMem) (S : SH) : Prop :=
  Runs Tryd.prog 97 #[.int .u64 d_0] I S fun v I1 S1 => ∃ x5, v = .int .i64 x5 ∧
  Runs Tryd.prog 96 #[.int .i64 x5] I1 S1 fun v' I1' S1' => ∃ x6, v' = .int .i64 x6 ∧
  (0 : Int) ≤ x6 ∧ x6 < ((20 : Nat) : Int) ∧
  ∃ x11, Cell I1' S1' ((⟨0, 0, none⟩ : Addr).add (x6.toNat * 1)) (.int .u64 x11) ∧
  Runs Tryd.prog 98 #[.bool (decide (d_0 ≥ x11))] I1' S1' fun v'' I1'' S1'' => ∃ x13, v'' = .int .i64 x13 ∧
  R (.int .i64 (IntKind.wrap .i64 (x6 + x13))) I1'' S1''
theorem strconv_numDigits_fn (R : Value → IMem → SH → Prop) (d_0 : Int) (I : IMem) (S : SH) (h : strconv_numDigits R d_0 I S) :
    Runs Tryd.prog 83 #[.int .u64 d_0] I S R := by
  refine Runs.of_wp (args := [.int .u64 d_0]) (c := strconv_numDigits_code) Tryd.func83 (by kernel_rfl) (by kernel_rfl) ?_
  exact Pre.sound _ _ _ _ _ (cast (by kernel_rfl) h)
/-! ### strconv_formatBase10: function 84, internal/strconv.formatBase10 -/
noncomputable def strconv_formatBase10_code : Code := (Tryd.f84.body).getD .skip
def strconv_formatBase10_b8 (again2 : Option Addr → Nat → Nat → Int → Int → IMem → SH → Prop) (R : Value → IMem → SH → Prop) (a_0 : Option Addr) (a_0n : Nat) (a_0c : Nat) (u_1 : Int) (nd_4 : Int) (I : IMem) (S : SH) : Prop :=
  again2 a_0 a_0n a_0c u_1 (IntKind.wrap .i64 (nd_4 - (8 : Int))) I S
def strconv_formatBase10_b7 (again2 : Option Addr → Nat → Nat → Int → Int → IMem → SH → Prop) (R : Value → IMem → SH → Prop) (a_0 : Option Addr) (a_0n : Nat) (a_0c : Nat) (u_1 : Int) (nd_4 : Int) (x3_10 : Int) (I : IMem) (S : SH) : Prop :=
  ∃ cx89 : UInt8, (0 : Int) ≤ (IntKind.wrap .u32 (x3_10 + (1 : Int))) ∧ strT1_7034[(IntKind.wrap .u32 (x3_10 + (1 : Int))).toNat]? = some cx89 ∧
  ∃ cx91 : UInt8, (0 : Int) ≤ x3_10 ∧ strT1_7034[x3_10.toNat]? = some cx91 ∧
  ptrP a_0 fun x92 => (0 : Int) ≤ (IntKind.wrap .i64 (nd_4 - (7 : Int))) ∧ (IntKind.wrap .i64 (nd_4 - (7 : Int))) < (a_0n : Int) ∧
  StP S (x92.add ((IntKind.wrap .i64 (nd_4 - (7 : Int))).toNat * 1)) [.int .u8 (cx89.toNat : Int)] fun S1 =>
  ptrP a_0 fun x93 => (0 : Int) ≤ (IntKind.wrap .i64 (nd_4 - (8 : Int))) ∧ (IntKind.wrap .i64 (nd_4 - (8 : Int))) < (a_0n : Int) ∧
  StP S1 (x93.add ((IntKind.wrap .i64 (nd_4 - (8 : Int))).toNat * 1)) [.int .u8 (cx91.toNat : Int)] fun S1' =>
  strconv_formatBase10_b8 again2 R a_0 a_0n a_0c u_1 nd_4 I S1'
def strconv_formatBase10_b6 (again2 : Option Addr → Nat → Nat → Int → Int → IMem → SH → Prop) (R : Value → IMem → SH → Prop) (a_0 : Option Addr) (a_0n : Nat) (a_0c : Nat) (u_1 : Int) (nd_4 : Int) (x3_10 : Int) (x2_11 : Int) (I : IMem) (S : SH) : Prop :=
  ∃ cx76 : UInt8, (0 : Int) ≤ (IntKind.wrap .u32 (x2_11 + (1 : Int))) ∧ strT1_7034[(IntKind.wrap .u32 (x2_11 + (1 : Int))).toNat]? = some cx76 ∧
  ∃ cx78 : UInt8, (0 : Int) ≤ x2_11 ∧ strT1_7034[x2_11.toNat]? = some cx78 ∧
  ptrP a_0 fun x79 => (0 : Int) ≤ (IntKind.wrap .i64 (nd_4 - (5 : Int))) ∧ (IntKind.wrap .i64 (nd_4 - (5 : Int))) < (a_0n : Int) ∧
  StP S (x79.add ((IntKind.wrap .i64 (nd_4 - (5 : Int))).toNat * 1)) [.int .u8 (cx76.toNat : Int)] fun S1 =>
  ptrP a_0 fun x80 => (0 : Int) ≤ (IntKind.wrap .i64 (nd_4 - (6 : Int))) ∧ (IntKind.wrap .i64 (nd_4 - (6 : Int))) < (a_0n : Int) ∧
  StP S1 (x80.add ((IntKind.wrap .i64 (nd_4 - (6 : Int))).toNat * 1)) [.int .u8 (cx78.toNat : Int)] fun S1' =>
  strconv_formatBase10_b7 again2 R a_0 a_0n a_0c u_1 nd_4 x3_10 I S1'
def strconv_formatBase10_b5 (again2 : Option Addr → Nat → Nat → Int → Int → IMem → SH → Prop) (R : Value → IMem → SH → Prop) (a_0 : Option Addr) (a_0n : Nat) (a_0c : Nat) (u_1 : Int) (nd_4 : Int) (x1_8 : Int) (x3_10 : Int) (x2_11 : Int) (I : IMem) (S : SH) : Prop :=
  ∃ cx63 : UInt8, (0 : Int) ≤ (IntKind.wrap .u32 (x1_8 + (1 : Int))) ∧ strT1_7034[(IntKind.wrap .u32 (x1_8 + (1 : Int))).toNat]? = some cx63 ∧
  ∃ cx65 : UInt8, (0 : Int) ≤ x1_8 ∧ strT1_7034[x1_8.toNat]? = some cx65 ∧
  ptrP a_0 fun x66 => (0 : Int) ≤ (IntKind.wrap .i64 (nd_4 - (3 : Int))) ∧ (IntKind.wrap .i64 (nd_4 - (3 : Int))) < (a_0n : Int) ∧
  StP S (x66.add ((IntKind.wrap .i64 (nd_4 - (3 : Int))).toNat * 1)) [.int .u8 (cx63.toNat : Int)] fun S1 =>
  ptrP a_0 fun x67 => (0 : Int) ≤ (IntKind.wrap .i64 (nd_4 - (4 : Int))) ∧ (IntKind.wrap .i64 (nd_4 - (4 : Int))) < (a_0n : Int) ∧
  StP S1 (x67.add ((IntKind.wrap .i64 (nd_4 - (4 : Int))).toNat * 1)) [.int .u8 (cx65.toNat : Int)] fun S1' =>
  strconv_formatBase10_b6 again2 R a_0 a_0n a_0c u_1 nd_4 x3_10 x2_11 I S1'
def strconv_formatBase10_b4 (again2 : Option Addr → Nat → Nat → Int → Int → IMem → SH → Prop) (R : Value → IMem → SH → Prop) (a_0 : Option Addr) (a_0n : Nat) (a_0c : Nat) (u_1 : Int) (nd_4 : Int) (x1_8 : Int) (x0_9 : Int) (x3_10 : Int) (x2_11 : Int) (I : IMem) (S : SH) : Prop :=
  ∃ cx50 : UInt8, (0 : Int) ≤ (IntKind.wrap .u32 (x0_9 + (1 : Int))) ∧ strT1_7034[(IntKind.wrap .u32 (x0_9 + (1 : Int))).toNat]? = some cx50 ∧
  ∃ cx52 : UInt8, (0 : Int) ≤ x0_9 ∧ strT1_7034[x0_9.toNat]? = some cx52 ∧
  ptrP a_0 fun x53 => (0 : Int) ≤ (IntKind.wrap .i64 (nd_4 - (1 : Int))) ∧ (IntKind.wrap .i64 (nd_4 - (1 : Int))) < (a_0n : Int) ∧
  StP S (x53.add ((IntKind.wrap .i64 (nd_4 - (1 : Int))).toNat * 1)) [.int .u8 (cx50.toNat : Int)] fun S1 =>
  ptrP a_0 fun x54 => (0 : Int) ≤ (IntKind.wrap .i64 (nd_4 - (2 : Int))) ∧ (IntKind.wrap .i64 (nd_4 - (2 : Int))) < (a_0n : Int) ∧
  StP S1 (x54.add ((IntKind.wrap .i64 (nd_4 - (2 : Int))).toNat * 1)) [.int .u8 (cx52.toNat : Int)] fun S1' =>
  strconv_formatBase10_b5 again2 R a_0 a_0n a_0c u_1 nd_4 x1_8 x3_10 x2_11 I S1'
def strconv_formatBase10_b3 (again2 : Option Addr → Nat → Nat → Int → Int → IMem → SH → Prop) (R : Value → IMem → SH → Prop) (a_0 : Option Addr) (a_0n : Nat) (a_0c : Nat) (u_1 : Int) (nd_4 : Int) (I : IMem) (S : SH) : Prop :=
  strconv_formatBase10_b4 again2 R a_0 a_0n a_0c (IntKind.wrap .u64 (u_1.tdiv (100000000 : Int))) nd_4 (IntKind.wrap .u32 ((IntKind.wrap .u32 (((IntKind.wrap .u32 (u_1.tmod (100000000 : Int))).tmod (10000 : Int)).tdiv (100 : Int))) * (2 : Int))) (IntKind.wrap .u32 ((((IntKind.wrap .u32 (u_1.tmod (100000000 : Int))).tmod (10000 : Int)).tmod (100 : Int)) * (2 : Int))) (IntKind.wrap .u32 ((IntKind.wrap .u32 ((IntKind.wrap .u32 ((IntKind.wrap .u32 (u_1.tmod (100000000 : Int))).tdiv (10000 : Int))).tdiv (100 : Int))) * (2 : Int))) (IntKind.wrap .u32 (((IntKind.wrap .u32 ((IntKind.wrap .u32 (u_1.tmod (100000000 : Int))).tdiv (10000 : Int))).tmod (100 : Int)) * (2 : Int))) I S
def strconv_formatBase10_b19 (R : Value → IMem → SH → Prop) (a_0 : Option Addr) (a_0n : Nat) (a_0c : Nat) (nd_4 : Int) (x_12 : Int) (I : IMem) (S : SH) : Prop :=
  bcase (decide (nd_4 > (0 : Int)))
    (ptrP a_0 fun x166 => (0 : Int) ≤ (0 : Int) ∧ (0 : Int) < (a_0n : Int) ∧
    StP S (x166.add ((0 : Int).toNat * 1)) [.int .u8 (IntKind.wrap .u8 (IntKind.wrap .u32 ((48 : Int) + x_12)))] fun S1 =>
    R (.tuple #[]) I S1)
    (R (.tuple #[]) I S)
def strconv_formatBase10_b18 (R : Value → IMem → SH → Prop) (a_0 : Option Addr) (a_0n : Nat) (a_0c : Nat) (nd_4 : Int) (x_12 : Int) (I : IMem) (S : SH) : Prop :=
  strconv_formatBase10_b19 R a_0 a_0n a_0c (IntKind.wrap .i64 (nd_4 - (2 : Int))) x_12 I S
def strconv_formatBase10_b17 (R : Value → IMem → SH → Prop) (a_0 : Option Addr) (a_0n : Nat) (a_0c : Nat) (nd_4 : Int) (x_12 : Int) (x0_16 : Int) (I : IMem) (S : SH) : Prop :=
  ∃ cx153 : UInt8, (0 : Int) ≤ (IntKind.wrap .u32 (x0_16 + (1 : Int))) ∧ strT1_7034[(IntKind.wrap .u32 (x0_16 + (1 : Int))).toNat]? = some cx153 ∧
  ∃ cx155 : UInt8, (0 : Int) ≤ x0_16 ∧ strT1_7034[x0_16.toNat]? = some cx155 ∧
  ptrP a_0 fun x156 => (0 : Int) ≤ (IntKind.wrap .i64 (nd_4 - (1 : Int))) ∧ (IntKind.wrap .i64 (nd_4 - (1 : Int))) < (a_0n : Int) ∧
  StP S (x156.add ((IntKind.wrap .i64 (nd_4 - (1 : Int))).toNat * 1)) [.int .u8 (cx153.toNat : Int)] fun S1 =>
  ptrP a_0 fun x157 => (0 : Int) ≤ (IntKind.wrap .i64 (nd_4 - (2 : Int))) ∧ (IntKind.wrap .i64 (nd_4 - (2 : Int))) < (a_0n : Int) ∧
  StP S1 (x157.add ((IntKind.wrap .i64 (nd_4 - (2 : Int))).toNat * 1)) [.int .u8 (cx155.toNat : Int)] fun S1' =>
  strconv_formatBase10_b18 R a_0 a_0n a_0c nd_4 x_12 I S1'
def strconv_formatBase10_b16 (R : Value → IMem → SH → Prop) (a_0 : Option Addr) (a_0n : Nat) (a_0c : Nat) (nd_4 : Int) (x_12 : Int) (x139 : Bool) (I : IMem) (S : SH) : Prop :=
  bcase x139
    (strconv_formatBase10_b17 R a_0 a_0n a_0c nd_4 (IntKind.wrap .u32 (x_12.tdiv (100 : Int))) (IntKind.wrap .u32 ((x_12.tmod (100 : Int)) * (2 : Int))) I S)
    (strconv_formatBase10_b19 R a_0 a_0n a_0c nd_4 x_12 I S)
def strconv_formatBase10_b15 (R : Value → IMem → SH → Prop) (a_0 : Option Addr) (a_0n : Nat) (a_0c : Nat) (nd_4 : Int) (x_12 : Int) (I : IMem) (S : SH) : Prop :=
  strconv_formatBase10_b16 R a_0 a_0n a_0c nd_4 x_12 (decide (nd_4 ≥ (2 : Int))) I S
def strconv_formatBase10_b14 (R : Value → IMem → SH → Prop) (a_0 : Option Addr) (a_0n : Nat) (a_0c : Nat) (nd_4 : Int) (x_12 : Int) (I : IMem) (S : SH) : Prop :=
  strconv_formatBase10_b15 R a_0 a_0n a_0c (IntKind.wrap .i64 (nd_4 - (4 : Int))) x_12 I S
def strconv_formatBase10_b13 (R : Value → IMem → SH → Prop) (a_0 : Option Addr) (a_0n : Nat) (a_0c : Nat) (nd_4 : Int) (x_12 : Int) (x1_14 : Int) (I : IMem) (S : SH) : Prop :=
  ∃ cx131 : UInt8, (0 : Int) ≤ (IntKind.wrap .u32 (x1_14 + (1 : Int))) ∧ strT1_7034[(IntKind.wrap .u32 (x1_14 + (1 : Int))).toNat]? = some cx131 ∧
  ∃ cx133 : UInt8, (0 : Int) ≤ x1_14 ∧ strT1_7034[x1_14.toNat]? = some cx133 ∧
  ptrP a_0 fun x134 => (0 : Int) ≤ (IntKind.wrap .i64 (nd_4 - (3 : Int))) ∧ (IntKind.wrap .i64 (nd_4 - (3 : Int))) < (a_0n : Int) ∧
  StP S (x134.add ((IntKind.wrap .i64 (nd_4 - (3 : Int))).toNat * 1)) [.int .u8 (cx131.toNat : Int)] fun S1 =>
  ptrP a_0 fun x135 => (0 : Int) ≤ (IntKind.wrap .i64 (nd_4 - (4 : Int))) ∧ (IntKind.wrap .i64 (nd_4 - (4 : Int))) < (a_0n : Int) ∧
  StP S1 (x135.add ((IntKind.wrap .i64 (nd_4 - (4 : Int))).toNat * 1)) [.int .u8 (cx133.toNat : Int)] fun S1' =>
  strconv_formatBase10_b14 R a_0 a_0n a_0c nd_4 x_12 I S1'
def strconv_formatBase10_b12 (R : Value → IMem → SH → Prop) (a_0 : Option Addr) (a_0n : Nat) (a_0c : Nat) (nd_4 : Int) (x_12 : Int) (x1_14 : Int) (x0_15 : Int) (I : IMem) (S : SH) : Prop :=
  ∃ cx118 : UInt8, (0 : Int) ≤ (IntKind.wrap .u32 (x0_15 + (1 : Int))) ∧ strT1_7034[(IntKind.wrap .u32 (x0_15 + (1 : Int))).toNat]? = some cx118 ∧
  ∃ cx120 : UInt8, (0 : Int) ≤ x0_15 ∧ strT1_7034[x0_15.toNat]? = some cx120 ∧
  ptrP a_0 fun x121 => (0 : Int) ≤ (IntKind.wrap .i64 (nd_4 - (1 : Int))) ∧ (IntKind.wrap .i64 (nd_4 - (1 : Int))) < (a_0n : Int) ∧
  StP S (x121.add ((IntKind.wrap .i64 (nd_4 - (1 : Int))).toNat * 1)) [.int .u8 (cx118.toNat : Int)] fun S1 =>
  ptrP a_0 fun x122 => (0 : Int) ≤ (IntKind.wrap .i64 (nd_4 - (2 : Int))) ∧ (IntKind.wrap .i64 (nd_4 - (2 : Int))) < (a_0n : Int) ∧
  StP S1 (x122.add ((IntKind.wrap .i64 (nd_4 - (2 : Int))).toNat * 1)) [.int .u8 (cx120.toNat : Int)] fun S1' =>
  strconv_formatBase10_b13 R a_0 a_0n a_0c nd_4 x_12 x1_14 I S1'
def strconv_formatBase10_b11 (R : Value → IMem → SH → Prop) (a_0 : Option Addr) (a_0n : Nat) (a_0c : Nat) (nd_4 : Int) (x_12 : Int) (x99 : Bool) (I : IMem) (S : SH) : Prop :=
  bcase x99
    (strconv_formatBase10_b12 R a_0 a_0n a_0c nd_4 (IntKind.wrap .u32 (x_12.tdiv (10000 : Int))) (IntKind.wrap .u32 ((IntKind.wrap .u32 ((x_12.tmod (10000 : Int)).tdiv (100 : Int))) * (2 : Int))) (IntKind.wrap .u32 (((x_12.tmod (10000 : Int)).tmod (100 : Int)) * (2 : Int))) I S)
    (strconv_formatBase10_b15 R a_0 a_0n a_0c nd_4 x_12 I S)
def strconv_formatBase10_b10 (R : Value → IMem → SH → Prop) (a_0 : Option Addr) (a_0n : Nat) (a_0c : Nat) (nd_4 : Int) (x_12 : Int) (I : IMem) (S : SH) : Prop :=
  strconv_formatBase10_b11 R a_0 a_0n a_0c nd_4 x_12 (decide (nd_4 ≥ (4 : Int))) I S
def strconv_formatBase10_b9 (R : Value → IMem → SH → Prop) (a_0 : Option Addr) (a_0n : Nat) (a_0c : Nat) (u_1 : Int) (nd_4 : Int) (I : IMem) (S : SH) : Prop :=
  strconv_formatBase10_b10 R a_0 a_0n a_0c nd_4 (IntKind.wrap .u32 u_1) I S
def strconv_formatBase10_l2 (again2 : Option Addr → Nat → Nat → Int → Int → IMem → SH → Prop) (R : Value → IMem → SH → Prop) (a_0 : Option Addr) (a_0n : Nat) (a_0c : Nat) (u_1 : Int) (nd_4 : Int) (I : IMem) (S : SH) : Prop :=
  bcase (decide (nd_4 ≥ (8 : Int)))
    (strconv_formatBase10_b3 again2 R a_0 a_0n a_0c u_1 nd_4 I S)
    (strconv_formatBase10_b9 R a_0 a_0n a_0c u_1 nd_4 I S)
def strconv_formatBase10_b1 (R : Value → IMem → SH → Prop) (a_0 : Option Addr) (a_0n : Nat) (a_0c : Nat) (u_1 : Int) (nd_4 : Int) (I : IMem) (S : SH) : Prop :=
  ∃ (Inv : Nat → Option Addr → Nat → Nat → Int → Int → IMem → SH → Prop) (m : Nat), Inv m a_0 a_0n a_0c u_1 nd_4 I S ∧
    ∀ (m : Nat) (a_0 : Option Addr) (a_0n : Nat) (a_0c : Nat) (u_1 : Int) (nd_4 : Int) (J : IMem) (T : SH), I.le J → Inv m a_0 a_0n a_0c u_1 nd_4 J T →
      strconv_formatBase10_l2 (fun a_0 a_0n a_0c u_1 nd_4 I S => ∃ m', m' < m ∧ Inv m' a_0 a_0n a_0c u_1 nd_4 I S) R a_0 a_0n a_0c u_1 nd_4 J T
def strconv_formatBase10 (R : Value → IMem → SH → Prop) (a_0 : Option Addr) (a_0n : Nat) (a_0c : Nat) (u_1 : Int) (I : IMem) (S : SH) : Prop :=
  strconv_formatBase10_b1 R a_0 a_0n a_0c u_1 (a_0n : Int) I S
theorem strconv_formatBase10_fn (R : Value → IMem → SH → Prop) (a_0 : Option Addr) (a_0n : Nat) (a_0c : Nat) (u_1 : Int) (I : IMem) (S : SH) (h : strconv_formatBase10 R a_0 a_0n a_0c u_1 I S) :
    Runs Tryd.prog 84 #[.slice a_0 a_0n a_0c, .int .u64 u_1] I S R := by
  refine Runs.of_wp (args := [.slice a_0 a_0n a_0c, .int .u64 u_1]) (c := strconv_formatBase10_code) Tryd.func84 (by kernel_rfl) (by kernel_rfl) ?_
  refine WP.cut 1 (fun l I S => asSl (l 0) fun a_0 a_0n a_0c => asI .u64 (l 1) fun u_1 => asI .i64 (l 4) fun nd_4 => strconv_formatBase10_b1 R a_0 a_0n a_0c u_1 nd_4 I S) (cast (by kernel_rfl) h) ?_
  clear h
  intro l I S _ h
  obtain ⟨a_0, a_0n, a_0c, e0, h⟩ := asSl_e h
  obtain ⟨u_1, e1, h⟩ := asI_e h
  obtain ⟨nd_4, e4, h⟩ := asI_e h
  rw [upd_eta e0, upd_eta e1, upd_eta e4]
  refine WP.seqY (by kernel_rfl) (fun l I S => asSl (l 0) fun a_0 a_0n a_0c => asI .u64 (l 1) fun u_1 => asI .i64 (l 4) fun nd_4 => strconv_formatBase10_b9 R a_0 a_0n a_0c u_1 nd_4 I S) ?_ ?_
  ·
    refine WP.block' (by kernel_rfl) ?_
    obtain ⟨Inv_again2, m_again2, h0, hr⟩ := h
    refine WP.loop' (by kernel_rfl) (fun m_again2 => fun l I S => asSl (l 0) fun a_0 a_0n a_0c => asI .u64 (l 1) fun u_1 => asI .i64 (l 4) fun nd_4 => Inv_again2 m_again2 a_0 a_0n a_0c u_1 nd_4 I S) m_again2 (cast (by kernel_rfl) h0) ?_
    clear h0
    intro m_again2 l I S hle h
    obtain ⟨a_0, a_0n, a_0c, e0, h⟩ := asSl_e h
    obtain ⟨u_1, e1, h⟩ := asI_e h
    obtain ⟨nd_4, e4, h⟩ := asI_e h
    rw [upd_eta e0, upd_eta e1, upd_eta e4]
    have h := hr m_again2 a_0 a_0n a_0c u_1 nd_4 I S hle h
    clear hr hle
    refine WP.cut 1 (fun l I S => asSl (l 0) fun a_0 a_0n a_0c => asI .u64 (l 1) fun u_1 => asI .i64 (l 4) fun nd_4 => strconv_formatBase10_b3 (fun a_0 a_0n a_0c u_1 nd_4 I S => ∃ m', m' < m_again2 ∧ Inv_again2 m' a_0 a_0n a_0c u_1 nd_4 I S) R a_0 a_0n a_0c u_1 nd_4 I S) (cast (by kernel_rfl) h) ?_
    clear h
    intro l I S _ h
    obtain ⟨a_0, a_0n, a_0c, e0, h⟩ := asSl_e h
    obtain ⟨u_1, e1, h⟩ := asI_e h
    obtain ⟨nd_4, e4, h⟩ := asI_e h
    rw [upd_eta e0, upd_eta e1, upd_eta e4]
    refine WP.block' (by kernel_rfl) ?_
    refine WP.cut 5 (fun l I S => asSl (l 0) fun a_0 a_0n a_0c => asI .u64 (l 1) fun u_1 => asI .i64 (l 4) fun nd_4 => asI .u32 (l 8) fun x1_8 => asI .u32 (l 9) fun x0_9 => asI .u32 (l 10) fun x3_10 => asI .u32 (l 11) fun x2_11 => strconv_formatBase10_b4 (fun a_0 a_0n a_0c u_1 nd_4 I S => ∃ m', m' < m_again2 ∧ Inv_again2 m' a_0 a_0n a_0c u_1 nd_4 I S) R a_0 a_0n a_0c u_1 nd_4 x1_8 x0_9 x3_10 x2_11 I S) (cast (by kernel_rfl) h) ?_
    clear h
    intro l I S _ h
    obtain ⟨a_0, a_0n, a_0c, e0, h⟩ := asSl_e h
    obtain ⟨u_1, e1, h⟩ := asI_e h
    obtain ⟨nd_4, e4, h⟩ := asI_e h
    obtain ⟨x1_8, e8, h⟩ := asI_e h
    obtain ⟨x0_9, e9, h⟩ := asI_e h
    obtain ⟨x3_10, e10, h⟩ := asI_e h
    obtain ⟨x2_11, e11, h⟩ := asI_e h
    rw [upd_eta e0, upd_eta e1, upd_eta e4, upd_eta e8, upd_eta e9, upd_eta e10, upd_eta e11]
    refine WP.seqY (by kernel_rfl) (fun l I S => asSl (l 0) fun a_0 a_0n a_0c => asI .u64 (l 1) fun u_1 => asI .i64 (l 4) fun nd_4 => asI .u32 (l 8) fun x1_8 => asI .u32 (l 10) fun x3_10 => asI .u32 (l 11) fun x2_11 => strconv_formatBase10_b5 (fun a_0 a_0n a_0c u_1 nd_4 I S => ∃ m', m' < m_again2 ∧ Inv_again2 m' a_0 a_0n a_0c u_1 nd_4 I S) R a_0 a_0n a_0c u_1 nd_4 x1_8 x3_10 x2_11 I S) ?_ ?_
    ·
      exact WP.draw' (.take 0 (.take 1 (.take 2 (.take 3 (.take 4 (.take 5 (.take 6 (.take 7 (.take 8 (.take 9 (.take 10 (.take 11 (.step 12 (.take 13 (.step 14 .done))))))))))))))) [12, 14] (by kernel_rfl) (by kernel_rfl) (by kernel_rfl) (by kernel_rfl) (by kernel_rfl) (cast (by kernel_rfl) h)
    · clear h
      intro l I S _ h
      obtain ⟨a_0, a_0n, a_0c, e0, h⟩ := asSl_e h
      obtain ⟨u_1, e1, h⟩ := asI_e h
      obtain ⟨nd_4, e4, h⟩ := asI_e h
      obtain ⟨x1_8, e8, h⟩ := asI_e h
      obtain ⟨x3_10, e10, h⟩ := asI_e h
      obtain ⟨x2_11, e11, h⟩ := asI_e h
      rw [upd_eta e0, upd_eta e1, upd_eta e4, upd_eta e8, upd_eta e10, upd_eta e11]
      refine WP.seqY (by kernel_rfl) (fun l I S => asSl (l 0) fun a_0 a_0n a_0c => asI .u64 (l 1) fun u_1 => asI .i64 (l 4) fun nd_4 => asI .u32 (l 10) fun x3_10 => asI .u32 (l 11) fun x2_11 => strconv_formatBase10_b6 (fun a_0 a_0n a_0c u_1 nd_4 I S => ∃ m', m' < m_again2 ∧ Inv_again2 m' a_0 a_0n a_0c u_1 nd_4 I S) R a_0 a_0n a_0c u_1 nd_4 x3_10 x2_11 I S) ?_ ?_
      ·
        exact WP.draw' (.take 0 (.take 1 (.take 2 (.take 3 (.take 4 (.take 5 (.take 6 (.take 7 (.take 8 (.take 9 (.take 10 (.take 11 (.step 12 (.take 13 (.step 14 .done))))))))))))))) [12, 14] (by kernel_rfl) (by kernel_rfl) (by kernel_rfl) (by kernel_rfl) (by kernel_rfl) (cast (by kernel_rfl) h)
      · clear h
        intro l I S _ h
        obtain ⟨a_0, a_0n, a_0c, e0, h⟩ := asSl_e h
        obtain ⟨u_1, e1, h⟩ := asI_e h
        obtain ⟨nd_4, e4, h⟩ := asI_e h
        obtain ⟨x3_10, e10, h⟩ := asI_e h
        obtain ⟨x2_11, e11, h⟩ := asI_e h
        rw [upd_eta e0, upd_eta e1, upd_eta e4, upd_eta e10, upd_eta e11]
        refine WP.seqY (by kernel_rfl) (fun l I S => asSl (l 0) fun a_0 a_0n a_0c => asI .u64 (l 1) fun u_1 => asI .i64 (l 4) fun nd_4 => asI .u32 (l 10) fun x3_10 => strconv_formatBase10_b7 (fun a_0 a_0n a_0c u_1 nd_4 I S => ∃ m', m' < m_again2 ∧ Inv_again2 m' a_0 a_0n a_0c u_1 nd_4 I S) R a_0 a_0n a_0c u_1 nd_4 x3_10 I S) ?_ ?_
        ·
          exact WP.draw' (.take 0 (.take 1 (.take 2 (.take 3 (.take 4 (.take 5 (.take 6 (.take 7 (.take 8 (.take 9 (.take 10 (.take 11 (.step 12 (.take 13 (.step 14 .done))))))))))))))) [12, 14] (by kernel_rfl) (by kernel_rfl) (by kernel_rfl) (by kernel_rfl) (by kernel_rfl) (cast (by kernel_rfl) h)
        · clear h
          intro l I S _ h
          obtain ⟨a_0, a_0n, a_0c, e0, h⟩ := asSl_e h
          obtain ⟨u_1, e1, h⟩ := asI_e h
          obtain ⟨nd_4, e4, h⟩ := asI_e h
          obtain ⟨x3_10, e10, h⟩ := asI_e h
          rw [upd_eta e0, upd_eta e1, upd_eta e4, upd_eta e10]
          refine WP.seqY (by kernel_rfl) (fun l I S => asSl (l 0) fun a_0 a_0n a_0c => asI .u64 (l 1) fun u_1 => asI .i64 (l 4) fun nd_4 => strconv_formatBase10_b8 (fun a_0 a_0n a_0c u_1 nd_4 I S => ∃ m', m' < m_again2 ∧ Inv_again2 m' a_0 a_0n a_0c u_1 nd_4 I S) R a_0 a_0n a_0c u_1 nd_4 I S) ?_ ?_
          ·
            exact WP.draw' (.take 0 (.take 1 (.take 2 (.take 3 (.take 4 (.take 5 (.take 6 (.take 7 (.take 8 (.take 9 (.take 10 (.take 11 (.step 12 (.take 13 (.step 14 .done))))))))))))))) [12, 14] (by kernel_rfl) (by kernel_rfl) (by kernel_rfl) (by kernel_rfl) (by kernel_rfl) (cast (by kernel_rfl) h)
          · clear h
            intro l I S _ h
            obtain ⟨a_0, a_0n, a_0c, e0, h⟩ := asSl_e h
            obtain ⟨u_1, e1, h⟩ := asI_e h
            obtain ⟨nd_4, e4, h⟩ := asI_e h
            rw [upd_eta e0, upd_eta e1, upd_eta e4]
            exact Pre.sound _ _ _ _ _ (cast (by kernel_rfl) h)
  · clear h
    intro l I S _ h
    obtain ⟨a_0, a_0n, a_0c, e0, h⟩ := asSl_e h
    obtain ⟨u_1, e1, h⟩ := asI_e h
    obtain ⟨nd_4, e4, h⟩ := asI_e h
    rw [upd_eta e0, upd_eta e1, upd_eta e4]
    refine WP.cut 1 (fun l I S => asSl (l 0) fun a_0 a_0n a_0c => asI .i64 (l 4) fun nd_4 => asI .u32 (l 12) fun x_12 => strconv_formatBase10_b10 R a_0 a_0n a_0c nd_4 x_12 I S) (cast (by kernel_rfl) h) ?_
    clear h
    intro l I S _ h
    obtain ⟨a_0, a_0n, a_0c, e0, h⟩ := asSl_e h
    obtain ⟨nd_4, e4, h⟩ := asI_e h
    obtain ⟨x_12, e12, h⟩ := asI_e h
    rw [upd_eta e0, upd_eta e4, upd_eta e12]
    refine WP.seqY (by kernel_rfl) (fun l I S => asSl (l 0) fun a_0 a_0n a_0c => asI .i64 (l 4) fun nd_4 => asI .u32 (l 12) fun x_12 => strconv_formatBase10_b15 R a_0 a_0n a_0c nd_4 x_12 I S) ?_ ?_
    ·
      refine WP.cut 1 (fun l I S => asSl (l 0) fun a_0 a_0n a_0c => asI .i64 (l 4) fun nd_4 => asI .u32 (l 12) fun x_12 => asB (l 99) fun x99 => strconv_formatBase10_b11 R a_0 a_0n a_0c nd_4 x_12 x99 I S) (cast (by kernel_rfl) h) ?_
      clear h
      intro l I S _ h
      obtain ⟨a_0, a_0n, a_0c, e0, h⟩ := asSl_e h
      obtain ⟨nd_4, e4, h⟩ := asI_e h
      obtain ⟨x_12, e12, h⟩ := asI_e h
      obtain ⟨x99, e99, h⟩ := asB_e h
      rw [upd_eta e0, upd_eta e4, upd_eta e12, upd_eta e99]
      refine WP.cond' (by kernel_rfl) (by kernel_rfl) h ?_ ?_
      · clear h
        intro h
        refine WP.cut 3 (fun l I S => asSl (l 0) fun a_0 a_0n a_0c => asI .i64 (l 4) fun nd_4 => asI .u32 (l 12) fun x_12 => asI .u32 (l 14) fun x1_14 => asI .u32 (l 15) fun x0_15 => strconv_formatBase10_b12 R a_0 a_0n a_0c nd_4 x_12 x1_14 x0_15 I S) (cast (by kernel_rfl) h) ?_
        clear h
        intro l I S _ h
        obtain ⟨a_0, a_0n, a_0c, e0, h⟩ := asSl_e h
        obtain ⟨nd_4, e4, h⟩ := asI_e h
        obtain ⟨x_12, e12, h⟩ := asI_e h
        obtain ⟨x1_14, e14, h⟩ := asI_e h
        obtain ⟨x0_15, e15, h⟩ := asI_e h
        rw [upd_eta e0, upd_eta e4, upd_eta e12, upd_eta e14, upd_eta e15]
        refine WP.seqY (by kernel_rfl) (fun l I S => asSl (l 0) fun a_0 a_0n a_0c => asI .i64 (l 4) fun nd_4 => asI .u32 (l 12) fun x_12 => asI .u32 (l 14) fun x1_14 => strconv_formatBase10_b13 R a_0 a_0n a_0c nd_4 x_12 x1_14 I S) ?_ ?_
        ·
          exact WP.draw' (.take 0 (.take 1 (.take 2 (.take 3 (.take 4 (.take 5 (.take 6 (.take 7 (.take 8 (.take 9 (.take 10 (.take 11 (.step 12 (.take 13 (.step 14 .done))))))))))))))) [12, 14] (by kernel_rfl) (by kernel_rfl) (by kernel_rfl) (by kernel_rfl) (by kernel_rfl) (cast (by kernel_rfl) h)
        · clear h
          intro l I S _ h
          obtain ⟨a_0, a_0n, a_0c, e0, h⟩ := asSl_e h
          obtain ⟨nd_4, e4, h⟩ := asI_e h
          obtain ⟨x_12, e12, h⟩ := asI_e h
          obtain ⟨x1_14, e14, h⟩ := asI_e h
          rw [upd_eta e0, upd_eta e4, upd_eta e12, upd_eta e14]
          refine WP.seqY (by kernel_rfl) (fun l I S => asSl (l 0) fun a_0 a_0n a_0c => asI .i64 (l 4) fun nd_4 => asI .u32 (l 12) fun x_12 => strconv_formatBase10_b14 R a_0 a_0n a_0c nd_4 x_12 I S) ?_ ?_
          ·
            exact WP.draw' (.take 0 (.take 1 (.take 2 (.take 3 (.take 4 (.take 5 (.take 6 (.take 7 (.take 8 (.take 9 (.take 10 (.take 11 (.step 12 (.take 13 (.step 14 .done))))))))))))))) [12, 14] (by kernel_rfl) (by kernel_rfl) (by kernel_rfl) (by kernel_rfl) (by kernel_rfl) (cast (by kernel_rfl) h)
          · clear h
            intro l I S _ h
            obtain ⟨a_0, a_0n, a_0c, e0, h⟩ := asSl_e h
            obtain ⟨nd_4, e4, h⟩ := asI_e h
            obtain ⟨x_12, e12, h⟩ := asI_e h
            rw [upd_eta e0, upd_eta e4, upd_eta e12]
            exact Pre.sound _ _ _ _ _ (cast (by kernel_rfl) h)
      · clear h
        intro h
        exact Pre.sound _ _ _ _ _ (cast (by kernel_rfl) h)
    · clear h
      intro l I S _ h
      obtain ⟨a_0, a_0n, a_0c, e0, h⟩ := asSl_e h
      obtain ⟨nd_4, e4, h⟩ := asI_e h
      obtain ⟨x_12, e12, h⟩ := asI_e h
      rw [upd_eta e0, upd_eta e4, upd_eta e12]
      refine WP.seqY (by kernel_rfl) (fun l I S => asSl (l 0) fun a_0 a_0n a_0c => asI .i64 (l 4) fun nd_4 => asI .u32 (l 12) fun x_12 => strconv_formatBase10_b19 R a_0 a_0n a_0c nd_4 x_12 I S) ?_ ?_
      ·
        refine WP.cut 1 (fun l I S => asSl (l 0) fun a_0 a_0n a_0c => asI .i64 (l 4) fun nd_4 => asI .u32 (l 12) fun x_12 => asB (l 139) fun x139 => strconv_formatBase10_b16 R a_0 a_0n a_0c nd_4 x_12 x139 I S) (cast (by kernel_rfl) h) ?_
        clear h
        intro l I S _ h
        obtain ⟨a_0, a_0n, a_0c, e0, h⟩ := asSl_e h
        obtain ⟨nd_4, e4, h⟩ := asI_e h
        obtain ⟨x_12, e12, h⟩ := asI_e h
        obtain ⟨x139, e139, h⟩ := asB_e h
        rw [upd_eta e0, upd_eta e4, upd_eta e12, upd_eta e139]
        refine WP.cond' (by kernel_rfl) (by kernel_rfl) h ?_ ?_
        · clear h
          intro h
          refine WP.cut 2 (fun l I S => asSl (l 0) fun a_0 a_0n a_0c => asI .i64 (l 4) fun nd_4 => asI .u32 (l 12) fun x_12 => asI .u32 (l 16) fun x0_16 => strconv_formatBase10_b17 R a_0 a_0n a_0c nd_4 x_12 x0_16 I S) (cast (by kernel_rfl) h) ?_
          clear h
          intro l I S _ h
          obtain ⟨a_0, a_0n, a_0c, e0, h⟩ := asSl_e h
          obtain ⟨nd_4, e4, h⟩ := asI_e h
          obtain ⟨x_12, e12, h⟩ := asI_e h
          obtain ⟨x0_16, e16, h⟩ := asI_e h
          rw [upd_eta e0, upd_eta e4, upd_eta e12, upd_eta e16]
          refine WP.seqY (by kernel_rfl) (fun l I S => asSl (l 0) fun a_0 a_0n a_0c => asI .i64 (l 4) fun nd_4 => asI .u32 (l 12) fun x_12 => strconv_formatBase10_b18 R a_0 a_0n a_0c nd_4 x_12 I S) ?_ ?_
          ·
            exact WP.draw' (.take 0 (.take 1 (.take 2 (.take 3 (.take 4 (.take 5 (.take 6 (.take 7 (.take 8 (.take 9 (.take 10 (.take 11 (.step 12 (.take 13 (.step 14 .done))))))))))))))) [12, 14] (by kernel_rfl) (by kernel_rfl) (by kernel_rfl) (by kernel_rfl) (by kernel_rfl) (cast (by kernel_rfl) h)
          · clear h
            intro l I S _ h
            obtain ⟨a_0, a_0n, a_0c, e0, h⟩ := asSl_e h
            obtain ⟨nd_4, e4, h⟩ := asI_e h
            obtain ⟨x_12, e12, h⟩ := asI_e h
            rw [upd_eta e0, upd_eta e4, upd_eta e12]
            exact Pre.sound _ _ _ _ _ (cast (by kernel_rfl) h)
        · clear h
          intro h
          exact Pre.sound _ _ _ _ _ (cast (by kernel_rfl) h)
      · clear h
        intro l I S _ h
        obtain ⟨a_0, a_0n, a_0c, e0, h⟩ := asSl_e h
        obtain ⟨nd_4, e4, h⟩ := asI_e h
        obtain ⟨x_12, e12, h⟩ := asI_e h
        rw [upd_eta e0, upd_eta e4, upd_eta e12]
        exact Pre.sound _ _ _ _ _ (cast (by kernel_rfl) h)
/-! ### strconv_formatBits: function 85, internal/strconv.formatBits -/
noncomputable def strconv_formatBits_code : Code := (Tryd.f85.body).getD .skip
def strconv_formatBits_b10 (R : Value → IMem → SH → Prop) (dst_0 : Option Addr) (dst_0n : Nat) (dst_0c : Nat) (append__4 : Bool) (d_10 : Option Addr) (d_10n : Nat) (d_10c : Nat) (s_11 : ByteArray) (a_12 : Addr) (i_13 : Int) (I : IMem) (S : SH) : Prop :=
  bcase append__4
    ((0 : Int) ≤ i_13 ∧ i_13 ≤ ((65 : Nat) : Int) ∧
    AppG 5 1 1 [.int .u8 0] (some (.slice 5)) I S (.slice dst_0 dst_0n dst_0c) (.slice (slA (some a_12) 65 i_13.toNat 1) (65 - i_13.toNat) (65 - i_13.toNat)) fun x98 x98n x98c S1 =>
    R (.tuple #[.slice x98 x98n x98c, .string s_11]) I S1)
    ((0 : Int) ≤ i_13 ∧ i_13 ≤ ((65 : Nat) : Int) ∧
    ∃ x101 : ByteArray, BytesAt I S (slA (some a_12) 65 i_13.toNat 1) (65 - i_13.toNat) x101 ∧
    R (.tuple #[.slice d_10 d_10n d_10c, .string x101]) I S)
def strconv_formatBits_b9 (R : Value → IMem → SH → Prop) (dst_0 : Option Addr) (dst_0n : Nat) (dst_0c : Nat) (neg_3 : Bool) (append__4 : Bool) (d_10 : Option Addr) (d_10n : Nat) (d_10c : Nat) (s_11 : ByteArray) (a_12 : Addr) (i_13 : Int) (I : IMem) (S : SH) : Prop :=
  bcase neg_3
    ((0 : Int) ≤ (IntKind.wrap .i64 (i_13 - (1 : Int))) ∧ (IntKind.wrap .i64 (i_13 - (1 : Int))) < ((65 : Nat) : Int) ∧
    StP S (a_12.add ((IntKind.wrap .i64 (i_13 - (1 : Int))).toNat * 1)) [.int .u8 45] fun S1 =>
    strconv_formatBits_b10 R dst_0 dst_0n dst_0c append__4 d_10 d_10n d_10c s_11 a_12 (IntKind.wrap .i64 (i_13 - (1 : Int))) I S1)
    (strconv_formatBits_b10 R dst_0 dst_0n dst_0c append__4 d_10 d_10n d_10c s_11 a_12 i_13 I S)
def strconv_formatBits_b8 (R : Value → IMem → SH → Prop) (dst_0 : Option Addr) (dst_0n : Nat) (dst_0c : Nat) (u_1 : Int) (neg_3 : Bool) (append__4 : Bool) (d_10 : Option Addr) (d_10n : Nat) (d_10c : Nat) (s_11 : ByteArray) (a_12 : Addr) (i_13 : Int) (I : IMem) (S : SH) : Prop :=
  ∃ cx62 : UInt8, (0 : Int) ≤ u_1 ∧ strT1_69c1[u_1.toNat]? = some cx62 ∧
  (0 : Int) ≤ (IntKind.wrap .i64 (i_13 - (1 : Int))) ∧ (IntKind.wrap .i64 (i_13 - (1 : Int))) < ((65 : Nat) : Int) ∧
  StP S (a_12.add ((IntKind.wrap .i64 (i_13 - (1 : Int))).toNat * 1)) [.int .u8 (cx62.toNat : Int)] fun S1 =>
  strconv_formatBits_b9 R dst_0 dst_0n dst_0c neg_3 append__4 d_10 d_10n d_10c s_11 a_12 (IntKind.wrap .i64 (i_13 - (1 : Int))) I S1
def strconv_formatBits_l7 (again7 : Option Addr → Nat → Nat → Int → Bool → Bool → Option Addr → Nat → Nat → ByteArray → Addr → Int → Int → Int → Int → IMem → SH → Prop) (R : Value → IMem → SH → Prop) (dst_0 : Option Addr) (dst_0n : Nat) (dst_0c : Nat) (u_1 : Int) (neg_3 : Bool) (append__4 : Bool) (d_10 : Option Addr) (d_10n : Nat) (d_10c : Nat) (s_11 : ByteArray) (a_12 : Addr) (i_13 : Int) (shift_14 : Int) (b_15 : Int) (m_16 : Int) (I : IMem) (S : SH) : Prop :=
  bcase (decide (u_1 ≥ b_15))
    (∃ cx53 : UInt8, (0 : Int) ≤ (iand .u64 u_1 m_16) ∧ strT1_69c1[(iand .u64 u_1 m_16).toNat]? = some cx53 ∧
    (0 : Int) ≤ (IntKind.wrap .i64 (i_13 - (1 : Int))) ∧ (IntKind.wrap .i64 (i_13 - (1 : Int))) < ((65 : Nat) : Int) ∧
    StP S (a_12.add ((IntKind.wrap .i64 (i_13 - (1 : Int))).toNat * 1)) [.int .u8 (cx53.toNat : Int)] fun S1 =>
    bcase (decide (shift_14 < 0)) False (again7 dst_0 dst_0n dst_0c (u_1.fdiv (2 ^ (min shift_14.toNat (IntKind.bits .u64)))) neg_3 append__4 d_10 d_10n d_10c s_11 a_12 (IntKind.wrap .i64 (i_13 - (1 : Int))) shift_14 b_15 m_16 I S1))
    (strconv_formatBits_b8 R dst_0 dst_0n dst_0c u_1 neg_3 append__4 d_10 d_10n d_10c s_11 a_12 i_13 I S)
def strconv_formatBits_b6 (R : Value → IMem → SH → Prop) (dst_0 : Option Addr) (dst_0n : Nat) (dst_0c : Nat) (u_1 : Int) (neg_3 : Bool) (append__4 : Bool) (d_10 : Option Addr) (d_10n : Nat) (d_10c : Nat) (s_11 : ByteArray) (a_12 : Addr) (i_13 : Int) (shift_14 : Int) (b_15 : Int) (m_16 : Int) (I : IMem) (S : SH) : Prop :=
  ∃ (Inv : Nat → Option Addr → Nat → Nat → Int → Bool → Bool → Option Addr → Nat → Nat → ByteArray → Addr → Int → Int → Int → Int → IMem → SH → Prop) (m : Nat), Inv m dst_0 dst_0n dst_0c u_1 neg_3 append__4 d_10 d_10n d_10c s_11 a_12 i_13 shift_14 b_15 m_16 I S ∧
    ∀ (m : Nat) (dst_0 : Option Addr) (dst_0n : Nat) (dst_0c : Nat) (u_1 : Int) (neg_3 : Bool) (append__4 : Bool) (d_10 : Option Addr) (d_10n : Nat) (d_10c : Nat) (s_11 : ByteArray) (a_12 : Addr) (i_13 : Int) (shift_14 : Int) (b_15 : Int) (m_16 : Int) (J : IMem) (T : SH), I.le J → Inv m dst_0 dst_0n dst_0c u_1 neg_3 append__4 d_10 d_10n d_10c s_11 a_12 i_13 shift_14 b_15 m_16 J T →
      strconv_formatBits_l7 (fun dst_0 dst_0n dst_0c u_1 neg_3 append__4 d_10 d_10n d_10c s_11 a_12 i_13 shift_14 b_15 m_16 I S => ∃ m', m' < m ∧ Inv m' dst_0 dst_0n dst_0c u_1 neg_3 append__4 d_10 d_10n d_10c s_11 a_12 i_13 shift_14 b_15 m_16 I S) R dst_0 dst_0n dst_0c u_1 neg_3 append__4 d_10 d_10n d_10c s_11 a_12 i_13 shift_14 b_15 m_16 J T
def strconv_formatBits_b13 (R : Value → IMem → SH → Prop) (dst_0 : Option Addr) (dst_0n : Nat) (dst_0c : Nat) (u_1 : Int) (neg_3 : Bool) (append__4 : Bool) (d_10 : Option Addr) (d_10n : Nat) (d_10c : Nat) (s_11 : ByteArray) (a_12 : Addr) (i_13 : Int) (I : IMem) (S : SH) : Prop :=
  ∃ cx87 : UInt8, (0 : Int) ≤ u_1 ∧ strT1_69c1[u_1.toNat]? = some cx87 ∧
  (0 : Int) ≤ (IntKind.wrap .i64 (i_13 - (1 : Int))) ∧ (IntKind.wrap .i64 (i_13 - (1 : Int))) < ((65 : Nat) : Int) ∧
  StP S (a_12.add ((IntKind.wrap .i64 (i_13 - (1 : Int))).toNat * 1)) [.int .u8 (cx87.toNat : Int)] fun S1 =>
  strconv_formatBits_b9 R dst_0 dst_0n dst_0c neg_3 append__4 d_10 d_10n d_10c s_11 a_12 (IntKind.wrap .i64 (i_13 - (1 : Int))) I S1
def strconv_formatBits_l12 (again12 : Option Addr → Nat → Nat → Int → Bool → Bool → Option Addr → Nat → Nat → ByteArray → Addr → Int → Int → IMem → SH → Prop) (R : Value → IMem → SH → Prop) (dst_0 : Option Addr) (dst_0n : Nat) (dst_0c : Nat) (u_1 : Int) (neg_3 : Bool) (append__4 : Bool) (d_10 : Option Addr) (d_10n : Nat) (d_10c : Nat) (s_11 : ByteArray) (a_12 : Addr) (i_13 : Int) (b_17 : Int) (I : IMem) (S : SH) : Prop :=
  bcase (decide (u_1 ≥ b_17))
    (bcase (decide (b_17 = 0)) False (∃ cx80 : UInt8, (0 : Int) ≤ (IntKind.wrap .u64 (u_1 - (IntKind.wrap .u64 ((IntKind.wrap .u64 (u_1.tdiv b_17)) * b_17)))) ∧ strT1_69c1[(IntKind.wrap .u64 (u_1 - (IntKind.wrap .u64 ((IntKind.wrap .u64 (u_1.tdiv b_17)) * b_17)))).toNat]? = some cx80 ∧
    (0 : Int) ≤ (IntKind.wrap .i64 (i_13 - (1 : Int))) ∧ (IntKind.wrap .i64 (i_13 - (1 : Int))) < ((65 : Nat) : Int) ∧
    StP S (a_12.add ((IntKind.wrap .i64 (i_13 - (1 : Int))).toNat * 1)) [.int .u8 (cx80.toNat : Int)] fun S1 =>
    again12 dst_0 dst_0n dst_0c (IntKind.wrap .u64 (u_1.tdiv b_17)) neg_3 append__4 d_10 d_10n d_10c s_11 a_12 (IntKind.wrap .i64 (i_13 - (1 : Int))) b_17 I S1))
    (strconv_formatBits_b13 R dst_0 dst_0n dst_0c u_1 neg_3 append__4 d_10 d_10n d_10c s_11 a_12 i_13 I S)
def strconv_formatBits_b11 (R : Value → IMem → SH → Prop) (dst_0 : Option Addr) (dst_0n : Nat) (dst_0c : Nat) (u_1 : Int) (neg_3 : Bool) (append__4 : Bool) (d_10 : Option Addr) (d_10n : Nat) (d_10c : Nat) (s_11 : ByteArray) (a_12 : Addr) (i_13 : Int) (b_17 : Int) (I : IMem) (S : SH) : Prop :=
  ∃ (Inv : Nat → Option Addr → Nat → Nat → Int → Bool → Bool → Option Addr → Nat → Nat → ByteArray → Addr → Int → Int → IMem → SH → Prop) (m : Nat), Inv m dst_0 dst_0n dst_0c u_1 neg_3 append__4 d_10 d_10n d_10c s_11 a_12 i_13 b_17 I S ∧
    ∀ (m : Nat) (dst_0 : Option Addr) (dst_0n : Nat) (dst_0c : Nat) (u_1 : Int) (neg_3 : Bool) (append__4 : Bool) (d_10 : Option Addr) (d_10n : Nat) (d_10c : Nat) (s_11 : ByteArray) (a_12 : Addr) (i_13 : Int) (b_17 : Int) (J : IMem) (T : SH), I.le J → Inv m dst_0 dst_0n dst_0c u_1 neg_3 append__4 d_10 d_10n d_10c s_11 a_12 i_13 b_17 J T →
      strconv_formatBits_l12 (fun dst_0 dst_0n dst_0c u_1 neg_3 append__4 d_10 d_10n d_10c s_11 a_12 i_13 b_17 I S => ∃ m', m' < m ∧ Inv m' dst_0 dst_0n dst_0c u_1 neg_3 append__4 d_10 d_10n d_10c s_11 a_12 i_13 b_17 I S) R dst_0 dst_0n dst_0c u_1 neg_3 append__4 d_10 d_10n d_10c s_11 a_12 i_13 b_17 J T
def strconv_formatBits_b5 (R : Value → IMem → SH → Prop) (dst_0 : Option Addr) (dst_0n : Nat) (dst_0c : Nat) (u_1 : Int) (base_2 : Int) (neg_3 : Bool) (append__4 : Bool) (d_10 : Option Addr) (d_10n : Nat) (d_10c : Nat) (s_11 : ByteArray) (a_12 : Addr) (i_13 : Int) (x34 : Bool) (I : IMem) (S : SH) : Prop :=
  bcase x34
    (Runs Tryd.prog 100 #[.int .u64 (IntKind.wrap .u64 base_2)] I S fun v I1 S1 => ∃ x37, v = .int .i64 x37 ∧
    strconv_formatBits_b6 R dst_0 dst_0n dst_0c u_1 neg_3 append__4 d_10 d_10n d_10c s_11 a_12 i_13 (IntKind.wrap .u64 x37) (IntKind.wrap .u64 base_2) (IntKind.wrap .u64 ((IntKind.wrap .u64 base_2) - (1 : Int))) I1 S1)
    (strconv_formatBits_b11 R dst_0 dst_0n dst_0c u_1 neg_3 append__4 d_10 d_10n d_10c s_11 a_12 i_13 (IntKind.wrap .u64 base_2) I S)
def strconv_formatBits_b4 (R : Value → IMem → SH → Prop) (dst_0 : Option Addr) (dst_0n : Nat) (dst_0c : Nat) (u_1 : Int) (base_2 : Int) (neg_3 : Bool) (append__4 : Bool) (d_10 : Option Addr) (d_10n : Nat) (d_10c : Nat) (s_11 : ByteArray) (a_12 : Addr) (i_13 : Int) (I : IMem) (S : SH) : Prop :=
  Runs Tryd.prog 99 #[.int .i64 base_2] I S fun v I1 S1 => ∃ x34, v = .bool x34 ∧
  strconv_formatBits_b5 R dst_0 dst_0n dst_0c u_1 base_2 neg_3 append__4 d_10 d_10n d_10c s_11 a_12 i_13 x34 I1 S1
def strconv_formatBits_b3 (R : Value → IMem → SH → Prop) (dst_0 : Option Addr) (dst_0n : Nat) (dst_0c : Nat) (u_1 : Int) (base_2 : Int) (neg_3 : Bool) (append__4 : Bool) (d_10 : Option Addr) (d_10n : Nat) (d_10c : Nat) (s_11 : ByteArray) (I : IMem) (S : SH) : Prop :=
  ∀ b12 : Nat,
  bcase neg_3
    (strconv_formatBits_b4 R dst_0 dst_0n dst_0c (IntKind.wrap .u64 (0 - u_1)) base_2 neg_3 append__4 d_10 d_10n d_10c s_11 ⟨b12, 0, none⟩ 65 I ((b12, .cells #[.int .u8 0, .int .u8 0, .int .u8 0, .int .u8 0, .int .u8 0, .int .u8 0, .int .u8 0, .int .u8 0, .int .u8 0, .int .u8 0, .int .u8 0, .int .u8 0, .int .u8 0, .int .u8 0, .int .u8 0, .int .u8 0, .int .u8 0, .int .u8 0, .int .u8 0, .int .u8 0, .int .u8 0, .int .u8 0, .int .u8 0, .int .u8 0, .int .u8 0, .int .u8 0, .int .u8 0, .int .u8 0, .int .u8 0, .int .u8 0, .int .u8 0, .int .u8 0, .int .u8 0, .int .u8 0, .int .u8 0, .int .u8 0, .int .u8 0, .int .u8 0, .int .u8 0, .int .u8 0, .int .u8 0, .int .u8 0, .int .u8 0, .int .u8 0, .int .u8 0, .int .u8 0, .int .u8 0, .int .u8 0, .int .u8 0, .int .u8 0, .int .u8 0, .int .u8 0, .int .u8 0, .int .u8 0, .int .u8 0, .int .u8 0, .int .u8 0, .int .u8 0, .int .u8 0, .int .u8 0, .int .u8 0, .int .u8 0, .int .u8 0, .int .u8 0, .int .u8 0] 156 (0, 0)) :: S))
    (strconv_formatBits_b4 R dst_0 dst_0n dst_0c u_1 base_2 neg_3 append__4 d_10 d_10n d_10c s_11 ⟨b12, 0, none⟩ 65 I ((b12, .cells #[.int .u8 0, .int .u8 0, .int .u8 0, .int .u8 0, .int .u8 0, .int .u8 0, .int .u8 0, .int .u8 0, .int .u8 0, .int .u8 0, .int .u8 0, .int .u8 0, .int .u8 0, .int .u8 0, .int .u8 0, .int .u8 0, .int .u8 0, .int .u8 0, .int .u8 0, .int .u8 0, .int .u8 0, .int .u8 0, .int .u8 0, .int .u8 0, .int .u8 0, .int .u8 0, .int .u8 0, .int .u8 0, .int .u8 0, .int .u8 0, .int .u8 0, .int .u8 0, .int .u8 0, .int .u8 0, .int .u8 0, .int .u8 0, .int .u8 0, .int .u8 0, .int .u8 0, .int .u8 0, .int .u8 0, .int .u8 0, .int .u8 0, .int .u8 0, .int .u8 0, .int .u8 0, .int .u8 0, .int .u8 0, .int .u8 0, .int .u8 0, .int .u8 0, .int .u8 0, .int .u8 0, .int .u8 0, .int .u8 0, .int .u8 0, .int .u8 0, .int .u8 0, .int .u8 0, .int .u8 0, .int .u8 0, .int .u8 0, .int .u8 0, .int .u8 0, .int .u8 0] 156 (0, 0)) :: S))
def strconv_formatBits_b2 (R : Value → IMem → SH → Prop) (dst_0 : Option Addr) (dst_0n : Nat) (dst_0c : Nat) (u_1 : Int) (base_2 : Int) (neg_3 : Bool) (append__4 : Bool) (d_10 : Option Addr) (d_10n : Nat) (d_10c : Nat) (s_11 : ByteArray) (x28 : Bool) (I : IMem) (S : SH) : Prop :=
  bcase x28
    (False)
    (strconv_formatBits_b3 R dst_0 dst_0n dst_0c u_1 base_2 neg_3 append__4 d_10 d_10n d_10c s_11 I S)
def strconv_formatBits_b1 (R : Value → IMem → SH → Prop) (dst_0 : Option Addr) (dst_0n : Nat) (dst_0c : Nat) (u_1 : Int) (base_2 : Int) (neg_3 : Bool) (append__4 : Bool) (d_10 : Option Addr) (d_10n : Nat) (d_10c : Nat) (s_11 : ByteArray) (I : IMem) (S : SH) : Prop :=
  bcase (decide (base_2 < (2 : Int)))
    (strconv_formatBits_b2 R dst_0 dst_0n dst_0c u_1 base_2 neg_3 append__4 d_10 d_10n d_10c s_11 true I S)
    (bcase (base_2 == (10 : Int))
      (strconv_formatBits_b2 R dst_0 dst_0n dst_0c u_1 base_2 neg_3 append__4 d_10 d_10n d_10c s_11 true I S)
      (strconv_formatBits_b2 R dst_0 dst_0n dst_0c u_1 base_2 neg_3 append__4 d_10 d_10n d_10c s_11 (decide (base_2 > (36 : Int))) I S))
def strconv_formatBits (R : Value → IMem → SH → Prop) (dst_0 : Option Addr) (dst_0n : Nat) (dst_0c : Nat) (u_1 : Int) (base_2 : Int) (neg_3 : Bool) (append__4 : Bool) (I : IMem) (S : SH) : Prop :=
  strconv_formatBits_b1 R dst_0 dst_0n dst_0c u_1 base_2 neg_3 append__4 none 0 0 ⟨#[]⟩ I S
theorem strconv_formatBits_fn (R : Value → IMem → SH → Prop) (dst_0 : Option Addr) (dst_0n : Nat) (dst_0c : Nat) (u_1 : Int) (base_2 : Int) (neg_3 : Bool) (append__4 : Bool) (I : IMem) (S : SH) (h : strconv_formatBits R dst_0 dst_0n dst_0c u_1 base_2 neg_3 append__4 I S) :
    Runs Tryd.prog 85 #[.slice dst_0 dst_0n dst_0c, .int .u64 u_1, .int .i64 base_2, .bool neg_3, .bool append__4] I S R := by
  refine Runs.of_wp (args := [.slice dst_0 dst_0n dst_0c, .int .u64 u_1, .int .i64 base_2, .bool neg_3, .bool append__4]) (c := strconv_formatBits_code) Tryd.func85 (by kernel_rfl) (by kernel_rfl) ?_
  refine WP.cut 1 (fun l I S => asSl (l 0) fun dst_0 dst_0n dst_0c => asI .u64 (l 1) fun u_1 => asI .i64 (l 2) fun base_2 => asB (l 3) fun neg_3 => asB (l 4) fun append__4 => asSl (l 10) fun d_10 d_10n d_10c => asStr (l 11) fun s_11 => strconv_formatBits_b1 R dst_0 dst_0n dst_0c u_1 base_2 neg_3 append__4 d_10 d_10n d_10c s_11 I S) (cast (by kernel_rfl) h) ?_
  clear h
  intro l I S _ h
  obtain ⟨dst_0, dst_0n, dst_0c, e0, h⟩ := asSl_e h
  obtain ⟨u_1, e1, h⟩ := asI_e h
  obtain ⟨base_2, e2, h⟩ := asI_e h
  obtain ⟨neg_3, e3, h⟩ := asB_e h
  obtain ⟨append__4, e4, h⟩ := asB_e h
  obtain ⟨d_10, d_10n, d_10c, e10, h⟩ := asSl_e h
  obtain ⟨s_11, e11, h⟩ := asStr_e h
  rw [upd_eta e0, upd_eta e1, upd_eta e2, upd_eta e3, upd_eta e4, upd_eta e10, upd_eta e11]
  refine WP.seqY (by kernel_rfl) (fun l I S => asSl (l 0) fun dst_0 dst_0n dst_0c => asI .u64 (l 1) fun u_1 => asI .i64 (l 2) fun base_2 => asB (l 3) fun neg_3 => asB (l 4) fun append__4 => asSl (l 10) fun d_10 d_10n d_10c => asStr (l 11) fun s_11 => strconv_formatBits_b3 R dst_0 dst_0n dst_0c u_1 base_2 neg_3 append__4 d_10 d_10n d_10c s_11 I S) ?_ ?_
  ·
    refine WP.cut 1 (fun l I S => asSl (l 0) fun dst_0 dst_0n dst_0c => asI .u64 (l 1) fun u_1 => asI .i64 (l 2) fun base_2 => asB (l 3) fun neg_3 => asB (l 4) fun append__4 => asSl (l 10) fun d_10 d_10n d_10c => asStr (l 11) fun s_11 => asB (l 28) fun x28 => strconv_formatBits_b2 R dst_0 dst_0n dst_0c u_1 base_2 neg_3 append__4 d_10 d_10n d_10c s_11 x28 I S) (cast (by kernel_rfl) h) ?_
    clear h
    intro l I S _ h
    obtain ⟨dst_0, dst_0n, dst_0c, e0, h⟩ := asSl_e h
    obtain ⟨u_1, e1, h⟩ := asI_e h
    obtain ⟨base_2, e2, h⟩ := asI_e h
    obtain ⟨neg_3, e3, h⟩ := asB_e h
    obtain ⟨append__4, e4, h⟩ := asB_e h
    obtain ⟨d_10, d_10n, d_10c, e10, h⟩ := asSl_e h
    obtain ⟨s_11, e11, h⟩ := asStr_e h
    obtain ⟨x28, e28, h⟩ := asB_e h
    rw [upd_eta e0, upd_eta e1, upd_eta e2, upd_eta e3, upd_eta e4, upd_eta e10, upd_eta e11, upd_eta e28]
    exact Pre.sound _ _ _ _ _ (cast (by kernel_rfl) h)
  · clear h
    intro l I S _ h
    obtain ⟨dst_0, dst_0n, dst_0c, e0, h⟩ := asSl_e h
    obtain ⟨u_1, e1, h⟩ := asI_e h
    obtain ⟨base_2, e2, h⟩ := asI_e h
    obtain ⟨neg_3, e3, h⟩ := asB_e h
    obtain ⟨append__4, e4, h⟩ := asB_e h
    obtain ⟨d_10, d_10n, d_10c, e10, h⟩ := asSl_e h
    obtain ⟨s_11, e11, h⟩ := asStr_e h
    rw [upd_eta e0, upd_eta e1, upd_eta e2, upd_eta e3, upd_eta e4, upd_eta e10, upd_eta e11]
    refine WP.cut 3 (fun l I S => asSl (l 0) fun dst_0 dst_0n dst_0c => asI .u64 (l 1) fun u_1 => asI .i64 (l 2) fun base_2 => asB (l 3) fun neg_3 => asB (l 4) fun append__4 => asSl (l 10) fun d_10 d_10n d_10c => asStr (l 11) fun s_11 => asAdr (l 12) fun a_12 => asI .i64 (l 13) fun i_13 => strconv_formatBits_b4 R dst_0 dst_0n dst_0c u_1 base_2 neg_3 append__4 d_10 d_10n d_10c s_11 a_12 i_13 I S) (cast (by kernel_rfl) h) ?_
    clear h
    intro l I S _ h
    obtain ⟨dst_0, dst_0n, dst_0c, e0, h⟩ := asSl_e h
    obtain ⟨u_1, e1, h⟩ := asI_e h
    obtain ⟨base_2, e2, h⟩ := asI_e h
    obtain ⟨neg_3, e3, h⟩ := asB_e h
    obtain ⟨append__4, e4, h⟩ := asB_e h
    obtain ⟨d_10, d_10n, d_10c, e10, h⟩ := asSl_e h
    obtain ⟨s_11, e11, h⟩ := asStr_e h
    obtain ⟨a_12, e12, h⟩ := asAdr_e h
    obtain ⟨i_13, e13, h⟩ := asI_e h
    rw [upd_eta e0, upd_eta e1, upd_eta e2, upd_eta e3, upd_eta e4, upd_eta e10, upd_eta e11, upd_eta e12, upd_eta e13]
    refine WP.seqY (by kernel_rfl) (fun l I S => asSl (l 0) fun dst_0 dst_0n dst_0c => asB (l 3) fun neg_3 => asB (l 4) fun append__4 => asSl (l 10) fun d_10 d_10n d_10c => asStr (l 11) fun s_11 => asAdr (l 12) fun a_12 => asI .i64 (l 13) fun i_13 => strconv_formatBits_b9 R dst_0 dst_0n dst_0c neg_3 append__4 d_10 d_10n d_10c s_11 a_12 i_13 I S) ?_ ?_
    ·
      refine WP.cut 1 (fun l I S => asSl (l 0) fun dst_0 dst_0n dst_0c => asI .u64 (l 1) fun u_1 => asI .i64 (l 2) fun base_2 => asB (l 3) fun neg_3 => asB (l 4) fun append__4 => asSl (l 10) fun d_10 d_10n d_10c => asStr (l 11) fun s_11 => asAdr (l 12) fun a_12 => asI .i64 (l 13) fun i_13 => asB (l 34) fun x34 => strconv_formatBits_b5 R dst_0 dst_0n dst_0c u_1 base_2 neg_3 append__4 d_10 d_10n d_10c s_11 a_12 i_13 x34 I S) (cast (by kernel_rfl) h) ?_
      clear h
      intro l I S _ h
      obtain ⟨dst_0, dst_0n, dst_0c, e0, h⟩ := asSl_e h
      obtain ⟨u_1, e1, h⟩ := asI_e h
      obtain ⟨base_2, e2, h⟩ := asI_e h
      obtain ⟨neg_3, e3, h⟩ := asB_e h
      obtain ⟨append__4, e4, h⟩ := asB_e h
      obtain ⟨d_10, d_10n, d_10c, e10, h⟩ := asSl_e h
      obtain ⟨s_11, e11, h⟩ := asStr_e h
      obtain ⟨a_12, e12, h⟩ := asAdr_e h
      obtain ⟨i_13, e13, h⟩ := asI_e h
      obtain ⟨x34, e34, h⟩ := asB_e h
      rw [upd_eta e0, upd_eta e1, upd_eta e2, upd_eta e3, upd_eta e4, upd_eta e10, upd_eta e11, upd_eta e12, upd_eta e13, upd_eta e34]
      refine WP.cond' (by kernel_rfl) (by kernel_rfl) h ?_ ?_
      · clear h
        intro h
        refine WP.cut 3 (fun l I S => asSl (l 0) fun dst_0 dst_0n dst_0c => asI .u64 (l 1) fun u_1 => asB (l 3) fun neg_3 => asB (l 4) fun append__4 => asSl (l 10) fun d_10 d_10n d_10c => asStr (l 11) fun s_11 => asAdr (l 12) fun a_12 => asI .i64 (l 13) fun i_13 => asI .u64 (l 14) fun shift_14 => asI .u64 (l 15) fun b_15 => asI .u64 (l 16) fun m_16 => strconv_formatBits_b6 R dst_0 dst_0n dst_0c u_1 neg_3 append__4 d_10 d_10n d_10c s_11 a_12 i_13 shift_14 b_15 m_16 I S) (cast (by kernel_rfl) h) ?_
        clear h
        intro l I S _ h
        obtain ⟨dst_0, dst_0n, dst_0c, e0, h⟩ := asSl_e h
        obtain ⟨u_1, e1, h⟩ := asI_e h
        obtain ⟨neg_3, e3, h⟩ := asB_e h
        obtain ⟨append__4, e4, h⟩ := asB_e h
        obtain ⟨d_10, d_10n, d_10c, e10, h⟩ := asSl_e h
        obtain ⟨s_11, e11, h⟩ := asStr_e h
        obtain ⟨a_12, e12, h⟩ := asAdr_e h
        obtain ⟨i_13, e13, h⟩ := asI_e h
        obtain ⟨shift_14, e14, h⟩ := asI_e h
        obtain ⟨b_15, e15, h⟩ := asI_e h
        obtain ⟨m_16, e16, h⟩ := asI_e h
        rw [upd_eta e0, upd_eta e1, upd_eta e3, upd_eta e4, upd_eta e10, upd_eta e11, upd_eta e12, upd_eta e13, upd_eta e14, upd_eta e15, upd_eta e16]
        refine WP.seqY (by kernel_rfl) (fun l I S => asSl (l 0) fun dst_0 dst_0n dst_0c => asI .u64 (l 1) fun u_1 => asB (l 3) fun neg_3 => asB (l 4) fun append__4 => asSl (l 10) fun d_10 d_10n d_10c => asStr (l 11) fun s_11 => asAdr (l 12) fun a_12 => asI .i64 (l 13) fun i_13 => strconv_formatBits_b8 R dst_0 dst_0n dst_0c u_1 neg_3 append__4 d_10 d_10n d_10c s_11 a_12 i_13 I S) ?_ ?_
        ·
          refine WP.block' (by kernel_rfl) ?_
          obtain ⟨Inv_again7, m_again7, h0, hr⟩ := h
          refine WP.loop' (by kernel_rfl) (fun m_again7 => fun l I S => asSl (l 0) fun dst_0 dst_0n dst_0c => asI .u64 (l 1) fun u_1 => asB (l 3) fun neg_3 => asB (l 4) fun append__4 => asSl (l 10) fun d_10 d_10n d_10c => asStr (l 11) fun s_11 => asAdr (l 12) fun a_12 => asI .i64 (l 13) fun i_13 => asI .u64 (l 14) fun shift_14 => asI .u64 (l 15) fun b_15 => asI .u64 (l 16) fun m_16 => Inv_again7 m_again7 dst_0 dst_0n dst_0c u_1 neg_3 append__4 d_10 d_10n d_10c s_11 a_12 i_13 shift_14 b_15 m_16 I S) m_again7 (cast (by kernel_rfl) h0) ?_
          clear h0
          intro m_again7 l I S hle h
          obtain ⟨dst_0, dst_0n, dst_0c, e0, h⟩ := asSl_e h
          obtain ⟨u_1, e1, h⟩ := asI_e h
          obtain ⟨neg_3, e3, h⟩ := asB_e h
          obtain ⟨append__4, e4, h⟩ := asB_e h
          obtain ⟨d_10, d_10n, d_10c, e10, h⟩ := asSl_e h
          obtain ⟨s_11, e11, h⟩ := asStr_e h
          obtain ⟨a_12, e12, h⟩ := asAdr_e h
          obtain ⟨i_13, e13, h⟩ := asI_e h
          obtain ⟨shift_14, e14, h⟩ := asI_e h
          obtain ⟨b_15, e15, h⟩ := asI_e h
          obtain ⟨m_16, e16, h⟩ := asI_e h
          rw [upd_eta e0, upd_eta e1, upd_eta e3, upd_eta e4, upd_eta e10, upd_eta e11, upd_eta e12, upd_eta e13, upd_eta e14, upd_eta e15, upd_eta e16]
          have h := hr m_again7 dst_0 dst_0n dst_0c u_1 neg_3 append__4 d_10 d_10n d_10c s_11 a_12 i_13 shift_14 b_15 m_16 I S hle h
          clear hr hle
          exact Pre.sound _ _ _ _ _ (cast (by kernel_rfl) h)
        · clear h
          intro l I S _ h
          obtain ⟨dst_0, dst_0n, dst_0c, e0, h⟩ := asSl_e h
          obtain ⟨u_1, e1, h⟩ := asI_e h
          obtain ⟨neg_3, e3, h⟩ := asB_e h
          obtain ⟨append__4, e4, h⟩ := asB_e h
          obtain ⟨d_10, d_10n, d_10c, e10, h⟩ := asSl_e h
          obtain ⟨s_11, e11, h⟩ := asStr_e h
          obtain ⟨a_12, e12, h⟩ := asAdr_e h
          obtain ⟨i_13, e13, h⟩ := asI_e h
          rw [upd_eta e0, upd_eta e1, upd_eta e3, upd_eta e4, upd_eta e10, upd_eta e11, upd_eta e12, upd_eta e13]
          exact Pre.sound _ _ _ _ _ (cast (by kernel_rfl) h)
      · clear h
        intro h
        refine WP.cut 1 (fun l I S => asSl (l 0) fun dst_0 dst_0n dst_0c => asI .u64 (l 1) fun u_1 => asB (l 3) fun neg_3 => asB (l 4) fun append__4 => asSl (l 10) fun d_10 d_10n d_10c => asStr (l 11) fun s_11 => asAdr (l 12) fun a_12 => asI .i64 (l 13) fun i_13 => asI .u64 (l 17) fun b_17 => strconv_formatBits_b11 R dst_0 dst_0n dst_0c u_1 neg_3 append__4 d_10 d_10n d_10c s_11 a_12 i_13 b_17 I S) (cast (by kernel_rfl) h) ?_
        clear h
        intro l I S _ h
        obtain ⟨dst_0, dst_0n, dst_0c, e0, h⟩ := asSl_e h
        obtain ⟨u_1, e1, h⟩ := asI_e h
        obtain ⟨neg_3, e3, h⟩ := asB_e h
        obtain ⟨append__4, e4, h⟩ := asB_e h
        obtain ⟨d_10, d_10n, d_10c, e10, h⟩ := asSl_e h
        obtain ⟨s_11, e11, h⟩ := asStr_e h
        obtain ⟨a_12, e12, h⟩ := asAdr_e h
        obtain ⟨i_13, e13, h⟩ := asI_e h
        obtain ⟨b_17, e17, h⟩ := asI_e h
        rw [upd_eta e0, upd_eta e1, upd_eta e3, upd_eta e4, upd_eta e10, upd_eta e11, upd_eta e12, upd_eta e13, upd_eta e17]
        refine WP.seqY (by kernel_rfl) (fun l I S => asSl (l 0) fun dst_0 dst_0n dst_0c => asI .u64 (l 1) fun u_1 => asB (l 3) fun neg_3 => asB (l 4) fun append__4 => asSl (l 10) fun d_10 d_10n d_10c => asStr (l 11) fun s_11 => asAdr (l 12) fun a_12 => asI .i64 (l 13) fun i_13 => strconv_formatBits_b13 R dst_0 dst_0n dst_0c u_1 neg_3 append__4 d_10 d_10n d_10c s_11 a_12 i_13 I S) ?_ ?_
        ·
          refine WP.block' (by kernel_rfl) ?_
          obtain ⟨Inv_again12, m_again12, h0, hr⟩ := h
          refine WP.loop' (by kernel_rfl) (fun m_again12 => fun l I S => asSl (l 0) fun dst_0 dst_0n dst_0c => asI .u64 (l 1) fun u_1 => asB (l 3) fun neg_3 => asB (l 4) fun append__4 => asSl (l 10) fun d_10 d_10n d_10c => asStr (l 11) fun s_11 => asAdr (l 12) fun a_12 => asI .i64 (l 13) fun i_13 => asI .u64 (l 17) fun b_17 => Inv_again12 m_again12 dst_0 dst_0n dst_0c u_1 neg_3 append__4 d_10 d_10n d_10c s_11 a_12 i_13 b_17 I S) m_again12 (cast (by kernel_rfl) h0) ?_
          clear h0
          intro m_again12 l I S hle h
          obtain ⟨dst_0, dst_0n, dst_0c, e0, h⟩ := asSl_e h
          obtain ⟨u_1, e1, h⟩ := asI_e h
          obtain ⟨neg_3, e3, h⟩ := asB_e h
          obtain ⟨append__4, e4, h⟩ := asB_e h
          obtain ⟨d_10, d_10n, d_10c, e10, h⟩ := asSl_e h
          obtain ⟨s_11, e11, h⟩ := asStr_e h
          obtain ⟨a_12, e12, h⟩ := asAdr_e h
          obtain ⟨i_13, e13, h⟩ := asI_e h
          obtain ⟨b_17, e17, h⟩ := asI_e h
          rw [upd_eta e0, upd_eta e1, upd_eta e3, upd_eta e4, upd_eta e10, upd_eta e11, upd_eta e12, upd_eta e13, upd_eta e17]
          have h := hr m_again12 dst_0 dst_0n dst_0c u_1 neg_3 append__4 d_10 d_10n d_10c s_11 a_12 i_13 b_17 I S hle h
          clear hr hle
          exact Pre.sound _ _ _ _ _ (cast (by kernel_rfl) h)
        · clear h
          intro l I S _ h
          obtain ⟨dst_0, dst_0n, dst_0c, e0, h⟩ := asSl_e h
          obtain ⟨u_1, e1, h⟩ := asI_e h
          obtain ⟨neg_3, e3, h⟩ := asB_e h
          obtain ⟨append__4, e4, h⟩ := asB_e h
          obtain ⟨d_10, d_10n, d_10c, e10, h⟩ := asSl_e h
          obtain ⟨s_11, e11, h⟩ := asStr_e h
          obtain ⟨a_12, e12, h⟩ := asAdr_e h
          obtain ⟨i_13, e13, h⟩ := asI_e h
          rw [upd_eta e0, upd_eta e1, upd_eta e3, upd_eta e4, upd_eta e10, upd_eta e11, upd_eta e12, upd_eta e13]
          exact Pre.sound _ _ _ _ _ (cast (by kernel_rfl) h)
    · clear h
      intro l I S _ h
      obtain ⟨dst_0, dst_0n, dst_0c, e0, h⟩ := asSl_e h
      obtain ⟨neg_3, e3, h⟩ := asB_e h
      obtain ⟨append__4, e4, h⟩ := asB_e h
      obtain ⟨d_10, d_10n, d_10c, e10, h⟩ := asSl_e h
      obtain ⟨s_11, e11, h⟩ := asStr_e h
      obtain ⟨a_12, e12, h⟩ := asAdr_e h
      obtain ⟨i_13, e13, h⟩ := asI_e h
      rw [upd_eta e0, upd_eta e3, upd_eta e4, upd_eta e10, upd_eta e11, upd_eta e12, upd_eta e13]
      refine WP.cut 1 (fun l I S => asSl (l 0) fun dst_0 dst_0n dst_0c => asB (l 4) fun append__4 => asSl (l 10) fun d_10 d_10n d_10c => asStr (l 11) fun s_11 => asAdr (l 12) fun a_12 => asI .i64 (l 13) fun i_13 => strconv_formatBits_b10 R dst_0 dst_0n dst_0c append__4 d_10 d_10n d_10c s_11 a_12 i_13 I S) (cast (by kernel_rfl) h) ?_
      clear h
      intro l I S _ h
      obtain ⟨dst_0, dst_0n, dst_0c, e0, h⟩ := asSl_e h
      obtain ⟨append__4, e4, h⟩ := asB_e h
      obtain ⟨d_10, d_10n, d_10c, e10, h⟩ := asSl_e h
      obtain ⟨s_11, e11, h⟩ := asStr_e h
      obtain ⟨a_12, e12, h⟩ := asAdr_e h
      obtain ⟨i_13, e13, h⟩ := asI_e h
      rw [upd_eta e0, upd_eta e4, upd_eta e10, upd_eta e11, upd_eta e12, upd_eta e13]
      exact Pre.sound _ _ _ _ _ (cast (by kernel_rfl) h)
/-! ### strconv_isPowerOfTwo: function 99, internal/strconv.isPowerOfTwo -/
noncomputable def strconv_isPowerOfTwo_code : Code := (Tryd.f99.body).getD .skip
def strconv_isPowerOfTwo (R : Value → IMem → SH → Prop) (x_0 : Int) (I : IMem) (S : SH) : Prop :=
  R (.bool ((iand .i64 x_0 (IntKind.wrap .i64 (x_0 - (1 : Int)))) == (0 : Int))) I S
theorem strconv_isPowerOfTwo_fn (R : Value → IMem → SH → Prop) (x_0 : Int) (I : IMem) (S : SH) (h : strconv_isPowerOfTwo R x_0 I S) :
    Runs Tryd.prog 99 #[.int .i64 x_0] I S R := by
  refine Runs.of_wp (args := [.int .i64 x_0]) (c := strconv_isPowerOfTwo_code) Tryd.func99 (by kernel_rfl) (by kernel_rfl) ?_
  exact Pre.sound _ _ _ _ _ (cast (by kernel_rfl) h)
/-! ### bits_TrailingZeros: function 100, math/bits.TrailingZeros -/
noncomputable def bits_TrailingZeros_code : Code := (Tryd.f100.body).getD .skip
def bits_TrailingZeros (R : Value → IMem → SH → Prop) (x_0 : Int) (I : IMem) (S : SH) : Prop :=
  Runs Tryd.prog 106 #[.int .u64 x_0] I S fun v I1 S1 => ∃ x7, v = .int .i64 x7 ∧
  R (.int .i64 x7) I1 S1
theorem bits_TrailingZeros_fn (R : Value → IMem → SH → Prop) (x_0 : Int) (I : IMem) (S : SH) (h : bits_TrailingZeros R x_0 I S) :
    Runs Tryd.prog 100 #[.int .u64 x_0] I S R := by
  refine Runs.of_wp (args := [.int .u64 x_0]) (c := bits_TrailingZeros_code) Tryd.func100 (by kernel_rfl) (by kernel_rfl) ?_
  exact Pre.sound _ _ _ _ _ (cast (by kernel_rfl) h)
/-! ### bits_TrailingZeros64: function 106, math/bits.TrailingZeros64 -/
noncomputable def bits_TrailingZeros64_code : Code := (Tryd.f106.body).getD .skip
def bits_TrailingZeros64 (R : Value → IMem → SH → Prop) (x_0 : Int) (I : IMem) (S : SH) : Prop :=
  bcase (x_0 == (0 : Int))
    (R (.int .i64 64) I S)
    ((0 : Int) ≤ ((IntKind.wrap .u64 ((iand .u64 x_0 (IntKind.wrap .u64 (0 - x_0))) * (285870213051353865 : Int))).fdiv (2 ^ (min (58 : Int).toNat (IntKind.bits .u64)))) ∧ ((IntKind.wrap .u64 ((iand .u64 x_0 (IntKind.wrap .u64 (0 - x_0))) * (285870213051353865 : Int))).fdiv (2 ^ (min (58 : Int).toNat (IntKind.bits .u64)))) < ((64 : Nat) : Int) ∧
    ∃ x12, Cell I S ((⟨4, 0, none⟩ : Addr).add (((IntKind.wrap .u64 ((iand .u64 x_0 (IntKind.wrap .u64 (0 - x_0))) * (285870213051353865 : Int))).fdiv (2 ^ (min (58 : Int).toNat (IntKind.bits .u64)))).toNat * 1)) (.int .u8 x12) ∧
    R (.int .i64 (IntKind.wrap .i64 x12)) I S)
theorem bits_TrailingZeros64_fn (R : Value → IMem → SH → Prop) (x_0 : Int) (I : IMem) (S : SH) (h : bits_TrailingZeros64 R x_0 I S) :
    Runs Tryd.prog 106 #[.int .u64 x_0] I S R := by
  refine Runs.of_wp (args := [.int .u64 x_0]) (c := bits_TrailingZeros64_code) Tryd.func106 (by kernel_rfl) (by kernel_rfl) ?_
  exact Pre.sound _ _ _ _ _ (cast (by kernel_rfl) h)
/-! ### strconv_log10Pow2: function 96, internal/strconv.log10Pow2 -/
noncomputable def strconv_log10Pow2_code : Code := (Tryd.f96.body).getD .skip
def strconv_log10Pow2 (R : Value → IMem → SH → Prop) (x_0 : Int) (I : IMem) (S : SH) : Prop :=
  R (.int .i64 ((IntKind.wrap .i64 (x_0 * (78913 : Int))).fdiv (2 ^ (min (18 : Int).toNat (IntKind.bits .i64))))) I S
theorem strconv_log10Pow2_fn (R : Value → IMem → SH → Prop) (x_0 : Int) (I : IMem) (S : SH) (h : strconv_log10Pow2 R x_0 I S) :
    Runs Tryd.prog 96 #[.int .i64 x_0] I S R := by
  refine Runs.of_wp (args := [.int .i64 x_0]) (c := strconv_log10Pow2_code) Tryd.func96 (by kernel_rfl) (by kernel_rfl) ?_
  exact Pre.sound _ _ _ _ _ (cast (by kernel_rfl) h)
/-! ### bits_Len64: function 97, math/bits.Len64 -/
noncomputable def bits_Len64_code : Code := (Tryd.f97.body).getD .skip
def bits_Len64_b3 (R : Value → IMem → SH → Prop) (x_0 : Int) (n_2 : Int) (I : IMem) (S : SH) : Prop :=
  ∃ cx22 : UInt8, (0 : Int) ≤ (IntKind.wrap .u8 x_0) ∧ strT1_2a39[(IntKind.wrap .u8 x_0).toNat]? = some cx22 ∧
  R (.int .i64 (IntKind.wrap .i64 (n_2 + (IntKind.wrap .i64 (cx22.toNat : Int))))) I S
def bits_Len64_b2 (R : Value → IMem → SH → Prop) (x_0 : Int) (n_2 : Int) (I : IMem) (S : SH) : Prop :=
  bcase (decide (x_0 ≥ (256 : Int)))
    (bits_Len64_b3 R (x_0.fdiv (2 ^ (min (8 : Int).toNat (IntKind.bits .u64)))) (IntKind.wrap .i64 (n_2 + (8 : Int))) I S)
    (bits_Len64_b3 R x_0 n_2 I S)
def bits_Len64_b1 (R : Value → IMem → SH → Prop) (x_0 : Int) (n_2 : Int) (I : IMem) (S : SH) : Prop :=
  bcase (decide (x_0 ≥ (65536 : Int)))
    (bits_Len64_b2 R (x_0.fdiv (2 ^ (min (16 : Int).toNat (IntKind.bits .u64)))) (IntKind.wrap .i64 (n_2 + (16 : Int))) I S)
    (bits_Len64_b2 R x_0 n_2 I S)
def bits_Len64 (R : Value → IMem → SH → Prop) (x_0 : Int) (I : IMem) (S : SH) : Prop :=
  bcase (decide (x_0 ≥ (4294967296 : Int)))
    (bits_Len64_b1 R (x_0.fdiv (2 ^ (min (32 : Int).toNat (IntKind.bits .u64)))) 32 I S)
    (bits_Len64_b1 R x_0 0 I S)
theorem bits_Len64_fn (R : Value → IMem → SH → Prop) (x_0 : Int) (I : IMem) (S : SH) (h : bits_Len64 R x_0 I S) :
    Runs Tryd.prog 97 #[.int .u64 x_0] I S R := by
  refine Runs.of_wp (args := [.int .u64 x_0]) (c := bits_Len64_code) Tryd.func97 (by kernel_rfl) (by kernel_rfl) ?_
  refine WP.cut 2 (fun l I S => asI .u64 (l 0) fun x_0 => asI .i64 (l 2) fun n_2 => bits_Len64_b1 R x_0 n_2 I S) (cast (by kernel_rfl) h) ?_
  clear h
  intro l I S _ h
  obtain ⟨x_0, e0, h⟩ := asI_e h
  obtain ⟨n_2, e2, h⟩ := asI_e h
  rw [upd_eta e0, upd_eta e2]
  refine WP.cut 1 (fun l I S => asI .u64 (l 0) fun x_0 => asI .i64 (l 2) fun n_2 => bits_Len64_b2 R x_0 n_2 I S) (cast (by kernel_rfl) h) ?_
  clear h
  intro l I S _ h
  obtain ⟨x_0, e0, h⟩ := asI_e h
  obtain ⟨n_2, e2, h⟩ := asI_e h
  rw [upd_eta e0, upd_eta e2]
  refine WP.cut 1 (fun l I S => asI .u64 (l 0) fun x_0 => asI .i64 (l 2) fun n_2 => bits_Len64_b3 R x_0 n_2 I S) (cast (by kernel_rfl) h) ?_
  clear h
  intro l I S _ h
  obtain ⟨x_0, e0, h⟩ := asI_e h
  obtain ⟨n_2, e2, h⟩ := asI_e h
  rw [upd_eta e0, upd_eta e2]
  exact Pre.sound _ _ _ _ _ (cast (by kernel_rfl) h)
/-! ### strconv_bool2_int: function 98, internal/strconv.bool2[int] -/
noncomputable def strconv_bool2_int_code : Code := (Tryd.f98.body).getD .skip
def strconv_bool2_int (R : Value → IMem → SH → Prop) (b_0 : Bool) (I : IMem) (S : SH) : Prop :=
  bcase b_0
    (R (.int .i64 1) I S)
    (R (.int .i64 0) I S)
theorem strconv_bool2_int_fn (R : Value → IMem → SH → Prop) (b_0 : Bool) (I : IMem) (S : SH) (h : strconv_bool2_int R b_0 I S) :
    Runs Tryd.prog 98 #[.bool b_0] I S R := by
  refine Runs.of_wp (args := [.bool b_0]) (c := strconv_bool2_int_code) Tryd.func98 (by kernel_rfl) (by kernel_rfl) ?_
  exact Pre.sound _ _ _ _ _ (cast (by kernel_rfl) h)
/-! ### strconv_Atoi: function 62, strconv.Atoi -/
noncomputable def strconv_Atoi_code : Code := (Tryd.f62.body).getD .skip
def strconv_Atoi (R : Value → IMem → SH → Prop) (s_0 : ByteArray) (I : IMem) (S : SH) : Prop :=
  Runs Tryd.prog 72 #[.string s_0] I S fun v I1 S1 => ∃ x8_0 x8_1, v = .tuple #[.int .i64 x8_0, x8_1] ∧
  ∃ nl, isNilI x8_1 = some nl ∧
  bcase (!nl)
    (Runs Tryd.prog 73 #[.string ⟨#[65, 116, 111, 105]⟩, .string s_0, .int .i64 0, .int .i64 0, x8_1] I1 S1 fun v' I1' S1' => ∃ x16, v' = x16 ∧
    R (.tuple #[.int .i64 x8_0, x16]) I1' S1')
    (R (.tuple #[.int .i64 x8_0, .nilIface]) I1 S1)
theorem strconv_Atoi_fn (R : Value → IMem → SH → Prop) (s_0 : ByteArray) (I : IMem) (S : SH) (h : strconv_Atoi R s_0 I S) :
    Runs Tryd.prog 62 #[.string s_0] I S R := by
  refine Runs.of_wp (args := [.string s_0]) (c := strconv_Atoi_code) Tryd.func62 (by kernel_rfl) (by kernel_rfl) ?_
  exact Pre.sound _ _ _ _ _ (cast (by kernel_rfl) h)
/-! ### strconv_Atoi_2: function 72, internal/strconv.Atoi -/
noncomputable def strconv_Atoi_2_code : Code := (Tryd.f72.body).getD .skip
def strconv_Atoi_2_b10 (R : Value → IMem → SH → Prop) (n_6 : Int) (I : IMem) (S : SH) : Prop :=
  R (.tuple #[.int .i64 n_6, .nilIface]) I S
def strconv_Atoi_2_b9 (R : Value → IMem → SH → Prop) (s0_5 : ByteArray) (n_6 : Int) (I : IMem) (S : SH) : Prop :=
  ∃ cx65 : UInt8, (0 : Int) ≤ (0 : Int) ∧ s0_5[(0 : Int).toNat]? = some cx65 ∧
  bcase ((cx65.toNat : Int) == (45 : Int))
    (strconv_Atoi_2_b10 R (IntKind.wrap .i64 (0 - n_6)) I S)
    (strconv_Atoi_2_b10 R n_6 I S)
def strconv_Atoi_2_l8 (again8 : ByteArray → Int → Option Addr → Nat → Nat → Int → Int → IMem → SH → Prop) (R : Value → IMem → SH → Prop) (s0_5 : ByteArray) (n_6 : Int) (x47 : Option Addr) (x47n : Nat) (x47c : Nat) (x48 : Int) (x49 : Int) (I : IMem) (S : SH) : Prop :=
  bcase (decide (x49 < x48))
    (ptrP x47 fun x51 => (0 : Int) ≤ x49 ∧ x49 < (x47n : Int) ∧
    ∃ x52, Cell I S (x51.add (x49.toNat * 1)) (.int .u8 x52) ∧
    bcase (decide ((IntKind.wrap .u8 (x52 - (48 : Int))) > (9 : Int)))
      (R (.tuple #[.int .i64 0, (.iface 142 (.int .i64 2))]) I S)
      (again8 s0_5 (IntKind.wrap .i64 ((IntKind.wrap .i64 (n_6 * (10 : Int))) + (IntKind.wrap .i64 (IntKind.wrap .u8 (x52 - (48 : Int)))))) x47 x47n x47c x48 (IntKind.wrap .i64 (x49 + (1 : Int))) I S))
    (strconv_Atoi_2_b9 R s0_5 n_6 I S)
def strconv_Atoi_2_b7 (R : Value → IMem → SH → Prop) (s0_5 : ByteArray) (n_6 : Int) (x47 : Option Addr) (x47n : Nat) (x47c : Nat) (x48 : Int) (x49 : Int) (I : IMem) (S : SH) : Prop :=
  ∃ (Inv : Nat → ByteArray → Int → Option Addr → Nat → Nat → Int → Int → IMem → SH → Prop) (m : Nat), Inv m s0_5 n_6 x47 x47n x47c x48 x49 I S ∧
    ∀ (m : Nat) (s0_5 : ByteArray) (n_6 : Int) (x47 : Option Addr) (x47n : Nat) (x47c : Nat) (x48 : Int) (x49 : Int) (J : IMem) (T : SH), I.le J → Inv m s0_5 n_6 x47 x47n x47c x48 x49 J T →
      strconv_Atoi_2_l8 (fun s0_5 n_6 x47 x47n x47c x48 x49 I S => ∃ m', m' < m ∧ Inv m' s0_5 n_6 x47 x47n x47c x48 x49 I S) R s0_5 n_6 x47 x47n x47c x48 x49 J T
def strconv_Atoi_2_b6 (R : Value → IMem → SH → Prop) (s_0 : ByteArray) (s0_5 : ByteArray) (n_6 : Int) (I : IMem) (S : SH) : Prop :=
  s_0.size ≤ maxLen ∧ ∀ b47 c47 : Nat, s_0.size ≤ c47 → c47 ≤ maxLen →
  strconv_Atoi_2_b7 R s0_5 n_6 (some ⟨b47, 0, none⟩) s_0.size c47 ((s_0.size : Nat) : Int) 0 I ((b47, .cells (byteCells s_0 ++ repV (c47 - s_0.size) [.int .u8 0]).toArray 5 (c47, c47 + 1)) :: S)
def strconv_Atoi_2_b5 (R : Value → IMem → SH → Prop) (s_0 : ByteArray) (s0_5 : ByteArray) (I : IMem) (S : SH) : Prop :=
  strconv_Atoi_2_b6 R s_0 s0_5 0 I S
def strconv_Atoi_2_b4 (R : Value → IMem → SH → Prop) (s_0 : ByteArray) (s0_5 : ByteArray) (x39 : Bool) (I : IMem) (S : SH) : Prop :=
  bcase x39
    ((0 : Int) ≤ (1 : Int) ∧ (1 : Int) ≤ ((s_0.size : Nat) : Int) ∧
    bcase (decide (((s_0.extract ((1 : Int).toNat) s_0.size).size : Int) < (1 : Int)))
      (R (.tuple #[.int .i64 0, (.iface 142 (.int .i64 2))]) I S)
      (strconv_Atoi_2_b5 R (s_0.extract ((1 : Int).toNat) s_0.size) s0_5 I S))
    (strconv_Atoi_2_b5 R s_0 s0_5 I S)
def strconv_Atoi_2_b3 (R : Value → IMem → SH → Prop) (s_0 : ByteArray) (s0_5 : ByteArray) (I : IMem) (S : SH) : Prop :=
  ∃ cx33 : UInt8, (0 : Int) ≤ (0 : Int) ∧ s_0[(0 : Int).toNat]? = some cx33 ∧
  bcase ((cx33.toNat : Int) == (45 : Int))
    (strconv_Atoi_2_b4 R s_0 s0_5 true I S)
    (∃ cx37 : UInt8, (0 : Int) ≤ (0 : Int) ∧ s_0[(0 : Int).toNat]? = some cx37 ∧
    strconv_Atoi_2_b4 R s_0 s0_5 ((cx37.toNat : Int) == (43 : Int)) I S)
def strconv_Atoi_2_b11 (R : Value → IMem → SH → Prop) (s_0 : ByteArray) (I : IMem) (S : SH) : Prop :=
  Runs Tryd.prog 86 #[.string s_0, .int .i64 10, .int .i64 0] I S fun v I1 S1 => ∃ x72_0 x72_1, v = .tuple #[.int .i64 x72_0, x72_1] ∧
  R (.tuple #[.int .i64 x72_0, x72_1]) I1 S1
def strconv_Atoi_2_b2 (R : Value → IMem → SH → Prop) (s_0 : ByteArray) (x30 : Bool) (I : IMem) (S : SH) : Prop :=
  bcase x30
    (strconv_Atoi_2_b3 R s_0 s_0 I S)
    (strconv_Atoi_2_b11 R s_0 I S)
def strconv_Atoi_2_b1 (R : Value → IMem → SH → Prop) (s_0 : ByteArray) (sLen_4 : Int) (I : IMem) (S : SH) : Prop :=
  bcase (decide ((0 : Int) < sLen_4))
    (strconv_Atoi_2_b2 R s_0 (decide (sLen_4 < (19 : Int))) I S)
    (strconv_Atoi_2_b2 R s_0 false I S)
def strconv_Atoi_2 (R : Value → IMem → SH → Prop) (s_0 : ByteArray) (I : IMem) (S : SH) : Prop :=
  strconv_Atoi_2_b1 R s_0 (s_0.size : Int) I S
theorem strconv_Atoi_2_fn (R : Value → IMem → SH → Prop) (s_0 : ByteArray) (I : IMem) (S : SH) (h : strconv_Atoi_2 R s_0 I S) :
    Runs Tryd.prog 72 #[.string s_0] I S R := by
  refine Runs.of_wp (args := [.string s_0]) (c := strconv_Atoi_2_code) Tryd.func72 (by kernel_rfl) (by kernel_rfl) ?_
  refine WP.cut 2 (fun l I S => asStr (l 0) fun s_0 => asI .i64 (l 4) fun sLen_4 => strconv_Atoi_2_b1 R s_0 sLen_4 I S) (cast (by kernel_rfl) h) ?_
  clear h
  intro l I S _ h
  obtain ⟨s_0, e0, h⟩ := asStr_e h
  obtain ⟨sLen_4, e4, h⟩ := asI_e h
  rw [upd_eta e0, upd_eta e4]
  refine WP.seqY (by kernel_rfl) (fun l I S => asStr (l 0) fun s_0 => strconv_Atoi_2_b11 R s_0 I S) ?_ ?_
  ·
    refine WP.cut 1 (fun l I S => asStr (l 0) fun s_0 => asB (l 30) fun x30 => strconv_Atoi_2_b2 R s_0 x30 I S) (cast (by kernel_rfl) h) ?_
    clear h
    intro l I S _ h
    obtain ⟨s_0, e0, h⟩ := asStr_e h
    obtain ⟨x30, e30, h⟩ := asB_e h
    rw [upd_eta e0, upd_eta e30]
    refine WP.cond' (by kernel_rfl) (by kernel_rfl) h ?_ ?_
    · clear h
      intro h
      refine WP.cut 1 (fun l I S => asStr (l 0) fun s_0 => asStr (l 5) fun s0_5 => strconv_Atoi_2_b3 R s_0 s0_5 I S) (cast (by kernel_rfl) h) ?_
      clear h
      intro l I S _ h
      obtain ⟨s_0, e0, h⟩ := asStr_e h
      obtain ⟨s0_5, e5, h⟩ := asStr_e h
      rw [upd_eta e0, upd_eta e5]
      refine WP.seqY (by kernel_rfl) (fun l I S => asStr (l 0) fun s_0 => asStr (l 5) fun s0_5 => strconv_Atoi_2_b5 R s_0 s0_5 I S) ?_ ?_
      ·
        refine WP.cut 1 (fun l I S => asStr (l 0) fun s_0 => asStr (l 5) fun s0_5 => asB (l 39) fun x39 => strconv_Atoi_2_b4 R s_0 s0_5 x39 I S) (cast (by kernel_rfl) h) ?_
        clear h
        intro l I S _ h
        obtain ⟨s_0, e0, h⟩ := asStr_e h
        obtain ⟨s0_5, e5, h⟩ := asStr_e h
        obtain ⟨x39, e39, h⟩ := asB_e h
        rw [upd_eta e0, upd_eta e5, upd_eta e39]
        exact Pre.sound _ _ _ _ _ (cast (by kernel_rfl) h)
      · clear h
        intro l I S _ h
        obtain ⟨s_0, e0, h⟩ := asStr_e h
        obtain ⟨s0_5, e5, h⟩ := asStr_e h
        rw [upd_eta e0, upd_eta e5]
        refine WP.cut 1 (fun l I S => asStr (l 0) fun s_0 => asStr (l 5) fun s0_5 => asI .i64 (l 6) fun n_6 => strconv_Atoi_2_b6 R s_0 s0_5 n_6 I S) (cast (by kernel_rfl) h) ?_
        clear h
        intro l I S _ h
        obtain ⟨s_0, e0, h⟩ := asStr_e h
        obtain ⟨s0_5, e5, h⟩ := asStr_e h
        obtain ⟨n_6, e6, h⟩ := asI_e h
        rw [upd_eta e0, upd_eta e5, upd_eta e6]
        refine WP.seqY (by kernel_rfl) (fun l I S => asStr (l 5) fun s0_5 => asI .i64 (l 6) fun n_6 => strconv_Atoi_2_b9 R s0_5 n_6 I S) ?_ ?_
        ·
          refine WP.cut 1 (fun l I S => asStr (l 5) fun s0_5 => asI .i64 (l 6) fun n_6 => asSl (l 47) fun x47 x47n x47c => asI .i64 (l 48) fun x48 => asI .i64 (l 49) fun x49 => strconv_Atoi_2_b7 R s0_5 n_6 x47 x47n x47c x48 x49 I S) (cast (by kernel_rfl) h) ?_
          clear h
          intro l I S _ h
          obtain ⟨s0_5, e5, h⟩ := asStr_e h
          obtain ⟨n_6, e6, h⟩ := asI_e h
          obtain ⟨x47, x47n, x47c, e47, h⟩ := asSl_e h
          obtain ⟨x48, e48, h⟩ := asI_e h
          obtain ⟨x49, e49, h⟩ := asI_e h
          rw [upd_eta e5, upd_eta e6, upd_eta e47, upd_eta e48, upd_eta e49]
          refine WP.block' (by kernel_rfl) ?_
          obtain ⟨Inv_again8, m_again8, h0, hr⟩ := h
          refine WP.loop' (by kernel_rfl) (fun m_again8 => fun l I S => asStr (l 5) fun s0_5 => asI .i64 (l 6) fun n_6 => asSl (l 47) fun x47 x47n x47c => asI .i64 (l 48) fun x48 => asI .i64 (l 49) fun x49 => Inv_again8 m_again8 s0_5 n_6 x47 x47n x47c x48 x49 I S) m_again8 (cast (by kernel_rfl) h0) ?_
          clear h0
          intro m_again8 l I S hle h
          obtain ⟨s0_5, e5, h⟩ := asStr_e h
          obtain ⟨n_6, e6, h⟩ := asI_e h
          obtain ⟨x47, x47n, x47c, e47, h⟩ := asSl_e h
          obtain ⟨x48, e48, h⟩ := asI_e h
          obtain ⟨x49, e49, h⟩ := asI_e h
          rw [upd_eta e5, upd_eta e6, upd_eta e47, upd_eta e48, upd_eta e49]
          have h := hr m_again8 s0_5 n_6 x47 x47n x47c x48 x49 I S hle h
          clear hr hle
          exact Pre.sound _ _ _ _ _ (cast (by kernel_rfl) h)
        · clear h
          intro l I S _ h
          obtain ⟨s0_5, e5, h⟩ := asStr_e h
          obtain ⟨n_6, e6, h⟩ := asI_e h
          rw [upd_eta e5, upd_eta e6]
          refine WP.cut 1 (fun l I S => asI .i64 (l 6) fun n_6 => strconv_Atoi_2_b10 R n_6 I S) (cast (by kernel_rfl) h) ?_
          clear h
          intro l I S _ h
          obtain ⟨n_6, e6, h⟩ := asI_e h
          rw [upd_eta e6]
          exact Pre.sound _ _ _ _ _ (cast (by kernel_rfl) h)
    · clear h
      intro h
      exact Pre.sound _ _ _ _ _ (cast (by kernel_rfl) h)
  · clear h
    intro l I S _ h
    obtain ⟨s_0, e0, h⟩ := asStr_e h
    rw [upd_eta e0]
    exact Pre.sound _ _ _ _ _ (cast (by kernel_rfl) h)
/-! ### strconv_toError: function 73, strconv.toError -/
noncomputable def strconv_toError_code : Code := (Tryd.f73.body).getD .skip
def strconv_toError (R : Value → IMem → SH → Prop) (fn_0 : ByteArray) (s_1 : ByteArray) (base_2 : Int) (bitSize_3 : Int) (err_4 : Value) (I : IMem) (S : SH) : Prop :=
  ∃ ei, eqI Tryd.prog err_4 142 (.int .i64 2) = some ei ∧
  bcase ei
    (Runs Tryd.prog 87 #[.string fn_0, .string s_1] I S fun v I1 S1 => ∃ x17, v = .pointer x17 ∧
    R (.iface 145 (.pointer x17)) I1 S1)
    (∃ ei', eqI Tryd.prog err_4 142 (.int .i64 1) = some ei' ∧
    bcase ei'
      (Runs Tryd.prog 88 #[.string fn_0, .string s_1] I S fun v' I1' S1' => ∃ x24, v' = .pointer x24 ∧
      R (.iface 145 (.pointer x24)) I1' S1')
      (∃ ei'', eqI Tryd.prog err_4 142 (.int .i64 3) = some ei'' ∧
      bcase ei''
        (Runs Tryd.prog 89 #[.string fn_0, .string s_1, .int .i64 base_2] I S fun v'' I1'' S1'' => ∃ x32, v'' = .pointer x32 ∧
        R (.iface 145 (.pointer x32)) I1'' S1'')
        (∃ ei_r3, eqI Tryd.prog err_4 142 (.int .i64 4) = some ei_r3 ∧
        bcase ei_r3
          (Runs Tryd.prog 90 #[.string fn_0, .string s_1, .int .i64 bitSize_3] I S fun v_r3 I1_r3 S1_r3 => ∃ x40, v_r3 = .pointer x40 ∧
          R (.iface 145 (.pointer x40)) I1_r3 S1_r3)
          (R err_4 I S))))
theorem strconv_toError_fn (R : Value → IMem → SH → Prop) (fn_0 : ByteArray) (s_1 : ByteArray) (base_2 : Int) (bitSize_3 : Int) (err_4 : Value) (I : IMem) (S : SH) (h : strconv_toError R fn_0 s_1 base_2 bitSize_3 err_4 I S) :
    Runs Tryd.prog 73 #[.string fn_0, .string s_1, .int .i64 base_2, .int .i64 bitSize_3, err_4] I S R := by
  refine Runs.of_wp (args := [.string fn_0, .string s_1, .int .i64 base_2, .int .i64 bitSize_3, err_4]) (c := strconv_toError_code) Tryd.func73 (by kernel_rfl) (by kernel_rfl) ?_
  exact Pre.sound _ _ _ _ _ (cast (by kernel_rfl) h)
/-! ### strconv_ParseUint: function 79, strconv.ParseUint -/
noncomputable def strconv_ParseUint_code : Code := (Tryd.f79.body).getD .skip
def strconv_ParseUint (R : Value → IMem → SH → Prop) (s_0 : ByteArray) (base_1 : Int) (bitSize_2 : Int) (I : IMem) (S : SH) : Prop :=
  Runs Tryd.prog 94 #[.string s_0, .int .i64 base_1, .int .i64 bitSize_2] I S fun v I1 S1 => ∃ x14_0 x14_1, v = .tuple #[.int .u64 x14_0, x14_1] ∧
  ∃ nl, isNilI x14_1 = some nl ∧
  bcase (!nl)
    (Runs Tryd.prog 73 #[.string ⟨#[80, 97, 114, 115, 101, 85, 105, 110, 116]⟩, .string s_0, .int .i64 base_1, .int .i64 bitSize_2, x14_1] I1 S1 fun v' I1' S1' => ∃ x24, v' = x24 ∧
    R (.tuple #[.int .u64 x14_0, x24]) I1' S1')
    (R (.tuple #[.int .u64 x14_0, .nilIface]) I1 S1)
theorem strconv_ParseUint_fn (R : Value → IMem → SH → Prop) (s_0 : ByteArray) (base_1 : Int) (bitSize_2 : Int) (I : IMem) (S : SH) (h : strconv_ParseUint R s_0 base_1 bitSize_2 I S) :
    Runs Tryd.prog 79 #[.string s_0, .int .i64 base_1, .int .i64 bitSize_2] I S R := by
  refine Runs.of_wp (args := [.string s_0, .int .i64 base_1, .int .i64 bitSize_2]) (c := strconv_ParseUint_code) Tryd.func79 (by kernel_rfl) (by kernel_rfl) ?_
  exact Pre.sound _ _ _ _ _ (cast (by kernel_rfl) h)
/-! ### strconv_ParseUint_2: function 94, internal/strconv.ParseUint -/
noncomputable def strconv_ParseUint_2_code : Code := (Tryd.f94.body).getD .skip
def strconv_ParseUint_2_b13 (again9 : Int → Bool → ByteArray → Int → Int → Bool → Int → Option Addr → Nat → Nat → Int → Int → IMem → SH → Prop) (R : Value → IMem → SH → Prop) (base_1 : Int) (base0_8 : Bool) (s0_9 : ByteArray) (cutoff_10 : Int) (maxVal_11 : Int) (underscores_12 : Bool) (n_13 : Int) (x99 : Option Addr) (x99n : Nat) (x99c : Nat) (x100 : Int) (x101 : Int) (I : IMem) (S : SH) : Prop :=
  again9 base_1 base0_8 s0_9 cutoff_10 maxVal_11 underscores_12 n_13 x99 x99n x99c x100 (IntKind.wrap .i64 (x101 + (1 : Int))) I S
def strconv_ParseUint_2_b18 (again9 : Int → Bool → ByteArray → Int → Int → Bool → Int → Option Addr → Nat → Nat → Int → Int → IMem → SH → Prop) (R : Value → IMem → SH → Prop) (base_1 : Int) (base0_8 : Bool) (s0_9 : ByteArray) (cutoff_10 : Int) (maxVal_11 : Int) (underscores_12 : Bool) (n1_17 : Int) (x99 : Option Addr) (x99n : Nat) (x99c : Nat) (x100 : Int) (x101 : Int) (I : IMem) (S : SH) : Prop :=
  strconv_ParseUint_2_b13 again9 R base_1 base0_8 s0_9 cutoff_10 maxVal_11 underscores_12 n1_17 x99 x99n x99c x100 x101 I S
def strconv_ParseUint_2_b17 (again9 : Int → Bool → ByteArray → Int → Int → Bool → Int → Option Addr → Nat → Nat → Int → Int → IMem → SH → Prop) (R : Value → IMem → SH → Prop) (base_1 : Int) (base0_8 : Bool) (s0_9 : ByteArray) (cutoff_10 : Int) (maxVal_11 : Int) (underscores_12 : Bool) (n1_17 : Int) (x99 : Option Addr) (x99n : Nat) (x99c : Nat) (x100 : Int) (x101 : Int) (x159 : Bool) (I : IMem) (S : SH) : Prop :=
  bcase x159
    (R (.tuple #[.int .u64 maxVal_11, (.iface 142 (.int .i64 1))]) I S)
    (strconv_ParseUint_2_b18 again9 R base_1 base0_8 s0_9 cutoff_10 maxVal_11 underscores_12 n1_17 x99 x99n x99c x100 x101 I S)
def strconv_ParseUint_2_b16 (again9 : Int → Bool → ByteArray → Int → Int → Bool → Int → Option Addr → Nat → Nat → Int → Int → IMem → SH → Prop) (R : Value → IMem → SH → Prop) (base_1 : Int) (base0_8 : Bool) (s0_9 : ByteArray) (cutoff_10 : Int) (maxVal_11 : Int) (underscores_12 : Bool) (n_13 : Int) (n1_17 : Int) (x99 : Option Addr) (x99n : Nat) (x99c : Nat) (x100 : Int) (x101 : Int) (I : IMem) (S : SH) : Prop :=
  bcase (decide (n1_17 < n_13))
    (strconv_ParseUint_2_b17 again9 R base_1 base0_8 s0_9 cutoff_10 maxVal_11 underscores_12 n1_17 x99 x99n x99c x100 x101 true I S)
    (strconv_ParseUint_2_b17 again9 R base_1 base0_8 s0_9 cutoff_10 maxVal_11 underscores_12 n1_17 x99 x99n x99c x100 x101 (decide (n1_17 > maxVal_11)) I S)
def strconv_ParseUint_2_b15 (again9 : Int → Bool → ByteArray → Int → Int → Bool → Int → Option Addr → Nat → Nat → Int → Int → IMem → SH → Prop) (R : Value → IMem → SH → Prop) (base_1 : Int) (base0_8 : Bool) (s0_9 : ByteArray) (cutoff_10 : Int) (maxVal_11 : Int) (underscores_12 : Bool) (n_13 : Int) (d_16 : Int) (x99 : Option Addr) (x99n : Nat) (x99c : Nat) (x100 : Int) (x101 : Int) (I : IMem) (S : SH) : Prop :=
  bcase (decide (d_16 ≥ (IntKind.wrap .u8 base_1)))
    (R (.tuple #[.int .u64 0, (.iface 142 (.int .i64 2))]) I S)
    (bcase (decide (n_13 ≥ cutoff_10))
      (R (.tuple #[.int .u64 maxVal_11, (.iface 142 (.int .i64 1))]) I S)
      (strconv_ParseUint_2_b16 again9 R base_1 base0_8 s0_9 cutoff_10 maxVal_11 underscores_12 (IntKind.wrap .u64 (n_13 * (IntKind.wrap .u64 base_1))) (IntKind.wrap .u64 ((IntKind.wrap .u64 (n_13 * (IntKind.wrap .u64 base_1))) + (IntKind.wrap .u64 d_16))) x99 x99n x99c x100 x101 I S))
def strconv_ParseUint_2_b19 (again9 : Int → Bool → ByteArray → Int → Int → Bool → Int → Option Addr → Nat → Nat → Int → Int → IMem → SH → Prop) (R : Value → IMem → SH → Prop) (base_1 : Int) (base0_8 : Bool) (s0_9 : ByteArray) (cutoff_10 : Int) (maxVal_11 : Int) (underscores_12 : Bool) (n_13 : Int) (c_15 : Int) (x99 : Option Addr) (x99n : Nat) (x99c : Nat) (x100 : Int) (x101 : Int) (x121 : Bool) (I : IMem) (S : SH) : Prop :=
  bcase x121
    (Runs Tryd.prog 103 #[.int .u8 c_15] I S fun v I1 S1 => ∃ x131, v = .int .u8 x131 ∧
    strconv_ParseUint_2_b15 again9 R base_1 base0_8 s0_9 cutoff_10 maxVal_11 underscores_12 n_13 (IntKind.wrap .u8 ((IntKind.wrap .u8 (x131 - (97 : Int))) + (10 : Int))) x99 x99n x99c x100 x101 I1 S1)
    (R (.tuple #[.int .u64 0, (.iface 142 (.int .i64 2))]) I S)
def strconv_ParseUint_2_b14 (again9 : Int → Bool → ByteArray → Int → Int → Bool → Int → Option Addr → Nat → Nat → Int → Int → IMem → SH → Prop) (R : Value → IMem → SH → Prop) (base_1 : Int) (base0_8 : Bool) (s0_9 : ByteArray) (cutoff_10 : Int) (maxVal_11 : Int) (underscores_12 : Bool) (n_13 : Int) (c_15 : Int) (x99 : Option Addr) (x99n : Nat) (x99c : Nat) (x100 : Int) (x101 : Int) (x112 : Bool) (I : IMem) (S : SH) : Prop :=
  bcase x112
    (strconv_ParseUint_2_b15 again9 R base_1 base0_8 s0_9 cutoff_10 maxVal_11 underscores_12 n_13 (IntKind.wrap .u8 (c_15 - (48 : Int))) x99 x99n x99c x100 x101 I S)
    (Runs Tryd.prog 103 #[.int .u8 c_15] I S fun v I1 S1 => ∃ x123, v = .int .u8 x123 ∧
    bcase (decide ((97 : Int) ≤ x123))
      (Runs Tryd.prog 103 #[.int .u8 c_15] I1 S1 fun v' I1' S1' => ∃ x127, v' = .int .u8 x127 ∧
      strconv_ParseUint_2_b19 again9 R base_1 base0_8 s0_9 cutoff_10 maxVal_11 underscores_12 n_13 c_15 x99 x99n x99c x100 x101 (decide (x127 ≤ (122 : Int))) I1' S1')
      (strconv_ParseUint_2_b19 again9 R base_1 base0_8 s0_9 cutoff_10 maxVal_11 underscores_12 n_13 c_15 x99 x99n x99c x100 x101 false I1 S1))
def strconv_ParseUint_2_b12 (again9 : Int → Bool → ByteArray → Int → Int → Bool → Int → Option Addr → Nat → Nat → Int → Int → IMem → SH → Prop) (R : Value → IMem → SH → Prop) (base_1 : Int) (base0_8 : Bool) (s0_9 : ByteArray) (cutoff_10 : Int) (maxVal_11 : Int) (underscores_12 : Bool) (n_13 : Int) (c_15 : Int) (x99 : Option Addr) (x99n : Nat) (x99c : Nat) (x100 : Int) (x101 : Int) (x106 : Bool) (I : IMem) (S : SH) : Prop :=
  bcase x106
    (strconv_ParseUint_2_b13 again9 R base_1 base0_8 s0_9 cutoff_10 maxVal_11 true n_13 x99 x99n x99c x100 x101 I S)
    (bcase (decide ((48 : Int) ≤ c_15))
      (strconv_ParseUint_2_b14 again9 R base_1 base0_8 s0_9 cutoff_10 maxVal_11 underscores_12 n_13 c_15 x99 x99n x99c x100 x101 (decide (c_15 ≤ (57 : Int))) I S)
      (strconv_ParseUint_2_b14 again9 R base_1 base0_8 s0_9 cutoff_10 maxVal_11 underscores_12 n_13 c_15 x99 x99n x99c x100 x101 false I S))
def strconv_ParseUint_2_b11 (again9 : Int → Bool → ByteArray → Int → Int → Bool → Int → Option Addr → Nat → Nat → Int → Int → IMem → SH → Prop) (R : Value → IMem → SH → Prop) (base_1 : Int) (base0_8 : Bool) (s0_9 : ByteArray) (cutoff_10 : Int) (maxVal_11 : Int) (underscores_12 : Bool) (n_13 : Int) (c_15 : Int) (x99 : Option Addr) (x99n : Nat) (x99c : Nat) (x100 : Int) (x101 : Int) (I : IMem) (S : SH) : Prop :=
  bcase (c_15 == (95 : Int))
    (strconv_ParseUint_2_b12 again9 R base_1 base0_8 s0_9 cutoff_10 maxVal_11 underscores_12 n_13 c_15 x99 x99n x99c x100 x101 base0_8 I S)
    (strconv_ParseUint_2_b12 again9 R base_1 base0_8 s0_9 cutoff_10 maxVal_11 underscores_12 n_13 c_15 x99 x99n x99c x100 x101 false I S)
def strconv_ParseUint_2_b10 (again9 : Int → Bool → ByteArray → Int → Int → Bool → Int → Option Addr → Nat → Nat → Int → Int → IMem → SH → Prop) (R : Value → IMem → SH → Prop) (base_1 : Int) (base0_8 : Bool) (s0_9 : ByteArray) (cutoff_10 : Int) (maxVal_11 : Int) (underscores_12 : Bool) (n_13 : Int) (x99 : Option Addr) (x99n : Nat) (x99c : Nat) (x100 : Int) (x101 : Int) (I : IMem) (S : SH) : Prop :=
  ptrP x99 fun x103 => (0 : Int) ≤ x101 ∧ x101 < (x99n : Int) ∧
  ∃ x104, Cell I S (x103.add (x101.toNat * 1)) (.int .u8 x104) ∧
  strconv_ParseUint_2_b11 again9 R base_1 base0_8 s0_9 cutoff_10 maxVal_11 underscores_12 n_13 x104 x99 x99n x99c x100 x101 I S
def strconv_ParseUint_2_b22 (R : Value → IMem → SH → Prop) (n_13 : Int) (I : IMem) (S : SH) : Prop :=
  R (.tuple #[.int .u64 n_13, .nilIface]) I S
def strconv_ParseUint_2_b21 (R : Value → IMem → SH → Prop) (n_13 : Int) (x169 : Bool) (I : IMem) (S : SH) : Prop :=
  bcase x169
    (R (.tuple #[.int .u64 0, (.iface 142 (.int .i64 2))]) I S)
    (strconv_ParseUint_2_b22 R n_13 I S)
def strconv_ParseUint_2_b20 (R : Value → IMem → SH → Prop) (s0_9 : ByteArray) (underscores_12 : Bool) (n_13 : Int) (I : IMem) (S : SH) : Prop :=
  bcase underscores_12
    (Runs Tryd.prog 104 #[.string s0_9] I S fun v I1 S1 => ∃ x167, v = .bool x167 ∧
    strconv_ParseUint_2_b21 R n_13 (!x167) I1 S1)
    (strconv_ParseUint_2_b21 R n_13 false I S)
def strconv_ParseUint_2_l9 (again9 : Int → Bool → ByteArray → Int → Int → Bool → Int → Option Addr → Nat → Nat → Int → Int → IMem → SH → Prop) (R : Value → IMem → SH → Prop) (base_1 : Int) (base0_8 : Bool) (s0_9 : ByteArray) (cutoff_10 : Int) (maxVal_11 : Int) (underscores_12 : Bool) (n_13 : Int) (x99 : Option Addr) (x99n : Nat) (x99c : Nat) (x100 : Int) (x101 : Int) (I : IMem) (S : SH) : Prop :=
  bcase (decide (x101 < x100))
    (strconv_ParseUint_2_b10 again9 R base_1 base0_8 s0_9 cutoff_10 maxVal_11 underscores_12 n_13 x99 x99n x99c x100 x101 I S)
    (strconv_ParseUint_2_b20 R s0_9 underscores_12 n_13 I S)
def strconv_ParseUint_2_b8 (R : Value → IMem → SH → Prop) (base_1 : Int) (base0_8 : Bool) (s0_9 : ByteArray) (cutoff_10 : Int) (maxVal_11 : Int) (underscores_12 : Bool) (n_13 : Int) (x99 : Option Addr) (x99n : Nat) (x99c : Nat) (x100 : Int) (x101 : Int) (I : IMem) (S : SH) : Prop :=
  ∃ (Inv : Nat → Int → Bool → ByteArray → Int → Int → Bool → Int → Option Addr → Nat → Nat → Int → Int → IMem → SH → Prop) (m : Nat), Inv m base_1 base0_8 s0_9 cutoff_10 maxVal_11 underscores_12 n_13 x99 x99n x99c x100 x101 I S ∧
    ∀ (m : Nat) (base_1 : Int) (base0_8 : Bool) (s0_9 : ByteArray) (cutoff_10 : Int) (maxVal_11 : Int) (underscores_12 : Bool) (n_13 : Int) (x99 : Option Addr) (x99n : Nat) (x99c : Nat) (x100 : Int) (x101 : Int) (J : IMem) (T : SH), I.le J → Inv m base_1 base0_8 s0_9 cutoff_10 maxVal_11 underscores_12 n_13 x99 x99n x99c x100 x101 J T →
      strconv_ParseUint_2_l9 (fun base_1 base0_8 s0_9 cutoff_10 maxVal_11 underscores_12 n_13 x99 x99n x99c x100 x101 I S => ∃ m', m' < m ∧ Inv m' base_1 base0_8 s0_9 cutoff_10 maxVal_11 underscores_12 n_13 x99 x99n x99c x100 x101 I S) R base_1 base0_8 s0_9 cutoff_10 maxVal_11 underscores_12 n_13 x99 x99n x99c x100 x101 J T
def strconv_ParseUint_2_b7 (R : Value → IMem → SH → Prop) (s_0 : ByteArray) (base_1 : Int) (base0_8 : Bool) (s0_9 : ByteArray) (cutoff_10 : Int) (maxVal_11 : Int) (underscores_12 : Bool) (n_13 : Int) (I : IMem) (S : SH) : Prop :=
  s_0.size ≤ maxLen ∧ ∀ b99 c99 : Nat, s_0.size ≤ c99 → c99 ≤ maxLen →
  strconv_ParseUint_2_b8 R base_1 base0_8 s0_9 cutoff_10 maxVal_11 underscores_12 n_13 (some ⟨b99, 0, none⟩) s_0.size c99 ((s_0.size : Nat) : Int) 0 I ((b99, .cells (byteCells s_0 ++ repV (c99 - s_0.size) [.int .u8 0]).toArray 5 (c99, c99 + 1)) :: S)
def strconv_ParseUint_2_b6 (R : Value → IMem → SH → Prop) (s_0 : ByteArray) (base_1 : Int) (bitSize_2 : Int) (base0_8 : Bool) (s0_9 : ByteArray) (cutoff_10 : Int) (I : IMem) (S : SH) : Prop :=
  bcase (decide ((IntKind.wrap .u64 bitSize_2) < 0)) False (strconv_ParseUint_2_b7 R s_0 base_1 base0_8 s0_9 cutoff_10 (IntKind.wrap .u64 ((IntKind.wrap .u64 ((1 : Int) * 2 ^ (min (IntKind.wrap .u64 bitSize_2).toNat (IntKind.bits .u64)))) - (1 : Int))) false 0 I S)
def strconv_ParseUint_2_b5 (R : Value → IMem → SH → Prop) (s_0 : ByteArray) (base_1 : Int) (bitSize_2 : Int) (base0_8 : Bool) (s0_9 : ByteArray) (I : IMem) (S : SH) : Prop :=
  bcase (base_1 == (10 : Int))
    (strconv_ParseUint_2_b6 R s_0 base_1 bitSize_2 base0_8 s0_9 1844674407370955162 I S)
    (bcase (base_1 == (16 : Int))
      (strconv_ParseUint_2_b6 R s_0 base_1 bitSize_2 base0_8 s0_9 1152921504606846976 I S)
      (bcase (decide ((IntKind.wrap .u64 base_1) = 0)) False (strconv_ParseUint_2_b6 R s_0 base_1 bitSize_2 base0_8 s0_9 (IntKind.wrap .u64 ((IntKind.wrap .u64 ((18446744073709551615 : Int).tdiv (IntKind.wrap .u64 base_1))) + (1 : Int))) I S)))
def strconv_ParseUint_2_b23 (R : Value → IMem → SH → Prop) (s_0 : ByteArray) (base_1 : Int) (bitSize_2 : Int) (base0_8 : Bool) (s0_9 : ByteArray) (x83 : Bool) (I : IMem) (S : SH) : Prop :=
  bcase x83
    (R (.tuple #[.int .u64 0, (.iface 142 (.int .i64 4))]) I S)
    (strconv_ParseUint_2_b5 R s_0 base_1 bitSize_2 base0_8 s0_9 I S)
def strconv_ParseUint_2_b4 (R : Value → IMem → SH → Prop) (s_0 : ByteArray) (base_1 : Int) (bitSize_2 : Int) (base0_8 : Bool) (s0_9 : ByteArray) (x77 : Bool) (I : IMem) (S : SH) : Prop :=
  bcase x77
    (strconv_ParseUint_2_b5 R s_0 base_1 64 base0_8 s0_9 I S)
    (bcase (decide (bitSize_2 < (0 : Int)))
      (strconv_ParseUint_2_b23 R s_0 base_1 bitSize_2 base0_8 s0_9 true I S)
      (strconv_ParseUint_2_b23 R s_0 base_1 bitSize_2 base0_8 s0_9 (decide (bitSize_2 > (64 : Int))) I S))
def strconv_ParseUint_2_b3 (R : Value → IMem → SH → Prop) (s_0 : ByteArray) (base_1 : Int) (bitSize_2 : Int) (base0_8 : Bool) (s0_9 : ByteArray) (I : IMem) (S : SH) : Prop :=
  strconv_ParseUint_2_b4 R s_0 base_1 bitSize_2 base0_8 s0_9 (bitSize_2 == (0 : Int)) I S
def strconv_ParseUint_2_b28 (R : Value → IMem → SH → Prop) (s_0 : ByteArray) (bitSize_2 : Int) (base0_8 : Bool) (s0_9 : ByteArray) (x64 : Bool) (I : IMem) (S : SH) : Prop :=
  bcase x64
    ((0 : Int) ≤ (2 : Int) ∧ (2 : Int) ≤ ((s_0.size : Nat) : Int) ∧
    strconv_ParseUint_2_b3 R (s_0.extract ((2 : Int).toNat) s_0.size) 16 bitSize_2 base0_8 s0_9 I S)
    ((0 : Int) ≤ (1 : Int) ∧ (1 : Int) ≤ ((s_0.size : Nat) : Int) ∧
    strconv_ParseUint_2_b3 R (s_0.extract ((1 : Int).toNat) s_0.size) 8 bitSize_2 base0_8 s0_9 I S)
def strconv_ParseUint_2_b27 (R : Value → IMem → SH → Prop) (s_0 : ByteArray) (bitSize_2 : Int) (base0_8 : Bool) (s0_9 : ByteArray) (x52 : Bool) (I : IMem) (S : SH) : Prop :=
  bcase x52
    ((0 : Int) ≤ (2 : Int) ∧ (2 : Int) ≤ ((s_0.size : Nat) : Int) ∧
    strconv_ParseUint_2_b3 R (s_0.extract ((2 : Int).toNat) s_0.size) 8 bitSize_2 base0_8 s0_9 I S)
    (bcase (decide ((s_0.size : Int) ≥ (3 : Int)))
      (∃ cx70 : UInt8, (0 : Int) ≤ (1 : Int) ∧ s_0[(1 : Int).toNat]? = some cx70 ∧
      Runs Tryd.prog 103 #[.int .u8 (cx70.toNat : Int)] I S fun v I1 S1 => ∃ x71, v = .int .u8 x71 ∧
      strconv_ParseUint_2_b28 R s_0 bitSize_2 base0_8 s0_9 (x71 == (120 : Int)) I1 S1)
      (strconv_ParseUint_2_b28 R s_0 bitSize_2 base0_8 s0_9 false I S))
def strconv_ParseUint_2_b26 (R : Value → IMem → SH → Prop) (s_0 : ByteArray) (bitSize_2 : Int) (base0_8 : Bool) (s0_9 : ByteArray) (x40 : Bool) (I : IMem) (S : SH) : Prop :=
  bcase x40
    ((0 : Int) ≤ (2 : Int) ∧ (2 : Int) ≤ ((s_0.size : Nat) : Int) ∧
    strconv_ParseUint_2_b3 R (s_0.extract ((2 : Int).toNat) s_0.size) 2 bitSize_2 base0_8 s0_9 I S)
    (bcase (decide ((s_0.size : Int) ≥ (3 : Int)))
      (∃ cx58 : UInt8, (0 : Int) ≤ (1 : Int) ∧ s_0[(1 : Int).toNat]? = some cx58 ∧
      Runs Tryd.prog 103 #[.int .u8 (cx58.toNat : Int)] I S fun v I1 S1 => ∃ x59, v = .int .u8 x59 ∧
      strconv_ParseUint_2_b27 R s_0 bitSize_2 base0_8 s0_9 (x59 == (111 : Int)) I1 S1)
      (strconv_ParseUint_2_b27 R s_0 bitSize_2 base0_8 s0_9 false I S))
def strconv_ParseUint_2_b25 (R : Value → IMem → SH → Prop) (s_0 : ByteArray) (base_1 : Int) (bitSize_2 : Int) (base0_8 : Bool) (s0_9 : ByteArray) (x37 : Bool) (I : IMem) (S : SH) : Prop :=
  bcase x37
    (bcase (decide ((s_0.size : Int) ≥ (3 : Int)))
      (∃ cx46 : UInt8, (0 : Int) ≤ (1 : Int) ∧ s_0[(1 : Int).toNat]? = some cx46 ∧
      Runs Tryd.prog 103 #[.int .u8 (cx46.toNat : Int)] I S fun v I1 S1 => ∃ x47, v = .int .u8 x47 ∧
      strconv_ParseUint_2_b26 R s_0 bitSize_2 base0_8 s0_9 (x47 == (98 : Int)) I1 S1)
      (strconv_ParseUint_2_b26 R s_0 bitSize_2 base0_8 s0_9 false I S))
    (strconv_ParseUint_2_b3 R s_0 base_1 bitSize_2 base0_8 s0_9 I S)
def strconv_ParseUint_2_b24 (R : Value → IMem → SH → Prop) (s_0 : ByteArray) (bitSize_2 : Int) (base0_8 : Bool) (s0_9 : ByteArray) (x32 : Bool) (I : IMem) (S : SH) : Prop :=
  bcase x32
    (∃ cx36 : UInt8, (0 : Int) ≤ (0 : Int) ∧ s_0[(0 : Int).toNat]? = some cx36 ∧
    strconv_ParseUint_2_b25 R s_0 10 bitSize_2 base0_8 s0_9 ((cx36.toNat : Int) == (48 : Int)) I S)
    (R (.tuple #[.int .u64 0, (.iface 142 (.int .i64 3))]) I S)
def strconv_ParseUint_2_b2 (R : Value → IMem → SH → Prop) (s_0 : ByteArray) (base_1 : Int) (bitSize_2 : Int) (base0_8 : Bool) (s0_9 : ByteArray) (x25 : Bool) (I : IMem) (S : SH) : Prop :=
  bcase x25
    (strconv_ParseUint_2_b3 R s_0 base_1 bitSize_2 base0_8 s0_9 I S)
    (strconv_ParseUint_2_b24 R s_0 bitSize_2 base0_8 s0_9 (base_1 == (0 : Int)) I S)
def strconv_ParseUint_2_b1 (R : Value → IMem → SH → Prop) (s_0 : ByteArray) (base_1 : Int) (bitSize_2 : Int) (base0_8 : Bool) (s0_9 : ByteArray) (I : IMem) (S : SH) : Prop :=
  bcase (decide ((2 : Int) ≤ base_1))
    (strconv_ParseUint_2_b2 R s_0 base_1 bitSize_2 base0_8 s0_9 (decide (base_1 ≤ (36 : Int))) I S)
    (strconv_ParseUint_2_b2 R s_0 base_1 bitSize_2 base0_8 s0_9 false I S)
def strconv_ParseUint_2 (R : Value → IMem → SH → Prop) (s_0 : ByteArray) (base_1 : Int) (bitSize_2 : Int) (I : IMem) (S : SH) : Prop :=
  bcase (s_0.toList == (⟨#[]⟩ : ByteArray).toList)
    (R (.tuple #[.int .u64 0, (.iface 142 (.int .i64 2))]) I S)
    (strconv_ParseUint_2_b1 R s_0 base_1 bitSize_2 (base_1 == (0 : Int)) s_0 I S)
theorem strconv_ParseUint_2_fn (R : Value → IMem → SH → Prop) (s_0 : ByteArray) (base_1 : Int) (bitSize_2 : Int) (I : IMem) (S : SH) (h : strconv_ParseUint_2 R s_0 base_1 bitSize_2 I S) :
    Runs Tryd.prog 94 #[.string s_0, .int .i64 base_1, .int .i64 bitSize_2] I S R := by
  refine Runs.of_wp (args := [.string s_0, .int .i64 base_1, .int .i64 bitSize_2]) (c := strconv_ParseUint_2_code) Tryd.func94 (by kernel_rfl) (by kernel_rfl) ?_
  refine WP.cut 4 (fun l I S => asStr (l 0) fun s_0 => asI .i64 (l 1) fun base_1 => asI .i64 (l 2) fun bitSize_2 => asB (l 8) fun base0_8 => asStr (l 9) fun s0_9 => strconv_ParseUint_2_b1 R s_0 base_1 bitSize_2 base0_8 s0_9 I S) (cast (by kernel_rfl) h) ?_
  clear h
  intro l I S _ h
  obtain ⟨s_0, e0, h⟩ := asStr_e h
  obtain ⟨base_1, e1, h⟩ := asI_e h
  obtain ⟨bitSize_2, e2, h⟩ := asI_e h
  obtain ⟨base0_8, e8, h⟩ := asB_e h
  obtain ⟨s0_9, e9, h⟩ := asStr_e h
  rw [upd_eta e0, upd_eta e1, upd_eta e2, upd_eta e8, upd_eta e9]
  refine WP.seqY (by kernel_rfl) (fun l I S => asStr (l 0) fun s_0 => asI .i64 (l 1) fun base_1 => asI .i64 (l 2) fun bitSize_2 => asB (l 8) fun base0_8 => asStr (l 9) fun s0_9 => strconv_ParseUint_2_b3 R s_0 base_1 bitSize_2 base0_8 s0_9 I S) ?_ ?_
  ·
    refine WP.block' (by kernel_rfl) ?_
    refine WP.cut 1 (fun l I S => asStr (l 0) fun s_0 => asI .i64 (l 1) fun base_1 => asI .i64 (l 2) fun bitSize_2 => asB (l 8) fun base0_8 => asStr (l 9) fun s0_9 => asB (l 25) fun x25 => strconv_ParseUint_2_b2 R s_0 base_1 bitSize_2 base0_8 s0_9 x25 I S) (cast (by kernel_rfl) h) ?_
    clear h
    intro l I S _ h
    obtain ⟨s_0, e0, h⟩ := asStr_e h
    obtain ⟨base_1, e1, h⟩ := asI_e h
    obtain ⟨bitSize_2, e2, h⟩ := asI_e h
    obtain ⟨base0_8, e8, h⟩ := asB_e h
    obtain ⟨s0_9, e9, h⟩ := asStr_e h
    obtain ⟨x25, e25, h⟩ := asB_e h
    rw [upd_eta e0, upd_eta e1, upd_eta e2, upd_eta e8, upd_eta e9, upd_eta e25]
    refine WP.cond' (by kernel_rfl) (by kernel_rfl) h ?_ ?_
    · clear h
      intro h
      exact Pre.sound _ _ _ _ _ (cast (by kernel_rfl) h)
    · clear h
      intro h
      refine WP.cut 1 (fun l I S => asStr (l 0) fun s_0 => asI .i64 (l 2) fun bitSize_2 => asB (l 8) fun base0_8 => asStr (l 9) fun s0_9 => asB (l 32) fun x32 => strconv_ParseUint_2_b24 R s_0 bitSize_2 base0_8 s0_9 x32 I S) (cast (by kernel_rfl) h) ?_
      clear h
      intro l I S _ h
      obtain ⟨s_0, e0, h⟩ := asStr_e h
      obtain ⟨bitSize_2, e2, h⟩ := asI_e h
      obtain ⟨base0_8, e8, h⟩ := asB_e h
      obtain ⟨s0_9, e9, h⟩ := asStr_e h
      obtain ⟨x32, e32, h⟩ := asB_e h
      rw [upd_eta e0, upd_eta e2, upd_eta e8, upd_eta e9, upd_eta e32]
      refine WP.cond' (by kernel_rfl) (by kernel_rfl) h ?_ ?_
      · clear h
        intro h
        refine WP.cut 2 (fun l I S => asStr (l 0) fun s_0 => asI .i64 (l 1) fun base_1 => asI .i64 (l 2) fun bitSize_2 => asB (l 8) fun base0_8 => asStr (l 9) fun s0_9 => asB (l 37) fun x37 => strconv_ParseUint_2_b25 R s_0 base_1 bitSize_2 base0_8 s0_9 x37 I S) (cast (by kernel_rfl) h) ?_
        clear h
        intro l I S _ h
        obtain ⟨s_0, e0, h⟩ := asStr_e h
        obtain ⟨base_1, e1, h⟩ := asI_e h
        obtain ⟨bitSize_2, e2, h⟩ := asI_e h
        obtain ⟨base0_8, e8, h⟩ := asB_e h
        obtain ⟨s0_9, e9, h⟩ := asStr_e h
        obtain ⟨x37, e37, h⟩ := asB_e h
        rw [upd_eta e0, upd_eta e1, upd_eta e2, upd_eta e8, upd_eta e9, upd_eta e37]
        refine WP.cond' (by kernel_rfl) (by kernel_rfl) h ?_ ?_
        · clear h
          intro h
          refine WP.block' (by kernel_rfl) ?_
          refine WP.cut 1 (fun l I S => asStr (l 0) fun s_0 => asI .i64 (l 2) fun bitSize_2 => asB (l 8) fun base0_8 => asStr (l 9) fun s0_9 => asB (l 40) fun x40 => strconv_ParseUint_2_b26 R s_0 bitSize_2 base0_8 s0_9 x40 I S) (cast (by kernel_rfl) h) ?_
          clear h
          intro l I S _ h
          obtain ⟨s_0, e0, h⟩ := asStr_e h
          obtain ⟨bitSize_2, e2, h⟩ := asI_e h
          obtain ⟨base0_8, e8, h⟩ := asB_e h
          obtain ⟨s0_9, e9, h⟩ := asStr_e h
          obtain ⟨x40, e40, h⟩ := asB_e h
          rw [upd_eta e0, upd_eta e2, upd_eta e8, upd_eta e9, upd_eta e40]
          refine WP.cond' (by kernel_rfl) (by kernel_rfl) h ?_ ?_
          · clear h
            intro h
            exact Pre.sound _ _ _ _ _ (cast (by kernel_rfl) h)
          · clear h
            intro h
            refine WP.cut 1 (fun l I S => asStr (l 0) fun s_0 => asI .i64 (l 2) fun bitSize_2 => asB (l 8) fun base0_8 => asStr (l 9) fun s0_9 => asB (l 52) fun x52 => strconv_ParseUint_2_b27 R s_0 bitSize_2 base0_8 s0_9 x52 I S) (cast (by kernel_rfl) h) ?_
            clear h
            intro l I S _ h
            obtain ⟨s_0, e0, h⟩ := asStr_e h
            obtain ⟨bitSize_2, e2, h⟩ := asI_e h
            obtain ⟨base0_8, e8, h⟩ := asB_e h
            obtain ⟨s0_9, e9, h⟩ := asStr_e h
            obtain ⟨x52, e52, h⟩ := asB_e h
            rw [upd_eta e0, upd_eta e2, upd_eta e8, upd_eta e9, upd_eta e52]
            refine WP.cond' (by kernel_rfl) (by kernel_rfl) h ?_ ?_
            · clear h
              intro h
              exact Pre.sound _ _ _ _ _ (cast (by kernel_rfl) h)
            · clear h
              intro h
              refine WP.cut 1 (fun l I S => asStr (l 0) fun s_0 => asI .i64 (l 2) fun bitSize_2 => asB (l 8) fun base0_8 => asStr (l 9) fun s0_9 => asB (l 64) fun x64 => strconv_ParseUint_2_b28 R s_0 bitSize_2 base0_8 s0_9 x64 I S) (cast (by kernel_rfl) h) ?_
              clear h
              intro l I S _ h
              obtain ⟨s_0, e0, h⟩ := asStr_e h
              obtain ⟨bitSize_2, e2, h⟩ := asI_e h
              obtain ⟨base0_8, e8, h⟩ := asB_e h
              obtain ⟨s0_9, e9, h⟩ := asStr_e h
              obtain ⟨x64, e64, h⟩ := asB_e h
              rw [upd_eta e0, upd_eta e2, upd_eta e8, upd_eta e9, upd_eta e64]
              exact Pre.sound _ _ _ _ _ (cast (by kernel_rfl) h)
        · clear h
          intro h
          exact Pre.sound _ _ _ _ _ (cast (by kernel_rfl) h)
      · clear h
        intro h
        exact Pre.sound _ _ _ _ _ (cast (by kernel_rfl) h)
  · clear h
    intro l I S _ h
    obtain ⟨s_0, e0, h⟩ := asStr_e h
    obtain ⟨base_1, e1, h⟩ := asI_e h
    obtain ⟨bitSize_2, e2, h⟩ := asI_e h
    obtain ⟨base0_8, e8, h⟩ := asB_e h
    obtain ⟨s0_9, e9, h⟩ := asStr_e h
    rw [upd_eta e0, upd_eta e1, upd_eta e2, upd_eta e8, upd_eta e9]
    refine WP.seqY (by kernel_rfl) (fun l I S => asStr (l 0) fun s_0 => asI .i64 (l 1) fun base_1 => asI .i64 (l 2) fun bitSize_2 => asB (l 8) fun base0_8 => asStr (l 9) fun s0_9 => strconv_ParseUint_2_b5 R s_0 base_1 bitSize_2 base0_8 s0_9 I S) ?_ ?_
    ·
      refine WP.cut 1 (fun l I S => asStr (l 0) fun s_0 => asI .i64 (l 1) fun base_1 => asI .i64 (l 2) fun bitSize_2 => asB (l 8) fun base0_8 => asStr (l 9) fun s0_9 => asB (l 77) fun x77 => strconv_ParseUint_2_b4 R s_0 base_1 bitSize_2 base0_8 s0_9 x77 I S) (cast (by kernel_rfl) h) ?_
      clear h
      intro l I S _ h
      obtain ⟨s_0, e0, h⟩ := asStr_e h
      obtain ⟨base_1, e1, h⟩ := asI_e h
      obtain ⟨bitSize_2, e2, h⟩ := asI_e h
      obtain ⟨base0_8, e8, h⟩ := asB_e h
      obtain ⟨s0_9, e9, h⟩ := asStr_e h
      obtain ⟨x77, e77, h⟩ := asB_e h
      rw [upd_eta e0, upd_eta e1, upd_eta e2, upd_eta e8, upd_eta e9, upd_eta e77]
      refine WP.cond' (by kernel_rfl) (by kernel_rfl) h ?_ ?_
      · clear h
        intro h
        exact Pre.sound _ _ _ _ _ (cast (by kernel_rfl) h)
      · clear h
        intro h
        refine WP.cut 1 (fun l I S => asStr (l 0) fun s_0 => asI .i64 (l 1) fun base_1 => asI .i64 (l 2) fun bitSize_2 => asB (l 8) fun base0_8 => asStr (l 9) fun s0_9 => asB (l 83) fun x83 => strconv_ParseUint_2_b23 R s_0 base_1 bitSize_2 base0_8 s0_9 x83 I S) (cast (by kernel_rfl) h) ?_
        clear h
        intro l I S _ h
        obtain ⟨s_0, e0, h⟩ := asStr_e h
        obtain ⟨base_1, e1, h⟩ := asI_e h
        obtain ⟨bitSize_2, e2, h⟩ := asI_e h
        obtain ⟨base0_8, e8, h⟩ := asB_e h
        obtain ⟨s0_9, e9, h⟩ := asStr_e h
        obtain ⟨x83, e83, h⟩ := asB_e h
        rw [upd_eta e0, upd_eta e1, upd_eta e2, upd_eta e8, upd_eta e9, upd_eta e83]
        exact Pre.sound _ _ _ _ _ (cast (by kernel_rfl) h)
    · clear h
      intro l I S _ h
      obtain ⟨s_0, e0, h⟩ := asStr_e h
      obtain ⟨base_1, e1, h⟩ := asI_e h
      obtain ⟨bitSize_2, e2, h⟩ := asI_e h
      obtain ⟨base0_8, e8, h⟩ := asB_e h
      obtain ⟨s0_9, e9, h⟩ := asStr_e h
      rw [upd_eta e0, upd_eta e1, upd_eta e2, upd_eta e8, upd_eta e9]
      refine WP.cut 2 (fun l I S => asStr (l 0) fun s_0 => asI .i64 (l 1) fun base_1 => asI .i64 (l 2) fun bitSize_2 => asB (l 8) fun base0_8 => asStr (l 9) fun s0_9 => asI .u64 (l 10) fun cutoff_10 => strconv_ParseUint_2_b6 R s_0 base_1 bitSize_2 base0_8 s0_9 cutoff_10 I S) (cast (by kernel_rfl) h) ?_
      clear h
      intro l I S _ h
      obtain ⟨s_0, e0, h⟩ := asStr_e h
      obtain ⟨base_1, e1, h⟩ := asI_e h
      obtain ⟨bitSize_2, e2, h⟩ := asI_e h
      obtain ⟨base0_8, e8, h⟩ := asB_e h
      obtain ⟨s0_9, e9, h⟩ := asStr_e h
      obtain ⟨cutoff_10, e10, h⟩ := asI_e h
      rw [upd_eta e0, upd_eta e1, upd_eta e2, upd_eta e8, upd_eta e9, upd_eta e10]
      refine WP.cut 3 (fun l I S => asStr (l 0) fun s_0 => asI .i64 (l 1) fun base_1 => asB (l 8) fun base0_8 => asStr (l 9) fun s0_9 => asI .u64 (l 10) fun cutoff_10 => asI .u64 (l 11) fun maxVal_11 => asB (l 12) fun underscores_12 => asI .u64 (l 13) fun n_13 => strconv_ParseUint_2_b7 R s_0 base_1 base0_8 s0_9 cutoff_10 maxVal_11 underscores_12 n_13 I S) (cast (by kernel_rfl) h) ?_
      clear h
      intro l I S _ h
      obtain ⟨s_0, e0, h⟩ := asStr_e h
      obtain ⟨base_1, e1, h⟩ := asI_e h
      obtain ⟨base0_8, e8, h⟩ := asB_e h
      obtain ⟨s0_9, e9, h⟩ := asStr_e h
      obtain ⟨cutoff_10, e10, h⟩ := asI_e h
      obtain ⟨maxVal_11, e11, h⟩ := asI_e h
      obtain ⟨underscores_12, e12, h⟩ := asB_e h
      obtain ⟨n_13, e13, h⟩ := asI_e h
      rw [upd_eta e0, upd_eta e1, upd_eta e8, upd_eta e9, upd_eta e10, upd_eta e11, upd_eta e12, upd_eta e13]
      refine WP.seqY (by kernel_rfl) (fun l I S => asStr (l 9) fun s0_9 => asB (l 12) fun underscores_12 => asI .u64 (l 13) fun n_13 => strconv_ParseUint_2_b20 R s0_9 underscores_12 n_13 I S) ?_ ?_
      ·
        refine WP.cut 1 (fun l I S => asI .i64 (l 1) fun base_1 => asB (l 8) fun base0_8 => asStr (l 9) fun s0_9 => asI .u64 (l 10) fun cutoff_10 => asI .u64 (l 11) fun maxVal_11 => asB (l 12) fun underscores_12 => asI .u64 (l 13) fun n_13 => asSl (l 99) fun x99 x99n x99c => asI .i64 (l 100) fun x100 => asI .i64 (l 101) fun x101 => strconv_ParseUint_2_b8 R base_1 base0_8 s0_9 cutoff_10 maxVal_11 underscores_12 n_13 x99 x99n x99c x100 x101 I S) (cast (by kernel_rfl) h) ?_
        clear h
        intro l I S _ h
        obtain ⟨base_1, e1, h⟩ := asI_e h
        obtain ⟨base0_8, e8, h⟩ := asB_e h
        obtain ⟨s0_9, e9, h⟩ := asStr_e h
        obtain ⟨cutoff_10, e10, h⟩ := asI_e h
        obtain ⟨maxVal_11, e11, h⟩ := asI_e h
        obtain ⟨underscores_12, e12, h⟩ := asB_e h
        obtain ⟨n_13, e13, h⟩ := asI_e h
        obtain ⟨x99, x99n, x99c, e99, h⟩ := asSl_e h
        obtain ⟨x100, e100, h⟩ := asI_e h
        obtain ⟨x101, e101, h⟩ := asI_e h
        rw [upd_eta e1, upd_eta e8, upd_eta e9, upd_eta e10, upd_eta e11, upd_eta e12, upd_eta e13, upd_eta e99, upd_eta e100, upd_eta e101]
        refine WP.block' (by kernel_rfl) ?_
        obtain ⟨Inv_again9, m_again9, h0, hr⟩ := h
        refine WP.loop' (by kernel_rfl) (fun m_again9 => fun l I S => asI .i64 (l 1) fun base_1 => asB (l 8) fun base0_8 => asStr (l 9) fun s0_9 => asI .u64 (l 10) fun cutoff_10 => asI .u64 (l 11) fun maxVal_11 => asB (l 12) fun underscores_12 => asI .u64 (l 13) fun n_13 => asSl (l 99) fun x99 x99n x99c => asI .i64 (l 100) fun x100 => asI .i64 (l 101) fun x101 => Inv_again9 m_again9 base_1 base0_8 s0_9 cutoff_10 maxVal_11 underscores_12 n_13 x99 x99n x99c x100 x101 I S) m_again9 (cast (by kernel_rfl) h0) ?_
        clear h0
        intro m_again9 l I S hle h
        obtain ⟨base_1, e1, h⟩ := asI_e h
        obtain ⟨base0_8, e8, h⟩ := asB_e h
        obtain ⟨s0_9, e9, h⟩ := asStr_e h
        obtain ⟨cutoff_10, e10, h⟩ := asI_e h
        obtain ⟨maxVal_11, e11, h⟩ := asI_e h
        obtain ⟨underscores_12, e12, h⟩ := asB_e h
        obtain ⟨n_13, e13, h⟩ := asI_e h
        obtain ⟨x99, x99n, x99c, e99, h⟩ := asSl_e h
        obtain ⟨x100, e100, h⟩ := asI_e h
        obtain ⟨x101, e101, h⟩ := asI_e h
        rw [upd_eta e1, upd_eta e8, upd_eta e9, upd_eta e10, upd_eta e11, upd_eta e12, upd_eta e13, upd_eta e99, upd_eta e100, upd_eta e101]
        have h := hr m_again9 base_1 base0_8 s0_9 cutoff_10 maxVal_11 underscores_12 n_13 x99 x99n x99c x100 x101 I S hle h
        clear hr hle
        refine WP.cut 2 (fun l I S => asI .i64 (l 1) fun base_1 => asB (l 8) fun base0_8 => asStr (l 9) fun s0_9 => asI .u64 (l 10) fun cutoff_10 => asI .u64 (l 11) fun maxVal_11 => asB (l 12) fun underscores_12 => asI .u64 (l 13) fun n_13 => asSl (l 99) fun x99 x99n x99c => asI .i64 (l 100) fun x100 => asI .i64 (l 101) fun x101 => strconv_ParseUint_2_b10 (fun base_1 base0_8 s0_9 cutoff_10 maxVal_11 underscores_12 n_13 x99 x99n x99c x100 x101 I S => ∃ m', m' < m_again9 ∧ Inv_again9 m' base_1 base0_8 s0_9 cutoff_10 maxVal_11 underscores_12 n_13 x99 x99n x99c x100 x101 I S) R base_1 base0_8 s0_9 cutoff_10 maxVal_11 underscores_12 n_13 x99 x99n x99c x100 x101 I S) (cast (by kernel_rfl) h) ?_
        clear h
        intro l I S _ h
        obtain ⟨base_1, e1, h⟩ := asI_e h
        obtain ⟨base0_8, e8, h⟩ := asB_e h
        obtain ⟨s0_9, e9, h⟩ := asStr_e h
        obtain ⟨cutoff_10, e10, h⟩ := asI_e h
        obtain ⟨maxVal_11, e11, h⟩ := asI_e h
        obtain ⟨underscores_12, e12, h⟩ := asB_e h
        obtain ⟨n_13, e13, h⟩ := asI_e h
        obtain ⟨x99, x99n, x99c, e99, h⟩ := asSl_e h
        obtain ⟨x100, e100, h⟩ := asI_e h
        obtain ⟨x101, e101, h⟩ := asI_e h
        rw [upd_eta e1, upd_eta e8, upd_eta e9, upd_eta e10, upd_eta e11, upd_eta e12, upd_eta e13, upd_eta e99, upd_eta e100, upd_eta e101]
        refine WP.seqY (by kernel_rfl) (fun l I S => asI .i64 (l 1) fun base_1 => asB (l 8) fun base0_8 => asStr (l 9) fun s0_9 => asI .u64 (l 10) fun cutoff_10 => asI .u64 (l 11) fun maxVal_11 => asB (l 12) fun underscores_12 => asI .u64 (l 13) fun n_13 => asSl (l 99) fun x99 x99n x99c => asI .i64 (l 100) fun x100 => asI .i64 (l 101) fun x101 => strconv_ParseUint_2_b13 (fun base_1 base0_8 s0_9 cutoff_10 maxVal_11 underscores_12 n_13 x99 x99n x99c x100 x101 I S => ∃ m', m' < m_again9 ∧ Inv_again9 m' base_1 base0_8 s0_9 cutoff_10 maxVal_11 underscores_12 n_13 x99 x99n x99c x100 x101 I S) R base_1 base0_8 s0_9 cutoff_10 maxVal_11 underscores_12 n_13 x99 x99n x99c x100 x101 I S) ?_ ?_
        ·
          refine WP.block' (by kernel_rfl) ?_
          refine WP.cut 2 (fun l I S => asI .i64 (l 1) fun base_1 => asB (l 8) fun base0_8 => asStr (l 9) fun s0_9 => asI .u64 (l 10) fun cutoff_10 => asI .u64 (l 11) fun maxVal_11 => asB (l 12) fun underscores_12 => asI .u64 (l 13) fun n_13 => asI .u8 (l 15) fun c_15 => asSl (l 99) fun x99 x99n x99c => asI .i64 (l 100) fun x100 => asI .i64 (l 101) fun x101 => strconv_ParseUint_2_b11 (fun base_1 base0_8 s0_9 cutoff_10 maxVal_11 underscores_12 n_13 x99 x99n x99c x100 x101 I S => ∃ m', m' < m_again9 ∧ Inv_again9 m' base_1 base0_8 s0_9 cutoff_10 maxVal_11 underscores_12 n_13 x99 x99n x99c x100 x101 I S) R base_1 base0_8 s0_9 cutoff_10 maxVal_11 underscores_12 n_13 c_15 x99 x99n x99c x100 x101 I S) (cast (by kernel_rfl) h) ?_
          clear h
          intro l I S _ h
          obtain ⟨base_1, e1, h⟩ := asI_e h
          obtain ⟨base0_8, e8, h⟩ := asB_e h
          obtain ⟨s0_9, e9, h⟩ := asStr_e h
          obtain ⟨cutoff_10, e10, h⟩ := asI_e h
          obtain ⟨maxVal_11, e11, h⟩ := asI_e h
          obtain ⟨underscores_12, e12, h⟩ := asB_e h
          obtain ⟨n_13, e13, h⟩ := asI_e h
          obtain ⟨c_15, e15, h⟩ := asI_e h
          obtain ⟨x99, x99n, x99c, e99, h⟩ := asSl_e h
          obtain ⟨x100, e100, h⟩ := asI_e h
          obtain ⟨x101, e101, h⟩ := asI_e h
          rw [upd_eta e1, upd_eta e8, upd_eta e9, upd_eta e10, upd_eta e11, upd_eta e12, upd_eta e13, upd_eta e15, upd_eta e99, upd_eta e100, upd_eta e101]
          refine WP.seqY (by kernel_rfl) (fun l I S => asI .i64 (l 1) fun base_1 => asB (l 8) fun base0_8 => asStr (l 9) fun s0_9 => asI .u64 (l 10) fun cutoff_10 => asI .u64 (l 11) fun maxVal_11 => asB (l 12) fun underscores_12 => asI .u64 (l 13) fun n_13 => asI .u8 (l 16) fun d_16 => asSl (l 99) fun x99 x99n x99c => asI .i64 (l 100) fun x100 => asI .i64 (l 101) fun x101 => strconv_ParseUint_2_b15 (fun base_1 base0_8 s0_9 cutoff_10 maxVal_11 underscores_12 n_13 x99 x99n x99c x100 x101 I S => ∃ m', m' < m_again9 ∧ Inv_again9 m' base_1 base0_8 s0_9 cutoff_10 maxVal_11 underscores_12 n_13 x99 x99n x99c x100 x101 I S) R base_1 base0_8 s0_9 cutoff_10 maxVal_11 underscores_12 n_13 d_16 x99 x99n x99c x100 x101 I S) ?_ ?_
          ·
            refine WP.block' (by kernel_rfl) ?_
            refine WP.cut 1 (fun l I S => asI .i64 (l 1) fun base_1 => asB (l 8) fun base0_8 => asStr (l 9) fun s0_9 => asI .u64 (l 10) fun cutoff_10 => asI .u64 (l 11) fun maxVal_11 => asB (l 12) fun underscores_12 => asI .u64 (l 13) fun n_13 => asI .u8 (l 15) fun c_15 => asSl (l 99) fun x99 x99n x99c => asI .i64 (l 100) fun x100 => asI .i64 (l 101) fun x101 => asB (l 106) fun x106 => strconv_ParseUint_2_b12 (fun base_1 base0_8 s0_9 cutoff_10 maxVal_11 underscores_12 n_13 x99 x99n x99c x100 x101 I S => ∃ m', m' < m_again9 ∧ Inv_again9 m' base_1 base0_8 s0_9 cutoff_10 maxVal_11 underscores_12 n_13 x99 x99n x99c x100 x101 I S) R base_1 base0_8 s0_9 cutoff_10 maxVal_11 underscores_12 n_13 c_15 x99 x99n x99c x100 x101 x106 I S) (cast (by kernel_rfl) h) ?_
            clear h
            intro l I S _ h
            obtain ⟨base_1, e1, h⟩ := asI_e h
            obtain ⟨base0_8, e8, h⟩ := asB_e h
            obtain ⟨s0_9, e9, h⟩ := asStr_e h
            obtain ⟨cutoff_10, e10, h⟩ := asI_e h
            obtain ⟨maxVal_11, e11, h⟩ := asI_e h
            obtain ⟨underscores_12, e12, h⟩ := asB_e h
            obtain ⟨n_13, e13, h⟩ := asI_e h
            obtain ⟨c_15, e15, h⟩ := asI_e h
            obtain ⟨x99, x99n, x99c, e99, h⟩ := asSl_e h
            obtain ⟨x100, e100, h⟩ := asI_e h
            obtain ⟨x101, e101, h⟩ := asI_e h
            obtain ⟨x106, e106, h⟩ := asB_e h
            rw [upd_eta e1, upd_eta e8, upd_eta e9, upd_eta e10, upd_eta e11, upd_eta e12, upd_eta e13, upd_eta e15, upd_eta e99, upd_eta e100, upd_eta e101, upd_eta e106]
            refine WP.cond' (by kernel_rfl) (by kernel_rfl) h ?_ ?_
            · clear h
              intro h
              exact Pre.sound _ _ _ _ _ (cast (by kernel_rfl) h)
            · clear h
              intro h
              refine WP.cut 1 (fun l I S => asI .i64 (l 1) fun base_1 => asB (l 8) fun base0_8 => asStr (l 9) fun s0_9 => asI .u64 (l 10) fun cutoff_10 => asI .u64 (l 11) fun maxVal_11 => asB (l 12) fun underscores_12 => asI .u64 (l 13) fun n_13 => asI .u8 (l 15) fun c_15 => asSl (l 99) fun x99 x99n x99c => asI .i64 (l 100) fun x100 => asI .i64 (l 101) fun x101 => asB (l 112) fun x112 => strconv_ParseUint_2_b14 (fun base_1 base0_8 s0_9 cutoff_10 maxVal_11 underscores_12 n_13 x99 x99n x99c x100 x101 I S => ∃ m', m' < m_again9 ∧ Inv_again9 m' base_1 base0_8 s0_9 cutoff_10 maxVal_11 underscores_12 n_13 x99 x99n x99c x100 x101 I S) R base_1 base0_8 s0_9 cutoff_10 maxVal_11 underscores_12 n_13 c_15 x99 x99n x99c x100 x101 x112 I S) (cast (by kernel_rfl) h) ?_
              clear h
              intro l I S _ h
              obtain ⟨base_1, e1, h⟩ := asI_e h
              obtain ⟨base0_8, e8, h⟩ := asB_e h
              obtain ⟨s0_9, e9, h⟩ := asStr_e h
              obtain ⟨cutoff_10, e10, h⟩ := asI_e h
              obtain ⟨maxVal_11, e11, h⟩ := asI_e h
              obtain ⟨underscores_12, e12, h⟩ := asB_e h
              obtain ⟨n_13, e13, h⟩ := asI_e h
              obtain ⟨c_15, e15, h⟩ := asI_e h
              obtain ⟨x99, x99n, x99c, e99, h⟩ := asSl_e h
              obtain ⟨x100, e100, h⟩ := asI_e h
              obtain ⟨x101, e101, h⟩ := asI_e h
              obtain ⟨x112, e112, h⟩ := asB_e h
              rw [upd_eta e1, upd_eta e8, upd_eta e9, upd_eta e10, upd_eta e11, upd_eta e12, upd_eta e13, upd_eta e15, upd_eta e99, upd_eta e100, upd_eta e101, upd_eta e112]
              refine WP.cond' (by kernel_rfl) (by kernel_rfl) h ?_ ?_
              · clear h
                intro h
                exact Pre.sound _ _ _ _ _ (cast (by kernel_rfl) h)
              · clear h
                intro h
                refine WP.cut 1 (fun l I S => asI .i64 (l 1) fun base_1 => asB (l 8) fun base0_8 => asStr (l 9) fun s0_9 => asI .u64 (l 10) fun cutoff_10 => asI .u64 (l 11) fun maxVal_11 => asB (l 12) fun underscores_12 => asI .u64 (l 13) fun n_13 => asI .u8 (l 15) fun c_15 => asSl (l 99) fun x99 x99n x99c => asI .i64 (l 100) fun x100 => asI .i64 (l 101) fun x101 => asB (l 121) fun x121 => strconv_ParseUint_2_b19 (fun base_1 base0_8 s0_9 cutoff_10 maxVal_11 underscores_12 n_13 x99 x99n x99c x100 x101 I S => ∃ m', m' < m_again9 ∧ Inv_again9 m' base_1 base0_8 s0_9 cutoff_10 maxVal_11 underscores_12 n_13 x99 x99n x99c x100 x101 I S) R base_1 base0_8 s0_9 cutoff_10 maxVal_11 underscores_12 n_13 c_15 x99 x99n x99c x100 x101 x121 I S) (cast (by kernel_rfl) h) ?_
                clear h
                intro l I S _ h
                obtain ⟨base_1, e1, h⟩ := asI_e h
                obtain ⟨base0_8, e8, h⟩ := asB_e h
                obtain ⟨s0_9, e9, h⟩ := asStr_e h
                obtain ⟨cutoff_10, e10, h⟩ := asI_e h
                obtain ⟨maxVal_11, e11, h⟩ := asI_e h
                obtain ⟨underscores_12, e12, h⟩ := asB_e h
                obtain ⟨n_13, e13, h⟩ := asI_e h
                obtain ⟨c_15, e15, h⟩ := asI_e h
                obtain ⟨x99, x99n, x99c, e99, h⟩ := asSl_e h
                obtain ⟨x100, e100, h⟩ := asI_e h
                obtain ⟨x101, e101, h⟩ := asI_e h
                obtain ⟨x121, e121, h⟩ := asB_e h
                rw [upd_eta e1, upd_eta e8, upd_eta e9, upd_eta e10, upd_eta e11, upd_eta e12, upd_eta e13, upd_eta e15, upd_eta e99, upd_eta e100, upd_eta e101, upd_eta e121]
                exact Pre.sound _ _ _ _ _ (cast (by kernel_rfl) h)
          · clear h
            intro l I S _ h
            obtain ⟨base_1, e1, h⟩ := asI_e h
            obtain ⟨base0_8, e8, h⟩ := asB_e h
            obtain ⟨s0_9, e9, h⟩ := asStr_e h
            obtain ⟨cutoff_10, e10, h⟩ := asI_e h
            obtain ⟨maxVal_11, e11, h⟩ := asI_e h
            obtain ⟨underscores_12, e12, h⟩ := asB_e h
            obtain ⟨n_13, e13, h⟩ := asI_e h
            obtain ⟨d_16, e16, h⟩ := asI_e h
            obtain ⟨x99, x99n, x99c, e99, h⟩ := asSl_e h
            obtain ⟨x100, e100, h⟩ := asI_e h
            obtain ⟨x101, e101, h⟩ := asI_e h
            rw [upd_eta e1, upd_eta e8, upd_eta e9, upd_eta e10, upd_eta e11, upd_eta e12, upd_eta e13, upd_eta e16, upd_eta e99, upd_eta e100, upd_eta e101]
            refine WP.cut 4 (fun l I S => asI .i64 (l 1) fun base_1 => asB (l 8) fun base0_8 => asStr (l 9) fun s0_9 => asI .u64 (l 10) fun cutoff_10 => asI .u64 (l 11) fun maxVal_11 => asB (l 12) fun underscores_12 => asI .u64 (l 13) fun n_13 => asI .u64 (l 17) fun n1_17 => asSl (l 99) fun x99 x99n x99c => asI .i64 (l 100) fun x100 => asI .i64 (l 101) fun x101 => strconv_ParseUint_2_b16 (fun base_1 base0_8 s0_9 cutoff_10 maxVal_11 underscores_12 n_13 x99 x99n x99c x100 x101 I S => ∃ m', m' < m_again9 ∧ Inv_again9 m' base_1 base0_8 s0_9 cutoff_10 maxVal_11 underscores_12 n_13 x99 x99n x99c x100 x101 I S) R base_1 base0_8 s0_9 cutoff_10 maxVal_11 underscores_12 n_13 n1_17 x99 x99n x99c x100 x101 I S) (cast (by kernel_rfl) h) ?_
            clear h
            intro l I S _ h
            obtain ⟨base_1, e1, h⟩ := asI_e h
            obtain ⟨base0_8, e8, h⟩ := asB_e h
            obtain ⟨s0_9, e9, h⟩ := asStr_e h
            obtain ⟨cutoff_10, e10, h⟩ := asI_e h
            obtain ⟨maxVal_11, e11, h⟩ := asI_e h
            obtain ⟨underscores_12, e12, h⟩ := asB_e h
            obtain ⟨n_13, e13, h⟩ := asI_e h
            obtain ⟨n1_17, e17, h⟩ := asI_e h
            obtain ⟨x99, x99n, x99c, e99, h⟩ := asSl_e h
            obtain ⟨x100, e100, h⟩ := asI_e h
            obtain ⟨x101, e101, h⟩ := asI_e h
            rw [upd_eta e1, upd_eta e8, upd_eta e9, upd_eta e10, upd_eta e11, upd_eta e12, upd_eta e13, upd_eta e17, upd_eta e99, upd_eta e100, upd_eta e101]
            refine WP.seqY (by kernel_rfl) (fun l I S => asI .i64 (l 1) fun base_1 => asB (l 8) fun base0_8 => asStr (l 9) fun s0_9 => asI .u64 (l 10) fun cutoff_10 => asI .u64 (l 11) fun maxVal_11 => asB (l 12) fun underscores_12 => asI .u64 (l 17) fun n1_17 => asSl (l 99) fun x99 x99n x99c => asI .i64 (l 100) fun x100 => asI .i64 (l 101) fun x101 => strconv_ParseUint_2_b18 (fun base_1 base0_8 s0_9 cutoff_10 maxVal_11 underscores_12 n_13 x99 x99n x99c x100 x101 I S => ∃ m', m' < m_again9 ∧ Inv_again9 m' base_1 base0_8 s0_9 cutoff_10 maxVal_11 underscores_12 n_13 x99 x99n x99c x100 x101 I S) R base_1 base0_8 s0_9 cutoff_10 maxVal_11 underscores_12 n1_17 x99 x99n x99c x100 x101 I S) ?_ ?_
            ·
              refine WP.cut 1 (fun l I S => asI .i64 (l 1) fun base_1 => asB (l 8) fun base0_8 => asStr (l 9) fun s0_9 => asI .u64 (l 10) fun cutoff_10 => asI .u64 (l 11) fun maxVal_11 => asB (l 12) fun underscores_12 => asI .u64 (l 17) fun n1_17 => asSl (l 99) fun x99 x99n x99c => asI .i64 (l 100) fun x100 => asI .i64 (l 101) fun x101 => asB (l 159) fun x159 => strconv_ParseUint_2_b17 (fun base_1 base0_8 s0_9 cutoff_10 maxVal_11 underscores_12 n_13 x99 x99n x99c x100 x101 I S => ∃ m', m' < m_again9 ∧ Inv_again9 m' base_1 base0_8 s0_9 cutoff_10 maxVal_11 underscores_12 n_13 x99 x99n x99c x100 x101 I S) R base_1 base0_8 s0_9 cutoff_10 maxVal_11 underscores_12 n1_17 x99 x99n x99c x100 x101 x159 I S) (cast (by kernel_rfl) h) ?_
              clear h
              intro l I S _ h
              obtain ⟨base_1, e1, h⟩ := asI_e h
              obtain ⟨base0_8, e8, h⟩ := asB_e h
              obtain ⟨s0_9, e9, h⟩ := asStr_e h
              obtain ⟨cutoff_10, e10, h⟩ := asI_e h
              obtain ⟨maxVal_11, e11, h⟩ := asI_e h
              obtain ⟨underscores_12, e12, h⟩ := asB_e h
              obtain ⟨n1_17, e17, h⟩ := asI_e h
              obtain ⟨x99, x99n, x99c, e99, h⟩ := asSl_e h
              obtain ⟨x100, e100, h⟩ := asI_e h
              obtain ⟨x101, e101, h⟩ := asI_e h
              obtain ⟨x159, e159, h⟩ := asB_e h
              rw [upd_eta e1, upd_eta e8, upd_eta e9, upd_eta e10, upd_eta e11, upd_eta e12, upd_eta e17, upd_eta e99, upd_eta e100, upd_eta e101, upd_eta e159]
              exact Pre.sound _ _ _ _ _ (cast (by kernel_rfl) h)
            · clear h
              intro l I S _ h
              obtain ⟨base_1, e1, h⟩ := asI_e h
              obtain ⟨base0_8, e8, h⟩ := asB_e h
              obtain ⟨s0_9, e9, h⟩ := asStr_e h
              obtain ⟨cutoff_10, e10, h⟩ := asI_e h
              obtain ⟨maxVal_11, e11, h⟩ := asI_e h
              obtain ⟨underscores_12, e12, h⟩ := asB_e h
              obtain ⟨n1_17, e17, h⟩ := asI_e h
              obtain ⟨x99, x99n, x99c, e99, h⟩ := asSl_e h
              obtain ⟨x100, e100, h⟩ := asI_e h
              obtain ⟨x101, e101, h⟩ := asI_e h
              rw [upd_eta e1, upd_eta e8, upd_eta e9, upd_eta e10, upd_eta e11, upd_eta e12, upd_eta e17, upd_eta e99, upd_eta e100, upd_eta e101]
              exact Pre.sound _ _ _ _ _ (cast (by kernel_rfl) h)
        · clear h
          intro l I S _ h
          obtain ⟨base_1, e1, h⟩ := asI_e h
          obtain ⟨base0_8, e8, h⟩ := asB_e h
          obtain ⟨s0_9, e9, h⟩ := asStr_e h
          obtain ⟨cutoff_10, e10, h⟩ := asI_e h
          obtain ⟨maxVal_11, e11, h⟩ := asI_e h
          obtain ⟨underscores_12, e12, h⟩ := asB_e h
          obtain ⟨n_13, e13, h⟩ := asI_e h
          obtain ⟨x99, x99n, x99c, e99, h⟩ := asSl_e h
          obtain ⟨x100, e100, h⟩ := asI_e h
          obtain ⟨x101, e101, h⟩ := asI_e h
          rw [upd_eta e1, upd_eta e8, upd_eta e9, upd_eta e10, upd_eta e11, upd_eta e12, upd_eta e13, upd_eta e99, upd_eta e100, upd_eta e101]
          exact Pre.sound _ _ _ _ _ (cast (by kernel_rfl) h)
      · clear h
        intro l I S _ h
        obtain ⟨s0_9, e9, h⟩ := asStr_e h
        obtain ⟨underscores_12, e12, h⟩ := asB_e h
        obtain ⟨n_13, e13, h⟩ := asI_e h
        rw [upd_eta e9, upd_eta e12, upd_eta e13]
        refine WP.seqY (by kernel_rfl) (fun l I S => asI .u64 (l 13) fun n_13 => strconv_ParseUint_2_b22 R n_13 I S) ?_ ?_
        ·
          refine WP.cut 1 (fun l I S => asI .u64 (l 13) fun n_13 => asB (l 169) fun x169 => strconv_ParseUint_2_b21 R n_13 x169 I S) (cast (by kernel_rfl) h) ?_
          clear h
          intro l I S _ h
          obtain ⟨n_13, e13, h⟩ := asI_e h
          obtain ⟨x169, e169, h⟩ := asB_e h
          rw [upd_eta e13, upd_eta e169]
          exact Pre.sound _ _ _ _ _ (cast (by kernel_rfl) h)
        · clear h
          intro l I S _ h
          obtain ⟨n_13, e13, h⟩ := asI_e h
          rw [upd_eta e13]
          exact Pre.sound _ _ _ _ _ (cast (by kernel_rfl) h)
/-! ### strconv_FormatUint: function 80, strconv.FormatUint -/
noncomputable def strconv_FormatUint_code : Code := (Tryd.f80.body).getD .skip
def strconv_FormatUint (R : Value → IMem → SH → Prop) (i_0 : Int) (base_1 : Int) (I : IMem) (S : SH) : Prop :=
  Runs Tryd.prog 95 #[.int .u64 i_0, .int .i64 base_1] I S fun v I1 S1 => ∃ x7, v = .string x7 ∧
  R (.string x7) I1 S1
theorem strconv_FormatUint_fn (R : Value → IMem → SH → Prop) (i_0 : Int) (base_1 : Int) (I : IMem) (S : SH) (h : strconv_FormatUint R i_0 base_1 I S) :
    Runs Tryd.prog 80 #[.int .u64 i_0, .int .i64 base_1] I S R := by
  refine Runs.of_wp (args := [.int .u64 i_0, .int .i64 base_1]) (c := strconv_FormatUint_code) Tryd.func80 (by kernel_rfl) (by kernel_rfl) ?_
  exact Pre.sound _ _ _ _ _ (cast (by kernel_rfl) h)
/-! ### strconv_FormatUint_2: function 95, internal/strconv.FormatUint -/
noncomputable def strconv_FormatUint_2_code : Code := (Tryd.f95.body).getD .skip
def strconv_FormatUint_2 (R : Value → IMem → SH → Prop) (i_0 : Int) (base_1 : Int) (I : IMem) (S : SH) : Prop :=
  bcase (base_1 == (10 : Int))
    (bcase (decide (i_0 < (100 : Int)))
      (Runs Tryd.prog 82 #[.int .i64 (IntKind.wrap .i64 i_0)] I S fun v I1 S1 => ∃ x15, v = .string x15 ∧
      R (.string x15) I1 S1)
      (∀ b5 : Nat,
      Runs Tryd.prog 83 #[.int .u64 i_0] I ((b5, .cells #[.int .u8 0, .int .u8 0, .int .u8 0, .int .u8 0, .int .u8 0, .int .u8 0, .int .u8 0, .int .u8 0, .int .u8 0, .int .u8 0, .int .u8 0, .int .u8 0, .int .u8 0, .int .u8 0, .int .u8 0, .int .u8 0, .int .u8 0, .int .u8 0, .int .u8 0, .int .u8 0, .int .u8 0, .int .u8 0, .int .u8 0, .int .u8 0] 137 (0, 0)) :: S) fun v' I1' S1' => ∃ x17, v' = .int .i64 x17 ∧
      (0 : Int) ≤ x17 ∧ x17 ≤ ((24 : Nat) : Int) ∧
      Runs Tryd.prog 84 #[.slice (slA (some ⟨b5, 0, none⟩) 24 0 1) (x17.toNat - 0) (24 - 0), .int .u64 i_0] I1' S1' fun v'' I1'' S1'' => v'' = .tuple #[] ∧
      (0 : Int) ≤ x17 ∧ x17 ≤ ((24 : Nat) : Int) ∧
      ∃ x24 : ByteArray, BytesAt I1'' S1'' (slA (some ⟨b5, 0, none⟩) 24 0 1) (x17.toNat - 0) x24 ∧
      R (.string x24) I1'' S1''))
    (Runs Tryd.prog 85 #[.slice none 0 0, .int .u64 i_0, .int .i64 base_1, .bool false, .bool false] I S fun v_r3 I1_r3 S1_r3 => ∃ x28_0 x28_0n x28_0c x28_1, v_r3 = .tuple #[.slice x28_0 x28_0n x28_0c, .string x28_1] ∧
    R (.string x28_1) I1_r3 S1_r3)
theorem strconv_FormatUint_2_fn (R : Value → IMem → SH → Prop) (i_0 : Int) (base_1 : Int) (I : IMem) (S : SH) (h : strconv_FormatUint_2 R i_0 base_1 I S) :
    Runs Tryd.prog 95 #[.int .u64 i_0, .int .i64 base_1] I S R := by
  refine Runs.of_wp (args := [.int .u64 i_0, .int .i64 base_1]) (c := strconv_FormatUint_2_code) Tryd.func95 (by kernel_rfl) (by kernel_rfl) ?_
  exact Pre.sound _ _ _ _ _ (cast (by kernel_rfl) h)
/-! ### strconv_ParseInt: function 86, internal/strconv.ParseInt -/
noncomputable def strconv_ParseInt_code : Code := (Tryd.f86.body).getD .skip
def strconv_ParseInt_b11 (R : Value → IMem → SH → Prop) (n_11 : Int) (I : IMem) (S : SH) : Prop :=
  R (.tuple #[.int .i64 n_11, .nilIface]) I S
def strconv_ParseInt_b10 (R : Value → IMem → SH → Prop) (neg_8 : Bool) (un_9 : Int) (I : IMem) (S : SH) : Prop :=
  bcase neg_8
    (strconv_ParseInt_b11 R (IntKind.wrap .i64 (0 - (IntKind.wrap .i64 un_9))) I S)
    (strconv_ParseInt_b11 R (IntKind.wrap .i64 un_9) I S)
def strconv_ParseInt_b9 (R : Value → IMem → SH → Prop) (neg_8 : Bool) (un_9 : Int) (cutoff_10 : Int) (x62 : Bool) (I : IMem) (S : SH) : Prop :=
  bcase x62
    (R (.tuple #[.int .i64 (IntKind.wrap .i64 (0 - (IntKind.wrap .i64 cutoff_10))), (.iface 142 (.int .i64 1))]) I S)
    (strconv_ParseInt_b10 R neg_8 un_9 I S)
def strconv_ParseInt_b8 (R : Value → IMem → SH → Prop) (neg_8 : Bool) (un_9 : Int) (cutoff_10 : Int) (I : IMem) (S : SH) : Prop :=
  bcase neg_8
    (strconv_ParseInt_b9 R neg_8 un_9 cutoff_10 (decide (un_9 > cutoff_10)) I S)
    (strconv_ParseInt_b9 R neg_8 un_9 cutoff_10 false I S)
def strconv_ParseInt_b7 (R : Value → IMem → SH → Prop) (neg_8 : Bool) (un_9 : Int) (cutoff_10 : Int) (x52 : Bool) (I : IMem) (S : SH) : Prop :=
  bcase x52
    (R (.tuple #[.int .i64 (IntKind.wrap .i64 (IntKind.wrap .u64 (cutoff_10 - (1 : Int)))), (.iface 142 (.int .i64 1))]) I S)
    (strconv_ParseInt_b8 R neg_8 un_9 cutoff_10 I S)
def strconv_ParseInt_b6 (R : Value → IMem → SH → Prop) (neg_8 : Bool) (un_9 : Int) (cutoff_10 : Int) (I : IMem) (S : SH) : Prop :=
  bcase (!neg_8)
    (strconv_ParseInt_b7 R neg_8 un_9 cutoff_10 (decide (un_9 ≥ cutoff_10)) I S)
    (strconv_ParseInt_b7 R neg_8 un_9 cutoff_10 false I S)
def strconv_ParseInt_b5 (R : Value → IMem → SH → Prop) (bitSize_2 : Int) (neg_8 : Bool) (un_9 : Int) (I : IMem) (S : SH) : Prop :=
  bcase (decide ((IntKind.wrap .u64 (IntKind.wrap .i64 (bitSize_2 - (1 : Int)))) < 0)) False (strconv_ParseInt_b6 R neg_8 un_9 (IntKind.wrap .u64 ((1 : Int) * 2 ^ (min (IntKind.wrap .u64 (IntKind.wrap .i64 (bitSize_2 - (1 : Int)))).toNat (IntKind.bits .u64)))) I S)
def strconv_ParseInt_b4 (R : Value → IMem → SH → Prop) (bitSize_2 : Int) (neg_8 : Bool) (un_9 : Int) (I : IMem) (S : SH) : Prop :=
  bcase (bitSize_2 == (0 : Int))
    (strconv_ParseInt_b5 R 64 neg_8 un_9 I S)
    (strconv_ParseInt_b5 R bitSize_2 neg_8 un_9 I S)
def strconv_ParseInt_b3 (R : Value → IMem → SH → Prop) (bitSize_2 : Int) (err_7 : Value) (neg_8 : Bool) (un_9 : Int) (x38 : Bool) (I : IMem) (S : SH) : Prop :=
  bcase x38
    (R (.tuple #[.int .i64 0, err_7]) I S)
    (strconv_ParseInt_b4 R bitSize_2 neg_8 un_9 I S)
def strconv_ParseInt_b2 (R : Value → IMem → SH → Prop) (bitSize_2 : Int) (err_7 : Value) (neg_8 : Bool) (un_9 : Int) (I : IMem) (S : SH) : Prop :=
  ∃ nl, isNilI err_7 = some nl ∧
  bcase (!nl)
    (∃ ei, eqI Tryd.prog err_7 142 (.int .i64 1) = some ei ∧
    strconv_ParseInt_b3 R bitSize_2 err_7 neg_8 un_9 (!ei) I S)
    (strconv_ParseInt_b3 R bitSize_2 err_7 neg_8 un_9 false I S)
def strconv_ParseInt_b1 (R : Value → IMem → SH → Prop) (s_0 : ByteArray) (base_1 : Int) (bitSize_2 : Int) (neg_8 : Bool) (I : IMem) (S : SH) : Prop :=
  Runs Tryd.prog 94 #[.string s_0, .int .i64 base_1, .int .i64 bitSize_2] I S fun v I1 S1 => ∃ x29_0 x29_1, v = .tuple #[.int .u64 x29_0, x29_1] ∧
  strconv_ParseInt_b2 R bitSize_2 x29_1 neg_8 x29_0 I1 S1
def strconv_ParseInt (R : Value → IMem → SH → Prop) (s_0 : ByteArray) (base_1 : Int) (bitSize_2 : Int) (I : IMem) (S : SH) : Prop :=
  bcase (s_0.toList == (⟨#[]⟩ : ByteArray).toList)
    (R (.tuple #[.int .i64 0, (.iface 142 (.int .i64 2))]) I S)
    (∃ cx16 : UInt8, (0 : Int) ≤ (0 : Int) ∧ s_0[(0 : Int).toNat]? = some cx16 ∧
    bcase ((cx16.toNat : Int) == (43 : Int))
      ((0 : Int) ≤ (1 : Int) ∧ (1 : Int) ≤ ((s_0.size : Nat) : Int) ∧
      strconv_ParseInt_b1 R (s_0.extract ((1 : Int).toNat) s_0.size) base_1 bitSize_2 false I S)
      (bcase ((cx16.toNat : Int) == (45 : Int))
        ((0 : Int) ≤ (1 : Int) ∧ (1 : Int) ≤ ((s_0.size : Nat) : Int) ∧
        strconv_ParseInt_b1 R (s_0.extract ((1 : Int).toNat) s_0.size) base_1 bitSize_2 true I S)
        (strconv_ParseInt_b1 R s_0 base_1 bitSize_2 false I S)))
theorem strconv_ParseInt_fn (R : Value → IMem → SH → Prop) (s_0 : ByteArray) (base_1 : Int) (bitSize_2 : Int) (I : IMem) (S : SH) (h : strconv_ParseInt R s_0 base_1 bitSize_2 I S) :
    Runs Tryd.prog 86 #[.string s_0, .int .i64 base_1, .int .i64 bitSize_2] I S R := by
  refine Runs.of_wp (args := [.string s_0, .int .i64 base_1, .int .i64 bitSize_2]) (c := strconv_ParseInt_code) Tryd.func86 (by kernel_rfl) (by kernel_rfl) ?_
  refine WP.cut 4 (fun l I S => asStr (l 0) fun s_0 => asI .i64 (l 1) fun base_1 => asI .i64 (l 2) fun bitSize_2 => asB (l 8) fun neg_8 => strconv_ParseInt_b1 R s_0 base_1 bitSize_2 neg_8 I S) (cast (by kernel_rfl) h) ?_
  clear h
  intro l I S _ h
  obtain ⟨s_0, e0, h⟩ := asStr_e h
  obtain ⟨base_1, e1, h⟩ := asI_e h
  obtain ⟨bitSize_2, e2, h⟩ := asI_e h
  obtain ⟨neg_8, e8, h⟩ := asB_e h
  rw [upd_eta e0, upd_eta e1, upd_eta e2, upd_eta e8]
  refine WP.cut 2 (fun l I S => asI .i64 (l 2) fun bitSize_2 => asV (l 7) fun err_7 => asB (l 8) fun neg_8 => asI .u64 (l 9) fun un_9 => strconv_ParseInt_b2 R bitSize_2 err_7 neg_8 un_9 I S) (cast (by kernel_rfl) h) ?_
  clear h
  intro l I S _ h
  obtain ⟨bitSize_2, e2, h⟩ := asI_e h
  obtain ⟨err_7, e7, h⟩ := asV_e h
  obtain ⟨neg_8, e8, h⟩ := asB_e h
  obtain ⟨un_9, e9, h⟩ := asI_e h
  rw [upd_eta e2, upd_eta e7, upd_eta e8, upd_eta e9]
  refine WP.seqY (by kernel_rfl) (fun l I S => asI .i64 (l 2) fun bitSize_2 => asB (l 8) fun neg_8 => asI .u64 (l 9) fun un_9 => strconv_ParseInt_b4 R bitSize_2 neg_8 un_9 I S) ?_ ?_
  ·
    refine WP.cut 1 (fun l I S => asI .i64 (l 2) fun bitSize_2 => asV (l 7) fun err_7 => asB (l 8) fun neg_8 => asI .u64 (l 9) fun un_9 => asB (l 38) fun x38 => strconv_ParseInt_b3 R bitSize_2 err_7 neg_8 un_9 x38 I S) (cast (by kernel_rfl) h) ?_
    clear h
    intro l I S _ h
    obtain ⟨bitSize_2, e2, h⟩ := asI_e h
    obtain ⟨err_7, e7, h⟩ := asV_e h
    obtain ⟨neg_8, e8, h⟩ := asB_e h
    obtain ⟨un_9, e9, h⟩ := asI_e h
    obtain ⟨x38, e38, h⟩ := asB_e h
    rw [upd_eta e2, upd_eta e7, upd_eta e8, upd_eta e9, upd_eta e38]
    exact Pre.sound _ _ _ _ _ (cast (by kernel_rfl) h)
  · clear h
    intro l I S _ h
    obtain ⟨bitSize_2, e2, h⟩ := asI_e h
    obtain ⟨neg_8, e8, h⟩ := asB_e h
    obtain ⟨un_9, e9, h⟩ := asI_e h
    rw [upd_eta e2, upd_eta e8, upd_eta e9]
    refine WP.cut 1 (fun l I S => asI .i64 (l 2) fun bitSize_2 => asB (l 8) fun neg_8 => asI .u64 (l 9) fun un_9 => strconv_ParseInt_b5 R bitSize_2 neg_8 un_9 I S) (cast (by kernel_rfl) h) ?_
    clear h
    intro l I S _ h
    obtain ⟨bitSize_2, e2, h⟩ := asI_e h
    obtain ⟨neg_8, e8, h⟩ := asB_e h
    obtain ⟨un_9, e9, h⟩ := asI_e h
    rw [upd_eta e2, upd_eta e8, upd_eta e9]
    refine WP.cut 1 (fun l I S => asB (l 8) fun neg_8 => asI .u64 (l 9) fun un_9 => asI .u64 (l 10) fun cutoff_10 => strconv_ParseInt_b6 R neg_8 un_9 cutoff_10 I S) (cast (by kernel_rfl) h) ?_
    clear h
    intro l I S _ h
    obtain ⟨neg_8, e8, h⟩ := asB_e h
    obtain ⟨un_9, e9, h⟩ := asI_e h
    obtain ⟨cutoff_10, e10, h⟩ := asI_e h
    rw [upd_eta e8, upd_eta e9, upd_eta e10]
    refine WP.seqY (by kernel_rfl) (fun l I S => asB (l 8) fun neg_8 => asI .u64 (l 9) fun un_9 => asI .u64 (l 10) fun cutoff_10 => strconv_ParseInt_b8 R neg_8 un_9 cutoff_10 I S) ?_ ?_
    ·
      refine WP.cut 1 (fun l I S => asB (l 8) fun neg_8 => asI .u64 (l 9) fun un_9 => asI .u64 (l 10) fun cutoff_10 => asB (l 52) fun x52 => strconv_ParseInt_b7 R neg_8 un_9 cutoff_10 x52 I S) (cast (by kernel_rfl) h) ?_
      clear h
      intro l I S _ h
      obtain ⟨neg_8, e8, h⟩ := asB_e h
      obtain ⟨un_9, e9, h⟩ := asI_e h
      obtain ⟨cutoff_10, e10, h⟩ := asI_e h
      obtain ⟨x52, e52, h⟩ := asB_e h
      rw [upd_eta e8, upd_eta e9, upd_eta e10, upd_eta e52]
      exact Pre.sound _ _ _ _ _ (cast (by kernel_rfl) h)
    · clear h
      intro l I S _ h
      obtain ⟨neg_8, e8, h⟩ := asB_e h
      obtain ⟨un_9, e9, h⟩ := asI_e h
      obtain ⟨cutoff_10, e10, h⟩ := asI_e h
      rw [upd_eta e8, upd_eta e9, upd_eta e10]
      refine WP.seqY (by kernel_rfl) (fun l I S => asB (l 8) fun neg_8 => asI .u64 (l 9) fun un_9 => strconv_ParseInt_b10 R neg_8 un_9 I S) ?_ ?_
      ·
        refine WP.cut 1 (fun l I S => asB (l 8) fun neg_8 => asI .u64 (l 9) fun un_9 => asI .u64 (l 10) fun cutoff_10 => asB (l 62) fun x62 => strconv_ParseInt_b9 R neg_8 un_9 cutoff_10 x62 I S) (cast (by kernel_rfl) h) ?_
        clear h
        intro l I S _ h
        obtain ⟨neg_8, e8, h⟩ := asB_e h
        obtain ⟨un_9, e9, h⟩ := asI_e h
        obtain ⟨cutoff_10, e10, h⟩ := asI_e h
        obtain ⟨x62, e62, h⟩ := asB_e h
        rw [upd_eta e8, upd_eta e9, upd_eta e10, upd_eta e62]
        exact Pre.sound _ _ _ _ _ (cast (by kernel_rfl) h)
      · clear h
        intro l I S _ h
        obtain ⟨neg_8, e8, h⟩ := asB_e h
        obtain ⟨un_9, e9, h⟩ := asI_e h
        rw [upd_eta e8, upd_eta e9]
        refine WP.cut 2 (fun l I S => asI .i64 (l 11) fun n_11 => strconv_ParseInt_b11 R n_11 I S) (cast (by kernel_rfl) h) ?_
        clear h
        intro l I S _ h
        obtain ⟨n_11, e11, h⟩ := asI_e h
        rw [upd_eta e11]
        exact Pre.sound _ _ _ _ _ (cast (by kernel_rfl) h)
/-! ### strconv_syntaxError: function 87, strconv.syntaxError -/
noncomputable def strconv_syntaxError_code : Code := (Tryd.f87.body).getD .skip
def strconv_syntaxError_b2 (R : Value → IMem → SH → Prop) (x4 : Option Addr) (I : IMem) (S : SH) : Prop :=
  R (.pointer x4) I S
def strconv_syntaxError_b1 (R : Value → IMem → SH → Prop) (fn_0 : ByteArray) (str_1 : ByteArray) (I : IMem) (S : SH) : Prop :=
  ∃ tx8 vx8, Cell I S ⟨1, 0, none⟩ (.iface tx8 vx8) ∧
  Runs Tryd.prog 101 #[.string str_1] I S fun v I1 S1 => ∃ x7, v = .string x7 ∧
  Keep I S I1 S1 ∧
  ∀ b10 : Nat,
  strconv_syntaxError_b2 R (some ⟨b10, 0, none⟩) I1 ((b10, .cells #[.string fn_0, .string x7, (.iface tx8 vx8)] 160 (0, 0)) :: S1)
def strconv_syntaxError (R : Value → IMem → SH → Prop) (fn_0 : ByteArray) (str_1 : ByteArray) (I : IMem) (S : SH) : Prop :=
  strconv_syntaxError_b1 R fn_0 str_1 I S
theorem strconv_syntaxError_fn (R : Value → IMem → SH → Prop) (fn_0 : ByteArray) (str_1 : ByteArray) (I : IMem) (S : SH) (h : strconv_syntaxError R fn_0 str_1 I S) :
    Runs Tryd.prog 87 #[.string fn_0, .string str_1] I S R := by
  refine Runs.of_wp (args := [.string fn_0, .string str_1]) (c := strconv_syntaxError_code) Tryd.func87 (by kernel_rfl) (by kernel_rfl) ?_
  refine WP.cut 1 (fun l I S => asStr (l 0) fun fn_0 => asStr (l 1) fun str_1 => strconv_syntaxError_b1 R fn_0 str_1 I S) (cast (by kernel_rfl) h) ?_
  clear h
  intro l I S _ h
  obtain ⟨fn_0, e0, h⟩ := asStr_e h
  obtain ⟨str_1, e1, h⟩ := asStr_e h
  rw [upd_eta e0, upd_eta e1]
  refine WP.seqY (by kernel_rfl) (fun l I S => asPtr (l 4) fun x4 => strconv_syntaxError_b2 R x4 I S) ?_ ?_
  ·
    exact WP.draw' (.take 0 (.take 1 (.take 3 (.step 2 (.take 4 (.step 5 (.take 6 .done))))))) [2, 5] (by kernel_rfl) (by kernel_rfl) (by kernel_rfl) (by kernel_rfl) (by kernel_rfl) (cast (by kernel_rfl) h)
  · clear h
    intro l I S _ h
    obtain ⟨x4, e4, h⟩ := asPtr_e h
    rw [upd_eta e4]
    exact Pre.sound _ _ _ _ _ (cast (by kernel_rfl) h)
/-! ### strconv_rangeError: function 88, strconv.rangeError -/
noncomputable def strconv_rangeError_code : Code := (Tryd.f88.body).getD .skip
def strconv_rangeError_b2 (R : Value → IMem → SH → Prop) (x4 : Option Addr) (I : IMem) (S : SH) : Prop :=
  R (.pointer x4) I S
def strconv_rangeError_b1 (R : Value → IMem → SH → Prop) (fn_0 : ByteArray) (str_1 : ByteArray) (I : IMem) (S : SH) : Prop :=
  ∃ tx8 vx8, Cell I S ⟨2, 0, none⟩ (.iface tx8 vx8) ∧
  Runs Tryd.prog 101 #[.string str_1] I S fun v I1 S1 => ∃ x7, v = .string x7 ∧
  Keep I S I1 S1 ∧
  ∀ b10 : Nat,
  strconv_rangeError_b2 R (some ⟨b10, 0, none⟩) I1 ((b10, .cells #[.string fn_0, .string x7, (.iface tx8 vx8)] 160 (0, 0)) :: S1)
def strconv_rangeError (R : Value → IMem → SH → Prop) (fn_0 : ByteArray) (str_1 : ByteArray) (I : IMem) (S : SH) : Prop :=
  strconv_rangeError_b1 R fn_0 str_1 I S
theorem strconv_rangeError_fn (R : Value → IMem → SH → Prop) (fn_0 : ByteArray) (str_1 : ByteArray) (I : IMem) (S : SH) (h : strconv_rangeError R fn_0 str_1 I S) :
    Runs Tryd.prog 88 #[.string fn_0, .string str_1] I S R := by
  refine Runs.of_wp (args := [.string fn_0, .string str_1]) (c := strconv_rangeError_code) Tryd.func88 (by kernel_rfl) (by kernel_rfl) ?_
  refine WP.cut 1 (fun l I S => asStr (l 0) fun fn_0 => asStr (l 1) fun str_1 => strconv_rangeError_b1 R fn_0 str_1 I S) (cast (by kernel_rfl) h) ?_
  clear h
  intro l I S _ h
  obtain ⟨fn_0, e0, h⟩ := asStr_e h
  obtain ⟨str_1, e1, h⟩ := asStr_e h
  rw [upd_eta e0, upd_eta e1]
  refine WP.seqY (by kernel_rfl) (fun l I S => asPtr (l 4) fun x4 => strconv_rangeError_b2 R x4 I S) ?_ ?_
  ·
    exact WP.draw' (.take 0 (.take 1 (.take 3 (.step 2 (.take 4 (.step 5 (.take 6 .done))))))) [2, 5] (by kernel_rfl) (by kernel_rfl) (by kernel_rfl) (by kernel_rfl) (by kernel_rfl) (cast (by kernel_rfl) h)
  · clear h
    intro l I S _ h
    obtain ⟨x4, e4, h⟩ := asPtr_e h
    rw [upd_eta e4]
    exact Pre.sound _ _ _ _ _ (cast (by kernel_rfl) h)
/-! ### stringslite_Clone: function 101, internal/stringslite.Clone -/
noncomputable def stringslite_Clone_code : Code := (Tryd.f101.body).getD .skip
def stringslite_Clone (R : Value → IMem → SH → Prop) (s_0 : ByteArray) (I : IMem) (S : SH) : Prop :=
  bcase ((s_0.size : Int) == (0 : Int))
    (R (.string ⟨#[]⟩) I S)
    ((0 : Int) ≤ (s_0.size : Int) ∧ (s_0.size : Int) ≤ (s_0.size : Int) ∧ (s_0.size : Int) ≤ 9223372036854775807 ∧ (1 : Int) * (s_0.size : Int) ≤ 281474976710656 ∧ ∀ b9 : Nat,
    CpyP 1 I ((b9, .cells (repV (s_0.size : Int).toNat [.int .u8 0]).toArray 5 (0, 0)) :: S) (.slice (some ⟨b9, 0, none⟩) ((s_0.size : Int).toNat) ((s_0.size : Int).toNat)) (.string s_0) fun x12 S1 =>
    ptrP (some ⟨b9, 0, none⟩) fun x14 => (0 : Int) ≤ (0 : Int) ∧ (0 : Int) < ((s_0.size : Int).toNat : Int) ∧
    UsP Tryd.prog 5 I S1 (some (x14.add ((0 : Int).toNat * 1))) (((s_0.size : Int).toNat : Nat) : Int) fun x17 S1' =>
    R (.string x17) I S1')
theorem stringslite_Clone_fn (R : Value → IMem → SH → Prop) (s_0 : ByteArray) (I : IMem) (S : SH) (h : stringslite_Clone R s_0 I S) :
    Runs Tryd.prog 101 #[.string s_0] I S R := by
  refine Runs.of_wp (args := [.string s_0]) (c := stringslite_Clone_code) Tryd.func101 (by kernel_rfl) (by kernel_rfl) ?_
  exact Pre.sound _ _ _ _ _ (cast (by kernel_rfl) h)
/-! ### strconv_lower: function 103, internal/strconv.lower -/
noncomputable def strconv_lower_code : Code := (Tryd.f103.body).getD .skip
def strconv_lower (R : Value → IMem → SH → Prop) (c_0 : Int) (I : IMem) (S : SH) : Prop :=
  R (.int .u8 (ior .u8 c_0 (32 : Int))) I S
theorem strconv_lower_fn (R : Value → IMem → SH → Prop) (c_0 : Int) (I : IMem) (S : SH) (h : strconv_lower R c_0 I S) :
    Runs Tryd.prog 103 #[.int .u8 c_0] I S R := by
  refine Runs.of_wp (args := [.int .u8 c_0]) (c := strconv_lower_code) Tryd.func103 (by kernel_rfl) (by kernel_rfl) ?_
  exact Pre.sound _ _ _ _ _ (cast (by kernel_rfl) h)
/-! ### bits_Mul: function 74, math/bits.Mul -/
noncomputable def bits_Mul_code : Code := (Tryd.f74.body).getD .skip
def bits_Mul (R : Value → IMem → SH → Prop) (x_0 : Int) (y_1 : Int) (I : IMem) (S : SH) : Prop :=
  Runs Tryd.prog 92 #[.int .u64 x_0, .int .u64 y_1] I S fun v I1 S1 => ∃ x25_0 x25_1, v = .tuple #[.int .u64 x25_0, .int .u64 x25_1] ∧
  R (.tuple #[.int .u64 x25_0, .int .u64 x25_1]) I1 S1
theorem bits_Mul_fn (R : Value → IMem → SH → Prop) (x_0 : Int) (y_1 : Int) (I : IMem) (S : SH) (h : bits_Mul R x_0 y_1 I S) :
    Runs Tryd.prog 74 #[.int .u64 x_0, .int .u64 y_1] I S R := by
  refine Runs.of_wp (args := [.int .u64 x_0, .int .u64 y_1]) (c := bits_Mul_code) Tryd.func74 (by kernel_rfl) (by kernel_rfl) ?_
  exact Pre.sound _ _ _ _ _ (cast (by kernel_rfl) h)
end Go.Proofs.YtkagfmlaolmdnaaDoor
