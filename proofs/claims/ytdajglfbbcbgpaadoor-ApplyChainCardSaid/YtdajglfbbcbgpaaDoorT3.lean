import Derived.Test.YtdajglfbbcbgpaaDoorProg
import Derived.Test.YtdajglfbbcbgpaaDoorPx6
set_option linter.unusedVariables false
set_option maxRecDepth 8000
namespace Go.Proofs.YtdajglfbbcbgpaaDoor
open Go.Px
/-! ### bolterlaw08_ZoneInsert: function 3, bolter/bolterlaw08.ZoneInsert -/
noncomputable def bolterlaw08_ZoneInsert_code : Code := (Tryd.f3.body).getD .skip
def bolterlaw08_ZoneInsert_b6 (again5 : Option Addr → Nat → Nat → Option Addr → Nat → Nat → Addr → Addr → Bool → Option Addr → Nat → Nat → Int → Int → IMem → SH → Prop) (R : Value → IMem → SH → Prop) (rs_7 : Option Addr) (rs_7n : Nat) (rs_7c : Nat) (z_8 : Option Addr) (z_8n : Nat) (z_8c : Nat) (r_9 : Addr) (s_10 : Addr) (had_11 : Bool) (x32 : Option Addr) (x32n : Nat) (x32c : Nat) (x33 : Int) (x34 : Int) (I : IMem) (S : SH) : Prop :=
  again5 rs_7 rs_7n rs_7c z_8 z_8n z_8c r_9 s_10 had_11 x32 x32n x32c x33 (IntKind.wrap .i64 (x34 + (1 : Int))) I S
def bolterlaw08_ZoneInsert_b16 (again15 : Option Addr → Nat → Nat → Option Addr → Nat → Nat → Addr → Option Addr → Nat → Nat → Value → Option Addr → Nat → Nat → Bool → Option Addr → Nat → Nat → Int → Int → IMem → SH → Prop) (R : Value → IMem → SH → Prop) (rs_7 : Option Addr) (rs_7n : Nat) (rs_7c : Nat) (z_8 : Option Addr) (z_8n : Nat) (z_8c : Nat) (s_10 : Addr) (out_16 : Option Addr) (out_16n : Nat) (out_16c : Nat) (f_17 : Value) (rest_18 : Option Addr) (rest_18n : Nat) (rest_18c : Nat) (is_19 : Bool) (x94 : Option Addr) (x94n : Nat) (x94c : Nat) (x95 : Int) (x96 : Int) (I : IMem) (S : SH) : Prop :=
  again15 rs_7 rs_7n rs_7c z_8 z_8n z_8c s_10 out_16 out_16n out_16c f_17 rest_18 rest_18n rest_18c is_19 x94 x94n x94c x95 (IntKind.wrap .i64 (x96 + (1 : Int))) I S
def bolterlaw08_ZoneInsert_b19 (R : Value → IMem → SH → Prop) (x6 : Bool) (I : IMem) (S : SH) : Prop :=
  R (.bool x6) I S
def bolterlaw08_ZoneInsert_b21 (R : Value → IMem → SH → Prop) (x6 : Bool) (I : IMem) (S : SH) : Prop :=
  R (.bool x6) I S
def bolterlaw08_ZoneInsert_b20 (R : Value → IMem → SH → Prop) (rs_7 : Option Addr) (rs_7n : Nat) (rs_7c : Nat) (z_8 : Option Addr) (z_8n : Nat) (z_8c : Nat) (out_16 : Option Addr) (out_16n : Nat) (out_16c : Nat) (f_17 : Value) (rest_18 : Option Addr) (rest_18n : Nat) (rest_18c : Nat) (I : IMem) (S : SH) : Prop :=
  ∃ nl, isNilI f_17 = some nl ∧
  bcase nl
    (Runs Tryd.prog 16 #[.slice out_16 out_16n out_16c, .slice rest_18 rest_18n rest_18c] I S fun v I1 S1 => ∃ x123, v = .bool x123 ∧
    bcase x123
      (Runs Tryd.prog 11 #[.slice rs_7 rs_7n rs_7c] I1 S1 fun v' I1' S1' => ∃ x128 x128n x128c, v' = .slice x128 x128n x128c ∧
      Runs Tryd.prog 16 #[.slice z_8 z_8n z_8c, .slice x128 x128n x128c] I1' S1' fun v'' I1'' S1'' => ∃ x129, v'' = .bool x129 ∧
      bolterlaw08_ZoneInsert_b21 R x129 I1'' S1'')
      (bolterlaw08_ZoneInsert_b21 R false I1 S1))
    (bolterlaw08_ZoneInsert_b21 R false I S)
def bolterlaw08_ZoneInsert_b18 (R : Value → IMem → SH → Prop) (rs_7 : Option Addr) (rs_7n : Nat) (rs_7c : Nat) (z_8 : Option Addr) (z_8n : Nat) (z_8c : Nat) (out_16 : Option Addr) (out_16n : Nat) (out_16c : Nat) (f_17 : Value) (rest_18 : Option Addr) (rest_18n : Nat) (rest_18c : Nat) (x109 : Bool) (I : IMem) (S : SH) : Prop :=
  bcase x109
    (bcase ((out_16n : Int) == (0 : Int))
      (Runs Tryd.prog 15 #[f_17] I S fun v I1 S1 => ∃ x115, v = .int .i64 x115 ∧
      bolterlaw08_ZoneInsert_b19 R (x115 == (6 : Int)) I1 S1)
      (bolterlaw08_ZoneInsert_b19 R false I S))
    (bolterlaw08_ZoneInsert_b20 R rs_7 rs_7n rs_7c z_8 z_8n z_8c out_16 out_16n out_16c f_17 rest_18 rest_18n rest_18c I S)
def bolterlaw08_ZoneInsert_b17 (R : Value → IMem → SH → Prop) (rs_7 : Option Addr) (rs_7n : Nat) (rs_7c : Nat) (z_8 : Option Addr) (z_8n : Nat) (z_8c : Nat) (out_16 : Option Addr) (out_16n : Nat) (out_16c : Nat) (f_17 : Value) (rest_18 : Option Addr) (rest_18n : Nat) (rest_18c : Nat) (is_19 : Bool) (I : IMem) (S : SH) : Prop :=
  bolterlaw08_ZoneInsert_b18 R rs_7 rs_7n rs_7c z_8 z_8n z_8c out_16 out_16n out_16c f_17 rest_18 rest_18n rest_18c (!is_19) I S
def bolterlaw08_ZoneInsert_l15 (again15 : Option Addr → Nat → Nat → Option Addr → Nat → Nat → Addr → Option Addr → Nat → Nat → Value → Option Addr → Nat → Nat → Bool → Option Addr → Nat → Nat → Int → Int → IMem → SH → Prop) (R : Value → IMem → SH → Prop) (rs_7 : Option Addr) (rs_7n : Nat) (rs_7c : Nat) (z_8 : Option Addr) (z_8n : Nat) (z_8c : Nat) (s_10 : Addr) (out_16 : Option Addr) (out_16n : Nat) (out_16c : Nat) (f_17 : Value) (rest_18 : Option Addr) (rest_18n : Nat) (rest_18c : Nat) (is_19 : Bool) (x94 : Option Addr) (x94n : Nat) (x94c : Nat) (x95 : Int) (x96 : Int) (I : IMem) (S : SH) : Prop :=
  bcase (decide (x96 < x95))
    (ptrP x94 fun x98 => (0 : Int) ≤ x96 ∧ x96 < (x94n : Int) ∧
    ∃ x99_0, Cell I S (x98.add (x96.toNat * 4)) (.string x99_0) ∧
    ∃ x99_1, Cell I S ((x98.add (x96.toNat * 4)).add 1) (.int .u16 x99_1) ∧
    ∃ x99_2, Cell I S ((x98.add (x96.toNat * 4)).add 2) (.int .u32 x99_2) ∧
    ∃ x99_3, Cell I S ((x98.add (x96.toNat * 4)).add 3) (.string x99_3) ∧
    ∀ b21 : Nat,
    StP ((b21, .cells #[.string ⟨#[]⟩, .int .u16 0, .int .u32 0, .string ⟨#[]⟩] 36 (0, 0)) :: S) ⟨b21, 0, none⟩ [.string x99_0, .int .u16 x99_1, .int .u32 x99_2, .string x99_3] fun S1 =>
    ∃ x100_0, Cell I S1 ⟨b21, 0, none⟩ (.string x100_0) ∧
    ∃ x100_1, Cell I S1 ⟨b21, 1, none⟩ (.int .u16 x100_1) ∧
    ∃ x100_2, Cell I S1 ⟨b21, 2, none⟩ (.int .u32 x100_2) ∧
    ∃ x100_3, Cell I S1 ⟨b21, 3, none⟩ (.string x100_3) ∧
    ∃ x101_0, Cell I S1 s_10 (.string x101_0) ∧
    ∃ x101_1, Cell I S1 (s_10.add 1) (.int .u16 x101_1) ∧
    ∃ x101_2, Cell I S1 (s_10.add 2) (.int .u32 x101_2) ∧
    ∃ x101_3, Cell I S1 (s_10.add 3) (.string x101_3) ∧
    bcase (((x100_0 : ByteArray) == (x101_0 : ByteArray)) && (((x100_1 : Int) == (x101_1 : Int)) && (((x100_2 : Int) == (x101_2 : Int)) && (((x100_3 : ByteArray) == (x101_3 : ByteArray)) && true))))
      (bolterlaw08_ZoneInsert_b16 again15 R rs_7 rs_7n rs_7c z_8 z_8n z_8c s_10 out_16 out_16n out_16c f_17 rest_18 rest_18n rest_18c true x94 x94n x94c x95 x96 I S1)
      (∃ x104_0, Cell I S1 ⟨b21, 0, none⟩ (.string x104_0) ∧
      ∃ x104_1, Cell I S1 ⟨b21, 1, none⟩ (.int .u16 x104_1) ∧
      ∃ x104_2, Cell I S1 ⟨b21, 2, none⟩ (.int .u32 x104_2) ∧
      ∃ x104_3, Cell I S1 ⟨b21, 3, none⟩ (.string x104_3) ∧
      ∀ b105 : Nat,
      AppG 36 4 40 [.string ⟨#[]⟩, .int .u16 0, .int .u32 0, .string ⟨#[]⟩] (some (.slice 36)) I ((b105, .cells #[.string x104_0, .int .u16 x104_1, .int .u32 x104_2, .string x104_3] 36 (0, 0)) :: S1) (.slice rest_18 rest_18n rest_18c) (.slice (some ⟨b105, 0, none⟩) 1 1) fun x106 x106n x106c S1' =>
      bolterlaw08_ZoneInsert_b16 again15 R rs_7 rs_7n rs_7c z_8 z_8n z_8c s_10 out_16 out_16n out_16c f_17 x106 x106n x106c is_19 x94 x94n x94c x95 x96 I S1'))
    (bolterlaw08_ZoneInsert_b17 R rs_7 rs_7n rs_7c z_8 z_8n z_8c out_16 out_16n out_16c f_17 rest_18 rest_18n rest_18c is_19 I S)
def bolterlaw08_ZoneInsert_b14 (R : Value → IMem → SH → Prop) (rs_7 : Option Addr) (rs_7n : Nat) (rs_7c : Nat) (z_8 : Option Addr) (z_8n : Nat) (z_8c : Nat) (s_10 : Addr) (out_16 : Option Addr) (out_16n : Nat) (out_16c : Nat) (f_17 : Value) (rest_18 : Option Addr) (rest_18n : Nat) (rest_18c : Nat) (is_19 : Bool) (x94 : Option Addr) (x94n : Nat) (x94c : Nat) (x95 : Int) (x96 : Int) (I : IMem) (S : SH) : Prop :=
  ∃ (Inv : Nat → Option Addr → Nat → Nat → Option Addr → Nat → Nat → Addr → Option Addr → Nat → Nat → Value → Option Addr → Nat → Nat → Bool → Option Addr → Nat → Nat → Int → Int → IMem → SH → Prop) (m : Nat), Inv m rs_7 rs_7n rs_7c z_8 z_8n z_8c s_10 out_16 out_16n out_16c f_17 rest_18 rest_18n rest_18c is_19 x94 x94n x94c x95 x96 I S ∧
    ∀ (m : Nat) (rs_7 : Option Addr) (rs_7n : Nat) (rs_7c : Nat) (z_8 : Option Addr) (z_8n : Nat) (z_8c : Nat) (s_10 : Addr) (out_16 : Option Addr) (out_16n : Nat) (out_16c : Nat) (f_17 : Value) (rest_18 : Option Addr) (rest_18n : Nat) (rest_18c : Nat) (is_19 : Bool) (x94 : Option Addr) (x94n : Nat) (x94c : Nat) (x95 : Int) (x96 : Int) (J : IMem) (T : SH), I.le J → Inv m rs_7 rs_7n rs_7c z_8 z_8n z_8c s_10 out_16 out_16n out_16c f_17 rest_18 rest_18n rest_18c is_19 x94 x94n x94c x95 x96 J T →
      bolterlaw08_ZoneInsert_l15 (fun rs_7 rs_7n rs_7c z_8 z_8n z_8c s_10 out_16 out_16n out_16c f_17 rest_18 rest_18n rest_18c is_19 x94 x94n x94c x95 x96 I S => ∃ m', m' < m ∧ Inv m' rs_7 rs_7n rs_7c z_8 z_8n z_8c s_10 out_16 out_16n out_16c f_17 rest_18 rest_18n rest_18c is_19 x94 x94n x94c x95 x96 I S) R rs_7 rs_7n rs_7c z_8 z_8n z_8c s_10 out_16 out_16n out_16c f_17 rest_18 rest_18n rest_18c is_19 x94 x94n x94c x95 x96 J T
def bolterlaw08_ZoneInsert_b13 (R : Value → IMem → SH → Prop) (rs_7 : Option Addr) (rs_7n : Nat) (rs_7c : Nat) (z_8 : Option Addr) (z_8n : Nat) (z_8c : Nat) (s_10 : Addr) (out_16 : Option Addr) (out_16n : Nat) (out_16c : Nat) (f_17 : Value) (rest_18 : Option Addr) (rest_18n : Nat) (rest_18c : Nat) (is_19 : Bool) (I : IMem) (S : SH) : Prop :=
  bolterlaw08_ZoneInsert_b14 R rs_7 rs_7n rs_7c z_8 z_8n z_8c s_10 out_16 out_16n out_16c f_17 rest_18 rest_18n rest_18c is_19 z_8 z_8n z_8c (z_8n : Int) 0 I S
def bolterlaw08_ZoneInsert_b12 (R : Value → IMem → SH → Prop) (rs_7 : Option Addr) (rs_7n : Nat) (rs_7c : Nat) (z_8 : Option Addr) (z_8n : Nat) (z_8c : Nat) (s_10 : Addr) (I : IMem) (S : SH) : Prop :=
  ∃ x90_0, Cell I S s_10 (.string x90_0) ∧
  ∃ x90_1, Cell I S (s_10.add 1) (.int .u16 x90_1) ∧
  ∃ x90_2, Cell I S (s_10.add 2) (.int .u32 x90_2) ∧
  ∃ x90_3, Cell I S (s_10.add 3) (.string x90_3) ∧
  Runs Tryd.prog 17 #[.slice z_8 z_8n z_8c, .agg #[.string x90_0, .int .u16 x90_1, .int .u32 x90_2, .string x90_3]] I S fun v I1 S1 => ∃ x91_0 x91_0n x91_0c x91_1, v = .tuple #[.slice x91_0 x91_0n x91_0c, x91_1] ∧
  bolterlaw08_ZoneInsert_b13 R rs_7 rs_7n rs_7c z_8 z_8n z_8c s_10 x91_0 x91_0n x91_0c x91_1 none 0 0 false I1 S1
def bolterlaw08_ZoneInsert_b11 (R : Value → IMem → SH → Prop) (rs_7 : Option Addr) (rs_7n : Nat) (rs_7c : Nat) (z_8 : Option Addr) (z_8n : Nat) (z_8c : Nat) (s_10 : Addr) (x87 : Bool) (I : IMem) (S : SH) : Prop :=
  bcase x87
    (R (.bool false) I S)
    (bolterlaw08_ZoneInsert_b12 R rs_7 rs_7n rs_7c z_8 z_8n z_8c s_10 I S)
def bolterlaw08_ZoneInsert_b10 (R : Value → IMem → SH → Prop) (rs_7 : Option Addr) (rs_7n : Nat) (rs_7c : Nat) (z_8 : Option Addr) (z_8n : Nat) (z_8c : Nat) (r_9 : Addr) (s_10 : Addr) (had_11 : Bool) (in_14 : Option Addr) (in_14n : Nat) (in_14c : Nat) (e_15 : Value) (I : IMem) (S : SH) : Prop :=
  bcase (!had_11)
    (∃ nl, isNilI e_15 = some nl ∧
    bcase (!nl)
      ((Keep I S I S ∧
      bolterlaw08_ZoneInsert_b11 R rs_7 rs_7n rs_7c z_8 z_8n z_8c s_10 true I S) ∧
      (Keep I S I S ∧
      bolterlaw08_ZoneInsert_b11 R rs_7 rs_7n rs_7c z_8 z_8n z_8c s_10 true I S))
      (∃ x80_0, Cell I S r_9 (.string x80_0) ∧
      ∃ x80_1, Cell I S (r_9.add 1) (.int .u16 x80_1) ∧
      ∃ x80_2, Cell I S (r_9.add 2) (.int .u32 x80_2) ∧
      ∃ x80_3, Cell I S (r_9.add 3) (.string x80_3) ∧
      (AppG 36 4 40 [.string ⟨#[]⟩, .int .u16 0, .int .u32 0, .string ⟨#[]⟩] (some (.slice 36)) I S (.slice none 0 0) (.slice rs_7 rs_7n rs_7c) fun x79 x79n x79c S1 =>
      Keep I S I S1 ∧
      ∀ b81 : Nat,
      AppG 36 4 40 [.string ⟨#[]⟩, .int .u16 0, .int .u32 0, .string ⟨#[]⟩] (some (.slice 36)) I ((b81, .cells #[.string x80_0, .int .u16 x80_1, .int .u32 x80_2, .string x80_3] 36 (0, 0)) :: S1) (.slice x79 x79n x79c) (.slice (some ⟨b81, 0, none⟩) 1 1) fun x82 x82n x82c S1' =>
      Runs Tryd.prog 11 #[.slice x82 x82n x82c] I S1' fun v I1 S1'' => ∃ x83 x83n x83c, v = .slice x83 x83n x83c ∧
      Runs Tryd.prog 16 #[.slice in_14 in_14n in_14c, .slice x83 x83n x83c] I1 S1'' fun v' I1' S1_r3 => ∃ x84, v' = .bool x84 ∧
      bolterlaw08_ZoneInsert_b11 R rs_7 rs_7n rs_7c z_8 z_8n z_8c s_10 (!x84) I1' S1_r3) ∧
      (∀ b81' : Nat,
      AppG 36 4 40 [.string ⟨#[]⟩, .int .u16 0, .int .u32 0, .string ⟨#[]⟩] (some (.slice 36)) I ((b81', .cells #[.string x80_0, .int .u16 x80_1, .int .u32 x80_2, .string x80_3] 36 (0, 0)) :: S) (.slice none 0 0) (.slice rs_7 rs_7n rs_7c) fun x79' x79'n x79'c S1_r4 =>
      Keep I S I S1_r4 ∧
      AppG 36 4 40 [.string ⟨#[]⟩, .int .u16 0, .int .u32 0, .string ⟨#[]⟩] (some (.slice 36)) I S1_r4 (.slice x79' x79'n x79'c) (.slice (some ⟨b81', 0, none⟩) 1 1) fun x82' x82'n x82'c S1_r5 =>
      Runs Tryd.prog 11 #[.slice x82' x82'n x82'c] I S1_r5 fun v'' I1'' S1_r6 => ∃ x83' x83'n x83'c, v'' = .slice x83' x83'n x83'c ∧
      Runs Tryd.prog 16 #[.slice in_14 in_14n in_14c, .slice x83' x83'n x83'c] I1'' S1_r6 fun v_r3 I1_r3 S1_r7 => ∃ x84', v_r3 = .bool x84' ∧
      bolterlaw08_ZoneInsert_b11 R rs_7 rs_7n rs_7c z_8 z_8n z_8c s_10 (!x84') I1_r3 S1_r7)))
    ((Keep I S I S ∧
    bolterlaw08_ZoneInsert_b11 R rs_7 rs_7n rs_7c z_8 z_8n z_8c s_10 false I S) ∧
    (Keep I S I S ∧
    bolterlaw08_ZoneInsert_b11 R rs_7 rs_7n rs_7c z_8 z_8n z_8c s_10 false I S))
def bolterlaw08_ZoneInsert_b9 (R : Value → IMem → SH → Prop) (rs_7 : Option Addr) (rs_7n : Nat) (rs_7c : Nat) (z_8 : Option Addr) (z_8n : Nat) (z_8c : Nat) (r_9 : Addr) (s_10 : Addr) (had_11 : Bool) (in_14 : Option Addr) (in_14n : Nat) (in_14c : Nat) (e_15 : Value) (x70 : Bool) (I : IMem) (S : SH) : Prop :=
  bcase x70
    (R (.bool false) I S)
    (bolterlaw08_ZoneInsert_b10 R rs_7 rs_7n rs_7c z_8 z_8n z_8c r_9 s_10 had_11 in_14 in_14n in_14c e_15 I S)
def bolterlaw08_ZoneInsert_b8 (R : Value → IMem → SH → Prop) (rs_7 : Option Addr) (rs_7n : Nat) (rs_7c : Nat) (z_8 : Option Addr) (z_8n : Nat) (z_8c : Nat) (r_9 : Addr) (s_10 : Addr) (had_11 : Bool) (in_14 : Option Addr) (in_14n : Nat) (in_14c : Nat) (e_15 : Value) (I : IMem) (S : SH) : Prop :=
  ∃ x52_0, Cell I S r_9 (.string x52_0) ∧
  ∃ x52_1, Cell I S (r_9.add 1) (.int .u16 x52_1) ∧
  ∃ x52_2, Cell I S (r_9.add 2) (.int .u32 x52_2) ∧
  ∃ x52_3, Cell I S (r_9.add 3) (.string x52_3) ∧
  Runs Tryd.prog 14 #[.slice z_8 z_8n z_8c, .agg #[.string x52_0, .int .u16 x52_1, .int .u32 x52_2, .string x52_3]] I S fun v I1 S1 => ∃ x53, v = .bool x53 ∧
  bcase (!(x53 == had_11))
    (bolterlaw08_ZoneInsert_b9 R rs_7 rs_7n rs_7c z_8 z_8n z_8c r_9 s_10 had_11 in_14 in_14n in_14c e_15 true I1 S1)
    (Runs Tryd.prog 15 #[e_15] I1 S1 fun v' I1' S1' => ∃ x59, v' = .int .i64 x59 ∧
    bcase (!(had_11 == (x59 == (7 : Int))))
      (bolterlaw08_ZoneInsert_b9 R rs_7 rs_7n rs_7c z_8 z_8n z_8c r_9 s_10 had_11 in_14 in_14n in_14c e_15 true I1' S1')
      (bcase had_11
        (bolterlaw08_ZoneInsert_b9 R rs_7 rs_7n rs_7c z_8 z_8n z_8c r_9 s_10 had_11 in_14 in_14n in_14c e_15 ((in_14n : Int) != (0 : Int)) I1' S1')
        (bolterlaw08_ZoneInsert_b9 R rs_7 rs_7n rs_7c z_8 z_8n z_8c r_9 s_10 had_11 in_14 in_14n in_14c e_15 false I1' S1')))
def bolterlaw08_ZoneInsert_b7 (R : Value → IMem → SH → Prop) (rs_7 : Option Addr) (rs_7n : Nat) (rs_7c : Nat) (z_8 : Option Addr) (z_8n : Nat) (z_8c : Nat) (r_9 : Addr) (s_10 : Addr) (had_11 : Bool) (I : IMem) (S : SH) : Prop :=
  ∃ x47_0, Cell I S r_9 (.string x47_0) ∧
  ∃ x47_1, Cell I S (r_9.add 1) (.int .u16 x47_1) ∧
  ∃ x47_2, Cell I S (r_9.add 2) (.int .u32 x47_2) ∧
  ∃ x47_3, Cell I S (r_9.add 3) (.string x47_3) ∧
  Runs Tryd.prog 13 #[.slice z_8 z_8n z_8c, .agg #[.string x47_0, .int .u16 x47_1, .int .u32 x47_2, .string x47_3]] I S fun v I1 S1 => ∃ x48_0 x48_0n x48_0c x48_1, v = .tuple #[.slice x48_0 x48_0n x48_0c, x48_1] ∧
  bolterlaw08_ZoneInsert_b8 R rs_7 rs_7n rs_7c z_8 z_8n z_8c r_9 s_10 had_11 x48_0 x48_0n x48_0c x48_1 I1 S1
def bolterlaw08_ZoneInsert_l5 (again5 : Option Addr → Nat → Nat → Option Addr → Nat → Nat → Addr → Addr → Bool → Option Addr → Nat → Nat → Int → Int → IMem → SH → Prop) (R : Value → IMem → SH → Prop) (rs_7 : Option Addr) (rs_7n : Nat) (rs_7c : Nat) (z_8 : Option Addr) (z_8n : Nat) (z_8c : Nat) (r_9 : Addr) (s_10 : Addr) (had_11 : Bool) (x32 : Option Addr) (x32n : Nat) (x32c : Nat) (x33 : Int) (x34 : Int) (I : IMem) (S : SH) : Prop :=
  bcase (decide (x34 < x33))
    (ptrP x32 fun x36 => (0 : Int) ≤ x34 ∧ x34 < (x32n : Int) ∧
    ∃ x37_0, Cell I S (x36.add (x34.toNat * 4)) (.string x37_0) ∧
    ∃ x37_1, Cell I S ((x36.add (x34.toNat * 4)).add 1) (.int .u16 x37_1) ∧
    ∃ x37_2, Cell I S ((x36.add (x34.toNat * 4)).add 2) (.int .u32 x37_2) ∧
    ∃ x37_3, Cell I S ((x36.add (x34.toNat * 4)).add 3) (.string x37_3) ∧
    ∀ b13 : Nat,
    StP ((b13, .cells #[.string ⟨#[]⟩, .int .u16 0, .int .u32 0, .string ⟨#[]⟩] 36 (0, 0)) :: S) ⟨b13, 0, none⟩ [.string x37_0, .int .u16 x37_1, .int .u32 x37_2, .string x37_3] fun S1 =>
    bcase had_11
      (bolterlaw08_ZoneInsert_b6 again5 R rs_7 rs_7n rs_7c z_8 z_8n z_8c r_9 s_10 true x32 x32n x32c x33 x34 I S1)
      (∃ x40_0, Cell I S1 ⟨b13, 0, none⟩ (.string x40_0) ∧
      ∃ x40_1, Cell I S1 ⟨b13, 1, none⟩ (.int .u16 x40_1) ∧
      ∃ x40_2, Cell I S1 ⟨b13, 2, none⟩ (.int .u32 x40_2) ∧
      ∃ x40_3, Cell I S1 ⟨b13, 3, none⟩ (.string x40_3) ∧
      ∃ x41_0, Cell I S1 r_9 (.string x41_0) ∧
      ∃ x41_1, Cell I S1 (r_9.add 1) (.int .u16 x41_1) ∧
      ∃ x41_2, Cell I S1 (r_9.add 2) (.int .u32 x41_2) ∧
      ∃ x41_3, Cell I S1 (r_9.add 3) (.string x41_3) ∧
      bolterlaw08_ZoneInsert_b6 again5 R rs_7 rs_7n rs_7c z_8 z_8n z_8c r_9 s_10 (((x40_0 : ByteArray) == (x41_0 : ByteArray)) && (((x40_1 : Int) == (x41_1 : Int)) && (((x40_2 : Int) == (x41_2 : Int)) && (((x40_3 : ByteArray) == (x41_3 : ByteArray)) && true)))) x32 x32n x32c x33 x34 I S1))
    (bolterlaw08_ZoneInsert_b7 R rs_7 rs_7n rs_7c z_8 z_8n z_8c r_9 s_10 had_11 I S)
def bolterlaw08_ZoneInsert_b4 (R : Value → IMem → SH → Prop) (rs_7 : Option Addr) (rs_7n : Nat) (rs_7c : Nat) (z_8 : Option Addr) (z_8n : Nat) (z_8c : Nat) (r_9 : Addr) (s_10 : Addr) (had_11 : Bool) (x32 : Option Addr) (x32n : Nat) (x32c : Nat) (x33 : Int) (x34 : Int) (I : IMem) (S : SH) : Prop :=
  ∃ (Inv : Nat → Option Addr → Nat → Nat → Option Addr → Nat → Nat → Addr → Addr → Bool → Option Addr → Nat → Nat → Int → Int → IMem → SH → Prop) (m : Nat), Inv m rs_7 rs_7n rs_7c z_8 z_8n z_8c r_9 s_10 had_11 x32 x32n x32c x33 x34 I S ∧
    ∀ (m : Nat) (rs_7 : Option Addr) (rs_7n : Nat) (rs_7c : Nat) (z_8 : Option Addr) (z_8n : Nat) (z_8c : Nat) (r_9 : Addr) (s_10 : Addr) (had_11 : Bool) (x32 : Option Addr) (x32n : Nat) (x32c : Nat) (x33 : Int) (x34 : Int) (J : IMem) (T : SH), I.le J → Inv m rs_7 rs_7n rs_7c z_8 z_8n z_8c r_9 s_10 had_11 x32 x32n x32c x33 x34 J T →
      bolterlaw08_ZoneInsert_l5 (fun rs_7 rs_7n rs_7c z_8 z_8n z_8c r_9 s_10 had_11 x32 x32n x32c x33 x34 I S => ∃ m', m' < m ∧ Inv m' rs_7 rs_7n rs_7c z_8 z_8n z_8c r_9 s_10 had_11 x32 x32n x32c x33 x34 I S) R rs_7 rs_7n rs_7c z_8 z_8n z_8c r_9 s_10 had_11 x32 x32n x32c x33 x34 J T
def bolterlaw08_ZoneInsert_b3 (R : Value → IMem → SH → Prop) (rs_7 : Option Addr) (rs_7n : Nat) (rs_7c : Nat) (z_8 : Option Addr) (z_8n : Nat) (z_8c : Nat) (r_9 : Addr) (s_10 : Addr) (had_11 : Bool) (I : IMem) (S : SH) : Prop :=
  bolterlaw08_ZoneInsert_b4 R rs_7 rs_7n rs_7c z_8 z_8n z_8c r_9 s_10 had_11 rs_7 rs_7n rs_7c (rs_7n : Int) 0 I S
def bolterlaw08_ZoneInsert_b2 (R : Value → IMem → SH → Prop) (rs_7 : Option Addr) (rs_7n : Nat) (rs_7c : Nat) (z_8 : Option Addr) (z_8n : Nat) (z_8c : Nat) (r_9 : Addr) (s_10 : Addr) (I : IMem) (S : SH) : Prop :=
  bolterlaw08_ZoneInsert_b3 R rs_7 rs_7n rs_7c z_8 z_8n z_8c r_9 s_10 false I S
def bolterlaw08_ZoneInsert_b1 (R : Value → IMem → SH → Prop) (a_4 : Addr) (b_5 : Addr) (rs_7 : Option Addr) (rs_7n : Nat) (rs_7c : Nat) (z_8 : Option Addr) (z_8n : Nat) (z_8c : Nat) (I : IMem) (S : SH) : Prop :=
  ∃ x28_0 x28_0n x28_0c, Cell I S a_4 (.slice x28_0 x28_0n x28_0c) ∧
  ∃ x28_1, Cell I S (a_4.add 1) (.int .u8 x28_1) ∧
  ∃ x28_2, Cell I S (a_4.add 2) (.int .u32 x28_2) ∧
  ∃ x28_3 x28_3n x28_3c, Cell I S (a_4.add 3) (.slice x28_3 x28_3n x28_3c) ∧
  ∃ x28_4, Cell I S (a_4.add 4) (.string x28_4) ∧
  ∃ x29_0 x29_1 x29_2 x29_3, (∀ J T, I.le J → Runs Tryd.prog 12 #[.agg #[.slice x28_0 x28_0n x28_0c, .int .u8 x28_1, .int .u32 x28_2, .slice x28_3 x28_3n x28_3c, .string x28_4]] J (T ++ S) (fun v' _ T' => v' = .agg #[.string x29_0, .int .u16 x29_1, .int .u32 x29_2, .string x29_3] ∧ T' = T ++ S)) ∧
  ∃ x30_0 x30_0n x30_0c, Cell I S b_5 (.slice x30_0 x30_0n x30_0c) ∧
  ∃ x30_1, Cell I S (b_5.add 1) (.int .u8 x30_1) ∧
  ∃ x30_2, Cell I S (b_5.add 2) (.int .u32 x30_2) ∧
  ∃ x30_3 x30_3n x30_3c, Cell I S (b_5.add 3) (.slice x30_3 x30_3n x30_3c) ∧
  ∃ x30_4, Cell I S (b_5.add 4) (.string x30_4) ∧
  ∃ x31_0 x31_1 x31_2 x31_3, (∀ J T, I.le J → Runs Tryd.prog 12 #[.agg #[.slice x30_0 x30_0n x30_0c, .int .u8 x30_1, .int .u32 x30_2, .slice x30_3 x30_3n x30_3c, .string x30_4]] J (T ++ S) (fun v' _ T' => v' = .agg #[.string x31_0, .int .u16 x31_1, .int .u32 x31_2, .string x31_3] ∧ T' = T ++ S)) ∧
  (∀ b9 : Nat,
  Keep I S I ((b9, .cells #[.string ⟨#[]⟩, .int .u16 0, .int .u32 0, .string ⟨#[]⟩] 36 (0, 0)) :: S) ∧
  ∀ b10 : Nat,
  Keep I S I ((b10, .cells #[.string ⟨#[]⟩, .int .u16 0, .int .u32 0, .string ⟨#[]⟩] 36 (0, 0)) :: ((b9, .cells #[.string ⟨#[]⟩, .int .u16 0, .int .u32 0, .string ⟨#[]⟩] 36 (0, 0)) :: S)) ∧
  StP ((b10, .cells #[.string ⟨#[]⟩, .int .u16 0, .int .u32 0, .string ⟨#[]⟩] 36 (0, 0)) :: ((b9, .cells #[.string ⟨#[]⟩, .int .u16 0, .int .u32 0, .string ⟨#[]⟩] 36 (0, 0)) :: S)) ⟨b9, 0, none⟩ [.string x29_0, .int .u16 x29_1, .int .u32 x29_2, .string x29_3] fun S1 =>
  StP S1 ⟨b10, 0, none⟩ [.string x31_0, .int .u16 x31_1, .int .u32 x31_2, .string x31_3] fun S1' =>
  bolterlaw08_ZoneInsert_b2 R rs_7 rs_7n rs_7c z_8 z_8n z_8c ⟨b9, 0, none⟩ ⟨b10, 0, none⟩ I S1') ∧
  (∀ b10' : Nat,
  Keep I S I ((b10', .cells #[.string ⟨#[]⟩, .int .u16 0, .int .u32 0, .string ⟨#[]⟩] 36 (0, 0)) :: S) ∧
  ∀ b9' : Nat,
  Keep I S I ((b9', .cells #[.string ⟨#[]⟩, .int .u16 0, .int .u32 0, .string ⟨#[]⟩] 36 (0, 0)) :: ((b10', .cells #[.string ⟨#[]⟩, .int .u16 0, .int .u32 0, .string ⟨#[]⟩] 36 (0, 0)) :: S)) ∧
  StP ((b9', .cells #[.string ⟨#[]⟩, .int .u16 0, .int .u32 0, .string ⟨#[]⟩] 36 (0, 0)) :: ((b10', .cells #[.string ⟨#[]⟩, .int .u16 0, .int .u32 0, .string ⟨#[]⟩] 36 (0, 0)) :: S)) ⟨b9', 0, none⟩ [.string x29_0, .int .u16 x29_1, .int .u32 x29_2, .string x29_3] fun S1'' =>
  StP S1'' ⟨b10', 0, none⟩ [.string x31_0, .int .u16 x31_1, .int .u32 x31_2, .string x31_3] fun S1_r3 =>
  bolterlaw08_ZoneInsert_b2 R rs_7 rs_7n rs_7c z_8 z_8n z_8c ⟨b9', 0, none⟩ ⟨b10', 0, none⟩ I S1_r3)
def bolterlaw08_ZoneInsert (R : Value → IMem → SH → Prop) (as_0 : Option Addr) (as_0n : Nat) (as_0c : Nat) (a_1_0 : Option Addr) (a_1_0n : Nat) (a_1_0c : Nat) (a_1_1 : Int) (a_1_2 : Int) (a_1_3 : Option Addr) (a_1_3n : Nat) (a_1_3c : Nat) (a_1_4 : ByteArray) (b_2_0 : Option Addr) (b_2_0n : Nat) (b_2_0c : Nat) (b_2_1 : Int) (b_2_2 : Int) (b_2_3 : Option Addr) (b_2_3n : Nat) (b_2_3c : Nat) (b_2_4 : ByteArray) (I : IMem) (S : SH) : Prop :=
  ∀ b4 : Nat,
  ∀ b5 : Nat,
  Runs Tryd.prog 9 #[] I ((b5, .cells #[.slice b_2_0 b_2_0n b_2_0c, .int .u8 b_2_1, .int .u32 b_2_2, .slice b_2_3 b_2_3n b_2_3c, .string b_2_4] 26 (0, 0)) :: ((b4, .cells #[.slice a_1_0 a_1_0n a_1_0c, .int .u8 a_1_1, .int .u32 a_1_2, .slice a_1_3 a_1_3n a_1_3c, .string a_1_4] 26 (0, 0)) :: S)) fun v I1 S1 => ∃ x22, v = .bool x22 ∧
  bcase (!x22)
    (R (.bool false) I1 S1)
    (Runs Tryd.prog 10 #[.slice as_0 as_0n as_0c, .int .i64 40] I1 S1 fun v' I1' S1' => ∃ x25 x25n x25c, v' = .slice x25 x25n x25c ∧
    Runs Tryd.prog 11 #[.slice x25 x25n x25c] I1' S1' fun v'' I1'' S1'' => ∃ x27 x27n x27c, v'' = .slice x27 x27n x27c ∧
    bolterlaw08_ZoneInsert_b1 R ⟨b4, 0, none⟩ ⟨b5, 0, none⟩ x25 x25n x25c x27 x27n x27c I1'' S1'')
theorem bolterlaw08_ZoneInsert_fn (R : Value → IMem → SH → Prop) (as_0 : Option Addr) (as_0n : Nat) (as_0c : Nat) (a_1_0 : Option Addr) (a_1_0n : Nat) (a_1_0c : Nat) (a_1_1 : Int) (a_1_2 : Int) (a_1_3 : Option Addr) (a_1_3n : Nat) (a_1_3c : Nat) (a_1_4 : ByteArray) (b_2_0 : Option Addr) (b_2_0n : Nat) (b_2_0c : Nat) (b_2_1 : Int) (b_2_2 : Int) (b_2_3 : Option Addr) (b_2_3n : Nat) (b_2_3c : Nat) (b_2_4 : ByteArray) (I : IMem) (S : SH) (h : bolterlaw08_ZoneInsert R as_0 as_0n as_0c a_1_0 a_1_0n a_1_0c a_1_1 a_1_2 a_1_3 a_1_3n a_1_3c a_1_4 b_2_0 b_2_0n b_2_0c b_2_1 b_2_2 b_2_3 b_2_3n b_2_3c b_2_4 I S) :
    Runs Tryd.prog 3 #[.slice as_0 as_0n as_0c, .agg #[.slice a_1_0 a_1_0n a_1_0c, .int .u8 a_1_1, .int .u32 a_1_2, .slice a_1_3 a_1_3n a_1_3c, .string a_1_4], .agg #[.slice b_2_0 b_2_0n b_2_0c, .int .u8 b_2_1, .int .u32 b_2_2, .slice b_2_3 b_2_3n b_2_3c, .string b_2_4]] I S R := by
  refine Runs.of_wp (args := [.slice as_0 as_0n as_0c, .agg #[.slice a_1_0 a_1_0n a_1_0c, .int .u8 a_1_1, .int .u32 a_1_2, .slice a_1_3 a_1_3n a_1_3c, .string a_1_4], .agg #[.slice b_2_0 b_2_0n b_2_0c, .int .u8 b_2_1, .int .u32 b_2_2, .slice b_2_3 b_2_3n b_2_3c, .string b_2_4]]) (c := bolterlaw08_ZoneInsert_code) Tryd.func3 (by kernel_rfl) (by kernel_rfl) ?_
  refine WP.cut 4 (fun l I S => asAdr (l 4) fun a_4 => asAdr (l 5) fun b_5 => asSl (l 7) fun rs_7 rs_7n rs_7c => asSl (l 8) fun z_8 z_8n z_8c => bolterlaw08_ZoneInsert_b1 R a_4 b_5 rs_7 rs_7n rs_7c z_8 z_8n z_8c I S) (cast (by kernel_rfl) h) ?_
  clear h
  intro l I S _ h
  obtain ⟨a_4, e4, h⟩ := asAdr_e h
  obtain ⟨b_5, e5, h⟩ := asAdr_e h
  obtain ⟨rs_7, rs_7n, rs_7c, e7, h⟩ := asSl_e h
  obtain ⟨z_8, z_8n, z_8c, e8, h⟩ := asSl_e h
  rw [upd_eta e4, upd_eta e5, upd_eta e7, upd_eta e8]
  refine WP.seqY (by kernel_rfl) (fun l I S => asSl (l 7) fun rs_7 rs_7n rs_7c => asSl (l 8) fun z_8 z_8n z_8c => asAdr (l 9) fun r_9 => asAdr (l 10) fun s_10 => bolterlaw08_ZoneInsert_b2 R rs_7 rs_7n rs_7c z_8 z_8n z_8c r_9 s_10 I S) ?_ ?_
  ·
    exact WP.draw' (.take 0 (.take 1 (.take 2 (.take 3 (.fork 4 (.step 5 (.step 6 (.step 7 .done))) 5 (.step 4 (.step 6 (.step 7 .done)))))))) [4, 5, 6, 7] (by kernel_rfl) (by kernel_rfl) (by kernel_rfl) (by kernel_rfl) (by kernel_rfl) (cast (by kernel_rfl) h)
  · clear h
    intro l I S _ h
    obtain ⟨rs_7, rs_7n, rs_7c, e7, h⟩ := asSl_e h
    obtain ⟨z_8, z_8n, z_8c, e8, h⟩ := asSl_e h
    obtain ⟨r_9, e9, h⟩ := asAdr_e h
    obtain ⟨s_10, e10, h⟩ := asAdr_e h
    rw [upd_eta e7, upd_eta e8, upd_eta e9, upd_eta e10]
    refine WP.cut 1 (fun l I S => asSl (l 7) fun rs_7 rs_7n rs_7c => asSl (l 8) fun z_8 z_8n z_8c => asAdr (l 9) fun r_9 => asAdr (l 10) fun s_10 => asB (l 11) fun had_11 => bolterlaw08_ZoneInsert_b3 R rs_7 rs_7n rs_7c z_8 z_8n z_8c r_9 s_10 had_11 I S) (cast (by kernel_rfl) h) ?_
    clear h
    intro l I S _ h
    obtain ⟨rs_7, rs_7n, rs_7c, e7, h⟩ := asSl_e h
    obtain ⟨z_8, z_8n, z_8c, e8, h⟩ := asSl_e h
    obtain ⟨r_9, e9, h⟩ := asAdr_e h
    obtain ⟨s_10, e10, h⟩ := asAdr_e h
    obtain ⟨had_11, e11, h⟩ := asB_e h
    rw [upd_eta e7, upd_eta e8, upd_eta e9, upd_eta e10, upd_eta e11]
    refine WP.seqY (by kernel_rfl) (fun l I S => asSl (l 7) fun rs_7 rs_7n rs_7c => asSl (l 8) fun z_8 z_8n z_8c => asAdr (l 9) fun r_9 => asAdr (l 10) fun s_10 => asB (l 11) fun had_11 => bolterlaw08_ZoneInsert_b7 R rs_7 rs_7n rs_7c z_8 z_8n z_8c r_9 s_10 had_11 I S) ?_ ?_
    ·
      refine WP.cut 1 (fun l I S => asSl (l 7) fun rs_7 rs_7n rs_7c => asSl (l 8) fun z_8 z_8n z_8c => asAdr (l 9) fun r_9 => asAdr (l 10) fun s_10 => asB (l 11) fun had_11 => asSl (l 32) fun x32 x32n x32c => asI .i64 (l 33) fun x33 => asI .i64 (l 34) fun x34 => bolterlaw08_ZoneInsert_b4 R rs_7 rs_7n rs_7c z_8 z_8n z_8c r_9 s_10 had_11 x32 x32n x32c x33 x34 I S) (cast (by kernel_rfl) h) ?_
      clear h
      intro l I S _ h
      obtain ⟨rs_7, rs_7n, rs_7c, e7, h⟩ := asSl_e h
      obtain ⟨z_8, z_8n, z_8c, e8, h⟩ := asSl_e h
      obtain ⟨r_9, e9, h⟩ := asAdr_e h
      obtain ⟨s_10, e10, h⟩ := asAdr_e h
      obtain ⟨had_11, e11, h⟩ := asB_e h
      obtain ⟨x32, x32n, x32c, e32, h⟩ := asSl_e h
      obtain ⟨x33, e33, h⟩ := asI_e h
      obtain ⟨x34, e34, h⟩ := asI_e h
      rw [upd_eta e7, upd_eta e8, upd_eta e9, upd_eta e10, upd_eta e11, upd_eta e32, upd_eta e33, upd_eta e34]
      refine WP.block' (by kernel_rfl) ?_
      obtain ⟨Inv_again5, m_again5, h0, hr⟩ := h
      refine WP.loop' (by kernel_rfl) (fun m_again5 => fun l I S => asSl (l 7) fun rs_7 rs_7n rs_7c => asSl (l 8) fun z_8 z_8n z_8c => asAdr (l 9) fun r_9 => asAdr (l 10) fun s_10 => asB (l 11) fun had_11 => asSl (l 32) fun x32 x32n x32c => asI .i64 (l 33) fun x33 => asI .i64 (l 34) fun x34 => Inv_again5 m_again5 rs_7 rs_7n rs_7c z_8 z_8n z_8c r_9 s_10 had_11 x32 x32n x32c x33 x34 I S) m_again5 (cast (by kernel_rfl) h0) ?_
      clear h0
      intro m_again5 l I S hle h
      obtain ⟨rs_7, rs_7n, rs_7c, e7, h⟩ := asSl_e h
      obtain ⟨z_8, z_8n, z_8c, e8, h⟩ := asSl_e h
      obtain ⟨r_9, e9, h⟩ := asAdr_e h
      obtain ⟨s_10, e10, h⟩ := asAdr_e h
      obtain ⟨had_11, e11, h⟩ := asB_e h
      obtain ⟨x32, x32n, x32c, e32, h⟩ := asSl_e h
      obtain ⟨x33, e33, h⟩ := asI_e h
      obtain ⟨x34, e34, h⟩ := asI_e h
      rw [upd_eta e7, upd_eta e8, upd_eta e9, upd_eta e10, upd_eta e11, upd_eta e32, upd_eta e33, upd_eta e34]
      have h := hr m_again5 rs_7 rs_7n rs_7c z_8 z_8n z_8c r_9 s_10 had_11 x32 x32n x32c x33 x34 I S hle h
      clear hr hle
      refine WP.cut 3 (fun l I S => asSl (l 7) fun rs_7 rs_7n rs_7c => asSl (l 8) fun z_8 z_8n z_8c => asAdr (l 9) fun r_9 => asAdr (l 10) fun s_10 => asB (l 11) fun had_11 => asSl (l 32) fun x32 x32n x32c => asI .i64 (l 33) fun x33 => asI .i64 (l 34) fun x34 => bolterlaw08_ZoneInsert_b6 (fun rs_7 rs_7n rs_7c z_8 z_8n z_8c r_9 s_10 had_11 x32 x32n x32c x33 x34 I S => ∃ m', m' < m_again5 ∧ Inv_again5 m' rs_7 rs_7n rs_7c z_8 z_8n z_8c r_9 s_10 had_11 x32 x32n x32c x33 x34 I S) R rs_7 rs_7n rs_7c z_8 z_8n z_8c r_9 s_10 had_11 x32 x32n x32c x33 x34 I S) (cast (by kernel_rfl) h) ?_
      clear h
      intro l I S _ h
      obtain ⟨rs_7, rs_7n, rs_7c, e7, h⟩ := asSl_e h
      obtain ⟨z_8, z_8n, z_8c, e8, h⟩ := asSl_e h
      obtain ⟨r_9, e9, h⟩ := asAdr_e h
      obtain ⟨s_10, e10, h⟩ := asAdr_e h
      obtain ⟨had_11, e11, h⟩ := asB_e h
      obtain ⟨x32, x32n, x32c, e32, h⟩ := asSl_e h
      obtain ⟨x33, e33, h⟩ := asI_e h
      obtain ⟨x34, e34, h⟩ := asI_e h
      rw [upd_eta e7, upd_eta e8, upd_eta e9, upd_eta e10, upd_eta e11, upd_eta e32, upd_eta e33, upd_eta e34]
      exact Pre.sound _ _ _ _ _ (cast (by kernel_rfl) h)
    · clear h
      intro l I S _ h
      obtain ⟨rs_7, rs_7n, rs_7c, e7, h⟩ := asSl_e h
      obtain ⟨z_8, z_8n, z_8c, e8, h⟩ := asSl_e h
      obtain ⟨r_9, e9, h⟩ := asAdr_e h
      obtain ⟨s_10, e10, h⟩ := asAdr_e h
      obtain ⟨had_11, e11, h⟩ := asB_e h
      rw [upd_eta e7, upd_eta e8, upd_eta e9, upd_eta e10, upd_eta e11]
      refine WP.cut 1 (fun l I S => asSl (l 7) fun rs_7 rs_7n rs_7c => asSl (l 8) fun z_8 z_8n z_8c => asAdr (l 9) fun r_9 => asAdr (l 10) fun s_10 => asB (l 11) fun had_11 => asSl (l 14) fun in_14 in_14n in_14c => asV (l 15) fun e_15 => bolterlaw08_ZoneInsert_b8 R rs_7 rs_7n rs_7c z_8 z_8n z_8c r_9 s_10 had_11 in_14 in_14n in_14c e_15 I S) (cast (by kernel_rfl) h) ?_
      clear h
      intro l I S _ h
      obtain ⟨rs_7, rs_7n, rs_7c, e7, h⟩ := asSl_e h
      obtain ⟨z_8, z_8n, z_8c, e8, h⟩ := asSl_e h
      obtain ⟨r_9, e9, h⟩ := asAdr_e h
      obtain ⟨s_10, e10, h⟩ := asAdr_e h
      obtain ⟨had_11, e11, h⟩ := asB_e h
      obtain ⟨in_14, in_14n, in_14c, e14, h⟩ := asSl_e h
      obtain ⟨e_15, e15, h⟩ := asV_e h
      rw [upd_eta e7, upd_eta e8, upd_eta e9, upd_eta e10, upd_eta e11, upd_eta e14, upd_eta e15]
      refine WP.seqY (by kernel_rfl) (fun l I S => asSl (l 7) fun rs_7 rs_7n rs_7c => asSl (l 8) fun z_8 z_8n z_8c => asAdr (l 9) fun r_9 => asAdr (l 10) fun s_10 => asB (l 11) fun had_11 => asSl (l 14) fun in_14 in_14n in_14c => asV (l 15) fun e_15 => bolterlaw08_ZoneInsert_b10 R rs_7 rs_7n rs_7c z_8 z_8n z_8c r_9 s_10 had_11 in_14 in_14n in_14c e_15 I S) ?_ ?_
      ·
        refine WP.cut 1 (fun l I S => asSl (l 7) fun rs_7 rs_7n rs_7c => asSl (l 8) fun z_8 z_8n z_8c => asAdr (l 9) fun r_9 => asAdr (l 10) fun s_10 => asB (l 11) fun had_11 => asSl (l 14) fun in_14 in_14n in_14c => asV (l 15) fun e_15 => asB (l 70) fun x70 => bolterlaw08_ZoneInsert_b9 R rs_7 rs_7n rs_7c z_8 z_8n z_8c r_9 s_10 had_11 in_14 in_14n in_14c e_15 x70 I S) (cast (by kernel_rfl) h) ?_
        clear h
        intro l I S _ h
        obtain ⟨rs_7, rs_7n, rs_7c, e7, h⟩ := asSl_e h
        obtain ⟨z_8, z_8n, z_8c, e8, h⟩ := asSl_e h
        obtain ⟨r_9, e9, h⟩ := asAdr_e h
        obtain ⟨s_10, e10, h⟩ := asAdr_e h
        obtain ⟨had_11, e11, h⟩ := asB_e h
        obtain ⟨in_14, in_14n, in_14c, e14, h⟩ := asSl_e h
        obtain ⟨e_15, e15, h⟩ := asV_e h
        obtain ⟨x70, e70, h⟩ := asB_e h
        rw [upd_eta e7, upd_eta e8, upd_eta e9, upd_eta e10, upd_eta e11, upd_eta e14, upd_eta e15, upd_eta e70]
        exact Pre.sound _ _ _ _ _ (cast (by kernel_rfl) h)
      · clear h
        intro l I S _ h
        obtain ⟨rs_7, rs_7n, rs_7c, e7, h⟩ := asSl_e h
        obtain ⟨z_8, z_8n, z_8c, e8, h⟩ := asSl_e h
        obtain ⟨r_9, e9, h⟩ := asAdr_e h
        obtain ⟨s_10, e10, h⟩ := asAdr_e h
        obtain ⟨had_11, e11, h⟩ := asB_e h
        obtain ⟨in_14, in_14n, in_14c, e14, h⟩ := asSl_e h
        obtain ⟨e_15, e15, h⟩ := asV_e h
        rw [upd_eta e7, upd_eta e8, upd_eta e9, upd_eta e10, upd_eta e11, upd_eta e14, upd_eta e15]
        refine WP.seqY (by kernel_rfl) (fun l I S => asSl (l 7) fun rs_7 rs_7n rs_7c => asSl (l 8) fun z_8 z_8n z_8c => asAdr (l 10) fun s_10 => bolterlaw08_ZoneInsert_b12 R rs_7 rs_7n rs_7c z_8 z_8n z_8c s_10 I S) ?_ ?_
        ·
          refine WP.seqY (by kernel_rfl) (fun l I S => asSl (l 7) fun rs_7 rs_7n rs_7c => asSl (l 8) fun z_8 z_8n z_8c => asAdr (l 10) fun s_10 => asB (l 87) fun x87 => bolterlaw08_ZoneInsert_b11 R rs_7 rs_7n rs_7c z_8 z_8n z_8c s_10 x87 I S) ?_ ?_
          ·
            exact WP.draw' (.take 0 (.take 1 (.take 2 (.take 3 (.take 4 (.take 5 (.take 6 (.take 7 (.take 9 (.fork 8 (.step 10 (.step 11 (.step 12 (.step 13 (.take 14 (.take 15 (.take 16 .done))))))) 10 (.step 8 (.step 11 (.step 12 (.step 13 (.take 14 (.take 15 (.take 16 .done))))))))))))))))) [8, 10, 11, 12, 13] (by kernel_rfl) (by kernel_rfl) (by kernel_rfl) (by kernel_rfl) (by kernel_rfl) (cast (by kernel_rfl) h)
          · clear h
            intro l I S _ h
            obtain ⟨rs_7, rs_7n, rs_7c, e7, h⟩ := asSl_e h
            obtain ⟨z_8, z_8n, z_8c, e8, h⟩ := asSl_e h
            obtain ⟨s_10, e10, h⟩ := asAdr_e h
            obtain ⟨x87, e87, h⟩ := asB_e h
            rw [upd_eta e7, upd_eta e8, upd_eta e10, upd_eta e87]
            exact Pre.sound _ _ _ _ _ (cast (by kernel_rfl) h)
        · clear h
          intro l I S _ h
          obtain ⟨rs_7, rs_7n, rs_7c, e7, h⟩ := asSl_e h
          obtain ⟨z_8, z_8n, z_8c, e8, h⟩ := asSl_e h
          obtain ⟨s_10, e10, h⟩ := asAdr_e h
          rw [upd_eta e7, upd_eta e8, upd_eta e10]
          refine WP.cut 3 (fun l I S => asSl (l 7) fun rs_7 rs_7n rs_7c => asSl (l 8) fun z_8 z_8n z_8c => asAdr (l 10) fun s_10 => asSl (l 16) fun out_16 out_16n out_16c => asV (l 17) fun f_17 => asSl (l 18) fun rest_18 rest_18n rest_18c => asB (l 19) fun is_19 => bolterlaw08_ZoneInsert_b13 R rs_7 rs_7n rs_7c z_8 z_8n z_8c s_10 out_16 out_16n out_16c f_17 rest_18 rest_18n rest_18c is_19 I S) (cast (by kernel_rfl) h) ?_
          clear h
          intro l I S _ h
          obtain ⟨rs_7, rs_7n, rs_7c, e7, h⟩ := asSl_e h
          obtain ⟨z_8, z_8n, z_8c, e8, h⟩ := asSl_e h
          obtain ⟨s_10, e10, h⟩ := asAdr_e h
          obtain ⟨out_16, out_16n, out_16c, e16, h⟩ := asSl_e h
          obtain ⟨f_17, e17, h⟩ := asV_e h
          obtain ⟨rest_18, rest_18n, rest_18c, e18, h⟩ := asSl_e h
          obtain ⟨is_19, e19, h⟩ := asB_e h
          rw [upd_eta e7, upd_eta e8, upd_eta e10, upd_eta e16, upd_eta e17, upd_eta e18, upd_eta e19]
          refine WP.seqY (by kernel_rfl) (fun l I S => asSl (l 7) fun rs_7 rs_7n rs_7c => asSl (l 8) fun z_8 z_8n z_8c => asSl (l 16) fun out_16 out_16n out_16c => asV (l 17) fun f_17 => asSl (l 18) fun rest_18 rest_18n rest_18c => asB (l 19) fun is_19 => bolterlaw08_ZoneInsert_b17 R rs_7 rs_7n rs_7c z_8 z_8n z_8c out_16 out_16n out_16c f_17 rest_18 rest_18n rest_18c is_19 I S) ?_ ?_
          ·
            refine WP.cut 1 (fun l I S => asSl (l 7) fun rs_7 rs_7n rs_7c => asSl (l 8) fun z_8 z_8n z_8c => asAdr (l 10) fun s_10 => asSl (l 16) fun out_16 out_16n out_16c => asV (l 17) fun f_17 => asSl (l 18) fun rest_18 rest_18n rest_18c => asB (l 19) fun is_19 => asSl (l 94) fun x94 x94n x94c => asI .i64 (l 95) fun x95 => asI .i64 (l 96) fun x96 => bolterlaw08_ZoneInsert_b14 R rs_7 rs_7n rs_7c z_8 z_8n z_8c s_10 out_16 out_16n out_16c f_17 rest_18 rest_18n rest_18c is_19 x94 x94n x94c x95 x96 I S) (cast (by kernel_rfl) h) ?_
            clear h
            intro l I S _ h
            obtain ⟨rs_7, rs_7n, rs_7c, e7, h⟩ := asSl_e h
            obtain ⟨z_8, z_8n, z_8c, e8, h⟩ := asSl_e h
            obtain ⟨s_10, e10, h⟩ := asAdr_e h
            obtain ⟨out_16, out_16n, out_16c, e16, h⟩ := asSl_e h
            obtain ⟨f_17, e17, h⟩ := asV_e h
            obtain ⟨rest_18, rest_18n, rest_18c, e18, h⟩ := asSl_e h
            obtain ⟨is_19, e19, h⟩ := asB_e h
            obtain ⟨x94, x94n, x94c, e94, h⟩ := asSl_e h
            obtain ⟨x95, e95, h⟩ := asI_e h
            obtain ⟨x96, e96, h⟩ := asI_e h
            rw [upd_eta e7, upd_eta e8, upd_eta e10, upd_eta e16, upd_eta e17, upd_eta e18, upd_eta e19, upd_eta e94, upd_eta e95, upd_eta e96]
            refine WP.block' (by kernel_rfl) ?_
            obtain ⟨Inv_again15, m_again15, h0, hr⟩ := h
            refine WP.loop' (by kernel_rfl) (fun m_again15 => fun l I S => asSl (l 7) fun rs_7 rs_7n rs_7c => asSl (l 8) fun z_8 z_8n z_8c => asAdr (l 10) fun s_10 => asSl (l 16) fun out_16 out_16n out_16c => asV (l 17) fun f_17 => asSl (l 18) fun rest_18 rest_18n rest_18c => asB (l 19) fun is_19 => asSl (l 94) fun x94 x94n x94c => asI .i64 (l 95) fun x95 => asI .i64 (l 96) fun x96 => Inv_again15 m_again15 rs_7 rs_7n rs_7c z_8 z_8n z_8c s_10 out_16 out_16n out_16c f_17 rest_18 rest_18n rest_18c is_19 x94 x94n x94c x95 x96 I S) m_again15 (cast (by kernel_rfl) h0) ?_
            clear h0
            intro m_again15 l I S hle h
            obtain ⟨rs_7, rs_7n, rs_7c, e7, h⟩ := asSl_e h
            obtain ⟨z_8, z_8n, z_8c, e8, h⟩ := asSl_e h
            obtain ⟨s_10, e10, h⟩ := asAdr_e h
            obtain ⟨out_16, out_16n, out_16c, e16, h⟩ := asSl_e h
            obtain ⟨f_17, e17, h⟩ := asV_e h
            obtain ⟨rest_18, rest_18n, rest_18c, e18, h⟩ := asSl_e h
            obtain ⟨is_19, e19, h⟩ := asB_e h
            obtain ⟨x94, x94n, x94c, e94, h⟩ := asSl_e h
            obtain ⟨x95, e95, h⟩ := asI_e h
            obtain ⟨x96, e96, h⟩ := asI_e h
            rw [upd_eta e7, upd_eta e8, upd_eta e10, upd_eta e16, upd_eta e17, upd_eta e18, upd_eta e19, upd_eta e94, upd_eta e95, upd_eta e96]
            have h := hr m_again15 rs_7 rs_7n rs_7c z_8 z_8n z_8c s_10 out_16 out_16n out_16c f_17 rest_18 rest_18n rest_18c is_19 x94 x94n x94c x95 x96 I S hle h
            clear hr hle
            refine WP.cut 3 (fun l I S => asSl (l 7) fun rs_7 rs_7n rs_7c => asSl (l 8) fun z_8 z_8n z_8c => asAdr (l 10) fun s_10 => asSl (l 16) fun out_16 out_16n out_16c => asV (l 17) fun f_17 => asSl (l 18) fun rest_18 rest_18n rest_18c => asB (l 19) fun is_19 => asSl (l 94) fun x94 x94n x94c => asI .i64 (l 95) fun x95 => asI .i64 (l 96) fun x96 => bolterlaw08_ZoneInsert_b16 (fun rs_7 rs_7n rs_7c z_8 z_8n z_8c s_10 out_16 out_16n out_16c f_17 rest_18 rest_18n rest_18c is_19 x94 x94n x94c x95 x96 I S => ∃ m', m' < m_again15 ∧ Inv_again15 m' rs_7 rs_7n rs_7c z_8 z_8n z_8c s_10 out_16 out_16n out_16c f_17 rest_18 rest_18n rest_18c is_19 x94 x94n x94c x95 x96 I S) R rs_7 rs_7n rs_7c z_8 z_8n z_8c s_10 out_16 out_16n out_16c f_17 rest_18 rest_18n rest_18c is_19 x94 x94n x94c x95 x96 I S) (cast (by kernel_rfl) h) ?_
            clear h
            intro l I S _ h
            obtain ⟨rs_7, rs_7n, rs_7c, e7, h⟩ := asSl_e h
            obtain ⟨z_8, z_8n, z_8c, e8, h⟩ := asSl_e h
            obtain ⟨s_10, e10, h⟩ := asAdr_e h
            obtain ⟨out_16, out_16n, out_16c, e16, h⟩ := asSl_e h
            obtain ⟨f_17, e17, h⟩ := asV_e h
            obtain ⟨rest_18, rest_18n, rest_18c, e18, h⟩ := asSl_e h
            obtain ⟨is_19, e19, h⟩ := asB_e h
            obtain ⟨x94, x94n, x94c, e94, h⟩ := asSl_e h
            obtain ⟨x95, e95, h⟩ := asI_e h
            obtain ⟨x96, e96, h⟩ := asI_e h
            rw [upd_eta e7, upd_eta e8, upd_eta e10, upd_eta e16, upd_eta e17, upd_eta e18, upd_eta e19, upd_eta e94, upd_eta e95, upd_eta e96]
            exact Pre.sound _ _ _ _ _ (cast (by kernel_rfl) h)
          · clear h
            intro l I S _ h
            obtain ⟨rs_7, rs_7n, rs_7c, e7, h⟩ := asSl_e h
            obtain ⟨z_8, z_8n, z_8c, e8, h⟩ := asSl_e h
            obtain ⟨out_16, out_16n, out_16c, e16, h⟩ := asSl_e h
            obtain ⟨f_17, e17, h⟩ := asV_e h
            obtain ⟨rest_18, rest_18n, rest_18c, e18, h⟩ := asSl_e h
            obtain ⟨is_19, e19, h⟩ := asB_e h
            rw [upd_eta e7, upd_eta e8, upd_eta e16, upd_eta e17, upd_eta e18, upd_eta e19]
            refine WP.seqY (by kernel_rfl) (fun l I S => asSl (l 7) fun rs_7 rs_7n rs_7c => asSl (l 8) fun z_8 z_8n z_8c => asSl (l 16) fun out_16 out_16n out_16c => asV (l 17) fun f_17 => asSl (l 18) fun rest_18 rest_18n rest_18c => bolterlaw08_ZoneInsert_b20 R rs_7 rs_7n rs_7c z_8 z_8n z_8c out_16 out_16n out_16c f_17 rest_18 rest_18n rest_18c I S) ?_ ?_
            ·
              refine WP.cut 1 (fun l I S => asSl (l 7) fun rs_7 rs_7n rs_7c => asSl (l 8) fun z_8 z_8n z_8c => asSl (l 16) fun out_16 out_16n out_16c => asV (l 17) fun f_17 => asSl (l 18) fun rest_18 rest_18n rest_18c => asB (l 109) fun x109 => bolterlaw08_ZoneInsert_b18 R rs_7 rs_7n rs_7c z_8 z_8n z_8c out_16 out_16n out_16c f_17 rest_18 rest_18n rest_18c x109 I S) (cast (by kernel_rfl) h) ?_
              clear h
              intro l I S _ h
              obtain ⟨rs_7, rs_7n, rs_7c, e7, h⟩ := asSl_e h
              obtain ⟨z_8, z_8n, z_8c, e8, h⟩ := asSl_e h
              obtain ⟨out_16, out_16n, out_16c, e16, h⟩ := asSl_e h
              obtain ⟨f_17, e17, h⟩ := asV_e h
              obtain ⟨rest_18, rest_18n, rest_18c, e18, h⟩ := asSl_e h
              obtain ⟨x109, e109, h⟩ := asB_e h
              rw [upd_eta e7, upd_eta e8, upd_eta e16, upd_eta e17, upd_eta e18, upd_eta e109]
              refine WP.cond' (by kernel_rfl) (by kernel_rfl) h ?_ ?_
              · clear h
                intro h
                refine WP.cut 1 (fun l I S => asB (l 6) fun x6 => bolterlaw08_ZoneInsert_b19 R x6 I S) (cast (by kernel_rfl) h) ?_
                clear h
                intro l I S _ h
                obtain ⟨x6, e6, h⟩ := asB_e h
                rw [upd_eta e6]
                exact Pre.sound _ _ _ _ _ (cast (by kernel_rfl) h)
              · clear h
                intro h
                exact Pre.sound _ _ _ _ _ (cast (by kernel_rfl) h)
            · clear h
              intro l I S _ h
              obtain ⟨rs_7, rs_7n, rs_7c, e7, h⟩ := asSl_e h
              obtain ⟨z_8, z_8n, z_8c, e8, h⟩ := asSl_e h
              obtain ⟨out_16, out_16n, out_16c, e16, h⟩ := asSl_e h
              obtain ⟨f_17, e17, h⟩ := asV_e h
              obtain ⟨rest_18, rest_18n, rest_18c, e18, h⟩ := asSl_e h
              rw [upd_eta e7, upd_eta e8, upd_eta e16, upd_eta e17, upd_eta e18]
              refine WP.cut 1 (fun l I S => asB (l 6) fun x6 => bolterlaw08_ZoneInsert_b21 R x6 I S) (cast (by kernel_rfl) h) ?_
              clear h
              intro l I S _ h
              obtain ⟨x6, e6, h⟩ := asB_e h
              rw [upd_eta e6]
              exact Pre.sound _ _ _ _ _ (cast (by kernel_rfl) h)
/-! ### zone_Delete: function 17, bolter/zone.Delete -/
noncomputable def zone_Delete_code : Code := (Tryd.f17.body).getD .skip
def zone_Delete (R : Value → IMem → SH → Prop) (z_0 : Option Addr) (z_0n : Nat) (z_0c : Nat) (r_1_0 : ByteArray) (r_1_1 : Int) (r_1_2 : Int) (r_1_3 : ByteArray) (I : IMem) (S : SH) : Prop :=
  ∀ b3 : Nat,
  ∃ x10_0, Cell I ((b3, .cells #[.string r_1_0, .int .u16 r_1_1, .int .u32 r_1_2, .string r_1_3] 36 (0, 0)) :: S) ⟨b3, 0, none⟩ (.string x10_0) ∧
  ∃ x10_1, Cell I ((b3, .cells #[.string r_1_0, .int .u16 r_1_1, .int .u32 r_1_2, .string r_1_3] 36 (0, 0)) :: S) ⟨b3, 1, none⟩ (.int .u16 x10_1) ∧
  ∃ x10_2, Cell I ((b3, .cells #[.string r_1_0, .int .u16 r_1_1, .int .u32 r_1_2, .string r_1_3] 36 (0, 0)) :: S) ⟨b3, 2, none⟩ (.int .u32 x10_2) ∧
  ∃ x10_3, Cell I ((b3, .cells #[.string r_1_0, .int .u16 r_1_1, .int .u32 r_1_2, .string r_1_3] 36 (0, 0)) :: S) ⟨b3, 3, none⟩ (.string x10_3) ∧
  Runs Tryd.prog 33 #[.slice z_0 z_0n z_0c, .agg #[.string x10_0, .int .u16 x10_1, .int .u32 x10_2, .string x10_3], .func (.func 26) #[] #[]] I ((b3, .cells #[.string r_1_0, .int .u16 r_1_1, .int .u32 r_1_2, .string r_1_3] 36 (0, 0)) :: S) fun v I1 S1 => ∃ x11_0 x11_1, v = .tuple #[.int .i64 x11_0, .bool x11_1] ∧
  bcase (!x11_1)
    (R (.tuple #[.slice none 0 0, (.iface 43 (.int .i64 6))]) I1 S1)
    (Runs Tryd.prog 35 #[.slice z_0 z_0n z_0c] I1 S1 fun v' I1' S1' => ∃ x18 x18n x18c, v' = .slice x18 x18n x18c ∧
    Runs Tryd.prog 37 #[.slice x18 x18n x18c, .int .i64 x11_0, .int .i64 (IntKind.wrap .i64 (x11_0 + (1 : Int)))] I1' S1' fun v'' I1'' S1'' => ∃ x22 x22n x22c, v'' = .slice x22 x22n x22c ∧
    R (.tuple #[.slice x22 x22n x22c, .nilIface]) I1'' S1'')
theorem zone_Delete_fn (R : Value → IMem → SH → Prop) (z_0 : Option Addr) (z_0n : Nat) (z_0c : Nat) (r_1_0 : ByteArray) (r_1_1 : Int) (r_1_2 : Int) (r_1_3 : ByteArray) (I : IMem) (S : SH) (h : zone_Delete R z_0 z_0n z_0c r_1_0 r_1_1 r_1_2 r_1_3 I S) :
    Runs Tryd.prog 17 #[.slice z_0 z_0n z_0c, .agg #[.string r_1_0, .int .u16 r_1_1, .int .u32 r_1_2, .string r_1_3]] I S R := by
  refine Runs.of_wp (args := [.slice z_0 z_0n z_0c, .agg #[.string r_1_0, .int .u16 r_1_1, .int .u32 r_1_2, .string r_1_3]]) (c := zone_Delete_code) Tryd.func17 (by kernel_rfl) (by kernel_rfl) ?_
  exact Pre.sound _ _ _ _ _ (cast (by kernel_rfl) h)
/-! ### slices_Delete_api_Record: function 37, slices.Delete[bolter/zone.Zone,bolter/api.Record] -/
noncomputable def slices_Delete_api_Record_code : Code := (Tryd.f37.body).getD .skip
def slices_Delete_api_Record_b2 (R : Value → IMem → SH → Prop) (s_0 : Option Addr) (s_0n : Nat) (s_0c : Nat) (oldlen_7 : Int) (I : IMem) (S : SH) : Prop :=
  (0 : Int) ≤ oldlen_7 ∧ oldlen_7 ≤ ((s_0c : Nat) : Int) ∧
  (0 : Int) ≤ (s_0n : Int) ∧ (s_0n : Int) ≤ ((oldlen_7.toNat : Nat) : Int) ∧
  ClrP [.string ⟨#[]⟩, .int .u16 0, .int .u32 0, .string ⟨#[]⟩] S (slA s_0 s_0c ((s_0n : Int).toNat) 4) (oldlen_7.toNat - (s_0n : Int).toNat) fun S1 =>
  R (.slice s_0 s_0n s_0c) I S1
def slices_Delete_api_Record_b1 (R : Value → IMem → SH → Prop) (s_0 : Option Addr) (s_0n : Nat) (s_0c : Nat) (i_1 : Int) (j_2 : Int) (oldlen_7 : Int) (I : IMem) (S : SH) : Prop :=
  (0 : Int) ≤ i_1 ∧ i_1 ≤ ((s_0c : Nat) : Int) ∧
  (0 : Int) ≤ j_2 ∧ j_2 ≤ ((s_0n : Nat) : Int) ∧
  AppG 36 4 40 [.string ⟨#[]⟩, .int .u16 0, .int .u32 0, .string ⟨#[]⟩] (some (.slice 36)) I S (.slice (slA s_0 s_0c 0 4) (i_1.toNat - 0) (s_0c - 0)) (.slice (slA s_0 s_0c j_2.toNat 4) (s_0n - j_2.toNat) (s_0c - j_2.toNat)) fun x26 x26n x26c S1 =>
  slices_Delete_api_Record_b2 R x26 x26n x26c oldlen_7 I S1
def slices_Delete_api_Record (R : Value → IMem → SH → Prop) (s_0 : Option Addr) (s_0n : Nat) (s_0c : Nat) (i_1 : Int) (j_2 : Int) (I : IMem) (S : SH) : Prop :=
  (0 : Int) ≤ (s_0n : Int) ∧ (s_0n : Int) ≤ ((s_0c : Nat) : Int) ∧
  (0 : Int) ≤ j_2 ∧ j_2 ≤ (((s_0n : Int).toNat : Nat) : Int) ∧
  (0 : Int) ≤ i_1 ∧ i_1 ≤ ((j_2.toNat : Nat) : Int) ∧
  bcase (i_1 == j_2)
    (R (.slice s_0 s_0n s_0c) I S)
    (slices_Delete_api_Record_b1 R s_0 s_0n s_0c i_1 j_2 (s_0n : Int) I S)
theorem slices_Delete_api_Record_fn (R : Value → IMem → SH → Prop) (s_0 : Option Addr) (s_0n : Nat) (s_0c : Nat) (i_1 : Int) (j_2 : Int) (I : IMem) (S : SH) (h : slices_Delete_api_Record R s_0 s_0n s_0c i_1 j_2 I S) :
    Runs Tryd.prog 37 #[.slice s_0 s_0n s_0c, .int .i64 i_1, .int .i64 j_2] I S R := by
  refine Runs.of_wp (args := [.slice s_0 s_0n s_0c, .int .i64 i_1, .int .i64 j_2]) (c := slices_Delete_api_Record_code) Tryd.func37 (by kernel_rfl) (by kernel_rfl) ?_
  refine WP.cut 4 (fun l I S => asSl (l 0) fun s_0 s_0n s_0c => asI .i64 (l 1) fun i_1 => asI .i64 (l 2) fun j_2 => asI .i64 (l 7) fun oldlen_7 => slices_Delete_api_Record_b1 R s_0 s_0n s_0c i_1 j_2 oldlen_7 I S) (cast (by kernel_rfl) h) ?_
  clear h
  intro l I S _ h
  obtain ⟨s_0, s_0n, s_0c, e0, h⟩ := asSl_e h
  obtain ⟨i_1, e1, h⟩ := asI_e h
  obtain ⟨j_2, e2, h⟩ := asI_e h
  obtain ⟨oldlen_7, e7, h⟩ := asI_e h
  rw [upd_eta e0, upd_eta e1, upd_eta e2, upd_eta e7]
  refine WP.seqY (by kernel_rfl) (fun l I S => asSl (l 0) fun s_0 s_0n s_0c => asI .i64 (l 7) fun oldlen_7 => slices_Delete_api_Record_b2 R s_0 s_0n s_0c oldlen_7 I S) ?_ ?_
  ·
    exact WP.draw' (.take 0 (.take 1 (.take 2 (.take 3 (.take 4 (.take 5 (.step 6 (.take 7 .done)))))))) [6] (by kernel_rfl) (by kernel_rfl) (by kernel_rfl) (by kernel_rfl) (by kernel_rfl) (cast (by kernel_rfl) h)
  · clear h
    intro l I S _ h
    obtain ⟨s_0, s_0n, s_0c, e0, h⟩ := asSl_e h
    obtain ⟨oldlen_7, e7, h⟩ := asI_e h
    rw [upd_eta e0, upd_eta e7]
    exact Pre.sound _ _ _ _ _ (cast (by kernel_rfl) h)
/-! ### api_Number: function 15, bolter/api.Number -/
noncomputable def api_Number_code : Code := (Tryd.f15.body).getD .skip
def api_Number (R : Value → IMem → SH → Prop) (e_0 : Value) (I : IMem) (S : SH) : Prop :=
  ∀ b3 : Nat,
  Runs Tryd.prog 36 #[e_0, (.iface 78 (.pointer (some ⟨b3, 0, none⟩)))] I ((b3, .cells #[.int .i64 0] 43 (0, 0)) :: S) fun v I1 S1 => ∃ x6, v = .bool x6 ∧
  bcase x6
    (∃ x7, Cell I1 S1 ⟨b3, 0, none⟩ (.int .i64 x7) ∧
    R (.int .i64 x7) I1 S1)
    (R (.int .i64 0) I1 S1)
theorem api_Number_fn (R : Value → IMem → SH → Prop) (e_0 : Value) (I : IMem) (S : SH) (h : api_Number R e_0 I S) :
    Runs Tryd.prog 15 #[e_0] I S R := by
  refine Runs.of_wp (args := [e_0]) (c := api_Number_code) Tryd.func15 (by kernel_rfl) (by kernel_rfl) ?_
  exact Pre.sound _ _ _ _ _ (cast (by kernel_rfl) h)
end Go.Proofs.YtdajglfbbcbgpaaDoor
