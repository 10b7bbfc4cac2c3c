import Derived.Test.YtdajglfbbcbgpaaDoorProg
import Derived.Test.YtdajglfbbcbgpaaDoorPx6
set_option linter.unusedVariables false
set_option maxRecDepth 8000
namespace Go.Proofs.YtdajglfbbcbgpaaDoor
open Go.Px
/-! ### bolterlaw10_ApplyDelta: function 4, bolter/bolterlaw10.ApplyDelta -/
noncomputable def bolterlaw10_ApplyDelta_code : Code := (Tryd.f4.body).getD .skip
def bolterlaw10_ApplyDelta_b8 (again5 : Option Addr → Nat → Nat → ByteArray → Option Addr → Nat → Nat → Addr → Option Addr → Nat → Nat → Int → Int → IMem → SH → Prop) (R : Value → IMem → SH → Prop) (as_1 : Option Addr) (as_1n : Nat) (as_1c : Nat) (origin_13 : ByteArray) (z_14 : Option Addr) (z_14n : Nat) (z_14c : Nat) (d_15 : Addr) (x57 : Option Addr) (x57n : Nat) (x57c : Nat) (x58 : Int) (x59 : Int) (I : IMem) (S : SH) : Prop :=
  again5 as_1 as_1n as_1c origin_13 z_14 z_14n z_14c d_15 x57 x57n x57c x58 (IntKind.wrap .i64 (x59 + (1 : Int))) I S
def bolterlaw10_ApplyDelta_b7 (again5 : Option Addr → Nat → Nat → ByteArray → Option Addr → Nat → Nat → Addr → Option Addr → Nat → Nat → Int → Int → IMem → SH → Prop) (R : Value → IMem → SH → Prop) (as_1 : Option Addr) (as_1n : Nat) (as_1c : Nat) (origin_13 : ByteArray) (z_14 : Option Addr) (z_14n : Nat) (z_14c : Nat) (d_15 : Addr) (r_18 : Addr) (x57 : Option Addr) (x57n : Nat) (x57c : Nat) (x58 : Int) (x59 : Int) (x78 : Bool) (I : IMem) (S : SH) : Prop :=
  bcase x78
    (∃ x80 x80n x80c, Cell I S (d_15.add 8) (.slice x80 x80n x80c) ∧
    ∃ x81_0, Cell I S r_18 (.string x81_0) ∧
    ∃ x81_1, Cell I S (r_18.add 1) (.int .u16 x81_1) ∧
    ∃ x81_2, Cell I S (r_18.add 2) (.int .u32 x81_2) ∧
    ∃ x81_3, Cell I S (r_18.add 3) (.string x81_3) ∧
    ∀ b82 : Nat,
    AppG 36 4 40 [.string ⟨#[]⟩, .int .u16 0, .int .u32 0, .string ⟨#[]⟩] (some (.slice 36)) I ((b82, .cells #[.string x81_0, .int .u16 x81_1, .int .u32 x81_2, .string x81_3] 36 (0, 0)) :: S) (.slice x80 x80n x80c) (.slice (some ⟨b82, 0, none⟩) 1 1) fun x83 x83n x83c S1 =>
    StP S1 (d_15.add 8) [.slice x83 x83n x83c] fun S1' =>
    bolterlaw10_ApplyDelta_b8 again5 R as_1 as_1n as_1c origin_13 z_14 z_14n z_14c d_15 x57 x57n x57c x58 x59 I S1')
    (bolterlaw10_ApplyDelta_b8 again5 R as_1 as_1n as_1c origin_13 z_14 z_14n z_14c d_15 x57 x57n x57c x58 x59 I S)
def bolterlaw10_ApplyDelta_b6 (again5 : Option Addr → Nat → Nat → ByteArray → Option Addr → Nat → Nat → Addr → Option Addr → Nat → Nat → Int → Int → IMem → SH → Prop) (R : Value → IMem → SH → Prop) (as_1 : Option Addr) (as_1n : Nat) (as_1c : Nat) (origin_13 : ByteArray) (z_14 : Option Addr) (z_14n : Nat) (z_14c : Nat) (d_15 : Addr) (x57 : Option Addr) (x57n : Nat) (x57c : Nat) (x58 : Int) (x59 : Int) (I : IMem) (S : SH) : Prop :=
  ptrP x57 fun x62 => (0 : Int) ≤ x59 ∧ x59 < (x57n : Int) ∧
  ∃ x63, Cell I S (x62.add (x59.toNat * 1)) (.int .u8 x63) ∧
  bcase (decide ((z_14n : Int) = 0)) False (ptrP z_14 fun x70 => (0 : Int) ≤ ((IntKind.wrap .i64 x63).tmod (z_14n : Int)) ∧ ((IntKind.wrap .i64 x63).tmod (z_14n : Int)) < (z_14n : Int) ∧
  ∃ x71_0, Cell I S (x70.add (((IntKind.wrap .i64 x63).tmod (z_14n : Int)).toNat * 4)) (.string x71_0) ∧
  ∃ x71_1, Cell I S ((x70.add (((IntKind.wrap .i64 x63).tmod (z_14n : Int)).toNat * 4)).add 1) (.int .u16 x71_1) ∧
  ∃ x71_2, Cell I S ((x70.add (((IntKind.wrap .i64 x63).tmod (z_14n : Int)).toNat * 4)).add 2) (.int .u32 x71_2) ∧
  ∃ x71_3, Cell I S ((x70.add (((IntKind.wrap .i64 x63).tmod (z_14n : Int)).toNat * 4)).add 3) (.string x71_3) ∧
  ∀ b18 : Nat,
  StP ((b18, .cells #[.string ⟨#[]⟩, .int .u16 0, .int .u32 0, .string ⟨#[]⟩] 36 (0, 0)) :: S) ⟨b18, 0, none⟩ [.string x71_0, .int .u16 x71_1, .int .u32 x71_2, .string x71_3] fun S1 =>
  bcase (decide (x59 < (6 : Int)))
    (∃ x76, Cell I S1 ⟨b18, 1, none⟩ (.int .u16 x76) ∧
    bolterlaw10_ApplyDelta_b7 again5 R as_1 as_1n as_1c origin_13 z_14 z_14n z_14c d_15 ⟨b18, 0, none⟩ x57 x57n x57c x58 x59 (x76 != (6 : Int)) I S1)
    (bolterlaw10_ApplyDelta_b7 again5 R as_1 as_1n as_1c origin_13 z_14 z_14n z_14c d_15 ⟨b18, 0, none⟩ x57 x57n x57c x58 x59 false I S1))
def bolterlaw10_ApplyDelta_b12 (R : Value → IMem → SH → Prop) (x12 : Bool) (I : IMem) (S : SH) : Prop :=
  R (.bool x12) I S
def bolterlaw10_ApplyDelta_b14 (R : Value → IMem → SH → Prop) (x12 : Bool) (I : IMem) (S : SH) : Prop :=
  R (.bool x12) I S
def bolterlaw10_ApplyDelta_b13 (R : Value → IMem → SH → Prop) (as_1 : Option Addr) (as_1n : Nat) (as_1c : Nat) (origin_13 : ByteArray) (z_14 : Option Addr) (z_14n : Nat) (z_14c : Nat) (x_19 : Option Addr) (x_19n : Nat) (x_19c : Nat) (e_20 : Value) (want_21 : Option Addr) (want_21n : Nat) (want_21c : Nat) (I : IMem) (S : SH) : Prop :=
  ∃ nl, isNilI e_20 = some nl ∧
  bcase nl
    (Runs Tryd.prog 16 #[.slice x_19 x_19n x_19c, .slice want_21 want_21n want_21c] I S fun v I1 S1 => ∃ x114, v = .bool x114 ∧
    bcase x114
      (Runs Tryd.prog 20 #[.string origin_13, .int .u32 3, .slice as_1 as_1n as_1c, .int .i64 20] I1 S1 fun v' I1' S1' => ∃ x120 x120n x120c, v' = .slice x120 x120n x120c ∧
      Runs Tryd.prog 16 #[.slice z_14 z_14n z_14c, .slice x120 x120n x120c] I1' S1' fun v'' I1'' S1'' => ∃ x121, v'' = .bool x121 ∧
      bolterlaw10_ApplyDelta_b14 R x121 I1'' S1'')
      (bolterlaw10_ApplyDelta_b14 R false I1 S1))
    (bolterlaw10_ApplyDelta_b14 R false I S)
def bolterlaw10_ApplyDelta_b11 (R : Value → IMem → SH → Prop) (as_1 : Option Addr) (as_1n : Nat) (as_1c : Nat) (origin_13 : ByteArray) (z_14 : Option Addr) (z_14n : Nat) (z_14c : Nat) (x_19 : Option Addr) (x_19n : Nat) (x_19c : Nat) (e_20 : Value) (want_21 : Option Addr) (want_21n : Nat) (want_21c : Nat) (err_22 : Int) (x99 : Bool) (I : IMem) (S : SH) : Prop :=
  bcase x99
    (bcase ((x_19n : Int) == (0 : Int))
      (Runs Tryd.prog 15 #[e_20] I S fun v I1 S1 => ∃ x105, v = .int .i64 x105 ∧
      bolterlaw10_ApplyDelta_b12 R (x105 == err_22) I1 S1)
      (bolterlaw10_ApplyDelta_b12 R false I S))
    (bolterlaw10_ApplyDelta_b13 R as_1 as_1n as_1c origin_13 z_14 z_14n z_14c x_19 x_19n x_19c e_20 want_21 want_21n want_21c I S)
def bolterlaw10_ApplyDelta_b10 (R : Value → IMem → SH → Prop) (as_1 : Option Addr) (as_1n : Nat) (as_1c : Nat) (origin_13 : ByteArray) (z_14 : Option Addr) (z_14n : Nat) (z_14c : Nat) (x_19 : Option Addr) (x_19n : Nat) (x_19c : Nat) (e_20 : Value) (want_21 : Option Addr) (want_21n : Nat) (want_21c : Nat) (err_22 : Int) (I : IMem) (S : SH) : Prop :=
  bolterlaw10_ApplyDelta_b11 R as_1 as_1n as_1c origin_13 z_14 z_14n z_14c x_19 x_19n x_19c e_20 want_21 want_21n want_21c err_22 (err_22 != (0 : Int)) I S
def bolterlaw10_ApplyDelta_b9 (R : Value → IMem → SH → Prop) (as_1 : Option Addr) (as_1n : Nat) (as_1c : Nat) (origin_13 : ByteArray) (z_14 : Option Addr) (z_14n : Nat) (z_14c : Nat) (d_15 : Addr) (I : IMem) (S : SH) : Prop :=
  ∃ x88_0, Cell I S d_15 (.string x88_0) ∧
  ∃ x88_1, Cell I S (d_15.add 1) (.int .u16 x88_1) ∧
  ∃ x88_2, Cell I S (d_15.add 2) (.int .u32 x88_2) ∧
  ∃ x88_3, Cell I S (d_15.add 3) (.string x88_3) ∧
  ∃ x88_4, Cell I S (d_15.add 4) (.string x88_4) ∧
  ∃ x88_5, Cell I S (d_15.add 5) (.int .u16 x88_5) ∧
  ∃ x88_6, Cell I S (d_15.add 6) (.int .u32 x88_6) ∧
  ∃ x88_7, Cell I S (d_15.add 7) (.string x88_7) ∧
  ∃ x88_8 x88_8n x88_8c, Cell I S (d_15.add 8) (.slice x88_8 x88_8n x88_8c) ∧
  ∃ x88_9 x88_9n x88_9c, Cell I S (d_15.add 9) (.slice x88_9 x88_9n x88_9c) ∧
  Runs Tryd.prog 23 #[.slice z_14 z_14n z_14c, .agg #[.string x88_0, .int .u16 x88_1, .int .u32 x88_2, .string x88_3, .string x88_4, .int .u16 x88_5, .int .u32 x88_6, .string x88_7, .slice x88_8 x88_8n x88_8c, .slice x88_9 x88_9n x88_9c]] I S fun v I1 S1 => ∃ x89_0 x89_0n x89_0c x89_1, v = .tuple #[.slice x89_0 x89_0n x89_0c, x89_1] ∧
  ∃ x94_0, Cell I1 S1 d_15 (.string x94_0) ∧
  ∃ x94_1, Cell I1 S1 (d_15.add 1) (.int .u16 x94_1) ∧
  ∃ x94_2, Cell I1 S1 (d_15.add 2) (.int .u32 x94_2) ∧
  ∃ x94_3, Cell I1 S1 (d_15.add 3) (.string x94_3) ∧
  ∃ x94_4, Cell I1 S1 (d_15.add 4) (.string x94_4) ∧
  ∃ x94_5, Cell I1 S1 (d_15.add 5) (.int .u16 x94_5) ∧
  ∃ x94_6, Cell I1 S1 (d_15.add 6) (.int .u32 x94_6) ∧
  ∃ x94_7, Cell I1 S1 (d_15.add 7) (.string x94_7) ∧
  ∃ x94_8 x94_8n x94_8c, Cell I1 S1 (d_15.add 8) (.slice x94_8 x94_8n x94_8c) ∧
  ∃ x94_9 x94_9n x94_9c, Cell I1 S1 (d_15.add 9) (.slice x94_9 x94_9n x94_9c) ∧
  Runs Tryd.prog 24 #[.slice z_14 z_14n z_14c, .agg #[.string x94_0, .int .u16 x94_1, .int .u32 x94_2, .string x94_3, .string x94_4, .int .u16 x94_5, .int .u32 x94_6, .string x94_7, .slice x94_8 x94_8n x94_8c, .slice x94_9 x94_9n x94_9c]] I1 S1 fun v' I1' S1' => ∃ x95_0 x95_0n x95_0c x95_1, v' = .tuple #[.slice x95_0 x95_0n x95_0c, .int .i64 x95_1] ∧
  bolterlaw10_ApplyDelta_b10 R as_1 as_1n as_1c origin_13 z_14 z_14n z_14c x89_0 x89_0n x89_0c x89_1 x95_0 x95_0n x95_0c x95_1 I1' S1'
def bolterlaw10_ApplyDelta_l5 (again5 : Option Addr → Nat → Nat → ByteArray → Option Addr → Nat → Nat → Addr → Option Addr → Nat → Nat → Int → Int → IMem → SH → Prop) (R : Value → IMem → SH → Prop) (as_1 : Option Addr) (as_1n : Nat) (as_1c : Nat) (origin_13 : ByteArray) (z_14 : Option Addr) (z_14n : Nat) (z_14c : Nat) (d_15 : Addr) (x57 : Option Addr) (x57n : Nat) (x57c : Nat) (x58 : Int) (x59 : Int) (I : IMem) (S : SH) : Prop :=
  bcase (decide (x59 < x58))
    (bolterlaw10_ApplyDelta_b6 again5 R as_1 as_1n as_1c origin_13 z_14 z_14n z_14c d_15 x57 x57n x57c x58 x59 I S)
    (bolterlaw10_ApplyDelta_b9 R as_1 as_1n as_1c origin_13 z_14 z_14n z_14c d_15 I S)
def bolterlaw10_ApplyDelta_b4 (R : Value → IMem → SH → Prop) (as_1 : Option Addr) (as_1n : Nat) (as_1c : Nat) (origin_13 : ByteArray) (z_14 : Option Addr) (z_14n : Nat) (z_14c : Nat) (d_15 : Addr) (x57 : Option Addr) (x57n : Nat) (x57c : Nat) (x58 : Int) (x59 : Int) (I : IMem) (S : SH) : Prop :=
  ∃ (Inv : Nat → Option Addr → Nat → Nat → ByteArray → Option Addr → Nat → Nat → Addr → Option Addr → Nat → Nat → Int → Int → IMem → SH → Prop) (m : Nat), Inv m as_1 as_1n as_1c origin_13 z_14 z_14n z_14c d_15 x57 x57n x57c x58 x59 I S ∧
    ∀ (m : Nat) (as_1 : Option Addr) (as_1n : Nat) (as_1c : Nat) (origin_13 : ByteArray) (z_14 : Option Addr) (z_14n : Nat) (z_14c : Nat) (d_15 : Addr) (x57 : Option Addr) (x57n : Nat) (x57c : Nat) (x58 : Int) (x59 : Int) (J : IMem) (T : SH), I.le J → Inv m as_1 as_1n as_1c origin_13 z_14 z_14n z_14c d_15 x57 x57n x57c x58 x59 J T →
      bolterlaw10_ApplyDelta_l5 (fun as_1 as_1n as_1c origin_13 z_14 z_14n z_14c d_15 x57 x57n x57c x58 x59 I S => ∃ m', m' < m ∧ Inv m' as_1 as_1n as_1c origin_13 z_14 z_14n z_14c d_15 x57 x57n x57c x58 x59 I S) R as_1 as_1n as_1c origin_13 z_14 z_14n z_14c d_15 x57 x57n x57c x58 x59 J T
def bolterlaw10_ApplyDelta_b3 (R : Value → IMem → SH → Prop) (as_1 : Option Addr) (as_1n : Nat) (as_1c : Nat) (mine_4 : Option Addr) (mine_4n : Nat) (mine_4c : Nat) (origin_13 : ByteArray) (z_14 : Option Addr) (z_14n : Nat) (z_14c : Nat) (d_15 : Addr) (I : IMem) (S : SH) : Prop :=
  bolterlaw10_ApplyDelta_b4 R as_1 as_1n as_1c origin_13 z_14 z_14n z_14c d_15 mine_4 mine_4n mine_4c (mine_4n : Int) 0 I S
def bolterlaw10_ApplyDelta_b2 (R : Value → IMem → SH → Prop) (as_1 : Option Addr) (as_1n : Nat) (as_1c : Nat) (gone_2 : Option Addr) (gone_2n : Nat) (gone_2c : Nat) (mine_4 : Option Addr) (mine_4n : Nat) (mine_4c : Nat) (origin_13 : ByteArray) (z_14 : Option Addr) (z_14n : Nat) (z_14c : Nat) (d_15 : Addr) (x52 : Bool) (I : IMem) (S : SH) : Prop :=
  bcase x52
    (Runs Tryd.prog 22 #[.string origin_13, .slice gone_2 gone_2n gone_2c, .int .i64 4, .bool false] I S fun v I1 S1 => ∃ x55 x55n x55c, v = .slice x55 x55n x55c ∧
    StP S1 (d_15.add 8) [.slice x55 x55n x55c] fun S1' =>
    bolterlaw10_ApplyDelta_b3 R as_1 as_1n as_1c mine_4 mine_4n mine_4c origin_13 z_14 z_14n z_14c d_15 I1 S1')
    (bolterlaw10_ApplyDelta_b3 R as_1 as_1n as_1c mine_4 mine_4n mine_4c origin_13 z_14 z_14n z_14c d_15 I S)
def bolterlaw10_ApplyDelta_b1 (R : Value → IMem → SH → Prop) (as_1 : Option Addr) (as_1n : Nat) (as_1c : Nat) (gone_2 : Option Addr) (gone_2n : Nat) (gone_2c : Nat) (mine_4 : Option Addr) (mine_4n : Nat) (mine_4c : Nat) (origin_13 : ByteArray) (z_14 : Option Addr) (z_14n : Nat) (z_14c : Nat) (d_15 : Addr) (I : IMem) (S : SH) : Prop :=
  bcase (decide ((gone_2n : Int) > (0 : Int)))
    (ptrP gone_2 fun x47 => (0 : Int) ≤ (0 : Int) ∧ (0 : Int) < (gone_2n : Int) ∧
    ∃ x49, Cell I S ((x47.add ((0 : Int).toNat * 5)).add 2) (.int .u32 x49) ∧
    bolterlaw10_ApplyDelta_b2 R as_1 as_1n as_1c gone_2 gone_2n gone_2c mine_4 mine_4n mine_4c origin_13 z_14 z_14n z_14c d_15 ((x49.tmod (4 : Int)) == (0 : Int)) I S)
    (bolterlaw10_ApplyDelta_b2 R as_1 as_1n as_1c gone_2 gone_2n gone_2c mine_4 mine_4n mine_4c origin_13 z_14 z_14n z_14c d_15 false I S)
def bolterlaw10_ApplyDelta (R : Value → IMem → SH → Prop) (o_0 : Int) (as_1 : Option Addr) (as_1n : Nat) (as_1c : Nat) (gone_2 : Option Addr) (gone_2n : Nat) (gone_2c : Nat) (fresh_3 : Option Addr) (fresh_3n : Nat) (fresh_3c : Nat) (mine_4 : Option Addr) (mine_4n : Nat) (mine_4c : Nat) (from_5 : Int) (I : IMem) (S : SH) : Prop :=
  Runs Tryd.prog 18 #[] I S fun v I1 S1 => ∃ x23, v = .bool x23 ∧
  bcase (!x23)
    (R (.bool false) I1 S1)
    (Runs Tryd.prog 19 #[.int .u8 o_0] I1 S1 fun v' I1' S1' => ∃ x26, v' = .string x26 ∧
    Runs Tryd.prog 20 #[.string x26, .int .u32 3, .slice as_1 as_1n as_1c, .int .i64 20] I1' S1' fun v'' I1'' S1'' => ∃ x29 x29n x29c, v'' = .slice x29 x29n x29c ∧
    Runs Tryd.prog 21 #[.string x26, .int .u32 (IntKind.wrap .u32 ((2 : Int) + (IntKind.wrap .u32 (from_5.tmod (2 : Int)))))] I1'' S1'' fun v_r3 I1_r3 S1_r3 => ∃ x35_0 x35_1 x35_2 x35_3, v_r3 = .agg #[.string x35_0, .int .u16 x35_1, .int .u32 x35_2, .string x35_3] ∧
    Runs Tryd.prog 21 #[.string x26, .int .u32 4] I1_r3 S1_r3 fun v_r4 I1_r4 S1_r4 => ∃ x37_0 x37_1 x37_2 x37_3, v_r4 = .agg #[.string x37_0, .int .u16 x37_1, .int .u32 x37_2, .string x37_3] ∧
    Runs Tryd.prog 22 #[.string x26, .slice fresh_3 fresh_3n fresh_3c, .int .i64 6, .bool false] I1_r4 S1_r4 fun v_r5 I1_r5 S1_r5 => ∃ x40 x40n x40c, v_r5 = .slice x40 x40n x40c ∧
    ∀ b15 : Nat,
    StP ((b15, .cells #[.string ⟨#[]⟩, .int .u16 0, .int .u32 0, .string ⟨#[]⟩, .string ⟨#[]⟩, .int .u16 0, .int .u32 0, .string ⟨#[]⟩, .slice none 0 0, .slice none 0 0] 52 (0, 0)) :: S1_r5) ⟨b15, 0, none⟩ [.string x35_0, .int .u16 x35_1, .int .u32 x35_2, .string x35_3, .string x37_0, .int .u16 x37_1, .int .u32 x37_2, .string x37_3, .slice none 0 0, .slice x40 x40n x40c] fun S1_r6 =>
    bolterlaw10_ApplyDelta_b1 R as_1 as_1n as_1c gone_2 gone_2n gone_2c mine_4 mine_4n mine_4c x26 x29 x29n x29c ⟨b15, 0, none⟩ I1_r5 S1_r6)
theorem bolterlaw10_ApplyDelta_fn (R : Value → IMem → SH → Prop) (o_0 : Int) (as_1 : Option Addr) (as_1n : Nat) (as_1c : Nat) (gone_2 : Option Addr) (gone_2n : Nat) (gone_2c : Nat) (fresh_3 : Option Addr) (fresh_3n : Nat) (fresh_3c : Nat) (mine_4 : Option Addr) (mine_4n : Nat) (mine_4c : Nat) (from_5 : Int) (I : IMem) (S : SH) (h : bolterlaw10_ApplyDelta R o_0 as_1 as_1n as_1c gone_2 gone_2n gone_2c fresh_3 fresh_3n fresh_3c mine_4 mine_4n mine_4c from_5 I S) :
    Runs Tryd.prog 4 #[.int .u8 o_0, .slice as_1 as_1n as_1c, .slice gone_2 gone_2n gone_2c, .slice fresh_3 fresh_3n fresh_3c, .slice mine_4 mine_4n mine_4c, .int .u8 from_5] I S R := by
  refine Runs.of_wp (args := [.int .u8 o_0, .slice as_1 as_1n as_1c, .slice gone_2 gone_2n gone_2c, .slice fresh_3 fresh_3n fresh_3c, .slice mine_4 mine_4n mine_4c, .int .u8 from_5]) (c := bolterlaw10_ApplyDelta_code) Tryd.func4 (by kernel_rfl) (by kernel_rfl) ?_
  refine WP.cut 5 (fun l I S => asSl (l 1) fun as_1 as_1n as_1c => asSl (l 2) fun gone_2 gone_2n gone_2c => asSl (l 4) fun mine_4 mine_4n mine_4c => asStr (l 13) fun origin_13 => asSl (l 14) fun z_14 z_14n z_14c => asAdr (l 15) fun d_15 => bolterlaw10_ApplyDelta_b1 R as_1 as_1n as_1c gone_2 gone_2n gone_2c mine_4 mine_4n mine_4c origin_13 z_14 z_14n z_14c d_15 I S) (cast (by kernel_rfl) h) ?_
  clear h
  intro l I S _ h
  obtain ⟨as_1, as_1n, as_1c, e1, h⟩ := asSl_e h
  obtain ⟨gone_2, gone_2n, gone_2c, e2, h⟩ := asSl_e h
  obtain ⟨mine_4, mine_4n, mine_4c, e4, h⟩ := asSl_e h
  obtain ⟨origin_13, e13, h⟩ := asStr_e h
  obtain ⟨z_14, z_14n, z_14c, e14, h⟩ := asSl_e h
  obtain ⟨d_15, e15, h⟩ := asAdr_e h
  rw [upd_eta e1, upd_eta e2, upd_eta e4, upd_eta e13, upd_eta e14, upd_eta e15]
  refine WP.seqY (by kernel_rfl) (fun l I S => asSl (l 1) fun as_1 as_1n as_1c => asSl (l 4) fun mine_4 mine_4n mine_4c => asStr (l 13) fun origin_13 => asSl (l 14) fun z_14 z_14n z_14c => asAdr (l 15) fun d_15 => bolterlaw10_ApplyDelta_b3 R as_1 as_1n as_1c mine_4 mine_4n mine_4c origin_13 z_14 z_14n z_14c d_15 I S) ?_ ?_
  ·
    refine WP.cut 1 (fun l I S => asSl (l 1) fun as_1 as_1n as_1c => asSl (l 2) fun gone_2 gone_2n gone_2c => asSl (l 4) fun mine_4 mine_4n mine_4c => asStr (l 13) fun origin_13 => asSl (l 14) fun z_14 z_14n z_14c => asAdr (l 15) fun d_15 => asB (l 52) fun x52 => bolterlaw10_ApplyDelta_b2 R as_1 as_1n as_1c gone_2 gone_2n gone_2c mine_4 mine_4n mine_4c origin_13 z_14 z_14n z_14c d_15 x52 I S) (cast (by kernel_rfl) h) ?_
    clear h
    intro l I S _ h
    obtain ⟨as_1, as_1n, as_1c, e1, h⟩ := asSl_e h
    obtain ⟨gone_2, gone_2n, gone_2c, e2, h⟩ := asSl_e h
    obtain ⟨mine_4, mine_4n, mine_4c, e4, h⟩ := asSl_e h
    obtain ⟨origin_13, e13, h⟩ := asStr_e h
    obtain ⟨z_14, z_14n, z_14c, e14, h⟩ := asSl_e h
    obtain ⟨d_15, e15, h⟩ := asAdr_e h
    obtain ⟨x52, e52, h⟩ := asB_e h
    rw [upd_eta e1, upd_eta e2, upd_eta e4, upd_eta e13, upd_eta e14, upd_eta e15, upd_eta e52]
    exact Pre.sound _ _ _ _ _ (cast (by kernel_rfl) h)
  · clear h
    intro l I S _ h
    obtain ⟨as_1, as_1n, as_1c, e1, h⟩ := asSl_e h
    obtain ⟨mine_4, mine_4n, mine_4c, e4, h⟩ := asSl_e h
    obtain ⟨origin_13, e13, h⟩ := asStr_e h
    obtain ⟨z_14, z_14n, z_14c, e14, h⟩ := asSl_e h
    obtain ⟨d_15, e15, h⟩ := asAdr_e h
    rw [upd_eta e1, upd_eta e4, upd_eta e13, upd_eta e14, upd_eta e15]
    refine WP.seqY (by kernel_rfl) (fun l I S => asSl (l 1) fun as_1 as_1n as_1c => asStr (l 13) fun origin_13 => asSl (l 14) fun z_14 z_14n z_14c => asAdr (l 15) fun d_15 => bolterlaw10_ApplyDelta_b9 R as_1 as_1n as_1c origin_13 z_14 z_14n z_14c d_15 I S) ?_ ?_
    ·
      refine WP.cut 1 (fun l I S => asSl (l 1) fun as_1 as_1n as_1c => asStr (l 13) fun origin_13 => asSl (l 14) fun z_14 z_14n z_14c => asAdr (l 15) fun d_15 => asSl (l 57) fun x57 x57n x57c => asI .i64 (l 58) fun x58 => asI .i64 (l 59) fun x59 => bolterlaw10_ApplyDelta_b4 R as_1 as_1n as_1c origin_13 z_14 z_14n z_14c d_15 x57 x57n x57c x58 x59 I S) (cast (by kernel_rfl) h) ?_
      clear h
      intro l I S _ h
      obtain ⟨as_1, as_1n, as_1c, e1, h⟩ := asSl_e h
      obtain ⟨origin_13, e13, h⟩ := asStr_e h
      obtain ⟨z_14, z_14n, z_14c, e14, h⟩ := asSl_e h
      obtain ⟨d_15, e15, h⟩ := asAdr_e h
      obtain ⟨x57, x57n, x57c, e57, h⟩ := asSl_e h
      obtain ⟨x58, e58, h⟩ := asI_e h
      obtain ⟨x59, e59, h⟩ := asI_e h
      rw [upd_eta e1, upd_eta e13, upd_eta e14, upd_eta e15, upd_eta e57, upd_eta e58, upd_eta e59]
      refine WP.block' (by kernel_rfl) ?_
      obtain ⟨Inv_again5, m_again5, h0, hr⟩ := h
      refine WP.loop' (by kernel_rfl) (fun m_again5 => fun l I S => asSl (l 1) fun as_1 as_1n as_1c => asStr (l 13) fun origin_13 => asSl (l 14) fun z_14 z_14n z_14c => asAdr (l 15) fun d_15 => asSl (l 57) fun x57 x57n x57c => asI .i64 (l 58) fun x58 => asI .i64 (l 59) fun x59 => Inv_again5 m_again5 as_1 as_1n as_1c origin_13 z_14 z_14n z_14c d_15 x57 x57n x57c x58 x59 I S) m_again5 (cast (by kernel_rfl) h0) ?_
      clear h0
      intro m_again5 l I S hle h
      obtain ⟨as_1, as_1n, as_1c, e1, h⟩ := asSl_e h
      obtain ⟨origin_13, e13, h⟩ := asStr_e h
      obtain ⟨z_14, z_14n, z_14c, e14, h⟩ := asSl_e h
      obtain ⟨d_15, e15, h⟩ := asAdr_e h
      obtain ⟨x57, x57n, x57c, e57, h⟩ := asSl_e h
      obtain ⟨x58, e58, h⟩ := asI_e h
      obtain ⟨x59, e59, h⟩ := asI_e h
      rw [upd_eta e1, upd_eta e13, upd_eta e14, upd_eta e15, upd_eta e57, upd_eta e58, upd_eta e59]
      have h := hr m_again5 as_1 as_1n as_1c origin_13 z_14 z_14n z_14c d_15 x57 x57n x57c x58 x59 I S hle h
      clear hr hle
      refine WP.cut 2 (fun l I S => asSl (l 1) fun as_1 as_1n as_1c => asStr (l 13) fun origin_13 => asSl (l 14) fun z_14 z_14n z_14c => asAdr (l 15) fun d_15 => asSl (l 57) fun x57 x57n x57c => asI .i64 (l 58) fun x58 => asI .i64 (l 59) fun x59 => bolterlaw10_ApplyDelta_b6 (fun as_1 as_1n as_1c origin_13 z_14 z_14n z_14c d_15 x57 x57n x57c x58 x59 I S => ∃ m', m' < m_again5 ∧ Inv_again5 m' as_1 as_1n as_1c origin_13 z_14 z_14n z_14c d_15 x57 x57n x57c x58 x59 I S) R as_1 as_1n as_1c origin_13 z_14 z_14n z_14c d_15 x57 x57n x57c x58 x59 I S) (cast (by kernel_rfl) h) ?_
      clear h
      intro l I S _ h
      obtain ⟨as_1, as_1n, as_1c, e1, h⟩ := asSl_e h
      obtain ⟨origin_13, e13, h⟩ := asStr_e h
      obtain ⟨z_14, z_14n, z_14c, e14, h⟩ := asSl_e h
      obtain ⟨d_15, e15, h⟩ := asAdr_e h
      obtain ⟨x57, x57n, x57c, e57, h⟩ := asSl_e h
      obtain ⟨x58, e58, h⟩ := asI_e h
      obtain ⟨x59, e59, h⟩ := asI_e h
      rw [upd_eta e1, upd_eta e13, upd_eta e14, upd_eta e15, upd_eta e57, upd_eta e58, upd_eta e59]
      refine WP.seqY (by kernel_rfl) (fun l I S => asSl (l 1) fun as_1 as_1n as_1c => asStr (l 13) fun origin_13 => asSl (l 14) fun z_14 z_14n z_14c => asAdr (l 15) fun d_15 => asSl (l 57) fun x57 x57n x57c => asI .i64 (l 58) fun x58 => asI .i64 (l 59) fun x59 => bolterlaw10_ApplyDelta_b8 (fun as_1 as_1n as_1c origin_13 z_14 z_14n z_14c d_15 x57 x57n x57c x58 x59 I S => ∃ m', m' < m_again5 ∧ Inv_again5 m' as_1 as_1n as_1c origin_13 z_14 z_14n z_14c d_15 x57 x57n x57c x58 x59 I S) R as_1 as_1n as_1c origin_13 z_14 z_14n z_14c d_15 x57 x57n x57c x58 x59 I S) ?_ ?_
      ·
        refine WP.block' (by kernel_rfl) ?_
        refine WP.cut 3 (fun l I S => asSl (l 1) fun as_1 as_1n as_1c => asStr (l 13) fun origin_13 => asSl (l 14) fun z_14 z_14n z_14c => asAdr (l 15) fun d_15 => asAdr (l 18) fun r_18 => asSl (l 57) fun x57 x57n x57c => asI .i64 (l 58) fun x58 => asI .i64 (l 59) fun x59 => asB (l 78) fun x78 => bolterlaw10_ApplyDelta_b7 (fun as_1 as_1n as_1c origin_13 z_14 z_14n z_14c d_15 x57 x57n x57c x58 x59 I S => ∃ m', m' < m_again5 ∧ Inv_again5 m' as_1 as_1n as_1c origin_13 z_14 z_14n z_14c d_15 x57 x57n x57c x58 x59 I S) R as_1 as_1n as_1c origin_13 z_14 z_14n z_14c d_15 r_18 x57 x57n x57c x58 x59 x78 I S) (cast (by kernel_rfl) h) ?_
        clear h
        intro l I S _ h
        obtain ⟨as_1, as_1n, as_1c, e1, h⟩ := asSl_e h
        obtain ⟨origin_13, e13, h⟩ := asStr_e h
        obtain ⟨z_14, z_14n, z_14c, e14, h⟩ := asSl_e h
        obtain ⟨d_15, e15, h⟩ := asAdr_e h
        obtain ⟨r_18, e18, h⟩ := asAdr_e h
        obtain ⟨x57, x57n, x57c, e57, h⟩ := asSl_e h
        obtain ⟨x58, e58, h⟩ := asI_e h
        obtain ⟨x59, e59, h⟩ := asI_e h
        obtain ⟨x78, e78, h⟩ := asB_e h
        rw [upd_eta e1, upd_eta e13, upd_eta e14, upd_eta e15, upd_eta e18, upd_eta e57, upd_eta e58, upd_eta e59, upd_eta e78]
        exact Pre.sound _ _ _ _ _ (cast (by kernel_rfl) h)
      · clear h
        intro l I S _ h
        obtain ⟨as_1, as_1n, as_1c, e1, h⟩ := asSl_e h
        obtain ⟨origin_13, e13, h⟩ := asStr_e h
        obtain ⟨z_14, z_14n, z_14c, e14, h⟩ := asSl_e h
        obtain ⟨d_15, e15, h⟩ := asAdr_e h
        obtain ⟨x57, x57n, x57c, e57, h⟩ := asSl_e h
        obtain ⟨x58, e58, h⟩ := asI_e h
        obtain ⟨x59, e59, h⟩ := asI_e h
        rw [upd_eta e1, upd_eta e13, upd_eta e14, upd_eta e15, upd_eta e57, upd_eta e58, upd_eta e59]
        exact Pre.sound _ _ _ _ _ (cast (by kernel_rfl) h)
    · clear h
      intro l I S _ h
      obtain ⟨as_1, as_1n, as_1c, e1, h⟩ := asSl_e h
      obtain ⟨origin_13, e13, h⟩ := asStr_e h
      obtain ⟨z_14, z_14n, z_14c, e14, h⟩ := asSl_e h
      obtain ⟨d_15, e15, h⟩ := asAdr_e h
      rw [upd_eta e1, upd_eta e13, upd_eta e14, upd_eta e15]
      refine WP.cut 2 (fun l I S => asSl (l 1) fun as_1 as_1n as_1c => asStr (l 13) fun origin_13 => asSl (l 14) fun z_14 z_14n z_14c => asSl (l 19) fun x_19 x_19n x_19c => asV (l 20) fun e_20 => asSl (l 21) fun want_21 want_21n want_21c => asI .i64 (l 22) fun err_22 => bolterlaw10_ApplyDelta_b10 R as_1 as_1n as_1c origin_13 z_14 z_14n z_14c x_19 x_19n x_19c e_20 want_21 want_21n want_21c err_22 I S) (cast (by kernel_rfl) h) ?_
      clear h
      intro l I S _ h
      obtain ⟨as_1, as_1n, as_1c, e1, h⟩ := asSl_e h
      obtain ⟨origin_13, e13, h⟩ := asStr_e h
      obtain ⟨z_14, z_14n, z_14c, e14, h⟩ := asSl_e h
      obtain ⟨x_19, x_19n, x_19c, e19, h⟩ := asSl_e h
      obtain ⟨e_20, e20, h⟩ := asV_e h
      obtain ⟨want_21, want_21n, want_21c, e21, h⟩ := asSl_e h
      obtain ⟨err_22, e22, h⟩ := asI_e h
      rw [upd_eta e1, upd_eta e13, upd_eta e14, upd_eta e19, upd_eta e20, upd_eta e21, upd_eta e22]
      refine WP.seqY (by kernel_rfl) (fun l I S => asSl (l 1) fun as_1 as_1n as_1c => asStr (l 13) fun origin_13 => asSl (l 14) fun z_14 z_14n z_14c => asSl (l 19) fun x_19 x_19n x_19c => asV (l 20) fun e_20 => asSl (l 21) fun want_21 want_21n want_21c => bolterlaw10_ApplyDelta_b13 R as_1 as_1n as_1c origin_13 z_14 z_14n z_14c x_19 x_19n x_19c e_20 want_21 want_21n want_21c I S) ?_ ?_
      ·
        refine WP.cut 1 (fun l I S => asSl (l 1) fun as_1 as_1n as_1c => asStr (l 13) fun origin_13 => asSl (l 14) fun z_14 z_14n z_14c => asSl (l 19) fun x_19 x_19n x_19c => asV (l 20) fun e_20 => asSl (l 21) fun want_21 want_21n want_21c => asI .i64 (l 22) fun err_22 => asB (l 99) fun x99 => bolterlaw10_ApplyDelta_b11 R as_1 as_1n as_1c origin_13 z_14 z_14n z_14c x_19 x_19n x_19c e_20 want_21 want_21n want_21c err_22 x99 I S) (cast (by kernel_rfl) h) ?_
        clear h
        intro l I S _ h
        obtain ⟨as_1, as_1n, as_1c, e1, h⟩ := asSl_e h
        obtain ⟨origin_13, e13, h⟩ := asStr_e h
        obtain ⟨z_14, z_14n, z_14c, e14, h⟩ := asSl_e h
        obtain ⟨x_19, x_19n, x_19c, e19, h⟩ := asSl_e h
        obtain ⟨e_20, e20, h⟩ := asV_e h
        obtain ⟨want_21, want_21n, want_21c, e21, h⟩ := asSl_e h
        obtain ⟨err_22, e22, h⟩ := asI_e h
        obtain ⟨x99, e99, h⟩ := asB_e h
        rw [upd_eta e1, upd_eta e13, upd_eta e14, upd_eta e19, upd_eta e20, upd_eta e21, upd_eta e22, upd_eta e99]
        refine WP.cond' (by kernel_rfl) (by kernel_rfl) h ?_ ?_
        · clear h
          intro h
          refine WP.cut 1 (fun l I S => asB (l 12) fun x12 => bolterlaw10_ApplyDelta_b12 R x12 I S) (cast (by kernel_rfl) h) ?_
          clear h
          intro l I S _ h
          obtain ⟨x12, e12, h⟩ := asB_e h
          rw [upd_eta e12]
          exact Pre.sound _ _ _ _ _ (cast (by kernel_rfl) h)
        · clear h
          intro h
          exact Pre.sound _ _ _ _ _ (cast (by kernel_rfl) h)
      · clear h
        intro l I S _ h
        obtain ⟨as_1, as_1n, as_1c, e1, h⟩ := asSl_e h
        obtain ⟨origin_13, e13, h⟩ := asStr_e h
        obtain ⟨z_14, z_14n, z_14c, e14, h⟩ := asSl_e h
        obtain ⟨x_19, x_19n, x_19c, e19, h⟩ := asSl_e h
        obtain ⟨e_20, e20, h⟩ := asV_e h
        obtain ⟨want_21, want_21n, want_21c, e21, h⟩ := asSl_e h
        rw [upd_eta e1, upd_eta e13, upd_eta e14, upd_eta e19, upd_eta e20, upd_eta e21]
        refine WP.cut 1 (fun l I S => asB (l 12) fun x12 => bolterlaw10_ApplyDelta_b14 R x12 I S) (cast (by kernel_rfl) h) ?_
        clear h
        intro l I S _ h
        obtain ⟨x12, e12, h⟩ := asB_e h
        rw [upd_eta e12]
        exact Pre.sound _ _ _ _ _ (cast (by kernel_rfl) h)
/-! ### bolterlaw10_ApplyBetween: function 5, bolter/bolterlaw10.ApplyBetween -/
noncomputable def bolterlaw10_ApplyBetween_code : Code := (Tryd.f5.body).getD .skip
def bolterlaw10_ApplyBetween_b4 (again3 : Option Addr → Nat → Nat → Option Addr → Nat → Nat → Option Addr → Nat → Nat → Option Addr → Nat → Nat → Option Addr → Nat → Nat → Option Addr → Nat → Nat → Int → Int → IMem → SH → Prop) (R : Value → IMem → SH → Prop) (a_12 : Option Addr) (a_12n : Nat) (a_12c : Nat) (b_13 : Option Addr) (b_13n : Nat) (b_13c : Nat) (gone_14 : Option Addr) (gone_14n : Nat) (gone_14c : Nat) (fresh_15 : Option Addr) (fresh_15n : Nat) (fresh_15c : Nat) (rest_16 : Option Addr) (rest_16n : Nat) (rest_16c : Nat) (x41 : Option Addr) (x41n : Nat) (x41c : Nat) (x42 : Int) (x43 : Int) (I : IMem) (S : SH) : Prop :=
  again3 a_12 a_12n a_12c b_13 b_13n b_13c gone_14 gone_14n gone_14c fresh_15 fresh_15n fresh_15c rest_16 rest_16n rest_16c x41 x41n x41c x42 (IntKind.wrap .i64 (x43 + (1 : Int))) I S
def bolterlaw10_ApplyBetween_b13 (again9 : Option Addr → Nat → Nat → Option Addr → Nat → Nat → Option Addr → Nat → Nat → Option Addr → Nat → Nat → Option Addr → Nat → Nat → Option Addr → Nat → Nat → Int → Int → IMem → SH → Prop) (R : Value → IMem → SH → Prop) (a_12 : Option Addr) (a_12n : Nat) (a_12c : Nat) (b_13 : Option Addr) (b_13n : Nat) (b_13c : Nat) (gone_14 : Option Addr) (gone_14n : Nat) (gone_14c : Nat) (fresh_15 : Option Addr) (fresh_15n : Nat) (fresh_15c : Nat) (rest_16 : Option Addr) (rest_16n : Nat) (rest_16c : Nat) (x73 : Option Addr) (x73n : Nat) (x73c : Nat) (x74 : Int) (x75 : Int) (I : IMem) (S : SH) : Prop :=
  again9 a_12 a_12n a_12c b_13 b_13n b_13c gone_14 gone_14n gone_14c fresh_15 fresh_15n fresh_15c rest_16 rest_16n rest_16c x73 x73n x73c x74 (IntKind.wrap .i64 (x75 + (1 : Int))) I S
def bolterlaw10_ApplyBetween_b12 (again9 : Option Addr → Nat → Nat → Option Addr → Nat → Nat → Option Addr → Nat → Nat → Option Addr → Nat → Nat → Option Addr → Nat → Nat → Option Addr → Nat → Nat → Int → Int → IMem → SH → Prop) (R : Value → IMem → SH → Prop) (a_12 : Option Addr) (a_12n : Nat) (a_12c : Nat) (b_13 : Option Addr) (b_13n : Nat) (b_13c : Nat) (gone_14 : Option Addr) (gone_14n : Nat) (gone_14c : Nat) (fresh_15 : Option Addr) (fresh_15n : Nat) (fresh_15c : Nat) (rest_16 : Option Addr) (rest_16n : Nat) (rest_16c : Nat) (x73 : Option Addr) (x73n : Nat) (x73c : Nat) (x74 : Int) (x75 : Int) (x102 : Bool) (I : IMem) (S : SH) : Prop :=
  bcase x102
    (R (.bool false) I S)
    (bolterlaw10_ApplyBetween_b13 again9 R a_12 a_12n a_12c b_13 b_13n b_13c gone_14 gone_14n gone_14c fresh_15 fresh_15n fresh_15c rest_16 rest_16n rest_16c x73 x73n x73c x74 x75 I S)
def bolterlaw10_ApplyBetween_b11 (again9 : Option Addr → Nat → Nat → Option Addr → Nat → Nat → Option Addr → Nat → Nat → Option Addr → Nat → Nat → Option Addr → Nat → Nat → Option Addr → Nat → Nat → Int → Int → IMem → SH → Prop) (R : Value → IMem → SH → Prop) (a_12 : Option Addr) (a_12n : Nat) (a_12c : Nat) (b_13 : Option Addr) (b_13n : Nat) (b_13c : Nat) (gone_14 : Option Addr) (gone_14n : Nat) (gone_14c : Nat) (fresh_15 : Option Addr) (fresh_15n : Nat) (fresh_15c : Nat) (rest_16 : Option Addr) (rest_16n : Nat) (rest_16c : Nat) (k_19 : Int) (r_20 : Addr) (x73 : Option Addr) (x73n : Nat) (x73c : Nat) (x74 : Int) (x75 : Int) (I : IMem) (S : SH) : Prop :=
  ∃ x81_0, Cell I S r_20 (.string x81_0) ∧
  ∃ x81_1, Cell I S (r_20.add 1) (.int .u16 x81_1) ∧
  ∃ x81_2, Cell I S (r_20.add 2) (.int .u32 x81_2) ∧
  ∃ x81_3, Cell I S (r_20.add 3) (.string x81_3) ∧
  ∃ x82, Runs Tryd.prog 14 #[.slice b_13 b_13n b_13c, .agg #[.string x81_0, .int .u16 x81_1, .int .u32 x81_2, .string x81_3]] I S (fun v' _ T => v' = .bool x82 ∧ T = S) ∧
  bcase x82
    (bolterlaw10_ApplyBetween_b12 again9 R a_12 a_12n a_12c b_13 b_13n b_13c gone_14 gone_14n gone_14c fresh_15 fresh_15n fresh_15c rest_16 rest_16n rest_16c x73 x73n x73c x74 x75 true I S)
    (∃ x85_0, Cell I S r_20 (.string x85_0) ∧
    ∃ x85_1, Cell I S (r_20.add 1) (.int .u16 x85_1) ∧
    ∃ x85_2, Cell I S (r_20.add 2) (.int .u32 x85_2) ∧
    ∃ x85_3, Cell I S (r_20.add 3) (.string x85_3) ∧
    ∃ x86, Runs Tryd.prog 14 #[.slice a_12 a_12n a_12c, .agg #[.string x85_0, .int .u16 x85_1, .int .u32 x85_2, .string x85_3]] I S (fun v' _ T => v' = .bool x86 ∧ T = S) ∧
    bcase (!x86)
      (bolterlaw10_ApplyBetween_b12 again9 R a_12 a_12n a_12c b_13 b_13n b_13c gone_14 gone_14n gone_14c fresh_15 fresh_15n fresh_15c rest_16 rest_16n rest_16c x73 x73n x73c x74 x75 true I S)
      (bcase (decide (k_19 > (0 : Int)))
        (ptrP gone_14 fun x96 => (0 : Int) ≤ (IntKind.wrap .i64 (k_19 - (1 : Int))) ∧ (IntKind.wrap .i64 (k_19 - (1 : Int))) < (gone_14n : Int) ∧
        ∃ x97_0, Cell I S (x96.add ((IntKind.wrap .i64 (k_19 - (1 : Int))).toNat * 4)) (.string x97_0) ∧
        ∃ x97_1, Cell I S ((x96.add ((IntKind.wrap .i64 (k_19 - (1 : Int))).toNat * 4)).add 1) (.int .u16 x97_1) ∧
        ∃ x97_2, Cell I S ((x96.add ((IntKind.wrap .i64 (k_19 - (1 : Int))).toNat * 4)).add 2) (.int .u32 x97_2) ∧
        ∃ x97_3, Cell I S ((x96.add ((IntKind.wrap .i64 (k_19 - (1 : Int))).toNat * 4)).add 3) (.string x97_3) ∧
        ∃ x98_0, Cell I S r_20 (.string x98_0) ∧
        ∃ x98_1, Cell I S (r_20.add 1) (.int .u16 x98_1) ∧
        ∃ x98_2, Cell I S (r_20.add 2) (.int .u32 x98_2) ∧
        ∃ x98_3, Cell I S (r_20.add 3) (.string x98_3) ∧
        ∃ x99, Runs Tryd.prog 26 #[.agg #[.string x97_0, .int .u16 x97_1, .int .u32 x97_2, .string x97_3], .agg #[.string x98_0, .int .u16 x98_1, .int .u32 x98_2, .string x98_3]] I S (fun v' _ T => v' = .int .i64 x99 ∧ T = S) ∧
        bolterlaw10_ApplyBetween_b12 again9 R a_12 a_12n a_12c b_13 b_13n b_13c gone_14 gone_14n gone_14c fresh_15 fresh_15n fresh_15c rest_16 rest_16n rest_16c x73 x73n x73c x74 x75 (decide (x99 ≥ (0 : Int))) I S)
        (bolterlaw10_ApplyBetween_b12 again9 R a_12 a_12n a_12c b_13 b_13n b_13c gone_14 gone_14n gone_14c fresh_15 fresh_15n fresh_15c rest_16 rest_16n rest_16c x73 x73n x73c x74 x75 false I S)))
def bolterlaw10_ApplyBetween_b10 (again9 : Option Addr → Nat → Nat → Option Addr → Nat → Nat → Option Addr → Nat → Nat → Option Addr → Nat → Nat → Option Addr → Nat → Nat → Option Addr → Nat → Nat → Int → Int → IMem → SH → Prop) (R : Value → IMem → SH → Prop) (a_12 : Option Addr) (a_12n : Nat) (a_12c : Nat) (b_13 : Option Addr) (b_13n : Nat) (b_13c : Nat) (gone_14 : Option Addr) (gone_14n : Nat) (gone_14c : Nat) (fresh_15 : Option Addr) (fresh_15n : Nat) (fresh_15c : Nat) (rest_16 : Option Addr) (rest_16n : Nat) (rest_16c : Nat) (x73 : Option Addr) (x73n : Nat) (x73c : Nat) (x74 : Int) (x75 : Int) (I : IMem) (S : SH) : Prop :=
  ptrP x73 fun x78 => (0 : Int) ≤ x75 ∧ x75 < (x73n : Int) ∧
  ∃ x79_0, Cell I S (x78.add (x75.toNat * 4)) (.string x79_0) ∧
  ∃ x79_1, Cell I S ((x78.add (x75.toNat * 4)).add 1) (.int .u16 x79_1) ∧
  ∃ x79_2, Cell I S ((x78.add (x75.toNat * 4)).add 2) (.int .u32 x79_2) ∧
  ∃ x79_3, Cell I S ((x78.add (x75.toNat * 4)).add 3) (.string x79_3) ∧
  ∀ b20 : Nat,
  StP ((b20, .cells #[.string ⟨#[]⟩, .int .u16 0, .int .u32 0, .string ⟨#[]⟩] 36 (0, 0)) :: S) ⟨b20, 0, none⟩ [.string x79_0, .int .u16 x79_1, .int .u32 x79_2, .string x79_3] fun S1 =>
  bolterlaw10_ApplyBetween_b11 again9 R a_12 a_12n a_12c b_13 b_13n b_13c gone_14 gone_14n gone_14c fresh_15 fresh_15n fresh_15c rest_16 rest_16n rest_16c x75 ⟨b20, 0, none⟩ x73 x73n x73c x74 x75 I S1
def bolterlaw10_ApplyBetween_b14 (R : Value → IMem → SH → Prop) (b_13 : Option Addr) (b_13n : Nat) (b_13c : Nat) (fresh_15 : Option Addr) (fresh_15n : Nat) (fresh_15c : Nat) (rest_16 : Option Addr) (rest_16n : Nat) (rest_16c : Nat) (I : IMem) (S : SH) : Prop :=
  AppG 36 4 40 [.string ⟨#[]⟩, .int .u16 0, .int .u32 0, .string ⟨#[]⟩] (some (.slice 36)) I S (.slice rest_16 rest_16n rest_16c) (.slice fresh_15 fresh_15n fresh_15c) fun x106 x106n x106c S1 =>
  Runs Tryd.prog 11 #[.slice x106 x106n x106c] I S1 fun v I1 S1' => ∃ x107 x107n x107c, v = .slice x107 x107n x107c ∧
  Runs Tryd.prog 16 #[.slice x107 x107n x107c, .slice b_13 b_13n b_13c] I1 S1' fun v' I1' S1'' => ∃ x109, v' = .bool x109 ∧
  R (.bool x109) I1' S1''
def bolterlaw10_ApplyBetween_l9 (again9 : Option Addr → Nat → Nat → Option Addr → Nat → Nat → Option Addr → Nat → Nat → Option Addr → Nat → Nat → Option Addr → Nat → Nat → Option Addr → Nat → Nat → Int → Int → IMem → SH → Prop) (R : Value → IMem → SH → Prop) (a_12 : Option Addr) (a_12n : Nat) (a_12c : Nat) (b_13 : Option Addr) (b_13n : Nat) (b_13c : Nat) (gone_14 : Option Addr) (gone_14n : Nat) (gone_14c : Nat) (fresh_15 : Option Addr) (fresh_15n : Nat) (fresh_15c : Nat) (rest_16 : Option Addr) (rest_16n : Nat) (rest_16c : Nat) (x73 : Option Addr) (x73n : Nat) (x73c : Nat) (x74 : Int) (x75 : Int) (I : IMem) (S : SH) : Prop :=
  bcase (decide (x75 < x74))
    (bolterlaw10_ApplyBetween_b10 again9 R a_12 a_12n a_12c b_13 b_13n b_13c gone_14 gone_14n gone_14c fresh_15 fresh_15n fresh_15c rest_16 rest_16n rest_16c x73 x73n x73c x74 x75 I S)
    (bolterlaw10_ApplyBetween_b14 R b_13 b_13n b_13c fresh_15 fresh_15n fresh_15c rest_16 rest_16n rest_16c I S)
def bolterlaw10_ApplyBetween_b8 (R : Value → IMem → SH → Prop) (a_12 : Option Addr) (a_12n : Nat) (a_12c : Nat) (b_13 : Option Addr) (b_13n : Nat) (b_13c : Nat) (gone_14 : Option Addr) (gone_14n : Nat) (gone_14c : Nat) (fresh_15 : Option Addr) (fresh_15n : Nat) (fresh_15c : Nat) (rest_16 : Option Addr) (rest_16n : Nat) (rest_16c : Nat) (x73 : Option Addr) (x73n : Nat) (x73c : Nat) (x74 : Int) (x75 : Int) (I : IMem) (S : SH) : Prop :=
  ∃ (Inv : Nat → Option Addr → Nat → Nat → Option Addr → Nat → Nat → Option Addr → Nat → Nat → Option Addr → Nat → Nat → Option Addr → Nat → Nat → Option Addr → Nat → Nat → Int → Int → IMem → SH → Prop) (m : Nat), Inv m a_12 a_12n a_12c b_13 b_13n b_13c gone_14 gone_14n gone_14c fresh_15 fresh_15n fresh_15c rest_16 rest_16n rest_16c x73 x73n x73c x74 x75 I S ∧
    ∀ (m : Nat) (a_12 : Option Addr) (a_12n : Nat) (a_12c : Nat) (b_13 : Option Addr) (b_13n : Nat) (b_13c : Nat) (gone_14 : Option Addr) (gone_14n : Nat) (gone_14c : Nat) (fresh_15 : Option Addr) (fresh_15n : Nat) (fresh_15c : Nat) (rest_16 : Option Addr) (rest_16n : Nat) (rest_16c : Nat) (x73 : Option Addr) (x73n : Nat) (x73c : Nat) (x74 : Int) (x75 : Int) (J : IMem) (T : SH), I.le J → Inv m a_12 a_12n a_12c b_13 b_13n b_13c gone_14 gone_14n gone_14c fresh_15 fresh_15n fresh_15c rest_16 rest_16n rest_16c x73 x73n x73c x74 x75 J T →
      bolterlaw10_ApplyBetween_l9 (fun a_12 a_12n a_12c b_13 b_13n b_13c gone_14 gone_14n gone_14c fresh_15 fresh_15n fresh_15c rest_16 rest_16n rest_16c x73 x73n x73c x74 x75 I S => ∃ m', m' < m ∧ Inv m' a_12 a_12n a_12c b_13 b_13n b_13c gone_14 gone_14n gone_14c fresh_15 fresh_15n fresh_15c rest_16 rest_16n rest_16c x73 x73n x73c x74 x75 I S) R a_12 a_12n a_12c b_13 b_13n b_13c gone_14 gone_14n gone_14c fresh_15 fresh_15n fresh_15c rest_16 rest_16n rest_16c x73 x73n x73c x74 x75 J T
def bolterlaw10_ApplyBetween_b7 (R : Value → IMem → SH → Prop) (a_12 : Option Addr) (a_12n : Nat) (a_12c : Nat) (b_13 : Option Addr) (b_13n : Nat) (b_13c : Nat) (gone_14 : Option Addr) (gone_14n : Nat) (gone_14c : Nat) (fresh_15 : Option Addr) (fresh_15n : Nat) (fresh_15c : Nat) (rest_16 : Option Addr) (rest_16n : Nat) (rest_16c : Nat) (I : IMem) (S : SH) : Prop :=
  bolterlaw10_ApplyBetween_b8 R a_12 a_12n a_12c b_13 b_13n b_13c gone_14 gone_14n gone_14c fresh_15 fresh_15n fresh_15c rest_16 rest_16n rest_16c gone_14 gone_14n gone_14c (gone_14n : Int) 0 I S
def bolterlaw10_ApplyBetween_b6 (R : Value → IMem → SH → Prop) (a_12 : Option Addr) (a_12n : Nat) (a_12c : Nat) (b_13 : Option Addr) (b_13n : Nat) (b_13c : Nat) (gone_14 : Option Addr) (gone_14n : Nat) (gone_14c : Nat) (fresh_15 : Option Addr) (fresh_15n : Nat) (fresh_15c : Nat) (rest_16 : Option Addr) (rest_16n : Nat) (rest_16c : Nat) (x72 : Bool) (I : IMem) (S : SH) : Prop :=
  bcase x72
    (R (.bool false) I S)
    (bolterlaw10_ApplyBetween_b7 R a_12 a_12n a_12c b_13 b_13n b_13c gone_14 gone_14n gone_14c fresh_15 fresh_15n fresh_15c rest_16 rest_16n rest_16c I S)
def bolterlaw10_ApplyBetween_b5 (R : Value → IMem → SH → Prop) (a_12 : Option Addr) (a_12n : Nat) (a_12c : Nat) (b_13 : Option Addr) (b_13n : Nat) (b_13c : Nat) (gone_14 : Option Addr) (gone_14n : Nat) (gone_14c : Nat) (fresh_15 : Option Addr) (fresh_15n : Nat) (fresh_15c : Nat) (rest_16 : Option Addr) (rest_16n : Nat) (rest_16c : Nat) (I : IMem) (S : SH) : Prop :=
  bcase ((IntKind.wrap .i64 ((rest_16n : Int) + (gone_14n : Int))) != (a_12n : Int))
    (bolterlaw10_ApplyBetween_b6 R a_12 a_12n a_12c b_13 b_13n b_13c gone_14 gone_14n gone_14c fresh_15 fresh_15n fresh_15c rest_16 rest_16n rest_16c true I S)
    (bolterlaw10_ApplyBetween_b6 R a_12 a_12n a_12c b_13 b_13n b_13c gone_14 gone_14n gone_14c fresh_15 fresh_15n fresh_15c rest_16 rest_16n rest_16c ((IntKind.wrap .i64 ((rest_16n : Int) + (fresh_15n : Int))) != (b_13n : Int)) I S)
def bolterlaw10_ApplyBetween_l3 (again3 : Option Addr → Nat → Nat → Option Addr → Nat → Nat → Option Addr → Nat → Nat → Option Addr → Nat → Nat → Option Addr → Nat → Nat → Option Addr → Nat → Nat → Int → Int → IMem → SH → Prop) (R : Value → IMem → SH → Prop) (a_12 : Option Addr) (a_12n : Nat) (a_12c : Nat) (b_13 : Option Addr) (b_13n : Nat) (b_13c : Nat) (gone_14 : Option Addr) (gone_14n : Nat) (gone_14c : Nat) (fresh_15 : Option Addr) (fresh_15n : Nat) (fresh_15c : Nat) (rest_16 : Option Addr) (rest_16n : Nat) (rest_16c : Nat) (x41 : Option Addr) (x41n : Nat) (x41c : Nat) (x42 : Int) (x43 : Int) (I : IMem) (S : SH) : Prop :=
  bcase (decide (x43 < x42))
    (ptrP x41 fun x45 => (0 : Int) ≤ x43 ∧ x43 < (x41n : Int) ∧
    ∃ x46_0, Cell I S (x45.add (x43.toNat * 4)) (.string x46_0) ∧
    ∃ x46_1, Cell I S ((x45.add (x43.toNat * 4)).add 1) (.int .u16 x46_1) ∧
    ∃ x46_2, Cell I S ((x45.add (x43.toNat * 4)).add 2) (.int .u32 x46_2) ∧
    ∃ x46_3, Cell I S ((x45.add (x43.toNat * 4)).add 3) (.string x46_3) ∧
    ∀ b18 : Nat,
    StP ((b18, .cells #[.string ⟨#[]⟩, .int .u16 0, .int .u32 0, .string ⟨#[]⟩] 36 (0, 0)) :: S) ⟨b18, 0, none⟩ [.string x46_0, .int .u16 x46_1, .int .u32 x46_2, .string x46_3] fun S1 =>
    ∃ x48_0, Cell I S1 ⟨b18, 0, none⟩ (.string x48_0) ∧
    ∃ x48_1, Cell I S1 ⟨b18, 1, none⟩ (.int .u16 x48_1) ∧
    ∃ x48_2, Cell I S1 ⟨b18, 2, none⟩ (.int .u32 x48_2) ∧
    ∃ x48_3, Cell I S1 ⟨b18, 3, none⟩ (.string x48_3) ∧
    Runs Tryd.prog 14 #[.slice b_13 b_13n b_13c, .agg #[.string x48_0, .int .u16 x48_1, .int .u32 x48_2, .string x48_3]] I S1 fun v I1 S1' => ∃ x49, v = .bool x49 ∧
    bcase x49
      (∃ x51_0, Cell I1 S1' ⟨b18, 0, none⟩ (.string x51_0) ∧
      ∃ x51_1, Cell I1 S1' ⟨b18, 1, none⟩ (.int .u16 x51_1) ∧
      ∃ x51_2, Cell I1 S1' ⟨b18, 2, none⟩ (.int .u32 x51_2) ∧
      ∃ x51_3, Cell I1 S1' ⟨b18, 3, none⟩ (.string x51_3) ∧
      ∀ b52 : Nat,
      AppG 36 4 40 [.string ⟨#[]⟩, .int .u16 0, .int .u32 0, .string ⟨#[]⟩] (some (.slice 36)) I1 ((b52, .cells #[.string x51_0, .int .u16 x51_1, .int .u32 x51_2, .string x51_3] 36 (0, 0)) :: S1') (.slice rest_16 rest_16n rest_16c) (.slice (some ⟨b52, 0, none⟩) 1 1) fun x53 x53n x53c S1'' =>
      bolterlaw10_ApplyBetween_b4 again3 R a_12 a_12n a_12c b_13 b_13n b_13c gone_14 gone_14n gone_14c fresh_15 fresh_15n fresh_15c x53 x53n x53c x41 x41n x41c x42 x43 I1 S1'')
      (bolterlaw10_ApplyBetween_b4 again3 R a_12 a_12n a_12c b_13 b_13n b_13c gone_14 gone_14n gone_14c fresh_15 fresh_15n fresh_15c rest_16 rest_16n rest_16c x41 x41n x41c x42 x43 I1 S1'))
    (bolterlaw10_ApplyBetween_b5 R a_12 a_12n a_12c b_13 b_13n b_13c gone_14 gone_14n gone_14c fresh_15 fresh_15n fresh_15c rest_16 rest_16n rest_16c I S)
def bolterlaw10_ApplyBetween_b2 (R : Value → IMem → SH → Prop) (a_12 : Option Addr) (a_12n : Nat) (a_12c : Nat) (b_13 : Option Addr) (b_13n : Nat) (b_13c : Nat) (gone_14 : Option Addr) (gone_14n : Nat) (gone_14c : Nat) (fresh_15 : Option Addr) (fresh_15n : Nat) (fresh_15c : Nat) (rest_16 : Option Addr) (rest_16n : Nat) (rest_16c : Nat) (x41 : Option Addr) (x41n : Nat) (x41c : Nat) (x42 : Int) (x43 : Int) (I : IMem) (S : SH) : Prop :=
  ∃ (Inv : Nat → Option Addr → Nat → Nat → Option Addr → Nat → Nat → Option Addr → Nat → Nat → Option Addr → Nat → Nat → Option Addr → Nat → Nat → Option Addr → Nat → Nat → Int → Int → IMem → SH → Prop) (m : Nat), Inv m a_12 a_12n a_12c b_13 b_13n b_13c gone_14 gone_14n gone_14c fresh_15 fresh_15n fresh_15c rest_16 rest_16n rest_16c x41 x41n x41c x42 x43 I S ∧
    ∀ (m : Nat) (a_12 : Option Addr) (a_12n : Nat) (a_12c : Nat) (b_13 : Option Addr) (b_13n : Nat) (b_13c : Nat) (gone_14 : Option Addr) (gone_14n : Nat) (gone_14c : Nat) (fresh_15 : Option Addr) (fresh_15n : Nat) (fresh_15c : Nat) (rest_16 : Option Addr) (rest_16n : Nat) (rest_16c : Nat) (x41 : Option Addr) (x41n : Nat) (x41c : Nat) (x42 : Int) (x43 : Int) (J : IMem) (T : SH), I.le J → Inv m a_12 a_12n a_12c b_13 b_13n b_13c gone_14 gone_14n gone_14c fresh_15 fresh_15n fresh_15c rest_16 rest_16n rest_16c x41 x41n x41c x42 x43 J T →
      bolterlaw10_ApplyBetween_l3 (fun a_12 a_12n a_12c b_13 b_13n b_13c gone_14 gone_14n gone_14c fresh_15 fresh_15n fresh_15c rest_16 rest_16n rest_16c x41 x41n x41c x42 x43 I S => ∃ m', m' < m ∧ Inv m' a_12 a_12n a_12c b_13 b_13n b_13c gone_14 gone_14n gone_14c fresh_15 fresh_15n fresh_15c rest_16 rest_16n rest_16c x41 x41n x41c x42 x43 I S) R a_12 a_12n a_12c b_13 b_13n b_13c gone_14 gone_14n gone_14c fresh_15 fresh_15n fresh_15c rest_16 rest_16n rest_16c x41 x41n x41c x42 x43 J T
def bolterlaw10_ApplyBetween_b1 (R : Value → IMem → SH → Prop) (a_12 : Option Addr) (a_12n : Nat) (a_12c : Nat) (b_13 : Option Addr) (b_13n : Nat) (b_13c : Nat) (gone_14 : Option Addr) (gone_14n : Nat) (gone_14c : Nat) (fresh_15 : Option Addr) (fresh_15n : Nat) (fresh_15c : Nat) (rest_16 : Option Addr) (rest_16n : Nat) (rest_16c : Nat) (I : IMem) (S : SH) : Prop :=
  bolterlaw10_ApplyBetween_b2 R a_12 a_12n a_12c b_13 b_13n b_13c gone_14 gone_14n gone_14c fresh_15 fresh_15n fresh_15c rest_16 rest_16n rest_16c a_12 a_12n a_12c (a_12n : Int) 0 I S
def bolterlaw10_ApplyBetween (R : Value → IMem → SH → Prop) (o_0 : Int) (as_1 : Option Addr) (as_1n : Nat) (as_1c : Nat) (bs_2 : Option Addr) (bs_2n : Nat) (bs_2c : Nat) (n_3 : Int) (m_4 : Int) (I : IMem) (S : SH) : Prop :=
  Runs Tryd.prog 18 #[] I S fun v I1 S1 => ∃ x21, v = .bool x21 ∧
  bcase (!x21)
    (R (.bool false) I1 S1)
    (Runs Tryd.prog 19 #[.int .u8 o_0] I1 S1 fun v' I1' S1' => ∃ x24, v' = .string x24 ∧
    Runs Tryd.prog 20 #[.string x24, .int .u32 (n_3.tmod (3 : Int)), .slice as_1 as_1n as_1c, .int .i64 30] I1' S1' fun v'' I1'' S1'' => ∃ x29 x29n x29c, v'' = .slice x29 x29n x29c ∧
    Runs Tryd.prog 20 #[.string x24, .int .u32 (m_4.tmod (3 : Int)), .slice bs_2 bs_2n bs_2c, .int .i64 30] I1'' S1'' fun v_r3 I1_r3 S1_r3 => ∃ x34 x34n x34c, v_r3 = .slice x34 x34n x34c ∧
    Runs Tryd.prog 25 #[.slice x29 x29n x29c, .slice x34 x34n x34c] I1_r3 S1_r3 fun v_r4 I1_r4 S1_r4 => ∃ x38_0 x38_0n x38_0c x38_1 x38_1n x38_1c, v_r4 = .tuple #[.slice x38_0 x38_0n x38_0c, .slice x38_1 x38_1n x38_1c] ∧
    bolterlaw10_ApplyBetween_b1 R x29 x29n x29c x34 x34n x34c x38_0 x38_0n x38_0c x38_1 x38_1n x38_1c none 0 0 I1_r4 S1_r4)
theorem bolterlaw10_ApplyBetween_fn (R : Value → IMem → SH → Prop) (o_0 : Int) (as_1 : Option Addr) (as_1n : Nat) (as_1c : Nat) (bs_2 : Option Addr) (bs_2n : Nat) (bs_2c : Nat) (n_3 : Int) (m_4 : Int) (I : IMem) (S : SH) (h : bolterlaw10_ApplyBetween R o_0 as_1 as_1n as_1c bs_2 bs_2n bs_2c n_3 m_4 I S) :
    Runs Tryd.prog 5 #[.int .u8 o_0, .slice as_1 as_1n as_1c, .slice bs_2 bs_2n bs_2c, .int .u32 n_3, .int .u32 m_4] I S R := by
  refine Runs.of_wp (args := [.int .u8 o_0, .slice as_1 as_1n as_1c, .slice bs_2 bs_2n bs_2c, .int .u32 n_3, .int .u32 m_4]) (c := bolterlaw10_ApplyBetween_code) Tryd.func5 (by kernel_rfl) (by kernel_rfl) ?_
  refine WP.cut 6 (fun l I S => asSl (l 12) fun a_12 a_12n a_12c => asSl (l 13) fun b_13 b_13n b_13c => asSl (l 14) fun gone_14 gone_14n gone_14c => asSl (l 15) fun fresh_15 fresh_15n fresh_15c => asSl (l 16) fun rest_16 rest_16n rest_16c => bolterlaw10_ApplyBetween_b1 R a_12 a_12n a_12c b_13 b_13n b_13c gone_14 gone_14n gone_14c fresh_15 fresh_15n fresh_15c rest_16 rest_16n rest_16c I S) (cast (by kernel_rfl) h) ?_
  clear h
  intro l I S _ h
  obtain ⟨a_12, a_12n, a_12c, e12, h⟩ := asSl_e h
  obtain ⟨b_13, b_13n, b_13c, e13, h⟩ := asSl_e h
  obtain ⟨gone_14, gone_14n, gone_14c, e14, h⟩ := asSl_e h
  obtain ⟨fresh_15, fresh_15n, fresh_15c, e15, h⟩ := asSl_e h
  obtain ⟨rest_16, rest_16n, rest_16c, e16, h⟩ := asSl_e h
  rw [upd_eta e12, upd_eta e13, upd_eta e14, upd_eta e15, upd_eta e16]
  refine WP.seqY (by kernel_rfl) (fun l I S => asSl (l 12) fun a_12 a_12n a_12c => asSl (l 13) fun b_13 b_13n b_13c => asSl (l 14) fun gone_14 gone_14n gone_14c => asSl (l 15) fun fresh_15 fresh_15n fresh_15c => asSl (l 16) fun rest_16 rest_16n rest_16c => bolterlaw10_ApplyBetween_b5 R a_12 a_12n a_12c b_13 b_13n b_13c gone_14 gone_14n gone_14c fresh_15 fresh_15n fresh_15c rest_16 rest_16n rest_16c I S) ?_ ?_
  ·
    refine WP.cut 1 (fun l I S => asSl (l 12) fun a_12 a_12n a_12c => asSl (l 13) fun b_13 b_13n b_13c => asSl (l 14) fun gone_14 gone_14n gone_14c => asSl (l 15) fun fresh_15 fresh_15n fresh_15c => asSl (l 16) fun rest_16 rest_16n rest_16c => asSl (l 41) fun x41 x41n x41c => asI .i64 (l 42) fun x42 => asI .i64 (l 43) fun x43 => bolterlaw10_ApplyBetween_b2 R a_12 a_12n a_12c b_13 b_13n b_13c gone_14 gone_14n gone_14c fresh_15 fresh_15n fresh_15c rest_16 rest_16n rest_16c x41 x41n x41c x42 x43 I S) (cast (by kernel_rfl) h) ?_
    clear h
    intro l I S _ h
    obtain ⟨a_12, a_12n, a_12c, e12, h⟩ := asSl_e h
    obtain ⟨b_13, b_13n, b_13c, e13, h⟩ := asSl_e h
    obtain ⟨gone_14, gone_14n, gone_14c, e14, h⟩ := asSl_e h
    obtain ⟨fresh_15, fresh_15n, fresh_15c, e15, h⟩ := asSl_e h
    obtain ⟨rest_16, rest_16n, rest_16c, e16, h⟩ := asSl_e h
    obtain ⟨x41, x41n, x41c, e41, h⟩ := asSl_e h
    obtain ⟨x42, e42, h⟩ := asI_e h
    obtain ⟨x43, e43, h⟩ := asI_e h
    rw [upd_eta e12, upd_eta e13, upd_eta e14, upd_eta e15, upd_eta e16, upd_eta e41, upd_eta e42, upd_eta e43]
    refine WP.block' (by kernel_rfl) ?_
    obtain ⟨Inv_again3, m_again3, h0, hr⟩ := h
    refine WP.loop' (by kernel_rfl) (fun m_again3 => fun l I S => asSl (l 12) fun a_12 a_12n a_12c => asSl (l 13) fun b_13 b_13n b_13c => asSl (l 14) fun gone_14 gone_14n gone_14c => asSl (l 15) fun fresh_15 fresh_15n fresh_15c => asSl (l 16) fun rest_16 rest_16n rest_16c => asSl (l 41) fun x41 x41n x41c => asI .i64 (l 42) fun x42 => asI .i64 (l 43) fun x43 => Inv_again3 m_again3 a_12 a_12n a_12c b_13 b_13n b_13c gone_14 gone_14n gone_14c fresh_15 fresh_15n fresh_15c rest_16 rest_16n rest_16c x41 x41n x41c x42 x43 I S) m_again3 (cast (by kernel_rfl) h0) ?_
    clear h0
    intro m_again3 l I S hle h
    obtain ⟨a_12, a_12n, a_12c, e12, h⟩ := asSl_e h
    obtain ⟨b_13, b_13n, b_13c, e13, h⟩ := asSl_e h
    obtain ⟨gone_14, gone_14n, gone_14c, e14, h⟩ := asSl_e h
    obtain ⟨fresh_15, fresh_15n, fresh_15c, e15, h⟩ := asSl_e h
    obtain ⟨rest_16, rest_16n, rest_16c, e16, h⟩ := asSl_e h
    obtain ⟨x41, x41n, x41c, e41, h⟩ := asSl_e h
    obtain ⟨x42, e42, h⟩ := asI_e h
    obtain ⟨x43, e43, h⟩ := asI_e h
    rw [upd_eta e12, upd_eta e13, upd_eta e14, upd_eta e15, upd_eta e16, upd_eta e41, upd_eta e42, upd_eta e43]
    have h := hr m_again3 a_12 a_12n a_12c b_13 b_13n b_13c gone_14 gone_14n gone_14c fresh_15 fresh_15n fresh_15c rest_16 rest_16n rest_16c x41 x41n x41c x42 x43 I S hle h
    clear hr hle
    refine WP.cut 3 (fun l I S => asSl (l 12) fun a_12 a_12n a_12c => asSl (l 13) fun b_13 b_13n b_13c => asSl (l 14) fun gone_14 gone_14n gone_14c => asSl (l 15) fun fresh_15 fresh_15n fresh_15c => asSl (l 16) fun rest_16 rest_16n rest_16c => asSl (l 41) fun x41 x41n x41c => asI .i64 (l 42) fun x42 => asI .i64 (l 43) fun x43 => bolterlaw10_ApplyBetween_b4 (fun a_12 a_12n a_12c b_13 b_13n b_13c gone_14 gone_14n gone_14c fresh_15 fresh_15n fresh_15c rest_16 rest_16n rest_16c x41 x41n x41c x42 x43 I S => ∃ m', m' < m_again3 ∧ Inv_again3 m' a_12 a_12n a_12c b_13 b_13n b_13c gone_14 gone_14n gone_14c fresh_15 fresh_15n fresh_15c rest_16 rest_16n rest_16c x41 x41n x41c x42 x43 I S) R a_12 a_12n a_12c b_13 b_13n b_13c gone_14 gone_14n gone_14c fresh_15 fresh_15n fresh_15c rest_16 rest_16n rest_16c x41 x41n x41c x42 x43 I S) (cast (by kernel_rfl) h) ?_
    clear h
    intro l I S _ h
    obtain ⟨a_12, a_12n, a_12c, e12, h⟩ := asSl_e h
    obtain ⟨b_13, b_13n, b_13c, e13, h⟩ := asSl_e h
    obtain ⟨gone_14, gone_14n, gone_14c, e14, h⟩ := asSl_e h
    obtain ⟨fresh_15, fresh_15n, fresh_15c, e15, h⟩ := asSl_e h
    obtain ⟨rest_16, rest_16n, rest_16c, e16, h⟩ := asSl_e h
    obtain ⟨x41, x41n, x41c, e41, h⟩ := asSl_e h
    obtain ⟨x42, e42, h⟩ := asI_e h
    obtain ⟨x43, e43, h⟩ := asI_e h
    rw [upd_eta e12, upd_eta e13, upd_eta e14, upd_eta e15, upd_eta e16, upd_eta e41, upd_eta e42, upd_eta e43]
    exact Pre.sound _ _ _ _ _ (cast (by kernel_rfl) h)
  · clear h
    intro l I S _ h
    obtain ⟨a_12, a_12n, a_12c, e12, h⟩ := asSl_e h
    obtain ⟨b_13, b_13n, b_13c, e13, h⟩ := asSl_e h
    obtain ⟨gone_14, gone_14n, gone_14c, e14, h⟩ := asSl_e h
    obtain ⟨fresh_15, fresh_15n, fresh_15c, e15, h⟩ := asSl_e h
    obtain ⟨rest_16, rest_16n, rest_16c, e16, h⟩ := asSl_e h
    rw [upd_eta e12, upd_eta e13, upd_eta e14, upd_eta e15, upd_eta e16]
    refine WP.seqY (by kernel_rfl) (fun l I S => asSl (l 12) fun a_12 a_12n a_12c => asSl (l 13) fun b_13 b_13n b_13c => asSl (l 14) fun gone_14 gone_14n gone_14c => asSl (l 15) fun fresh_15 fresh_15n fresh_15c => asSl (l 16) fun rest_16 rest_16n rest_16c => bolterlaw10_ApplyBetween_b7 R a_12 a_12n a_12c b_13 b_13n b_13c gone_14 gone_14n gone_14c fresh_15 fresh_15n fresh_15c rest_16 rest_16n rest_16c I S) ?_ ?_
    ·
      refine WP.cut 1 (fun l I S => asSl (l 12) fun a_12 a_12n a_12c => asSl (l 13) fun b_13 b_13n b_13c => asSl (l 14) fun gone_14 gone_14n gone_14c => asSl (l 15) fun fresh_15 fresh_15n fresh_15c => asSl (l 16) fun rest_16 rest_16n rest_16c => asB (l 72) fun x72 => bolterlaw10_ApplyBetween_b6 R a_12 a_12n a_12c b_13 b_13n b_13c gone_14 gone_14n gone_14c fresh_15 fresh_15n fresh_15c rest_16 rest_16n rest_16c x72 I S) (cast (by kernel_rfl) h) ?_
      clear h
      intro l I S _ h
      obtain ⟨a_12, a_12n, a_12c, e12, h⟩ := asSl_e h
      obtain ⟨b_13, b_13n, b_13c, e13, h⟩ := asSl_e h
      obtain ⟨gone_14, gone_14n, gone_14c, e14, h⟩ := asSl_e h
      obtain ⟨fresh_15, fresh_15n, fresh_15c, e15, h⟩ := asSl_e h
      obtain ⟨rest_16, rest_16n, rest_16c, e16, h⟩ := asSl_e h
      obtain ⟨x72, e72, h⟩ := asB_e h
      rw [upd_eta e12, upd_eta e13, upd_eta e14, upd_eta e15, upd_eta e16, upd_eta e72]
      exact Pre.sound _ _ _ _ _ (cast (by kernel_rfl) h)
    · clear h
      intro l I S _ h
      obtain ⟨a_12, a_12n, a_12c, e12, h⟩ := asSl_e h
      obtain ⟨b_13, b_13n, b_13c, e13, h⟩ := asSl_e h
      obtain ⟨gone_14, gone_14n, gone_14c, e14, h⟩ := asSl_e h
      obtain ⟨fresh_15, fresh_15n, fresh_15c, e15, h⟩ := asSl_e h
      obtain ⟨rest_16, rest_16n, rest_16c, e16, h⟩ := asSl_e h
      rw [upd_eta e12, upd_eta e13, upd_eta e14, upd_eta e15, upd_eta e16]
      refine WP.seqY (by kernel_rfl) (fun l I S => asSl (l 13) fun b_13 b_13n b_13c => asSl (l 15) fun fresh_15 fresh_15n fresh_15c => asSl (l 16) fun rest_16 rest_16n rest_16c => bolterlaw10_ApplyBetween_b14 R b_13 b_13n b_13c fresh_15 fresh_15n fresh_15c rest_16 rest_16n rest_16c I S) ?_ ?_
      ·
        refine WP.cut 1 (fun l I S => asSl (l 12) fun a_12 a_12n a_12c => asSl (l 13) fun b_13 b_13n b_13c => asSl (l 14) fun gone_14 gone_14n gone_14c => asSl (l 15) fun fresh_15 fresh_15n fresh_15c => asSl (l 16) fun rest_16 rest_16n rest_16c => asSl (l 73) fun x73 x73n x73c => asI .i64 (l 74) fun x74 => asI .i64 (l 75) fun x75 => bolterlaw10_ApplyBetween_b8 R a_12 a_12n a_12c b_13 b_13n b_13c gone_14 gone_14n gone_14c fresh_15 fresh_15n fresh_15c rest_16 rest_16n rest_16c x73 x73n x73c x74 x75 I S) (cast (by kernel_rfl) h) ?_
        clear h
        intro l I S _ h
        obtain ⟨a_12, a_12n, a_12c, e12, h⟩ := asSl_e h
        obtain ⟨b_13, b_13n, b_13c, e13, h⟩ := asSl_e h
        obtain ⟨gone_14, gone_14n, gone_14c, e14, h⟩ := asSl_e h
        obtain ⟨fresh_15, fresh_15n, fresh_15c, e15, h⟩ := asSl_e h
        obtain ⟨rest_16, rest_16n, rest_16c, e16, h⟩ := asSl_e h
        obtain ⟨x73, x73n, x73c, e73, h⟩ := asSl_e h
        obtain ⟨x74, e74, h⟩ := asI_e h
        obtain ⟨x75, e75, h⟩ := asI_e h
        rw [upd_eta e12, upd_eta e13, upd_eta e14, upd_eta e15, upd_eta e16, upd_eta e73, upd_eta e74, upd_eta e75]
        refine WP.block' (by kernel_rfl) ?_
        obtain ⟨Inv_again9, m_again9, h0, hr⟩ := h
        refine WP.loop' (by kernel_rfl) (fun m_again9 => fun l I S => asSl (l 12) fun a_12 a_12n a_12c => asSl (l 13) fun b_13 b_13n b_13c => asSl (l 14) fun gone_14 gone_14n gone_14c => asSl (l 15) fun fresh_15 fresh_15n fresh_15c => asSl (l 16) fun rest_16 rest_16n rest_16c => asSl (l 73) fun x73 x73n x73c => asI .i64 (l 74) fun x74 => asI .i64 (l 75) fun x75 => Inv_again9 m_again9 a_12 a_12n a_12c b_13 b_13n b_13c gone_14 gone_14n gone_14c fresh_15 fresh_15n fresh_15c rest_16 rest_16n rest_16c x73 x73n x73c x74 x75 I S) m_again9 (cast (by kernel_rfl) h0) ?_
        clear h0
        intro m_again9 l I S hle h
        obtain ⟨a_12, a_12n, a_12c, e12, h⟩ := asSl_e h
        obtain ⟨b_13, b_13n, b_13c, e13, h⟩ := asSl_e h
        obtain ⟨gone_14, gone_14n, gone_14c, e14, h⟩ := asSl_e h
        obtain ⟨fresh_15, fresh_15n, fresh_15c, e15, h⟩ := asSl_e h
        obtain ⟨rest_16, rest_16n, rest_16c, e16, h⟩ := asSl_e h
        obtain ⟨x73, x73n, x73c, e73, h⟩ := asSl_e h
        obtain ⟨x74, e74, h⟩ := asI_e h
        obtain ⟨x75, e75, h⟩ := asI_e h
        rw [upd_eta e12, upd_eta e13, upd_eta e14, upd_eta e15, upd_eta e16, upd_eta e73, upd_eta e74, upd_eta e75]
        have h := hr m_again9 a_12 a_12n a_12c b_13 b_13n b_13c gone_14 gone_14n gone_14c fresh_15 fresh_15n fresh_15c rest_16 rest_16n rest_16c x73 x73n x73c x74 x75 I S hle h
        clear hr hle
        refine WP.cut 2 (fun l I S => asSl (l 12) fun a_12 a_12n a_12c => asSl (l 13) fun b_13 b_13n b_13c => asSl (l 14) fun gone_14 gone_14n gone_14c => asSl (l 15) fun fresh_15 fresh_15n fresh_15c => asSl (l 16) fun rest_16 rest_16n rest_16c => asSl (l 73) fun x73 x73n x73c => asI .i64 (l 74) fun x74 => asI .i64 (l 75) fun x75 => bolterlaw10_ApplyBetween_b10 (fun a_12 a_12n a_12c b_13 b_13n b_13c gone_14 gone_14n gone_14c fresh_15 fresh_15n fresh_15c rest_16 rest_16n rest_16c x73 x73n x73c x74 x75 I S => ∃ m', m' < m_again9 ∧ Inv_again9 m' a_12 a_12n a_12c b_13 b_13n b_13c gone_14 gone_14n gone_14c fresh_15 fresh_15n fresh_15c rest_16 rest_16n rest_16c x73 x73n x73c x74 x75 I S) R a_12 a_12n a_12c b_13 b_13n b_13c gone_14 gone_14n gone_14c fresh_15 fresh_15n fresh_15c rest_16 rest_16n rest_16c x73 x73n x73c x74 x75 I S) (cast (by kernel_rfl) h) ?_
        clear h
        intro l I S _ h
        obtain ⟨a_12, a_12n, a_12c, e12, h⟩ := asSl_e h
        obtain ⟨b_13, b_13n, b_13c, e13, h⟩ := asSl_e h
        obtain ⟨gone_14, gone_14n, gone_14c, e14, h⟩ := asSl_e h
        obtain ⟨fresh_15, fresh_15n, fresh_15c, e15, h⟩ := asSl_e h
        obtain ⟨rest_16, rest_16n, rest_16c, e16, h⟩ := asSl_e h
        obtain ⟨x73, x73n, x73c, e73, h⟩ := asSl_e h
        obtain ⟨x74, e74, h⟩ := asI_e h
        obtain ⟨x75, e75, h⟩ := asI_e h
        rw [upd_eta e12, upd_eta e13, upd_eta e14, upd_eta e15, upd_eta e16, upd_eta e73, upd_eta e74, upd_eta e75]
        refine WP.seqY (by kernel_rfl) (fun l I S => asSl (l 12) fun a_12 a_12n a_12c => asSl (l 13) fun b_13 b_13n b_13c => asSl (l 14) fun gone_14 gone_14n gone_14c => asSl (l 15) fun fresh_15 fresh_15n fresh_15c => asSl (l 16) fun rest_16 rest_16n rest_16c => asSl (l 73) fun x73 x73n x73c => asI .i64 (l 74) fun x74 => asI .i64 (l 75) fun x75 => bolterlaw10_ApplyBetween_b13 (fun a_12 a_12n a_12c b_13 b_13n b_13c gone_14 gone_14n gone_14c fresh_15 fresh_15n fresh_15c rest_16 rest_16n rest_16c x73 x73n x73c x74 x75 I S => ∃ m', m' < m_again9 ∧ Inv_again9 m' a_12 a_12n a_12c b_13 b_13n b_13c gone_14 gone_14n gone_14c fresh_15 fresh_15n fresh_15c rest_16 rest_16n rest_16c x73 x73n x73c x74 x75 I S) R a_12 a_12n a_12c b_13 b_13n b_13c gone_14 gone_14n gone_14c fresh_15 fresh_15n fresh_15c rest_16 rest_16n rest_16c x73 x73n x73c x74 x75 I S) ?_ ?_
        ·
          refine WP.block' (by kernel_rfl) ?_
          refine WP.cut 1 (fun l I S => asSl (l 12) fun a_12 a_12n a_12c => asSl (l 13) fun b_13 b_13n b_13c => asSl (l 14) fun gone_14 gone_14n gone_14c => asSl (l 15) fun fresh_15 fresh_15n fresh_15c => asSl (l 16) fun rest_16 rest_16n rest_16c => asI .i64 (l 19) fun k_19 => asAdr (l 20) fun r_20 => asSl (l 73) fun x73 x73n x73c => asI .i64 (l 74) fun x74 => asI .i64 (l 75) fun x75 => bolterlaw10_ApplyBetween_b11 (fun a_12 a_12n a_12c b_13 b_13n b_13c gone_14 gone_14n gone_14c fresh_15 fresh_15n fresh_15c rest_16 rest_16n rest_16c x73 x73n x73c x74 x75 I S => ∃ m', m' < m_again9 ∧ Inv_again9 m' a_12 a_12n a_12c b_13 b_13n b_13c gone_14 gone_14n gone_14c fresh_15 fresh_15n fresh_15c rest_16 rest_16n rest_16c x73 x73n x73c x74 x75 I S) R a_12 a_12n a_12c b_13 b_13n b_13c gone_14 gone_14n gone_14c fresh_15 fresh_15n fresh_15c rest_16 rest_16n rest_16c k_19 r_20 x73 x73n x73c x74 x75 I S) (cast (by kernel_rfl) h) ?_
          clear h
          intro l I S _ h
          obtain ⟨a_12, a_12n, a_12c, e12, h⟩ := asSl_e h
          obtain ⟨b_13, b_13n, b_13c, e13, h⟩ := asSl_e h
          obtain ⟨gone_14, gone_14n, gone_14c, e14, h⟩ := asSl_e h
          obtain ⟨fresh_15, fresh_15n, fresh_15c, e15, h⟩ := asSl_e h
          obtain ⟨rest_16, rest_16n, rest_16c, e16, h⟩ := asSl_e h
          obtain ⟨k_19, e19, h⟩ := asI_e h
          obtain ⟨r_20, e20, h⟩ := asAdr_e h
          obtain ⟨x73, x73n, x73c, e73, h⟩ := asSl_e h
          obtain ⟨x74, e74, h⟩ := asI_e h
          obtain ⟨x75, e75, h⟩ := asI_e h
          rw [upd_eta e12, upd_eta e13, upd_eta e14, upd_eta e15, upd_eta e16, upd_eta e19, upd_eta e20, upd_eta e73, upd_eta e74, upd_eta e75]
          refine WP.seqY (by kernel_rfl) (fun l I S => asSl (l 12) fun a_12 a_12n a_12c => asSl (l 13) fun b_13 b_13n b_13c => asSl (l 14) fun gone_14 gone_14n gone_14c => asSl (l 15) fun fresh_15 fresh_15n fresh_15c => asSl (l 16) fun rest_16 rest_16n rest_16c => asSl (l 73) fun x73 x73n x73c => asI .i64 (l 74) fun x74 => asI .i64 (l 75) fun x75 => asB (l 102) fun x102 => bolterlaw10_ApplyBetween_b12 (fun a_12 a_12n a_12c b_13 b_13n b_13c gone_14 gone_14n gone_14c fresh_15 fresh_15n fresh_15c rest_16 rest_16n rest_16c x73 x73n x73c x74 x75 I S => ∃ m', m' < m_again9 ∧ Inv_again9 m' a_12 a_12n a_12c b_13 b_13n b_13c gone_14 gone_14n gone_14c fresh_15 fresh_15n fresh_15c rest_16 rest_16n rest_16c x73 x73n x73c x74 x75 I S) R a_12 a_12n a_12c b_13 b_13n b_13c gone_14 gone_14n gone_14c fresh_15 fresh_15n fresh_15c rest_16 rest_16n rest_16c x73 x73n x73c x74 x75 x102 I S) ?_ ?_
          ·
            exact WP.quiet' (by kernel_rfl) (by kernel_rfl) (by kernel_rfl) (cast (by kernel_rfl) h)
          · clear h
            intro l I S _ h
            obtain ⟨a_12, a_12n, a_12c, e12, h⟩ := asSl_e h
            obtain ⟨b_13, b_13n, b_13c, e13, h⟩ := asSl_e h
            obtain ⟨gone_14, gone_14n, gone_14c, e14, h⟩ := asSl_e h
            obtain ⟨fresh_15, fresh_15n, fresh_15c, e15, h⟩ := asSl_e h
            obtain ⟨rest_16, rest_16n, rest_16c, e16, h⟩ := asSl_e h
            obtain ⟨x73, x73n, x73c, e73, h⟩ := asSl_e h
            obtain ⟨x74, e74, h⟩ := asI_e h
            obtain ⟨x75, e75, h⟩ := asI_e h
            obtain ⟨x102, e102, h⟩ := asB_e h
            rw [upd_eta e12, upd_eta e13, upd_eta e14, upd_eta e15, upd_eta e16, upd_eta e73, upd_eta e74, upd_eta e75, upd_eta e102]
            exact Pre.sound _ _ _ _ _ (cast (by kernel_rfl) h)
        · clear h
          intro l I S _ h
          obtain ⟨a_12, a_12n, a_12c, e12, h⟩ := asSl_e h
          obtain ⟨b_13, b_13n, b_13c, e13, h⟩ := asSl_e h
          obtain ⟨gone_14, gone_14n, gone_14c, e14, h⟩ := asSl_e h
          obtain ⟨fresh_15, fresh_15n, fresh_15c, e15, h⟩ := asSl_e h
          obtain ⟨rest_16, rest_16n, rest_16c, e16, h⟩ := asSl_e h
          obtain ⟨x73, x73n, x73c, e73, h⟩ := asSl_e h
          obtain ⟨x74, e74, h⟩ := asI_e h
          obtain ⟨x75, e75, h⟩ := asI_e h
          rw [upd_eta e12, upd_eta e13, upd_eta e14, upd_eta e15, upd_eta e16, upd_eta e73, upd_eta e74, upd_eta e75]
          exact Pre.sound _ _ _ _ _ (cast (by kernel_rfl) h)
      · clear h
        intro l I S _ h
        obtain ⟨b_13, b_13n, b_13c, e13, h⟩ := asSl_e h
        obtain ⟨fresh_15, fresh_15n, fresh_15c, e15, h⟩ := asSl_e h
        obtain ⟨rest_16, rest_16n, rest_16c, e16, h⟩ := asSl_e h
        rw [upd_eta e13, upd_eta e15, upd_eta e16]
        exact Pre.sound _ _ _ _ _ (cast (by kernel_rfl) h)
/-! ### bolterlaw10_ApplyBack: function 6, bolter/bolterlaw10.ApplyBack -/
noncomputable def bolterlaw10_ApplyBack_code : Code := (Tryd.f6.body).getD .skip
def bolterlaw10_ApplyBack_b6 (again3 : Option Addr → Nat → Nat → Option Addr → Nat → Nat → Addr → Addr → Option Addr → Nat → Nat → Option Addr → Nat → Nat → Int → Int → IMem → SH → Prop) (R : Value → IMem → SH → Prop) (a_8 : Option Addr) (a_8n : Nat) (a_8c : Nat) (b_9 : Option Addr) (b_9n : Nat) (b_9c : Nat) (d_10 : Addr) (back_11 : Addr) (fresh_13 : Option Addr) (fresh_13n : Nat) (fresh_13c : Nat) (x48 : Option Addr) (x48n : Nat) (x48c : Nat) (x49 : Int) (x50 : Int) (I : IMem) (S : SH) : Prop :=
  again3 a_8 a_8n a_8c b_9 b_9n b_9c d_10 back_11 fresh_13 fresh_13n fresh_13c x48 x48n x48c x49 (IntKind.wrap .i64 (x50 + (1 : Int))) I S
def bolterlaw10_ApplyBack_b5 (again3 : Option Addr → Nat → Nat → Option Addr → Nat → Nat → Addr → Addr → Option Addr → Nat → Nat → Option Addr → Nat → Nat → Int → Int → IMem → SH → Prop) (R : Value → IMem → SH → Prop) (a_8 : Option Addr) (a_8n : Nat) (a_8c : Nat) (b_9 : Option Addr) (b_9n : Nat) (b_9c : Nat) (d_10 : Addr) (back_11 : Addr) (fresh_13 : Option Addr) (fresh_13n : Nat) (fresh_13c : Nat) (r_15 : Addr) (x48 : Option Addr) (x48n : Nat) (x48c : Nat) (x49 : Int) (x50 : Int) (x56 : Bool) (I : IMem) (S : SH) : Prop :=
  bcase x56
    (∃ F1 : SH, Keep I F1 I S ∧
    ∃ x58 x58n x58c, Cell I F1 (d_10.add 8) (.slice x58 x58n x58c) ∧
    ∃ x59_0, Cell I F1 r_15 (.string x59_0) ∧
    ∃ x59_1, Cell I F1 (r_15.add 1) (.int .u16 x59_1) ∧
    ∃ x59_2, Cell I F1 (r_15.add 2) (.int .u32 x59_2) ∧
    ∃ x59_3, Cell I F1 (r_15.add 3) (.string x59_3) ∧
    ∃ x63 x63n x63c, Cell I F1 (back_11.add 9) (.slice x63 x63n x63c) ∧
    ∃ x64_0, Cell I F1 r_15 (.string x64_0) ∧
    ∃ x64_1, Cell I F1 (r_15.add 1) (.int .u16 x64_1) ∧
    ∃ x64_2, Cell I F1 (r_15.add 2) (.int .u32 x64_2) ∧
    ∃ x64_3, Cell I F1 (r_15.add 3) (.string x64_3) ∧
    (∀ b60 : Nat,
    Keep I F1 I ((b60, .cells #[.string x59_0, .int .u16 x59_1, .int .u32 x59_2, .string x59_3] 36 (0, 0)) :: S) ∧
    (AppG 36 4 40 [.string ⟨#[]⟩, .int .u16 0, .int .u32 0, .string ⟨#[]⟩] (some (.slice 36)) I ((b60, .cells #[.string x59_0, .int .u16 x59_1, .int .u32 x59_2, .string x59_3] 36 (0, 0)) :: S) (.slice x58 x58n x58c) (.slice (some ⟨b60, 0, none⟩) 1 1) fun x61 x61n x61c S1 =>
    Keep I F1 I S1 ∧
    ∀ b65 : Nat,
    Keep I F1 I ((b65, .cells #[.string x64_0, .int .u16 x64_1, .int .u32 x64_2, .string x64_3] 36 (0, 0)) :: S1) ∧
    AppG 36 4 40 [.string ⟨#[]⟩, .int .u16 0, .int .u32 0, .string ⟨#[]⟩] (some (.slice 36)) I ((b65, .cells #[.string x64_0, .int .u16 x64_1, .int .u32 x64_2, .string x64_3] 36 (0, 0)) :: S1) (.slice x63 x63n x63c) (.slice (some ⟨b65, 0, none⟩) 1 1) fun x66 x66n x66c S1' =>
    StP S1' (d_10.add 8) [.slice x61 x61n x61c] fun S1'' =>
    StP S1'' (back_11.add 9) [.slice x66 x66n x66c] fun S1_r3 =>
    bolterlaw10_ApplyBack_b6 again3 R a_8 a_8n a_8c b_9 b_9n b_9c d_10 back_11 fresh_13 fresh_13n fresh_13c x48 x48n x48c x49 x50 I S1_r3) ∧
    (∀ b65' : Nat,
    Keep I F1 I ((b65', .cells #[.string x64_0, .int .u16 x64_1, .int .u32 x64_2, .string x64_3] 36 (0, 0)) :: ((b60, .cells #[.string x59_0, .int .u16 x59_1, .int .u32 x59_2, .string x59_3] 36 (0, 0)) :: S)) ∧
    AppG 36 4 40 [.string ⟨#[]⟩, .int .u16 0, .int .u32 0, .string ⟨#[]⟩] (some (.slice 36)) I ((b65', .cells #[.string x64_0, .int .u16 x64_1, .int .u32 x64_2, .string x64_3] 36 (0, 0)) :: ((b60, .cells #[.string x59_0, .int .u16 x59_1, .int .u32 x59_2, .string x59_3] 36 (0, 0)) :: S)) (.slice x58 x58n x58c) (.slice (some ⟨b60, 0, none⟩) 1 1) fun x61' x61'n x61'c S1_r4 =>
    Keep I F1 I S1_r4 ∧
    AppG 36 4 40 [.string ⟨#[]⟩, .int .u16 0, .int .u32 0, .string ⟨#[]⟩] (some (.slice 36)) I S1_r4 (.slice x63 x63n x63c) (.slice (some ⟨b65', 0, none⟩) 1 1) fun x66' x66'n x66'c S1_r5 =>
    StP S1_r5 (d_10.add 8) [.slice x61' x61'n x61'c] fun S1_r6 =>
    StP S1_r6 (back_11.add 9) [.slice x66' x66'n x66'c] fun S1_r7 =>
    bolterlaw10_ApplyBack_b6 again3 R a_8 a_8n a_8c b_9 b_9n b_9c d_10 back_11 fresh_13 fresh_13n fresh_13c x48 x48n x48c x49 x50 I S1_r7)) ∧
    (∀ b65'' : Nat,
    Keep I F1 I ((b65'', .cells #[.string x64_0, .int .u16 x64_1, .int .u32 x64_2, .string x64_3] 36 (0, 0)) :: S) ∧
    ∀ b60' : Nat,
    Keep I F1 I ((b60', .cells #[.string x59_0, .int .u16 x59_1, .int .u32 x59_2, .string x59_3] 36 (0, 0)) :: ((b65'', .cells #[.string x64_0, .int .u16 x64_1, .int .u32 x64_2, .string x64_3] 36 (0, 0)) :: S)) ∧
    AppG 36 4 40 [.string ⟨#[]⟩, .int .u16 0, .int .u32 0, .string ⟨#[]⟩] (some (.slice 36)) I ((b60', .cells #[.string x59_0, .int .u16 x59_1, .int .u32 x59_2, .string x59_3] 36 (0, 0)) :: ((b65'', .cells #[.string x64_0, .int .u16 x64_1, .int .u32 x64_2, .string x64_3] 36 (0, 0)) :: S)) (.slice x58 x58n x58c) (.slice (some ⟨b60', 0, none⟩) 1 1) fun x61'' x61''n x61''c S1_r8 =>
    Keep I F1 I S1_r8 ∧
    AppG 36 4 40 [.string ⟨#[]⟩, .int .u16 0, .int .u32 0, .string ⟨#[]⟩] (some (.slice 36)) I S1_r8 (.slice x63 x63n x63c) (.slice (some ⟨b65'', 0, none⟩) 1 1) fun x66'' x66''n x66''c S1_r9 =>
    StP S1_r9 (d_10.add 8) [.slice x61'' x61''n x61''c] fun S1_r10 =>
    StP S1_r10 (back_11.add 9) [.slice x66'' x66''n x66''c] fun S1_r11 =>
    bolterlaw10_ApplyBack_b6 again3 R a_8 a_8n a_8c b_9 b_9n b_9c d_10 back_11 fresh_13 fresh_13n fresh_13c x48 x48n x48c x49 x50 I S1_r11))
    (bolterlaw10_ApplyBack_b6 again3 R a_8 a_8n a_8c b_9 b_9n b_9c d_10 back_11 fresh_13 fresh_13n fresh_13c x48 x48n x48c x49 x50 I S)
def bolterlaw10_ApplyBack_b4 (again3 : Option Addr → Nat → Nat → Option Addr → Nat → Nat → Addr → Addr → Option Addr → Nat → Nat → Option Addr → Nat → Nat → Int → Int → IMem → SH → Prop) (R : Value → IMem → SH → Prop) (a_8 : Option Addr) (a_8n : Nat) (a_8c : Nat) (b_9 : Option Addr) (b_9n : Nat) (b_9c : Nat) (d_10 : Addr) (back_11 : Addr) (fresh_13 : Option Addr) (fresh_13n : Nat) (fresh_13c : Nat) (x48 : Option Addr) (x48n : Nat) (x48c : Nat) (x49 : Int) (x50 : Int) (I : IMem) (S : SH) : Prop :=
  ptrP x48 fun x52 => (0 : Int) ≤ x50 ∧ x50 < (x48n : Int) ∧
  ∃ x53_0, Cell I S (x52.add (x50.toNat * 4)) (.string x53_0) ∧
  ∃ x53_1, Cell I S ((x52.add (x50.toNat * 4)).add 1) (.int .u16 x53_1) ∧
  ∃ x53_2, Cell I S ((x52.add (x50.toNat * 4)).add 2) (.int .u32 x53_2) ∧
  ∃ x53_3, Cell I S ((x52.add (x50.toNat * 4)).add 3) (.string x53_3) ∧
  ∀ b15 : Nat,
  StP ((b15, .cells #[.string ⟨#[]⟩, .int .u16 0, .int .u32 0, .string ⟨#[]⟩] 36 (0, 0)) :: S) ⟨b15, 0, none⟩ [.string x53_0, .int .u16 x53_1, .int .u32 x53_2, .string x53_3] fun S1 =>
  ∃ x55, Cell I S1 ⟨b15, 1, none⟩ (.int .u16 x55) ∧
  bolterlaw10_ApplyBack_b5 again3 R a_8 a_8n a_8c b_9 b_9n b_9c d_10 back_11 fresh_13 fresh_13n fresh_13c ⟨b15, 0, none⟩ x48 x48n x48c x49 x50 (x55 != (6 : Int)) I S1
def bolterlaw10_ApplyBack_b12 (again9 : Option Addr → Nat → Nat → Option Addr → Nat → Nat → Addr → Addr → Option Addr → Nat → Nat → Int → Int → IMem → SH → Prop) (R : Value → IMem → SH → Prop) (a_8 : Option Addr) (a_8n : Nat) (a_8c : Nat) (b_9 : Option Addr) (b_9n : Nat) (b_9c : Nat) (d_10 : Addr) (back_11 : Addr) (x70 : Option Addr) (x70n : Nat) (x70c : Nat) (x71 : Int) (x72 : Int) (I : IMem) (S : SH) : Prop :=
  again9 a_8 a_8n a_8c b_9 b_9n b_9c d_10 back_11 x70 x70n x70c x71 (IntKind.wrap .i64 (x72 + (1 : Int))) I S
def bolterlaw10_ApplyBack_b11 (again9 : Option Addr → Nat → Nat → Option Addr → Nat → Nat → Addr → Addr → Option Addr → Nat → Nat → Int → Int → IMem → SH → Prop) (R : Value → IMem → SH → Prop) (a_8 : Option Addr) (a_8n : Nat) (a_8c : Nat) (b_9 : Option Addr) (b_9n : Nat) (b_9c : Nat) (d_10 : Addr) (back_11 : Addr) (r_17 : Addr) (x70 : Option Addr) (x70n : Nat) (x70c : Nat) (x71 : Int) (x72 : Int) (x78 : Bool) (I : IMem) (S : SH) : Prop :=
  bcase x78
    (∃ F1 : SH, Keep I F1 I S ∧
    ∃ x80 x80n x80c, Cell I F1 (d_10.add 9) (.slice x80 x80n x80c) ∧
    ∃ x81_0, Cell I F1 r_17 (.string x81_0) ∧
    ∃ x81_1, Cell I F1 (r_17.add 1) (.int .u16 x81_1) ∧
    ∃ x81_2, Cell I F1 (r_17.add 2) (.int .u32 x81_2) ∧
    ∃ x81_3, Cell I F1 (r_17.add 3) (.string x81_3) ∧
    ∃ x85 x85n x85c, Cell I F1 (back_11.add 8) (.slice x85 x85n x85c) ∧
    ∃ x86_0, Cell I F1 r_17 (.string x86_0) ∧
    ∃ x86_1, Cell I F1 (r_17.add 1) (.int .u16 x86_1) ∧
    ∃ x86_2, Cell I F1 (r_17.add 2) (.int .u32 x86_2) ∧
    ∃ x86_3, Cell I F1 (r_17.add 3) (.string x86_3) ∧
    (∀ b82 : Nat,
    Keep I F1 I ((b82, .cells #[.string x81_0, .int .u16 x81_1, .int .u32 x81_2, .string x81_3] 36 (0, 0)) :: S) ∧
    (AppG 36 4 40 [.string ⟨#[]⟩, .int .u16 0, .int .u32 0, .string ⟨#[]⟩] (some (.slice 36)) I ((b82, .cells #[.string x81_0, .int .u16 x81_1, .int .u32 x81_2, .string x81_3] 36 (0, 0)) :: S) (.slice x80 x80n x80c) (.slice (some ⟨b82, 0, none⟩) 1 1) fun x83 x83n x83c S1 =>
    Keep I F1 I S1 ∧
    ∀ b87 : Nat,
    Keep I F1 I ((b87, .cells #[.string x86_0, .int .u16 x86_1, .int .u32 x86_2, .string x86_3] 36 (0, 0)) :: S1) ∧
    AppG 36 4 40 [.string ⟨#[]⟩, .int .u16 0, .int .u32 0, .string ⟨#[]⟩] (some (.slice 36)) I ((b87, .cells #[.string x86_0, .int .u16 x86_1, .int .u32 x86_2, .string x86_3] 36 (0, 0)) :: S1) (.slice x85 x85n x85c) (.slice (some ⟨b87, 0, none⟩) 1 1) fun x88 x88n x88c S1' =>
    StP S1' (d_10.add 9) [.slice x83 x83n x83c] fun S1'' =>
    StP S1'' (back_11.add 8) [.slice x88 x88n x88c] fun S1_r3 =>
    bolterlaw10_ApplyBack_b12 again9 R a_8 a_8n a_8c b_9 b_9n b_9c d_10 back_11 x70 x70n x70c x71 x72 I S1_r3) ∧
    (∀ b87' : Nat,
    Keep I F1 I ((b87', .cells #[.string x86_0, .int .u16 x86_1, .int .u32 x86_2, .string x86_3] 36 (0, 0)) :: ((b82, .cells #[.string x81_0, .int .u16 x81_1, .int .u32 x81_2, .string x81_3] 36 (0, 0)) :: S)) ∧
    AppG 36 4 40 [.string ⟨#[]⟩, .int .u16 0, .int .u32 0, .string ⟨#[]⟩] (some (.slice 36)) I ((b87', .cells #[.string x86_0, .int .u16 x86_1, .int .u32 x86_2, .string x86_3] 36 (0, 0)) :: ((b82, .cells #[.string x81_0, .int .u16 x81_1, .int .u32 x81_2, .string x81_3] 36 (0, 0)) :: S)) (.slice x80 x80n x80c) (.slice (some ⟨b82, 0, none⟩) 1 1) fun x83' x83'n x83'c S1_r4 =>
    Keep I F1 I S1_r4 ∧
    AppG 36 4 40 [.string ⟨#[]⟩, .int .u16 0, .int .u32 0, .string ⟨#[]⟩] (some (.slice 36)) I S1_r4 (.slice x85 x85n x85c) (.slice (some ⟨b87', 0, none⟩) 1 1) fun x88' x88'n x88'c S1_r5 =>
    StP S1_r5 (d_10.add 9) [.slice x83' x83'n x83'c] fun S1_r6 =>
    StP S1_r6 (back_11.add 8) [.slice x88' x88'n x88'c] fun S1_r7 =>
    bolterlaw10_ApplyBack_b12 again9 R a_8 a_8n a_8c b_9 b_9n b_9c d_10 back_11 x70 x70n x70c x71 x72 I S1_r7)) ∧
    (∀ b87'' : Nat,
    Keep I F1 I ((b87'', .cells #[.string x86_0, .int .u16 x86_1, .int .u32 x86_2, .string x86_3] 36 (0, 0)) :: S) ∧
    ∀ b82' : Nat,
    Keep I F1 I ((b82', .cells #[.string x81_0, .int .u16 x81_1, .int .u32 x81_2, .string x81_3] 36 (0, 0)) :: ((b87'', .cells #[.string x86_0, .int .u16 x86_1, .int .u32 x86_2, .string x86_3] 36 (0, 0)) :: S)) ∧
    AppG 36 4 40 [.string ⟨#[]⟩, .int .u16 0, .int .u32 0, .string ⟨#[]⟩] (some (.slice 36)) I ((b82', .cells #[.string x81_0, .int .u16 x81_1, .int .u32 x81_2, .string x81_3] 36 (0, 0)) :: ((b87'', .cells #[.string x86_0, .int .u16 x86_1, .int .u32 x86_2, .string x86_3] 36 (0, 0)) :: S)) (.slice x80 x80n x80c) (.slice (some ⟨b82', 0, none⟩) 1 1) fun x83'' x83''n x83''c S1_r8 =>
    Keep I F1 I S1_r8 ∧
    AppG 36 4 40 [.string ⟨#[]⟩, .int .u16 0, .int .u32 0, .string ⟨#[]⟩] (some (.slice 36)) I S1_r8 (.slice x85 x85n x85c) (.slice (some ⟨b87'', 0, none⟩) 1 1) fun x88'' x88''n x88''c S1_r9 =>
    StP S1_r9 (d_10.add 9) [.slice x83'' x83''n x83''c] fun S1_r10 =>
    StP S1_r10 (back_11.add 8) [.slice x88'' x88''n x88''c] fun S1_r11 =>
    bolterlaw10_ApplyBack_b12 again9 R a_8 a_8n a_8c b_9 b_9n b_9c d_10 back_11 x70 x70n x70c x71 x72 I S1_r11))
    (bolterlaw10_ApplyBack_b12 again9 R a_8 a_8n a_8c b_9 b_9n b_9c d_10 back_11 x70 x70n x70c x71 x72 I S)
def bolterlaw10_ApplyBack_b10 (again9 : Option Addr → Nat → Nat → Option Addr → Nat → Nat → Addr → Addr → Option Addr → Nat → Nat → Int → Int → IMem → SH → Prop) (R : Value → IMem → SH → Prop) (a_8 : Option Addr) (a_8n : Nat) (a_8c : Nat) (b_9 : Option Addr) (b_9n : Nat) (b_9c : Nat) (d_10 : Addr) (back_11 : Addr) (x70 : Option Addr) (x70n : Nat) (x70c : Nat) (x71 : Int) (x72 : Int) (I : IMem) (S : SH) : Prop :=
  ptrP x70 fun x74 => (0 : Int) ≤ x72 ∧ x72 < (x70n : Int) ∧
  ∃ x75_0, Cell I S (x74.add (x72.toNat * 4)) (.string x75_0) ∧
  ∃ x75_1, Cell I S ((x74.add (x72.toNat * 4)).add 1) (.int .u16 x75_1) ∧
  ∃ x75_2, Cell I S ((x74.add (x72.toNat * 4)).add 2) (.int .u32 x75_2) ∧
  ∃ x75_3, Cell I S ((x74.add (x72.toNat * 4)).add 3) (.string x75_3) ∧
  ∀ b17 : Nat,
  StP ((b17, .cells #[.string ⟨#[]⟩, .int .u16 0, .int .u32 0, .string ⟨#[]⟩] 36 (0, 0)) :: S) ⟨b17, 0, none⟩ [.string x75_0, .int .u16 x75_1, .int .u32 x75_2, .string x75_3] fun S1 =>
  ∃ x77, Cell I S1 ⟨b17, 1, none⟩ (.int .u16 x77) ∧
  bolterlaw10_ApplyBack_b11 again9 R a_8 a_8n a_8c b_9 b_9n b_9c d_10 back_11 ⟨b17, 0, none⟩ x70 x70n x70c x71 x72 (x77 != (6 : Int)) I S1
def bolterlaw10_ApplyBack_b14 (R : Value → IMem → SH → Prop) (x6 : Bool) (I : IMem) (S : SH) : Prop :=
  R (.bool x6) I S
def bolterlaw10_ApplyBack_b13 (R : Value → IMem → SH → Prop) (a_8 : Option Addr) (a_8n : Nat) (a_8c : Nat) (b_9 : Option Addr) (b_9n : Nat) (b_9c : Nat) (d_10 : Addr) (back_11 : Addr) (I : IMem) (S : SH) : Prop :=
  ∃ x94_0, Cell I S d_10 (.string x94_0) ∧
  ∃ x94_1, Cell I S (d_10.add 1) (.int .u16 x94_1) ∧
  ∃ x94_2, Cell I S (d_10.add 2) (.int .u32 x94_2) ∧
  ∃ x94_3, Cell I S (d_10.add 3) (.string x94_3) ∧
  ∃ x94_4, Cell I S (d_10.add 4) (.string x94_4) ∧
  ∃ x94_5, Cell I S (d_10.add 5) (.int .u16 x94_5) ∧
  ∃ x94_6, Cell I S (d_10.add 6) (.int .u32 x94_6) ∧
  ∃ x94_7, Cell I S (d_10.add 7) (.string x94_7) ∧
  ∃ x94_8 x94_8n x94_8c, Cell I S (d_10.add 8) (.slice x94_8 x94_8n x94_8c) ∧
  ∃ x94_9 x94_9n x94_9c, Cell I S (d_10.add 9) (.slice x94_9 x94_9n x94_9c) ∧
  Runs Tryd.prog 23 #[.slice a_8 a_8n a_8c, .agg #[.string x94_0, .int .u16 x94_1, .int .u32 x94_2, .string x94_3, .string x94_4, .int .u16 x94_5, .int .u32 x94_6, .string x94_7, .slice x94_8 x94_8n x94_8c, .slice x94_9 x94_9n x94_9c]] I S fun v I1 S1 => ∃ x95_0 x95_0n x95_0c x95_1, v = .tuple #[.slice x95_0 x95_0n x95_0c, x95_1] ∧
  ∃ x100_0, Cell I1 S1 back_11 (.string x100_0) ∧
  ∃ x100_1, Cell I1 S1 (back_11.add 1) (.int .u16 x100_1) ∧
  ∃ x100_2, Cell I1 S1 (back_11.add 2) (.int .u32 x100_2) ∧
  ∃ x100_3, Cell I1 S1 (back_11.add 3) (.string x100_3) ∧
  ∃ x100_4, Cell I1 S1 (back_11.add 4) (.string x100_4) ∧
  ∃ x100_5, Cell I1 S1 (back_11.add 5) (.int .u16 x100_5) ∧
  ∃ x100_6, Cell I1 S1 (back_11.add 6) (.int .u32 x100_6) ∧
  ∃ x100_7, Cell I1 S1 (back_11.add 7) (.string x100_7) ∧
  ∃ x100_8 x100_8n x100_8c, Cell I1 S1 (back_11.add 8) (.slice x100_8 x100_8n x100_8c) ∧
  ∃ x100_9 x100_9n x100_9c, Cell I1 S1 (back_11.add 9) (.slice x100_9 x100_9n x100_9c) ∧
  Runs Tryd.prog 23 #[.slice x95_0 x95_0n x95_0c, .agg #[.string x100_0, .int .u16 x100_1, .int .u32 x100_2, .string x100_3, .string x100_4, .int .u16 x100_5, .int .u32 x100_6, .string x100_7, .slice x100_8 x100_8n x100_8c, .slice x100_9 x100_9n x100_9c]] I1 S1 fun v' I1' S1' => ∃ x101_0 x101_0n x101_0c x101_1, v' = .tuple #[.slice x101_0 x101_0n x101_0c, x101_1] ∧
  ∃ nl, isNilI x95_1 = some nl ∧
  bcase nl
    (∃ nl', isNilI x101_1 = some nl' ∧
    bcase nl'
      (Runs Tryd.prog 16 #[.slice x95_0 x95_0n x95_0c, .slice b_9 b_9n b_9c] I1' S1' fun v'' I1'' S1'' => ∃ x113, v'' = .bool x113 ∧
      bcase x113
        (Runs Tryd.prog 16 #[.slice x101_0 x101_0n x101_0c, .slice a_8 a_8n a_8c] I1'' S1'' fun v_r3 I1_r3 S1_r3 => ∃ x118, v_r3 = .bool x118 ∧
        bolterlaw10_ApplyBack_b14 R x118 I1_r3 S1_r3)
        (bolterlaw10_ApplyBack_b14 R false I1'' S1''))
      (bolterlaw10_ApplyBack_b14 R false I1' S1'))
    (bolterlaw10_ApplyBack_b14 R false I1' S1')
def bolterlaw10_ApplyBack_l9 (again9 : Option Addr → Nat → Nat → Option Addr → Nat → Nat → Addr → Addr → Option Addr → Nat → Nat → Int → Int → IMem → SH → Prop) (R : Value → IMem → SH → Prop) (a_8 : Option Addr) (a_8n : Nat) (a_8c : Nat) (b_9 : Option Addr) (b_9n : Nat) (b_9c : Nat) (d_10 : Addr) (back_11 : Addr) (x70 : Option Addr) (x70n : Nat) (x70c : Nat) (x71 : Int) (x72 : Int) (I : IMem) (S : SH) : Prop :=
  bcase (decide (x72 < x71))
    (bolterlaw10_ApplyBack_b10 again9 R a_8 a_8n a_8c b_9 b_9n b_9c d_10 back_11 x70 x70n x70c x71 x72 I S)
    (bolterlaw10_ApplyBack_b13 R a_8 a_8n a_8c b_9 b_9n b_9c d_10 back_11 I S)
def bolterlaw10_ApplyBack_b8 (R : Value → IMem → SH → Prop) (a_8 : Option Addr) (a_8n : Nat) (a_8c : Nat) (b_9 : Option Addr) (b_9n : Nat) (b_9c : Nat) (d_10 : Addr) (back_11 : Addr) (x70 : Option Addr) (x70n : Nat) (x70c : Nat) (x71 : Int) (x72 : Int) (I : IMem) (S : SH) : Prop :=
  ∃ (Inv : Nat → Option Addr → Nat → Nat → Option Addr → Nat → Nat → Addr → Addr → Option Addr → Nat → Nat → Int → Int → IMem → SH → Prop) (m : Nat), Inv m a_8 a_8n a_8c b_9 b_9n b_9c d_10 back_11 x70 x70n x70c x71 x72 I S ∧
    ∀ (m : Nat) (a_8 : Option Addr) (a_8n : Nat) (a_8c : Nat) (b_9 : Option Addr) (b_9n : Nat) (b_9c : Nat) (d_10 : Addr) (back_11 : Addr) (x70 : Option Addr) (x70n : Nat) (x70c : Nat) (x71 : Int) (x72 : Int) (J : IMem) (T : SH), I.le J → Inv m a_8 a_8n a_8c b_9 b_9n b_9c d_10 back_11 x70 x70n x70c x71 x72 J T →
      bolterlaw10_ApplyBack_l9 (fun a_8 a_8n a_8c b_9 b_9n b_9c d_10 back_11 x70 x70n x70c x71 x72 I S => ∃ m', m' < m ∧ Inv m' a_8 a_8n a_8c b_9 b_9n b_9c d_10 back_11 x70 x70n x70c x71 x72 I S) R a_8 a_8n a_8c b_9 b_9n b_9c d_10 back_11 x70 x70n x70c x71 x72 J T
def bolterlaw10_ApplyBack_b7 (R : Value → IMem → SH → Prop) (a_8 : Option Addr) (a_8n : Nat) (a_8c : Nat) (b_9 : Option Addr) (b_9n : Nat) (b_9c : Nat) (d_10 : Addr) (back_11 : Addr) (fresh_13 : Option Addr) (fresh_13n : Nat) (fresh_13c : Nat) (I : IMem) (S : SH) : Prop :=
  bolterlaw10_ApplyBack_b8 R a_8 a_8n a_8c b_9 b_9n b_9c d_10 back_11 fresh_13 fresh_13n fresh_13c (fresh_13n : Int) 0 I S
def bolterlaw10_ApplyBack_l3 (again3 : Option Addr → Nat → Nat → Option Addr → Nat → Nat → Addr → Addr → Option Addr → Nat → Nat → Option Addr → Nat → Nat → Int → Int → IMem → SH → Prop) (R : Value → IMem → SH → Prop) (a_8 : Option Addr) (a_8n : Nat) (a_8c : Nat) (b_9 : Option Addr) (b_9n : Nat) (b_9c : Nat) (d_10 : Addr) (back_11 : Addr) (fresh_13 : Option Addr) (fresh_13n : Nat) (fresh_13c : Nat) (x48 : Option Addr) (x48n : Nat) (x48c : Nat) (x49 : Int) (x50 : Int) (I : IMem) (S : SH) : Prop :=
  bcase (decide (x50 < x49))
    (bolterlaw10_ApplyBack_b4 again3 R a_8 a_8n a_8c b_9 b_9n b_9c d_10 back_11 fresh_13 fresh_13n fresh_13c x48 x48n x48c x49 x50 I S)
    (bolterlaw10_ApplyBack_b7 R a_8 a_8n a_8c b_9 b_9n b_9c d_10 back_11 fresh_13 fresh_13n fresh_13c I S)
def bolterlaw10_ApplyBack_b2 (R : Value → IMem → SH → Prop) (a_8 : Option Addr) (a_8n : Nat) (a_8c : Nat) (b_9 : Option Addr) (b_9n : Nat) (b_9c : Nat) (d_10 : Addr) (back_11 : Addr) (fresh_13 : Option Addr) (fresh_13n : Nat) (fresh_13c : Nat) (x48 : Option Addr) (x48n : Nat) (x48c : Nat) (x49 : Int) (x50 : Int) (I : IMem) (S : SH) : Prop :=
  ∃ (Inv : Nat → Option Addr → Nat → Nat → Option Addr → Nat → Nat → Addr → Addr → Option Addr → Nat → Nat → Option Addr → Nat → Nat → Int → Int → IMem → SH → Prop) (m : Nat), Inv m a_8 a_8n a_8c b_9 b_9n b_9c d_10 back_11 fresh_13 fresh_13n fresh_13c x48 x48n x48c x49 x50 I S ∧
    ∀ (m : Nat) (a_8 : Option Addr) (a_8n : Nat) (a_8c : Nat) (b_9 : Option Addr) (b_9n : Nat) (b_9c : Nat) (d_10 : Addr) (back_11 : Addr) (fresh_13 : Option Addr) (fresh_13n : Nat) (fresh_13c : Nat) (x48 : Option Addr) (x48n : Nat) (x48c : Nat) (x49 : Int) (x50 : Int) (J : IMem) (T : SH), I.le J → Inv m a_8 a_8n a_8c b_9 b_9n b_9c d_10 back_11 fresh_13 fresh_13n fresh_13c x48 x48n x48c x49 x50 J T →
      bolterlaw10_ApplyBack_l3 (fun a_8 a_8n a_8c b_9 b_9n b_9c d_10 back_11 fresh_13 fresh_13n fresh_13c x48 x48n x48c x49 x50 I S => ∃ m', m' < m ∧ Inv m' a_8 a_8n a_8c b_9 b_9n b_9c d_10 back_11 fresh_13 fresh_13n fresh_13c x48 x48n x48c x49 x50 I S) R a_8 a_8n a_8c b_9 b_9n b_9c d_10 back_11 fresh_13 fresh_13n fresh_13c x48 x48n x48c x49 x50 J T
def bolterlaw10_ApplyBack_b1 (R : Value → IMem → SH → Prop) (a_8 : Option Addr) (a_8n : Nat) (a_8c : Nat) (b_9 : Option Addr) (b_9n : Nat) (b_9c : Nat) (d_10 : Addr) (back_11 : Addr) (gone_12 : Option Addr) (gone_12n : Nat) (gone_12c : Nat) (fresh_13 : Option Addr) (fresh_13n : Nat) (fresh_13c : Nat) (I : IMem) (S : SH) : Prop :=
  bolterlaw10_ApplyBack_b2 R a_8 a_8n a_8c b_9 b_9n b_9c d_10 back_11 fresh_13 fresh_13n fresh_13c gone_12 gone_12n gone_12c (gone_12n : Int) 0 I S
def bolterlaw10_ApplyBack (R : Value → IMem → SH → Prop) (o_0 : Int) (as_1 : Option Addr) (as_1n : Nat) (as_1c : Nat) (bs_2 : Option Addr) (bs_2n : Nat) (bs_2c : Nat) (I : IMem) (S : SH) : Prop :=
  Runs Tryd.prog 18 #[] I S fun v I1 S1 => ∃ x22, v = .bool x22 ∧
  bcase (!x22)
    (R (.bool false) I1 S1)
    (Runs Tryd.prog 19 #[.int .u8 o_0] I1 S1 fun v' I1' S1' => ∃ x25, v' = .string x25 ∧
    Runs Tryd.prog 20 #[.string x25, .int .u32 1, .slice as_1 as_1n as_1c, .int .i64 15] I1' S1' fun v'' I1'' S1'' => ∃ x28 x28n x28c, v'' = .slice x28 x28n x28c ∧
    Runs Tryd.prog 20 #[.string x25, .int .u32 2, .slice bs_2 bs_2n bs_2c, .int .i64 15] I1'' S1'' fun v_r3 I1_r3 S1_r3 => ∃ x31 x31n x31c, v_r3 = .slice x31 x31n x31c ∧
    Runs Tryd.prog 21 #[.string x25, .int .u32 1] I1_r3 S1_r3 fun v_r4 I1_r4 S1_r4 => ∃ x33_0 x33_1 x33_2 x33_3, v_r4 = .agg #[.string x33_0, .int .u16 x33_1, .int .u32 x33_2, .string x33_3] ∧
    Runs Tryd.prog 21 #[.string x25, .int .u32 2] I1_r4 S1_r4 fun v_r5 I1_r5 S1_r5 => ∃ x35_0 x35_1 x35_2 x35_3, v_r5 = .agg #[.string x35_0, .int .u16 x35_1, .int .u32 x35_2, .string x35_3] ∧
    Runs Tryd.prog 21 #[.string x25, .int .u32 2] I1_r5 S1_r5 fun v_r6 I1_r6 S1_r6 => ∃ x38_0 x38_1 x38_2 x38_3, v_r6 = .agg #[.string x38_0, .int .u16 x38_1, .int .u32 x38_2, .string x38_3] ∧
    Runs Tryd.prog 21 #[.string x25, .int .u32 1] I1_r6 S1_r6 fun v_r7 I1_r7 S1_r7 => ∃ x40_0 x40_1 x40_2 x40_3, v_r7 = .agg #[.string x40_0, .int .u16 x40_1, .int .u32 x40_2, .string x40_3] ∧
    ∀ b10 : Nat,
    ∀ b11 : Nat,
    StP ((b11, .cells #[.string ⟨#[]⟩, .int .u16 0, .int .u32 0, .string ⟨#[]⟩, .string ⟨#[]⟩, .int .u16 0, .int .u32 0, .string ⟨#[]⟩, .slice none 0 0, .slice none 0 0] 52 (0, 0)) :: ((b10, .cells #[.string ⟨#[]⟩, .int .u16 0, .int .u32 0, .string ⟨#[]⟩, .string ⟨#[]⟩, .int .u16 0, .int .u32 0, .string ⟨#[]⟩, .slice none 0 0, .slice none 0 0] 52 (0, 0)) :: S1_r7)) ⟨b10, 0, none⟩ [.string x33_0, .int .u16 x33_1, .int .u32 x33_2, .string x33_3, .string x35_0, .int .u16 x35_1, .int .u32 x35_2, .string x35_3, .slice none 0 0, .slice none 0 0] fun S1_r8 =>
    StP S1_r8 ⟨b11, 0, none⟩ [.string x38_0, .int .u16 x38_1, .int .u32 x38_2, .string x38_3, .string x40_0, .int .u16 x40_1, .int .u32 x40_2, .string x40_3, .slice none 0 0, .slice none 0 0] fun S1_r9 =>
    Runs Tryd.prog 25 #[.slice x28 x28n x28c, .slice x31 x31n x31c] I1_r7 S1_r9 fun v_r8 I1_r8 S1_r10 => ∃ x45_0 x45_0n x45_0c x45_1 x45_1n x45_1c, v_r8 = .tuple #[.slice x45_0 x45_0n x45_0c, .slice x45_1 x45_1n x45_1c] ∧
    bolterlaw10_ApplyBack_b1 R x28 x28n x28c x31 x31n x31c ⟨b10, 0, none⟩ ⟨b11, 0, none⟩ x45_0 x45_0n x45_0c x45_1 x45_1n x45_1c I1_r8 S1_r10)
theorem bolterlaw10_ApplyBack_fn (R : Value → IMem → SH → Prop) (o_0 : Int) (as_1 : Option Addr) (as_1n : Nat) (as_1c : Nat) (bs_2 : Option Addr) (bs_2n : Nat) (bs_2c : Nat) (I : IMem) (S : SH) (h : bolterlaw10_ApplyBack R o_0 as_1 as_1n as_1c bs_2 bs_2n bs_2c I S) :
    Runs Tryd.prog 6 #[.int .u8 o_0, .slice as_1 as_1n as_1c, .slice bs_2 bs_2n bs_2c] I S R := by
  refine Runs.of_wp (args := [.int .u8 o_0, .slice as_1 as_1n as_1c, .slice bs_2 bs_2n bs_2c]) (c := bolterlaw10_ApplyBack_code) Tryd.func6 (by kernel_rfl) (by kernel_rfl) ?_
  refine WP.cut 6 (fun l I S => asSl (l 8) fun a_8 a_8n a_8c => asSl (l 9) fun b_9 b_9n b_9c => asAdr (l 10) fun d_10 => asAdr (l 11) fun back_11 => asSl (l 12) fun gone_12 gone_12n gone_12c => asSl (l 13) fun fresh_13 fresh_13n fresh_13c => bolterlaw10_ApplyBack_b1 R a_8 a_8n a_8c b_9 b_9n b_9c d_10 back_11 gone_12 gone_12n gone_12c fresh_13 fresh_13n fresh_13c I S) (cast (by kernel_rfl) h) ?_
  clear h
  intro l I S _ h
  obtain ⟨a_8, a_8n, a_8c, e8, h⟩ := asSl_e h
  obtain ⟨b_9, b_9n, b_9c, e9, h⟩ := asSl_e h
  obtain ⟨d_10, e10, h⟩ := asAdr_e h
  obtain ⟨back_11, e11, h⟩ := asAdr_e h
  obtain ⟨gone_12, gone_12n, gone_12c, e12, h⟩ := asSl_e h
  obtain ⟨fresh_13, fresh_13n, fresh_13c, e13, h⟩ := asSl_e h
  rw [upd_eta e8, upd_eta e9, upd_eta e10, upd_eta e11, upd_eta e12, upd_eta e13]
  refine WP.seqY (by kernel_rfl) (fun l I S => asSl (l 8) fun a_8 a_8n a_8c => asSl (l 9) fun b_9 b_9n b_9c => asAdr (l 10) fun d_10 => asAdr (l 11) fun back_11 => asSl (l 13) fun fresh_13 fresh_13n fresh_13c => bolterlaw10_ApplyBack_b7 R a_8 a_8n a_8c b_9 b_9n b_9c d_10 back_11 fresh_13 fresh_13n fresh_13c I S) ?_ ?_
  ·
    refine WP.cut 1 (fun l I S => asSl (l 8) fun a_8 a_8n a_8c => asSl (l 9) fun b_9 b_9n b_9c => asAdr (l 10) fun d_10 => asAdr (l 11) fun back_11 => asSl (l 13) fun fresh_13 fresh_13n fresh_13c => asSl (l 48) fun x48 x48n x48c => asI .i64 (l 49) fun x49 => asI .i64 (l 50) fun x50 => bolterlaw10_ApplyBack_b2 R a_8 a_8n a_8c b_9 b_9n b_9c d_10 back_11 fresh_13 fresh_13n fresh_13c x48 x48n x48c x49 x50 I S) (cast (by kernel_rfl) h) ?_
    clear h
    intro l I S _ h
    obtain ⟨a_8, a_8n, a_8c, e8, h⟩ := asSl_e h
    obtain ⟨b_9, b_9n, b_9c, e9, h⟩ := asSl_e h
    obtain ⟨d_10, e10, h⟩ := asAdr_e h
    obtain ⟨back_11, e11, h⟩ := asAdr_e h
    obtain ⟨fresh_13, fresh_13n, fresh_13c, e13, h⟩ := asSl_e h
    obtain ⟨x48, x48n, x48c, e48, h⟩ := asSl_e h
    obtain ⟨x49, e49, h⟩ := asI_e h
    obtain ⟨x50, e50, h⟩ := asI_e h
    rw [upd_eta e8, upd_eta e9, upd_eta e10, upd_eta e11, upd_eta e13, upd_eta e48, upd_eta e49, upd_eta e50]
    refine WP.block' (by kernel_rfl) ?_
    obtain ⟨Inv_again3, m_again3, h0, hr⟩ := h
    refine WP.loop' (by kernel_rfl) (fun m_again3 => fun l I S => asSl (l 8) fun a_8 a_8n a_8c => asSl (l 9) fun b_9 b_9n b_9c => asAdr (l 10) fun d_10 => asAdr (l 11) fun back_11 => asSl (l 13) fun fresh_13 fresh_13n fresh_13c => asSl (l 48) fun x48 x48n x48c => asI .i64 (l 49) fun x49 => asI .i64 (l 50) fun x50 => Inv_again3 m_again3 a_8 a_8n a_8c b_9 b_9n b_9c d_10 back_11 fresh_13 fresh_13n fresh_13c x48 x48n x48c x49 x50 I S) m_again3 (cast (by kernel_rfl) h0) ?_
    clear h0
    intro m_again3 l I S hle h
    obtain ⟨a_8, a_8n, a_8c, e8, h⟩ := asSl_e h
    obtain ⟨b_9, b_9n, b_9c, e9, h⟩ := asSl_e h
    obtain ⟨d_10, e10, h⟩ := asAdr_e h
    obtain ⟨back_11, e11, h⟩ := asAdr_e h
    obtain ⟨fresh_13, fresh_13n, fresh_13c, e13, h⟩ := asSl_e h
    obtain ⟨x48, x48n, x48c, e48, h⟩ := asSl_e h
    obtain ⟨x49, e49, h⟩ := asI_e h
    obtain ⟨x50, e50, h⟩ := asI_e h
    rw [upd_eta e8, upd_eta e9, upd_eta e10, upd_eta e11, upd_eta e13, upd_eta e48, upd_eta e49, upd_eta e50]
    have h := hr m_again3 a_8 a_8n a_8c b_9 b_9n b_9c d_10 back_11 fresh_13 fresh_13n fresh_13c x48 x48n x48c x49 x50 I S hle h
    clear hr hle
    refine WP.cut 2 (fun l I S => asSl (l 8) fun a_8 a_8n a_8c => asSl (l 9) fun b_9 b_9n b_9c => asAdr (l 10) fun d_10 => asAdr (l 11) fun back_11 => asSl (l 13) fun fresh_13 fresh_13n fresh_13c => asSl (l 48) fun x48 x48n x48c => asI .i64 (l 49) fun x49 => asI .i64 (l 50) fun x50 => bolterlaw10_ApplyBack_b4 (fun a_8 a_8n a_8c b_9 b_9n b_9c d_10 back_11 fresh_13 fresh_13n fresh_13c x48 x48n x48c x49 x50 I S => ∃ m', m' < m_again3 ∧ Inv_again3 m' a_8 a_8n a_8c b_9 b_9n b_9c d_10 back_11 fresh_13 fresh_13n fresh_13c x48 x48n x48c x49 x50 I S) R a_8 a_8n a_8c b_9 b_9n b_9c d_10 back_11 fresh_13 fresh_13n fresh_13c x48 x48n x48c x49 x50 I S) (cast (by kernel_rfl) h) ?_
    clear h
    intro l I S _ h
    obtain ⟨a_8, a_8n, a_8c, e8, h⟩ := asSl_e h
    obtain ⟨b_9, b_9n, b_9c, e9, h⟩ := asSl_e h
    obtain ⟨d_10, e10, h⟩ := asAdr_e h
    obtain ⟨back_11, e11, h⟩ := asAdr_e h
    obtain ⟨fresh_13, fresh_13n, fresh_13c, e13, h⟩ := asSl_e h
    obtain ⟨x48, x48n, x48c, e48, h⟩ := asSl_e h
    obtain ⟨x49, e49, h⟩ := asI_e h
    obtain ⟨x50, e50, h⟩ := asI_e h
    rw [upd_eta e8, upd_eta e9, upd_eta e10, upd_eta e11, upd_eta e13, upd_eta e48, upd_eta e49, upd_eta e50]
    refine WP.seqY (by kernel_rfl) (fun l I S => asSl (l 8) fun a_8 a_8n a_8c => asSl (l 9) fun b_9 b_9n b_9c => asAdr (l 10) fun d_10 => asAdr (l 11) fun back_11 => asSl (l 13) fun fresh_13 fresh_13n fresh_13c => asSl (l 48) fun x48 x48n x48c => asI .i64 (l 49) fun x49 => asI .i64 (l 50) fun x50 => bolterlaw10_ApplyBack_b6 (fun a_8 a_8n a_8c b_9 b_9n b_9c d_10 back_11 fresh_13 fresh_13n fresh_13c x48 x48n x48c x49 x50 I S => ∃ m', m' < m_again3 ∧ Inv_again3 m' a_8 a_8n a_8c b_9 b_9n b_9c d_10 back_11 fresh_13 fresh_13n fresh_13c x48 x48n x48c x49 x50 I S) R a_8 a_8n a_8c b_9 b_9n b_9c d_10 back_11 fresh_13 fresh_13n fresh_13c x48 x48n x48c x49 x50 I S) ?_ ?_
    ·
      refine WP.block' (by kernel_rfl) ?_
      refine WP.cut 2 (fun l I S => asSl (l 8) fun a_8 a_8n a_8c => asSl (l 9) fun b_9 b_9n b_9c => asAdr (l 10) fun d_10 => asAdr (l 11) fun back_11 => asSl (l 13) fun fresh_13 fresh_13n fresh_13c => asAdr (l 15) fun r_15 => asSl (l 48) fun x48 x48n x48c => asI .i64 (l 49) fun x49 => asI .i64 (l 50) fun x50 => asB (l 56) fun x56 => bolterlaw10_ApplyBack_b5 (fun a_8 a_8n a_8c b_9 b_9n b_9c d_10 back_11 fresh_13 fresh_13n fresh_13c x48 x48n x48c x49 x50 I S => ∃ m', m' < m_again3 ∧ Inv_again3 m' a_8 a_8n a_8c b_9 b_9n b_9c d_10 back_11 fresh_13 fresh_13n fresh_13c x48 x48n x48c x49 x50 I S) R a_8 a_8n a_8c b_9 b_9n b_9c d_10 back_11 fresh_13 fresh_13n fresh_13c r_15 x48 x48n x48c x49 x50 x56 I S) (cast (by kernel_rfl) h) ?_
      clear h
      intro l I S _ h
      obtain ⟨a_8, a_8n, a_8c, e8, h⟩ := asSl_e h
      obtain ⟨b_9, b_9n, b_9c, e9, h⟩ := asSl_e h
      obtain ⟨d_10, e10, h⟩ := asAdr_e h
      obtain ⟨back_11, e11, h⟩ := asAdr_e h
      obtain ⟨fresh_13, fresh_13n, fresh_13c, e13, h⟩ := asSl_e h
      obtain ⟨r_15, e15, h⟩ := asAdr_e h
      obtain ⟨x48, x48n, x48c, e48, h⟩ := asSl_e h
      obtain ⟨x49, e49, h⟩ := asI_e h
      obtain ⟨x50, e50, h⟩ := asI_e h
      obtain ⟨x56, e56, h⟩ := asB_e h
      rw [upd_eta e8, upd_eta e9, upd_eta e10, upd_eta e11, upd_eta e13, upd_eta e15, upd_eta e48, upd_eta e49, upd_eta e50, upd_eta e56]
      refine WP.cond' (by kernel_rfl) (by kernel_rfl) h ?_ ?_
      · clear h
        intro h
        exact WP.drawF (.take 0 (.take 1 (.take 2 (.take 5 (.take 6 (.take 7 (.fork 3 (.fork 4 (.take 10 (.step 8 (.step 9 (.step 11 (.take 12 (.step 13 .done)))))) 8 (.step 4 (.take 10 (.step 9 (.step 11 (.take 12 (.step 13 .done))))))) 8 (.step 3 (.step 4 (.take 10 (.step 9 (.step 11 (.take 12 (.step 13 .done)))))))))))))) [3, 4, 8, 9, 11, 13] (by kernel_rfl) (by kernel_rfl) (by kernel_rfl) (by kernel_rfl) (by kernel_rfl) (cast (by kernel_rfl) h)
      · clear h
        intro h
        exact Pre.sound _ _ _ _ _ (cast (by kernel_rfl) h)
    · clear h
      intro l I S _ h
      obtain ⟨a_8, a_8n, a_8c, e8, h⟩ := asSl_e h
      obtain ⟨b_9, b_9n, b_9c, e9, h⟩ := asSl_e h
      obtain ⟨d_10, e10, h⟩ := asAdr_e h
      obtain ⟨back_11, e11, h⟩ := asAdr_e h
      obtain ⟨fresh_13, fresh_13n, fresh_13c, e13, h⟩ := asSl_e h
      obtain ⟨x48, x48n, x48c, e48, h⟩ := asSl_e h
      obtain ⟨x49, e49, h⟩ := asI_e h
      obtain ⟨x50, e50, h⟩ := asI_e h
      rw [upd_eta e8, upd_eta e9, upd_eta e10, upd_eta e11, upd_eta e13, upd_eta e48, upd_eta e49, upd_eta e50]
      exact Pre.sound _ _ _ _ _ (cast (by kernel_rfl) h)
  · clear h
    intro l I S _ h
    obtain ⟨a_8, a_8n, a_8c, e8, h⟩ := asSl_e h
    obtain ⟨b_9, b_9n, b_9c, e9, h⟩ := asSl_e h
    obtain ⟨d_10, e10, h⟩ := asAdr_e h
    obtain ⟨back_11, e11, h⟩ := asAdr_e h
    obtain ⟨fresh_13, fresh_13n, fresh_13c, e13, h⟩ := asSl_e h
    rw [upd_eta e8, upd_eta e9, upd_eta e10, upd_eta e11, upd_eta e13]
    refine WP.seqY (by kernel_rfl) (fun l I S => asSl (l 8) fun a_8 a_8n a_8c => asSl (l 9) fun b_9 b_9n b_9c => asAdr (l 10) fun d_10 => asAdr (l 11) fun back_11 => bolterlaw10_ApplyBack_b13 R a_8 a_8n a_8c b_9 b_9n b_9c d_10 back_11 I S) ?_ ?_
    ·
      refine WP.cut 1 (fun l I S => asSl (l 8) fun a_8 a_8n a_8c => asSl (l 9) fun b_9 b_9n b_9c => asAdr (l 10) fun d_10 => asAdr (l 11) fun back_11 => asSl (l 70) fun x70 x70n x70c => asI .i64 (l 71) fun x71 => asI .i64 (l 72) fun x72 => bolterlaw10_ApplyBack_b8 R a_8 a_8n a_8c b_9 b_9n b_9c d_10 back_11 x70 x70n x70c x71 x72 I S) (cast (by kernel_rfl) h) ?_
      clear h
      intro l I S _ h
      obtain ⟨a_8, a_8n, a_8c, e8, h⟩ := asSl_e h
      obtain ⟨b_9, b_9n, b_9c, e9, h⟩ := asSl_e h
      obtain ⟨d_10, e10, h⟩ := asAdr_e h
      obtain ⟨back_11, e11, h⟩ := asAdr_e h
      obtain ⟨x70, x70n, x70c, e70, h⟩ := asSl_e h
      obtain ⟨x71, e71, h⟩ := asI_e h
      obtain ⟨x72, e72, h⟩ := asI_e h
      rw [upd_eta e8, upd_eta e9, upd_eta e10, upd_eta e11, upd_eta e70, upd_eta e71, upd_eta e72]
      refine WP.block' (by kernel_rfl) ?_
      obtain ⟨Inv_again9, m_again9, h0, hr⟩ := h
      refine WP.loop' (by kernel_rfl) (fun m_again9 => fun l I S => asSl (l 8) fun a_8 a_8n a_8c => asSl (l 9) fun b_9 b_9n b_9c => asAdr (l 10) fun d_10 => asAdr (l 11) fun back_11 => asSl (l 70) fun x70 x70n x70c => asI .i64 (l 71) fun x71 => asI .i64 (l 72) fun x72 => Inv_again9 m_again9 a_8 a_8n a_8c b_9 b_9n b_9c d_10 back_11 x70 x70n x70c x71 x72 I S) m_again9 (cast (by kernel_rfl) h0) ?_
      clear h0
      intro m_again9 l I S hle h
      obtain ⟨a_8, a_8n, a_8c, e8, h⟩ := asSl_e h
      obtain ⟨b_9, b_9n, b_9c, e9, h⟩ := asSl_e h
      obtain ⟨d_10, e10, h⟩ := asAdr_e h
      obtain ⟨back_11, e11, h⟩ := asAdr_e h
      obtain ⟨x70, x70n, x70c, e70, h⟩ := asSl_e h
      obtain ⟨x71, e71, h⟩ := asI_e h
      obtain ⟨x72, e72, h⟩ := asI_e h
      rw [upd_eta e8, upd_eta e9, upd_eta e10, upd_eta e11, upd_eta e70, upd_eta e71, upd_eta e72]
      have h := hr m_again9 a_8 a_8n a_8c b_9 b_9n b_9c d_10 back_11 x70 x70n x70c x71 x72 I S hle h
      clear hr hle
      refine WP.cut 2 (fun l I S => asSl (l 8) fun a_8 a_8n a_8c => asSl (l 9) fun b_9 b_9n b_9c => asAdr (l 10) fun d_10 => asAdr (l 11) fun back_11 => asSl (l 70) fun x70 x70n x70c => asI .i64 (l 71) fun x71 => asI .i64 (l 72) fun x72 => bolterlaw10_ApplyBack_b10 (fun a_8 a_8n a_8c b_9 b_9n b_9c d_10 back_11 x70 x70n x70c x71 x72 I S => ∃ m', m' < m_again9 ∧ Inv_again9 m' a_8 a_8n a_8c b_9 b_9n b_9c d_10 back_11 x70 x70n x70c x71 x72 I S) R a_8 a_8n a_8c b_9 b_9n b_9c d_10 back_11 x70 x70n x70c x71 x72 I S) (cast (by kernel_rfl) h) ?_
      clear h
      intro l I S _ h
      obtain ⟨a_8, a_8n, a_8c, e8, h⟩ := asSl_e h
      obtain ⟨b_9, b_9n, b_9c, e9, h⟩ := asSl_e h
      obtain ⟨d_10, e10, h⟩ := asAdr_e h
      obtain ⟨back_11, e11, h⟩ := asAdr_e h
      obtain ⟨x70, x70n, x70c, e70, h⟩ := asSl_e h
      obtain ⟨x71, e71, h⟩ := asI_e h
      obtain ⟨x72, e72, h⟩ := asI_e h
      rw [upd_eta e8, upd_eta e9, upd_eta e10, upd_eta e11, upd_eta e70, upd_eta e71, upd_eta e72]
      refine WP.seqY (by kernel_rfl) (fun l I S => asSl (l 8) fun a_8 a_8n a_8c => asSl (l 9) fun b_9 b_9n b_9c => asAdr (l 10) fun d_10 => asAdr (l 11) fun back_11 => asSl (l 70) fun x70 x70n x70c => asI .i64 (l 71) fun x71 => asI .i64 (l 72) fun x72 => bolterlaw10_ApplyBack_b12 (fun a_8 a_8n a_8c b_9 b_9n b_9c d_10 back_11 x70 x70n x70c x71 x72 I S => ∃ m', m' < m_again9 ∧ Inv_again9 m' a_8 a_8n a_8c b_9 b_9n b_9c d_10 back_11 x70 x70n x70c x71 x72 I S) R a_8 a_8n a_8c b_9 b_9n b_9c d_10 back_11 x70 x70n x70c x71 x72 I S) ?_ ?_
      ·
        refine WP.block' (by kernel_rfl) ?_
        refine WP.cut 2 (fun l I S => asSl (l 8) fun a_8 a_8n a_8c => asSl (l 9) fun b_9 b_9n b_9c => asAdr (l 10) fun d_10 => asAdr (l 11) fun back_11 => asAdr (l 17) fun r_17 => asSl (l 70) fun x70 x70n x70c => asI .i64 (l 71) fun x71 => asI .i64 (l 72) fun x72 => asB (l 78) fun x78 => bolterlaw10_ApplyBack_b11 (fun a_8 a_8n a_8c b_9 b_9n b_9c d_10 back_11 x70 x70n x70c x71 x72 I S => ∃ m', m' < m_again9 ∧ Inv_again9 m' a_8 a_8n a_8c b_9 b_9n b_9c d_10 back_11 x70 x70n x70c x71 x72 I S) R a_8 a_8n a_8c b_9 b_9n b_9c d_10 back_11 r_17 x70 x70n x70c x71 x72 x78 I S) (cast (by kernel_rfl) h) ?_
        clear h
        intro l I S _ h
        obtain ⟨a_8, a_8n, a_8c, e8, h⟩ := asSl_e h
        obtain ⟨b_9, b_9n, b_9c, e9, h⟩ := asSl_e h
        obtain ⟨d_10, e10, h⟩ := asAdr_e h
        obtain ⟨back_11, e11, h⟩ := asAdr_e h
        obtain ⟨r_17, e17, h⟩ := asAdr_e h
        obtain ⟨x70, x70n, x70c, e70, h⟩ := asSl_e h
        obtain ⟨x71, e71, h⟩ := asI_e h
        obtain ⟨x72, e72, h⟩ := asI_e h
        obtain ⟨x78, e78, h⟩ := asB_e h
        rw [upd_eta e8, upd_eta e9, upd_eta e10, upd_eta e11, upd_eta e17, upd_eta e70, upd_eta e71, upd_eta e72, upd_eta e78]
        refine WP.cond' (by kernel_rfl) (by kernel_rfl) h ?_ ?_
        · clear h
          intro h
          exact WP.drawF (.take 0 (.take 1 (.take 2 (.take 5 (.take 6 (.take 7 (.fork 3 (.fork 4 (.take 10 (.step 8 (.step 9 (.step 11 (.take 12 (.step 13 .done)))))) 8 (.step 4 (.take 10 (.step 9 (.step 11 (.take 12 (.step 13 .done))))))) 8 (.step 3 (.step 4 (.take 10 (.step 9 (.step 11 (.take 12 (.step 13 .done)))))))))))))) [3, 4, 8, 9, 11, 13] (by kernel_rfl) (by kernel_rfl) (by kernel_rfl) (by kernel_rfl) (by kernel_rfl) (cast (by kernel_rfl) h)
        · clear h
          intro h
          exact Pre.sound _ _ _ _ _ (cast (by kernel_rfl) h)
      · clear h
        intro l I S _ h
        obtain ⟨a_8, a_8n, a_8c, e8, h⟩ := asSl_e h
        obtain ⟨b_9, b_9n, b_9c, e9, h⟩ := asSl_e h
        obtain ⟨d_10, e10, h⟩ := asAdr_e h
        obtain ⟨back_11, e11, h⟩ := asAdr_e h
        obtain ⟨x70, x70n, x70c, e70, h⟩ := asSl_e h
        obtain ⟨x71, e71, h⟩ := asI_e h
        obtain ⟨x72, e72, h⟩ := asI_e h
        rw [upd_eta e8, upd_eta e9, upd_eta e10, upd_eta e11, upd_eta e70, upd_eta e71, upd_eta e72]
        exact Pre.sound _ _ _ _ _ (cast (by kernel_rfl) h)
    · clear h
      intro l I S _ h
      obtain ⟨a_8, a_8n, a_8c, e8, h⟩ := asSl_e h
      obtain ⟨b_9, b_9n, b_9c, e9, h⟩ := asSl_e h
      obtain ⟨d_10, e10, h⟩ := asAdr_e h
      obtain ⟨back_11, e11, h⟩ := asAdr_e h
      rw [upd_eta e8, upd_eta e9, upd_eta e10, upd_eta e11]
      refine WP.cut 3 (fun l I S => asB (l 6) fun x6 => bolterlaw10_ApplyBack_b14 R x6 I S) (cast (by kernel_rfl) h) ?_
      clear h
      intro l I S _ h
      obtain ⟨x6, e6, h⟩ := asB_e h
      rw [upd_eta e6]
      exact Pre.sound _ _ _ _ _ (cast (by kernel_rfl) h)
/-! ### bolterlaw10_awake: function 18, bolter/bolterlaw10.awake -/
noncomputable def bolterlaw10_awake_code : Code := (Tryd.f18.body).getD .skip
def bolterlaw10_awake_b4 (R : Value → IMem → SH → Prop) (x0 : Bool) (I : IMem) (S : SH) : Prop :=
  R (.bool x0) I S
def bolterlaw10_awake_b3 (R : Value → IMem → SH → Prop) (e_3 : Value) (x_4 : Option Addr) (x_4n : Nat) (x_4c : Nat) (f_5 : Value) (I : IMem) (S : SH) : Prop :=
  ∃ x31, Runs Tryd.prog 15 #[e_3] I S (fun v' _ T => v' = .int .i64 x31 ∧ T = S) ∧
  bcase (x31 == (6 : Int))
    (∃ nl, isNilI f_5 = some nl ∧
    bcase nl
      (bcase ((x_4n : Int) == (1 : Int))
        (ptrP x_4 fun x44 => (0 : Int) ≤ (0 : Int) ∧ (0 : Int) < (x_4n : Int) ∧
        ∃ x45_0, Cell I S (x44.add ((0 : Int).toNat * 4)) (.string x45_0) ∧
        ∃ x45_1, Cell I S ((x44.add ((0 : Int).toNat * 4)).add 1) (.int .u16 x45_1) ∧
        ∃ x45_2, Cell I S ((x44.add ((0 : Int).toNat * 4)).add 2) (.int .u32 x45_2) ∧
        ∃ x45_3, Cell I S ((x44.add ((0 : Int).toNat * 4)).add 3) (.string x45_3) ∧
        ∃ x46_0 x46_1 x46_2 x46_3, Runs Tryd.prog 21 #[.string ⟨#[]⟩, .int .u32 2] I S (fun v' _ T => v' = .agg #[.string x46_0, .int .u16 x46_1, .int .u32 x46_2, .string x46_3] ∧ T = S) ∧
        bolterlaw10_awake_b4 R (((x45_0 : ByteArray) == (x46_0 : ByteArray)) && (((x45_1 : Int) == (x46_1 : Int)) && (((x45_2 : Int) == (x46_2 : Int)) && (((x45_3 : ByteArray) == (x46_3 : ByteArray)) && true)))) I S)
        (bolterlaw10_awake_b4 R false I S))
      (bolterlaw10_awake_b4 R false I S))
    (bolterlaw10_awake_b4 R false I S)
def bolterlaw10_awake_b2 (R : Value → IMem → SH → Prop) (z_1 : Option Addr) (z_1n : Nat) (z_1c : Nat) (e_3 : Value) (I : IMem) (S : SH) : Prop :=
  ptrP z_1 fun x23 => (0 : Int) ≤ (0 : Int) ∧ (0 : Int) < (z_1n : Int) ∧
  ∃ x24_0, Cell I S (x23.add ((0 : Int).toNat * 4)) (.string x24_0) ∧
  ∃ x24_1, Cell I S ((x23.add ((0 : Int).toNat * 4)).add 1) (.int .u16 x24_1) ∧
  ∃ x24_2, Cell I S ((x23.add ((0 : Int).toNat * 4)).add 2) (.int .u32 x24_2) ∧
  ∃ x24_3, Cell I S ((x23.add ((0 : Int).toNat * 4)).add 3) (.string x24_3) ∧
  ∃ x25_0 x25_1 x25_2 x25_3, (∀ J T, I.le J → Runs Tryd.prog 21 #[.string ⟨#[]⟩, .int .u32 2] J (T ++ S) (fun v' _ T' => v' = .agg #[.string x25_0, .int .u16 x25_1, .int .u32 x25_2, .string x25_3] ∧ T' = T ++ S)) ∧
  Runs Tryd.prog 23 #[.slice z_1 z_1n z_1c, .agg #[.string x24_0, .int .u16 x24_1, .int .u32 x24_2, .string x24_3, .string x25_0, .int .u16 x25_1, .int .u32 x25_2, .string x25_3, .slice none 0 0, .slice none 0 0]] I S fun v I1 S1 => ∃ x27_0 x27_0n x27_0c x27_1, v = .tuple #[.slice x27_0 x27_0n x27_0c, x27_1] ∧
  bolterlaw10_awake_b3 R e_3 x27_0 x27_0n x27_0c x27_1 I1 S1
def bolterlaw10_awake_b1 (R : Value → IMem → SH → Prop) (z_1 : Option Addr) (z_1n : Nat) (z_1c : Nat) (I : IMem) (S : SH) : Prop :=
  ptrP z_1 fun x11 => (0 : Int) ≤ (0 : Int) ∧ (0 : Int) < (z_1n : Int) ∧
  ∃ x12_0, Cell I S (x11.add ((0 : Int).toNat * 4)) (.string x12_0) ∧
  ∃ x12_1, Cell I S ((x11.add ((0 : Int).toNat * 4)).add 1) (.int .u16 x12_1) ∧
  ∃ x12_2, Cell I S ((x11.add ((0 : Int).toNat * 4)).add 2) (.int .u32 x12_2) ∧
  ∃ x12_3, Cell I S ((x11.add ((0 : Int).toNat * 4)).add 3) (.string x12_3) ∧
  ∃ x13_0 x13_1 x13_2 x13_3, (∀ J T, I.le J → Runs Tryd.prog 21 #[.string ⟨#[]⟩, .int .u32 2] J (T ++ S) (fun v' _ T' => v' = .agg #[.string x13_0, .int .u16 x13_1, .int .u32 x13_2, .string x13_3] ∧ T' = T ++ S)) ∧
  ∀ b15 : Nat,
  Keep I S I ((b15, .cells #[.string ⟨#[]⟩, .int .u16 16, .int .u32 0, .string ⟨#[1, 120]⟩] 36 (0, 0)) :: S) ∧
  Runs Tryd.prog 23 #[.slice z_1 z_1n z_1c, .agg #[.string x12_0, .int .u16 x12_1, .int .u32 x12_2, .string x12_3, .string x13_0, .int .u16 x13_1, .int .u32 x13_2, .string x13_3, .slice (some ⟨b15, 0, none⟩) 1 1, .slice none 0 0]] I ((b15, .cells #[.string ⟨#[]⟩, .int .u16 16, .int .u32 0, .string ⟨#[1, 120]⟩] 36 (0, 0)) :: S) fun v I1 S1 => ∃ x17_0 x17_0n x17_0c x17_1, v = .tuple #[.slice x17_0 x17_0n x17_0c, x17_1] ∧
  bolterlaw10_awake_b2 R z_1 z_1n z_1c x17_1 I1 S1
def bolterlaw10_awake (R : Value → IMem → SH → Prop) (I : IMem) (S : SH) : Prop :=
  Runs Tryd.prog 21 #[.string ⟨#[]⟩, .int .u32 1] I S fun v I1 S1 => ∃ x6_0 x6_1 x6_2 x6_3, v = .agg #[.string x6_0, .int .u16 x6_1, .int .u32 x6_2, .string x6_3] ∧
  ∀ b7 : Nat,
  bolterlaw10_awake_b1 R (some ⟨b7, 0, none⟩) 1 1 I1 ((b7, .cells #[.string x6_0, .int .u16 x6_1, .int .u32 x6_2, .string x6_3] 36 (0, 0)) :: S1)
theorem bolterlaw10_awake_fn (R : Value → IMem → SH → Prop) (I : IMem) (S : SH) (h : bolterlaw10_awake R I S) :
    Runs Tryd.prog 18 #[] I S R := by
  refine Runs.of_wp (args := []) (c := bolterlaw10_awake_code) Tryd.func18 (by kernel_rfl) (by kernel_rfl) ?_
  refine WP.cut 2 (fun l I S => asSl (l 1) fun z_1 z_1n z_1c => bolterlaw10_awake_b1 R z_1 z_1n z_1c I S) (cast (by kernel_rfl) h) ?_
  clear h
  intro l I S _ h
  obtain ⟨z_1, z_1n, z_1c, e1, h⟩ := asSl_e h
  rw [upd_eta e1]
  refine WP.seqY (by kernel_rfl) (fun l I S => asSl (l 1) fun z_1 z_1n z_1c => asV (l 3) fun e_3 => bolterlaw10_awake_b2 R z_1 z_1n z_1c e_3 I S) ?_ ?_
  ·
    exact WP.draw' (.take 0 (.take 1 (.take 2 (.take 3 (.take 4 (.take 5 (.step 6 (.take 7 (.step 8 (.take 9 (.take 10 (.take 11 (.take 12 (.take 13 .done)))))))))))))) [6, 8] (by kernel_rfl) (by kernel_rfl) (by kernel_rfl) (by kernel_rfl) (by kernel_rfl) (cast (by kernel_rfl) h)
  · clear h
    intro l I S _ h
    obtain ⟨z_1, z_1n, z_1c, e1, h⟩ := asSl_e h
    obtain ⟨e_3, e3, h⟩ := asV_e h
    rw [upd_eta e1, upd_eta e3]
    refine WP.seqY (by kernel_rfl) (fun l I S => asV (l 3) fun e_3 => asSl (l 4) fun x_4 x_4n x_4c => asV (l 5) fun f_5 => bolterlaw10_awake_b3 R e_3 x_4 x_4n x_4c f_5 I S) ?_ ?_
    ·
      exact WP.draw' (.take 0 (.take 1 (.take 2 (.take 3 (.take 4 (.take 5 (.step 6 (.take 7 (.take 8 (.take 9 (.take 10 (.take 11 .done)))))))))))) [6] (by kernel_rfl) (by kernel_rfl) (by kernel_rfl) (by kernel_rfl) (by kernel_rfl) (cast (by kernel_rfl) h)
    · clear h
      intro l I S _ h
      obtain ⟨e_3, e3, h⟩ := asV_e h
      obtain ⟨x_4, x_4n, x_4c, e4, h⟩ := asSl_e h
      obtain ⟨f_5, e5, h⟩ := asV_e h
      rw [upd_eta e3, upd_eta e4, upd_eta e5]
      refine WP.seqY (by kernel_rfl) (fun l I S => asB (l 0) fun x0 => bolterlaw10_awake_b4 R x0 I S) ?_ ?_
      ·
        exact WP.quiet' (by kernel_rfl) (by kernel_rfl) (by kernel_rfl) (cast (by kernel_rfl) h)
      · clear h
        intro l I S _ h
        obtain ⟨x0, e0, h⟩ := asB_e h
        rw [upd_eta e0]
        exact Pre.sound _ _ _ _ _ (cast (by kernel_rfl) h)
/-! ### bolterlaw09_Origin: function 19, bolter/bolterlaw09.Origin -/
noncomputable def bolterlaw09_Origin_code : Code := (Tryd.f19.body).getD .skip
def bolterlaw09_Origin (R : Value → IMem → SH → Prop) (n_0 : Int) (I : IMem) (S : SH) : Prop :=
  ∀ b5 : Nat,
  Runs Tryd.prog 32 #[.slice (some ⟨b5, 0, none⟩) 1 1] I ((b5, .cells #[.int .u8 (n_0.tmod (6 : Int))] 5 (0, 0)) :: S) fun v I1 S1 => ∃ x6, v = .string x6 ∧
  R (.string x6) I1 S1
theorem bolterlaw09_Origin_fn (R : Value → IMem → SH → Prop) (n_0 : Int) (I : IMem) (S : SH) (h : bolterlaw09_Origin R n_0 I S) :
    Runs Tryd.prog 19 #[.int .u8 n_0] I S R := by
  refine Runs.of_wp (args := [.int .u8 n_0]) (c := bolterlaw09_Origin_code) Tryd.func19 (by kernel_rfl) (by kernel_rfl) ?_
  exact Pre.sound _ _ _ _ _ (cast (by kernel_rfl) h)
/-! ### bolterlaw10_Zone: function 20, bolter/bolterlaw10.Zone -/
noncomputable def bolterlaw10_Zone_code : Code := (Tryd.f20.body).getD .skip
def bolterlaw10_Zone (R : Value → IMem → SH → Prop) (origin_0 : ByteArray) (n_1 : Int) (as_2 : Option Addr) (as_2n : Nat) (as_2c : Nat) (most_3 : Int) (I : IMem) (S : SH) : Prop :=
  Runs Tryd.prog 22 #[.string origin_0, .slice as_2 as_2n as_2c, .int .i64 most_3, .bool false] I S fun v I1 S1 => ∃ x12 x12n x12c, v = .slice x12 x12n x12c ∧
  Runs Tryd.prog 21 #[.string origin_0, .int .u32 n_1] I1 S1 fun v' I1' S1' => ∃ x15_0 x15_1 x15_2 x15_3, v' = .agg #[.string x15_0, .int .u16 x15_1, .int .u32 x15_2, .string x15_3] ∧
  ∀ b16 : Nat,
  AppG 36 4 40 [.string ⟨#[]⟩, .int .u16 0, .int .u32 0, .string ⟨#[]⟩] (some (.slice 36)) I1' ((b16, .cells #[.string x15_0, .int .u16 x15_1, .int .u32 x15_2, .string x15_3] 36 (0, 0)) :: S1') (.slice x12 x12n x12c) (.slice (some ⟨b16, 0, none⟩) 1 1) fun x17 x17n x17c S1'' =>
  Runs Tryd.prog 11 #[.slice x17 x17n x17c] I1' S1'' fun v'' I1'' S1_r3 => ∃ x18 x18n x18c, v'' = .slice x18 x18n x18c ∧
  R (.slice x18 x18n x18c) I1'' S1_r3
theorem bolterlaw10_Zone_fn (R : Value → IMem → SH → Prop) (origin_0 : ByteArray) (n_1 : Int) (as_2 : Option Addr) (as_2n : Nat) (as_2c : Nat) (most_3 : Int) (I : IMem) (S : SH) (h : bolterlaw10_Zone R origin_0 n_1 as_2 as_2n as_2c most_3 I S) :
    Runs Tryd.prog 20 #[.string origin_0, .int .u32 n_1, .slice as_2 as_2n as_2c, .int .i64 most_3] I S R := by
  refine Runs.of_wp (args := [.string origin_0, .int .u32 n_1, .slice as_2 as_2n as_2c, .int .i64 most_3]) (c := bolterlaw10_Zone_code) Tryd.func20 (by kernel_rfl) (by kernel_rfl) ?_
  exact Pre.sound _ _ _ _ _ (cast (by kernel_rfl) h)
/-! ### bolterlaw09_Soa: function 21, bolter/bolterlaw09.Soa -/
noncomputable def bolterlaw09_Soa_code : Code := (Tryd.f21.body).getD .skip
def bolterlaw09_Soa (R : Value → IMem → SH → Prop) (origin_0 : ByteArray) (n_1 : Int) (I : IMem) (S : SH) : Prop :=
  ∀ b4 : Nat,
  Runs Tryd.prog 38 #[.slice none 0 0, .int .u32 n_1, .int .u8 10, .int .u8 3, .int .u8 40] I ((b4, .cells #[.string ⟨#[]⟩, .int .u16 0, .int .u32 0, .string ⟨#[]⟩] 36 (0, 0)) :: S) fun v I1 S1 => ∃ x7, v = .string x7 ∧
  StP S1 ⟨b4, 0, none⟩ [.string origin_0, .int .u16 6, .int .u32 9, .string x7] fun S1' =>
  ∃ r4_0, Cell I1 S1' ⟨b4, 0, none⟩ (.string r4_0) ∧
  ∃ r4_1, Cell I1 S1' ⟨b4, 1, none⟩ (.int .u16 r4_1) ∧
  ∃ r4_2, Cell I1 S1' ⟨b4, 2, none⟩ (.int .u32 r4_2) ∧
  ∃ r4_3, Cell I1 S1' ⟨b4, 3, none⟩ (.string r4_3) ∧
  R (.agg #[.string r4_0, .int .u16 r4_1, .int .u32 r4_2, .string r4_3]) I1 S1'
theorem bolterlaw09_Soa_fn (R : Value → IMem → SH → Prop) (origin_0 : ByteArray) (n_1 : Int) (I : IMem) (S : SH) (h : bolterlaw09_Soa R origin_0 n_1 I S) :
    Runs Tryd.prog 21 #[.string origin_0, .int .u32 n_1] I S R := by
  refine Runs.of_wp (args := [.string origin_0, .int .u32 n_1]) (c := bolterlaw09_Soa_code) Tryd.func21 (by kernel_rfl) (by kernel_rfl) ?_
  exact Pre.sound _ _ _ _ _ (cast (by kernel_rfl) h)
/-! ### bolterlaw09_Under: function 22, bolter/bolterlaw09.Under -/
noncomputable def bolterlaw09_Under_code : Code := (Tryd.f22.body).getD .skip
def bolterlaw09_Under_b5 (R : Value → IMem → SH → Prop) (out_9 : Option Addr) (out_9n : Nat) (out_9c : Nat) (I : IMem) (S : SH) : Prop :=
  R (.slice out_9 out_9n out_9c) I S
def bolterlaw09_Under_b8 (again3 : ByteArray → Int → Bool → Option Addr → Nat → Nat → Option Addr → Nat → Nat → Int → Int → IMem → SH → Prop) (R : Value → IMem → SH → Prop) (origin_0 : ByteArray) (most_2 : Int) (soas_3 : Bool) (out_9 : Option Addr) (out_9n : Nat) (out_9c : Nat) (x15 : Option Addr) (x15n : Nat) (x15c : Nat) (x16 : Int) (x17 : Int) (I : IMem) (S : SH) : Prop :=
  again3 origin_0 most_2 soas_3 out_9 out_9n out_9c x15 x15n x15c x16 (IntKind.wrap .i64 (x17 + (1 : Int))) I S
def bolterlaw09_Under_b7 (again3 : ByteArray → Int → Bool → Option Addr → Nat → Nat → Option Addr → Nat → Nat → Int → Int → IMem → SH → Prop) (R : Value → IMem → SH → Prop) (origin_0 : ByteArray) (most_2 : Int) (soas_3 : Bool) (out_9 : Option Addr) (out_9n : Nat) (out_9c : Nat) (r_12 : Addr) (x15 : Option Addr) (x15n : Nat) (x15c : Nat) (x16 : Int) (x17 : Int) (I : IMem) (S : SH) : Prop :=
  ∃ x54_0, Cell I S r_12 (.string x54_0) ∧
  ∃ x54_1, Cell I S (r_12.add 1) (.int .u16 x54_1) ∧
  ∃ x54_2, Cell I S (r_12.add 2) (.int .u32 x54_2) ∧
  ∃ x54_3, Cell I S (r_12.add 3) (.string x54_3) ∧
  ∀ b55 : Nat,
  AppG 36 4 40 [.string ⟨#[]⟩, .int .u16 0, .int .u32 0, .string ⟨#[]⟩] (some (.slice 36)) I ((b55, .cells #[.string x54_0, .int .u16 x54_1, .int .u32 x54_2, .string x54_3] 36 (0, 0)) :: S) (.slice out_9 out_9n out_9c) (.slice (some ⟨b55, 0, none⟩) 1 1) fun x56 x56n x56c S1 =>
  bolterlaw09_Under_b8 again3 R origin_0 most_2 soas_3 x56 x56n x56c x15 x15n x15c x16 x17 I S1
def bolterlaw09_Under_b6 (again3 : ByteArray → Int → Bool → Option Addr → Nat → Nat → Option Addr → Nat → Nat → Int → Int → IMem → SH → Prop) (R : Value → IMem → SH → Prop) (origin_0 : ByteArray) (most_2 : Int) (soas_3 : Bool) (out_9 : Option Addr) (out_9n : Nat) (out_9c : Nat) (a_11 : Addr) (r_12 : Addr) (n_13 : ByteArray) (x15 : Option Addr) (x15n : Nat) (x15c : Nat) (x16 : Int) (x17 : Int) (I : IMem) (S : SH) : Prop :=
  StP S r_12 [.string n_13] fun S1 =>
  ∃ x40, Cell I S1 (r_12.add 1) (.int .u16 x40) ∧
  bcase (x40 == (6 : Int))
    (∃ x44, Cell I S1 (a_11.add 2) (.int .u32 x44) ∧
    Runs Tryd.prog 21 #[.string origin_0, .int .u32 (x44.tmod (6 : Int))] I S1 fun v I1 S1' => ∃ x46_0 x46_1 x46_2 x46_3, v = .agg #[.string x46_0, .int .u16 x46_1, .int .u32 x46_2, .string x46_3] ∧
    StP S1' r_12 [.string x46_0, .int .u16 x46_1, .int .u32 x46_2, .string x46_3] fun S1'' =>
    bcase (!soas_3)
      (∃ x51, Cell I1 S1'' (a_11.add 2) (.int .u32 x51) ∧
      StP S1'' r_12 [.string origin_0, .int .u16 16, .int .u32 x51, .string ⟨#[1, 120]⟩] fun S1_r3 =>
      bolterlaw09_Under_b7 again3 R origin_0 most_2 soas_3 out_9 out_9n out_9c r_12 x15 x15n x15c x16 x17 I1 S1_r3)
      (bolterlaw09_Under_b7 again3 R origin_0 most_2 soas_3 out_9 out_9n out_9c r_12 x15 x15n x15c x16 x17 I1 S1''))
    (bolterlaw09_Under_b7 again3 R origin_0 most_2 soas_3 out_9 out_9n out_9c r_12 x15 x15n x15c x16 x17 I S1)
def bolterlaw09_Under_b4 (again3 : ByteArray → Int → Bool → Option Addr → Nat → Nat → Option Addr → Nat → Nat → Int → Int → IMem → SH → Prop) (R : Value → IMem → SH → Prop) (origin_0 : ByteArray) (most_2 : Int) (soas_3 : Bool) (out_9 : Option Addr) (out_9n : Nat) (out_9c : Nat) (x15 : Option Addr) (x15n : Nat) (x15c : Nat) (x16 : Int) (x17 : Int) (I : IMem) (S : SH) : Prop :=
  ptrP x15 fun x20 => (0 : Int) ≤ x17 ∧ x17 < (x15n : Int) ∧
  ∃ x21_0 x21_0n x21_0c, Cell I S (x20.add (x17.toNat * 5)) (.slice x21_0 x21_0n x21_0c) ∧
  ∃ x21_1, Cell I S ((x20.add (x17.toNat * 5)).add 1) (.int .u8 x21_1) ∧
  ∃ x21_2, Cell I S ((x20.add (x17.toNat * 5)).add 2) (.int .u32 x21_2) ∧
  ∃ x21_3 x21_3n x21_3c, Cell I S ((x20.add (x17.toNat * 5)).add 3) (.slice x21_3 x21_3n x21_3c) ∧
  ∃ x21_4, Cell I S ((x20.add (x17.toNat * 5)).add 4) (.string x21_4) ∧
  ∀ b11 : Nat,
  StP ((b11, .cells #[.slice none 0 0, .int .u8 0, .int .u32 0, .slice none 0 0, .string ⟨#[]⟩] 26 (0, 0)) :: S) ⟨b11, 0, none⟩ [.slice x21_0 x21_0n x21_0c, .int .u8 x21_1, .int .u32 x21_2, .slice x21_3 x21_3n x21_3c, .string x21_4] fun S1 =>
  bcase (x17 == most_2)
    (bolterlaw09_Under_b5 R out_9 out_9n out_9c I S1)
    (∃ x25_0 x25_0n x25_0c, Cell I S1 ⟨b11, 0, none⟩ (.slice x25_0 x25_0n x25_0c) ∧
    ∃ x25_1, Cell I S1 ⟨b11, 1, none⟩ (.int .u8 x25_1) ∧
    ∃ x25_2, Cell I S1 ⟨b11, 2, none⟩ (.int .u32 x25_2) ∧
    ∃ x25_3 x25_3n x25_3c, Cell I S1 ⟨b11, 3, none⟩ (.slice x25_3 x25_3n x25_3c) ∧
    ∃ x25_4, Cell I S1 ⟨b11, 4, none⟩ (.string x25_4) ∧
    Runs Tryd.prog 12 #[.agg #[.slice x25_0 x25_0n x25_0c, .int .u8 x25_1, .int .u32 x25_2, .slice x25_3 x25_3n x25_3c, .string x25_4]] I S1 fun v I1 S1' => ∃ x26_0 x26_1 x26_2 x26_3, v = .agg #[.string x26_0, .int .u16 x26_1, .int .u32 x26_2, .string x26_3] ∧
    ∀ b12 : Nat,
    StP ((b12, .cells #[.string ⟨#[]⟩, .int .u16 0, .int .u32 0, .string ⟨#[]⟩] 36 (0, 0)) :: S1') ⟨b12, 0, none⟩ [.string x26_0, .int .u16 x26_1, .int .u32 x26_2, .string x26_3] fun S1'' =>
    ∃ x29, Cell I1 S1'' ⟨b12, 0, none⟩ (.string x29) ∧
    Runs Tryd.prog 39 #[.string x29, .string origin_0] I1 S1'' fun v' I1' S1_r3 => ∃ x31_0 x31_1, v' = .tuple #[.string x31_0, .bool x31_1] ∧
    bcase (!x31_1)
      (bolterlaw09_Under_b6 again3 R origin_0 most_2 soas_3 out_9 out_9n out_9c ⟨b11, 0, none⟩ ⟨b12, 0, none⟩ origin_0 x15 x15n x15c x16 x17 I1' S1_r3)
      (bolterlaw09_Under_b6 again3 R origin_0 most_2 soas_3 out_9 out_9n out_9c ⟨b11, 0, none⟩ ⟨b12, 0, none⟩ x31_0 x15 x15n x15c x16 x17 I1' S1_r3))
def bolterlaw09_Under_l3 (again3 : ByteArray → Int → Bool → Option Addr → Nat → Nat → Option Addr → Nat → Nat → Int → Int → IMem → SH → Prop) (R : Value → IMem → SH → Prop) (origin_0 : ByteArray) (most_2 : Int) (soas_3 : Bool) (out_9 : Option Addr) (out_9n : Nat) (out_9c : Nat) (x15 : Option Addr) (x15n : Nat) (x15c : Nat) (x16 : Int) (x17 : Int) (I : IMem) (S : SH) : Prop :=
  bcase (decide (x17 < x16))
    (bolterlaw09_Under_b4 again3 R origin_0 most_2 soas_3 out_9 out_9n out_9c x15 x15n x15c x16 x17 I S)
    (bolterlaw09_Under_b5 R out_9 out_9n out_9c I S)
def bolterlaw09_Under_b2 (R : Value → IMem → SH → Prop) (origin_0 : ByteArray) (most_2 : Int) (soas_3 : Bool) (out_9 : Option Addr) (out_9n : Nat) (out_9c : Nat) (x15 : Option Addr) (x15n : Nat) (x15c : Nat) (x16 : Int) (x17 : Int) (I : IMem) (S : SH) : Prop :=
  ∃ (Inv : Nat → ByteArray → Int → Bool → Option Addr → Nat → Nat → Option Addr → Nat → Nat → Int → Int → IMem → SH → Prop) (m : Nat), Inv m origin_0 most_2 soas_3 out_9 out_9n out_9c x15 x15n x15c x16 x17 I S ∧
    ∀ (m : Nat) (origin_0 : ByteArray) (most_2 : Int) (soas_3 : Bool) (out_9 : Option Addr) (out_9n : Nat) (out_9c : Nat) (x15 : Option Addr) (x15n : Nat) (x15c : Nat) (x16 : Int) (x17 : Int) (J : IMem) (T : SH), I.le J → Inv m origin_0 most_2 soas_3 out_9 out_9n out_9c x15 x15n x15c x16 x17 J T →
      bolterlaw09_Under_l3 (fun origin_0 most_2 soas_3 out_9 out_9n out_9c x15 x15n x15c x16 x17 I S => ∃ m', m' < m ∧ Inv m' origin_0 most_2 soas_3 out_9 out_9n out_9c x15 x15n x15c x16 x17 I S) R origin_0 most_2 soas_3 out_9 out_9n out_9c x15 x15n x15c x16 x17 J T
def bolterlaw09_Under_b1 (R : Value → IMem → SH → Prop) (origin_0 : ByteArray) (as_1 : Option Addr) (as_1n : Nat) (as_1c : Nat) (most_2 : Int) (soas_3 : Bool) (out_9 : Option Addr) (out_9n : Nat) (out_9c : Nat) (I : IMem) (S : SH) : Prop :=
  bolterlaw09_Under_b2 R origin_0 most_2 soas_3 out_9 out_9n out_9c as_1 as_1n as_1c (as_1n : Int) 0 I S
def bolterlaw09_Under (R : Value → IMem → SH → Prop) (origin_0 : ByteArray) (as_1 : Option Addr) (as_1n : Nat) (as_1c : Nat) (most_2 : Int) (soas_3 : Bool) (I : IMem) (S : SH) : Prop :=
  bolterlaw09_Under_b1 R origin_0 as_1 as_1n as_1c most_2 soas_3 none 0 0 I S
theorem bolterlaw09_Under_fn (R : Value → IMem → SH → Prop) (origin_0 : ByteArray) (as_1 : Option Addr) (as_1n : Nat) (as_1c : Nat) (most_2 : Int) (soas_3 : Bool) (I : IMem) (S : SH) (h : bolterlaw09_Under R origin_0 as_1 as_1n as_1c most_2 soas_3 I S) :
    Runs Tryd.prog 22 #[.string origin_0, .slice as_1 as_1n as_1c, .int .i64 most_2, .bool soas_3] I S R := by
  refine Runs.of_wp (args := [.string origin_0, .slice as_1 as_1n as_1c, .int .i64 most_2, .bool soas_3]) (c := bolterlaw09_Under_code) Tryd.func22 (by kernel_rfl) (by kernel_rfl) ?_
  refine WP.cut 2 (fun l I S => asStr (l 0) fun origin_0 => asSl (l 1) fun as_1 as_1n as_1c => asI .i64 (l 2) fun most_2 => asB (l 3) fun soas_3 => asSl (l 9) fun out_9 out_9n out_9c => bolterlaw09_Under_b1 R origin_0 as_1 as_1n as_1c most_2 soas_3 out_9 out_9n out_9c I S) (cast (by kernel_rfl) h) ?_
  clear h
  intro l I S _ h
  obtain ⟨origin_0, e0, h⟩ := asStr_e h
  obtain ⟨as_1, as_1n, as_1c, e1, h⟩ := asSl_e h
  obtain ⟨most_2, e2, h⟩ := asI_e h
  obtain ⟨soas_3, e3, h⟩ := asB_e h
  obtain ⟨out_9, out_9n, out_9c, e9, h⟩ := asSl_e h
  rw [upd_eta e0, upd_eta e1, upd_eta e2, upd_eta e3, upd_eta e9]
  refine WP.seqY (by kernel_rfl) (fun l I S => asSl (l 9) fun out_9 out_9n out_9c => bolterlaw09_Under_b5 R out_9 out_9n out_9c I S) ?_ ?_
  ·
    refine WP.cut 1 (fun l I S => asStr (l 0) fun origin_0 => asI .i64 (l 2) fun most_2 => asB (l 3) fun soas_3 => asSl (l 9) fun out_9 out_9n out_9c => asSl (l 15) fun x15 x15n x15c => asI .i64 (l 16) fun x16 => asI .i64 (l 17) fun x17 => bolterlaw09_Under_b2 R origin_0 most_2 soas_3 out_9 out_9n out_9c x15 x15n x15c x16 x17 I S) (cast (by kernel_rfl) h) ?_
    clear h
    intro l I S _ h
    obtain ⟨origin_0, e0, h⟩ := asStr_e h
    obtain ⟨most_2, e2, h⟩ := asI_e h
    obtain ⟨soas_3, e3, h⟩ := asB_e h
    obtain ⟨out_9, out_9n, out_9c, e9, h⟩ := asSl_e h
    obtain ⟨x15, x15n, x15c, e15, h⟩ := asSl_e h
    obtain ⟨x16, e16, h⟩ := asI_e h
    obtain ⟨x17, e17, h⟩ := asI_e h
    rw [upd_eta e0, upd_eta e2, upd_eta e3, upd_eta e9, upd_eta e15, upd_eta e16, upd_eta e17]
    refine WP.block' (by kernel_rfl) ?_
    obtain ⟨Inv_again3, m_again3, h0, hr⟩ := h
    refine WP.loop' (by kernel_rfl) (fun m_again3 => fun l I S => asStr (l 0) fun origin_0 => asI .i64 (l 2) fun most_2 => asB (l 3) fun soas_3 => asSl (l 9) fun out_9 out_9n out_9c => asSl (l 15) fun x15 x15n x15c => asI .i64 (l 16) fun x16 => asI .i64 (l 17) fun x17 => Inv_again3 m_again3 origin_0 most_2 soas_3 out_9 out_9n out_9c x15 x15n x15c x16 x17 I S) m_again3 (cast (by kernel_rfl) h0) ?_
    clear h0
    intro m_again3 l I S hle h
    obtain ⟨origin_0, e0, h⟩ := asStr_e h
    obtain ⟨most_2, e2, h⟩ := asI_e h
    obtain ⟨soas_3, e3, h⟩ := asB_e h
    obtain ⟨out_9, out_9n, out_9c, e9, h⟩ := asSl_e h
    obtain ⟨x15, x15n, x15c, e15, h⟩ := asSl_e h
    obtain ⟨x16, e16, h⟩ := asI_e h
    obtain ⟨x17, e17, h⟩ := asI_e h
    rw [upd_eta e0, upd_eta e2, upd_eta e3, upd_eta e9, upd_eta e15, upd_eta e16, upd_eta e17]
    have h := hr m_again3 origin_0 most_2 soas_3 out_9 out_9n out_9c x15 x15n x15c x16 x17 I S hle h
    clear hr hle
    refine WP.cut 2 (fun l I S => asStr (l 0) fun origin_0 => asI .i64 (l 2) fun most_2 => asB (l 3) fun soas_3 => asSl (l 9) fun out_9 out_9n out_9c => asSl (l 15) fun x15 x15n x15c => asI .i64 (l 16) fun x16 => asI .i64 (l 17) fun x17 => bolterlaw09_Under_b4 (fun origin_0 most_2 soas_3 out_9 out_9n out_9c x15 x15n x15c x16 x17 I S => ∃ m', m' < m_again3 ∧ Inv_again3 m' origin_0 most_2 soas_3 out_9 out_9n out_9c x15 x15n x15c x16 x17 I S) R origin_0 most_2 soas_3 out_9 out_9n out_9c x15 x15n x15c x16 x17 I S) (cast (by kernel_rfl) h) ?_
    clear h
    intro l I S _ h
    obtain ⟨origin_0, e0, h⟩ := asStr_e h
    obtain ⟨most_2, e2, h⟩ := asI_e h
    obtain ⟨soas_3, e3, h⟩ := asB_e h
    obtain ⟨out_9, out_9n, out_9c, e9, h⟩ := asSl_e h
    obtain ⟨x15, x15n, x15c, e15, h⟩ := asSl_e h
    obtain ⟨x16, e16, h⟩ := asI_e h
    obtain ⟨x17, e17, h⟩ := asI_e h
    rw [upd_eta e0, upd_eta e2, upd_eta e3, upd_eta e9, upd_eta e15, upd_eta e16, upd_eta e17]
    refine WP.seqY (by kernel_rfl) (fun l I S => asStr (l 0) fun origin_0 => asI .i64 (l 2) fun most_2 => asB (l 3) fun soas_3 => asSl (l 9) fun out_9 out_9n out_9c => asSl (l 15) fun x15 x15n x15c => asI .i64 (l 16) fun x16 => asI .i64 (l 17) fun x17 => bolterlaw09_Under_b8 (fun origin_0 most_2 soas_3 out_9 out_9n out_9c x15 x15n x15c x16 x17 I S => ∃ m', m' < m_again3 ∧ Inv_again3 m' origin_0 most_2 soas_3 out_9 out_9n out_9c x15 x15n x15c x16 x17 I S) R origin_0 most_2 soas_3 out_9 out_9n out_9c x15 x15n x15c x16 x17 I S) ?_ ?_
    ·
      refine WP.block' (by kernel_rfl) ?_
      refine WP.cut 5 (fun l I S => asStr (l 0) fun origin_0 => asI .i64 (l 2) fun most_2 => asB (l 3) fun soas_3 => asSl (l 9) fun out_9 out_9n out_9c => asAdr (l 11) fun a_11 => asAdr (l 12) fun r_12 => asStr (l 13) fun n_13 => asSl (l 15) fun x15 x15n x15c => asI .i64 (l 16) fun x16 => asI .i64 (l 17) fun x17 => bolterlaw09_Under_b6 (fun origin_0 most_2 soas_3 out_9 out_9n out_9c x15 x15n x15c x16 x17 I S => ∃ m', m' < m_again3 ∧ Inv_again3 m' origin_0 most_2 soas_3 out_9 out_9n out_9c x15 x15n x15c x16 x17 I S) R origin_0 most_2 soas_3 out_9 out_9n out_9c a_11 r_12 n_13 x15 x15n x15c x16 x17 I S) (cast (by kernel_rfl) h) ?_
      clear h
      intro l I S _ h
      obtain ⟨origin_0, e0, h⟩ := asStr_e h
      obtain ⟨most_2, e2, h⟩ := asI_e h
      obtain ⟨soas_3, e3, h⟩ := asB_e h
      obtain ⟨out_9, out_9n, out_9c, e9, h⟩ := asSl_e h
      obtain ⟨a_11, e11, h⟩ := asAdr_e h
      obtain ⟨r_12, e12, h⟩ := asAdr_e h
      obtain ⟨n_13, e13, h⟩ := asStr_e h
      obtain ⟨x15, x15n, x15c, e15, h⟩ := asSl_e h
      obtain ⟨x16, e16, h⟩ := asI_e h
      obtain ⟨x17, e17, h⟩ := asI_e h
      rw [upd_eta e0, upd_eta e2, upd_eta e3, upd_eta e9, upd_eta e11, upd_eta e12, upd_eta e13, upd_eta e15, upd_eta e16, upd_eta e17]
      refine WP.cut 2 (fun l I S => asStr (l 0) fun origin_0 => asI .i64 (l 2) fun most_2 => asB (l 3) fun soas_3 => asSl (l 9) fun out_9 out_9n out_9c => asAdr (l 12) fun r_12 => asSl (l 15) fun x15 x15n x15c => asI .i64 (l 16) fun x16 => asI .i64 (l 17) fun x17 => bolterlaw09_Under_b7 (fun origin_0 most_2 soas_3 out_9 out_9n out_9c x15 x15n x15c x16 x17 I S => ∃ m', m' < m_again3 ∧ Inv_again3 m' origin_0 most_2 soas_3 out_9 out_9n out_9c x15 x15n x15c x16 x17 I S) R origin_0 most_2 soas_3 out_9 out_9n out_9c r_12 x15 x15n x15c x16 x17 I S) (cast (by kernel_rfl) h) ?_
      clear h
      intro l I S _ h
      obtain ⟨origin_0, e0, h⟩ := asStr_e h
      obtain ⟨most_2, e2, h⟩ := asI_e h
      obtain ⟨soas_3, e3, h⟩ := asB_e h
      obtain ⟨out_9, out_9n, out_9c, e9, h⟩ := asSl_e h
      obtain ⟨r_12, e12, h⟩ := asAdr_e h
      obtain ⟨x15, x15n, x15c, e15, h⟩ := asSl_e h
      obtain ⟨x16, e16, h⟩ := asI_e h
      obtain ⟨x17, e17, h⟩ := asI_e h
      rw [upd_eta e0, upd_eta e2, upd_eta e3, upd_eta e9, upd_eta e12, upd_eta e15, upd_eta e16, upd_eta e17]
      exact Pre.sound _ _ _ _ _ (cast (by kernel_rfl) h)
    · clear h
      intro l I S _ h
      obtain ⟨origin_0, e0, h⟩ := asStr_e h
      obtain ⟨most_2, e2, h⟩ := asI_e h
      obtain ⟨soas_3, e3, h⟩ := asB_e h
      obtain ⟨out_9, out_9n, out_9c, e9, h⟩ := asSl_e h
      obtain ⟨x15, x15n, x15c, e15, h⟩ := asSl_e h
      obtain ⟨x16, e16, h⟩ := asI_e h
      obtain ⟨x17, e17, h⟩ := asI_e h
      rw [upd_eta e0, upd_eta e2, upd_eta e3, upd_eta e9, upd_eta e15, upd_eta e16, upd_eta e17]
      exact Pre.sound _ _ _ _ _ (cast (by kernel_rfl) h)
  · clear h
    intro l I S _ h
    obtain ⟨out_9, out_9n, out_9c, e9, h⟩ := asSl_e h
    rw [upd_eta e9]
    exact Pre.sound _ _ _ _ _ (cast (by kernel_rfl) h)
/-! ### apply_Delta: function 23, bolter/apply.Delta -/
noncomputable def apply_Delta_code : Code := (Tryd.f23.body).getD .skip
def apply_Delta_b10 (R : Value → IMem → SH → Prop) (out_8 : Option Addr) (out_8n : Nat) (out_8c : Nat) (e_9 : Value) (I : IMem) (S : SH) : Prop :=
  ∃ nl, isNilI e_9 = some nl ∧
  bcase (!nl)
    (R (.tuple #[.slice none 0 0, e_9]) I S)
    (R (.tuple #[.slice out_8 out_8n out_8c, .nilIface]) I S)
def apply_Delta_l9 (again9 : Option Addr → Nat → Nat → Value → Option Addr → Nat → Nat → Int → Int → IMem → SH → Prop) (R : Value → IMem → SH → Prop) (out_8 : Option Addr) (out_8n : Nat) (out_8c : Nat) (e_9 : Value) (x58 : Option Addr) (x58n : Nat) (x58c : Nat) (x59 : Int) (x60 : Int) (I : IMem) (S : SH) : Prop :=
  bcase (decide (x60 < x59))
    (ptrP x58 fun x62 => (0 : Int) ≤ x60 ∧ x60 < (x58n : Int) ∧
    ∃ x63_0, Cell I S (x62.add (x60.toNat * 4)) (.string x63_0) ∧
    ∃ x63_1, Cell I S ((x62.add (x60.toNat * 4)).add 1) (.int .u16 x63_1) ∧
    ∃ x63_2, Cell I S ((x62.add (x60.toNat * 4)).add 2) (.int .u32 x63_2) ∧
    ∃ x63_3, Cell I S ((x62.add (x60.toNat * 4)).add 3) (.string x63_3) ∧
    ∀ b13 : Nat,
    StP ((b13, .cells #[.string ⟨#[]⟩, .int .u16 0, .int .u32 0, .string ⟨#[]⟩] 36 (0, 0)) :: S) ⟨b13, 0, none⟩ [.string x63_0, .int .u16 x63_1, .int .u32 x63_2, .string x63_3] fun S1 =>
    ∃ nl, isNilI e_9 = some nl ∧
    bcase (!nl)
      (R (.tuple #[.slice none 0 0, e_9]) I S1)
      (∃ x69_0, Cell I S1 ⟨b13, 0, none⟩ (.string x69_0) ∧
      ∃ x69_1, Cell I S1 ⟨b13, 1, none⟩ (.int .u16 x69_1) ∧
      ∃ x69_2, Cell I S1 ⟨b13, 2, none⟩ (.int .u32 x69_2) ∧
      ∃ x69_3, Cell I S1 ⟨b13, 3, none⟩ (.string x69_3) ∧
      Runs Tryd.prog 13 #[.slice out_8 out_8n out_8c, .agg #[.string x69_0, .int .u16 x69_1, .int .u32 x69_2, .string x69_3]] I S1 fun v I1 S1' => ∃ x70_0 x70_0n x70_0c x70_1, v = .tuple #[.slice x70_0 x70_0n x70_0c, x70_1] ∧
      again9 x70_0 x70_0n x70_0c x70_1 x58 x58n x58c x59 (IntKind.wrap .i64 (x60 + (1 : Int))) I1 S1'))
    (apply_Delta_b10 R out_8 out_8n out_8c e_9 I S)
def apply_Delta_b8 (R : Value → IMem → SH → Prop) (out_8 : Option Addr) (out_8n : Nat) (out_8c : Nat) (e_9 : Value) (x58 : Option Addr) (x58n : Nat) (x58c : Nat) (x59 : Int) (x60 : Int) (I : IMem) (S : SH) : Prop :=
  ∃ (Inv : Nat → Option Addr → Nat → Nat → Value → Option Addr → Nat → Nat → Int → Int → IMem → SH → Prop) (m : Nat), Inv m out_8 out_8n out_8c e_9 x58 x58n x58c x59 x60 I S ∧
    ∀ (m : Nat) (out_8 : Option Addr) (out_8n : Nat) (out_8c : Nat) (e_9 : Value) (x58 : Option Addr) (x58n : Nat) (x58c : Nat) (x59 : Int) (x60 : Int) (J : IMem) (T : SH), I.le J → Inv m out_8 out_8n out_8c e_9 x58 x58n x58c x59 x60 J T →
      apply_Delta_l9 (fun out_8 out_8n out_8c e_9 x58 x58n x58c x59 x60 I S => ∃ m', m' < m ∧ Inv m' out_8 out_8n out_8c e_9 x58 x58n x58c x59 x60 I S) R out_8 out_8n out_8c e_9 x58 x58n x58c x59 x60 J T
def apply_Delta_b7 (R : Value → IMem → SH → Prop) (d_3 : Addr) (out_8 : Option Addr) (out_8n : Nat) (out_8c : Nat) (e_9 : Value) (I : IMem) (S : SH) : Prop :=
  ∃ x53 x53n x53c, Cell I S (d_3.add 9) (.slice x53 x53n x53c) ∧
  ∃ x56_0, Cell I S (d_3.add 4) (.string x56_0) ∧
  ∃ x56_1, Cell I S ((d_3.add 4).add 1) (.int .u16 x56_1) ∧
  ∃ x56_2, Cell I S ((d_3.add 4).add 2) (.int .u32 x56_2) ∧
  ∃ x56_3, Cell I S ((d_3.add 4).add 3) (.string x56_3) ∧
  (Runs Tryd.prog 41 #[.slice x53 x53n x53c] I S fun v I1 S1 => ∃ x54 x54n x54c, v = .slice x54 x54n x54c ∧
  Keep I S I1 S1 ∧
  ∀ b57 : Nat,
  Keep I S I1 ((b57, .cells #[.string x56_0, .int .u16 x56_1, .int .u32 x56_2, .string x56_3] 36 (0, 0)) :: S1) ∧
  AppG 36 4 40 [.string ⟨#[]⟩, .int .u16 0, .int .u32 0, .string ⟨#[]⟩] (some (.slice 36)) I1 ((b57, .cells #[.string x56_0, .int .u16 x56_1, .int .u32 x56_2, .string x56_3] 36 (0, 0)) :: S1) (.slice x54 x54n x54c) (.slice (some ⟨b57, 0, none⟩) 1 1) fun x58 x58n x58c S1' =>
  apply_Delta_b8 R out_8 out_8n out_8c e_9 x58 x58n x58c (x58n : Int) 0 I1 S1') ∧
  (∀ b57' : Nat,
  Keep I S I ((b57', .cells #[.string x56_0, .int .u16 x56_1, .int .u32 x56_2, .string x56_3] 36 (0, 0)) :: S) ∧
  Runs Tryd.prog 41 #[.slice x53 x53n x53c] I ((b57', .cells #[.string x56_0, .int .u16 x56_1, .int .u32 x56_2, .string x56_3] 36 (0, 0)) :: S) fun v' I1' S1'' => ∃ x54' x54'n x54'c, v' = .slice x54' x54'n x54'c ∧
  Keep I S I1' S1'' ∧
  AppG 36 4 40 [.string ⟨#[]⟩, .int .u16 0, .int .u32 0, .string ⟨#[]⟩] (some (.slice 36)) I1' S1'' (.slice x54' x54'n x54'c) (.slice (some ⟨b57', 0, none⟩) 1 1) fun x58' x58'n x58'c S1_r3 =>
  apply_Delta_b8 R out_8 out_8n out_8c e_9 x58' x58'n x58'c (x58'n : Int) 0 I1' S1_r3)
def apply_Delta_l6 (again6 : Addr → Option Addr → Nat → Nat → Value → Option Addr → Nat → Nat → Int → Int → IMem → SH → Prop) (R : Value → IMem → SH → Prop) (d_3 : Addr) (out_8 : Option Addr) (out_8n : Nat) (out_8c : Nat) (e_9 : Value) (x36 : Option Addr) (x36n : Nat) (x36c : Nat) (x37 : Int) (x38 : Int) (I : IMem) (S : SH) : Prop :=
  bcase (decide (x38 < x37))
    (ptrP x36 fun x40 => (0 : Int) ≤ x38 ∧ x38 < (x36n : Int) ∧
    ∃ x41_0, Cell I S (x40.add (x38.toNat * 4)) (.string x41_0) ∧
    ∃ x41_1, Cell I S ((x40.add (x38.toNat * 4)).add 1) (.int .u16 x41_1) ∧
    ∃ x41_2, Cell I S ((x40.add (x38.toNat * 4)).add 2) (.int .u32 x41_2) ∧
    ∃ x41_3, Cell I S ((x40.add (x38.toNat * 4)).add 3) (.string x41_3) ∧
    ∀ b11 : Nat,
    StP ((b11, .cells #[.string ⟨#[]⟩, .int .u16 0, .int .u32 0, .string ⟨#[]⟩] 36 (0, 0)) :: S) ⟨b11, 0, none⟩ [.string x41_0, .int .u16 x41_1, .int .u32 x41_2, .string x41_3] fun S1 =>
    ∃ nl, isNilI e_9 = some nl ∧
    bcase (!nl)
      (R (.tuple #[.slice none 0 0, e_9]) I S1)
      (∃ x47_0, Cell I S1 ⟨b11, 0, none⟩ (.string x47_0) ∧
      ∃ x47_1, Cell I S1 ⟨b11, 1, none⟩ (.int .u16 x47_1) ∧
      ∃ x47_2, Cell I S1 ⟨b11, 2, none⟩ (.int .u32 x47_2) ∧
      ∃ x47_3, Cell I S1 ⟨b11, 3, none⟩ (.string x47_3) ∧
      Runs Tryd.prog 17 #[.slice out_8 out_8n out_8c, .agg #[.string x47_0, .int .u16 x47_1, .int .u32 x47_2, .string x47_3]] I S1 fun v I1 S1' => ∃ x48_0 x48_0n x48_0c x48_1, v = .tuple #[.slice x48_0 x48_0n x48_0c, x48_1] ∧
      again6 d_3 x48_0 x48_0n x48_0c x48_1 x36 x36n x36c x37 (IntKind.wrap .i64 (x38 + (1 : Int))) I1 S1'))
    (apply_Delta_b7 R d_3 out_8 out_8n out_8c e_9 I S)
def apply_Delta_b5 (R : Value → IMem → SH → Prop) (d_3 : Addr) (out_8 : Option Addr) (out_8n : Nat) (out_8c : Nat) (e_9 : Value) (x36 : Option Addr) (x36n : Nat) (x36c : Nat) (x37 : Int) (x38 : Int) (I : IMem) (S : SH) : Prop :=
  ∃ (Inv : Nat → Addr → Option Addr → Nat → Nat → Value → Option Addr → Nat → Nat → Int → Int → IMem → SH → Prop) (m : Nat), Inv m d_3 out_8 out_8n out_8c e_9 x36 x36n x36c x37 x38 I S ∧
    ∀ (m : Nat) (d_3 : Addr) (out_8 : Option Addr) (out_8n : Nat) (out_8c : Nat) (e_9 : Value) (x36 : Option Addr) (x36n : Nat) (x36c : Nat) (x37 : Int) (x38 : Int) (J : IMem) (T : SH), I.le J → Inv m d_3 out_8 out_8n out_8c e_9 x36 x36n x36c x37 x38 J T →
      apply_Delta_l6 (fun d_3 out_8 out_8n out_8c e_9 x36 x36n x36c x37 x38 I S => ∃ m', m' < m ∧ Inv m' d_3 out_8 out_8n out_8c e_9 x36 x36n x36c x37 x38 I S) R d_3 out_8 out_8n out_8c e_9 x36 x36n x36c x37 x38 J T
def apply_Delta_b4 (R : Value → IMem → SH → Prop) (d_3 : Addr) (out_8 : Option Addr) (out_8n : Nat) (out_8c : Nat) (e_9 : Value) (I : IMem) (S : SH) : Prop :=
  ∃ x36 x36n x36c, Cell I S (d_3.add 8) (.slice x36 x36n x36c) ∧
  apply_Delta_b5 R d_3 out_8 out_8n out_8c e_9 x36 x36n x36c (x36n : Int) 0 I S
def apply_Delta_b3 (R : Value → IMem → SH → Prop) (z_0 : Option Addr) (z_0n : Nat) (z_0c : Nat) (d_3 : Addr) (I : IMem) (S : SH) : Prop :=
  ∃ x31_0, Cell I S d_3 (.string x31_0) ∧
  ∃ x31_1, Cell I S (d_3.add 1) (.int .u16 x31_1) ∧
  ∃ x31_2, Cell I S (d_3.add 2) (.int .u32 x31_2) ∧
  ∃ x31_3, Cell I S (d_3.add 3) (.string x31_3) ∧
  Runs Tryd.prog 17 #[.slice z_0 z_0n z_0c, .agg #[.string x31_0, .int .u16 x31_1, .int .u32 x31_2, .string x31_3]] I S fun v I1 S1 => ∃ x32_0 x32_0n x32_0c x32_1, v = .tuple #[.slice x32_0 x32_0n x32_0c, x32_1] ∧
  apply_Delta_b4 R d_3 x32_0 x32_0n x32_0c x32_1 I1 S1
def apply_Delta_b2 (R : Value → IMem → SH → Prop) (z_0 : Option Addr) (z_0n : Nat) (z_0c : Nat) (d_3 : Addr) (x26 : Bool) (I : IMem) (S : SH) : Prop :=
  bcase x26
    (R (.tuple #[.slice none 0 0, (.iface 43 (.int .i64 5))]) I S)
    (apply_Delta_b3 R z_0 z_0n z_0c d_3 I S)
def apply_Delta_b1 (R : Value → IMem → SH → Prop) (z_0 : Option Addr) (z_0n : Nat) (z_0c : Nat) (d_3 : Addr) (I : IMem) (S : SH) : Prop :=
  Runs Tryd.prog 40 #[.slice z_0 z_0n z_0c] I S fun v I1 S1 => ∃ x16_0_0 x16_0_1 x16_0_2 x16_0_3 x16_1, v = .tuple #[.agg #[.string x16_0_0, .int .u16 x16_0_1, .int .u32 x16_0_2, .string x16_0_3], .bool x16_1] ∧
  ∀ b6 : Nat,
  StP ((b6, .cells #[.string ⟨#[]⟩, .int .u16 0, .int .u32 0, .string ⟨#[]⟩] 36 (0, 0)) :: S1) ⟨b6, 0, none⟩ [.string x16_0_0, .int .u16 x16_0_1, .int .u32 x16_0_2, .string x16_0_3] fun S1' =>
  bcase (!x16_1)
    (apply_Delta_b2 R z_0 z_0n z_0c d_3 true I1 S1')
    (∃ x22_0, Cell I1 S1' ⟨b6, 0, none⟩ (.string x22_0) ∧
    ∃ x22_1, Cell I1 S1' ⟨b6, 1, none⟩ (.int .u16 x22_1) ∧
    ∃ x22_2, Cell I1 S1' ⟨b6, 2, none⟩ (.int .u32 x22_2) ∧
    ∃ x22_3, Cell I1 S1' ⟨b6, 3, none⟩ (.string x22_3) ∧
    ∃ x24_0, Cell I1 S1' d_3 (.string x24_0) ∧
    ∃ x24_1, Cell I1 S1' (d_3.add 1) (.int .u16 x24_1) ∧
    ∃ x24_2, Cell I1 S1' (d_3.add 2) (.int .u32 x24_2) ∧
    ∃ x24_3, Cell I1 S1' (d_3.add 3) (.string x24_3) ∧
    apply_Delta_b2 R z_0 z_0n z_0c d_3 (!(((x22_0 : ByteArray) == (x24_0 : ByteArray)) && (((x22_1 : Int) == (x24_1 : Int)) && (((x22_2 : Int) == (x24_2 : Int)) && (((x22_3 : ByteArray) == (x24_3 : ByteArray)) && true))))) I1 S1')
def apply_Delta (R : Value → IMem → SH → Prop) (z_0 : Option Addr) (z_0n : Nat) (z_0c : Nat) (d_1_0 : ByteArray) (d_1_1 : Int) (d_1_2 : Int) (d_1_3 : ByteArray) (d_1_4 : ByteArray) (d_1_5 : Int) (d_1_6 : Int) (d_1_7 : ByteArray) (d_1_8 : Option Addr) (d_1_8n : Nat) (d_1_8c : Nat) (d_1_9 : Option Addr) (d_1_9n : Nat) (d_1_9c : Nat) (I : IMem) (S : SH) : Prop :=
  ∀ b3 : Nat,
  apply_Delta_b1 R z_0 z_0n z_0c ⟨b3, 0, none⟩ I ((b3, .cells #[.string d_1_0, .int .u16 d_1_1, .int .u32 d_1_2, .string d_1_3, .string d_1_4, .int .u16 d_1_5, .int .u32 d_1_6, .string d_1_7, .slice d_1_8 d_1_8n d_1_8c, .slice d_1_9 d_1_9n d_1_9c] 52 (0, 0)) :: S)
theorem apply_Delta_fn (R : Value → IMem → SH → Prop) (z_0 : Option Addr) (z_0n : Nat) (z_0c : Nat) (d_1_0 : ByteArray) (d_1_1 : Int) (d_1_2 : Int) (d_1_3 : ByteArray) (d_1_4 : ByteArray) (d_1_5 : Int) (d_1_6 : Int) (d_1_7 : ByteArray) (d_1_8 : Option Addr) (d_1_8n : Nat) (d_1_8c : Nat) (d_1_9 : Option Addr) (d_1_9n : Nat) (d_1_9c : Nat) (I : IMem) (S : SH) (h : apply_Delta R z_0 z_0n z_0c d_1_0 d_1_1 d_1_2 d_1_3 d_1_4 d_1_5 d_1_6 d_1_7 d_1_8 d_1_8n d_1_8c d_1_9 d_1_9n d_1_9c I S) :
    Runs Tryd.prog 23 #[.slice z_0 z_0n z_0c, .agg #[.string d_1_0, .int .u16 d_1_1, .int .u32 d_1_2, .string d_1_3, .string d_1_4, .int .u16 d_1_5, .int .u32 d_1_6, .string d_1_7, .slice d_1_8 d_1_8n d_1_8c, .slice d_1_9 d_1_9n d_1_9c]] I S R := by
  refine Runs.of_wp (args := [.slice z_0 z_0n z_0c, .agg #[.string d_1_0, .int .u16 d_1_1, .int .u32 d_1_2, .string d_1_3, .string d_1_4, .int .u16 d_1_5, .int .u32 d_1_6, .string d_1_7, .slice d_1_8 d_1_8n d_1_8c, .slice d_1_9 d_1_9n d_1_9c]]) (c := apply_Delta_code) Tryd.func23 (by kernel_rfl) (by kernel_rfl) ?_
  refine WP.cut 1 (fun l I S => asSl (l 0) fun z_0 z_0n z_0c => asAdr (l 3) fun d_3 => apply_Delta_b1 R z_0 z_0n z_0c d_3 I S) (cast (by kernel_rfl) h) ?_
  clear h
  intro l I S _ h
  obtain ⟨z_0, z_0n, z_0c, e0, h⟩ := asSl_e h
  obtain ⟨d_3, e3, h⟩ := asAdr_e h
  rw [upd_eta e0, upd_eta e3]
  refine WP.seqY (by kernel_rfl) (fun l I S => asSl (l 0) fun z_0 z_0n z_0c => asAdr (l 3) fun d_3 => apply_Delta_b3 R z_0 z_0n z_0c d_3 I S) ?_ ?_
  ·
    refine WP.cut 2 (fun l I S => asSl (l 0) fun z_0 z_0n z_0c => asAdr (l 3) fun d_3 => asB (l 26) fun x26 => apply_Delta_b2 R z_0 z_0n z_0c d_3 x26 I S) (cast (by kernel_rfl) h) ?_
    clear h
    intro l I S _ h
    obtain ⟨z_0, z_0n, z_0c, e0, h⟩ := asSl_e h
    obtain ⟨d_3, e3, h⟩ := asAdr_e h
    obtain ⟨x26, e26, h⟩ := asB_e h
    rw [upd_eta e0, upd_eta e3, upd_eta e26]
    exact Pre.sound _ _ _ _ _ (cast (by kernel_rfl) h)
  · clear h
    intro l I S _ h
    obtain ⟨z_0, z_0n, z_0c, e0, h⟩ := asSl_e h
    obtain ⟨d_3, e3, h⟩ := asAdr_e h
    rw [upd_eta e0, upd_eta e3]
    refine WP.cut 1 (fun l I S => asAdr (l 3) fun d_3 => asSl (l 8) fun out_8 out_8n out_8c => asV (l 9) fun e_9 => apply_Delta_b4 R d_3 out_8 out_8n out_8c e_9 I S) (cast (by kernel_rfl) h) ?_
    clear h
    intro l I S _ h
    obtain ⟨d_3, e3, h⟩ := asAdr_e h
    obtain ⟨out_8, out_8n, out_8c, e8, h⟩ := asSl_e h
    obtain ⟨e_9, e9, h⟩ := asV_e h
    rw [upd_eta e3, upd_eta e8, upd_eta e9]
    refine WP.seqY (by kernel_rfl) (fun l I S => asAdr (l 3) fun d_3 => asSl (l 8) fun out_8 out_8n out_8c => asV (l 9) fun e_9 => apply_Delta_b7 R d_3 out_8 out_8n out_8c e_9 I S) ?_ ?_
    ·
      refine WP.cut 1 (fun l I S => asAdr (l 3) fun d_3 => asSl (l 8) fun out_8 out_8n out_8c => asV (l 9) fun e_9 => asSl (l 36) fun x36 x36n x36c => asI .i64 (l 37) fun x37 => asI .i64 (l 38) fun x38 => apply_Delta_b5 R d_3 out_8 out_8n out_8c e_9 x36 x36n x36c x37 x38 I S) (cast (by kernel_rfl) h) ?_
      clear h
      intro l I S _ h
      obtain ⟨d_3, e3, h⟩ := asAdr_e h
      obtain ⟨out_8, out_8n, out_8c, e8, h⟩ := asSl_e h
      obtain ⟨e_9, e9, h⟩ := asV_e h
      obtain ⟨x36, x36n, x36c, e36, h⟩ := asSl_e h
      obtain ⟨x37, e37, h⟩ := asI_e h
      obtain ⟨x38, e38, h⟩ := asI_e h
      rw [upd_eta e3, upd_eta e8, upd_eta e9, upd_eta e36, upd_eta e37, upd_eta e38]
      refine WP.block' (by kernel_rfl) ?_
      obtain ⟨Inv_again6, m_again6, h0, hr⟩ := h
      refine WP.loop' (by kernel_rfl) (fun m_again6 => fun l I S => asAdr (l 3) fun d_3 => asSl (l 8) fun out_8 out_8n out_8c => asV (l 9) fun e_9 => asSl (l 36) fun x36 x36n x36c => asI .i64 (l 37) fun x37 => asI .i64 (l 38) fun x38 => Inv_again6 m_again6 d_3 out_8 out_8n out_8c e_9 x36 x36n x36c x37 x38 I S) m_again6 (cast (by kernel_rfl) h0) ?_
      clear h0
      intro m_again6 l I S hle h
      obtain ⟨d_3, e3, h⟩ := asAdr_e h
      obtain ⟨out_8, out_8n, out_8c, e8, h⟩ := asSl_e h
      obtain ⟨e_9, e9, h⟩ := asV_e h
      obtain ⟨x36, x36n, x36c, e36, h⟩ := asSl_e h
      obtain ⟨x37, e37, h⟩ := asI_e h
      obtain ⟨x38, e38, h⟩ := asI_e h
      rw [upd_eta e3, upd_eta e8, upd_eta e9, upd_eta e36, upd_eta e37, upd_eta e38]
      have h := hr m_again6 d_3 out_8 out_8n out_8c e_9 x36 x36n x36c x37 x38 I S hle h
      clear hr hle
      exact Pre.sound _ _ _ _ _ (cast (by kernel_rfl) h)
    · clear h
      intro l I S _ h
      obtain ⟨d_3, e3, h⟩ := asAdr_e h
      obtain ⟨out_8, out_8n, out_8c, e8, h⟩ := asSl_e h
      obtain ⟨e_9, e9, h⟩ := asV_e h
      rw [upd_eta e3, upd_eta e8, upd_eta e9]
      refine WP.seqY (by kernel_rfl) (fun l I S => asSl (l 8) fun out_8 out_8n out_8c => asV (l 9) fun e_9 => apply_Delta_b10 R out_8 out_8n out_8c e_9 I S) ?_ ?_
      ·
        refine WP.seqY (by kernel_rfl) (fun l I S => asSl (l 8) fun out_8 out_8n out_8c => asV (l 9) fun e_9 => asSl (l 58) fun x58 x58n x58c => asI .i64 (l 59) fun x59 => asI .i64 (l 60) fun x60 => apply_Delta_b8 R out_8 out_8n out_8c e_9 x58 x58n x58c x59 x60 I S) ?_ ?_
        ·
          exact WP.draw' (.take 0 (.take 1 (.take 3 (.take 4 (.take 8 (.fork 2 (.step 5 (.step 6 (.take 7 .done))) 5 (.step 2 (.step 6 (.take 7 .done))))))))) [2, 5, 6] (by kernel_rfl) (by kernel_rfl) (by kernel_rfl) (by kernel_rfl) (by kernel_rfl) (cast (by kernel_rfl) h)
        · clear h
          intro l I S _ h
          obtain ⟨out_8, out_8n, out_8c, e8, h⟩ := asSl_e h
          obtain ⟨e_9, e9, h⟩ := asV_e h
          obtain ⟨x58, x58n, x58c, e58, h⟩ := asSl_e h
          obtain ⟨x59, e59, h⟩ := asI_e h
          obtain ⟨x60, e60, h⟩ := asI_e h
          rw [upd_eta e8, upd_eta e9, upd_eta e58, upd_eta e59, upd_eta e60]
          refine WP.block' (by kernel_rfl) ?_
          obtain ⟨Inv_again9, m_again9, h0, hr⟩ := h
          refine WP.loop' (by kernel_rfl) (fun m_again9 => fun l I S => asSl (l 8) fun out_8 out_8n out_8c => asV (l 9) fun e_9 => asSl (l 58) fun x58 x58n x58c => asI .i64 (l 59) fun x59 => asI .i64 (l 60) fun x60 => Inv_again9 m_again9 out_8 out_8n out_8c e_9 x58 x58n x58c x59 x60 I S) m_again9 (cast (by kernel_rfl) h0) ?_
          clear h0
          intro m_again9 l I S hle h
          obtain ⟨out_8, out_8n, out_8c, e8, h⟩ := asSl_e h
          obtain ⟨e_9, e9, h⟩ := asV_e h
          obtain ⟨x58, x58n, x58c, e58, h⟩ := asSl_e h
          obtain ⟨x59, e59, h⟩ := asI_e h
          obtain ⟨x60, e60, h⟩ := asI_e h
          rw [upd_eta e8, upd_eta e9, upd_eta e58, upd_eta e59, upd_eta e60]
          have h := hr m_again9 out_8 out_8n out_8c e_9 x58 x58n x58c x59 x60 I S hle h
          clear hr hle
          exact Pre.sound _ _ _ _ _ (cast (by kernel_rfl) h)
      · clear h
        intro l I S _ h
        obtain ⟨out_8, out_8n, out_8c, e8, h⟩ := asSl_e h
        obtain ⟨e_9, e9, h⟩ := asV_e h
        rw [upd_eta e8, upd_eta e9]
        exact Pre.sound _ _ _ _ _ (cast (by kernel_rfl) h)
/-! ### bolterlaw10_delta: function 24, bolter/bolterlaw10.delta -/
noncomputable def bolterlaw10_delta_code : Code := (Tryd.f24.body).getD .skip
def bolterlaw10_delta_b11 (again6 : Addr → Option Addr → Nat → Nat → Option Addr → Nat → Nat → Int → Int → IMem → SH → Prop) (again10 : Addr → Option Addr → Nat → Nat → Addr → Option Addr → Nat → Nat → Option Addr → Nat → Nat → Int → Int → Option Addr → Nat → Nat → Int → Int → IMem → SH → Prop) (R : Value → IMem → SH → Prop) (d_3 : Addr) (out_8 : Option Addr) (out_8n : Nat) (out_8c : Nat) (r_10 : Addr) (rest_11 : Option Addr) (rest_11n : Nat) (rest_11c : Nat) (x38 : Option Addr) (x38n : Nat) (x38c : Nat) (x39 : Int) (x40 : Int) (x44 : Option Addr) (x44n : Nat) (x44c : Nat) (x45 : Int) (x46 : Int) (I : IMem) (S : SH) : Prop :=
  again10 d_3 out_8 out_8n out_8c r_10 rest_11 rest_11n rest_11c x38 x38n x38c x39 x40 x44 x44n x44c x45 (IntKind.wrap .i64 (x46 + (1 : Int))) I S
def bolterlaw10_delta_b13 (again6 : Addr → Option Addr → Nat → Nat → Option Addr → Nat → Nat → Int → Int → IMem → SH → Prop) (R : Value → IMem → SH → Prop) (d_3 : Addr) (out_8 : Option Addr) (out_8n : Nat) (out_8c : Nat) (x38 : Option Addr) (x38n : Nat) (x38c : Nat) (x39 : Int) (x40 : Int) (I : IMem) (S : SH) : Prop :=
  again6 d_3 out_8 out_8n out_8c x38 x38n x38c x39 (IntKind.wrap .i64 (x40 + (1 : Int))) I S
def bolterlaw10_delta_b12 (again6 : Addr → Option Addr → Nat → Nat → Option Addr → Nat → Nat → Int → Int → IMem → SH → Prop) (R : Value → IMem → SH → Prop) (d_3 : Addr) (out_8 : Option Addr) (out_8n : Nat) (out_8c : Nat) (rest_11 : Option Addr) (rest_11n : Nat) (rest_11c : Nat) (x38 : Option Addr) (x38n : Nat) (x38c : Nat) (x39 : Int) (x40 : Int) (I : IMem) (S : SH) : Prop :=
  bcase ((rest_11n : Int) == (out_8n : Int))
    (R (.tuple #[.slice none 0 0, .int .i64 6]) I S)
    (bolterlaw10_delta_b13 again6 R d_3 rest_11 rest_11n rest_11c x38 x38n x38c x39 x40 I S)
def bolterlaw10_delta_l10 (again6 : Addr → Option Addr → Nat → Nat → Option Addr → Nat → Nat → Int → Int → IMem → SH → Prop) (again10 : Addr → Option Addr → Nat → Nat → Addr → Option Addr → Nat → Nat → Option Addr → Nat → Nat → Int → Int → Option Addr → Nat → Nat → Int → Int → IMem → SH → Prop) (R : Value → IMem → SH → Prop) (d_3 : Addr) (out_8 : Option Addr) (out_8n : Nat) (out_8c : Nat) (r_10 : Addr) (rest_11 : Option Addr) (rest_11n : Nat) (rest_11c : Nat) (x38 : Option Addr) (x38n : Nat) (x38c : Nat) (x39 : Int) (x40 : Int) (x44 : Option Addr) (x44n : Nat) (x44c : Nat) (x45 : Int) (x46 : Int) (I : IMem) (S : SH) : Prop :=
  bcase (decide (x46 < x45))
    (ptrP x44 fun x48 => (0 : Int) ≤ x46 ∧ x46 < (x44n : Int) ∧
    ∃ x49_0, Cell I S (x48.add (x46.toNat * 4)) (.string x49_0) ∧
    ∃ x49_1, Cell I S ((x48.add (x46.toNat * 4)).add 1) (.int .u16 x49_1) ∧
    ∃ x49_2, Cell I S ((x48.add (x46.toNat * 4)).add 2) (.int .u32 x49_2) ∧
    ∃ x49_3, Cell I S ((x48.add (x46.toNat * 4)).add 3) (.string x49_3) ∧
    ∀ b13 : Nat,
    StP ((b13, .cells #[.string ⟨#[]⟩, .int .u16 0, .int .u32 0, .string ⟨#[]⟩] 36 (0, 0)) :: S) ⟨b13, 0, none⟩ [.string x49_0, .int .u16 x49_1, .int .u32 x49_2, .string x49_3] fun S1 =>
    ∃ x50_0, Cell I S1 ⟨b13, 0, none⟩ (.string x50_0) ∧
    ∃ x50_1, Cell I S1 ⟨b13, 1, none⟩ (.int .u16 x50_1) ∧
    ∃ x50_2, Cell I S1 ⟨b13, 2, none⟩ (.int .u32 x50_2) ∧
    ∃ x50_3, Cell I S1 ⟨b13, 3, none⟩ (.string x50_3) ∧
    ∃ x51_0, Cell I S1 r_10 (.string x51_0) ∧
    ∃ x51_1, Cell I S1 (r_10.add 1) (.int .u16 x51_1) ∧
    ∃ x51_2, Cell I S1 (r_10.add 2) (.int .u32 x51_2) ∧
    ∃ x51_3, Cell I S1 (r_10.add 3) (.string x51_3) ∧
    bcase (!(((x50_0 : ByteArray) == (x51_0 : ByteArray)) && (((x50_1 : Int) == (x51_1 : Int)) && (((x50_2 : Int) == (x51_2 : Int)) && (((x50_3 : ByteArray) == (x51_3 : ByteArray)) && true)))))
      (∃ x54_0, Cell I S1 ⟨b13, 0, none⟩ (.string x54_0) ∧
      ∃ x54_1, Cell I S1 ⟨b13, 1, none⟩ (.int .u16 x54_1) ∧
      ∃ x54_2, Cell I S1 ⟨b13, 2, none⟩ (.int .u32 x54_2) ∧
      ∃ x54_3, Cell I S1 ⟨b13, 3, none⟩ (.string x54_3) ∧
      ∀ b55 : Nat,
      AppG 36 4 40 [.string ⟨#[]⟩, .int .u16 0, .int .u32 0, .string ⟨#[]⟩] (some (.slice 36)) I ((b55, .cells #[.string x54_0, .int .u16 x54_1, .int .u32 x54_2, .string x54_3] 36 (0, 0)) :: S1) (.slice rest_11 rest_11n rest_11c) (.slice (some ⟨b55, 0, none⟩) 1 1) fun x56 x56n x56c S1' =>
      bolterlaw10_delta_b11 again6 again10 R d_3 out_8 out_8n out_8c r_10 x56 x56n x56c x38 x38n x38c x39 x40 x44 x44n x44c x45 x46 I S1')
      (bolterlaw10_delta_b11 again6 again10 R d_3 out_8 out_8n out_8c r_10 rest_11 rest_11n rest_11c x38 x38n x38c x39 x40 x44 x44n x44c x45 x46 I S1))
    (bolterlaw10_delta_b12 again6 R d_3 out_8 out_8n out_8c rest_11 rest_11n rest_11c x38 x38n x38c x39 x40 I S)
def bolterlaw10_delta_b9 (again6 : Addr → Option Addr → Nat → Nat → Option Addr → Nat → Nat → Int → Int → IMem → SH → Prop) (R : Value → IMem → SH → Prop) (d_3 : Addr) (out_8 : Option Addr) (out_8n : Nat) (out_8c : Nat) (r_10 : Addr) (rest_11 : Option Addr) (rest_11n : Nat) (rest_11c : Nat) (x38 : Option Addr) (x38n : Nat) (x38c : Nat) (x39 : Int) (x40 : Int) (x44 : Option Addr) (x44n : Nat) (x44c : Nat) (x45 : Int) (x46 : Int) (I : IMem) (S : SH) : Prop :=
  ∃ (Inv : Nat → Addr → Option Addr → Nat → Nat → Addr → Option Addr → Nat → Nat → Option Addr → Nat → Nat → Int → Int → Option Addr → Nat → Nat → Int → Int → IMem → SH → Prop) (m : Nat), Inv m d_3 out_8 out_8n out_8c r_10 rest_11 rest_11n rest_11c x38 x38n x38c x39 x40 x44 x44n x44c x45 x46 I S ∧
    ∀ (m : Nat) (d_3 : Addr) (out_8 : Option Addr) (out_8n : Nat) (out_8c : Nat) (r_10 : Addr) (rest_11 : Option Addr) (rest_11n : Nat) (rest_11c : Nat) (x38 : Option Addr) (x38n : Nat) (x38c : Nat) (x39 : Int) (x40 : Int) (x44 : Option Addr) (x44n : Nat) (x44c : Nat) (x45 : Int) (x46 : Int) (J : IMem) (T : SH), I.le J → Inv m d_3 out_8 out_8n out_8c r_10 rest_11 rest_11n rest_11c x38 x38n x38c x39 x40 x44 x44n x44c x45 x46 J T →
      bolterlaw10_delta_l10 again6 (fun d_3 out_8 out_8n out_8c r_10 rest_11 rest_11n rest_11c x38 x38n x38c x39 x40 x44 x44n x44c x45 x46 I S => ∃ m', m' < m ∧ Inv m' d_3 out_8 out_8n out_8c r_10 rest_11 rest_11n rest_11c x38 x38n x38c x39 x40 x44 x44n x44c x45 x46 I S) R d_3 out_8 out_8n out_8c r_10 rest_11 rest_11n rest_11c x38 x38n x38c x39 x40 x44 x44n x44c x45 x46 J T
def bolterlaw10_delta_b8 (again6 : Addr → Option Addr → Nat → Nat → Option Addr → Nat → Nat → Int → Int → IMem → SH → Prop) (R : Value → IMem → SH → Prop) (d_3 : Addr) (out_8 : Option Addr) (out_8n : Nat) (out_8c : Nat) (r_10 : Addr) (rest_11 : Option Addr) (rest_11n : Nat) (rest_11c : Nat) (x38 : Option Addr) (x38n : Nat) (x38c : Nat) (x39 : Int) (x40 : Int) (I : IMem) (S : SH) : Prop :=
  bolterlaw10_delta_b9 again6 R d_3 out_8 out_8n out_8c r_10 rest_11 rest_11n rest_11c x38 x38n x38c x39 x40 out_8 out_8n out_8c (out_8n : Int) 0 I S
def bolterlaw10_delta_b7 (again6 : Addr → Option Addr → Nat → Nat → Option Addr → Nat → Nat → Int → Int → IMem → SH → Prop) (R : Value → IMem → SH → Prop) (d_3 : Addr) (out_8 : Option Addr) (out_8n : Nat) (out_8c : Nat) (x38 : Option Addr) (x38n : Nat) (x38c : Nat) (x39 : Int) (x40 : Int) (I : IMem) (S : SH) : Prop :=
  ptrP x38 fun x42 => (0 : Int) ≤ x40 ∧ x40 < (x38n : Int) ∧
  ∃ x43_0, Cell I S (x42.add (x40.toNat * 4)) (.string x43_0) ∧
  ∃ x43_1, Cell I S ((x42.add (x40.toNat * 4)).add 1) (.int .u16 x43_1) ∧
  ∃ x43_2, Cell I S ((x42.add (x40.toNat * 4)).add 2) (.int .u32 x43_2) ∧
  ∃ x43_3, Cell I S ((x42.add (x40.toNat * 4)).add 3) (.string x43_3) ∧
  ∀ b10 : Nat,
  StP ((b10, .cells #[.string ⟨#[]⟩, .int .u16 0, .int .u32 0, .string ⟨#[]⟩] 36 (0, 0)) :: S) ⟨b10, 0, none⟩ [.string x43_0, .int .u16 x43_1, .int .u32 x43_2, .string x43_3] fun S1 =>
  bolterlaw10_delta_b8 again6 R d_3 out_8 out_8n out_8c ⟨b10, 0, none⟩ none 0 0 x38 x38n x38c x39 x40 I S1
def bolterlaw10_delta_b22 (again16 : Option Addr → Nat → Nat → Option Addr → Nat → Nat → Int → Int → IMem → SH → Prop) (R : Value → IMem → SH → Prop) (out_8 : Option Addr) (out_8n : Nat) (out_8c : Nat) (x71 : Option Addr) (x71n : Nat) (x71c : Nat) (x72 : Int) (x73 : Int) (I : IMem) (S : SH) : Prop :=
  again16 out_8 out_8n out_8c x71 x71n x71c x72 (IntKind.wrap .i64 (x73 + (1 : Int))) I S
def bolterlaw10_delta_b21 (again16 : Option Addr → Nat → Nat → Option Addr → Nat → Nat → Int → Int → IMem → SH → Prop) (R : Value → IMem → SH → Prop) (out_8 : Option Addr) (out_8n : Nat) (out_8c : Nat) (r_15 : Addr) (x71 : Option Addr) (x71n : Nat) (x71c : Nat) (x72 : Int) (x73 : Int) (I : IMem) (S : SH) : Prop :=
  ∃ x89_0, Cell I S r_15 (.string x89_0) ∧
  ∃ x89_1, Cell I S (r_15.add 1) (.int .u16 x89_1) ∧
  ∃ x89_2, Cell I S (r_15.add 2) (.int .u32 x89_2) ∧
  ∃ x89_3, Cell I S (r_15.add 3) (.string x89_3) ∧
  (AppG 36 4 40 [.string ⟨#[]⟩, .int .u16 0, .int .u32 0, .string ⟨#[]⟩] (some (.slice 36)) I S (.slice none 0 0) (.slice out_8 out_8n out_8c) fun x88 x88n x88c S1 =>
  Keep I S I S1 ∧
  ∀ b90 : Nat,
  AppG 36 4 40 [.string ⟨#[]⟩, .int .u16 0, .int .u32 0, .string ⟨#[]⟩] (some (.slice 36)) I ((b90, .cells #[.string x89_0, .int .u16 x89_1, .int .u32 x89_2, .string x89_3] 36 (0, 0)) :: S1) (.slice x88 x88n x88c) (.slice (some ⟨b90, 0, none⟩) 1 1) fun x91 x91n x91c S1' =>
  Runs Tryd.prog 11 #[.slice x91 x91n x91c] I S1' fun v I1 S1'' => ∃ x92 x92n x92c, v = .slice x92 x92n x92c ∧
  bolterlaw10_delta_b22 again16 R x92 x92n x92c x71 x71n x71c x72 x73 I1 S1'') ∧
  (∀ b90' : Nat,
  AppG 36 4 40 [.string ⟨#[]⟩, .int .u16 0, .int .u32 0, .string ⟨#[]⟩] (some (.slice 36)) I ((b90', .cells #[.string x89_0, .int .u16 x89_1, .int .u32 x89_2, .string x89_3] 36 (0, 0)) :: S) (.slice none 0 0) (.slice out_8 out_8n out_8c) fun x88' x88'n x88'c S1_r3 =>
  Keep I S I S1_r3 ∧
  AppG 36 4 40 [.string ⟨#[]⟩, .int .u16 0, .int .u32 0, .string ⟨#[]⟩] (some (.slice 36)) I S1_r3 (.slice x88' x88'n x88'c) (.slice (some ⟨b90', 0, none⟩) 1 1) fun x91' x91'n x91'c S1_r4 =>
  Runs Tryd.prog 11 #[.slice x91' x91'n x91'c] I S1_r4 fun v' I1' S1_r5 => ∃ x92' x92'n x92'c, v' = .slice x92' x92'n x92'c ∧
  bolterlaw10_delta_b22 again16 R x92' x92'n x92'c x71 x71n x71c x72 x73 I1' S1_r5)
def bolterlaw10_delta_l20 (again16 : Option Addr → Nat → Nat → Option Addr → Nat → Nat → Int → Int → IMem → SH → Prop) (again20 : Option Addr → Nat → Nat → Addr → Option Addr → Nat → Nat → Int → Int → Option Addr → Nat → Nat → Int → Int → IMem → SH → Prop) (R : Value → IMem → SH → Prop) (out_8 : Option Addr) (out_8n : Nat) (out_8c : Nat) (r_15 : Addr) (x71 : Option Addr) (x71n : Nat) (x71c : Nat) (x72 : Int) (x73 : Int) (x77 : Option Addr) (x77n : Nat) (x77c : Nat) (x78 : Int) (x79 : Int) (I : IMem) (S : SH) : Prop :=
  bcase (decide (x79 < x78))
    (ptrP x77 fun x81 => (0 : Int) ≤ x79 ∧ x79 < (x77n : Int) ∧
    ∃ x82_0, Cell I S (x81.add (x79.toNat * 4)) (.string x82_0) ∧
    ∃ x82_1, Cell I S ((x81.add (x79.toNat * 4)).add 1) (.int .u16 x82_1) ∧
    ∃ x82_2, Cell I S ((x81.add (x79.toNat * 4)).add 2) (.int .u32 x82_2) ∧
    ∃ x82_3, Cell I S ((x81.add (x79.toNat * 4)).add 3) (.string x82_3) ∧
    ∀ b17 : Nat,
    StP ((b17, .cells #[.string ⟨#[]⟩, .int .u16 0, .int .u32 0, .string ⟨#[]⟩] 36 (0, 0)) :: S) ⟨b17, 0, none⟩ [.string x82_0, .int .u16 x82_1, .int .u32 x82_2, .string x82_3] fun S1 =>
    ∃ x83_0, Cell I S1 ⟨b17, 0, none⟩ (.string x83_0) ∧
    ∃ x83_1, Cell I S1 ⟨b17, 1, none⟩ (.int .u16 x83_1) ∧
    ∃ x83_2, Cell I S1 ⟨b17, 2, none⟩ (.int .u32 x83_2) ∧
    ∃ x83_3, Cell I S1 ⟨b17, 3, none⟩ (.string x83_3) ∧
    ∃ x84_0, Cell I S1 r_15 (.string x84_0) ∧
    ∃ x84_1, Cell I S1 (r_15.add 1) (.int .u16 x84_1) ∧
    ∃ x84_2, Cell I S1 (r_15.add 2) (.int .u32 x84_2) ∧
    ∃ x84_3, Cell I S1 (r_15.add 3) (.string x84_3) ∧
    bcase (((x83_0 : ByteArray) == (x84_0 : ByteArray)) && (((x83_1 : Int) == (x84_1 : Int)) && (((x83_2 : Int) == (x84_2 : Int)) && (((x83_3 : ByteArray) == (x84_3 : ByteArray)) && true))))
      (R (.tuple #[.slice none 0 0, .int .i64 7]) I S1)
      (again20 out_8 out_8n out_8c r_15 x71 x71n x71c x72 x73 x77 x77n x77c x78 (IntKind.wrap .i64 (x79 + (1 : Int))) I S1))
    (bolterlaw10_delta_b21 again16 R out_8 out_8n out_8c r_15 x71 x71n x71c x72 x73 I S)
def bolterlaw10_delta_b19 (again16 : Option Addr → Nat → Nat → Option Addr → Nat → Nat → Int → Int → IMem → SH → Prop) (R : Value → IMem → SH → Prop) (out_8 : Option Addr) (out_8n : Nat) (out_8c : Nat) (r_15 : Addr) (x71 : Option Addr) (x71n : Nat) (x71c : Nat) (x72 : Int) (x73 : Int) (x77 : Option Addr) (x77n : Nat) (x77c : Nat) (x78 : Int) (x79 : Int) (I : IMem) (S : SH) : Prop :=
  ∃ (Inv : Nat → Option Addr → Nat → Nat → Addr → Option Addr → Nat → Nat → Int → Int → Option Addr → Nat → Nat → Int → Int → IMem → SH → Prop) (m : Nat), Inv m out_8 out_8n out_8c r_15 x71 x71n x71c x72 x73 x77 x77n x77c x78 x79 I S ∧
    ∀ (m : Nat) (out_8 : Option Addr) (out_8n : Nat) (out_8c : Nat) (r_15 : Addr) (x71 : Option Addr) (x71n : Nat) (x71c : Nat) (x72 : Int) (x73 : Int) (x77 : Option Addr) (x77n : Nat) (x77c : Nat) (x78 : Int) (x79 : Int) (J : IMem) (T : SH), I.le J → Inv m out_8 out_8n out_8c r_15 x71 x71n x71c x72 x73 x77 x77n x77c x78 x79 J T →
      bolterlaw10_delta_l20 again16 (fun out_8 out_8n out_8c r_15 x71 x71n x71c x72 x73 x77 x77n x77c x78 x79 I S => ∃ m', m' < m ∧ Inv m' out_8 out_8n out_8c r_15 x71 x71n x71c x72 x73 x77 x77n x77c x78 x79 I S) R out_8 out_8n out_8c r_15 x71 x71n x71c x72 x73 x77 x77n x77c x78 x79 J T
def bolterlaw10_delta_b18 (again16 : Option Addr → Nat → Nat → Option Addr → Nat → Nat → Int → Int → IMem → SH → Prop) (R : Value → IMem → SH → Prop) (out_8 : Option Addr) (out_8n : Nat) (out_8c : Nat) (r_15 : Addr) (x71 : Option Addr) (x71n : Nat) (x71c : Nat) (x72 : Int) (x73 : Int) (I : IMem) (S : SH) : Prop :=
  bolterlaw10_delta_b19 again16 R out_8 out_8n out_8c r_15 x71 x71n x71c x72 x73 out_8 out_8n out_8c (out_8n : Int) 0 I S
def bolterlaw10_delta_b17 (again16 : Option Addr → Nat → Nat → Option Addr → Nat → Nat → Int → Int → IMem → SH → Prop) (R : Value → IMem → SH → Prop) (out_8 : Option Addr) (out_8n : Nat) (out_8c : Nat) (x71 : Option Addr) (x71n : Nat) (x71c : Nat) (x72 : Int) (x73 : Int) (I : IMem) (S : SH) : Prop :=
  ptrP x71 fun x75 => (0 : Int) ≤ x73 ∧ x73 < (x71n : Int) ∧
  ∃ x76_0, Cell I S (x75.add (x73.toNat * 4)) (.string x76_0) ∧
  ∃ x76_1, Cell I S ((x75.add (x73.toNat * 4)).add 1) (.int .u16 x76_1) ∧
  ∃ x76_2, Cell I S ((x75.add (x73.toNat * 4)).add 2) (.int .u32 x76_2) ∧
  ∃ x76_3, Cell I S ((x75.add (x73.toNat * 4)).add 3) (.string x76_3) ∧
  ∀ b15 : Nat,
  StP ((b15, .cells #[.string ⟨#[]⟩, .int .u16 0, .int .u32 0, .string ⟨#[]⟩] 36 (0, 0)) :: S) ⟨b15, 0, none⟩ [.string x76_0, .int .u16 x76_1, .int .u32 x76_2, .string x76_3] fun S1 =>
  bolterlaw10_delta_b18 again16 R out_8 out_8n out_8c ⟨b15, 0, none⟩ x71 x71n x71c x72 x73 I S1
def bolterlaw10_delta_b23 (R : Value → IMem → SH → Prop) (out_8 : Option Addr) (out_8n : Nat) (out_8c : Nat) (I : IMem) (S : SH) : Prop :=
  R (.tuple #[.slice out_8 out_8n out_8c, .int .i64 0]) I S
def bolterlaw10_delta_l16 (again16 : Option Addr → Nat → Nat → Option Addr → Nat → Nat → Int → Int → IMem → SH → Prop) (R : Value → IMem → SH → Prop) (out_8 : Option Addr) (out_8n : Nat) (out_8c : Nat) (x71 : Option Addr) (x71n : Nat) (x71c : Nat) (x72 : Int) (x73 : Int) (I : IMem) (S : SH) : Prop :=
  bcase (decide (x73 < x72))
    (bolterlaw10_delta_b17 again16 R out_8 out_8n out_8c x71 x71n x71c x72 x73 I S)
    (bolterlaw10_delta_b23 R out_8 out_8n out_8c I S)
def bolterlaw10_delta_b15 (R : Value → IMem → SH → Prop) (out_8 : Option Addr) (out_8n : Nat) (out_8c : Nat) (x71 : Option Addr) (x71n : Nat) (x71c : Nat) (x72 : Int) (x73 : Int) (I : IMem) (S : SH) : Prop :=
  ∃ (Inv : Nat → Option Addr → Nat → Nat → Option Addr → Nat → Nat → Int → Int → IMem → SH → Prop) (m : Nat), Inv m out_8 out_8n out_8c x71 x71n x71c x72 x73 I S ∧
    ∀ (m : Nat) (out_8 : Option Addr) (out_8n : Nat) (out_8c : Nat) (x71 : Option Addr) (x71n : Nat) (x71c : Nat) (x72 : Int) (x73 : Int) (J : IMem) (T : SH), I.le J → Inv m out_8 out_8n out_8c x71 x71n x71c x72 x73 J T →
      bolterlaw10_delta_l16 (fun out_8 out_8n out_8c x71 x71n x71c x72 x73 I S => ∃ m', m' < m ∧ Inv m' out_8 out_8n out_8c x71 x71n x71c x72 x73 I S) R out_8 out_8n out_8c x71 x71n x71c x72 x73 J T
def bolterlaw10_delta_b14 (R : Value → IMem → SH → Prop) (d_3 : Addr) (out_8 : Option Addr) (out_8n : Nat) (out_8c : Nat) (I : IMem) (S : SH) : Prop :=
  ∃ x66 x66n x66c, Cell I S (d_3.add 9) (.slice x66 x66n x66c) ∧
  ∃ x69_0, Cell I S (d_3.add 4) (.string x69_0) ∧
  ∃ x69_1, Cell I S ((d_3.add 4).add 1) (.int .u16 x69_1) ∧
  ∃ x69_2, Cell I S ((d_3.add 4).add 2) (.int .u32 x69_2) ∧
  ∃ x69_3, Cell I S ((d_3.add 4).add 3) (.string x69_3) ∧
  (AppG 36 4 40 [.string ⟨#[]⟩, .int .u16 0, .int .u32 0, .string ⟨#[]⟩] (some (.slice 36)) I S (.slice none 0 0) (.slice x66 x66n x66c) fun x67 x67n x67c S1 =>
  Keep I S I S1 ∧
  ∀ b70 : Nat,
  Keep I S I ((b70, .cells #[.string x69_0, .int .u16 x69_1, .int .u32 x69_2, .string x69_3] 36 (0, 0)) :: S1) ∧
  AppG 36 4 40 [.string ⟨#[]⟩, .int .u16 0, .int .u32 0, .string ⟨#[]⟩] (some (.slice 36)) I ((b70, .cells #[.string x69_0, .int .u16 x69_1, .int .u32 x69_2, .string x69_3] 36 (0, 0)) :: S1) (.slice x67 x67n x67c) (.slice (some ⟨b70, 0, none⟩) 1 1) fun x71 x71n x71c S1' =>
  bolterlaw10_delta_b15 R out_8 out_8n out_8c x71 x71n x71c (x71n : Int) 0 I S1') ∧
  (∀ b70' : Nat,
  Keep I S I ((b70', .cells #[.string x69_0, .int .u16 x69_1, .int .u32 x69_2, .string x69_3] 36 (0, 0)) :: S) ∧
  AppG 36 4 40 [.string ⟨#[]⟩, .int .u16 0, .int .u32 0, .string ⟨#[]⟩] (some (.slice 36)) I ((b70', .cells #[.string x69_0, .int .u16 x69_1, .int .u32 x69_2, .string x69_3] 36 (0, 0)) :: S) (.slice none 0 0) (.slice x66 x66n x66c) fun x67' x67'n x67'c S1'' =>
  Keep I S I S1'' ∧
  AppG 36 4 40 [.string ⟨#[]⟩, .int .u16 0, .int .u32 0, .string ⟨#[]⟩] (some (.slice 36)) I S1'' (.slice x67' x67'n x67'c) (.slice (some ⟨b70', 0, none⟩) 1 1) fun x71' x71'n x71'c S1_r3 =>
  bolterlaw10_delta_b15 R out_8 out_8n out_8c x71' x71'n x71'c (x71'n : Int) 0 I S1_r3)
def bolterlaw10_delta_l6 (again6 : Addr → Option Addr → Nat → Nat → Option Addr → Nat → Nat → Int → Int → IMem → SH → Prop) (R : Value → IMem → SH → Prop) (d_3 : Addr) (out_8 : Option Addr) (out_8n : Nat) (out_8c : Nat) (x38 : Option Addr) (x38n : Nat) (x38c : Nat) (x39 : Int) (x40 : Int) (I : IMem) (S : SH) : Prop :=
  bcase (decide (x40 < x39))
    (bolterlaw10_delta_b7 again6 R d_3 out_8 out_8n out_8c x38 x38n x38c x39 x40 I S)
    (bolterlaw10_delta_b14 R d_3 out_8 out_8n out_8c I S)
def bolterlaw10_delta_b5 (R : Value → IMem → SH → Prop) (d_3 : Addr) (out_8 : Option Addr) (out_8n : Nat) (out_8c : Nat) (x38 : Option Addr) (x38n : Nat) (x38c : Nat) (x39 : Int) (x40 : Int) (I : IMem) (S : SH) : Prop :=
  ∃ (Inv : Nat → Addr → Option Addr → Nat → Nat → Option Addr → Nat → Nat → Int → Int → IMem → SH → Prop) (m : Nat), Inv m d_3 out_8 out_8n out_8c x38 x38n x38c x39 x40 I S ∧
    ∀ (m : Nat) (d_3 : Addr) (out_8 : Option Addr) (out_8n : Nat) (out_8c : Nat) (x38 : Option Addr) (x38n : Nat) (x38c : Nat) (x39 : Int) (x40 : Int) (J : IMem) (T : SH), I.le J → Inv m d_3 out_8 out_8n out_8c x38 x38n x38c x39 x40 J T →
      bolterlaw10_delta_l6 (fun d_3 out_8 out_8n out_8c x38 x38n x38c x39 x40 I S => ∃ m', m' < m ∧ Inv m' d_3 out_8 out_8n out_8c x38 x38n x38c x39 x40 I S) R d_3 out_8 out_8n out_8c x38 x38n x38c x39 x40 J T
def bolterlaw10_delta_b4 (R : Value → IMem → SH → Prop) (d_3 : Addr) (out_8 : Option Addr) (out_8n : Nat) (out_8c : Nat) (I : IMem) (S : SH) : Prop :=
  ∃ x34_0, Cell I S d_3 (.string x34_0) ∧
  ∃ x34_1, Cell I S (d_3.add 1) (.int .u16 x34_1) ∧
  ∃ x34_2, Cell I S (d_3.add 2) (.int .u32 x34_2) ∧
  ∃ x34_3, Cell I S (d_3.add 3) (.string x34_3) ∧
  ∀ b35 : Nat,
  ∃ x37 x37n x37c, Cell I ((b35, .cells #[.string x34_0, .int .u16 x34_1, .int .u32 x34_2, .string x34_3] 36 (0, 0)) :: S) (d_3.add 8) (.slice x37 x37n x37c) ∧
  AppG 36 4 40 [.string ⟨#[]⟩, .int .u16 0, .int .u32 0, .string ⟨#[]⟩] (some (.slice 36)) I ((b35, .cells #[.string x34_0, .int .u16 x34_1, .int .u32 x34_2, .string x34_3] 36 (0, 0)) :: S) (.slice (some ⟨b35, 0, none⟩) 1 1) (.slice x37 x37n x37c) fun x38 x38n x38c S1 =>
  bolterlaw10_delta_b5 R d_3 out_8 out_8n out_8c x38 x38n x38c (x38n : Int) 0 I S1
def bolterlaw10_delta_b3 (R : Value → IMem → SH → Prop) (z_0 : Option Addr) (z_0n : Nat) (z_0c : Nat) (d_3 : Addr) (I : IMem) (S : SH) : Prop :=
  AppG 36 4 40 [.string ⟨#[]⟩, .int .u16 0, .int .u32 0, .string ⟨#[]⟩] (some (.slice 36)) I S (.slice none 0 0) (.slice z_0 z_0n z_0c) fun x32 x32n x32c S1 =>
  bolterlaw10_delta_b4 R d_3 x32 x32n x32c I S1
def bolterlaw10_delta_b2 (R : Value → IMem → SH → Prop) (z_0 : Option Addr) (z_0n : Nat) (z_0c : Nat) (d_3 : Addr) (x30 : Bool) (I : IMem) (S : SH) : Prop :=
  bcase x30
    (R (.tuple #[.slice none 0 0, .int .i64 5]) I S)
    (bolterlaw10_delta_b3 R z_0 z_0n z_0c d_3 I S)
def bolterlaw10_delta_b1 (R : Value → IMem → SH → Prop) (z_0 : Option Addr) (z_0n : Nat) (z_0c : Nat) (d_3 : Addr) (I : IMem) (S : SH) : Prop :=
  Runs Tryd.prog 40 #[.slice z_0 z_0n z_0c] I S fun v I1 S1 => ∃ x20_0_0 x20_0_1 x20_0_2 x20_0_3 x20_1, v = .tuple #[.agg #[.string x20_0_0, .int .u16 x20_0_1, .int .u32 x20_0_2, .string x20_0_3], .bool x20_1] ∧
  ∀ b6 : Nat,
  StP ((b6, .cells #[.string ⟨#[]⟩, .int .u16 0, .int .u32 0, .string ⟨#[]⟩] 36 (0, 0)) :: S1) ⟨b6, 0, none⟩ [.string x20_0_0, .int .u16 x20_0_1, .int .u32 x20_0_2, .string x20_0_3] fun S1' =>
  bcase (!x20_1)
    (bolterlaw10_delta_b2 R z_0 z_0n z_0c d_3 true I1 S1')
    (∃ x26_0, Cell I1 S1' ⟨b6, 0, none⟩ (.string x26_0) ∧
    ∃ x26_1, Cell I1 S1' ⟨b6, 1, none⟩ (.int .u16 x26_1) ∧
    ∃ x26_2, Cell I1 S1' ⟨b6, 2, none⟩ (.int .u32 x26_2) ∧
    ∃ x26_3, Cell I1 S1' ⟨b6, 3, none⟩ (.string x26_3) ∧
    ∃ x28_0, Cell I1 S1' d_3 (.string x28_0) ∧
    ∃ x28_1, Cell I1 S1' (d_3.add 1) (.int .u16 x28_1) ∧
    ∃ x28_2, Cell I1 S1' (d_3.add 2) (.int .u32 x28_2) ∧
    ∃ x28_3, Cell I1 S1' (d_3.add 3) (.string x28_3) ∧
    bolterlaw10_delta_b2 R z_0 z_0n z_0c d_3 (!(((x26_0 : ByteArray) == (x28_0 : ByteArray)) && (((x26_1 : Int) == (x28_1 : Int)) && (((x26_2 : Int) == (x28_2 : Int)) && (((x26_3 : ByteArray) == (x28_3 : ByteArray)) && true))))) I1 S1')
def bolterlaw10_delta (R : Value → IMem → SH → Prop) (z_0 : Option Addr) (z_0n : Nat) (z_0c : Nat) (d_1_0 : ByteArray) (d_1_1 : Int) (d_1_2 : Int) (d_1_3 : ByteArray) (d_1_4 : ByteArray) (d_1_5 : Int) (d_1_6 : Int) (d_1_7 : ByteArray) (d_1_8 : Option Addr) (d_1_8n : Nat) (d_1_8c : Nat) (d_1_9 : Option Addr) (d_1_9n : Nat) (d_1_9c : Nat) (I : IMem) (S : SH) : Prop :=
  ∀ b3 : Nat,
  bolterlaw10_delta_b1 R z_0 z_0n z_0c ⟨b3, 0, none⟩ I ((b3, .cells #[.string d_1_0, .int .u16 d_1_1, .int .u32 d_1_2, .string d_1_3, .string d_1_4, .int .u16 d_1_5, .int .u32 d_1_6, .string d_1_7, .slice d_1_8 d_1_8n d_1_8c, .slice d_1_9 d_1_9n d_1_9c] 52 (0, 0)) :: S)
theorem bolterlaw10_delta_fn (R : Value → IMem → SH → Prop) (z_0 : Option Addr) (z_0n : Nat) (z_0c : Nat) (d_1_0 : ByteArray) (d_1_1 : Int) (d_1_2 : Int) (d_1_3 : ByteArray) (d_1_4 : ByteArray) (d_1_5 : Int) (d_1_6 : Int) (d_1_7 : ByteArray) (d_1_8 : Option Addr) (d_1_8n : Nat) (d_1_8c : Nat) (d_1_9 : Option Addr) (d_1_9n : Nat) (d_1_9c : Nat) (I : IMem) (S : SH) (h : bolterlaw10_delta R z_0 z_0n z_0c d_1_0 d_1_1 d_1_2 d_1_3 d_1_4 d_1_5 d_1_6 d_1_7 d_1_8 d_1_8n d_1_8c d_1_9 d_1_9n d_1_9c I S) :
    Runs Tryd.prog 24 #[.slice z_0 z_0n z_0c, .agg #[.string d_1_0, .int .u16 d_1_1, .int .u32 d_1_2, .string d_1_3, .string d_1_4, .int .u16 d_1_5, .int .u32 d_1_6, .string d_1_7, .slice d_1_8 d_1_8n d_1_8c, .slice d_1_9 d_1_9n d_1_9c]] I S R := by
  refine Runs.of_wp (args := [.slice z_0 z_0n z_0c, .agg #[.string d_1_0, .int .u16 d_1_1, .int .u32 d_1_2, .string d_1_3, .string d_1_4, .int .u16 d_1_5, .int .u32 d_1_6, .string d_1_7, .slice d_1_8 d_1_8n d_1_8c, .slice d_1_9 d_1_9n d_1_9c]]) (c := bolterlaw10_delta_code) Tryd.func24 (by kernel_rfl) (by kernel_rfl) ?_
  refine WP.cut 1 (fun l I S => asSl (l 0) fun z_0 z_0n z_0c => asAdr (l 3) fun d_3 => bolterlaw10_delta_b1 R z_0 z_0n z_0c d_3 I S) (cast (by kernel_rfl) h) ?_
  clear h
  intro l I S _ h
  obtain ⟨z_0, z_0n, z_0c, e0, h⟩ := asSl_e h
  obtain ⟨d_3, e3, h⟩ := asAdr_e h
  rw [upd_eta e0, upd_eta e3]
  refine WP.seqY (by kernel_rfl) (fun l I S => asSl (l 0) fun z_0 z_0n z_0c => asAdr (l 3) fun d_3 => bolterlaw10_delta_b3 R z_0 z_0n z_0c d_3 I S) ?_ ?_
  ·
    refine WP.cut 2 (fun l I S => asSl (l 0) fun z_0 z_0n z_0c => asAdr (l 3) fun d_3 => asB (l 30) fun x30 => bolterlaw10_delta_b2 R z_0 z_0n z_0c d_3 x30 I S) (cast (by kernel_rfl) h) ?_
    clear h
    intro l I S _ h
    obtain ⟨z_0, z_0n, z_0c, e0, h⟩ := asSl_e h
    obtain ⟨d_3, e3, h⟩ := asAdr_e h
    obtain ⟨x30, e30, h⟩ := asB_e h
    rw [upd_eta e0, upd_eta e3, upd_eta e30]
    exact Pre.sound _ _ _ _ _ (cast (by kernel_rfl) h)
  · clear h
    intro l I S _ h
    obtain ⟨z_0, z_0n, z_0c, e0, h⟩ := asSl_e h
    obtain ⟨d_3, e3, h⟩ := asAdr_e h
    rw [upd_eta e0, upd_eta e3]
    refine WP.cut 1 (fun l I S => asAdr (l 3) fun d_3 => asSl (l 8) fun out_8 out_8n out_8c => bolterlaw10_delta_b4 R d_3 out_8 out_8n out_8c I S) (cast (by kernel_rfl) h) ?_
    clear h
    intro l I S _ h
    obtain ⟨d_3, e3, h⟩ := asAdr_e h
    obtain ⟨out_8, out_8n, out_8c, e8, h⟩ := asSl_e h
    rw [upd_eta e3, upd_eta e8]
    refine WP.seqY (by kernel_rfl) (fun l I S => asAdr (l 3) fun d_3 => asSl (l 8) fun out_8 out_8n out_8c => bolterlaw10_delta_b14 R d_3 out_8 out_8n out_8c I S) ?_ ?_
    ·
      refine WP.cut 1 (fun l I S => asAdr (l 3) fun d_3 => asSl (l 8) fun out_8 out_8n out_8c => asSl (l 38) fun x38 x38n x38c => asI .i64 (l 39) fun x39 => asI .i64 (l 40) fun x40 => bolterlaw10_delta_b5 R d_3 out_8 out_8n out_8c x38 x38n x38c x39 x40 I S) (cast (by kernel_rfl) h) ?_
      clear h
      intro l I S _ h
      obtain ⟨d_3, e3, h⟩ := asAdr_e h
      obtain ⟨out_8, out_8n, out_8c, e8, h⟩ := asSl_e h
      obtain ⟨x38, x38n, x38c, e38, h⟩ := asSl_e h
      obtain ⟨x39, e39, h⟩ := asI_e h
      obtain ⟨x40, e40, h⟩ := asI_e h
      rw [upd_eta e3, upd_eta e8, upd_eta e38, upd_eta e39, upd_eta e40]
      refine WP.block' (by kernel_rfl) ?_
      obtain ⟨Inv_again6, m_again6, h0, hr⟩ := h
      refine WP.loop' (by kernel_rfl) (fun m_again6 => fun l I S => asAdr (l 3) fun d_3 => asSl (l 8) fun out_8 out_8n out_8c => asSl (l 38) fun x38 x38n x38c => asI .i64 (l 39) fun x39 => asI .i64 (l 40) fun x40 => Inv_again6 m_again6 d_3 out_8 out_8n out_8c x38 x38n x38c x39 x40 I S) m_again6 (cast (by kernel_rfl) h0) ?_
      clear h0
      intro m_again6 l I S hle h
      obtain ⟨d_3, e3, h⟩ := asAdr_e h
      obtain ⟨out_8, out_8n, out_8c, e8, h⟩ := asSl_e h
      obtain ⟨x38, x38n, x38c, e38, h⟩ := asSl_e h
      obtain ⟨x39, e39, h⟩ := asI_e h
      obtain ⟨x40, e40, h⟩ := asI_e h
      rw [upd_eta e3, upd_eta e8, upd_eta e38, upd_eta e39, upd_eta e40]
      have h := hr m_again6 d_3 out_8 out_8n out_8c x38 x38n x38c x39 x40 I S hle h
      clear hr hle
      refine WP.cut 2 (fun l I S => asAdr (l 3) fun d_3 => asSl (l 8) fun out_8 out_8n out_8c => asSl (l 38) fun x38 x38n x38c => asI .i64 (l 39) fun x39 => asI .i64 (l 40) fun x40 => bolterlaw10_delta_b7 (fun d_3 out_8 out_8n out_8c x38 x38n x38c x39 x40 I S => ∃ m', m' < m_again6 ∧ Inv_again6 m' d_3 out_8 out_8n out_8c x38 x38n x38c x39 x40 I S) R d_3 out_8 out_8n out_8c x38 x38n x38c x39 x40 I S) (cast (by kernel_rfl) h) ?_
      clear h
      intro l I S _ h
      obtain ⟨d_3, e3, h⟩ := asAdr_e h
      obtain ⟨out_8, out_8n, out_8c, e8, h⟩ := asSl_e h
      obtain ⟨x38, x38n, x38c, e38, h⟩ := asSl_e h
      obtain ⟨x39, e39, h⟩ := asI_e h
      obtain ⟨x40, e40, h⟩ := asI_e h
      rw [upd_eta e3, upd_eta e8, upd_eta e38, upd_eta e39, upd_eta e40]
      refine WP.seqY (by kernel_rfl) (fun l I S => asAdr (l 3) fun d_3 => asSl (l 8) fun out_8 out_8n out_8c => asSl (l 38) fun x38 x38n x38c => asI .i64 (l 39) fun x39 => asI .i64 (l 40) fun x40 => bolterlaw10_delta_b13 (fun d_3 out_8 out_8n out_8c x38 x38n x38c x39 x40 I S => ∃ m', m' < m_again6 ∧ Inv_again6 m' d_3 out_8 out_8n out_8c x38 x38n x38c x39 x40 I S) R d_3 out_8 out_8n out_8c x38 x38n x38c x39 x40 I S) ?_ ?_
      ·
        refine WP.block' (by kernel_rfl) ?_
        refine WP.cut 2 (fun l I S => asAdr (l 3) fun d_3 => asSl (l 8) fun out_8 out_8n out_8c => asAdr (l 10) fun r_10 => asSl (l 11) fun rest_11 rest_11n rest_11c => asSl (l 38) fun x38 x38n x38c => asI .i64 (l 39) fun x39 => asI .i64 (l 40) fun x40 => bolterlaw10_delta_b8 (fun d_3 out_8 out_8n out_8c x38 x38n x38c x39 x40 I S => ∃ m', m' < m_again6 ∧ Inv_again6 m' d_3 out_8 out_8n out_8c x38 x38n x38c x39 x40 I S) R d_3 out_8 out_8n out_8c r_10 rest_11 rest_11n rest_11c x38 x38n x38c x39 x40 I S) (cast (by kernel_rfl) h) ?_
        clear h
        intro l I S _ h
        obtain ⟨d_3, e3, h⟩ := asAdr_e h
        obtain ⟨out_8, out_8n, out_8c, e8, h⟩ := asSl_e h
        obtain ⟨r_10, e10, h⟩ := asAdr_e h
        obtain ⟨rest_11, rest_11n, rest_11c, e11, h⟩ := asSl_e h
        obtain ⟨x38, x38n, x38c, e38, h⟩ := asSl_e h
        obtain ⟨x39, e39, h⟩ := asI_e h
        obtain ⟨x40, e40, h⟩ := asI_e h
        rw [upd_eta e3, upd_eta e8, upd_eta e10, upd_eta e11, upd_eta e38, upd_eta e39, upd_eta e40]
        refine WP.seqY (by kernel_rfl) (fun l I S => asAdr (l 3) fun d_3 => asSl (l 8) fun out_8 out_8n out_8c => asSl (l 11) fun rest_11 rest_11n rest_11c => asSl (l 38) fun x38 x38n x38c => asI .i64 (l 39) fun x39 => asI .i64 (l 40) fun x40 => bolterlaw10_delta_b12 (fun d_3 out_8 out_8n out_8c x38 x38n x38c x39 x40 I S => ∃ m', m' < m_again6 ∧ Inv_again6 m' d_3 out_8 out_8n out_8c x38 x38n x38c x39 x40 I S) R d_3 out_8 out_8n out_8c rest_11 rest_11n rest_11c x38 x38n x38c x39 x40 I S) ?_ ?_
        ·
          refine WP.cut 1 (fun l I S => asAdr (l 3) fun d_3 => asSl (l 8) fun out_8 out_8n out_8c => asAdr (l 10) fun r_10 => asSl (l 11) fun rest_11 rest_11n rest_11c => asSl (l 38) fun x38 x38n x38c => asI .i64 (l 39) fun x39 => asI .i64 (l 40) fun x40 => asSl (l 44) fun x44 x44n x44c => asI .i64 (l 45) fun x45 => asI .i64 (l 46) fun x46 => bolterlaw10_delta_b9 (fun d_3 out_8 out_8n out_8c x38 x38n x38c x39 x40 I S => ∃ m', m' < m_again6 ∧ Inv_again6 m' d_3 out_8 out_8n out_8c x38 x38n x38c x39 x40 I S) R d_3 out_8 out_8n out_8c r_10 rest_11 rest_11n rest_11c x38 x38n x38c x39 x40 x44 x44n x44c x45 x46 I S) (cast (by kernel_rfl) h) ?_
          clear h
          intro l I S _ h
          obtain ⟨d_3, e3, h⟩ := asAdr_e h
          obtain ⟨out_8, out_8n, out_8c, e8, h⟩ := asSl_e h
          obtain ⟨r_10, e10, h⟩ := asAdr_e h
          obtain ⟨rest_11, rest_11n, rest_11c, e11, h⟩ := asSl_e h
          obtain ⟨x38, x38n, x38c, e38, h⟩ := asSl_e h
          obtain ⟨x39, e39, h⟩ := asI_e h
          obtain ⟨x40, e40, h⟩ := asI_e h
          obtain ⟨x44, x44n, x44c, e44, h⟩ := asSl_e h
          obtain ⟨x45, e45, h⟩ := asI_e h
          obtain ⟨x46, e46, h⟩ := asI_e h
          rw [upd_eta e3, upd_eta e8, upd_eta e10, upd_eta e11, upd_eta e38, upd_eta e39, upd_eta e40, upd_eta e44, upd_eta e45, upd_eta e46]
          refine WP.block' (by kernel_rfl) ?_
          obtain ⟨Inv_again10, m_again10, h0, hr⟩ := h
          refine WP.loop' (by kernel_rfl) (fun m_again10 => fun l I S => asAdr (l 3) fun d_3 => asSl (l 8) fun out_8 out_8n out_8c => asAdr (l 10) fun r_10 => asSl (l 11) fun rest_11 rest_11n rest_11c => asSl (l 38) fun x38 x38n x38c => asI .i64 (l 39) fun x39 => asI .i64 (l 40) fun x40 => asSl (l 44) fun x44 x44n x44c => asI .i64 (l 45) fun x45 => asI .i64 (l 46) fun x46 => Inv_again10 m_again10 d_3 out_8 out_8n out_8c r_10 rest_11 rest_11n rest_11c x38 x38n x38c x39 x40 x44 x44n x44c x45 x46 I S) m_again10 (cast (by kernel_rfl) h0) ?_
          clear h0
          intro m_again10 l I S hle h
          obtain ⟨d_3, e3, h⟩ := asAdr_e h
          obtain ⟨out_8, out_8n, out_8c, e8, h⟩ := asSl_e h
          obtain ⟨r_10, e10, h⟩ := asAdr_e h
          obtain ⟨rest_11, rest_11n, rest_11c, e11, h⟩ := asSl_e h
          obtain ⟨x38, x38n, x38c, e38, h⟩ := asSl_e h
          obtain ⟨x39, e39, h⟩ := asI_e h
          obtain ⟨x40, e40, h⟩ := asI_e h
          obtain ⟨x44, x44n, x44c, e44, h⟩ := asSl_e h
          obtain ⟨x45, e45, h⟩ := asI_e h
          obtain ⟨x46, e46, h⟩ := asI_e h
          rw [upd_eta e3, upd_eta e8, upd_eta e10, upd_eta e11, upd_eta e38, upd_eta e39, upd_eta e40, upd_eta e44, upd_eta e45, upd_eta e46]
          have h := hr m_again10 d_3 out_8 out_8n out_8c r_10 rest_11 rest_11n rest_11c x38 x38n x38c x39 x40 x44 x44n x44c x45 x46 I S hle h
          clear hr hle
          refine WP.cut 3 (fun l I S => asAdr (l 3) fun d_3 => asSl (l 8) fun out_8 out_8n out_8c => asAdr (l 10) fun r_10 => asSl (l 11) fun rest_11 rest_11n rest_11c => asSl (l 38) fun x38 x38n x38c => asI .i64 (l 39) fun x39 => asI .i64 (l 40) fun x40 => asSl (l 44) fun x44 x44n x44c => asI .i64 (l 45) fun x45 => asI .i64 (l 46) fun x46 => bolterlaw10_delta_b11 (fun d_3 out_8 out_8n out_8c x38 x38n x38c x39 x40 I S => ∃ m', m' < m_again6 ∧ Inv_again6 m' d_3 out_8 out_8n out_8c x38 x38n x38c x39 x40 I S) (fun d_3 out_8 out_8n out_8c r_10 rest_11 rest_11n rest_11c x38 x38n x38c x39 x40 x44 x44n x44c x45 x46 I S => ∃ m', m' < m_again10 ∧ Inv_again10 m' d_3 out_8 out_8n out_8c r_10 rest_11 rest_11n rest_11c x38 x38n x38c x39 x40 x44 x44n x44c x45 x46 I S) R d_3 out_8 out_8n out_8c r_10 rest_11 rest_11n rest_11c x38 x38n x38c x39 x40 x44 x44n x44c x45 x46 I S) (cast (by kernel_rfl) h) ?_
          clear h
          intro l I S _ h
          obtain ⟨d_3, e3, h⟩ := asAdr_e h
          obtain ⟨out_8, out_8n, out_8c, e8, h⟩ := asSl_e h
          obtain ⟨r_10, e10, h⟩ := asAdr_e h
          obtain ⟨rest_11, rest_11n, rest_11c, e11, h⟩ := asSl_e h
          obtain ⟨x38, x38n, x38c, e38, h⟩ := asSl_e h
          obtain ⟨x39, e39, h⟩ := asI_e h
          obtain ⟨x40, e40, h⟩ := asI_e h
          obtain ⟨x44, x44n, x44c, e44, h⟩ := asSl_e h
          obtain ⟨x45, e45, h⟩ := asI_e h
          obtain ⟨x46, e46, h⟩ := asI_e h
          rw [upd_eta e3, upd_eta e8, upd_eta e10, upd_eta e11, upd_eta e38, upd_eta e39, upd_eta e40, upd_eta e44, upd_eta e45, upd_eta e46]
          exact Pre.sound _ _ _ _ _ (cast (by kernel_rfl) h)
        · clear h
          intro l I S _ h
          obtain ⟨d_3, e3, h⟩ := asAdr_e h
          obtain ⟨out_8, out_8n, out_8c, e8, h⟩ := asSl_e h
          obtain ⟨rest_11, rest_11n, rest_11c, e11, h⟩ := asSl_e h
          obtain ⟨x38, x38n, x38c, e38, h⟩ := asSl_e h
          obtain ⟨x39, e39, h⟩ := asI_e h
          obtain ⟨x40, e40, h⟩ := asI_e h
          rw [upd_eta e3, upd_eta e8, upd_eta e11, upd_eta e38, upd_eta e39, upd_eta e40]
          exact Pre.sound _ _ _ _ _ (cast (by kernel_rfl) h)
      · clear h
        intro l I S _ h
        obtain ⟨d_3, e3, h⟩ := asAdr_e h
        obtain ⟨out_8, out_8n, out_8c, e8, h⟩ := asSl_e h
        obtain ⟨x38, x38n, x38c, e38, h⟩ := asSl_e h
        obtain ⟨x39, e39, h⟩ := asI_e h
        obtain ⟨x40, e40, h⟩ := asI_e h
        rw [upd_eta e3, upd_eta e8, upd_eta e38, upd_eta e39, upd_eta e40]
        exact Pre.sound _ _ _ _ _ (cast (by kernel_rfl) h)
    · clear h
      intro l I S _ h
      obtain ⟨d_3, e3, h⟩ := asAdr_e h
      obtain ⟨out_8, out_8n, out_8c, e8, h⟩ := asSl_e h
      rw [upd_eta e3, upd_eta e8]
      refine WP.seqY (by kernel_rfl) (fun l I S => asSl (l 8) fun out_8 out_8n out_8c => bolterlaw10_delta_b23 R out_8 out_8n out_8c I S) ?_ ?_
      ·
        refine WP.seqY (by kernel_rfl) (fun l I S => asSl (l 8) fun out_8 out_8n out_8c => asSl (l 71) fun x71 x71n x71c => asI .i64 (l 72) fun x72 => asI .i64 (l 73) fun x73 => bolterlaw10_delta_b15 R out_8 out_8n out_8c x71 x71n x71c x72 x73 I S) ?_ ?_
        ·
          exact WP.draw' (.take 0 (.take 1 (.take 3 (.take 4 (.take 8 (.fork 2 (.step 5 (.step 6 (.take 7 .done))) 5 (.step 2 (.step 6 (.take 7 .done))))))))) [2, 5, 6] (by kernel_rfl) (by kernel_rfl) (by kernel_rfl) (by kernel_rfl) (by kernel_rfl) (cast (by kernel_rfl) h)
        · clear h
          intro l I S _ h
          obtain ⟨out_8, out_8n, out_8c, e8, h⟩ := asSl_e h
          obtain ⟨x71, x71n, x71c, e71, h⟩ := asSl_e h
          obtain ⟨x72, e72, h⟩ := asI_e h
          obtain ⟨x73, e73, h⟩ := asI_e h
          rw [upd_eta e8, upd_eta e71, upd_eta e72, upd_eta e73]
          refine WP.block' (by kernel_rfl) ?_
          obtain ⟨Inv_again16, m_again16, h0, hr⟩ := h
          refine WP.loop' (by kernel_rfl) (fun m_again16 => fun l I S => asSl (l 8) fun out_8 out_8n out_8c => asSl (l 71) fun x71 x71n x71c => asI .i64 (l 72) fun x72 => asI .i64 (l 73) fun x73 => Inv_again16 m_again16 out_8 out_8n out_8c x71 x71n x71c x72 x73 I S) m_again16 (cast (by kernel_rfl) h0) ?_
          clear h0
          intro m_again16 l I S hle h
          obtain ⟨out_8, out_8n, out_8c, e8, h⟩ := asSl_e h
          obtain ⟨x71, x71n, x71c, e71, h⟩ := asSl_e h
          obtain ⟨x72, e72, h⟩ := asI_e h
          obtain ⟨x73, e73, h⟩ := asI_e h
          rw [upd_eta e8, upd_eta e71, upd_eta e72, upd_eta e73]
          have h := hr m_again16 out_8 out_8n out_8c x71 x71n x71c x72 x73 I S hle h
          clear hr hle
          refine WP.cut 2 (fun l I S => asSl (l 8) fun out_8 out_8n out_8c => asSl (l 71) fun x71 x71n x71c => asI .i64 (l 72) fun x72 => asI .i64 (l 73) fun x73 => bolterlaw10_delta_b17 (fun out_8 out_8n out_8c x71 x71n x71c x72 x73 I S => ∃ m', m' < m_again16 ∧ Inv_again16 m' out_8 out_8n out_8c x71 x71n x71c x72 x73 I S) R out_8 out_8n out_8c x71 x71n x71c x72 x73 I S) (cast (by kernel_rfl) h) ?_
          clear h
          intro l I S _ h
          obtain ⟨out_8, out_8n, out_8c, e8, h⟩ := asSl_e h
          obtain ⟨x71, x71n, x71c, e71, h⟩ := asSl_e h
          obtain ⟨x72, e72, h⟩ := asI_e h
          obtain ⟨x73, e73, h⟩ := asI_e h
          rw [upd_eta e8, upd_eta e71, upd_eta e72, upd_eta e73]
          refine WP.seqY (by kernel_rfl) (fun l I S => asSl (l 8) fun out_8 out_8n out_8c => asSl (l 71) fun x71 x71n x71c => asI .i64 (l 72) fun x72 => asI .i64 (l 73) fun x73 => bolterlaw10_delta_b22 (fun out_8 out_8n out_8c x71 x71n x71c x72 x73 I S => ∃ m', m' < m_again16 ∧ Inv_again16 m' out_8 out_8n out_8c x71 x71n x71c x72 x73 I S) R out_8 out_8n out_8c x71 x71n x71c x72 x73 I S) ?_ ?_
          ·
            refine WP.block' (by kernel_rfl) ?_
            refine WP.cut 1 (fun l I S => asSl (l 8) fun out_8 out_8n out_8c => asAdr (l 15) fun r_15 => asSl (l 71) fun x71 x71n x71c => asI .i64 (l 72) fun x72 => asI .i64 (l 73) fun x73 => bolterlaw10_delta_b18 (fun out_8 out_8n out_8c x71 x71n x71c x72 x73 I S => ∃ m', m' < m_again16 ∧ Inv_again16 m' out_8 out_8n out_8c x71 x71n x71c x72 x73 I S) R out_8 out_8n out_8c r_15 x71 x71n x71c x72 x73 I S) (cast (by kernel_rfl) h) ?_
            clear h
            intro l I S _ h
            obtain ⟨out_8, out_8n, out_8c, e8, h⟩ := asSl_e h
            obtain ⟨r_15, e15, h⟩ := asAdr_e h
            obtain ⟨x71, x71n, x71c, e71, h⟩ := asSl_e h
            obtain ⟨x72, e72, h⟩ := asI_e h
            obtain ⟨x73, e73, h⟩ := asI_e h
            rw [upd_eta e8, upd_eta e15, upd_eta e71, upd_eta e72, upd_eta e73]
            refine WP.seqY (by kernel_rfl) (fun l I S => asSl (l 8) fun out_8 out_8n out_8c => asAdr (l 15) fun r_15 => asSl (l 71) fun x71 x71n x71c => asI .i64 (l 72) fun x72 => asI .i64 (l 73) fun x73 => bolterlaw10_delta_b21 (fun out_8 out_8n out_8c x71 x71n x71c x72 x73 I S => ∃ m', m' < m_again16 ∧ Inv_again16 m' out_8 out_8n out_8c x71 x71n x71c x72 x73 I S) R out_8 out_8n out_8c r_15 x71 x71n x71c x72 x73 I S) ?_ ?_
            ·
              refine WP.cut 1 (fun l I S => asSl (l 8) fun out_8 out_8n out_8c => asAdr (l 15) fun r_15 => asSl (l 71) fun x71 x71n x71c => asI .i64 (l 72) fun x72 => asI .i64 (l 73) fun x73 => asSl (l 77) fun x77 x77n x77c => asI .i64 (l 78) fun x78 => asI .i64 (l 79) fun x79 => bolterlaw10_delta_b19 (fun out_8 out_8n out_8c x71 x71n x71c x72 x73 I S => ∃ m', m' < m_again16 ∧ Inv_again16 m' out_8 out_8n out_8c x71 x71n x71c x72 x73 I S) R out_8 out_8n out_8c r_15 x71 x71n x71c x72 x73 x77 x77n x77c x78 x79 I S) (cast (by kernel_rfl) h) ?_
              clear h
              intro l I S _ h
              obtain ⟨out_8, out_8n, out_8c, e8, h⟩ := asSl_e h
              obtain ⟨r_15, e15, h⟩ := asAdr_e h
              obtain ⟨x71, x71n, x71c, e71, h⟩ := asSl_e h
              obtain ⟨x72, e72, h⟩ := asI_e h
              obtain ⟨x73, e73, h⟩ := asI_e h
              obtain ⟨x77, x77n, x77c, e77, h⟩ := asSl_e h
              obtain ⟨x78, e78, h⟩ := asI_e h
              obtain ⟨x79, e79, h⟩ := asI_e h
              rw [upd_eta e8, upd_eta e15, upd_eta e71, upd_eta e72, upd_eta e73, upd_eta e77, upd_eta e78, upd_eta e79]
              refine WP.block' (by kernel_rfl) ?_
              obtain ⟨Inv_again20, m_again20, h0, hr⟩ := h
              refine WP.loop' (by kernel_rfl) (fun m_again20 => fun l I S => asSl (l 8) fun out_8 out_8n out_8c => asAdr (l 15) fun r_15 => asSl (l 71) fun x71 x71n x71c => asI .i64 (l 72) fun x72 => asI .i64 (l 73) fun x73 => asSl (l 77) fun x77 x77n x77c => asI .i64 (l 78) fun x78 => asI .i64 (l 79) fun x79 => Inv_again20 m_again20 out_8 out_8n out_8c r_15 x71 x71n x71c x72 x73 x77 x77n x77c x78 x79 I S) m_again20 (cast (by kernel_rfl) h0) ?_
              clear h0
              intro m_again20 l I S hle h
              obtain ⟨out_8, out_8n, out_8c, e8, h⟩ := asSl_e h
              obtain ⟨r_15, e15, h⟩ := asAdr_e h
              obtain ⟨x71, x71n, x71c, e71, h⟩ := asSl_e h
              obtain ⟨x72, e72, h⟩ := asI_e h
              obtain ⟨x73, e73, h⟩ := asI_e h
              obtain ⟨x77, x77n, x77c, e77, h⟩ := asSl_e h
              obtain ⟨x78, e78, h⟩ := asI_e h
              obtain ⟨x79, e79, h⟩ := asI_e h
              rw [upd_eta e8, upd_eta e15, upd_eta e71, upd_eta e72, upd_eta e73, upd_eta e77, upd_eta e78, upd_eta e79]
              have h := hr m_again20 out_8 out_8n out_8c r_15 x71 x71n x71c x72 x73 x77 x77n x77c x78 x79 I S hle h
              clear hr hle
              exact Pre.sound _ _ _ _ _ (cast (by kernel_rfl) h)
            · clear h
              intro l I S _ h
              obtain ⟨out_8, out_8n, out_8c, e8, h⟩ := asSl_e h
              obtain ⟨r_15, e15, h⟩ := asAdr_e h
              obtain ⟨x71, x71n, x71c, e71, h⟩ := asSl_e h
              obtain ⟨x72, e72, h⟩ := asI_e h
              obtain ⟨x73, e73, h⟩ := asI_e h
              rw [upd_eta e8, upd_eta e15, upd_eta e71, upd_eta e72, upd_eta e73]
              exact WP.draw' (.take 0 (.take 2 (.fork 1 (.step 3 (.step 4 (.step 5 (.take 6 .done)))) 3 (.step 1 (.step 4 (.step 5 (.take 6 .done))))))) [1, 3, 4, 5] (by kernel_rfl) (by kernel_rfl) (by kernel_rfl) (by kernel_rfl) (by kernel_rfl) (cast (by kernel_rfl) h)
          · clear h
            intro l I S _ h
            obtain ⟨out_8, out_8n, out_8c, e8, h⟩ := asSl_e h
            obtain ⟨x71, x71n, x71c, e71, h⟩ := asSl_e h
            obtain ⟨x72, e72, h⟩ := asI_e h
            obtain ⟨x73, e73, h⟩ := asI_e h
            rw [upd_eta e8, upd_eta e71, upd_eta e72, upd_eta e73]
            exact Pre.sound _ _ _ _ _ (cast (by kernel_rfl) h)
      · clear h
        intro l I S _ h
        obtain ⟨out_8, out_8n, out_8c, e8, h⟩ := asSl_e h
        rw [upd_eta e8]
        exact Pre.sound _ _ _ _ _ (cast (by kernel_rfl) h)
/-! ### apply_Between: function 25, bolter/apply.Between -/
noncomputable def apply_Between_code : Code := (Tryd.f25.body).getD .skip
def apply_Between_b4 (again3 : Option Addr → Nat → Nat → Option Addr → Nat → Nat → Option Addr → Nat → Nat → Option Addr → Nat → Nat → Option Addr → Nat → Nat → Int → Int → IMem → SH → Prop) (R : Value → IMem → SH → Prop) (a_0 : Option Addr) (a_0n : Nat) (a_0c : Nat) (b_1 : Option Addr) (b_1n : Nat) (b_1c : Nat) (gone_6 : Option Addr) (gone_6n : Nat) (gone_6c : Nat) (fresh_7 : Option Addr) (fresh_7n : Nat) (fresh_7c : Nat) (x12 : Option Addr) (x12n : Nat) (x12c : Nat) (x13 : Int) (x14 : Int) (I : IMem) (S : SH) : Prop :=
  again3 a_0 a_0n a_0c b_1 b_1n b_1c gone_6 gone_6n gone_6c fresh_7 fresh_7n fresh_7c x12 x12n x12c x13 (IntKind.wrap .i64 (x14 + (1 : Int))) I S
def apply_Between_b8 (again7 : Option Addr → Nat → Nat → Option Addr → Nat → Nat → Option Addr → Nat → Nat → Option Addr → Nat → Nat → Int → Int → IMem → SH → Prop) (R : Value → IMem → SH → Prop) (a_0 : Option Addr) (a_0n : Nat) (a_0c : Nat) (gone_6 : Option Addr) (gone_6n : Nat) (gone_6c : Nat) (fresh_7 : Option Addr) (fresh_7n : Nat) (fresh_7c : Nat) (x27 : Option Addr) (x27n : Nat) (x27c : Nat) (x28 : Int) (x29 : Int) (I : IMem) (S : SH) : Prop :=
  again7 a_0 a_0n a_0c gone_6 gone_6n gone_6c fresh_7 fresh_7n fresh_7c x27 x27n x27c x28 (IntKind.wrap .i64 (x29 + (1 : Int))) I S
def apply_Between_b9 (R : Value → IMem → SH → Prop) (gone_6 : Option Addr) (gone_6n : Nat) (gone_6c : Nat) (fresh_7 : Option Addr) (fresh_7n : Nat) (fresh_7c : Nat) (I : IMem) (S : SH) : Prop :=
  R (.tuple #[.slice gone_6 gone_6n gone_6c, .slice fresh_7 fresh_7n fresh_7c]) I S
def apply_Between_l7 (again7 : Option Addr → Nat → Nat → Option Addr → Nat → Nat → Option Addr → Nat → Nat → Option Addr → Nat → Nat → Int → Int → IMem → SH → Prop) (R : Value → IMem → SH → Prop) (a_0 : Option Addr) (a_0n : Nat) (a_0c : Nat) (gone_6 : Option Addr) (gone_6n : Nat) (gone_6c : Nat) (fresh_7 : Option Addr) (fresh_7n : Nat) (fresh_7c : Nat) (x27 : Option Addr) (x27n : Nat) (x27c : Nat) (x28 : Int) (x29 : Int) (I : IMem) (S : SH) : Prop :=
  bcase (decide (x29 < x28))
    (ptrP x27 fun x31 => (0 : Int) ≤ x29 ∧ x29 < (x27n : Int) ∧
    ∃ x32_0, Cell I S (x31.add (x29.toNat * 4)) (.string x32_0) ∧
    ∃ x32_1, Cell I S ((x31.add (x29.toNat * 4)).add 1) (.int .u16 x32_1) ∧
    ∃ x32_2, Cell I S ((x31.add (x29.toNat * 4)).add 2) (.int .u32 x32_2) ∧
    ∃ x32_3, Cell I S ((x31.add (x29.toNat * 4)).add 3) (.string x32_3) ∧
    ∀ b11 : Nat,
    StP ((b11, .cells #[.string ⟨#[]⟩, .int .u16 0, .int .u32 0, .string ⟨#[]⟩] 36 (0, 0)) :: S) ⟨b11, 0, none⟩ [.string x32_0, .int .u16 x32_1, .int .u32 x32_2, .string x32_3] fun S1 =>
    ∃ x34_0, Cell I S1 ⟨b11, 0, none⟩ (.string x34_0) ∧
    ∃ x34_1, Cell I S1 ⟨b11, 1, none⟩ (.int .u16 x34_1) ∧
    ∃ x34_2, Cell I S1 ⟨b11, 2, none⟩ (.int .u32 x34_2) ∧
    ∃ x34_3, Cell I S1 ⟨b11, 3, none⟩ (.string x34_3) ∧
    Runs Tryd.prog 14 #[.slice a_0 a_0n a_0c, .agg #[.string x34_0, .int .u16 x34_1, .int .u32 x34_2, .string x34_3]] I S1 fun v I1 S1' => ∃ x35, v = .bool x35 ∧
    bcase (!x35)
      (∃ x38_0, Cell I1 S1' ⟨b11, 0, none⟩ (.string x38_0) ∧
      ∃ x38_1, Cell I1 S1' ⟨b11, 1, none⟩ (.int .u16 x38_1) ∧
      ∃ x38_2, Cell I1 S1' ⟨b11, 2, none⟩ (.int .u32 x38_2) ∧
      ∃ x38_3, Cell I1 S1' ⟨b11, 3, none⟩ (.string x38_3) ∧
      ∀ b39 : Nat,
      AppG 36 4 40 [.string ⟨#[]⟩, .int .u16 0, .int .u32 0, .string ⟨#[]⟩] (some (.slice 36)) I1 ((b39, .cells #[.string x38_0, .int .u16 x38_1, .int .u32 x38_2, .string x38_3] 36 (0, 0)) :: S1') (.slice fresh_7 fresh_7n fresh_7c) (.slice (some ⟨b39, 0, none⟩) 1 1) fun x40 x40n x40c S1'' =>
      apply_Between_b8 again7 R a_0 a_0n a_0c gone_6 gone_6n gone_6c x40 x40n x40c x27 x27n x27c x28 x29 I1 S1'')
      (apply_Between_b8 again7 R a_0 a_0n a_0c gone_6 gone_6n gone_6c fresh_7 fresh_7n fresh_7c x27 x27n x27c x28 x29 I1 S1'))
    (apply_Between_b9 R gone_6 gone_6n gone_6c fresh_7 fresh_7n fresh_7c I S)
def apply_Between_b6 (R : Value → IMem → SH → Prop) (a_0 : Option Addr) (a_0n : Nat) (a_0c : Nat) (gone_6 : Option Addr) (gone_6n : Nat) (gone_6c : Nat) (fresh_7 : Option Addr) (fresh_7n : Nat) (fresh_7c : Nat) (x27 : Option Addr) (x27n : Nat) (x27c : Nat) (x28 : Int) (x29 : Int) (I : IMem) (S : SH) : Prop :=
  ∃ (Inv : Nat → Option Addr → Nat → Nat → Option Addr → Nat → Nat → Option Addr → Nat → Nat → Option Addr → Nat → Nat → Int → Int → IMem → SH → Prop) (m : Nat), Inv m a_0 a_0n a_0c gone_6 gone_6n gone_6c fresh_7 fresh_7n fresh_7c x27 x27n x27c x28 x29 I S ∧
    ∀ (m : Nat) (a_0 : Option Addr) (a_0n : Nat) (a_0c : Nat) (gone_6 : Option Addr) (gone_6n : Nat) (gone_6c : Nat) (fresh_7 : Option Addr) (fresh_7n : Nat) (fresh_7c : Nat) (x27 : Option Addr) (x27n : Nat) (x27c : Nat) (x28 : Int) (x29 : Int) (J : IMem) (T : SH), I.le J → Inv m a_0 a_0n a_0c gone_6 gone_6n gone_6c fresh_7 fresh_7n fresh_7c x27 x27n x27c x28 x29 J T →
      apply_Between_l7 (fun a_0 a_0n a_0c gone_6 gone_6n gone_6c fresh_7 fresh_7n fresh_7c x27 x27n x27c x28 x29 I S => ∃ m', m' < m ∧ Inv m' a_0 a_0n a_0c gone_6 gone_6n gone_6c fresh_7 fresh_7n fresh_7c x27 x27n x27c x28 x29 I S) R a_0 a_0n a_0c gone_6 gone_6n gone_6c fresh_7 fresh_7n fresh_7c x27 x27n x27c x28 x29 J T
def apply_Between_b5 (R : Value → IMem → SH → Prop) (a_0 : Option Addr) (a_0n : Nat) (a_0c : Nat) (b_1 : Option Addr) (b_1n : Nat) (b_1c : Nat) (gone_6 : Option Addr) (gone_6n : Nat) (gone_6c : Nat) (fresh_7 : Option Addr) (fresh_7n : Nat) (fresh_7c : Nat) (I : IMem) (S : SH) : Prop :=
  apply_Between_b6 R a_0 a_0n a_0c gone_6 gone_6n gone_6c fresh_7 fresh_7n fresh_7c b_1 b_1n b_1c (b_1n : Int) 0 I S
def apply_Between_l3 (again3 : Option Addr → Nat → Nat → Option Addr → Nat → Nat → Option Addr → Nat → Nat → Option Addr → Nat → Nat → Option Addr → Nat → Nat → Int → Int → IMem → SH → Prop) (R : Value → IMem → SH → Prop) (a_0 : Option Addr) (a_0n : Nat) (a_0c : Nat) (b_1 : Option Addr) (b_1n : Nat) (b_1c : Nat) (gone_6 : Option Addr) (gone_6n : Nat) (gone_6c : Nat) (fresh_7 : Option Addr) (fresh_7n : Nat) (fresh_7c : Nat) (x12 : Option Addr) (x12n : Nat) (x12c : Nat) (x13 : Int) (x14 : Int) (I : IMem) (S : SH) : Prop :=
  bcase (decide (x14 < x13))
    (ptrP x12 fun x16 => (0 : Int) ≤ x14 ∧ x14 < (x12n : Int) ∧
    ∃ x17_0, Cell I S (x16.add (x14.toNat * 4)) (.string x17_0) ∧
    ∃ x17_1, Cell I S ((x16.add (x14.toNat * 4)).add 1) (.int .u16 x17_1) ∧
    ∃ x17_2, Cell I S ((x16.add (x14.toNat * 4)).add 2) (.int .u32 x17_2) ∧
    ∃ x17_3, Cell I S ((x16.add (x14.toNat * 4)).add 3) (.string x17_3) ∧
    ∀ b9 : Nat,
    StP ((b9, .cells #[.string ⟨#[]⟩, .int .u16 0, .int .u32 0, .string ⟨#[]⟩] 36 (0, 0)) :: S) ⟨b9, 0, none⟩ [.string x17_0, .int .u16 x17_1, .int .u32 x17_2, .string x17_3] fun S1 =>
    ∃ x19_0, Cell I S1 ⟨b9, 0, none⟩ (.string x19_0) ∧
    ∃ x19_1, Cell I S1 ⟨b9, 1, none⟩ (.int .u16 x19_1) ∧
    ∃ x19_2, Cell I S1 ⟨b9, 2, none⟩ (.int .u32 x19_2) ∧
    ∃ x19_3, Cell I S1 ⟨b9, 3, none⟩ (.string x19_3) ∧
    Runs Tryd.prog 14 #[.slice b_1 b_1n b_1c, .agg #[.string x19_0, .int .u16 x19_1, .int .u32 x19_2, .string x19_3]] I S1 fun v I1 S1' => ∃ x20, v = .bool x20 ∧
    bcase (!x20)
      (∃ x23_0, Cell I1 S1' ⟨b9, 0, none⟩ (.string x23_0) ∧
      ∃ x23_1, Cell I1 S1' ⟨b9, 1, none⟩ (.int .u16 x23_1) ∧
      ∃ x23_2, Cell I1 S1' ⟨b9, 2, none⟩ (.int .u32 x23_2) ∧
      ∃ x23_3, Cell I1 S1' ⟨b9, 3, none⟩ (.string x23_3) ∧
      ∀ b24 : Nat,
      AppG 36 4 40 [.string ⟨#[]⟩, .int .u16 0, .int .u32 0, .string ⟨#[]⟩] (some (.slice 36)) I1 ((b24, .cells #[.string x23_0, .int .u16 x23_1, .int .u32 x23_2, .string x23_3] 36 (0, 0)) :: S1') (.slice gone_6 gone_6n gone_6c) (.slice (some ⟨b24, 0, none⟩) 1 1) fun x25 x25n x25c S1'' =>
      apply_Between_b4 again3 R a_0 a_0n a_0c b_1 b_1n b_1c x25 x25n x25c fresh_7 fresh_7n fresh_7c x12 x12n x12c x13 x14 I1 S1'')
      (apply_Between_b4 again3 R a_0 a_0n a_0c b_1 b_1n b_1c gone_6 gone_6n gone_6c fresh_7 fresh_7n fresh_7c x12 x12n x12c x13 x14 I1 S1'))
    (apply_Between_b5 R a_0 a_0n a_0c b_1 b_1n b_1c gone_6 gone_6n gone_6c fresh_7 fresh_7n fresh_7c I S)
def apply_Between_b2 (R : Value → IMem → SH → Prop) (a_0 : Option Addr) (a_0n : Nat) (a_0c : Nat) (b_1 : Option Addr) (b_1n : Nat) (b_1c : Nat) (gone_6 : Option Addr) (gone_6n : Nat) (gone_6c : Nat) (fresh_7 : Option Addr) (fresh_7n : Nat) (fresh_7c : Nat) (x12 : Option Addr) (x12n : Nat) (x12c : Nat) (x13 : Int) (x14 : Int) (I : IMem) (S : SH) : Prop :=
  ∃ (Inv : Nat → Option Addr → Nat → Nat → Option Addr → Nat → Nat → Option Addr → Nat → Nat → Option Addr → Nat → Nat → Option Addr → Nat → Nat → Int → Int → IMem → SH → Prop) (m : Nat), Inv m a_0 a_0n a_0c b_1 b_1n b_1c gone_6 gone_6n gone_6c fresh_7 fresh_7n fresh_7c x12 x12n x12c x13 x14 I S ∧
    ∀ (m : Nat) (a_0 : Option Addr) (a_0n : Nat) (a_0c : Nat) (b_1 : Option Addr) (b_1n : Nat) (b_1c : Nat) (gone_6 : Option Addr) (gone_6n : Nat) (gone_6c : Nat) (fresh_7 : Option Addr) (fresh_7n : Nat) (fresh_7c : Nat) (x12 : Option Addr) (x12n : Nat) (x12c : Nat) (x13 : Int) (x14 : Int) (J : IMem) (T : SH), I.le J → Inv m a_0 a_0n a_0c b_1 b_1n b_1c gone_6 gone_6n gone_6c fresh_7 fresh_7n fresh_7c x12 x12n x12c x13 x14 J T →
      apply_Between_l3 (fun a_0 a_0n a_0c b_1 b_1n b_1c gone_6 gone_6n gone_6c fresh_7 fresh_7n fresh_7c x12 x12n x12c x13 x14 I S => ∃ m', m' < m ∧ Inv m' a_0 a_0n a_0c b_1 b_1n b_1c gone_6 gone_6n gone_6c fresh_7 fresh_7n fresh_7c x12 x12n x12c x13 x14 I S) R a_0 a_0n a_0c b_1 b_1n b_1c gone_6 gone_6n gone_6c fresh_7 fresh_7n fresh_7c x12 x12n x12c x13 x14 J T
def apply_Between_b1 (R : Value → IMem → SH → Prop) (a_0 : Option Addr) (a_0n : Nat) (a_0c : Nat) (b_1 : Option Addr) (b_1n : Nat) (b_1c : Nat) (gone_6 : Option Addr) (gone_6n : Nat) (gone_6c : Nat) (fresh_7 : Option Addr) (fresh_7n : Nat) (fresh_7c : Nat) (I : IMem) (S : SH) : Prop :=
  apply_Between_b2 R a_0 a_0n a_0c b_1 b_1n b_1c gone_6 gone_6n gone_6c fresh_7 fresh_7n fresh_7c a_0 a_0n a_0c (a_0n : Int) 0 I S
def apply_Between (R : Value → IMem → SH → Prop) (a_0 : Option Addr) (a_0n : Nat) (a_0c : Nat) (b_1 : Option Addr) (b_1n : Nat) (b_1c : Nat) (I : IMem) (S : SH) : Prop :=
  apply_Between_b1 R a_0 a_0n a_0c b_1 b_1n b_1c none 0 0 none 0 0 I S
theorem apply_Between_fn (R : Value → IMem → SH → Prop) (a_0 : Option Addr) (a_0n : Nat) (a_0c : Nat) (b_1 : Option Addr) (b_1n : Nat) (b_1c : Nat) (I : IMem) (S : SH) (h : apply_Between R a_0 a_0n a_0c b_1 b_1n b_1c I S) :
    Runs Tryd.prog 25 #[.slice a_0 a_0n a_0c, .slice b_1 b_1n b_1c] I S R := by
  refine Runs.of_wp (args := [.slice a_0 a_0n a_0c, .slice b_1 b_1n b_1c]) (c := apply_Between_code) Tryd.func25 (by kernel_rfl) (by kernel_rfl) ?_
  refine WP.cut 2 (fun l I S => asSl (l 0) fun a_0 a_0n a_0c => asSl (l 1) fun b_1 b_1n b_1c => asSl (l 6) fun gone_6 gone_6n gone_6c => asSl (l 7) fun fresh_7 fresh_7n fresh_7c => apply_Between_b1 R a_0 a_0n a_0c b_1 b_1n b_1c gone_6 gone_6n gone_6c fresh_7 fresh_7n fresh_7c I S) (cast (by kernel_rfl) h) ?_
  clear h
  intro l I S _ h
  obtain ⟨a_0, a_0n, a_0c, e0, h⟩ := asSl_e h
  obtain ⟨b_1, b_1n, b_1c, e1, h⟩ := asSl_e h
  obtain ⟨gone_6, gone_6n, gone_6c, e6, h⟩ := asSl_e h
  obtain ⟨fresh_7, fresh_7n, fresh_7c, e7, h⟩ := asSl_e h
  rw [upd_eta e0, upd_eta e1, upd_eta e6, upd_eta e7]
  refine WP.seqY (by kernel_rfl) (fun l I S => asSl (l 0) fun a_0 a_0n a_0c => asSl (l 1) fun b_1 b_1n b_1c => asSl (l 6) fun gone_6 gone_6n gone_6c => asSl (l 7) fun fresh_7 fresh_7n fresh_7c => apply_Between_b5 R a_0 a_0n a_0c b_1 b_1n b_1c gone_6 gone_6n gone_6c fresh_7 fresh_7n fresh_7c I S) ?_ ?_
  ·
    refine WP.cut 1 (fun l I S => asSl (l 0) fun a_0 a_0n a_0c => asSl (l 1) fun b_1 b_1n b_1c => asSl (l 6) fun gone_6 gone_6n gone_6c => asSl (l 7) fun fresh_7 fresh_7n fresh_7c => asSl (l 12) fun x12 x12n x12c => asI .i64 (l 13) fun x13 => asI .i64 (l 14) fun x14 => apply_Between_b2 R a_0 a_0n a_0c b_1 b_1n b_1c gone_6 gone_6n gone_6c fresh_7 fresh_7n fresh_7c x12 x12n x12c x13 x14 I S) (cast (by kernel_rfl) h) ?_
    clear h
    intro l I S _ h
    obtain ⟨a_0, a_0n, a_0c, e0, h⟩ := asSl_e h
    obtain ⟨b_1, b_1n, b_1c, e1, h⟩ := asSl_e h
    obtain ⟨gone_6, gone_6n, gone_6c, e6, h⟩ := asSl_e h
    obtain ⟨fresh_7, fresh_7n, fresh_7c, e7, h⟩ := asSl_e h
    obtain ⟨x12, x12n, x12c, e12, h⟩ := asSl_e h
    obtain ⟨x13, e13, h⟩ := asI_e h
    obtain ⟨x14, e14, h⟩ := asI_e h
    rw [upd_eta e0, upd_eta e1, upd_eta e6, upd_eta e7, upd_eta e12, upd_eta e13, upd_eta e14]
    refine WP.block' (by kernel_rfl) ?_
    obtain ⟨Inv_again3, m_again3, h0, hr⟩ := h
    refine WP.loop' (by kernel_rfl) (fun m_again3 => fun l I S => asSl (l 0) fun a_0 a_0n a_0c => asSl (l 1) fun b_1 b_1n b_1c => asSl (l 6) fun gone_6 gone_6n gone_6c => asSl (l 7) fun fresh_7 fresh_7n fresh_7c => asSl (l 12) fun x12 x12n x12c => asI .i64 (l 13) fun x13 => asI .i64 (l 14) fun x14 => Inv_again3 m_again3 a_0 a_0n a_0c b_1 b_1n b_1c gone_6 gone_6n gone_6c fresh_7 fresh_7n fresh_7c x12 x12n x12c x13 x14 I S) m_again3 (cast (by kernel_rfl) h0) ?_
    clear h0
    intro m_again3 l I S hle h
    obtain ⟨a_0, a_0n, a_0c, e0, h⟩ := asSl_e h
    obtain ⟨b_1, b_1n, b_1c, e1, h⟩ := asSl_e h
    obtain ⟨gone_6, gone_6n, gone_6c, e6, h⟩ := asSl_e h
    obtain ⟨fresh_7, fresh_7n, fresh_7c, e7, h⟩ := asSl_e h
    obtain ⟨x12, x12n, x12c, e12, h⟩ := asSl_e h
    obtain ⟨x13, e13, h⟩ := asI_e h
    obtain ⟨x14, e14, h⟩ := asI_e h
    rw [upd_eta e0, upd_eta e1, upd_eta e6, upd_eta e7, upd_eta e12, upd_eta e13, upd_eta e14]
    have h := hr m_again3 a_0 a_0n a_0c b_1 b_1n b_1c gone_6 gone_6n gone_6c fresh_7 fresh_7n fresh_7c x12 x12n x12c x13 x14 I S hle h
    clear hr hle
    refine WP.cut 3 (fun l I S => asSl (l 0) fun a_0 a_0n a_0c => asSl (l 1) fun b_1 b_1n b_1c => asSl (l 6) fun gone_6 gone_6n gone_6c => asSl (l 7) fun fresh_7 fresh_7n fresh_7c => asSl (l 12) fun x12 x12n x12c => asI .i64 (l 13) fun x13 => asI .i64 (l 14) fun x14 => apply_Between_b4 (fun a_0 a_0n a_0c b_1 b_1n b_1c gone_6 gone_6n gone_6c fresh_7 fresh_7n fresh_7c x12 x12n x12c x13 x14 I S => ∃ m', m' < m_again3 ∧ Inv_again3 m' a_0 a_0n a_0c b_1 b_1n b_1c gone_6 gone_6n gone_6c fresh_7 fresh_7n fresh_7c x12 x12n x12c x13 x14 I S) R a_0 a_0n a_0c b_1 b_1n b_1c gone_6 gone_6n gone_6c fresh_7 fresh_7n fresh_7c x12 x12n x12c x13 x14 I S) (cast (by kernel_rfl) h) ?_
    clear h
    intro l I S _ h
    obtain ⟨a_0, a_0n, a_0c, e0, h⟩ := asSl_e h
    obtain ⟨b_1, b_1n, b_1c, e1, h⟩ := asSl_e h
    obtain ⟨gone_6, gone_6n, gone_6c, e6, h⟩ := asSl_e h
    obtain ⟨fresh_7, fresh_7n, fresh_7c, e7, h⟩ := asSl_e h
    obtain ⟨x12, x12n, x12c, e12, h⟩ := asSl_e h
    obtain ⟨x13, e13, h⟩ := asI_e h
    obtain ⟨x14, e14, h⟩ := asI_e h
    rw [upd_eta e0, upd_eta e1, upd_eta e6, upd_eta e7, upd_eta e12, upd_eta e13, upd_eta e14]
    exact Pre.sound _ _ _ _ _ (cast (by kernel_rfl) h)
  · clear h
    intro l I S _ h
    obtain ⟨a_0, a_0n, a_0c, e0, h⟩ := asSl_e h
    obtain ⟨b_1, b_1n, b_1c, e1, h⟩ := asSl_e h
    obtain ⟨gone_6, gone_6n, gone_6c, e6, h⟩ := asSl_e h
    obtain ⟨fresh_7, fresh_7n, fresh_7c, e7, h⟩ := asSl_e h
    rw [upd_eta e0, upd_eta e1, upd_eta e6, upd_eta e7]
    refine WP.seqY (by kernel_rfl) (fun l I S => asSl (l 6) fun gone_6 gone_6n gone_6c => asSl (l 7) fun fresh_7 fresh_7n fresh_7c => apply_Between_b9 R gone_6 gone_6n gone_6c fresh_7 fresh_7n fresh_7c I S) ?_ ?_
    ·
      refine WP.cut 1 (fun l I S => asSl (l 0) fun a_0 a_0n a_0c => asSl (l 6) fun gone_6 gone_6n gone_6c => asSl (l 7) fun fresh_7 fresh_7n fresh_7c => asSl (l 27) fun x27 x27n x27c => asI .i64 (l 28) fun x28 => asI .i64 (l 29) fun x29 => apply_Between_b6 R a_0 a_0n a_0c gone_6 gone_6n gone_6c fresh_7 fresh_7n fresh_7c x27 x27n x27c x28 x29 I S) (cast (by kernel_rfl) h) ?_
      clear h
      intro l I S _ h
      obtain ⟨a_0, a_0n, a_0c, e0, h⟩ := asSl_e h
      obtain ⟨gone_6, gone_6n, gone_6c, e6, h⟩ := asSl_e h
      obtain ⟨fresh_7, fresh_7n, fresh_7c, e7, h⟩ := asSl_e h
      obtain ⟨x27, x27n, x27c, e27, h⟩ := asSl_e h
      obtain ⟨x28, e28, h⟩ := asI_e h
      obtain ⟨x29, e29, h⟩ := asI_e h
      rw [upd_eta e0, upd_eta e6, upd_eta e7, upd_eta e27, upd_eta e28, upd_eta e29]
      refine WP.block' (by kernel_rfl) ?_
      obtain ⟨Inv_again7, m_again7, h0, hr⟩ := h
      refine WP.loop' (by kernel_rfl) (fun m_again7 => fun l I S => asSl (l 0) fun a_0 a_0n a_0c => asSl (l 6) fun gone_6 gone_6n gone_6c => asSl (l 7) fun fresh_7 fresh_7n fresh_7c => asSl (l 27) fun x27 x27n x27c => asI .i64 (l 28) fun x28 => asI .i64 (l 29) fun x29 => Inv_again7 m_again7 a_0 a_0n a_0c gone_6 gone_6n gone_6c fresh_7 fresh_7n fresh_7c x27 x27n x27c x28 x29 I S) m_again7 (cast (by kernel_rfl) h0) ?_
      clear h0
      intro m_again7 l I S hle h
      obtain ⟨a_0, a_0n, a_0c, e0, h⟩ := asSl_e h
      obtain ⟨gone_6, gone_6n, gone_6c, e6, h⟩ := asSl_e h
      obtain ⟨fresh_7, fresh_7n, fresh_7c, e7, h⟩ := asSl_e h
      obtain ⟨x27, x27n, x27c, e27, h⟩ := asSl_e h
      obtain ⟨x28, e28, h⟩ := asI_e h
      obtain ⟨x29, e29, h⟩ := asI_e h
      rw [upd_eta e0, upd_eta e6, upd_eta e7, upd_eta e27, upd_eta e28, upd_eta e29]
      have h := hr m_again7 a_0 a_0n a_0c gone_6 gone_6n gone_6c fresh_7 fresh_7n fresh_7c x27 x27n x27c x28 x29 I S hle h
      clear hr hle
      refine WP.cut 3 (fun l I S => asSl (l 0) fun a_0 a_0n a_0c => asSl (l 6) fun gone_6 gone_6n gone_6c => asSl (l 7) fun fresh_7 fresh_7n fresh_7c => asSl (l 27) fun x27 x27n x27c => asI .i64 (l 28) fun x28 => asI .i64 (l 29) fun x29 => apply_Between_b8 (fun a_0 a_0n a_0c gone_6 gone_6n gone_6c fresh_7 fresh_7n fresh_7c x27 x27n x27c x28 x29 I S => ∃ m', m' < m_again7 ∧ Inv_again7 m' a_0 a_0n a_0c gone_6 gone_6n gone_6c fresh_7 fresh_7n fresh_7c x27 x27n x27c x28 x29 I S) R a_0 a_0n a_0c gone_6 gone_6n gone_6c fresh_7 fresh_7n fresh_7c x27 x27n x27c x28 x29 I S) (cast (by kernel_rfl) h) ?_
      clear h
      intro l I S _ h
      obtain ⟨a_0, a_0n, a_0c, e0, h⟩ := asSl_e h
      obtain ⟨gone_6, gone_6n, gone_6c, e6, h⟩ := asSl_e h
      obtain ⟨fresh_7, fresh_7n, fresh_7c, e7, h⟩ := asSl_e h
      obtain ⟨x27, x27n, x27c, e27, h⟩ := asSl_e h
      obtain ⟨x28, e28, h⟩ := asI_e h
      obtain ⟨x29, e29, h⟩ := asI_e h
      rw [upd_eta e0, upd_eta e6, upd_eta e7, upd_eta e27, upd_eta e28, upd_eta e29]
      exact Pre.sound _ _ _ _ _ (cast (by kernel_rfl) h)
    · clear h
      intro l I S _ h
      obtain ⟨gone_6, gone_6n, gone_6c, e6, h⟩ := asSl_e h
      obtain ⟨fresh_7, fresh_7n, fresh_7c, e7, h⟩ := asSl_e h
      rw [upd_eta e6, upd_eta e7]
      exact Pre.sound _ _ _ _ _ (cast (by kernel_rfl) h)
/-! ### bolterlaw07_Make: function 38, bolter/bolterlaw07.Make -/
noncomputable def bolterlaw07_Make_code : Code := (Tryd.f38.body).getD .skip
def bolterlaw07_Make (R : Value → IMem → SH → Prop) (ns_0 : Option Addr) (ns_0n : Nat) (ns_0c : Nat) (serial_1 : Int) (refresh_2 : Int) (retry_3 : Int) (expire_4 : Int) (I : IMem) (S : SH) : Prop :=
  Runs Tryd.prog 32 #[.slice ns_0 ns_0n ns_0c] I S fun v I1 S1 => ∃ x13, v = .string x13 ∧
  ((x13.size + (⟨#[0]⟩ : ByteArray).size : Nat) : Int) ≤ 9223372036854775807 ∧
  (((x13 ++ (⟨#[0]⟩ : ByteArray)).size + x13.size : Nat) : Int) ≤ 9223372036854775807 ∧
  ((((x13 ++ (⟨#[0]⟩ : ByteArray)) ++ x13).size + (⟨#[0]⟩ : ByteArray).size : Nat) : Int) ≤ 9223372036854775807 ∧
  ∀ b26 : Nat,
  Runs Tryd.prog 57 #[.slice none 0 0, .slice (some ⟨b26, 0, none⟩) 5 5] I1 ((b26, .cells #[.int .u32 serial_1, .int .u32 (IntKind.wrap .u32 refresh_2), .int .u32 (IntKind.wrap .u32 retry_3), .int .u32 (IntKind.wrap .u32 expire_4), .int .u32 1] 24 (0, 0)) :: S1) fun v' I1' S1' => ∃ x27 x27n x27c, v' = .slice x27 x27n x27c ∧
  ∃ x28 : ByteArray, BytesAt I1' S1' x27 x27n x28 ∧
  (((((x13 ++ (⟨#[0]⟩ : ByteArray)) ++ x13) ++ (⟨#[0]⟩ : ByteArray)).size + x28.size : Nat) : Int) ≤ 9223372036854775807 ∧
  R (.string ((((x13 ++ (⟨#[0]⟩ : ByteArray)) ++ x13) ++ (⟨#[0]⟩ : ByteArray)) ++ x28)) I1' S1'
theorem bolterlaw07_Make_fn (R : Value → IMem → SH → Prop) (ns_0 : Option Addr) (ns_0n : Nat) (ns_0c : Nat) (serial_1 : Int) (refresh_2 : Int) (retry_3 : Int) (expire_4 : Int) (I : IMem) (S : SH) (h : bolterlaw07_Make R ns_0 ns_0n ns_0c serial_1 refresh_2 retry_3 expire_4 I S) :
    Runs Tryd.prog 38 #[.slice ns_0 ns_0n ns_0c, .int .u32 serial_1, .int .u8 refresh_2, .int .u8 retry_3, .int .u8 expire_4] I S R := by
  refine Runs.of_wp (args := [.slice ns_0 ns_0n ns_0c, .int .u32 serial_1, .int .u8 refresh_2, .int .u8 retry_3, .int .u8 expire_4]) (c := bolterlaw07_Make_code) Tryd.func38 (by kernel_rfl) (by kernel_rfl) ?_
  exact Pre.sound _ _ _ _ _ (cast (by kernel_rfl) h)
/-! ### name_Join: function 39, bolter/name.Join -/
noncomputable def name_Join_code : Code := (Tryd.f39.body).getD .skip
def name_Join_b3 (R : Value → IMem → SH → Prop) (n_0 : ByteArray) (on_1 : ByteArray) (I : IMem) (S : SH) : Prop :=
  ((n_0.size + on_1.size : Nat) : Int) ≤ 9223372036854775807 ∧
  R (.tuple #[.string (n_0 ++ on_1), .bool true]) I S
def name_Join_b2 (R : Value → IMem → SH → Prop) (n_0 : ByteArray) (on_1 : ByteArray) (x21 : Bool) (I : IMem) (S : SH) : Prop :=
  bcase x21
    (R (.tuple #[.string ⟨#[]⟩, .bool false]) I S)
    (name_Join_b3 R n_0 on_1 I S)
def name_Join_b1 (R : Value → IMem → SH → Prop) (n_0 : ByteArray) (on_1 : ByteArray) (I : IMem) (S : SH) : Prop :=
  Runs Tryd.prog 58 #[.string n_0] I S fun v I1 S1 => ∃ x7, v = .bool x7 ∧
  bcase (!x7)
    (name_Join_b2 R n_0 on_1 true I1 S1)
    (Runs Tryd.prog 58 #[.string on_1] I1 S1 fun v' I1' S1' => ∃ x11, v' = .bool x11 ∧
    bcase (!x11)
      (name_Join_b2 R n_0 on_1 true I1' S1')
      (name_Join_b2 R n_0 on_1 (decide ((IntKind.wrap .i64 ((n_0.size : Int) + (on_1.size : Int))) > (254 : Int))) I1' S1'))
def name_Join (R : Value → IMem → SH → Prop) (n_0 : ByteArray) (on_1 : ByteArray) (I : IMem) (S : SH) : Prop :=
  name_Join_b1 R n_0 on_1 I S
theorem name_Join_fn (R : Value → IMem → SH → Prop) (n_0 : ByteArray) (on_1 : ByteArray) (I : IMem) (S : SH) (h : name_Join R n_0 on_1 I S) :
    Runs Tryd.prog 39 #[.string n_0, .string on_1] I S R := by
  refine Runs.of_wp (args := [.string n_0, .string on_1]) (c := name_Join_code) Tryd.func39 (by kernel_rfl) (by kernel_rfl) ?_
  refine WP.cut 1 (fun l I S => asStr (l 0) fun n_0 => asStr (l 1) fun on_1 => name_Join_b1 R n_0 on_1 I S) (cast (by kernel_rfl) h) ?_
  clear h
  intro l I S _ h
  obtain ⟨n_0, e0, h⟩ := asStr_e h
  obtain ⟨on_1, e1, h⟩ := asStr_e h
  rw [upd_eta e0, upd_eta e1]
  refine WP.seqY (by kernel_rfl) (fun l I S => asStr (l 0) fun n_0 => asStr (l 1) fun on_1 => name_Join_b3 R n_0 on_1 I S) ?_ ?_
  ·
    refine WP.cut 1 (fun l I S => asStr (l 0) fun n_0 => asStr (l 1) fun on_1 => asB (l 21) fun x21 => name_Join_b2 R n_0 on_1 x21 I S) (cast (by kernel_rfl) h) ?_
    clear h
    intro l I S _ h
    obtain ⟨n_0, e0, h⟩ := asStr_e h
    obtain ⟨on_1, e1, h⟩ := asStr_e h
    obtain ⟨x21, e21, h⟩ := asB_e h
    rw [upd_eta e0, upd_eta e1, upd_eta e21]
    exact Pre.sound _ _ _ _ _ (cast (by kernel_rfl) h)
  · clear h
    intro l I S _ h
    obtain ⟨n_0, e0, h⟩ := asStr_e h
    obtain ⟨on_1, e1, h⟩ := asStr_e h
    rw [upd_eta e0, upd_eta e1]
    exact Pre.sound _ _ _ _ _ (cast (by kernel_rfl) h)
/-! ### num_Put32: function 57, bolter/num.Put32 -/
noncomputable def num_Put32_code : Code := (Tryd.f57.body).getD .skip
def num_Put32_b4 (R : Value → IMem → SH → Prop) (out_5 : Option Addr) (out_5n : Nat) (out_5c : Nat) (I : IMem) (S : SH) : Prop :=
  R (.slice out_5 out_5n out_5c) I S
def num_Put32_l3 (again3 : Option Addr → Nat → Nat → Option Addr → Nat → Nat → Int → Int → IMem → SH → Prop) (R : Value → IMem → SH → Prop) (out_5 : Option Addr) (out_5n : Nat) (out_5c : Nat) (x10 : Option Addr) (x10n : Nat) (x10c : Nat) (x11 : Int) (x12 : Int) (I : IMem) (S : SH) : Prop :=
  bcase (decide (x12 < x11))
    (ptrP x10 fun x14 => (0 : Int) ≤ x12 ∧ x12 < (x10n : Int) ∧
    ∃ x15, Cell I S (x14.add (x12.toNat * 1)) (.int .u32 x15) ∧
    ∀ b28 : Nat,
    AppG 5 1 1 [.int .u8 0] (some (.slice 5)) I ((b28, .cells #[.int .u8 (IntKind.wrap .u8 (x15.fdiv (2 ^ (min (24 : Int).toNat (IntKind.bits .u32))))), .int .u8 (IntKind.wrap .u8 (x15.fdiv (2 ^ (min (16 : Int).toNat (IntKind.bits .u32))))), .int .u8 (IntKind.wrap .u8 (x15.fdiv (2 ^ (min (8 : Int).toNat (IntKind.bits .u32))))), .int .u8 (IntKind.wrap .u8 x15)] 5 (0, 0)) :: S) (.slice out_5 out_5n out_5c) (.slice (some ⟨b28, 0, none⟩) 4 4) fun x29 x29n x29c S1 =>
    again3 x29 x29n x29c x10 x10n x10c x11 (IntKind.wrap .i64 (x12 + (1 : Int))) I S1)
    (num_Put32_b4 R out_5 out_5n out_5c I S)
def num_Put32_b2 (R : Value → IMem → SH → Prop) (out_5 : Option Addr) (out_5n : Nat) (out_5c : Nat) (x10 : Option Addr) (x10n : Nat) (x10c : Nat) (x11 : Int) (x12 : Int) (I : IMem) (S : SH) : Prop :=
  ∃ (Inv : Nat → Option Addr → Nat → Nat → Option Addr → Nat → Nat → Int → Int → IMem → SH → Prop) (m : Nat), Inv m out_5 out_5n out_5c x10 x10n x10c x11 x12 I S ∧
    ∀ (m : Nat) (out_5 : Option Addr) (out_5n : Nat) (out_5c : Nat) (x10 : Option Addr) (x10n : Nat) (x10c : Nat) (x11 : Int) (x12 : Int) (J : IMem) (T : SH), I.le J → Inv m out_5 out_5n out_5c x10 x10n x10c x11 x12 J T →
      num_Put32_l3 (fun out_5 out_5n out_5c x10 x10n x10c x11 x12 I S => ∃ m', m' < m ∧ Inv m' out_5 out_5n out_5c x10 x10n x10c x11 x12 I S) R out_5 out_5n out_5c x10 x10n x10c x11 x12 J T
def num_Put32_b1 (R : Value → IMem → SH → Prop) (ns_1 : Option Addr) (ns_1n : Nat) (ns_1c : Nat) (out_5 : Option Addr) (out_5n : Nat) (out_5c : Nat) (I : IMem) (S : SH) : Prop :=
  num_Put32_b2 R out_5 out_5n out_5c ns_1 ns_1n ns_1c (ns_1n : Int) 0 I S
def num_Put32 (R : Value → IMem → SH → Prop) (b_0 : Option Addr) (b_0n : Nat) (b_0c : Nat) (ns_1 : Option Addr) (ns_1n : Nat) (ns_1c : Nat) (I : IMem) (S : SH) : Prop :=
  AppG 5 1 1 [.int .u8 0] (some (.slice 5)) I S (.slice none 0 0) (.slice b_0 b_0n b_0c) fun x9 x9n x9c S1 =>
  num_Put32_b1 R ns_1 ns_1n ns_1c x9 x9n x9c I S1
theorem num_Put32_fn (R : Value → IMem → SH → Prop) (b_0 : Option Addr) (b_0n : Nat) (b_0c : Nat) (ns_1 : Option Addr) (ns_1n : Nat) (ns_1c : Nat) (I : IMem) (S : SH) (h : num_Put32 R b_0 b_0n b_0c ns_1 ns_1n ns_1c I S) :
    Runs Tryd.prog 57 #[.slice b_0 b_0n b_0c, .slice ns_1 ns_1n ns_1c] I S R := by
  refine Runs.of_wp (args := [.slice b_0 b_0n b_0c, .slice ns_1 ns_1n ns_1c]) (c := num_Put32_code) Tryd.func57 (by kernel_rfl) (by kernel_rfl) ?_
  refine WP.cut 2 (fun l I S => asSl (l 1) fun ns_1 ns_1n ns_1c => asSl (l 5) fun out_5 out_5n out_5c => num_Put32_b1 R ns_1 ns_1n ns_1c out_5 out_5n out_5c I S) (cast (by kernel_rfl) h) ?_
  clear h
  intro l I S _ h
  obtain ⟨ns_1, ns_1n, ns_1c, e1, h⟩ := asSl_e h
  obtain ⟨out_5, out_5n, out_5c, e5, h⟩ := asSl_e h
  rw [upd_eta e1, upd_eta e5]
  refine WP.seqY (by kernel_rfl) (fun l I S => asSl (l 5) fun out_5 out_5n out_5c => num_Put32_b4 R out_5 out_5n out_5c I S) ?_ ?_
  ·
    refine WP.cut 1 (fun l I S => asSl (l 5) fun out_5 out_5n out_5c => asSl (l 10) fun x10 x10n x10c => asI .i64 (l 11) fun x11 => asI .i64 (l 12) fun x12 => num_Put32_b2 R out_5 out_5n out_5c x10 x10n x10c x11 x12 I S) (cast (by kernel_rfl) h) ?_
    clear h
    intro l I S _ h
    obtain ⟨out_5, out_5n, out_5c, e5, h⟩ := asSl_e h
    obtain ⟨x10, x10n, x10c, e10, h⟩ := asSl_e h
    obtain ⟨x11, e11, h⟩ := asI_e h
    obtain ⟨x12, e12, h⟩ := asI_e h
    rw [upd_eta e5, upd_eta e10, upd_eta e11, upd_eta e12]
    refine WP.block' (by kernel_rfl) ?_
    obtain ⟨Inv_again3, m_again3, h0, hr⟩ := h
    refine WP.loop' (by kernel_rfl) (fun m_again3 => fun l I S => asSl (l 5) fun out_5 out_5n out_5c => asSl (l 10) fun x10 x10n x10c => asI .i64 (l 11) fun x11 => asI .i64 (l 12) fun x12 => Inv_again3 m_again3 out_5 out_5n out_5c x10 x10n x10c x11 x12 I S) m_again3 (cast (by kernel_rfl) h0) ?_
    clear h0
    intro m_again3 l I S hle h
    obtain ⟨out_5, out_5n, out_5c, e5, h⟩ := asSl_e h
    obtain ⟨x10, x10n, x10c, e10, h⟩ := asSl_e h
    obtain ⟨x11, e11, h⟩ := asI_e h
    obtain ⟨x12, e12, h⟩ := asI_e h
    rw [upd_eta e5, upd_eta e10, upd_eta e11, upd_eta e12]
    have h := hr m_again3 out_5 out_5n out_5c x10 x10n x10c x11 x12 I S hle h
    clear hr hle
    exact Pre.sound _ _ _ _ _ (cast (by kernel_rfl) h)
  · clear h
    intro l I S _ h
    obtain ⟨out_5, out_5n, out_5c, e5, h⟩ := asSl_e h
    rw [upd_eta e5]
    exact Pre.sound _ _ _ _ _ (cast (by kernel_rfl) h)
/-! ### slices_Clone_api_Record_2: function 41, slices.Clone[[]bolter/api.Record,bolter/api.Record] -/
noncomputable def slices_Clone_api_Record_2_code : Code := (Tryd.f41.body).getD .skip
def slices_Clone_api_Record_2 (R : Value → IMem → SH → Prop) (s_0 : Option Addr) (s_0n : Nat) (s_0c : Nat) (I : IMem) (S : SH) : Prop :=
  bcase ((s_0 : Option Addr).isNone)
    (R (.slice none 0 0) I S)
    (∀ b5 : Nat,
    AppG 36 4 40 [.string ⟨#[]⟩, .int .u16 0, .int .u32 0, .string ⟨#[]⟩] (some (.slice 36)) I ((b5, .cells #[] 36 (0, 0)) :: S) (.slice (some ⟨b5, 0, none⟩) 0 0) (.slice s_0 s_0n s_0c) fun x7 x7n x7c S1 =>
    R (.slice x7 x7n x7c) I S1)
theorem slices_Clone_api_Record_2_fn (R : Value → IMem → SH → Prop) (s_0 : Option Addr) (s_0n : Nat) (s_0c : Nat) (I : IMem) (S : SH) (h : slices_Clone_api_Record_2 R s_0 s_0n s_0c I S) :
    Runs Tryd.prog 41 #[.slice s_0 s_0n s_0c] I S R := by
  refine Runs.of_wp (args := [.slice s_0 s_0n s_0c]) (c := slices_Clone_api_Record_2_code) Tryd.func41 (by kernel_rfl) (by kernel_rfl) ?_
  exact Pre.sound _ _ _ _ _ (cast (by kernel_rfl) h)
end Go.Proofs.YtdajglfbbcbgpaaDoor
