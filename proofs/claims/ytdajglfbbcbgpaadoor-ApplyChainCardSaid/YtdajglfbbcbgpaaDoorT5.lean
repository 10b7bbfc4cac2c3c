import Derived.Test.YtdajglfbbcbgpaaDoorProg
import Derived.Test.YtdajglfbbcbgpaaDoorPx6
set_option linter.unusedVariables false
set_option maxRecDepth 8000
namespace Go.Proofs.YtdajglfbbcbgpaaDoor
open Go.Px
/-! ### bolterlaw10_ApplyChain: function 7, bolter/bolterlaw10.ApplyChain -/
noncomputable def bolterlaw10_ApplyChain_code : Code := (Tryd.f7.body).getD .skip
def bolterlaw10_ApplyChain_b8 (R : Value → IMem → SH → Prop) (origin_7 : ByteArray) (z_8 : Option Addr) (z_8n : Nat) (z_8c : Nat) (ds_10 : Option Addr) (ds_10n : Nat) (ds_10c : Nat) (I : IMem) (S : SH) : Prop :=
  bcase (decide ((ds_10n : Int) < (2 : Int)))
    (R (.bool true) I S)
    ((0 : Int) ≤ (1 : Int) ∧ (1 : Int) ≤ ((ds_10n : Nat) : Int) ∧
    Runs Tryd.prog 27 #[.string origin_7, .slice z_8 z_8n z_8c, .slice (slA ds_10 ds_10c ((1 : Int).toNat) 10) (ds_10n - (1 : Int).toNat) (ds_10c - (1 : Int).toNat)] I S fun v I1 S1 => ∃ x138_0 x138_0n x138_0c x138_1, v = .tuple #[.slice x138_0 x138_0n x138_0c, x138_1] ∧
    Runs Tryd.prog 15 #[x138_1] I1 S1 fun v' I1' S1' => ∃ x142, v' = .int .i64 x142 ∧
    R (.bool (x142 == (5 : Int))) I1' S1')
def bolterlaw10_ApplyChain_b7 (R : Value → IMem → SH → Prop) (origin_7 : ByteArray) (z_8 : Option Addr) (z_8n : Nat) (z_8c : Nat) (ds_10 : Option Addr) (ds_10n : Nat) (ds_10c : Nat) (x129 : Bool) (I : IMem) (S : SH) : Prop :=
  bcase x129
    (R (.bool false) I S)
    (bolterlaw10_ApplyChain_b8 R origin_7 z_8 z_8n z_8c ds_10 ds_10n ds_10c I S)
def bolterlaw10_ApplyChain_b6 (R : Value → IMem → SH → Prop) (origin_7 : ByteArray) (z_8 : Option Addr) (z_8n : Nat) (z_8c : Nat) (zs_9 : Option Addr) (zs_9n : Nat) (zs_9c : Nat) (ds_10 : Option Addr) (ds_10n : Nat) (ds_10c : Nat) (x_21 : Option Addr) (x_21n : Nat) (x_21c : Nat) (e_22 : Value) (I : IMem) (S : SH) : Prop :=
  ∃ nl, isNilI e_22 = some nl ∧
  bcase (!nl)
    (bolterlaw10_ApplyChain_b7 R origin_7 z_8 z_8n z_8c ds_10 ds_10n ds_10c true I S)
    (ptrP zs_9 fun x125 => (0 : Int) ≤ (IntKind.wrap .i64 ((zs_9n : Int) - (1 : Int))) ∧ (IntKind.wrap .i64 ((zs_9n : Int) - (1 : Int))) < (zs_9n : Int) ∧
    ∃ x126 x126n x126c, Cell I S (x125.add ((IntKind.wrap .i64 ((zs_9n : Int) - (1 : Int))).toNat * 1)) (.slice x126 x126n x126c) ∧
    Runs Tryd.prog 16 #[.slice x_21 x_21n x_21c, .slice x126 x126n x126c] I S fun v I1 S1 => ∃ x127, v = .bool x127 ∧
    bolterlaw10_ApplyChain_b7 R origin_7 z_8 z_8n z_8c ds_10 ds_10n ds_10c (!x127) I1 S1)
def bolterlaw10_ApplyChain_b5 (R : Value → IMem → SH → Prop) (origin_7 : ByteArray) (z_8 : Option Addr) (z_8n : Nat) (z_8c : Nat) (zs_9 : Option Addr) (zs_9n : Nat) (zs_9c : Nat) (ds_10 : Option Addr) (ds_10n : Nat) (ds_10c : Nat) (I : IMem) (S : SH) : Prop :=
  Runs Tryd.prog 27 #[.string origin_7, .slice z_8 z_8n z_8c, .slice ds_10 ds_10n ds_10c] I S fun v I1 S1 => ∃ x114_0 x114_0n x114_0c x114_1, v = .tuple #[.slice x114_0 x114_0n x114_0c, x114_1] ∧
  bolterlaw10_ApplyChain_b6 R origin_7 z_8 z_8n z_8c zs_9 zs_9n zs_9c ds_10 ds_10n ds_10c x114_0 x114_0n x114_0c x114_1 I1 S1
def bolterlaw10_ApplyChain_b12 (again3 : ByteArray → Option Addr → Nat → Nat → Option Addr → Nat → Nat → Option Addr → Nat → Nat → Option Addr → Nat → Nat → Int → Int → IMem → SH → Prop) (again11 : ByteArray → Option Addr → Nat → Nat → Option Addr → Nat → Nat → Option Addr → Nat → Nat → Option Addr → Nat → Nat → Option Addr → Nat → Nat → Addr → Option Addr → Nat → Nat → Int → Int → Option Addr → Nat → Nat → Int → Int → IMem → SH → Prop) (R : Value → IMem → SH → Prop) (origin_7 : ByteArray) (z_8 : Option Addr) (z_8n : Nat) (z_8c : Nat) (zs_9 : Option Addr) (zs_9n : Nat) (zs_9c : Nat) (ds_10 : Option Addr) (ds_10n : Nat) (ds_10c : Nat) (next_13 : Option Addr) (next_13n : Nat) (next_13c : Nat) (fresh_15 : Option Addr) (fresh_15n : Nat) (fresh_15c : Nat) (d_16 : Addr) (x34 : Option Addr) (x34n : Nat) (x34c : Nat) (x35 : Int) (x36 : Int) (x69 : Option Addr) (x69n : Nat) (x69c : Nat) (x70 : Int) (x71 : Int) (I : IMem) (S : SH) : Prop :=
  again11 origin_7 z_8 z_8n z_8c zs_9 zs_9n zs_9c ds_10 ds_10n ds_10c next_13 next_13n next_13c fresh_15 fresh_15n fresh_15c d_16 x34 x34n x34c x35 x36 x69 x69n x69c x70 (IntKind.wrap .i64 (x71 + (1 : Int))) I S
def bolterlaw10_ApplyChain_b16 (again3 : ByteArray → Option Addr → Nat → Nat → Option Addr → Nat → Nat → Option Addr → Nat → Nat → Option Addr → Nat → Nat → Int → Int → IMem → SH → Prop) (again15 : ByteArray → Option Addr → Nat → Nat → Option Addr → Nat → Nat → Option Addr → Nat → Nat → Option Addr → Nat → Nat → Addr → Option Addr → Nat → Nat → Int → Int → Option Addr → Nat → Nat → Int → Int → IMem → SH → Prop) (R : Value → IMem → SH → Prop) (origin_7 : ByteArray) (z_8 : Option Addr) (z_8n : Nat) (z_8c : Nat) (zs_9 : Option Addr) (zs_9n : Nat) (zs_9c : Nat) (ds_10 : Option Addr) (ds_10n : Nat) (ds_10c : Nat) (next_13 : Option Addr) (next_13n : Nat) (next_13c : Nat) (d_16 : Addr) (x34 : Option Addr) (x34n : Nat) (x34c : Nat) (x35 : Int) (x36 : Int) (x85 : Option Addr) (x85n : Nat) (x85c : Nat) (x86 : Int) (x87 : Int) (I : IMem) (S : SH) : Prop :=
  again15 origin_7 z_8 z_8n z_8c zs_9 zs_9n zs_9c ds_10 ds_10n ds_10c next_13 next_13n next_13c d_16 x34 x34n x34c x35 x36 x85 x85n x85c x86 (IntKind.wrap .i64 (x87 + (1 : Int))) I S
def bolterlaw10_ApplyChain_b18 (again3 : ByteArray → Option Addr → Nat → Nat → Option Addr → Nat → Nat → Option Addr → Nat → Nat → Option Addr → Nat → Nat → Int → Int → IMem → SH → Prop) (R : Value → IMem → SH → Prop) (origin_7 : ByteArray) (z_8 : Option Addr) (z_8n : Nat) (z_8c : Nat) (zs_9 : Option Addr) (zs_9n : Nat) (zs_9c : Nat) (ds_10 : Option Addr) (ds_10n : Nat) (ds_10c : Nat) (x34 : Option Addr) (x34n : Nat) (x34c : Nat) (x35 : Int) (x36 : Int) (I : IMem) (S : SH) : Prop :=
  again3 origin_7 z_8 z_8n z_8c zs_9 zs_9n zs_9c ds_10 ds_10n ds_10c x34 x34n x34c x35 (IntKind.wrap .i64 (x36 + (1 : Int))) I S
def bolterlaw10_ApplyChain_b17 (again3 : ByteArray → Option Addr → Nat → Nat → Option Addr → Nat → Nat → Option Addr → Nat → Nat → Option Addr → Nat → Nat → Int → Int → IMem → SH → Prop) (R : Value → IMem → SH → Prop) (origin_7 : ByteArray) (z_8 : Option Addr) (z_8n : Nat) (z_8c : Nat) (zs_9 : Option Addr) (zs_9n : Nat) (zs_9c : Nat) (ds_10 : Option Addr) (ds_10n : Nat) (ds_10c : Nat) (next_13 : Option Addr) (next_13n : Nat) (next_13c : Nat) (d_16 : Addr) (x34 : Option Addr) (x34n : Nat) (x34c : Nat) (x35 : Int) (x36 : Int) (I : IMem) (S : SH) : Prop :=
  ∃ F1 : SH, Keep I F1 I S ∧
  ∃ x106_0, Cell I F1 d_16 (.string x106_0) ∧
  ∃ x106_1, Cell I F1 (d_16.add 1) (.int .u16 x106_1) ∧
  ∃ x106_2, Cell I F1 (d_16.add 2) (.int .u32 x106_2) ∧
  ∃ x106_3, Cell I F1 (d_16.add 3) (.string x106_3) ∧
  ∃ x106_4, Cell I F1 (d_16.add 4) (.string x106_4) ∧
  ∃ x106_5, Cell I F1 (d_16.add 5) (.int .u16 x106_5) ∧
  ∃ x106_6, Cell I F1 (d_16.add 6) (.int .u32 x106_6) ∧
  ∃ x106_7, Cell I F1 (d_16.add 7) (.string x106_7) ∧
  ∃ x106_8 x106_8n x106_8c, Cell I F1 (d_16.add 8) (.slice x106_8 x106_8n x106_8c) ∧
  ∃ x106_9 x106_9n x106_9c, Cell I F1 (d_16.add 9) (.slice x106_9 x106_9n x106_9c) ∧
  (∀ b103 : Nat,
  Keep I F1 I ((b103, .cells #[.slice next_13 next_13n next_13c] 30 (0, 0)) :: S) ∧
  (AppG 30 1 24 [.slice none 0 0] (some (.slice 30)) I ((b103, .cells #[.slice next_13 next_13n next_13c] 30 (0, 0)) :: S) (.slice zs_9 zs_9n zs_9c) (.slice (some ⟨b103, 0, none⟩) 1 1) fun x104 x104n x104c S1 =>
  Keep I F1 I S1 ∧
  ∀ b107 : Nat,
  AppG 52 10 128 [.string ⟨#[]⟩, .int .u16 0, .int .u32 0, .string ⟨#[]⟩, .string ⟨#[]⟩, .int .u16 0, .int .u32 0, .string ⟨#[]⟩, .slice none 0 0, .slice none 0 0] (some (.slice 52)) I ((b107, .cells #[.string x106_0, .int .u16 x106_1, .int .u32 x106_2, .string x106_3, .string x106_4, .int .u16 x106_5, .int .u32 x106_6, .string x106_7, .slice x106_8 x106_8n x106_8c, .slice x106_9 x106_9n x106_9c] 52 (0, 0)) :: S1) (.slice ds_10 ds_10n ds_10c) (.slice (some ⟨b107, 0, none⟩) 1 1) fun x108 x108n x108c S1' =>
  bolterlaw10_ApplyChain_b18 again3 R origin_7 z_8 z_8n z_8c x104 x104n x104c x108 x108n x108c x34 x34n x34c x35 x36 I S1') ∧
  (∀ b107' : Nat,
  AppG 30 1 24 [.slice none 0 0] (some (.slice 30)) I ((b107', .cells #[.string x106_0, .int .u16 x106_1, .int .u32 x106_2, .string x106_3, .string x106_4, .int .u16 x106_5, .int .u32 x106_6, .string x106_7, .slice x106_8 x106_8n x106_8c, .slice x106_9 x106_9n x106_9c] 52 (0, 0)) :: ((b103, .cells #[.slice next_13 next_13n next_13c] 30 (0, 0)) :: S)) (.slice zs_9 zs_9n zs_9c) (.slice (some ⟨b103, 0, none⟩) 1 1) fun x104' x104'n x104'c S1'' =>
  Keep I F1 I S1'' ∧
  AppG 52 10 128 [.string ⟨#[]⟩, .int .u16 0, .int .u32 0, .string ⟨#[]⟩, .string ⟨#[]⟩, .int .u16 0, .int .u32 0, .string ⟨#[]⟩, .slice none 0 0, .slice none 0 0] (some (.slice 52)) I S1'' (.slice ds_10 ds_10n ds_10c) (.slice (some ⟨b107', 0, none⟩) 1 1) fun x108' x108'n x108'c S1_r3 =>
  bolterlaw10_ApplyChain_b18 again3 R origin_7 z_8 z_8n z_8c x104' x104'n x104'c x108' x108'n x108'c x34 x34n x34c x35 x36 I S1_r3)) ∧
  (∀ b107'' : Nat,
  ∀ b103' : Nat,
  Keep I F1 I ((b103', .cells #[.slice next_13 next_13n next_13c] 30 (0, 0)) :: ((b107'', .cells #[.string x106_0, .int .u16 x106_1, .int .u32 x106_2, .string x106_3, .string x106_4, .int .u16 x106_5, .int .u32 x106_6, .string x106_7, .slice x106_8 x106_8n x106_8c, .slice x106_9 x106_9n x106_9c] 52 (0, 0)) :: S)) ∧
  AppG 30 1 24 [.slice none 0 0] (some (.slice 30)) I ((b103', .cells #[.slice next_13 next_13n next_13c] 30 (0, 0)) :: ((b107'', .cells #[.string x106_0, .int .u16 x106_1, .int .u32 x106_2, .string x106_3, .string x106_4, .int .u16 x106_5, .int .u32 x106_6, .string x106_7, .slice x106_8 x106_8n x106_8c, .slice x106_9 x106_9n x106_9c] 52 (0, 0)) :: S)) (.slice zs_9 zs_9n zs_9c) (.slice (some ⟨b103', 0, none⟩) 1 1) fun x104'' x104''n x104''c S1_r4 =>
  Keep I F1 I S1_r4 ∧
  AppG 52 10 128 [.string ⟨#[]⟩, .int .u16 0, .int .u32 0, .string ⟨#[]⟩, .string ⟨#[]⟩, .int .u16 0, .int .u32 0, .string ⟨#[]⟩, .slice none 0 0, .slice none 0 0] (some (.slice 52)) I S1_r4 (.slice ds_10 ds_10n ds_10c) (.slice (some ⟨b107'', 0, none⟩) 1 1) fun x108'' x108''n x108''c S1_r5 =>
  bolterlaw10_ApplyChain_b18 again3 R origin_7 z_8 z_8n z_8c x104'' x104''n x104''c x108'' x108''n x108''c x34 x34n x34c x35 x36 I S1_r5)
def bolterlaw10_ApplyChain_l15 (again3 : ByteArray → Option Addr → Nat → Nat → Option Addr → Nat → Nat → Option Addr → Nat → Nat → Option Addr → Nat → Nat → Int → Int → IMem → SH → Prop) (again15 : ByteArray → Option Addr → Nat → Nat → Option Addr → Nat → Nat → Option Addr → Nat → Nat → Option Addr → Nat → Nat → Addr → Option Addr → Nat → Nat → Int → Int → Option Addr → Nat → Nat → Int → Int → IMem → SH → Prop) (R : Value → IMem → SH → Prop) (origin_7 : ByteArray) (z_8 : Option Addr) (z_8n : Nat) (z_8c : Nat) (zs_9 : Option Addr) (zs_9n : Nat) (zs_9c : Nat) (ds_10 : Option Addr) (ds_10n : Nat) (ds_10c : Nat) (next_13 : Option Addr) (next_13n : Nat) (next_13c : Nat) (d_16 : Addr) (x34 : Option Addr) (x34n : Nat) (x34c : Nat) (x35 : Int) (x36 : Int) (x85 : Option Addr) (x85n : Nat) (x85c : Nat) (x86 : Int) (x87 : Int) (I : IMem) (S : SH) : Prop :=
  bcase (decide (x87 < x86))
    (ptrP x85 fun x89 => (0 : Int) ≤ x87 ∧ x87 < (x85n : Int) ∧
    ∃ x90_0, Cell I S (x89.add (x87.toNat * 4)) (.string x90_0) ∧
    ∃ x90_1, Cell I S ((x89.add (x87.toNat * 4)).add 1) (.int .u16 x90_1) ∧
    ∃ x90_2, Cell I S ((x89.add (x87.toNat * 4)).add 2) (.int .u32 x90_2) ∧
    ∃ x90_3, Cell I S ((x89.add (x87.toNat * 4)).add 3) (.string x90_3) ∧
    ∀ b20 : Nat,
    StP ((b20, .cells #[.string ⟨#[]⟩, .int .u16 0, .int .u32 0, .string ⟨#[]⟩] 36 (0, 0)) :: S) ⟨b20, 0, none⟩ [.string x90_0, .int .u16 x90_1, .int .u32 x90_2, .string x90_3] fun S1 =>
    ∃ x92, Cell I S1 ⟨b20, 1, none⟩ (.int .u16 x92) ∧
    bcase (x92 != (6 : Int))
      (∃ x95 x95n x95c, Cell I S1 (d_16.add 9) (.slice x95 x95n x95c) ∧
      ∃ x96_0, Cell I S1 ⟨b20, 0, none⟩ (.string x96_0) ∧
      ∃ x96_1, Cell I S1 ⟨b20, 1, none⟩ (.int .u16 x96_1) ∧
      ∃ x96_2, Cell I S1 ⟨b20, 2, none⟩ (.int .u32 x96_2) ∧
      ∃ x96_3, Cell I S1 ⟨b20, 3, none⟩ (.string x96_3) ∧
      ∀ b97 : Nat,
      AppG 36 4 40 [.string ⟨#[]⟩, .int .u16 0, .int .u32 0, .string ⟨#[]⟩] (some (.slice 36)) I ((b97, .cells #[.string x96_0, .int .u16 x96_1, .int .u32 x96_2, .string x96_3] 36 (0, 0)) :: S1) (.slice x95 x95n x95c) (.slice (some ⟨b97, 0, none⟩) 1 1) fun x98 x98n x98c S1' =>
      StP S1' (d_16.add 9) [.slice x98 x98n x98c] fun S1'' =>
      bolterlaw10_ApplyChain_b16 again3 again15 R origin_7 z_8 z_8n z_8c zs_9 zs_9n zs_9c ds_10 ds_10n ds_10c next_13 next_13n next_13c d_16 x34 x34n x34c x35 x36 x85 x85n x85c x86 x87 I S1'')
      (bolterlaw10_ApplyChain_b16 again3 again15 R origin_7 z_8 z_8n z_8c zs_9 zs_9n zs_9c ds_10 ds_10n ds_10c next_13 next_13n next_13c d_16 x34 x34n x34c x35 x36 x85 x85n x85c x86 x87 I S1))
    (bolterlaw10_ApplyChain_b17 again3 R origin_7 z_8 z_8n z_8c zs_9 zs_9n zs_9c ds_10 ds_10n ds_10c next_13 next_13n next_13c d_16 x34 x34n x34c x35 x36 I S)
def bolterlaw10_ApplyChain_b14 (again3 : ByteArray → Option Addr → Nat → Nat → Option Addr → Nat → Nat → Option Addr → Nat → Nat → Option Addr → Nat → Nat → Int → Int → IMem → SH → Prop) (R : Value → IMem → SH → Prop) (origin_7 : ByteArray) (z_8 : Option Addr) (z_8n : Nat) (z_8c : Nat) (zs_9 : Option Addr) (zs_9n : Nat) (zs_9c : Nat) (ds_10 : Option Addr) (ds_10n : Nat) (ds_10c : Nat) (next_13 : Option Addr) (next_13n : Nat) (next_13c : Nat) (d_16 : Addr) (x34 : Option Addr) (x34n : Nat) (x34c : Nat) (x35 : Int) (x36 : Int) (x85 : Option Addr) (x85n : Nat) (x85c : Nat) (x86 : Int) (x87 : Int) (I : IMem) (S : SH) : Prop :=
  ∃ (Inv : Nat → ByteArray → Option Addr → Nat → Nat → Option Addr → Nat → Nat → Option Addr → Nat → Nat → Option Addr → Nat → Nat → Addr → Option Addr → Nat → Nat → Int → Int → Option Addr → Nat → Nat → Int → Int → IMem → SH → Prop) (m : Nat), Inv m origin_7 z_8 z_8n z_8c zs_9 zs_9n zs_9c ds_10 ds_10n ds_10c next_13 next_13n next_13c d_16 x34 x34n x34c x35 x36 x85 x85n x85c x86 x87 I S ∧
    ∀ (m : Nat) (origin_7 : ByteArray) (z_8 : Option Addr) (z_8n : Nat) (z_8c : Nat) (zs_9 : Option Addr) (zs_9n : Nat) (zs_9c : Nat) (ds_10 : Option Addr) (ds_10n : Nat) (ds_10c : Nat) (next_13 : Option Addr) (next_13n : Nat) (next_13c : Nat) (d_16 : Addr) (x34 : Option Addr) (x34n : Nat) (x34c : Nat) (x35 : Int) (x36 : Int) (x85 : Option Addr) (x85n : Nat) (x85c : Nat) (x86 : Int) (x87 : Int) (J : IMem) (T : SH), I.le J → Inv m origin_7 z_8 z_8n z_8c zs_9 zs_9n zs_9c ds_10 ds_10n ds_10c next_13 next_13n next_13c d_16 x34 x34n x34c x35 x36 x85 x85n x85c x86 x87 J T →
      bolterlaw10_ApplyChain_l15 again3 (fun origin_7 z_8 z_8n z_8c zs_9 zs_9n zs_9c ds_10 ds_10n ds_10c next_13 next_13n next_13c d_16 x34 x34n x34c x35 x36 x85 x85n x85c x86 x87 I S => ∃ m', m' < m ∧ Inv m' origin_7 z_8 z_8n z_8c zs_9 zs_9n zs_9c ds_10 ds_10n ds_10c next_13 next_13n next_13c d_16 x34 x34n x34c x35 x36 x85 x85n x85c x86 x87 I S) R origin_7 z_8 z_8n z_8c zs_9 zs_9n zs_9c ds_10 ds_10n ds_10c next_13 next_13n next_13c d_16 x34 x34n x34c x35 x36 x85 x85n x85c x86 x87 J T
def bolterlaw10_ApplyChain_b13 (again3 : ByteArray → Option Addr → Nat → Nat → Option Addr → Nat → Nat → Option Addr → Nat → Nat → Option Addr → Nat → Nat → Int → Int → IMem → SH → Prop) (R : Value → IMem → SH → Prop) (origin_7 : ByteArray) (z_8 : Option Addr) (z_8n : Nat) (z_8c : Nat) (zs_9 : Option Addr) (zs_9n : Nat) (zs_9c : Nat) (ds_10 : Option Addr) (ds_10n : Nat) (ds_10c : Nat) (next_13 : Option Addr) (next_13n : Nat) (next_13c : Nat) (fresh_15 : Option Addr) (fresh_15n : Nat) (fresh_15c : Nat) (d_16 : Addr) (x34 : Option Addr) (x34n : Nat) (x34c : Nat) (x35 : Int) (x36 : Int) (I : IMem) (S : SH) : Prop :=
  bolterlaw10_ApplyChain_b14 again3 R origin_7 z_8 z_8n z_8c zs_9 zs_9n zs_9c ds_10 ds_10n ds_10c next_13 next_13n next_13c d_16 x34 x34n x34c x35 x36 fresh_15 fresh_15n fresh_15c (fresh_15n : Int) 0 I S
def bolterlaw10_ApplyChain_l11 (again3 : ByteArray → Option Addr → Nat → Nat → Option Addr → Nat → Nat → Option Addr → Nat → Nat → Option Addr → Nat → Nat → Int → Int → IMem → SH → Prop) (again11 : ByteArray → Option Addr → Nat → Nat → Option Addr → Nat → Nat → Option Addr → Nat → Nat → Option Addr → Nat → Nat → Option Addr → Nat → Nat → Addr → Option Addr → Nat → Nat → Int → Int → Option Addr → Nat → Nat → Int → Int → IMem → SH → Prop) (R : Value → IMem → SH → Prop) (origin_7 : ByteArray) (z_8 : Option Addr) (z_8n : Nat) (z_8c : Nat) (zs_9 : Option Addr) (zs_9n : Nat) (zs_9c : Nat) (ds_10 : Option Addr) (ds_10n : Nat) (ds_10c : Nat) (next_13 : Option Addr) (next_13n : Nat) (next_13c : Nat) (fresh_15 : Option Addr) (fresh_15n : Nat) (fresh_15c : Nat) (d_16 : Addr) (x34 : Option Addr) (x34n : Nat) (x34c : Nat) (x35 : Int) (x36 : Int) (x69 : Option Addr) (x69n : Nat) (x69c : Nat) (x70 : Int) (x71 : Int) (I : IMem) (S : SH) : Prop :=
  bcase (decide (x71 < x70))
    (ptrP x69 fun x73 => (0 : Int) ≤ x71 ∧ x71 < (x69n : Int) ∧
    ∃ x74_0, Cell I S (x73.add (x71.toNat * 4)) (.string x74_0) ∧
    ∃ x74_1, Cell I S ((x73.add (x71.toNat * 4)).add 1) (.int .u16 x74_1) ∧
    ∃ x74_2, Cell I S ((x73.add (x71.toNat * 4)).add 2) (.int .u32 x74_2) ∧
    ∃ x74_3, Cell I S ((x73.add (x71.toNat * 4)).add 3) (.string x74_3) ∧
    ∀ b18 : Nat,
    StP ((b18, .cells #[.string ⟨#[]⟩, .int .u16 0, .int .u32 0, .string ⟨#[]⟩] 36 (0, 0)) :: S) ⟨b18, 0, none⟩ [.string x74_0, .int .u16 x74_1, .int .u32 x74_2, .string x74_3] fun S1 =>
    ∃ x76, Cell I S1 ⟨b18, 1, none⟩ (.int .u16 x76) ∧
    bcase (x76 != (6 : Int))
      (∃ x79 x79n x79c, Cell I S1 (d_16.add 8) (.slice x79 x79n x79c) ∧
      ∃ x80_0, Cell I S1 ⟨b18, 0, none⟩ (.string x80_0) ∧
      ∃ x80_1, Cell I S1 ⟨b18, 1, none⟩ (.int .u16 x80_1) ∧
      ∃ x80_2, Cell I S1 ⟨b18, 2, none⟩ (.int .u32 x80_2) ∧
      ∃ x80_3, Cell I S1 ⟨b18, 3, none⟩ (.string x80_3) ∧
      ∀ b81 : Nat,
      AppG 36 4 40 [.string ⟨#[]⟩, .int .u16 0, .int .u32 0, .string ⟨#[]⟩] (some (.slice 36)) I ((b81, .cells #[.string x80_0, .int .u16 x80_1, .int .u32 x80_2, .string x80_3] 36 (0, 0)) :: S1) (.slice x79 x79n x79c) (.slice (some ⟨b81, 0, none⟩) 1 1) fun x82 x82n x82c S1' =>
      StP S1' (d_16.add 8) [.slice x82 x82n x82c] fun S1'' =>
      bolterlaw10_ApplyChain_b12 again3 again11 R origin_7 z_8 z_8n z_8c zs_9 zs_9n zs_9c ds_10 ds_10n ds_10c next_13 next_13n next_13c fresh_15 fresh_15n fresh_15c d_16 x34 x34n x34c x35 x36 x69 x69n x69c x70 x71 I S1'')
      (bolterlaw10_ApplyChain_b12 again3 again11 R origin_7 z_8 z_8n z_8c zs_9 zs_9n zs_9c ds_10 ds_10n ds_10c next_13 next_13n next_13c fresh_15 fresh_15n fresh_15c d_16 x34 x34n x34c x35 x36 x69 x69n x69c x70 x71 I S1))
    (bolterlaw10_ApplyChain_b13 again3 R origin_7 z_8 z_8n z_8c zs_9 zs_9n zs_9c ds_10 ds_10n ds_10c next_13 next_13n next_13c fresh_15 fresh_15n fresh_15c d_16 x34 x34n x34c x35 x36 I S)
def bolterlaw10_ApplyChain_b10 (again3 : ByteArray → Option Addr → Nat → Nat → Option Addr → Nat → Nat → Option Addr → Nat → Nat → Option Addr → Nat → Nat → Int → Int → IMem → SH → Prop) (R : Value → IMem → SH → Prop) (origin_7 : ByteArray) (z_8 : Option Addr) (z_8n : Nat) (z_8c : Nat) (zs_9 : Option Addr) (zs_9n : Nat) (zs_9c : Nat) (ds_10 : Option Addr) (ds_10n : Nat) (ds_10c : Nat) (next_13 : Option Addr) (next_13n : Nat) (next_13c : Nat) (fresh_15 : Option Addr) (fresh_15n : Nat) (fresh_15c : Nat) (d_16 : Addr) (x34 : Option Addr) (x34n : Nat) (x34c : Nat) (x35 : Int) (x36 : Int) (x69 : Option Addr) (x69n : Nat) (x69c : Nat) (x70 : Int) (x71 : Int) (I : IMem) (S : SH) : Prop :=
  ∃ (Inv : Nat → ByteArray → Option Addr → Nat → Nat → Option Addr → Nat → Nat → Option Addr → Nat → Nat → Option Addr → Nat → Nat → Option Addr → Nat → Nat → Addr → Option Addr → Nat → Nat → Int → Int → Option Addr → Nat → Nat → Int → Int → IMem → SH → Prop) (m : Nat), Inv m origin_7 z_8 z_8n z_8c zs_9 zs_9n zs_9c ds_10 ds_10n ds_10c next_13 next_13n next_13c fresh_15 fresh_15n fresh_15c d_16 x34 x34n x34c x35 x36 x69 x69n x69c x70 x71 I S ∧
    ∀ (m : Nat) (origin_7 : ByteArray) (z_8 : Option Addr) (z_8n : Nat) (z_8c : Nat) (zs_9 : Option Addr) (zs_9n : Nat) (zs_9c : Nat) (ds_10 : Option Addr) (ds_10n : Nat) (ds_10c : Nat) (next_13 : Option Addr) (next_13n : Nat) (next_13c : Nat) (fresh_15 : Option Addr) (fresh_15n : Nat) (fresh_15c : Nat) (d_16 : Addr) (x34 : Option Addr) (x34n : Nat) (x34c : Nat) (x35 : Int) (x36 : Int) (x69 : Option Addr) (x69n : Nat) (x69c : Nat) (x70 : Int) (x71 : Int) (J : IMem) (T : SH), I.le J → Inv m origin_7 z_8 z_8n z_8c zs_9 zs_9n zs_9c ds_10 ds_10n ds_10c next_13 next_13n next_13c fresh_15 fresh_15n fresh_15c d_16 x34 x34n x34c x35 x36 x69 x69n x69c x70 x71 J T →
      bolterlaw10_ApplyChain_l11 again3 (fun origin_7 z_8 z_8n z_8c zs_9 zs_9n zs_9c ds_10 ds_10n ds_10c next_13 next_13n next_13c fresh_15 fresh_15n fresh_15c d_16 x34 x34n x34c x35 x36 x69 x69n x69c x70 x71 I S => ∃ m', m' < m ∧ Inv m' origin_7 z_8 z_8n z_8c zs_9 zs_9n zs_9c ds_10 ds_10n ds_10c next_13 next_13n next_13c fresh_15 fresh_15n fresh_15c d_16 x34 x34n x34c x35 x36 x69 x69n x69c x70 x71 I S) R origin_7 z_8 z_8n z_8c zs_9 zs_9n zs_9c ds_10 ds_10n ds_10c next_13 next_13n next_13c fresh_15 fresh_15n fresh_15c d_16 x34 x34n x34c x35 x36 x69 x69n x69c x70 x71 J T
def bolterlaw10_ApplyChain_b9 (again3 : ByteArray → Option Addr → Nat → Nat → Option Addr → Nat → Nat → Option Addr → Nat → Nat → Option Addr → Nat → Nat → Int → Int → IMem → SH → Prop) (R : Value → IMem → SH → Prop) (origin_7 : ByteArray) (z_8 : Option Addr) (z_8n : Nat) (z_8c : Nat) (zs_9 : Option Addr) (zs_9n : Nat) (zs_9c : Nat) (ds_10 : Option Addr) (ds_10n : Nat) (ds_10c : Nat) (next_13 : Option Addr) (next_13n : Nat) (next_13c : Nat) (gone_14 : Option Addr) (gone_14n : Nat) (gone_14c : Nat) (fresh_15 : Option Addr) (fresh_15n : Nat) (fresh_15c : Nat) (d_16 : Addr) (x34 : Option Addr) (x34n : Nat) (x34c : Nat) (x35 : Int) (x36 : Int) (I : IMem) (S : SH) : Prop :=
  bolterlaw10_ApplyChain_b10 again3 R origin_7 z_8 z_8n z_8c zs_9 zs_9n zs_9c ds_10 ds_10n ds_10c next_13 next_13n next_13c fresh_15 fresh_15n fresh_15c d_16 x34 x34n x34c x35 x36 gone_14 gone_14n gone_14c (gone_14n : Int) 0 I S
def bolterlaw10_ApplyChain_b4 (again3 : ByteArray → Option Addr → Nat → Nat → Option Addr → Nat → Nat → Option Addr → Nat → Nat → Option Addr → Nat → Nat → Int → Int → IMem → SH → Prop) (R : Value → IMem → SH → Prop) (origin_7 : ByteArray) (z_8 : Option Addr) (z_8n : Nat) (z_8c : Nat) (zs_9 : Option Addr) (zs_9n : Nat) (zs_9c : Nat) (ds_10 : Option Addr) (ds_10n : Nat) (ds_10c : Nat) (x34 : Option Addr) (x34n : Nat) (x34c : Nat) (x35 : Int) (x36 : Int) (I : IMem) (S : SH) : Prop :=
  ptrP x34 fun x39 => (0 : Int) ≤ x36 ∧ x36 < (x34n : Int) ∧
  ∃ x40 x40n x40c, Cell I S (x39.add (x36.toNat * 1)) (.slice x40 x40n x40c) ∧
  bcase (x36 == (4 : Int))
    (bolterlaw10_ApplyChain_b5 R origin_7 z_8 z_8n z_8c zs_9 zs_9n zs_9c ds_10 ds_10n ds_10c I S)
    (Runs Tryd.prog 20 #[.string origin_7, .int .u32 (IntKind.wrap .u32 (IntKind.wrap .i64 (x36 + (2 : Int)))), .slice x40 x40n x40c, .int .i64 10] I S fun v I1 S1 => ∃ x48 x48n x48c, v = .slice x48 x48n x48c ∧
    ptrP zs_9 fun x52 => (0 : Int) ≤ x36 ∧ x36 < (zs_9n : Int) ∧
    ∃ x53 x53n x53c, Cell I1 S1 (x52.add (x36.toNat * 1)) (.slice x53 x53n x53c) ∧
    Runs Tryd.prog 25 #[.slice x53 x53n x53c, .slice x48 x48n x48c] I1 S1 fun v' I1' S1' => ∃ x55_0 x55_0n x55_0c x55_1 x55_1n x55_1c, v' = .tuple #[.slice x55_0 x55_0n x55_0c, .slice x55_1 x55_1n x55_1c] ∧
    Runs Tryd.prog 21 #[.string origin_7, .int .u32 (IntKind.wrap .u32 (IntKind.wrap .i64 (x36 + (1 : Int))))] I1' S1' fun v'' I1'' S1'' => ∃ x62_0 x62_1 x62_2 x62_3, v'' = .agg #[.string x62_0, .int .u16 x62_1, .int .u32 x62_2, .string x62_3] ∧
    Runs Tryd.prog 21 #[.string origin_7, .int .u32 (IntKind.wrap .u32 (IntKind.wrap .i64 (x36 + (2 : Int))))] I1'' S1'' fun v_r3 I1_r3 S1_r3 => ∃ x67_0 x67_1 x67_2 x67_3, v_r3 = .agg #[.string x67_0, .int .u16 x67_1, .int .u32 x67_2, .string x67_3] ∧
    ∀ b16 : Nat,
    StP ((b16, .cells #[.string ⟨#[]⟩, .int .u16 0, .int .u32 0, .string ⟨#[]⟩, .string ⟨#[]⟩, .int .u16 0, .int .u32 0, .string ⟨#[]⟩, .slice none 0 0, .slice none 0 0] 52 (0, 0)) :: S1_r3) ⟨b16, 0, none⟩ [.string x62_0, .int .u16 x62_1, .int .u32 x62_2, .string x62_3, .string x67_0, .int .u16 x67_1, .int .u32 x67_2, .string x67_3, .slice none 0 0, .slice none 0 0] fun S1_r4 =>
    bolterlaw10_ApplyChain_b9 again3 R origin_7 z_8 z_8n z_8c zs_9 zs_9n zs_9c ds_10 ds_10n ds_10c x48 x48n x48c x55_0 x55_0n x55_0c x55_1 x55_1n x55_1c ⟨b16, 0, none⟩ x34 x34n x34c x35 x36 I1_r3 S1_r4)
def bolterlaw10_ApplyChain_l3 (again3 : ByteArray → Option Addr → Nat → Nat → Option Addr → Nat → Nat → Option Addr → Nat → Nat → Option Addr → Nat → Nat → Int → Int → IMem → SH → Prop) (R : Value → IMem → SH → Prop) (origin_7 : ByteArray) (z_8 : Option Addr) (z_8n : Nat) (z_8c : Nat) (zs_9 : Option Addr) (zs_9n : Nat) (zs_9c : Nat) (ds_10 : Option Addr) (ds_10n : Nat) (ds_10c : Nat) (x34 : Option Addr) (x34n : Nat) (x34c : Nat) (x35 : Int) (x36 : Int) (I : IMem) (S : SH) : Prop :=
  bcase (decide (x36 < x35))
    (bolterlaw10_ApplyChain_b4 again3 R origin_7 z_8 z_8n z_8c zs_9 zs_9n zs_9c ds_10 ds_10n ds_10c x34 x34n x34c x35 x36 I S)
    (bolterlaw10_ApplyChain_b5 R origin_7 z_8 z_8n z_8c zs_9 zs_9n zs_9c ds_10 ds_10n ds_10c I S)
def bolterlaw10_ApplyChain_b2 (R : Value → IMem → SH → Prop) (origin_7 : ByteArray) (z_8 : Option Addr) (z_8n : Nat) (z_8c : Nat) (zs_9 : Option Addr) (zs_9n : Nat) (zs_9c : Nat) (ds_10 : Option Addr) (ds_10n : Nat) (ds_10c : Nat) (x34 : Option Addr) (x34n : Nat) (x34c : Nat) (x35 : Int) (x36 : Int) (I : IMem) (S : SH) : Prop :=
  ∃ (Inv : Nat → ByteArray → Option Addr → Nat → Nat → Option Addr → Nat → Nat → Option Addr → Nat → Nat → Option Addr → Nat → Nat → Int → Int → IMem → SH → Prop) (m : Nat), Inv m origin_7 z_8 z_8n z_8c zs_9 zs_9n zs_9c ds_10 ds_10n ds_10c x34 x34n x34c x35 x36 I S ∧
    ∀ (m : Nat) (origin_7 : ByteArray) (z_8 : Option Addr) (z_8n : Nat) (z_8c : Nat) (zs_9 : Option Addr) (zs_9n : Nat) (zs_9c : Nat) (ds_10 : Option Addr) (ds_10n : Nat) (ds_10c : Nat) (x34 : Option Addr) (x34n : Nat) (x34c : Nat) (x35 : Int) (x36 : Int) (J : IMem) (T : SH), I.le J → Inv m origin_7 z_8 z_8n z_8c zs_9 zs_9n zs_9c ds_10 ds_10n ds_10c x34 x34n x34c x35 x36 J T →
      bolterlaw10_ApplyChain_l3 (fun origin_7 z_8 z_8n z_8c zs_9 zs_9n zs_9c ds_10 ds_10n ds_10c x34 x34n x34c x35 x36 I S => ∃ m', m' < m ∧ Inv m' origin_7 z_8 z_8n z_8c zs_9 zs_9n zs_9c ds_10 ds_10n ds_10c x34 x34n x34c x35 x36 I S) R origin_7 z_8 z_8n z_8c zs_9 zs_9n zs_9c ds_10 ds_10n ds_10c x34 x34n x34c x35 x36 J T
def bolterlaw10_ApplyChain_b1 (R : Value → IMem → SH → Prop) (parts_2 : Option Addr) (parts_2n : Nat) (parts_2c : Nat) (origin_7 : ByteArray) (z_8 : Option Addr) (z_8n : Nat) (z_8c : Nat) (zs_9 : Option Addr) (zs_9n : Nat) (zs_9c : Nat) (ds_10 : Option Addr) (ds_10n : Nat) (ds_10c : Nat) (I : IMem) (S : SH) : Prop :=
  bolterlaw10_ApplyChain_b2 R origin_7 z_8 z_8n z_8c zs_9 zs_9n zs_9c ds_10 ds_10n ds_10c parts_2 parts_2n parts_2c (parts_2n : Int) 0 I S
def bolterlaw10_ApplyChain (R : Value → IMem → SH → Prop) (o_0 : Int) (as_1 : Option Addr) (as_1n : Nat) (as_1c : Nat) (parts_2 : Option Addr) (parts_2n : Nat) (parts_2c : Nat) (I : IMem) (S : SH) : Prop :=
  Runs Tryd.prog 18 #[] I S fun v I1 S1 => ∃ x25, v = .bool x25 ∧
  bcase (!x25)
    (R (.bool false) I1 S1)
    (Runs Tryd.prog 19 #[.int .u8 o_0] I1 S1 fun v' I1' S1' => ∃ x28, v' = .string x28 ∧
    Runs Tryd.prog 20 #[.string x28, .int .u32 1, .slice as_1 as_1n as_1c, .int .i64 10] I1' S1' fun v'' I1'' S1'' => ∃ x31 x31n x31c, v'' = .slice x31 x31n x31c ∧
    ∀ b33 : Nat,
    bolterlaw10_ApplyChain_b1 R parts_2 parts_2n parts_2c x28 x31 x31n x31c (some ⟨b33, 0, none⟩) 1 1 none 0 0 I1'' ((b33, .cells #[.slice x31 x31n x31c] 30 (0, 0)) :: S1''))
theorem bolterlaw10_ApplyChain_fn (R : Value → IMem → SH → Prop) (o_0 : Int) (as_1 : Option Addr) (as_1n : Nat) (as_1c : Nat) (parts_2 : Option Addr) (parts_2n : Nat) (parts_2c : Nat) (I : IMem) (S : SH) (h : bolterlaw10_ApplyChain R o_0 as_1 as_1n as_1c parts_2 parts_2n parts_2c I S) :
    Runs Tryd.prog 7 #[.int .u8 o_0, .slice as_1 as_1n as_1c, .slice parts_2 parts_2n parts_2c] I S R := by
  refine Runs.of_wp (args := [.int .u8 o_0, .slice as_1 as_1n as_1c, .slice parts_2 parts_2n parts_2c]) (c := bolterlaw10_ApplyChain_code) Tryd.func7 (by kernel_rfl) (by kernel_rfl) ?_
  refine WP.cut 6 (fun l I S => asSl (l 2) fun parts_2 parts_2n parts_2c => asStr (l 7) fun origin_7 => asSl (l 8) fun z_8 z_8n z_8c => asSl (l 9) fun zs_9 zs_9n zs_9c => asSl (l 10) fun ds_10 ds_10n ds_10c => bolterlaw10_ApplyChain_b1 R parts_2 parts_2n parts_2c origin_7 z_8 z_8n z_8c zs_9 zs_9n zs_9c ds_10 ds_10n ds_10c I S) (cast (by kernel_rfl) h) ?_
  clear h
  intro l I S _ h
  obtain ⟨parts_2, parts_2n, parts_2c, e2, h⟩ := asSl_e h
  obtain ⟨origin_7, e7, h⟩ := asStr_e h
  obtain ⟨z_8, z_8n, z_8c, e8, h⟩ := asSl_e h
  obtain ⟨zs_9, zs_9n, zs_9c, e9, h⟩ := asSl_e h
  obtain ⟨ds_10, ds_10n, ds_10c, e10, h⟩ := asSl_e h
  rw [upd_eta e2, upd_eta e7, upd_eta e8, upd_eta e9, upd_eta e10]
  refine WP.seqY (by kernel_rfl) (fun l I S => asStr (l 7) fun origin_7 => asSl (l 8) fun z_8 z_8n z_8c => asSl (l 9) fun zs_9 zs_9n zs_9c => asSl (l 10) fun ds_10 ds_10n ds_10c => bolterlaw10_ApplyChain_b5 R origin_7 z_8 z_8n z_8c zs_9 zs_9n zs_9c ds_10 ds_10n ds_10c I S) ?_ ?_
  ·
    refine WP.cut 1 (fun l I S => asStr (l 7) fun origin_7 => asSl (l 8) fun z_8 z_8n z_8c => asSl (l 9) fun zs_9 zs_9n zs_9c => asSl (l 10) fun ds_10 ds_10n ds_10c => asSl (l 34) fun x34 x34n x34c => asI .i64 (l 35) fun x35 => asI .i64 (l 36) fun x36 => bolterlaw10_ApplyChain_b2 R origin_7 z_8 z_8n z_8c zs_9 zs_9n zs_9c ds_10 ds_10n ds_10c x34 x34n x34c x35 x36 I S) (cast (by kernel_rfl) h) ?_
    clear h
    intro l I S _ h
    obtain ⟨origin_7, e7, h⟩ := asStr_e h
    obtain ⟨z_8, z_8n, z_8c, e8, h⟩ := asSl_e h
    obtain ⟨zs_9, zs_9n, zs_9c, e9, h⟩ := asSl_e h
    obtain ⟨ds_10, ds_10n, ds_10c, e10, h⟩ := asSl_e h
    obtain ⟨x34, x34n, x34c, e34, h⟩ := asSl_e h
    obtain ⟨x35, e35, h⟩ := asI_e h
    obtain ⟨x36, e36, h⟩ := asI_e h
    rw [upd_eta e7, upd_eta e8, upd_eta e9, upd_eta e10, upd_eta e34, upd_eta e35, upd_eta e36]
    refine WP.block' (by kernel_rfl) ?_
    obtain ⟨Inv_again3, m_again3, h0, hr⟩ := h
    refine WP.loop' (by kernel_rfl) (fun m_again3 => fun l I S => asStr (l 7) fun origin_7 => asSl (l 8) fun z_8 z_8n z_8c => asSl (l 9) fun zs_9 zs_9n zs_9c => asSl (l 10) fun ds_10 ds_10n ds_10c => asSl (l 34) fun x34 x34n x34c => asI .i64 (l 35) fun x35 => asI .i64 (l 36) fun x36 => Inv_again3 m_again3 origin_7 z_8 z_8n z_8c zs_9 zs_9n zs_9c ds_10 ds_10n ds_10c x34 x34n x34c x35 x36 I S) m_again3 (cast (by kernel_rfl) h0) ?_
    clear h0
    intro m_again3 l I S hle h
    obtain ⟨origin_7, e7, h⟩ := asStr_e h
    obtain ⟨z_8, z_8n, z_8c, e8, h⟩ := asSl_e h
    obtain ⟨zs_9, zs_9n, zs_9c, e9, h⟩ := asSl_e h
    obtain ⟨ds_10, ds_10n, ds_10c, e10, h⟩ := asSl_e h
    obtain ⟨x34, x34n, x34c, e34, h⟩ := asSl_e h
    obtain ⟨x35, e35, h⟩ := asI_e h
    obtain ⟨x36, e36, h⟩ := asI_e h
    rw [upd_eta e7, upd_eta e8, upd_eta e9, upd_eta e10, upd_eta e34, upd_eta e35, upd_eta e36]
    have h := hr m_again3 origin_7 z_8 z_8n z_8c zs_9 zs_9n zs_9c ds_10 ds_10n ds_10c x34 x34n x34c x35 x36 I S hle h
    clear hr hle
    refine WP.cut 2 (fun l I S => asStr (l 7) fun origin_7 => asSl (l 8) fun z_8 z_8n z_8c => asSl (l 9) fun zs_9 zs_9n zs_9c => asSl (l 10) fun ds_10 ds_10n ds_10c => asSl (l 34) fun x34 x34n x34c => asI .i64 (l 35) fun x35 => asI .i64 (l 36) fun x36 => bolterlaw10_ApplyChain_b4 (fun origin_7 z_8 z_8n z_8c zs_9 zs_9n zs_9c ds_10 ds_10n ds_10c x34 x34n x34c x35 x36 I S => ∃ m', m' < m_again3 ∧ Inv_again3 m' origin_7 z_8 z_8n z_8c zs_9 zs_9n zs_9c ds_10 ds_10n ds_10c x34 x34n x34c x35 x36 I S) R origin_7 z_8 z_8n z_8c zs_9 zs_9n zs_9c ds_10 ds_10n ds_10c x34 x34n x34c x35 x36 I S) (cast (by kernel_rfl) h) ?_
    clear h
    intro l I S _ h
    obtain ⟨origin_7, e7, h⟩ := asStr_e h
    obtain ⟨z_8, z_8n, z_8c, e8, h⟩ := asSl_e h
    obtain ⟨zs_9, zs_9n, zs_9c, e9, h⟩ := asSl_e h
    obtain ⟨ds_10, ds_10n, ds_10c, e10, h⟩ := asSl_e h
    obtain ⟨x34, x34n, x34c, e34, h⟩ := asSl_e h
    obtain ⟨x35, e35, h⟩ := asI_e h
    obtain ⟨x36, e36, h⟩ := asI_e h
    rw [upd_eta e7, upd_eta e8, upd_eta e9, upd_eta e10, upd_eta e34, upd_eta e35, upd_eta e36]
    refine WP.seqY (by kernel_rfl) (fun l I S => asStr (l 7) fun origin_7 => asSl (l 8) fun z_8 z_8n z_8c => asSl (l 9) fun zs_9 zs_9n zs_9c => asSl (l 10) fun ds_10 ds_10n ds_10c => asSl (l 34) fun x34 x34n x34c => asI .i64 (l 35) fun x35 => asI .i64 (l 36) fun x36 => bolterlaw10_ApplyChain_b18 (fun origin_7 z_8 z_8n z_8c zs_9 zs_9n zs_9c ds_10 ds_10n ds_10c x34 x34n x34c x35 x36 I S => ∃ m', m' < m_again3 ∧ Inv_again3 m' origin_7 z_8 z_8n z_8c zs_9 zs_9n zs_9c ds_10 ds_10n ds_10c x34 x34n x34c x35 x36 I S) R origin_7 z_8 z_8n z_8c zs_9 zs_9n zs_9c ds_10 ds_10n ds_10c x34 x34n x34c x35 x36 I S) ?_ ?_
    ·
      refine WP.block' (by kernel_rfl) ?_
      refine WP.cut 5 (fun l I S => asStr (l 7) fun origin_7 => asSl (l 8) fun z_8 z_8n z_8c => asSl (l 9) fun zs_9 zs_9n zs_9c => asSl (l 10) fun ds_10 ds_10n ds_10c => asSl (l 13) fun next_13 next_13n next_13c => asSl (l 14) fun gone_14 gone_14n gone_14c => asSl (l 15) fun fresh_15 fresh_15n fresh_15c => asAdr (l 16) fun d_16 => asSl (l 34) fun x34 x34n x34c => asI .i64 (l 35) fun x35 => asI .i64 (l 36) fun x36 => bolterlaw10_ApplyChain_b9 (fun origin_7 z_8 z_8n z_8c zs_9 zs_9n zs_9c ds_10 ds_10n ds_10c x34 x34n x34c x35 x36 I S => ∃ m', m' < m_again3 ∧ Inv_again3 m' origin_7 z_8 z_8n z_8c zs_9 zs_9n zs_9c ds_10 ds_10n ds_10c x34 x34n x34c x35 x36 I S) R origin_7 z_8 z_8n z_8c zs_9 zs_9n zs_9c ds_10 ds_10n ds_10c next_13 next_13n next_13c gone_14 gone_14n gone_14c fresh_15 fresh_15n fresh_15c d_16 x34 x34n x34c x35 x36 I S) (cast (by kernel_rfl) h) ?_
      clear h
      intro l I S _ h
      obtain ⟨origin_7, e7, h⟩ := asStr_e h
      obtain ⟨z_8, z_8n, z_8c, e8, h⟩ := asSl_e h
      obtain ⟨zs_9, zs_9n, zs_9c, e9, h⟩ := asSl_e h
      obtain ⟨ds_10, ds_10n, ds_10c, e10, h⟩ := asSl_e h
      obtain ⟨next_13, next_13n, next_13c, e13, h⟩ := asSl_e h
      obtain ⟨gone_14, gone_14n, gone_14c, e14, h⟩ := asSl_e h
      obtain ⟨fresh_15, fresh_15n, fresh_15c, e15, h⟩ := asSl_e h
      obtain ⟨d_16, e16, h⟩ := asAdr_e h
      obtain ⟨x34, x34n, x34c, e34, h⟩ := asSl_e h
      obtain ⟨x35, e35, h⟩ := asI_e h
      obtain ⟨x36, e36, h⟩ := asI_e h
      rw [upd_eta e7, upd_eta e8, upd_eta e9, upd_eta e10, upd_eta e13, upd_eta e14, upd_eta e15, upd_eta e16, upd_eta e34, upd_eta e35, upd_eta e36]
      refine WP.seqY (by kernel_rfl) (fun l I S => asStr (l 7) fun origin_7 => asSl (l 8) fun z_8 z_8n z_8c => asSl (l 9) fun zs_9 zs_9n zs_9c => asSl (l 10) fun ds_10 ds_10n ds_10c => asSl (l 13) fun next_13 next_13n next_13c => asSl (l 15) fun fresh_15 fresh_15n fresh_15c => asAdr (l 16) fun d_16 => asSl (l 34) fun x34 x34n x34c => asI .i64 (l 35) fun x35 => asI .i64 (l 36) fun x36 => bolterlaw10_ApplyChain_b13 (fun origin_7 z_8 z_8n z_8c zs_9 zs_9n zs_9c ds_10 ds_10n ds_10c x34 x34n x34c x35 x36 I S => ∃ m', m' < m_again3 ∧ Inv_again3 m' origin_7 z_8 z_8n z_8c zs_9 zs_9n zs_9c ds_10 ds_10n ds_10c x34 x34n x34c x35 x36 I S) R origin_7 z_8 z_8n z_8c zs_9 zs_9n zs_9c ds_10 ds_10n ds_10c next_13 next_13n next_13c fresh_15 fresh_15n fresh_15c d_16 x34 x34n x34c x35 x36 I S) ?_ ?_
      ·
        refine WP.cut 1 (fun l I S => asStr (l 7) fun origin_7 => asSl (l 8) fun z_8 z_8n z_8c => asSl (l 9) fun zs_9 zs_9n zs_9c => asSl (l 10) fun ds_10 ds_10n ds_10c => asSl (l 13) fun next_13 next_13n next_13c => asSl (l 15) fun fresh_15 fresh_15n fresh_15c => asAdr (l 16) fun d_16 => asSl (l 34) fun x34 x34n x34c => asI .i64 (l 35) fun x35 => asI .i64 (l 36) fun x36 => asSl (l 69) fun x69 x69n x69c => asI .i64 (l 70) fun x70 => asI .i64 (l 71) fun x71 => bolterlaw10_ApplyChain_b10 (fun origin_7 z_8 z_8n z_8c zs_9 zs_9n zs_9c ds_10 ds_10n ds_10c x34 x34n x34c x35 x36 I S => ∃ m', m' < m_again3 ∧ Inv_again3 m' origin_7 z_8 z_8n z_8c zs_9 zs_9n zs_9c ds_10 ds_10n ds_10c x34 x34n x34c x35 x36 I S) R origin_7 z_8 z_8n z_8c zs_9 zs_9n zs_9c ds_10 ds_10n ds_10c next_13 next_13n next_13c fresh_15 fresh_15n fresh_15c d_16 x34 x34n x34c x35 x36 x69 x69n x69c x70 x71 I S) (cast (by kernel_rfl) h) ?_
        clear h
        intro l I S _ h
        obtain ⟨origin_7, e7, h⟩ := asStr_e h
        obtain ⟨z_8, z_8n, z_8c, e8, h⟩ := asSl_e h
        obtain ⟨zs_9, zs_9n, zs_9c, e9, h⟩ := asSl_e h
        obtain ⟨ds_10, ds_10n, ds_10c, e10, h⟩ := asSl_e h
        obtain ⟨next_13, next_13n, next_13c, e13, h⟩ := asSl_e h
        obtain ⟨fresh_15, fresh_15n, fresh_15c, e15, h⟩ := asSl_e h
        obtain ⟨d_16, e16, h⟩ := asAdr_e h
        obtain ⟨x34, x34n, x34c, e34, h⟩ := asSl_e h
        obtain ⟨x35, e35, h⟩ := asI_e h
        obtain ⟨x36, e36, h⟩ := asI_e h
        obtain ⟨x69, x69n, x69c, e69, h⟩ := asSl_e h
        obtain ⟨x70, e70, h⟩ := asI_e h
        obtain ⟨x71, e71, h⟩ := asI_e h
        rw [upd_eta e7, upd_eta e8, upd_eta e9, upd_eta e10, upd_eta e13, upd_eta e15, upd_eta e16, upd_eta e34, upd_eta e35, upd_eta e36, upd_eta e69, upd_eta e70, upd_eta e71]
        refine WP.block' (by kernel_rfl) ?_
        obtain ⟨Inv_again11, m_again11, h0, hr⟩ := h
        refine WP.loop' (by kernel_rfl) (fun m_again11 => fun l I S => asStr (l 7) fun origin_7 => asSl (l 8) fun z_8 z_8n z_8c => asSl (l 9) fun zs_9 zs_9n zs_9c => asSl (l 10) fun ds_10 ds_10n ds_10c => asSl (l 13) fun next_13 next_13n next_13c => asSl (l 15) fun fresh_15 fresh_15n fresh_15c => asAdr (l 16) fun d_16 => asSl (l 34) fun x34 x34n x34c => asI .i64 (l 35) fun x35 => asI .i64 (l 36) fun x36 => asSl (l 69) fun x69 x69n x69c => asI .i64 (l 70) fun x70 => asI .i64 (l 71) fun x71 => Inv_again11 m_again11 origin_7 z_8 z_8n z_8c zs_9 zs_9n zs_9c ds_10 ds_10n ds_10c next_13 next_13n next_13c fresh_15 fresh_15n fresh_15c d_16 x34 x34n x34c x35 x36 x69 x69n x69c x70 x71 I S) m_again11 (cast (by kernel_rfl) h0) ?_
        clear h0
        intro m_again11 l I S hle h
        obtain ⟨origin_7, e7, h⟩ := asStr_e h
        obtain ⟨z_8, z_8n, z_8c, e8, h⟩ := asSl_e h
        obtain ⟨zs_9, zs_9n, zs_9c, e9, h⟩ := asSl_e h
        obtain ⟨ds_10, ds_10n, ds_10c, e10, h⟩ := asSl_e h
        obtain ⟨next_13, next_13n, next_13c, e13, h⟩ := asSl_e h
        obtain ⟨fresh_15, fresh_15n, fresh_15c, e15, h⟩ := asSl_e h
        obtain ⟨d_16, e16, h⟩ := asAdr_e h
        obtain ⟨x34, x34n, x34c, e34, h⟩ := asSl_e h
        obtain ⟨x35, e35, h⟩ := asI_e h
        obtain ⟨x36, e36, h⟩ := asI_e h
        obtain ⟨x69, x69n, x69c, e69, h⟩ := asSl_e h
        obtain ⟨x70, e70, h⟩ := asI_e h
        obtain ⟨x71, e71, h⟩ := asI_e h
        rw [upd_eta e7, upd_eta e8, upd_eta e9, upd_eta e10, upd_eta e13, upd_eta e15, upd_eta e16, upd_eta e34, upd_eta e35, upd_eta e36, upd_eta e69, upd_eta e70, upd_eta e71]
        have h := hr m_again11 origin_7 z_8 z_8n z_8c zs_9 zs_9n zs_9c ds_10 ds_10n ds_10c next_13 next_13n next_13c fresh_15 fresh_15n fresh_15c d_16 x34 x34n x34c x35 x36 x69 x69n x69c x70 x71 I S hle h
        clear hr hle
        refine WP.cut 3 (fun l I S => asStr (l 7) fun origin_7 => asSl (l 8) fun z_8 z_8n z_8c => asSl (l 9) fun zs_9 zs_9n zs_9c => asSl (l 10) fun ds_10 ds_10n ds_10c => asSl (l 13) fun next_13 next_13n next_13c => asSl (l 15) fun fresh_15 fresh_15n fresh_15c => asAdr (l 16) fun d_16 => asSl (l 34) fun x34 x34n x34c => asI .i64 (l 35) fun x35 => asI .i64 (l 36) fun x36 => asSl (l 69) fun x69 x69n x69c => asI .i64 (l 70) fun x70 => asI .i64 (l 71) fun x71 => bolterlaw10_ApplyChain_b12 (fun origin_7 z_8 z_8n z_8c zs_9 zs_9n zs_9c ds_10 ds_10n ds_10c x34 x34n x34c x35 x36 I S => ∃ m', m' < m_again3 ∧ Inv_again3 m' origin_7 z_8 z_8n z_8c zs_9 zs_9n zs_9c ds_10 ds_10n ds_10c x34 x34n x34c x35 x36 I S) (fun origin_7 z_8 z_8n z_8c zs_9 zs_9n zs_9c ds_10 ds_10n ds_10c next_13 next_13n next_13c fresh_15 fresh_15n fresh_15c d_16 x34 x34n x34c x35 x36 x69 x69n x69c x70 x71 I S => ∃ m', m' < m_again11 ∧ Inv_again11 m' origin_7 z_8 z_8n z_8c zs_9 zs_9n zs_9c ds_10 ds_10n ds_10c next_13 next_13n next_13c fresh_15 fresh_15n fresh_15c d_16 x34 x34n x34c x35 x36 x69 x69n x69c x70 x71 I S) R origin_7 z_8 z_8n z_8c zs_9 zs_9n zs_9c ds_10 ds_10n ds_10c next_13 next_13n next_13c fresh_15 fresh_15n fresh_15c d_16 x34 x34n x34c x35 x36 x69 x69n x69c x70 x71 I S) (cast (by kernel_rfl) h) ?_
        clear h
        intro l I S _ h
        obtain ⟨origin_7, e7, h⟩ := asStr_e h
        obtain ⟨z_8, z_8n, z_8c, e8, h⟩ := asSl_e h
        obtain ⟨zs_9, zs_9n, zs_9c, e9, h⟩ := asSl_e h
        obtain ⟨ds_10, ds_10n, ds_10c, e10, h⟩ := asSl_e h
        obtain ⟨next_13, next_13n, next_13c, e13, h⟩ := asSl_e h
        obtain ⟨fresh_15, fresh_15n, fresh_15c, e15, h⟩ := asSl_e h
        obtain ⟨d_16, e16, h⟩ := asAdr_e h
        obtain ⟨x34, x34n, x34c, e34, h⟩ := asSl_e h
        obtain ⟨x35, e35, h⟩ := asI_e h
        obtain ⟨x36, e36, h⟩ := asI_e h
        obtain ⟨x69, x69n, x69c, e69, h⟩ := asSl_e h
        obtain ⟨x70, e70, h⟩ := asI_e h
        obtain ⟨x71, e71, h⟩ := asI_e h
        rw [upd_eta e7, upd_eta e8, upd_eta e9, upd_eta e10, upd_eta e13, upd_eta e15, upd_eta e16, upd_eta e34, upd_eta e35, upd_eta e36, upd_eta e69, upd_eta e70, upd_eta e71]
        exact Pre.sound _ _ _ _ _ (cast (by kernel_rfl) h)
      · clear h
        intro l I S _ h
        obtain ⟨origin_7, e7, h⟩ := asStr_e h
        obtain ⟨z_8, z_8n, z_8c, e8, h⟩ := asSl_e h
        obtain ⟨zs_9, zs_9n, zs_9c, e9, h⟩ := asSl_e h
        obtain ⟨ds_10, ds_10n, ds_10c, e10, h⟩ := asSl_e h
        obtain ⟨next_13, next_13n, next_13c, e13, h⟩ := asSl_e h
        obtain ⟨fresh_15, fresh_15n, fresh_15c, e15, h⟩ := asSl_e h
        obtain ⟨d_16, e16, h⟩ := asAdr_e h
        obtain ⟨x34, x34n, x34c, e34, h⟩ := asSl_e h
        obtain ⟨x35, e35, h⟩ := asI_e h
        obtain ⟨x36, e36, h⟩ := asI_e h
        rw [upd_eta e7, upd_eta e8, upd_eta e9, upd_eta e10, upd_eta e13, upd_eta e15, upd_eta e16, upd_eta e34, upd_eta e35, upd_eta e36]
        refine WP.seqY (by kernel_rfl) (fun l I S => asStr (l 7) fun origin_7 => asSl (l 8) fun z_8 z_8n z_8c => asSl (l 9) fun zs_9 zs_9n zs_9c => asSl (l 10) fun ds_10 ds_10n ds_10c => asSl (l 13) fun next_13 next_13n next_13c => asAdr (l 16) fun d_16 => asSl (l 34) fun x34 x34n x34c => asI .i64 (l 35) fun x35 => asI .i64 (l 36) fun x36 => bolterlaw10_ApplyChain_b17 (fun origin_7 z_8 z_8n z_8c zs_9 zs_9n zs_9c ds_10 ds_10n ds_10c x34 x34n x34c x35 x36 I S => ∃ m', m' < m_again3 ∧ Inv_again3 m' origin_7 z_8 z_8n z_8c zs_9 zs_9n zs_9c ds_10 ds_10n ds_10c x34 x34n x34c x35 x36 I S) R origin_7 z_8 z_8n z_8c zs_9 zs_9n zs_9c ds_10 ds_10n ds_10c next_13 next_13n next_13c d_16 x34 x34n x34c x35 x36 I S) ?_ ?_
        ·
          refine WP.cut 1 (fun l I S => asStr (l 7) fun origin_7 => asSl (l 8) fun z_8 z_8n z_8c => asSl (l 9) fun zs_9 zs_9n zs_9c => asSl (l 10) fun ds_10 ds_10n ds_10c => asSl (l 13) fun next_13 next_13n next_13c => asAdr (l 16) fun d_16 => asSl (l 34) fun x34 x34n x34c => asI .i64 (l 35) fun x35 => asI .i64 (l 36) fun x36 => asSl (l 85) fun x85 x85n x85c => asI .i64 (l 86) fun x86 => asI .i64 (l 87) fun x87 => bolterlaw10_ApplyChain_b14 (fun origin_7 z_8 z_8n z_8c zs_9 zs_9n zs_9c ds_10 ds_10n ds_10c x34 x34n x34c x35 x36 I S => ∃ m', m' < m_again3 ∧ Inv_again3 m' origin_7 z_8 z_8n z_8c zs_9 zs_9n zs_9c ds_10 ds_10n ds_10c x34 x34n x34c x35 x36 I S) R origin_7 z_8 z_8n z_8c zs_9 zs_9n zs_9c ds_10 ds_10n ds_10c next_13 next_13n next_13c d_16 x34 x34n x34c x35 x36 x85 x85n x85c x86 x87 I S) (cast (by kernel_rfl) h) ?_
          clear h
          intro l I S _ h
          obtain ⟨origin_7, e7, h⟩ := asStr_e h
          obtain ⟨z_8, z_8n, z_8c, e8, h⟩ := asSl_e h
          obtain ⟨zs_9, zs_9n, zs_9c, e9, h⟩ := asSl_e h
          obtain ⟨ds_10, ds_10n, ds_10c, e10, h⟩ := asSl_e h
          obtain ⟨next_13, next_13n, next_13c, e13, h⟩ := asSl_e h
          obtain ⟨d_16, e16, h⟩ := asAdr_e h
          obtain ⟨x34, x34n, x34c, e34, h⟩ := asSl_e h
          obtain ⟨x35, e35, h⟩ := asI_e h
          obtain ⟨x36, e36, h⟩ := asI_e h
          obtain ⟨x85, x85n, x85c, e85, h⟩ := asSl_e h
          obtain ⟨x86, e86, h⟩ := asI_e h
          obtain ⟨x87, e87, h⟩ := asI_e h
          rw [upd_eta e7, upd_eta e8, upd_eta e9, upd_eta e10, upd_eta e13, upd_eta e16, upd_eta e34, upd_eta e35, upd_eta e36, upd_eta e85, upd_eta e86, upd_eta e87]
          refine WP.block' (by kernel_rfl) ?_
          obtain ⟨Inv_again15, m_again15, h0, hr⟩ := h
          refine WP.loop' (by kernel_rfl) (fun m_again15 => fun l I S => asStr (l 7) fun origin_7 => asSl (l 8) fun z_8 z_8n z_8c => asSl (l 9) fun zs_9 zs_9n zs_9c => asSl (l 10) fun ds_10 ds_10n ds_10c => asSl (l 13) fun next_13 next_13n next_13c => asAdr (l 16) fun d_16 => asSl (l 34) fun x34 x34n x34c => asI .i64 (l 35) fun x35 => asI .i64 (l 36) fun x36 => asSl (l 85) fun x85 x85n x85c => asI .i64 (l 86) fun x86 => asI .i64 (l 87) fun x87 => Inv_again15 m_again15 origin_7 z_8 z_8n z_8c zs_9 zs_9n zs_9c ds_10 ds_10n ds_10c next_13 next_13n next_13c d_16 x34 x34n x34c x35 x36 x85 x85n x85c x86 x87 I S) m_again15 (cast (by kernel_rfl) h0) ?_
          clear h0
          intro m_again15 l I S hle h
          obtain ⟨origin_7, e7, h⟩ := asStr_e h
          obtain ⟨z_8, z_8n, z_8c, e8, h⟩ := asSl_e h
          obtain ⟨zs_9, zs_9n, zs_9c, e9, h⟩ := asSl_e h
          obtain ⟨ds_10, ds_10n, ds_10c, e10, h⟩ := asSl_e h
          obtain ⟨next_13, next_13n, next_13c, e13, h⟩ := asSl_e h
          obtain ⟨d_16, e16, h⟩ := asAdr_e h
          obtain ⟨x34, x34n, x34c, e34, h⟩ := asSl_e h
          obtain ⟨x35, e35, h⟩ := asI_e h
          obtain ⟨x36, e36, h⟩ := asI_e h
          obtain ⟨x85, x85n, x85c, e85, h⟩ := asSl_e h
          obtain ⟨x86, e86, h⟩ := asI_e h
          obtain ⟨x87, e87, h⟩ := asI_e h
          rw [upd_eta e7, upd_eta e8, upd_eta e9, upd_eta e10, upd_eta e13, upd_eta e16, upd_eta e34, upd_eta e35, upd_eta e36, upd_eta e85, upd_eta e86, upd_eta e87]
          have h := hr m_again15 origin_7 z_8 z_8n z_8c zs_9 zs_9n zs_9c ds_10 ds_10n ds_10c next_13 next_13n next_13c d_16 x34 x34n x34c x35 x36 x85 x85n x85c x86 x87 I S hle h
          clear hr hle
          refine WP.cut 3 (fun l I S => asStr (l 7) fun origin_7 => asSl (l 8) fun z_8 z_8n z_8c => asSl (l 9) fun zs_9 zs_9n zs_9c => asSl (l 10) fun ds_10 ds_10n ds_10c => asSl (l 13) fun next_13 next_13n next_13c => asAdr (l 16) fun d_16 => asSl (l 34) fun x34 x34n x34c => asI .i64 (l 35) fun x35 => asI .i64 (l 36) fun x36 => asSl (l 85) fun x85 x85n x85c => asI .i64 (l 86) fun x86 => asI .i64 (l 87) fun x87 => bolterlaw10_ApplyChain_b16 (fun origin_7 z_8 z_8n z_8c zs_9 zs_9n zs_9c ds_10 ds_10n ds_10c x34 x34n x34c x35 x36 I S => ∃ m', m' < m_again3 ∧ Inv_again3 m' origin_7 z_8 z_8n z_8c zs_9 zs_9n zs_9c ds_10 ds_10n ds_10c x34 x34n x34c x35 x36 I S) (fun origin_7 z_8 z_8n z_8c zs_9 zs_9n zs_9c ds_10 ds_10n ds_10c next_13 next_13n next_13c d_16 x34 x34n x34c x35 x36 x85 x85n x85c x86 x87 I S => ∃ m', m' < m_again15 ∧ Inv_again15 m' origin_7 z_8 z_8n z_8c zs_9 zs_9n zs_9c ds_10 ds_10n ds_10c next_13 next_13n next_13c d_16 x34 x34n x34c x35 x36 x85 x85n x85c x86 x87 I S) R origin_7 z_8 z_8n z_8c zs_9 zs_9n zs_9c ds_10 ds_10n ds_10c next_13 next_13n next_13c d_16 x34 x34n x34c x35 x36 x85 x85n x85c x86 x87 I S) (cast (by kernel_rfl) h) ?_
          clear h
          intro l I S _ h
          obtain ⟨origin_7, e7, h⟩ := asStr_e h
          obtain ⟨z_8, z_8n, z_8c, e8, h⟩ := asSl_e h
          obtain ⟨zs_9, zs_9n, zs_9c, e9, h⟩ := asSl_e h
          obtain ⟨ds_10, ds_10n, ds_10c, e10, h⟩ := asSl_e h
          obtain ⟨next_13, next_13n, next_13c, e13, h⟩ := asSl_e h
          obtain ⟨d_16, e16, h⟩ := asAdr_e h
          obtain ⟨x34, x34n, x34c, e34, h⟩ := asSl_e h
          obtain ⟨x35, e35, h⟩ := asI_e h
          obtain ⟨x36, e36, h⟩ := asI_e h
          obtain ⟨x85, x85n, x85c, e85, h⟩ := asSl_e h
          obtain ⟨x86, e86, h⟩ := asI_e h
          obtain ⟨x87, e87, h⟩ := asI_e h
          rw [upd_eta e7, upd_eta e8, upd_eta e9, upd_eta e10, upd_eta e13, upd_eta e16, upd_eta e34, upd_eta e35, upd_eta e36, upd_eta e85, upd_eta e86, upd_eta e87]
          exact Pre.sound _ _ _ _ _ (cast (by kernel_rfl) h)
        · clear h
          intro l I S _ h
          obtain ⟨origin_7, e7, h⟩ := asStr_e h
          obtain ⟨z_8, z_8n, z_8c, e8, h⟩ := asSl_e h
          obtain ⟨zs_9, zs_9n, zs_9c, e9, h⟩ := asSl_e h
          obtain ⟨ds_10, ds_10n, ds_10c, e10, h⟩ := asSl_e h
          obtain ⟨next_13, next_13n, next_13c, e13, h⟩ := asSl_e h
          obtain ⟨d_16, e16, h⟩ := asAdr_e h
          obtain ⟨x34, x34n, x34c, e34, h⟩ := asSl_e h
          obtain ⟨x35, e35, h⟩ := asI_e h
          obtain ⟨x36, e36, h⟩ := asI_e h
          rw [upd_eta e7, upd_eta e8, upd_eta e9, upd_eta e10, upd_eta e13, upd_eta e16, upd_eta e34, upd_eta e35, upd_eta e36]
          exact WP.drawF (.take 0 (.take 1 (.take 4 (.take 5 (.fork 2 (.fork 3 (.step 6 (.step 7 (.take 8 (.take 9 .done)))) 6 (.step 3 (.step 7 (.take 8 (.take 9 .done))))) 6 (.step 2 (.step 3 (.step 7 (.take 8 (.take 9 .done)))))))))) [2, 3, 6, 7] (by kernel_rfl) (by kernel_rfl) (by kernel_rfl) (by kernel_rfl) (by kernel_rfl) (cast (by kernel_rfl) h)
    · clear h
      intro l I S _ h
      obtain ⟨origin_7, e7, h⟩ := asStr_e h
      obtain ⟨z_8, z_8n, z_8c, e8, h⟩ := asSl_e h
      obtain ⟨zs_9, zs_9n, zs_9c, e9, h⟩ := asSl_e h
      obtain ⟨ds_10, ds_10n, ds_10c, e10, h⟩ := asSl_e h
      obtain ⟨x34, x34n, x34c, e34, h⟩ := asSl_e h
      obtain ⟨x35, e35, h⟩ := asI_e h
      obtain ⟨x36, e36, h⟩ := asI_e h
      rw [upd_eta e7, upd_eta e8, upd_eta e9, upd_eta e10, upd_eta e34, upd_eta e35, upd_eta e36]
      exact Pre.sound _ _ _ _ _ (cast (by kernel_rfl) h)
  · clear h
    intro l I S _ h
    obtain ⟨origin_7, e7, h⟩ := asStr_e h
    obtain ⟨z_8, z_8n, z_8c, e8, h⟩ := asSl_e h
    obtain ⟨zs_9, zs_9n, zs_9c, e9, h⟩ := asSl_e h
    obtain ⟨ds_10, ds_10n, ds_10c, e10, h⟩ := asSl_e h
    rw [upd_eta e7, upd_eta e8, upd_eta e9, upd_eta e10]
    refine WP.cut 1 (fun l I S => asStr (l 7) fun origin_7 => asSl (l 8) fun z_8 z_8n z_8c => asSl (l 9) fun zs_9 zs_9n zs_9c => asSl (l 10) fun ds_10 ds_10n ds_10c => asSl (l 21) fun x_21 x_21n x_21c => asV (l 22) fun e_22 => bolterlaw10_ApplyChain_b6 R origin_7 z_8 z_8n z_8c zs_9 zs_9n zs_9c ds_10 ds_10n ds_10c x_21 x_21n x_21c e_22 I S) (cast (by kernel_rfl) h) ?_
    clear h
    intro l I S _ h
    obtain ⟨origin_7, e7, h⟩ := asStr_e h
    obtain ⟨z_8, z_8n, z_8c, e8, h⟩ := asSl_e h
    obtain ⟨zs_9, zs_9n, zs_9c, e9, h⟩ := asSl_e h
    obtain ⟨ds_10, ds_10n, ds_10c, e10, h⟩ := asSl_e h
    obtain ⟨x_21, x_21n, x_21c, e21, h⟩ := asSl_e h
    obtain ⟨e_22, e22, h⟩ := asV_e h
    rw [upd_eta e7, upd_eta e8, upd_eta e9, upd_eta e10, upd_eta e21, upd_eta e22]
    refine WP.seqY (by kernel_rfl) (fun l I S => asStr (l 7) fun origin_7 => asSl (l 8) fun z_8 z_8n z_8c => asSl (l 10) fun ds_10 ds_10n ds_10c => bolterlaw10_ApplyChain_b8 R origin_7 z_8 z_8n z_8c ds_10 ds_10n ds_10c I S) ?_ ?_
    ·
      refine WP.cut 1 (fun l I S => asStr (l 7) fun origin_7 => asSl (l 8) fun z_8 z_8n z_8c => asSl (l 10) fun ds_10 ds_10n ds_10c => asB (l 129) fun x129 => bolterlaw10_ApplyChain_b7 R origin_7 z_8 z_8n z_8c ds_10 ds_10n ds_10c x129 I S) (cast (by kernel_rfl) h) ?_
      clear h
      intro l I S _ h
      obtain ⟨origin_7, e7, h⟩ := asStr_e h
      obtain ⟨z_8, z_8n, z_8c, e8, h⟩ := asSl_e h
      obtain ⟨ds_10, ds_10n, ds_10c, e10, h⟩ := asSl_e h
      obtain ⟨x129, e129, h⟩ := asB_e h
      rw [upd_eta e7, upd_eta e8, upd_eta e10, upd_eta e129]
      exact Pre.sound _ _ _ _ _ (cast (by kernel_rfl) h)
    · clear h
      intro l I S _ h
      obtain ⟨origin_7, e7, h⟩ := asStr_e h
      obtain ⟨z_8, z_8n, z_8c, e8, h⟩ := asSl_e h
      obtain ⟨ds_10, ds_10n, ds_10c, e10, h⟩ := asSl_e h
      rw [upd_eta e7, upd_eta e8, upd_eta e10]
      exact Pre.sound _ _ _ _ _ (cast (by kernel_rfl) h)
/-! ### apply_Deltas: function 27, bolter/apply.Deltas -/
noncomputable def apply_Deltas_code : Code := (Tryd.f27.body).getD .skip
def apply_Deltas_b4 (R : Value → IMem → SH → Prop) (origin_0 : ByteArray) (out_8 : Option Addr) (out_8n : Nat) (out_8c : Nat) (I : IMem) (S : SH) : Prop :=
  Runs Tryd.prog 47 #[.string origin_0, .slice out_8 out_8n out_8c] I S fun v I1 S1 => ∃ x34_0 x34_0n x34_0c x34_1, v = .tuple #[.slice x34_0 x34_0n x34_0c, x34_1] ∧
  R (.tuple #[.slice x34_0 x34_0n x34_0c, x34_1]) I1 S1
def apply_Deltas_l3 (again3 : ByteArray → Option Addr → Nat → Nat → Option Addr → Nat → Nat → Int → Int → IMem → SH → Prop) (R : Value → IMem → SH → Prop) (origin_0 : ByteArray) (out_8 : Option Addr) (out_8n : Nat) (out_8c : Nat) (x15 : Option Addr) (x15n : Nat) (x15c : Nat) (x16 : Int) (x17 : Int) (I : IMem) (S : SH) : Prop :=
  bcase (decide (x17 < x16))
    (ptrP x15 fun x19 => (0 : Int) ≤ x17 ∧ x17 < (x15n : Int) ∧
    ∃ x20_0, Cell I S (x19.add (x17.toNat * 10)) (.string x20_0) ∧
    ∃ x20_1, Cell I S ((x19.add (x17.toNat * 10)).add 1) (.int .u16 x20_1) ∧
    ∃ x20_2, Cell I S ((x19.add (x17.toNat * 10)).add 2) (.int .u32 x20_2) ∧
    ∃ x20_3, Cell I S ((x19.add (x17.toNat * 10)).add 3) (.string x20_3) ∧
    ∃ x20_4, Cell I S ((x19.add (x17.toNat * 10)).add 4) (.string x20_4) ∧
    ∃ x20_5, Cell I S ((x19.add (x17.toNat * 10)).add 5) (.int .u16 x20_5) ∧
    ∃ x20_6, Cell I S ((x19.add (x17.toNat * 10)).add 6) (.int .u32 x20_6) ∧
    ∃ x20_7, Cell I S ((x19.add (x17.toNat * 10)).add 7) (.string x20_7) ∧
    ∃ x20_8 x20_8n x20_8c, Cell I S ((x19.add (x17.toNat * 10)).add 8) (.slice x20_8 x20_8n x20_8c) ∧
    ∃ x20_9 x20_9n x20_9c, Cell I S ((x19.add (x17.toNat * 10)).add 9) (.slice x20_9 x20_9n x20_9c) ∧
    ∀ b10 : Nat,
    StP ((b10, .cells #[.string ⟨#[]⟩, .int .u16 0, .int .u32 0, .string ⟨#[]⟩, .string ⟨#[]⟩, .int .u16 0, .int .u32 0, .string ⟨#[]⟩, .slice none 0 0, .slice none 0 0] 52 (0, 0)) :: S) ⟨b10, 0, none⟩ [.string x20_0, .int .u16 x20_1, .int .u32 x20_2, .string x20_3, .string x20_4, .int .u16 x20_5, .int .u32 x20_6, .string x20_7, .slice x20_8 x20_8n x20_8c, .slice x20_9 x20_9n x20_9c] fun S1 =>
    ∃ x23_0, Cell I S1 ⟨b10, 0, none⟩ (.string x23_0) ∧
    ∃ x23_1, Cell I S1 ⟨b10, 1, none⟩ (.int .u16 x23_1) ∧
    ∃ x23_2, Cell I S1 ⟨b10, 2, none⟩ (.int .u32 x23_2) ∧
    ∃ x23_3, Cell I S1 ⟨b10, 3, none⟩ (.string x23_3) ∧
    ∃ x23_4, Cell I S1 ⟨b10, 4, none⟩ (.string x23_4) ∧
    ∃ x23_5, Cell I S1 ⟨b10, 5, none⟩ (.int .u16 x23_5) ∧
    ∃ x23_6, Cell I S1 ⟨b10, 6, none⟩ (.int .u32 x23_6) ∧
    ∃ x23_7, Cell I S1 ⟨b10, 7, none⟩ (.string x23_7) ∧
    ∃ x23_8 x23_8n x23_8c, Cell I S1 ⟨b10, 8, none⟩ (.slice x23_8 x23_8n x23_8c) ∧
    ∃ x23_9 x23_9n x23_9c, Cell I S1 ⟨b10, 9, none⟩ (.slice x23_9 x23_9n x23_9c) ∧
    Runs Tryd.prog 23 #[.slice out_8 out_8n out_8c, .agg #[.string x23_0, .int .u16 x23_1, .int .u32 x23_2, .string x23_3, .string x23_4, .int .u16 x23_5, .int .u32 x23_6, .string x23_7, .slice x23_8 x23_8n x23_8c, .slice x23_9 x23_9n x23_9c]] I S1 fun v I1 S1' => ∃ x24_0 x24_0n x24_0c x24_1, v = .tuple #[.slice x24_0 x24_0n x24_0c, x24_1] ∧
    ∃ nl, isNilI x24_1 = some nl ∧
    bcase (!nl)
      (R (.tuple #[.slice none 0 0, x24_1]) I1 S1')
      (again3 origin_0 x24_0 x24_0n x24_0c x15 x15n x15c x16 (IntKind.wrap .i64 (x17 + (1 : Int))) I1 S1'))
    (apply_Deltas_b4 R origin_0 out_8 out_8n out_8c I S)
def apply_Deltas_b2 (R : Value → IMem → SH → Prop) (origin_0 : ByteArray) (out_8 : Option Addr) (out_8n : Nat) (out_8c : Nat) (x15 : Option Addr) (x15n : Nat) (x15c : Nat) (x16 : Int) (x17 : Int) (I : IMem) (S : SH) : Prop :=
  ∃ (Inv : Nat → ByteArray → Option Addr → Nat → Nat → Option Addr → Nat → Nat → Int → Int → IMem → SH → Prop) (m : Nat), Inv m origin_0 out_8 out_8n out_8c x15 x15n x15c x16 x17 I S ∧
    ∀ (m : Nat) (origin_0 : ByteArray) (out_8 : Option Addr) (out_8n : Nat) (out_8c : Nat) (x15 : Option Addr) (x15n : Nat) (x15c : Nat) (x16 : Int) (x17 : Int) (J : IMem) (T : SH), I.le J → Inv m origin_0 out_8 out_8n out_8c x15 x15n x15c x16 x17 J T →
      apply_Deltas_l3 (fun origin_0 out_8 out_8n out_8c x15 x15n x15c x16 x17 I S => ∃ m', m' < m ∧ Inv m' origin_0 out_8 out_8n out_8c x15 x15n x15c x16 x17 I S) R origin_0 out_8 out_8n out_8c x15 x15n x15c x16 x17 J T
def apply_Deltas_b1 (R : Value → IMem → SH → Prop) (origin_0 : ByteArray) (ds_2 : Option Addr) (ds_2n : Nat) (ds_2c : Nat) (out_8 : Option Addr) (out_8n : Nat) (out_8c : Nat) (I : IMem) (S : SH) : Prop :=
  apply_Deltas_b2 R origin_0 out_8 out_8n out_8c ds_2 ds_2n ds_2c (ds_2n : Int) 0 I S
def apply_Deltas (R : Value → IMem → SH → Prop) (origin_0 : ByteArray) (z_1 : Option Addr) (z_1n : Nat) (z_1c : Nat) (ds_2 : Option Addr) (ds_2n : Nat) (ds_2c : Nat) (I : IMem) (S : SH) : Prop :=
  Runs Tryd.prog 35 #[.slice z_1 z_1n z_1c] I S fun v I1 S1 => ∃ x14 x14n x14c, v = .slice x14 x14n x14c ∧
  apply_Deltas_b1 R origin_0 ds_2 ds_2n ds_2c x14 x14n x14c I1 S1
theorem apply_Deltas_fn (R : Value → IMem → SH → Prop) (origin_0 : ByteArray) (z_1 : Option Addr) (z_1n : Nat) (z_1c : Nat) (ds_2 : Option Addr) (ds_2n : Nat) (ds_2c : Nat) (I : IMem) (S : SH) (h : apply_Deltas R origin_0 z_1 z_1n z_1c ds_2 ds_2n ds_2c I S) :
    Runs Tryd.prog 27 #[.string origin_0, .slice z_1 z_1n z_1c, .slice ds_2 ds_2n ds_2c] I S R := by
  refine Runs.of_wp (args := [.string origin_0, .slice z_1 z_1n z_1c, .slice ds_2 ds_2n ds_2c]) (c := apply_Deltas_code) Tryd.func27 (by kernel_rfl) (by kernel_rfl) ?_
  refine WP.cut 2 (fun l I S => asStr (l 0) fun origin_0 => asSl (l 2) fun ds_2 ds_2n ds_2c => asSl (l 8) fun out_8 out_8n out_8c => apply_Deltas_b1 R origin_0 ds_2 ds_2n ds_2c out_8 out_8n out_8c I S) (cast (by kernel_rfl) h) ?_
  clear h
  intro l I S _ h
  obtain ⟨origin_0, e0, h⟩ := asStr_e h
  obtain ⟨ds_2, ds_2n, ds_2c, e2, h⟩ := asSl_e h
  obtain ⟨out_8, out_8n, out_8c, e8, h⟩ := asSl_e h
  rw [upd_eta e0, upd_eta e2, upd_eta e8]
  refine WP.seqY (by kernel_rfl) (fun l I S => asStr (l 0) fun origin_0 => asSl (l 8) fun out_8 out_8n out_8c => apply_Deltas_b4 R origin_0 out_8 out_8n out_8c I S) ?_ ?_
  ·
    refine WP.cut 1 (fun l I S => asStr (l 0) fun origin_0 => asSl (l 8) fun out_8 out_8n out_8c => asSl (l 15) fun x15 x15n x15c => asI .i64 (l 16) fun x16 => asI .i64 (l 17) fun x17 => apply_Deltas_b2 R origin_0 out_8 out_8n out_8c x15 x15n x15c x16 x17 I S) (cast (by kernel_rfl) h) ?_
    clear h
    intro l I S _ h
    obtain ⟨origin_0, e0, h⟩ := asStr_e h
    obtain ⟨out_8, out_8n, out_8c, e8, h⟩ := asSl_e h
    obtain ⟨x15, x15n, x15c, e15, h⟩ := asSl_e h
    obtain ⟨x16, e16, h⟩ := asI_e h
    obtain ⟨x17, e17, h⟩ := asI_e h
    rw [upd_eta e0, upd_eta e8, upd_eta e15, upd_eta e16, upd_eta e17]
    refine WP.block' (by kernel_rfl) ?_
    obtain ⟨Inv_again3, m_again3, h0, hr⟩ := h
    refine WP.loop' (by kernel_rfl) (fun m_again3 => fun l I S => asStr (l 0) fun origin_0 => asSl (l 8) fun out_8 out_8n out_8c => asSl (l 15) fun x15 x15n x15c => asI .i64 (l 16) fun x16 => asI .i64 (l 17) fun x17 => Inv_again3 m_again3 origin_0 out_8 out_8n out_8c x15 x15n x15c x16 x17 I S) m_again3 (cast (by kernel_rfl) h0) ?_
    clear h0
    intro m_again3 l I S hle h
    obtain ⟨origin_0, e0, h⟩ := asStr_e h
    obtain ⟨out_8, out_8n, out_8c, e8, h⟩ := asSl_e h
    obtain ⟨x15, x15n, x15c, e15, h⟩ := asSl_e h
    obtain ⟨x16, e16, h⟩ := asI_e h
    obtain ⟨x17, e17, h⟩ := asI_e h
    rw [upd_eta e0, upd_eta e8, upd_eta e15, upd_eta e16, upd_eta e17]
    have h := hr m_again3 origin_0 out_8 out_8n out_8c x15 x15n x15c x16 x17 I S hle h
    clear hr hle
    exact Pre.sound _ _ _ _ _ (cast (by kernel_rfl) h)
  · clear h
    intro l I S _ h
    obtain ⟨origin_0, e0, h⟩ := asStr_e h
    obtain ⟨out_8, out_8n, out_8c, e8, h⟩ := asSl_e h
    rw [upd_eta e0, upd_eta e8]
    exact Pre.sound _ _ _ _ _ (cast (by kernel_rfl) h)
/-! ### apply_checked: function 47, bolter/apply.checked -/
noncomputable def apply_checked_code : Code := (Tryd.f47.body).getD .skip
def apply_checked (R : Value → IMem → SH → Prop) (origin_0 : ByteArray) (z_1 : Option Addr) (z_1n : Nat) (z_1c : Nat) (I : IMem) (S : SH) : Prop :=
  Runs Tryd.prog 63 #[.slice z_1 z_1n z_1c] I S fun v I1 S1 => ∃ x8, v = .bool x8 ∧
  bcase (!x8)
    (R (.tuple #[.slice none 0 0, (.iface 43 (.int .i64 8))]) I1 S1)
    (Runs Tryd.prog 64 #[.slice z_1 z_1n z_1c, .string origin_0] I1 S1 fun v' I1' S1' => ∃ x14, v' = .bool x14 ∧
    bcase (!x14)
      (R (.tuple #[.slice none 0 0, (.iface 43 (.int .i64 4))]) I1' S1')
      (R (.tuple #[.slice z_1 z_1n z_1c, .nilIface]) I1' S1'))
theorem apply_checked_fn (R : Value → IMem → SH → Prop) (origin_0 : ByteArray) (z_1 : Option Addr) (z_1n : Nat) (z_1c : Nat) (I : IMem) (S : SH) (h : apply_checked R origin_0 z_1 z_1n z_1c I S) :
    Runs Tryd.prog 47 #[.string origin_0, .slice z_1 z_1n z_1c] I S R := by
  refine Runs.of_wp (args := [.string origin_0, .slice z_1 z_1n z_1c]) (c := apply_checked_code) Tryd.func47 (by kernel_rfl) (by kernel_rfl) ?_
  exact Pre.sound _ _ _ _ _ (cast (by kernel_rfl) h)
end Go.Proofs.YtdajglfbbcbgpaaDoor
