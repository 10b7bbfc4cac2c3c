import Derived.Test.YtkagfmlaolmdnaaDoorProg
import Derived.Test.YtkagfmlaolmdnaaDoorPx6
set_option linter.unusedVariables false
set_option maxRecDepth 8000
set_option maxHeartbeats 2000000
namespace Go.Proofs.YtkagfmlaolmdnaaDoor
open Go.Px
def strT2_d6da : ByteArray := ⟨#[116, 104, 101, 32, 114, 101, 115, 117, 108, 116, 32, 111, 102, 32, 40, 108, 101, 110, 40, 120, 41, 32, 42, 32, 99, 111, 117, 110, 116, 41, 32, 111, 118, 101, 114, 102, 108, 111, 119, 115]⟩
/-! ### owner_Prefix: function 16, bolter/owner.Prefix -/
noncomputable def owner_Prefix_code : Code := (Tryd.f16.body).getD .skip
def owner_Prefix (R : Value → IMem → SH → Prop) (p_0_0 : ByteArray) (p_0_1 : Int) (I : IMem) (S : SH) : Prop :=
  ∀ b1 : Nat,
  ∃ x4_0, Cell I ((b1, .cells #[.string p_0_0, .int .i64 p_0_1] 24 (0, 0)) :: S) ⟨b1, 0, none⟩ (.string x4_0) ∧
  ∃ x4_1, Cell I ((b1, .cells #[.string p_0_0, .int .i64 p_0_1] 24 (0, 0)) :: S) ⟨b1, 1, none⟩ (.int .i64 x4_1) ∧
  Runs Tryd.prog 20 #[.agg #[.string x4_0, .int .i64 x4_1]] I ((b1, .cells #[.string p_0_0, .int .i64 p_0_1] 24 (0, 0)) :: S) fun v I1 S1 => ∃ x5, v = .bool x5 ∧
  bcase (!x5)
    (R (.slice none 0 0) I1 S1)
    (∃ x8, Cell I1 S1 ⟨b1, 1, none⟩ (.int .i64 x8) ∧
    Runs Tryd.prog 38 #[.int .i64 x8] I1 S1 fun v' I1' S1' => ∃ x9, v' = .string x9 ∧
    ∀ b10 : Nat,
    ∃ x12, Cell I1' ((b10, .cells #[.string x9] 9 (0, 0)) :: S1') ⟨b1, 0, none⟩ (.string x12) ∧
    bcase ((x12.size : Int) == (4 : Int))
      (∃ x17, Cell I1' ((b10, .cells #[.string x9] 9 (0, 0)) :: S1') ⟨b1, 0, none⟩ (.string x17) ∧
      Runs Tryd.prog 39 #[.string x17] I1' ((b10, .cells #[.string x9] 9 (0, 0)) :: S1') fun v'' I1'' S1'' => ∃ x18 x18n x18c, v'' = .slice x18 x18n x18c ∧
      AppG 9 1 16 [.string ⟨#[]⟩] (some (.slice 9)) I1'' S1'' (.slice (some ⟨b10, 0, none⟩) 1 1) (.slice x18 x18n x18c) fun x19 x19n x19c S1_r3 =>
      R (.slice x19 x19n x19c) I1'' S1_r3)
      (∃ x22, Cell I1' ((b10, .cells #[.string x9] 9 (0, 0)) :: S1') ⟨b1, 0, none⟩ (.string x22) ∧
      Runs Tryd.prog 40 #[.string x22] I1' ((b10, .cells #[.string x9] 9 (0, 0)) :: S1') fun v_r3 I1_r3 S1_r4 => ∃ x23 x23n x23c, v_r3 = .slice x23 x23n x23c ∧
      AppG 9 1 16 [.string ⟨#[]⟩] (some (.slice 9)) I1_r3 S1_r4 (.slice (some ⟨b10, 0, none⟩) 1 1) (.slice x23 x23n x23c) fun x24 x24n x24c S1_r5 =>
      R (.slice x24 x24n x24c) I1_r3 S1_r5))
theorem owner_Prefix_fn (R : Value → IMem → SH → Prop) (p_0_0 : ByteArray) (p_0_1 : Int) (I : IMem) (S : SH) (h : owner_Prefix R p_0_0 p_0_1 I S) :
    Runs Tryd.prog 16 #[.agg #[.string p_0_0, .int .i64 p_0_1]] I S R := by
  refine Runs.of_wp (args := [.agg #[.string p_0_0, .int .i64 p_0_1]]) (c := owner_Prefix_code) Tryd.func16 (by kernel_rfl) (by kernel_rfl) ?_
  exact Pre.sound _ _ _ _ _ (cast (by kernel_rfl) h)
/-! ### owner_Address: function 17, bolter/owner.Address -/
noncomputable def owner_Address_code : Code := (Tryd.f17.body).getD .skip
def owner_Address_b3 (R : Value → IMem → SH → Prop) (x2 : Addr) (p_8 : Addr) (I : IMem) (S : SH) : Prop :=
  ∃ x43_0, Cell I S p_8 (.string x43_0) ∧
  ∃ x43_1, Cell I S (p_8.add 1) (.int .i64 x43_1) ∧
  StP S x2 [.string x43_0, .int .i64 x43_1] fun S1 =>
  ∃ r2_0, Cell I S1 x2 (.string r2_0) ∧
  ∃ r2_1, Cell I S1 (x2.add 1) (.int .i64 r2_1) ∧
  R (.tuple #[.agg #[.string r2_0, .int .i64 r2_1], .bool true]) I S1
def owner_Address_b2 (R : Value → IMem → SH → Prop) (x2 : Addr) (p_8 : Addr) (x41 : Bool) (I : IMem) (S : SH) : Prop :=
  bcase x41
    (StP S x2 [.string ⟨#[]⟩, .int .i64 0] fun S1 =>
    ∃ r2_0, Cell I S1 x2 (.string r2_0) ∧
    ∃ r2_1, Cell I S1 (x2.add 1) (.int .i64 r2_1) ∧
    R (.tuple #[.agg #[.string r2_0, .int .i64 r2_1], .bool false]) I S1)
    (owner_Address_b3 R x2 p_8 I S)
def owner_Address_b1 (R : Value → IMem → SH → Prop) (ls_0 : Option Addr) (ls_0n : Nat) (ls_0c : Nat) (x2 : Addr) (ok_5 : Bool) (is_7 : Bool) (p_8 : Addr) (I : IMem) (S : SH) : Prop :=
  bcase (!ok_5)
    (owner_Address_b2 R x2 p_8 true I S)
    (bcase (!is_7)
      (owner_Address_b2 R x2 p_8 true I S)
      (∃ x36_0, Cell I S p_8 (.string x36_0) ∧
      ∃ x36_1, Cell I S (p_8.add 1) (.int .i64 x36_1) ∧
      Runs Tryd.prog 16 #[.agg #[.string x36_0, .int .i64 x36_1]] I S fun v I1 S1 => ∃ x37 x37n x37c, v = .slice x37 x37n x37c ∧
      Runs Tryd.prog 43 #[.slice x37 x37n x37c, .slice ls_0 ls_0n ls_0c] I1 S1 fun v' I1' S1' => ∃ x39, v' = .bool x39 ∧
      owner_Address_b2 R x2 p_8 (!x39) I1' S1'))
def owner_Address (R : Value → IMem → SH → Prop) (ls_0 : Option Addr) (ls_0n : Nat) (ls_0c : Nat) (I : IMem) (S : SH) : Prop :=
  ∀ b2 : Nat,
  bcase (decide ((ls_0n : Int) < (2 : Int)))
    (StP ((b2, .cells #[.string ⟨#[]⟩, .int .i64 0] 24 (0, 0)) :: S) ⟨b2, 0, none⟩ [.string ⟨#[]⟩, .int .i64 0] fun S1 =>
    ∃ r2_0, Cell I S1 ⟨b2, 0, none⟩ (.string r2_0) ∧
    ∃ r2_1, Cell I S1 ⟨b2, 1, none⟩ (.int .i64 r2_1) ∧
    R (.tuple #[.agg #[.string r2_0, .int .i64 r2_1], .bool false]) I S1)
    (ptrP ls_0 fun x15 => (0 : Int) ≤ (0 : Int) ∧ (0 : Int) < (ls_0n : Int) ∧
    ∃ x16, Cell I ((b2, .cells #[.string ⟨#[]⟩, .int .i64 0] 24 (0, 0)) :: S) (x15.add ((0 : Int).toNat * 1)) (.string x16) ∧
    Runs Tryd.prog 41 #[.string x16, .int .i64 128] I ((b2, .cells #[.string ⟨#[]⟩, .int .i64 0] 24 (0, 0)) :: S) fun v I1 S1' => ∃ x17_0 x17_1, v = .tuple #[.int .i64 x17_0, .bool x17_1] ∧
    (0 : Int) ≤ (1 : Int) ∧ (1 : Int) ≤ ((ls_0n : Nat) : Int) ∧
    Runs Tryd.prog 42 #[.slice (slA ls_0 ls_0c ((1 : Int).toNat) 1) (ls_0n - (1 : Int).toNat) (ls_0c - (1 : Int).toNat)] I1 S1' fun v' I1' S1'' => ∃ x23_0 x23_1, v' = .tuple #[.string x23_0, .bool x23_1] ∧
    ∀ b8 : Nat,
    StP ((b8, .cells #[.string ⟨#[]⟩, .int .i64 0] 24 (0, 0)) :: S1'') ⟨b8, 0, none⟩ [.string x23_0, .int .i64 x17_0] fun S1_r3 =>
    owner_Address_b1 R ls_0 ls_0n ls_0c ⟨b2, 0, none⟩ x17_1 x23_1 ⟨b8, 0, none⟩ I1' S1_r3)
theorem owner_Address_fn (R : Value → IMem → SH → Prop) (ls_0 : Option Addr) (ls_0n : Nat) (ls_0c : Nat) (I : IMem) (S : SH) (h : owner_Address R ls_0 ls_0n ls_0c I S) :
    Runs Tryd.prog 17 #[.slice ls_0 ls_0n ls_0c] I S R := by
  refine Runs.of_wp (args := [.slice ls_0 ls_0n ls_0c]) (c := owner_Address_code) Tryd.func17 (by kernel_rfl) (by kernel_rfl) ?_
  refine WP.cut 5 (fun l I S => asSl (l 0) fun ls_0 ls_0n ls_0c => asAdr (l 2) fun x2 => asB (l 5) fun ok_5 => asB (l 7) fun is_7 => asAdr (l 8) fun p_8 => owner_Address_b1 R ls_0 ls_0n ls_0c x2 ok_5 is_7 p_8 I S) (cast (by kernel_rfl) h) ?_
  clear h
  intro l I S _ h
  obtain ⟨ls_0, ls_0n, ls_0c, e0, h⟩ := asSl_e h
  obtain ⟨x2, e2, h⟩ := asAdr_e h
  obtain ⟨ok_5, e5, h⟩ := asB_e h
  obtain ⟨is_7, e7, h⟩ := asB_e h
  obtain ⟨p_8, e8, h⟩ := asAdr_e h
  rw [upd_eta e0, upd_eta e2, upd_eta e5, upd_eta e7, upd_eta e8]
  refine WP.seqY (by kernel_rfl) (fun l I S => asAdr (l 2) fun x2 => asAdr (l 8) fun p_8 => owner_Address_b3 R x2 p_8 I S) ?_ ?_
  ·
    refine WP.cut 1 (fun l I S => asAdr (l 2) fun x2 => asAdr (l 8) fun p_8 => asB (l 41) fun x41 => owner_Address_b2 R x2 p_8 x41 I S) (cast (by kernel_rfl) h) ?_
    clear h
    intro l I S _ h
    obtain ⟨x2, e2, h⟩ := asAdr_e h
    obtain ⟨p_8, e8, h⟩ := asAdr_e h
    obtain ⟨x41, e41, h⟩ := asB_e h
    rw [upd_eta e2, upd_eta e8, upd_eta e41]
    exact Pre.sound _ _ _ _ _ (cast (by kernel_rfl) h)
  · clear h
    intro l I S _ h
    obtain ⟨x2, e2, h⟩ := asAdr_e h
    obtain ⟨p_8, e8, h⟩ := asAdr_e h
    rw [upd_eta e2, upd_eta e8]
    exact Pre.sound _ _ _ _ _ (cast (by kernel_rfl) h)
/-! ### prefix_May: function 20, bolter/prefix.May -/
noncomputable def prefix_May_code : Code := (Tryd.f20.body).getD .skip
def prefix_May_b1 (R : Value → IMem → SH → Prop) (x2 : Bool) (I : IMem) (S : SH) : Prop :=
  R (.bool x2) I S
def prefix_May (R : Value → IMem → SH → Prop) (p_0_0 : ByteArray) (p_0_1 : Int) (I : IMem) (S : SH) : Prop :=
  ∀ b1 : Nat,
  ∃ x7, Cell I ((b1, .cells #[.string p_0_0, .int .i64 p_0_1] 24 (0, 0)) :: S) ⟨b1, 0, none⟩ (.string x7) ∧
  ∃ x9, Cell I ((b1, .cells #[.string p_0_0, .int .i64 p_0_1] 24 (0, 0)) :: S) ⟨b1, 1, none⟩ (.int .i64 x9) ∧
  Runs Tryd.prog 37 #[.string x7, .int .i64 x9] I ((b1, .cells #[.string p_0_0, .int .i64 p_0_1] 24 (0, 0)) :: S) fun v I1 S1 => ∃ x10_0_0 x10_0_1 x10_1, v = .tuple #[.agg #[.string x10_0_0, .int .i64 x10_0_1], .bool x10_1] ∧
  ∀ b3 : Nat,
  StP ((b3, .cells #[.string ⟨#[]⟩, .int .i64 0] 24 (0, 0)) :: S1) ⟨b3, 0, none⟩ [.string x10_0_0, .int .i64 x10_0_1] fun S1' =>
  bcase x10_1
    (∃ x15_0, Cell I1 S1' ⟨b3, 0, none⟩ (.string x15_0) ∧
    ∃ x15_1, Cell I1 S1' ⟨b3, 1, none⟩ (.int .i64 x15_1) ∧
    ∃ x16_0, Cell I1 S1' ⟨b1, 0, none⟩ (.string x16_0) ∧
    ∃ x16_1, Cell I1 S1' ⟨b1, 1, none⟩ (.int .i64 x16_1) ∧
    prefix_May_b1 R (((x15_0 : ByteArray) == (x16_0 : ByteArray)) && (((x15_1 : Int) == (x16_1 : Int)) && true)) I1 S1')
    (prefix_May_b1 R false I1 S1')
theorem prefix_May_fn (R : Value → IMem → SH → Prop) (p_0_0 : ByteArray) (p_0_1 : Int) (I : IMem) (S : SH) (h : prefix_May R p_0_0 p_0_1 I S) :
    Runs Tryd.prog 20 #[.agg #[.string p_0_0, .int .i64 p_0_1]] I S R := by
  refine Runs.of_wp (args := [.agg #[.string p_0_0, .int .i64 p_0_1]]) (c := prefix_May_code) Tryd.func20 (by kernel_rfl) (by kernel_rfl) ?_
  refine WP.cut 3 (fun l I S => asB (l 2) fun x2 => prefix_May_b1 R x2 I S) (cast (by kernel_rfl) h) ?_
  clear h
  intro l I S _ h
  obtain ⟨x2, e2, h⟩ := asB_e h
  rw [upd_eta e2]
  exact Pre.sound _ _ _ _ _ (cast (by kernel_rfl) h)
/-! ### prefix_Cut: function 37, bolter/prefix.Cut -/
noncomputable def prefix_Cut_code : Code := (Tryd.f37.body).getD .skip
def prefix_Cut_b8 (again6 : ByteArray → Int → Addr → Option Addr → Nat → Nat → Int → IMem → SH → Prop) (R : Value → IMem → SH → Prop) (a_0 : ByteArray) (bits_1 : Int) (x4 : Addr) (b_6 : Option Addr) (b_6n : Nat) (b_6c : Nat) (k_7 : Int) (I : IMem) (S : SH) : Prop :=
  again6 a_0 bits_1 x4 b_6 b_6n b_6c (IntKind.wrap .i64 (k_7 + (1 : Int))) I S
def prefix_Cut_b7 (again6 : ByteArray → Int → Addr → Option Addr → Nat → Nat → Int → IMem → SH → Prop) (R : Value → IMem → SH → Prop) (a_0 : ByteArray) (bits_1 : Int) (x4 : Addr) (b_6 : Option Addr) (b_6n : Nat) (b_6c : Nat) (k_7 : Int) (I : IMem) (S : SH) : Prop :=
  ptrP b_6 fun x36 => (0 : Int) ≤ (IntKind.wrap .i64 (k_7.tdiv (8 : Int))) ∧ (IntKind.wrap .i64 (k_7.tdiv (8 : Int))) < (b_6n : Int) ∧
  ∃ x37, Cell I S (x36.add ((IntKind.wrap .i64 (k_7.tdiv (8 : Int))).toNat * 1)) (.int .u8 x37) ∧
  bcase (decide ((IntKind.wrap .i64 ((7 : Int) - (k_7.tmod (8 : Int)))) < 0)) False (ptrP b_6 fun x43 => (0 : Int) ≤ (IntKind.wrap .i64 (k_7.tdiv (8 : Int))) ∧ (IntKind.wrap .i64 (k_7.tdiv (8 : Int))) < (b_6n : Int) ∧
  StP S (x43.add ((IntKind.wrap .i64 (k_7.tdiv (8 : Int))).toNat * 1)) [.int .u8 (ibic .u8 x37 (IntKind.wrap .u8 ((1 : Int) * 2 ^ (min (IntKind.wrap .i64 ((7 : Int) - (k_7.tmod (8 : Int)))).toNat (IntKind.bits .u8)))))] fun S1 =>
  prefix_Cut_b8 again6 R a_0 bits_1 x4 b_6 b_6n b_6c k_7 I S1)
def prefix_Cut_b9 (R : Value → IMem → SH → Prop) (bits_1 : Int) (x4 : Addr) (b_6 : Option Addr) (b_6n : Nat) (b_6c : Nat) (I : IMem) (S : SH) : Prop :=
  ∃ x45 : ByteArray, BytesAt I S b_6 b_6n x45 ∧
  StP S x4 [.string x45, .int .i64 bits_1] fun S1 =>
  ∃ r4_0, Cell I S1 x4 (.string r4_0) ∧
  ∃ r4_1, Cell I S1 (x4.add 1) (.int .i64 r4_1) ∧
  R (.tuple #[.agg #[.string r4_0, .int .i64 r4_1], .bool true]) I S1
def prefix_Cut_l6 (again6 : ByteArray → Int → Addr → Option Addr → Nat → Nat → Int → IMem → SH → Prop) (R : Value → IMem → SH → Prop) (a_0 : ByteArray) (bits_1 : Int) (x4 : Addr) (b_6 : Option Addr) (b_6n : Nat) (b_6c : Nat) (k_7 : Int) (I : IMem) (S : SH) : Prop :=
  bcase (decide (k_7 < (IntKind.wrap .i64 ((8 : Int) * (a_0.size : Int)))))
    (prefix_Cut_b7 again6 R a_0 bits_1 x4 b_6 b_6n b_6c k_7 I S)
    (prefix_Cut_b9 R bits_1 x4 b_6 b_6n b_6c I S)
def prefix_Cut_b5 (R : Value → IMem → SH → Prop) (a_0 : ByteArray) (bits_1 : Int) (x4 : Addr) (b_6 : Option Addr) (b_6n : Nat) (b_6c : Nat) (k_7 : Int) (I : IMem) (S : SH) : Prop :=
  ∃ (Inv : Nat → ByteArray → Int → Addr → Option Addr → Nat → Nat → Int → IMem → SH → Prop) (m : Nat), Inv m a_0 bits_1 x4 b_6 b_6n b_6c k_7 I S ∧
    ∀ (m : Nat) (a_0 : ByteArray) (bits_1 : Int) (x4 : Addr) (b_6 : Option Addr) (b_6n : Nat) (b_6c : Nat) (k_7 : Int) (J : IMem) (T : SH), I.le J → Inv m a_0 bits_1 x4 b_6 b_6n b_6c k_7 J T →
      prefix_Cut_l6 (fun a_0 bits_1 x4 b_6 b_6n b_6c k_7 I S => ∃ m', m' < m ∧ Inv m' a_0 bits_1 x4 b_6 b_6n b_6c k_7 I S) R a_0 bits_1 x4 b_6 b_6n b_6c k_7 J T
def prefix_Cut_b4 (R : Value → IMem → SH → Prop) (a_0 : ByteArray) (bits_1 : Int) (x4 : Addr) (b_6 : Option Addr) (b_6n : Nat) (b_6c : Nat) (I : IMem) (S : SH) : Prop :=
  prefix_Cut_b5 R a_0 bits_1 x4 b_6 b_6n b_6c bits_1 I S
def prefix_Cut_b3 (R : Value → IMem → SH → Prop) (a_0 : ByteArray) (bits_1 : Int) (x4 : Addr) (I : IMem) (S : SH) : Prop :=
  a_0.size ≤ maxLen ∧ ∀ b24 c24 : Nat, a_0.size ≤ c24 → c24 ≤ maxLen →
  prefix_Cut_b4 R a_0 bits_1 x4 (some ⟨b24, 0, none⟩) a_0.size c24 I ((b24, .cells (byteCells a_0 ++ repV (c24 - a_0.size) [.int .u8 0]).toArray 5 (c24, c24 + 1)) :: S)
def prefix_Cut_b2 (R : Value → IMem → SH → Prop) (a_0 : ByteArray) (bits_1 : Int) (x4 : Addr) (x21 : Bool) (I : IMem) (S : SH) : Prop :=
  bcase x21
    (StP S x4 [.string ⟨#[]⟩, .int .i64 0] fun S1 =>
    ∃ r4_0, Cell I S1 x4 (.string r4_0) ∧
    ∃ r4_1, Cell I S1 (x4.add 1) (.int .i64 r4_1) ∧
    R (.tuple #[.agg #[.string r4_0, .int .i64 r4_1], .bool false]) I S1)
    (prefix_Cut_b3 R a_0 bits_1 x4 I S)
def prefix_Cut_b1 (R : Value → IMem → SH → Prop) (a_0 : ByteArray) (bits_1 : Int) (x4 : Addr) (I : IMem) (S : SH) : Prop :=
  Runs Tryd.prog 58 #[.string a_0] I S fun v I1 S1 => ∃ x9, v = .bool x9 ∧
  bcase (!x9)
    (prefix_Cut_b2 R a_0 bits_1 x4 true I1 S1)
    (bcase (decide (bits_1 < (0 : Int)))
      (prefix_Cut_b2 R a_0 bits_1 x4 true I1 S1)
      (prefix_Cut_b2 R a_0 bits_1 x4 (decide (bits_1 > (IntKind.wrap .i64 ((8 : Int) * (a_0.size : Int))))) I1 S1))
def prefix_Cut (R : Value → IMem → SH → Prop) (a_0 : ByteArray) (bits_1 : Int) (I : IMem) (S : SH) : Prop :=
  ∀ b4 : Nat,
  prefix_Cut_b1 R a_0 bits_1 ⟨b4, 0, none⟩ I ((b4, .cells #[.string ⟨#[]⟩, .int .i64 0] 24 (0, 0)) :: S)
theorem prefix_Cut_fn (R : Value → IMem → SH → Prop) (a_0 : ByteArray) (bits_1 : Int) (I : IMem) (S : SH) (h : prefix_Cut R a_0 bits_1 I S) :
    Runs Tryd.prog 37 #[.string a_0, .int .i64 bits_1] I S R := by
  refine Runs.of_wp (args := [.string a_0, .int .i64 bits_1]) (c := prefix_Cut_code) Tryd.func37 (by kernel_rfl) (by kernel_rfl) ?_
  refine WP.cut 1 (fun l I S => asStr (l 0) fun a_0 => asI .i64 (l 1) fun bits_1 => asAdr (l 4) fun x4 => prefix_Cut_b1 R a_0 bits_1 x4 I S) (cast (by kernel_rfl) h) ?_
  clear h
  intro l I S _ h
  obtain ⟨a_0, e0, h⟩ := asStr_e h
  obtain ⟨bits_1, e1, h⟩ := asI_e h
  obtain ⟨x4, e4, h⟩ := asAdr_e h
  rw [upd_eta e0, upd_eta e1, upd_eta e4]
  refine WP.seqY (by kernel_rfl) (fun l I S => asStr (l 0) fun a_0 => asI .i64 (l 1) fun bits_1 => asAdr (l 4) fun x4 => prefix_Cut_b3 R a_0 bits_1 x4 I S) ?_ ?_
  ·
    refine WP.cut 1 (fun l I S => asStr (l 0) fun a_0 => asI .i64 (l 1) fun bits_1 => asAdr (l 4) fun x4 => asB (l 21) fun x21 => prefix_Cut_b2 R a_0 bits_1 x4 x21 I S) (cast (by kernel_rfl) h) ?_
    clear h
    intro l I S _ h
    obtain ⟨a_0, e0, h⟩ := asStr_e h
    obtain ⟨bits_1, e1, h⟩ := asI_e h
    obtain ⟨x4, e4, h⟩ := asAdr_e h
    obtain ⟨x21, e21, h⟩ := asB_e h
    rw [upd_eta e0, upd_eta e1, upd_eta e4, upd_eta e21]
    exact Pre.sound _ _ _ _ _ (cast (by kernel_rfl) h)
  · clear h
    intro l I S _ h
    obtain ⟨a_0, e0, h⟩ := asStr_e h
    obtain ⟨bits_1, e1, h⟩ := asI_e h
    obtain ⟨x4, e4, h⟩ := asAdr_e h
    rw [upd_eta e0, upd_eta e1, upd_eta e4]
    refine WP.cut 1 (fun l I S => asStr (l 0) fun a_0 => asI .i64 (l 1) fun bits_1 => asAdr (l 4) fun x4 => asSl (l 6) fun b_6 b_6n b_6c => prefix_Cut_b4 R a_0 bits_1 x4 b_6 b_6n b_6c I S) (cast (by kernel_rfl) h) ?_
    clear h
    intro l I S _ h
    obtain ⟨a_0, e0, h⟩ := asStr_e h
    obtain ⟨bits_1, e1, h⟩ := asI_e h
    obtain ⟨x4, e4, h⟩ := asAdr_e h
    obtain ⟨b_6, b_6n, b_6c, e6, h⟩ := asSl_e h
    rw [upd_eta e0, upd_eta e1, upd_eta e4, upd_eta e6]
    refine WP.seqY (by kernel_rfl) (fun l I S => asI .i64 (l 1) fun bits_1 => asAdr (l 4) fun x4 => asSl (l 6) fun b_6 b_6n b_6c => prefix_Cut_b9 R bits_1 x4 b_6 b_6n b_6c I S) ?_ ?_
    ·
      refine WP.cut 1 (fun l I S => asStr (l 0) fun a_0 => asI .i64 (l 1) fun bits_1 => asAdr (l 4) fun x4 => asSl (l 6) fun b_6 b_6n b_6c => asI .i64 (l 7) fun k_7 => prefix_Cut_b5 R a_0 bits_1 x4 b_6 b_6n b_6c k_7 I S) (cast (by kernel_rfl) h) ?_
      clear h
      intro l I S _ h
      obtain ⟨a_0, e0, h⟩ := asStr_e h
      obtain ⟨bits_1, e1, h⟩ := asI_e h
      obtain ⟨x4, e4, h⟩ := asAdr_e h
      obtain ⟨b_6, b_6n, b_6c, e6, h⟩ := asSl_e h
      obtain ⟨k_7, e7, h⟩ := asI_e h
      rw [upd_eta e0, upd_eta e1, upd_eta e4, upd_eta e6, upd_eta e7]
      refine WP.block' (by kernel_rfl) ?_
      obtain ⟨Inv_again6, m_again6, h0, hr⟩ := h
      refine WP.loop' (by kernel_rfl) (fun m_again6 => fun l I S => asStr (l 0) fun a_0 => asI .i64 (l 1) fun bits_1 => asAdr (l 4) fun x4 => asSl (l 6) fun b_6 b_6n b_6c => asI .i64 (l 7) fun k_7 => Inv_again6 m_again6 a_0 bits_1 x4 b_6 b_6n b_6c k_7 I S) m_again6 (cast (by kernel_rfl) h0) ?_
      clear h0
      intro m_again6 l I S hle h
      obtain ⟨a_0, e0, h⟩ := asStr_e h
      obtain ⟨bits_1, e1, h⟩ := asI_e h
      obtain ⟨x4, e4, h⟩ := asAdr_e h
      obtain ⟨b_6, b_6n, b_6c, e6, h⟩ := asSl_e h
      obtain ⟨k_7, e7, h⟩ := asI_e h
      rw [upd_eta e0, upd_eta e1, upd_eta e4, upd_eta e6, upd_eta e7]
      have h := hr m_again6 a_0 bits_1 x4 b_6 b_6n b_6c k_7 I S hle h
      clear hr hle
      refine WP.cut 1 (fun l I S => asStr (l 0) fun a_0 => asI .i64 (l 1) fun bits_1 => asAdr (l 4) fun x4 => asSl (l 6) fun b_6 b_6n b_6c => asI .i64 (l 7) fun k_7 => prefix_Cut_b7 (fun a_0 bits_1 x4 b_6 b_6n b_6c k_7 I S => ∃ m', m' < m_again6 ∧ Inv_again6 m' a_0 bits_1 x4 b_6 b_6n b_6c k_7 I S) R a_0 bits_1 x4 b_6 b_6n b_6c k_7 I S) (cast (by kernel_rfl) h) ?_
      clear h
      intro l I S _ h
      obtain ⟨a_0, e0, h⟩ := asStr_e h
      obtain ⟨bits_1, e1, h⟩ := asI_e h
      obtain ⟨x4, e4, h⟩ := asAdr_e h
      obtain ⟨b_6, b_6n, b_6c, e6, h⟩ := asSl_e h
      obtain ⟨k_7, e7, h⟩ := asI_e h
      rw [upd_eta e0, upd_eta e1, upd_eta e4, upd_eta e6, upd_eta e7]
      refine WP.seqY (by kernel_rfl) (fun l I S => asStr (l 0) fun a_0 => asI .i64 (l 1) fun bits_1 => asAdr (l 4) fun x4 => asSl (l 6) fun b_6 b_6n b_6c => asI .i64 (l 7) fun k_7 => prefix_Cut_b8 (fun a_0 bits_1 x4 b_6 b_6n b_6c k_7 I S => ∃ m', m' < m_again6 ∧ Inv_again6 m' a_0 bits_1 x4 b_6 b_6n b_6c k_7 I S) R a_0 bits_1 x4 b_6 b_6n b_6c k_7 I S) ?_ ?_
      ·
        refine WP.block' (by kernel_rfl) ?_
        exact WP.draw' (.take 0 (.take 1 (.take 2 (.take 3 (.take 4 (.take 5 (.take 6 (.take 7 (.take 8 (.take 9 (.take 10 (.step 11 .done)))))))))))) [11] (by kernel_rfl) (by kernel_rfl) (by kernel_rfl) (by kernel_rfl) (by kernel_rfl) (cast (by kernel_rfl) h)
      · clear h
        intro l I S _ h
        obtain ⟨a_0, e0, h⟩ := asStr_e h
        obtain ⟨bits_1, e1, h⟩ := asI_e h
        obtain ⟨x4, e4, h⟩ := asAdr_e h
        obtain ⟨b_6, b_6n, b_6c, e6, h⟩ := asSl_e h
        obtain ⟨k_7, e7, h⟩ := asI_e h
        rw [upd_eta e0, upd_eta e1, upd_eta e4, upd_eta e6, upd_eta e7]
        exact Pre.sound _ _ _ _ _ (cast (by kernel_rfl) h)
    · clear h
      intro l I S _ h
      obtain ⟨bits_1, e1, h⟩ := asI_e h
      obtain ⟨x4, e4, h⟩ := asAdr_e h
      obtain ⟨b_6, b_6n, b_6c, e6, h⟩ := asSl_e h
      rw [upd_eta e1, upd_eta e4, upd_eta e6]
      exact Pre.sound _ _ _ _ _ (cast (by kernel_rfl) h)
/-! ### prefix_Address: function 58, bolter/prefix.Address -/
noncomputable def prefix_Address_code : Code := (Tryd.f58.body).getD .skip
def prefix_Address_b1 (R : Value → IMem → SH → Prop) (x2 : Bool) (I : IMem) (S : SH) : Prop :=
  R (.bool x2) I S
def prefix_Address (R : Value → IMem → SH → Prop) (a_0 : ByteArray) (I : IMem) (S : SH) : Prop :=
  bcase ((a_0.size : Int) == (4 : Int))
    (prefix_Address_b1 R true I S)
    (prefix_Address_b1 R ((a_0.size : Int) == (16 : Int)) I S)
theorem prefix_Address_fn (R : Value → IMem → SH → Prop) (a_0 : ByteArray) (I : IMem) (S : SH) (h : prefix_Address R a_0 I S) :
    Runs Tryd.prog 58 #[.string a_0] I S R := by
  refine Runs.of_wp (args := [.string a_0]) (c := prefix_Address_code) Tryd.func58 (by kernel_rfl) (by kernel_rfl) ?_
  refine WP.cut 2 (fun l I S => asB (l 2) fun x2 => prefix_Address_b1 R x2 I S) (cast (by kernel_rfl) h) ?_
  clear h
  intro l I S _ h
  obtain ⟨x2, e2, h⟩ := asB_e h
  rw [upd_eta e2]
  exact Pre.sound _ _ _ _ _ (cast (by kernel_rfl) h)
/-! ### owner_four: function 39, bolter/owner.four -/
noncomputable def owner_four_code : Code := (Tryd.f39.body).getD .skip
def owner_four_b4 (R : Value → IMem → SH → Prop) (out_3 : Option Addr) (out_3n : Nat) (out_3c : Nat) (I : IMem) (S : SH) : Prop :=
  R (.slice out_3 out_3n out_3c) I S
def owner_four_l3 (again3 : ByteArray → Option Addr → Nat → Nat → Int → IMem → SH → Prop) (R : Value → IMem → SH → Prop) (a_0 : ByteArray) (out_3 : Option Addr) (out_3n : Nat) (out_3c : Nat) (k_4 : Int) (I : IMem) (S : SH) : Prop :=
  bcase (decide (k_4 ≥ (0 : Int)))
    (∃ cx12 : UInt8, (0 : Int) ≤ k_4 ∧ a_0[k_4.toNat]? = some cx12 ∧
    Runs Tryd.prog 38 #[.int .i64 (IntKind.wrap .i64 (cx12.toNat : Int))] I S fun v I1 S1 => ∃ x14, v = .string x14 ∧
    ∀ b15 : Nat,
    AppG 9 1 16 [.string ⟨#[]⟩] (some (.slice 9)) I1 ((b15, .cells #[.string x14] 9 (0, 0)) :: S1) (.slice out_3 out_3n out_3c) (.slice (some ⟨b15, 0, none⟩) 1 1) fun x16 x16n x16c S1' =>
    again3 a_0 x16 x16n x16c (IntKind.wrap .i64 (k_4 - (1 : Int))) I1 S1')
    (owner_four_b4 R out_3 out_3n out_3c I S)
def owner_four_b2 (R : Value → IMem → SH → Prop) (a_0 : ByteArray) (out_3 : Option Addr) (out_3n : Nat) (out_3c : Nat) (k_4 : Int) (I : IMem) (S : SH) : Prop :=
  ∃ (Inv : Nat → ByteArray → Option Addr → Nat → Nat → Int → IMem → SH → Prop) (m : Nat), Inv m a_0 out_3 out_3n out_3c k_4 I S ∧
    ∀ (m : Nat) (a_0 : ByteArray) (out_3 : Option Addr) (out_3n : Nat) (out_3c : Nat) (k_4 : Int) (J : IMem) (T : SH), I.le J → Inv m a_0 out_3 out_3n out_3c k_4 J T →
      owner_four_l3 (fun a_0 out_3 out_3n out_3c k_4 I S => ∃ m', m' < m ∧ Inv m' a_0 out_3 out_3n out_3c k_4 I S) R a_0 out_3 out_3n out_3c k_4 J T
def owner_four_b1 (R : Value → IMem → SH → Prop) (a_0 : ByteArray) (out_3 : Option Addr) (out_3n : Nat) (out_3c : Nat) (I : IMem) (S : SH) : Prop :=
  owner_four_b2 R a_0 out_3 out_3n out_3c 3 I S
def owner_four (R : Value → IMem → SH → Prop) (a_0 : ByteArray) (I : IMem) (S : SH) : Prop :=
  owner_four_b1 R a_0 none 0 0 I S
theorem owner_four_fn (R : Value → IMem → SH → Prop) (a_0 : ByteArray) (I : IMem) (S : SH) (h : owner_four R a_0 I S) :
    Runs Tryd.prog 39 #[.string a_0] I S R := by
  refine Runs.of_wp (args := [.string a_0]) (c := owner_four_code) Tryd.func39 (by kernel_rfl) (by kernel_rfl) ?_
  refine WP.cut 2 (fun l I S => asStr (l 0) fun a_0 => asSl (l 3) fun out_3 out_3n out_3c => owner_four_b1 R a_0 out_3 out_3n out_3c I S) (cast (by kernel_rfl) h) ?_
  clear h
  intro l I S _ h
  obtain ⟨a_0, e0, h⟩ := asStr_e h
  obtain ⟨out_3, out_3n, out_3c, e3, h⟩ := asSl_e h
  rw [upd_eta e0, upd_eta e3]
  refine WP.seqY (by kernel_rfl) (fun l I S => asSl (l 3) fun out_3 out_3n out_3c => owner_four_b4 R out_3 out_3n out_3c I S) ?_ ?_
  ·
    refine WP.cut 1 (fun l I S => asStr (l 0) fun a_0 => asSl (l 3) fun out_3 out_3n out_3c => asI .i64 (l 4) fun k_4 => owner_four_b2 R a_0 out_3 out_3n out_3c k_4 I S) (cast (by kernel_rfl) h) ?_
    clear h
    intro l I S _ h
    obtain ⟨a_0, e0, h⟩ := asStr_e h
    obtain ⟨out_3, out_3n, out_3c, e3, h⟩ := asSl_e h
    obtain ⟨k_4, e4, h⟩ := asI_e h
    rw [upd_eta e0, upd_eta e3, upd_eta e4]
    refine WP.block' (by kernel_rfl) ?_
    obtain ⟨Inv_again3, m_again3, h0, hr⟩ := h
    refine WP.loop' (by kernel_rfl) (fun m_again3 => fun l I S => asStr (l 0) fun a_0 => asSl (l 3) fun out_3 out_3n out_3c => asI .i64 (l 4) fun k_4 => Inv_again3 m_again3 a_0 out_3 out_3n out_3c k_4 I S) m_again3 (cast (by kernel_rfl) h0) ?_
    clear h0
    intro m_again3 l I S hle h
    obtain ⟨a_0, e0, h⟩ := asStr_e h
    obtain ⟨out_3, out_3n, out_3c, e3, h⟩ := asSl_e h
    obtain ⟨k_4, e4, h⟩ := asI_e h
    rw [upd_eta e0, upd_eta e3, upd_eta e4]
    have h := hr m_again3 a_0 out_3 out_3n out_3c k_4 I S hle h
    clear hr hle
    exact Pre.sound _ _ _ _ _ (cast (by kernel_rfl) h)
  · clear h
    intro l I S _ h
    obtain ⟨out_3, out_3n, out_3c, e3, h⟩ := asSl_e h
    rw [upd_eta e3]
    exact Pre.sound _ _ _ _ _ (cast (by kernel_rfl) h)
/-! ### owner_six: function 40, bolter/owner.six -/
noncomputable def owner_six_code : Code := (Tryd.f40.body).getD .skip
def owner_six_b6 (again3 : ByteArray → Option Addr → Nat → Nat → Int → Int → IMem → SH → Prop) (R : Value → IMem → SH → Prop) (a_0 : ByteArray) (words_3 : Option Addr) (words_3n : Nat) (words_3c : Nat) (x13 : Int) (x14 : Int) (I : IMem) (S : SH) : Prop :=
  again3 a_0 words_3 words_3n words_3c x13 (IntKind.wrap .i64 (x14 + (1 : Int))) I S
def owner_six_b5 (again3 : ByteArray → Option Addr → Nat → Nat → Int → Int → IMem → SH → Prop) (R : Value → IMem → SH → Prop) (a_0 : ByteArray) (words_3 : Option Addr) (words_3n : Nat) (words_3c : Nat) (k_4 : Int) (x13 : Int) (x14 : Int) (I : IMem) (S : SH) : Prop :=
  ∃ cx22 : UInt8, (0 : Int) ≤ (IntKind.wrap .i64 ((2 : Int) * k_4)) ∧ a_0[(IntKind.wrap .i64 ((2 : Int) * k_4)).toNat]? = some cx22 ∧
  ∃ cx29 : UInt8, (0 : Int) ≤ (IntKind.wrap .i64 ((IntKind.wrap .i64 ((2 : Int) * k_4)) + (1 : Int))) ∧ a_0[(IntKind.wrap .i64 ((IntKind.wrap .i64 ((2 : Int) * k_4)) + (1 : Int))).toNat]? = some cx29 ∧
  ptrP words_3 fun x32 => (0 : Int) ≤ k_4 ∧ k_4 < (words_3n : Int) ∧
  StP S (x32.add (k_4.toNat * 1)) [.int .i64 (ior .i64 (IntKind.wrap .i64 ((IntKind.wrap .i64 (cx22.toNat : Int)) * 2 ^ (min (8 : Int).toNat (IntKind.bits .i64)))) (IntKind.wrap .i64 (cx29.toNat : Int)))] fun S1 =>
  owner_six_b6 again3 R a_0 words_3 words_3n words_3c x13 x14 I S1
def owner_six_b4 (again3 : ByteArray → Option Addr → Nat → Nat → Int → Int → IMem → SH → Prop) (R : Value → IMem → SH → Prop) (a_0 : ByteArray) (words_3 : Option Addr) (words_3n : Nat) (words_3c : Nat) (x13 : Int) (x14 : Int) (I : IMem) (S : SH) : Prop :=
  owner_six_b5 again3 R a_0 words_3 words_3n words_3c x14 x13 x14 I S
def owner_six_b15 (again10 : Option Addr → Nat → Nat → Int → Int → Int → IMem → SH → Prop) (again13 : Option Addr → Nat → Nat → Int → Int → Int → Int → IMem → SH → Prop) (R : Value → IMem → SH → Prop) (words_3 : Option Addr) (words_3n : Nat) (words_3c : Nat) (at_5 : Int) (most_6 : Int) (k_7 : Int) (n_8 : Int) (I : IMem) (S : SH) : Prop :=
  again13 words_3 words_3n words_3c at_5 most_6 k_7 (IntKind.wrap .i64 (n_8 + (1 : Int))) I S
def owner_six_b17 (again10 : Option Addr → Nat → Nat → Int → Int → Int → IMem → SH → Prop) (R : Value → IMem → SH → Prop) (words_3 : Option Addr) (words_3n : Nat) (words_3c : Nat) (at_5 : Int) (most_6 : Int) (k_7 : Int) (I : IMem) (S : SH) : Prop :=
  again10 words_3 words_3n words_3c at_5 most_6 (IntKind.wrap .i64 (k_7 + (1 : Int))) I S
def owner_six_b16 (again10 : Option Addr → Nat → Nat → Int → Int → Int → IMem → SH → Prop) (R : Value → IMem → SH → Prop) (words_3 : Option Addr) (words_3n : Nat) (words_3c : Nat) (at_5 : Int) (most_6 : Int) (k_7 : Int) (n_8 : Int) (I : IMem) (S : SH) : Prop :=
  bcase (decide (n_8 > most_6))
    (owner_six_b17 again10 R words_3 words_3n words_3c k_7 n_8 k_7 I S)
    (owner_six_b17 again10 R words_3 words_3n words_3c at_5 most_6 k_7 I S)
def owner_six_b14 (again10 : Option Addr → Nat → Nat → Int → Int → Int → IMem → SH → Prop) (again13 : Option Addr → Nat → Nat → Int → Int → Int → Int → IMem → SH → Prop) (R : Value → IMem → SH → Prop) (words_3 : Option Addr) (words_3n : Nat) (words_3c : Nat) (at_5 : Int) (most_6 : Int) (k_7 : Int) (n_8 : Int) (x50 : Bool) (I : IMem) (S : SH) : Prop :=
  bcase x50
    (owner_six_b15 again10 again13 R words_3 words_3n words_3c at_5 most_6 k_7 n_8 I S)
    (owner_six_b16 again10 R words_3 words_3n words_3c at_5 most_6 k_7 n_8 I S)
def owner_six_l13 (again10 : Option Addr → Nat → Nat → Int → Int → Int → IMem → SH → Prop) (again13 : Option Addr → Nat → Nat → Int → Int → Int → Int → IMem → SH → Prop) (R : Value → IMem → SH → Prop) (words_3 : Option Addr) (words_3n : Nat) (words_3c : Nat) (at_5 : Int) (most_6 : Int) (k_7 : Int) (n_8 : Int) (I : IMem) (S : SH) : Prop :=
  bcase (decide ((IntKind.wrap .i64 (k_7 + n_8)) < (8 : Int)))
    (ptrP words_3 fun x47 => (0 : Int) ≤ (IntKind.wrap .i64 (k_7 + n_8)) ∧ (IntKind.wrap .i64 (k_7 + n_8)) < (words_3n : Int) ∧
    ∃ x48, Cell I S (x47.add ((IntKind.wrap .i64 (k_7 + n_8)).toNat * 1)) (.int .i64 x48) ∧
    owner_six_b14 again10 again13 R words_3 words_3n words_3c at_5 most_6 k_7 n_8 (x48 == (0 : Int)) I S)
    (owner_six_b14 again10 again13 R words_3 words_3n words_3c at_5 most_6 k_7 n_8 false I S)
def owner_six_b12 (again10 : Option Addr → Nat → Nat → Int → Int → Int → IMem → SH → Prop) (R : Value → IMem → SH → Prop) (words_3 : Option Addr) (words_3n : Nat) (words_3c : Nat) (at_5 : Int) (most_6 : Int) (k_7 : Int) (n_8 : Int) (I : IMem) (S : SH) : Prop :=
  ∃ (Inv : Nat → Option Addr → Nat → Nat → Int → Int → Int → Int → IMem → SH → Prop) (m : Nat), Inv m words_3 words_3n words_3c at_5 most_6 k_7 n_8 I S ∧
    ∀ (m : Nat) (words_3 : Option Addr) (words_3n : Nat) (words_3c : Nat) (at_5 : Int) (most_6 : Int) (k_7 : Int) (n_8 : Int) (J : IMem) (T : SH), I.le J → Inv m words_3 words_3n words_3c at_5 most_6 k_7 n_8 J T →
      owner_six_l13 again10 (fun words_3 words_3n words_3c at_5 most_6 k_7 n_8 I S => ∃ m', m' < m ∧ Inv m' words_3 words_3n words_3c at_5 most_6 k_7 n_8 I S) R words_3 words_3n words_3c at_5 most_6 k_7 n_8 J T
def owner_six_b11 (again10 : Option Addr → Nat → Nat → Int → Int → Int → IMem → SH → Prop) (R : Value → IMem → SH → Prop) (words_3 : Option Addr) (words_3n : Nat) (words_3c : Nat) (at_5 : Int) (most_6 : Int) (k_7 : Int) (I : IMem) (S : SH) : Prop :=
  owner_six_b12 again10 R words_3 words_3n words_3c at_5 most_6 k_7 0 I S
def owner_six_b22 (again21 : Option Addr → Nat → Nat → Int → Int → Option Addr → Nat → Nat → Int → IMem → SH → Prop) (R : Value → IMem → SH → Prop) (words_3 : Option Addr) (words_3n : Nat) (words_3c : Nat) (at_5 : Int) (most_6 : Int) (out_9 : Option Addr) (out_9n : Nat) (out_9c : Nat) (k_10 : Int) (I : IMem) (S : SH) : Prop :=
  again21 words_3 words_3n words_3c at_5 most_6 out_9 out_9n out_9c (IntKind.wrap .i64 (k_10 + (1 : Int))) I S
def owner_six_b23 (R : Value → IMem → SH → Prop) (out_9 : Option Addr) (out_9n : Nat) (out_9c : Nat) (I : IMem) (S : SH) : Prop :=
  Runs Tryd.prog 61 #[.slice out_9 out_9n out_9c] I S fun v I1 S1 => v = .tuple #[] ∧
  R (.slice out_9 out_9n out_9c) I1 S1
def owner_six_l21 (again21 : Option Addr → Nat → Nat → Int → Int → Option Addr → Nat → Nat → Int → IMem → SH → Prop) (R : Value → IMem → SH → Prop) (words_3 : Option Addr) (words_3n : Nat) (words_3c : Nat) (at_5 : Int) (most_6 : Int) (out_9 : Option Addr) (out_9n : Nat) (out_9c : Nat) (k_10 : Int) (I : IMem) (S : SH) : Prop :=
  bcase (decide (k_10 < (8 : Int)))
    (bcase (k_10 == at_5)
      (∀ b66 : Nat,
      AppG 9 1 16 [.string ⟨#[]⟩] (some (.slice 9)) I ((b66, .cells #[.string ⟨#[122, 122]⟩] 9 (0, 0)) :: S) (.slice out_9 out_9n out_9c) (.slice (some ⟨b66, 0, none⟩) 1 1) fun x67 x67n x67c S1 =>
      owner_six_b22 again21 R words_3 words_3n words_3c at_5 most_6 x67 x67n x67c (IntKind.wrap .i64 (k_10 + (IntKind.wrap .i64 (most_6 - (1 : Int))))) I S1)
      (ptrP words_3 fun x75 => (0 : Int) ≤ k_10 ∧ k_10 < (words_3n : Int) ∧
      ∃ x76, Cell I S (x75.add (k_10.toNat * 1)) (.int .i64 x76) ∧
      Runs Tryd.prog 60 #[.int .i64 x76, .int .i64 16] I S fun v I1 S1' => ∃ x77, v = .string x77 ∧
      ∀ b78 : Nat,
      AppG 9 1 16 [.string ⟨#[]⟩] (some (.slice 9)) I1 ((b78, .cells #[.string x77] 9 (0, 0)) :: S1') (.slice out_9 out_9n out_9c) (.slice (some ⟨b78, 0, none⟩) 1 1) fun x79 x79n x79c S1'' =>
      owner_six_b22 again21 R words_3 words_3n words_3c at_5 most_6 x79 x79n x79c k_10 I1 S1''))
    (owner_six_b23 R out_9 out_9n out_9c I S)
def owner_six_b20 (R : Value → IMem → SH → Prop) (words_3 : Option Addr) (words_3n : Nat) (words_3c : Nat) (at_5 : Int) (most_6 : Int) (out_9 : Option Addr) (out_9n : Nat) (out_9c : Nat) (k_10 : Int) (I : IMem) (S : SH) : Prop :=
  ∃ (Inv : Nat → Option Addr → Nat → Nat → Int → Int → Option Addr → Nat → Nat → Int → IMem → SH → Prop) (m : Nat), Inv m words_3 words_3n words_3c at_5 most_6 out_9 out_9n out_9c k_10 I S ∧
    ∀ (m : Nat) (words_3 : Option Addr) (words_3n : Nat) (words_3c : Nat) (at_5 : Int) (most_6 : Int) (out_9 : Option Addr) (out_9n : Nat) (out_9c : Nat) (k_10 : Int) (J : IMem) (T : SH), I.le J → Inv m words_3 words_3n words_3c at_5 most_6 out_9 out_9n out_9c k_10 J T →
      owner_six_l21 (fun words_3 words_3n words_3c at_5 most_6 out_9 out_9n out_9c k_10 I S => ∃ m', m' < m ∧ Inv m' words_3 words_3n words_3c at_5 most_6 out_9 out_9n out_9c k_10 I S) R words_3 words_3n words_3c at_5 most_6 out_9 out_9n out_9c k_10 J T
def owner_six_b19 (R : Value → IMem → SH → Prop) (words_3 : Option Addr) (words_3n : Nat) (words_3c : Nat) (at_5 : Int) (most_6 : Int) (out_9 : Option Addr) (out_9n : Nat) (out_9c : Nat) (I : IMem) (S : SH) : Prop :=
  owner_six_b20 R words_3 words_3n words_3c at_5 most_6 out_9 out_9n out_9c 0 I S
def owner_six_b18 (R : Value → IMem → SH → Prop) (words_3 : Option Addr) (words_3n : Nat) (words_3c : Nat) (at_5 : Int) (most_6 : Int) (I : IMem) (S : SH) : Prop :=
  owner_six_b19 R words_3 words_3n words_3c at_5 most_6 none 0 0 I S
def owner_six_l10 (again10 : Option Addr → Nat → Nat → Int → Int → Int → IMem → SH → Prop) (R : Value → IMem → SH → Prop) (words_3 : Option Addr) (words_3n : Nat) (words_3c : Nat) (at_5 : Int) (most_6 : Int) (k_7 : Int) (I : IMem) (S : SH) : Prop :=
  bcase (decide (k_7 < (8 : Int)))
    (owner_six_b11 again10 R words_3 words_3n words_3c at_5 most_6 k_7 I S)
    (owner_six_b18 R words_3 words_3n words_3c at_5 most_6 I S)
def owner_six_b9 (R : Value → IMem → SH → Prop) (words_3 : Option Addr) (words_3n : Nat) (words_3c : Nat) (at_5 : Int) (most_6 : Int) (k_7 : Int) (I : IMem) (S : SH) : Prop :=
  ∃ (Inv : Nat → Option Addr → Nat → Nat → Int → Int → Int → IMem → SH → Prop) (m : Nat), Inv m words_3 words_3n words_3c at_5 most_6 k_7 I S ∧
    ∀ (m : Nat) (words_3 : Option Addr) (words_3n : Nat) (words_3c : Nat) (at_5 : Int) (most_6 : Int) (k_7 : Int) (J : IMem) (T : SH), I.le J → Inv m words_3 words_3n words_3c at_5 most_6 k_7 J T →
      owner_six_l10 (fun words_3 words_3n words_3c at_5 most_6 k_7 I S => ∃ m', m' < m ∧ Inv m' words_3 words_3n words_3c at_5 most_6 k_7 I S) R words_3 words_3n words_3c at_5 most_6 k_7 J T
def owner_six_b8 (R : Value → IMem → SH → Prop) (words_3 : Option Addr) (words_3n : Nat) (words_3c : Nat) (at_5 : Int) (most_6 : Int) (I : IMem) (S : SH) : Prop :=
  owner_six_b9 R words_3 words_3n words_3c at_5 most_6 0 I S
def owner_six_b7 (R : Value → IMem → SH → Prop) (words_3 : Option Addr) (words_3n : Nat) (words_3c : Nat) (I : IMem) (S : SH) : Prop :=
  owner_six_b8 R words_3 words_3n words_3c (-1) 1 I S
def owner_six_l3 (again3 : ByteArray → Option Addr → Nat → Nat → Int → Int → IMem → SH → Prop) (R : Value → IMem → SH → Prop) (a_0 : ByteArray) (words_3 : Option Addr) (words_3n : Nat) (words_3c : Nat) (x13 : Int) (x14 : Int) (I : IMem) (S : SH) : Prop :=
  bcase (decide (x14 < x13))
    (owner_six_b4 again3 R a_0 words_3 words_3n words_3c x13 x14 I S)
    (owner_six_b7 R words_3 words_3n words_3c I S)
def owner_six_b2 (R : Value → IMem → SH → Prop) (a_0 : ByteArray) (words_3 : Option Addr) (words_3n : Nat) (words_3c : Nat) (x13 : Int) (x14 : Int) (I : IMem) (S : SH) : Prop :=
  ∃ (Inv : Nat → ByteArray → Option Addr → Nat → Nat → Int → Int → IMem → SH → Prop) (m : Nat), Inv m a_0 words_3 words_3n words_3c x13 x14 I S ∧
    ∀ (m : Nat) (a_0 : ByteArray) (words_3 : Option Addr) (words_3n : Nat) (words_3c : Nat) (x13 : Int) (x14 : Int) (J : IMem) (T : SH), I.le J → Inv m a_0 words_3 words_3n words_3c x13 x14 J T →
      owner_six_l3 (fun a_0 words_3 words_3n words_3c x13 x14 I S => ∃ m', m' < m ∧ Inv m' a_0 words_3 words_3n words_3c x13 x14 I S) R a_0 words_3 words_3n words_3c x13 x14 J T
def owner_six_b1 (R : Value → IMem → SH → Prop) (a_0 : ByteArray) (words_3 : Option Addr) (words_3n : Nat) (words_3c : Nat) (I : IMem) (S : SH) : Prop :=
  owner_six_b2 R a_0 words_3 words_3n words_3c (words_3n : Int) 0 I S
def owner_six (R : Value → IMem → SH → Prop) (a_0 : ByteArray) (I : IMem) (S : SH) : Prop :=
  (0 : Int) ≤ 8 ∧ (8 : Int) ≤ 8 ∧ (8 : Int) ≤ 9223372036854775807 ∧ (8 : Int) * 8 ≤ 281474976710656 ∧ ∀ b11 : Nat,
  owner_six_b1 R a_0 (some ⟨b11, 0, none⟩) 8 8 I ((b11, .cells #[.int .i64 0, .int .i64 0, .int .i64 0, .int .i64 0, .int .i64 0, .int .i64 0, .int .i64 0, .int .i64 0] 3 (0, 0)) :: S)
theorem owner_six_fn (R : Value → IMem → SH → Prop) (a_0 : ByteArray) (I : IMem) (S : SH) (h : owner_six R a_0 I S) :
    Runs Tryd.prog 40 #[.string a_0] I S R := by
  refine Runs.of_wp (args := [.string a_0]) (c := owner_six_code) Tryd.func40 (by kernel_rfl) (by kernel_rfl) ?_
  refine WP.cut 2 (fun l I S => asStr (l 0) fun a_0 => asSl (l 3) fun words_3 words_3n words_3c => owner_six_b1 R a_0 words_3 words_3n words_3c I S) (cast (by kernel_rfl) h) ?_
  clear h
  intro l I S _ h
  obtain ⟨a_0, e0, h⟩ := asStr_e h
  obtain ⟨words_3, words_3n, words_3c, e3, h⟩ := asSl_e h
  rw [upd_eta e0, upd_eta e3]
  refine WP.seqY (by kernel_rfl) (fun l I S => asSl (l 3) fun words_3 words_3n words_3c => owner_six_b7 R words_3 words_3n words_3c I S) ?_ ?_
  ·
    refine WP.cut 1 (fun l I S => asStr (l 0) fun a_0 => asSl (l 3) fun words_3 words_3n words_3c => asI .i64 (l 13) fun x13 => asI .i64 (l 14) fun x14 => owner_six_b2 R a_0 words_3 words_3n words_3c x13 x14 I S) (cast (by kernel_rfl) h) ?_
    clear h
    intro l I S _ h
    obtain ⟨a_0, e0, h⟩ := asStr_e h
    obtain ⟨words_3, words_3n, words_3c, e3, h⟩ := asSl_e h
    obtain ⟨x13, e13, h⟩ := asI_e h
    obtain ⟨x14, e14, h⟩ := asI_e h
    rw [upd_eta e0, upd_eta e3, upd_eta e13, upd_eta e14]
    refine WP.block' (by kernel_rfl) ?_
    obtain ⟨Inv_again3, m_again3, h0, hr⟩ := h
    refine WP.loop' (by kernel_rfl) (fun m_again3 => fun l I S => asStr (l 0) fun a_0 => asSl (l 3) fun words_3 words_3n words_3c => asI .i64 (l 13) fun x13 => asI .i64 (l 14) fun x14 => Inv_again3 m_again3 a_0 words_3 words_3n words_3c x13 x14 I S) m_again3 (cast (by kernel_rfl) h0) ?_
    clear h0
    intro m_again3 l I S hle h
    obtain ⟨a_0, e0, h⟩ := asStr_e h
    obtain ⟨words_3, words_3n, words_3c, e3, h⟩ := asSl_e h
    obtain ⟨x13, e13, h⟩ := asI_e h
    obtain ⟨x14, e14, h⟩ := asI_e h
    rw [upd_eta e0, upd_eta e3, upd_eta e13, upd_eta e14]
    have h := hr m_again3 a_0 words_3 words_3n words_3c x13 x14 I S hle h
    clear hr hle
    refine WP.cut 2 (fun l I S => asStr (l 0) fun a_0 => asSl (l 3) fun words_3 words_3n words_3c => asI .i64 (l 13) fun x13 => asI .i64 (l 14) fun x14 => owner_six_b4 (fun a_0 words_3 words_3n words_3c x13 x14 I S => ∃ m', m' < m_again3 ∧ Inv_again3 m' a_0 words_3 words_3n words_3c x13 x14 I S) R a_0 words_3 words_3n words_3c x13 x14 I S) (cast (by kernel_rfl) h) ?_
    clear h
    intro l I S _ h
    obtain ⟨a_0, e0, h⟩ := asStr_e h
    obtain ⟨words_3, words_3n, words_3c, e3, h⟩ := asSl_e h
    obtain ⟨x13, e13, h⟩ := asI_e h
    obtain ⟨x14, e14, h⟩ := asI_e h
    rw [upd_eta e0, upd_eta e3, upd_eta e13, upd_eta e14]
    refine WP.seqY (by kernel_rfl) (fun l I S => asStr (l 0) fun a_0 => asSl (l 3) fun words_3 words_3n words_3c => asI .i64 (l 13) fun x13 => asI .i64 (l 14) fun x14 => owner_six_b6 (fun a_0 words_3 words_3n words_3c x13 x14 I S => ∃ m', m' < m_again3 ∧ Inv_again3 m' a_0 words_3 words_3n words_3c x13 x14 I S) R a_0 words_3 words_3n words_3c x13 x14 I S) ?_ ?_
    ·
      refine WP.block' (by kernel_rfl) ?_
      refine WP.cut 1 (fun l I S => asStr (l 0) fun a_0 => asSl (l 3) fun words_3 words_3n words_3c => asI .i64 (l 4) fun k_4 => asI .i64 (l 13) fun x13 => asI .i64 (l 14) fun x14 => owner_six_b5 (fun a_0 words_3 words_3n words_3c x13 x14 I S => ∃ m', m' < m_again3 ∧ Inv_again3 m' a_0 words_3 words_3n words_3c x13 x14 I S) R a_0 words_3 words_3n words_3c k_4 x13 x14 I S) (cast (by kernel_rfl) h) ?_
      clear h
      intro l I S _ h
      obtain ⟨a_0, e0, h⟩ := asStr_e h
      obtain ⟨words_3, words_3n, words_3c, e3, h⟩ := asSl_e h
      obtain ⟨k_4, e4, h⟩ := asI_e h
      obtain ⟨x13, e13, h⟩ := asI_e h
      obtain ⟨x14, e14, h⟩ := asI_e h
      rw [upd_eta e0, upd_eta e3, upd_eta e4, upd_eta e13, upd_eta e14]
      exact WP.draw' (.take 0 (.take 1 (.take 2 (.take 3 (.take 4 (.take 5 (.take 6 (.take 7 (.take 8 (.take 9 (.take 10 (.take 11 (.take 12 (.take 13 (.take 14 (.take 15 (.step 16 .done))))))))))))))))) [16] (by kernel_rfl) (by kernel_rfl) (by kernel_rfl) (by kernel_rfl) (by kernel_rfl) (cast (by kernel_rfl) h)
    · clear h
      intro l I S _ h
      obtain ⟨a_0, e0, h⟩ := asStr_e h
      obtain ⟨words_3, words_3n, words_3c, e3, h⟩ := asSl_e h
      obtain ⟨x13, e13, h⟩ := asI_e h
      obtain ⟨x14, e14, h⟩ := asI_e h
      rw [upd_eta e0, upd_eta e3, upd_eta e13, upd_eta e14]
      exact Pre.sound _ _ _ _ _ (cast (by kernel_rfl) h)
  · clear h
    intro l I S _ h
    obtain ⟨words_3, words_3n, words_3c, e3, h⟩ := asSl_e h
    rw [upd_eta e3]
    refine WP.cut 1 (fun l I S => asSl (l 3) fun words_3 words_3n words_3c => asI .i64 (l 5) fun at_5 => asI .i64 (l 6) fun most_6 => owner_six_b8 R words_3 words_3n words_3c at_5 most_6 I S) (cast (by kernel_rfl) h) ?_
    clear h
    intro l I S _ h
    obtain ⟨words_3, words_3n, words_3c, e3, h⟩ := asSl_e h
    obtain ⟨at_5, e5, h⟩ := asI_e h
    obtain ⟨most_6, e6, h⟩ := asI_e h
    rw [upd_eta e3, upd_eta e5, upd_eta e6]
    refine WP.seqY (by kernel_rfl) (fun l I S => asSl (l 3) fun words_3 words_3n words_3c => asI .i64 (l 5) fun at_5 => asI .i64 (l 6) fun most_6 => owner_six_b18 R words_3 words_3n words_3c at_5 most_6 I S) ?_ ?_
    ·
      refine WP.cut 1 (fun l I S => asSl (l 3) fun words_3 words_3n words_3c => asI .i64 (l 5) fun at_5 => asI .i64 (l 6) fun most_6 => asI .i64 (l 7) fun k_7 => owner_six_b9 R words_3 words_3n words_3c at_5 most_6 k_7 I S) (cast (by kernel_rfl) h) ?_
      clear h
      intro l I S _ h
      obtain ⟨words_3, words_3n, words_3c, e3, h⟩ := asSl_e h
      obtain ⟨at_5, e5, h⟩ := asI_e h
      obtain ⟨most_6, e6, h⟩ := asI_e h
      obtain ⟨k_7, e7, h⟩ := asI_e h
      rw [upd_eta e3, upd_eta e5, upd_eta e6, upd_eta e7]
      refine WP.block' (by kernel_rfl) ?_
      obtain ⟨Inv_again10, m_again10, h0, hr⟩ := h
      refine WP.loop' (by kernel_rfl) (fun m_again10 => fun l I S => asSl (l 3) fun words_3 words_3n words_3c => asI .i64 (l 5) fun at_5 => asI .i64 (l 6) fun most_6 => asI .i64 (l 7) fun k_7 => Inv_again10 m_again10 words_3 words_3n words_3c at_5 most_6 k_7 I S) m_again10 (cast (by kernel_rfl) h0) ?_
      clear h0
      intro m_again10 l I S hle h
      obtain ⟨words_3, words_3n, words_3c, e3, h⟩ := asSl_e h
      obtain ⟨at_5, e5, h⟩ := asI_e h
      obtain ⟨most_6, e6, h⟩ := asI_e h
      obtain ⟨k_7, e7, h⟩ := asI_e h
      rw [upd_eta e3, upd_eta e5, upd_eta e6, upd_eta e7]
      have h := hr m_again10 words_3 words_3n words_3c at_5 most_6 k_7 I S hle h
      clear hr hle
      refine WP.cut 1 (fun l I S => asSl (l 3) fun words_3 words_3n words_3c => asI .i64 (l 5) fun at_5 => asI .i64 (l 6) fun most_6 => asI .i64 (l 7) fun k_7 => owner_six_b11 (fun words_3 words_3n words_3c at_5 most_6 k_7 I S => ∃ m', m' < m_again10 ∧ Inv_again10 m' words_3 words_3n words_3c at_5 most_6 k_7 I S) R words_3 words_3n words_3c at_5 most_6 k_7 I S) (cast (by kernel_rfl) h) ?_
      clear h
      intro l I S _ h
      obtain ⟨words_3, words_3n, words_3c, e3, h⟩ := asSl_e h
      obtain ⟨at_5, e5, h⟩ := asI_e h
      obtain ⟨most_6, e6, h⟩ := asI_e h
      obtain ⟨k_7, e7, h⟩ := asI_e h
      rw [upd_eta e3, upd_eta e5, upd_eta e6, upd_eta e7]
      refine WP.seqY (by kernel_rfl) (fun l I S => asSl (l 3) fun words_3 words_3n words_3c => asI .i64 (l 5) fun at_5 => asI .i64 (l 6) fun most_6 => asI .i64 (l 7) fun k_7 => owner_six_b17 (fun words_3 words_3n words_3c at_5 most_6 k_7 I S => ∃ m', m' < m_again10 ∧ Inv_again10 m' words_3 words_3n words_3c at_5 most_6 k_7 I S) R words_3 words_3n words_3c at_5 most_6 k_7 I S) ?_ ?_
      ·
        refine WP.block' (by kernel_rfl) ?_
        refine WP.cut 1 (fun l I S => asSl (l 3) fun words_3 words_3n words_3c => asI .i64 (l 5) fun at_5 => asI .i64 (l 6) fun most_6 => asI .i64 (l 7) fun k_7 => asI .i64 (l 8) fun n_8 => owner_six_b12 (fun words_3 words_3n words_3c at_5 most_6 k_7 I S => ∃ m', m' < m_again10 ∧ Inv_again10 m' words_3 words_3n words_3c at_5 most_6 k_7 I S) R words_3 words_3n words_3c at_5 most_6 k_7 n_8 I S) (cast (by kernel_rfl) h) ?_
        clear h
        intro l I S _ h
        obtain ⟨words_3, words_3n, words_3c, e3, h⟩ := asSl_e h
        obtain ⟨at_5, e5, h⟩ := asI_e h
        obtain ⟨most_6, e6, h⟩ := asI_e h
        obtain ⟨k_7, e7, h⟩ := asI_e h
        obtain ⟨n_8, e8, h⟩ := asI_e h
        rw [upd_eta e3, upd_eta e5, upd_eta e6, upd_eta e7, upd_eta e8]
        refine WP.seqY (by kernel_rfl) (fun l I S => asSl (l 3) fun words_3 words_3n words_3c => asI .i64 (l 5) fun at_5 => asI .i64 (l 6) fun most_6 => asI .i64 (l 7) fun k_7 => asI .i64 (l 8) fun n_8 => owner_six_b16 (fun words_3 words_3n words_3c at_5 most_6 k_7 I S => ∃ m', m' < m_again10 ∧ Inv_again10 m' words_3 words_3n words_3c at_5 most_6 k_7 I S) R words_3 words_3n words_3c at_5 most_6 k_7 n_8 I S) ?_ ?_
        ·
          refine WP.block' (by kernel_rfl) ?_
          obtain ⟨Inv_again13, m_again13, h0, hr⟩ := h
          refine WP.loop' (by kernel_rfl) (fun m_again13 => fun l I S => asSl (l 3) fun words_3 words_3n words_3c => asI .i64 (l 5) fun at_5 => asI .i64 (l 6) fun most_6 => asI .i64 (l 7) fun k_7 => asI .i64 (l 8) fun n_8 => Inv_again13 m_again13 words_3 words_3n words_3c at_5 most_6 k_7 n_8 I S) m_again13 (cast (by kernel_rfl) h0) ?_
          clear h0
          intro m_again13 l I S hle h
          obtain ⟨words_3, words_3n, words_3c, e3, h⟩ := asSl_e h
          obtain ⟨at_5, e5, h⟩ := asI_e h
          obtain ⟨most_6, e6, h⟩ := asI_e h
          obtain ⟨k_7, e7, h⟩ := asI_e h
          obtain ⟨n_8, e8, h⟩ := asI_e h
          rw [upd_eta e3, upd_eta e5, upd_eta e6, upd_eta e7, upd_eta e8]
          have h := hr m_again13 words_3 words_3n words_3c at_5 most_6 k_7 n_8 I S hle h
          clear hr hle
          refine WP.seqY (by kernel_rfl) (fun l I S => asSl (l 3) fun words_3 words_3n words_3c => asI .i64 (l 5) fun at_5 => asI .i64 (l 6) fun most_6 => asI .i64 (l 7) fun k_7 => asI .i64 (l 8) fun n_8 => owner_six_b15 (fun words_3 words_3n words_3c at_5 most_6 k_7 I S => ∃ m', m' < m_again10 ∧ Inv_again10 m' words_3 words_3n words_3c at_5 most_6 k_7 I S) (fun words_3 words_3n words_3c at_5 most_6 k_7 n_8 I S => ∃ m', m' < m_again13 ∧ Inv_again13 m' words_3 words_3n words_3c at_5 most_6 k_7 n_8 I S) R words_3 words_3n words_3c at_5 most_6 k_7 n_8 I S) ?_ ?_
          ·
            refine WP.cut 1 (fun l I S => asSl (l 3) fun words_3 words_3n words_3c => asI .i64 (l 5) fun at_5 => asI .i64 (l 6) fun most_6 => asI .i64 (l 7) fun k_7 => asI .i64 (l 8) fun n_8 => asB (l 50) fun x50 => owner_six_b14 (fun words_3 words_3n words_3c at_5 most_6 k_7 I S => ∃ m', m' < m_again10 ∧ Inv_again10 m' words_3 words_3n words_3c at_5 most_6 k_7 I S) (fun words_3 words_3n words_3c at_5 most_6 k_7 n_8 I S => ∃ m', m' < m_again13 ∧ Inv_again13 m' words_3 words_3n words_3c at_5 most_6 k_7 n_8 I S) R words_3 words_3n words_3c at_5 most_6 k_7 n_8 x50 I S) (cast (by kernel_rfl) h) ?_
            clear h
            intro l I S _ h
            obtain ⟨words_3, words_3n, words_3c, e3, h⟩ := asSl_e h
            obtain ⟨at_5, e5, h⟩ := asI_e h
            obtain ⟨most_6, e6, h⟩ := asI_e h
            obtain ⟨k_7, e7, h⟩ := asI_e h
            obtain ⟨n_8, e8, h⟩ := asI_e h
            obtain ⟨x50, e50, h⟩ := asB_e h
            rw [upd_eta e3, upd_eta e5, upd_eta e6, upd_eta e7, upd_eta e8, upd_eta e50]
            exact Pre.sound _ _ _ _ _ (cast (by kernel_rfl) h)
          · clear h
            intro l I S _ h
            obtain ⟨words_3, words_3n, words_3c, e3, h⟩ := asSl_e h
            obtain ⟨at_5, e5, h⟩ := asI_e h
            obtain ⟨most_6, e6, h⟩ := asI_e h
            obtain ⟨k_7, e7, h⟩ := asI_e h
            obtain ⟨n_8, e8, h⟩ := asI_e h
            rw [upd_eta e3, upd_eta e5, upd_eta e6, upd_eta e7, upd_eta e8]
            exact Pre.sound _ _ _ _ _ (cast (by kernel_rfl) h)
        · clear h
          intro l I S _ h
          obtain ⟨words_3, words_3n, words_3c, e3, h⟩ := asSl_e h
          obtain ⟨at_5, e5, h⟩ := asI_e h
          obtain ⟨most_6, e6, h⟩ := asI_e h
          obtain ⟨k_7, e7, h⟩ := asI_e h
          obtain ⟨n_8, e8, h⟩ := asI_e h
          rw [upd_eta e3, upd_eta e5, upd_eta e6, upd_eta e7, upd_eta e8]
          exact Pre.sound _ _ _ _ _ (cast (by kernel_rfl) h)
      · clear h
        intro l I S _ h
        obtain ⟨words_3, words_3n, words_3c, e3, h⟩ := asSl_e h
        obtain ⟨at_5, e5, h⟩ := asI_e h
        obtain ⟨most_6, e6, h⟩ := asI_e h
        obtain ⟨k_7, e7, h⟩ := asI_e h
        rw [upd_eta e3, upd_eta e5, upd_eta e6, upd_eta e7]
        exact Pre.sound _ _ _ _ _ (cast (by kernel_rfl) h)
    · clear h
      intro l I S _ h
      obtain ⟨words_3, words_3n, words_3c, e3, h⟩ := asSl_e h
      obtain ⟨at_5, e5, h⟩ := asI_e h
      obtain ⟨most_6, e6, h⟩ := asI_e h
      rw [upd_eta e3, upd_eta e5, upd_eta e6]
      refine WP.cut 1 (fun l I S => asSl (l 3) fun words_3 words_3n words_3c => asI .i64 (l 5) fun at_5 => asI .i64 (l 6) fun most_6 => asSl (l 9) fun out_9 out_9n out_9c => owner_six_b19 R words_3 words_3n words_3c at_5 most_6 out_9 out_9n out_9c I S) (cast (by kernel_rfl) h) ?_
      clear h
      intro l I S _ h
      obtain ⟨words_3, words_3n, words_3c, e3, h⟩ := asSl_e h
      obtain ⟨at_5, e5, h⟩ := asI_e h
      obtain ⟨most_6, e6, h⟩ := asI_e h
      obtain ⟨out_9, out_9n, out_9c, e9, h⟩ := asSl_e h
      rw [upd_eta e3, upd_eta e5, upd_eta e6, upd_eta e9]
      refine WP.seqY (by kernel_rfl) (fun l I S => asSl (l 9) fun out_9 out_9n out_9c => owner_six_b23 R out_9 out_9n out_9c I S) ?_ ?_
      ·
        refine WP.cut 1 (fun l I S => asSl (l 3) fun words_3 words_3n words_3c => asI .i64 (l 5) fun at_5 => asI .i64 (l 6) fun most_6 => asSl (l 9) fun out_9 out_9n out_9c => asI .i64 (l 10) fun k_10 => owner_six_b20 R words_3 words_3n words_3c at_5 most_6 out_9 out_9n out_9c k_10 I S) (cast (by kernel_rfl) h) ?_
        clear h
        intro l I S _ h
        obtain ⟨words_3, words_3n, words_3c, e3, h⟩ := asSl_e h
        obtain ⟨at_5, e5, h⟩ := asI_e h
        obtain ⟨most_6, e6, h⟩ := asI_e h
        obtain ⟨out_9, out_9n, out_9c, e9, h⟩ := asSl_e h
        obtain ⟨k_10, e10, h⟩ := asI_e h
        rw [upd_eta e3, upd_eta e5, upd_eta e6, upd_eta e9, upd_eta e10]
        refine WP.block' (by kernel_rfl) ?_
        obtain ⟨Inv_again21, m_again21, h0, hr⟩ := h
        refine WP.loop' (by kernel_rfl) (fun m_again21 => fun l I S => asSl (l 3) fun words_3 words_3n words_3c => asI .i64 (l 5) fun at_5 => asI .i64 (l 6) fun most_6 => asSl (l 9) fun out_9 out_9n out_9c => asI .i64 (l 10) fun k_10 => Inv_again21 m_again21 words_3 words_3n words_3c at_5 most_6 out_9 out_9n out_9c k_10 I S) m_again21 (cast (by kernel_rfl) h0) ?_
        clear h0
        intro m_again21 l I S hle h
        obtain ⟨words_3, words_3n, words_3c, e3, h⟩ := asSl_e h
        obtain ⟨at_5, e5, h⟩ := asI_e h
        obtain ⟨most_6, e6, h⟩ := asI_e h
        obtain ⟨out_9, out_9n, out_9c, e9, h⟩ := asSl_e h
        obtain ⟨k_10, e10, h⟩ := asI_e h
        rw [upd_eta e3, upd_eta e5, upd_eta e6, upd_eta e9, upd_eta e10]
        have h := hr m_again21 words_3 words_3n words_3c at_5 most_6 out_9 out_9n out_9c k_10 I S hle h
        clear hr hle
        refine WP.cut 2 (fun l I S => asSl (l 3) fun words_3 words_3n words_3c => asI .i64 (l 5) fun at_5 => asI .i64 (l 6) fun most_6 => asSl (l 9) fun out_9 out_9n out_9c => asI .i64 (l 10) fun k_10 => owner_six_b22 (fun words_3 words_3n words_3c at_5 most_6 out_9 out_9n out_9c k_10 I S => ∃ m', m' < m_again21 ∧ Inv_again21 m' words_3 words_3n words_3c at_5 most_6 out_9 out_9n out_9c k_10 I S) R words_3 words_3n words_3c at_5 most_6 out_9 out_9n out_9c k_10 I S) (cast (by kernel_rfl) h) ?_
        clear h
        intro l I S _ h
        obtain ⟨words_3, words_3n, words_3c, e3, h⟩ := asSl_e h
        obtain ⟨at_5, e5, h⟩ := asI_e h
        obtain ⟨most_6, e6, h⟩ := asI_e h
        obtain ⟨out_9, out_9n, out_9c, e9, h⟩ := asSl_e h
        obtain ⟨k_10, e10, h⟩ := asI_e h
        rw [upd_eta e3, upd_eta e5, upd_eta e6, upd_eta e9, upd_eta e10]
        exact Pre.sound _ _ _ _ _ (cast (by kernel_rfl) h)
      · clear h
        intro l I S _ h
        obtain ⟨out_9, out_9n, out_9c, e9, h⟩ := asSl_e h
        rw [upd_eta e9]
        exact Pre.sound _ _ _ _ _ (cast (by kernel_rfl) h)
/-! ### owner_decimal: function 41, bolter/owner.decimal -/
noncomputable def owner_decimal_code : Code := (Tryd.f41.body).getD .skip
def owner_decimal_b1 (R : Value → IMem → SH → Prop) (x4 : Int) (x5 : Bool) (I : IMem) (S : SH) : Prop :=
  R (.tuple #[.int .i64 x4, .bool x5]) I S
def owner_decimal (R : Value → IMem → SH → Prop) (s_0 : ByteArray) (most_1 : Int) (I : IMem) (S : SH) : Prop :=
  Runs Tryd.prog 62 #[.string s_0] I S fun v I1 S1 => ∃ x10_0 x10_1, v = .tuple #[.int .i64 x10_0, x10_1] ∧
  ∃ nl, isNilI x10_1 = some nl ∧
  bcase nl
    (bcase (decide (x10_0 ≥ (0 : Int)))
      (bcase (decide (x10_0 ≤ most_1))
        (Runs Tryd.prog 38 #[.int .i64 x10_0] I1 S1 fun v' I1' S1' => ∃ x27, v' = .string x27 ∧
        owner_decimal_b1 R x10_0 (x27.toList == s_0.toList) I1' S1')
        (owner_decimal_b1 R x10_0 false I1 S1))
      (owner_decimal_b1 R x10_0 false I1 S1))
    (owner_decimal_b1 R x10_0 false I1 S1)
theorem owner_decimal_fn (R : Value → IMem → SH → Prop) (s_0 : ByteArray) (most_1 : Int) (I : IMem) (S : SH) (h : owner_decimal R s_0 most_1 I S) :
    Runs Tryd.prog 41 #[.string s_0, .int .i64 most_1] I S R := by
  refine Runs.of_wp (args := [.string s_0, .int .i64 most_1]) (c := owner_decimal_code) Tryd.func41 (by kernel_rfl) (by kernel_rfl) ?_
  refine WP.cut 3 (fun l I S => asI .i64 (l 4) fun x4 => asB (l 5) fun x5 => owner_decimal_b1 R x4 x5 I S) (cast (by kernel_rfl) h) ?_
  clear h
  intro l I S _ h
  obtain ⟨x4, e4, h⟩ := asI_e h
  obtain ⟨x5, e5, h⟩ := asB_e h
  rw [upd_eta e4, upd_eta e5]
  exact Pre.sound _ _ _ _ _ (cast (by kernel_rfl) h)
/-! ### owner_address: function 42, bolter/owner.address -/
noncomputable def owner_address_code : Code := (Tryd.f42.body).getD .skip
def owner_address_b5 (R : Value → IMem → SH → Prop) (b_4 : Option Addr) (b_4n : Nat) (b_4c : Nat) (I : IMem) (S : SH) : Prop :=
  ∃ x47 : ByteArray, BytesAt I S b_4 b_4n x47 ∧
  R (.tuple #[.string x47, .bool true]) I S
def owner_address_l4 (again4 : Option Addr → Nat → Nat → Option Addr → Nat → Nat → Int → Int → IMem → SH → Prop) (R : Value → IMem → SH → Prop) (b_4 : Option Addr) (b_4n : Nat) (b_4c : Nat) (x27 : Option Addr) (x27n : Nat) (x27c : Nat) (x28 : Int) (x29 : Int) (I : IMem) (S : SH) : Prop :=
  bcase (decide (x29 < x28))
    (ptrP x27 fun x31 => (0 : Int) ≤ x29 ∧ x29 < (x27n : Int) ∧
    ∃ x32, Cell I S (x31.add (x29.toNat * 1)) (.string x32) ∧
    Runs Tryd.prog 41 #[.string x32, .int .i64 255] I S fun v I1 S1 => ∃ x35_0 x35_1, v = .tuple #[.int .i64 x35_0, .bool x35_1] ∧
    bcase (!x35_1)
      (R (.tuple #[.string ⟨#[]⟩, .bool false]) I1 S1)
      (∀ b43 : Nat,
      AppG 5 1 1 [.int .u8 0] (some (.slice 5)) I1 ((b43, .cells #[.int .u8 (IntKind.wrap .u8 x35_0)] 5 (0, 0)) :: S1) (.slice b_4 b_4n b_4c) (.slice (some ⟨b43, 0, none⟩) 1 1) fun x44 x44n x44c S1' =>
      again4 x44 x44n x44c x27 x27n x27c x28 (IntKind.wrap .i64 (x29 + (1 : Int))) I1 S1'))
    (owner_address_b5 R b_4 b_4n b_4c I S)
def owner_address_b3 (R : Value → IMem → SH → Prop) (b_4 : Option Addr) (b_4n : Nat) (b_4c : Nat) (x27 : Option Addr) (x27n : Nat) (x27c : Nat) (x28 : Int) (x29 : Int) (I : IMem) (S : SH) : Prop :=
  ∃ (Inv : Nat → Option Addr → Nat → Nat → Option Addr → Nat → Nat → Int → Int → IMem → SH → Prop) (m : Nat), Inv m b_4 b_4n b_4c x27 x27n x27c x28 x29 I S ∧
    ∀ (m : Nat) (b_4 : Option Addr) (b_4n : Nat) (b_4c : Nat) (x27 : Option Addr) (x27n : Nat) (x27c : Nat) (x28 : Int) (x29 : Int) (J : IMem) (T : SH), I.le J → Inv m b_4 b_4n b_4c x27 x27n x27c x28 x29 J T →
      owner_address_l4 (fun b_4 b_4n b_4c x27 x27n x27c x28 x29 I S => ∃ m', m' < m ∧ Inv m' b_4 b_4n b_4c x27 x27n x27c x28 x29 I S) R b_4 b_4n b_4c x27 x27n x27c x28 x29 J T
def owner_address_b12 (R : Value → IMem → SH → Prop) (b_4 : Option Addr) (b_4n : Nat) (b_4c : Nat) (I : IMem) (S : SH) : Prop :=
  ∃ x94 : ByteArray, BytesAt I S b_4 b_4n x94 ∧
  R (.tuple #[.string x94, .bool true]) I S
def owner_address_l11 (again11 : Option Addr → Nat → Nat → Option Addr → Nat → Nat → Int → Int → IMem → SH → Prop) (R : Value → IMem → SH → Prop) (b_4 : Option Addr) (b_4n : Nat) (b_4c : Nat) (x71 : Option Addr) (x71n : Nat) (x71c : Nat) (x72 : Int) (x73 : Int) (I : IMem) (S : SH) : Prop :=
  bcase (decide (x73 < x72))
    (ptrP x71 fun x75 => (0 : Int) ≤ x73 ∧ x73 < (x71n : Int) ∧
    ∃ x76, Cell I S (x75.add (x73.toNat * 1)) (.string x76) ∧
    Runs Tryd.prog 68 #[.string x76] I S fun v I1 S1 => ∃ x79_0 x79_1, v = .tuple #[.int .i64 x79_0, .bool x79_1] ∧
    bcase (!x79_1)
      (R (.tuple #[.string ⟨#[]⟩, .bool false]) I1 S1)
      (∀ b90 : Nat,
      AppG 5 1 1 [.int .u8 0] (some (.slice 5)) I1 ((b90, .cells #[.int .u8 (IntKind.wrap .u8 (x79_0.fdiv (2 ^ (min (8 : Int).toNat (IntKind.bits .i64))))), .int .u8 (IntKind.wrap .u8 x79_0)] 5 (0, 0)) :: S1) (.slice b_4 b_4n b_4c) (.slice (some ⟨b90, 0, none⟩) 2 2) fun x91 x91n x91c S1' =>
      again11 x91 x91n x91c x71 x71n x71c x72 (IntKind.wrap .i64 (x73 + (1 : Int))) I1 S1'))
    (owner_address_b12 R b_4 b_4n b_4c I S)
def owner_address_b10 (R : Value → IMem → SH → Prop) (b_4 : Option Addr) (b_4n : Nat) (b_4c : Nat) (x71 : Option Addr) (x71n : Nat) (x71c : Nat) (x72 : Int) (x73 : Int) (I : IMem) (S : SH) : Prop :=
  ∃ (Inv : Nat → Option Addr → Nat → Nat → Option Addr → Nat → Nat → Int → Int → IMem → SH → Prop) (m : Nat), Inv m b_4 b_4n b_4c x71 x71n x71c x72 x73 I S ∧
    ∀ (m : Nat) (b_4 : Option Addr) (b_4n : Nat) (b_4c : Nat) (x71 : Option Addr) (x71n : Nat) (x71c : Nat) (x72 : Int) (x73 : Int) (J : IMem) (T : SH), I.le J → Inv m b_4 b_4n b_4c x71 x71n x71c x72 x73 J T →
      owner_address_l11 (fun b_4 b_4n b_4c x71 x71n x71c x72 x73 I S => ∃ m', m' < m ∧ Inv m' b_4 b_4n b_4c x71 x71n x71c x72 x73 I S) R b_4 b_4n b_4c x71 x71n x71c x72 x73 J T
def owner_address_b9 (R : Value → IMem → SH → Prop) (ls_0 : Option Addr) (ls_0n : Nat) (ls_0c : Nat) (b_4 : Option Addr) (b_4n : Nat) (b_4c : Nat) (I : IMem) (S : SH) : Prop :=
  owner_address_b10 R b_4 b_4n b_4c ls_0 ls_0n ls_0c (ls_0n : Int) 0 I S
def owner_address_b8 (R : Value → IMem → SH → Prop) (ls_0 : Option Addr) (ls_0n : Nat) (ls_0c : Nat) (b_4 : Option Addr) (b_4n : Nat) (b_4c : Nat) (I : IMem) (S : SH) : Prop :=
  bcase ((ls_0n : Int) != (8 : Int))
    (R (.tuple #[.string ⟨#[]⟩, .bool false]) I S)
    (owner_address_b9 R ls_0 ls_0n ls_0c b_4 b_4n b_4c I S)
def owner_address_b7 (R : Value → IMem → SH → Prop) (ls_0 : Option Addr) (ls_0n : Nat) (ls_0c : Nat) (b_4 : Option Addr) (b_4n : Nat) (b_4c : Nat) (k_9 : Int) (x56 : Bool) (I : IMem) (S : SH) : Prop :=
  bcase x56
    (∀ b57 : Nat,
    Runs Tryd.prog 66 #[.slice (some ⟨b57, 0, none⟩) 1 1, .int .i64 (IntKind.wrap .i64 ((9 : Int) - (ls_0n : Int)))] I ((b57, .cells #[.string ⟨#[48]⟩] 9 (0, 0)) :: S) fun v I1 S1 => ∃ x61 x61n x61c, v = .slice x61 x61n x61c ∧
    Runs Tryd.prog 67 #[.slice ls_0 ls_0n ls_0c, .int .i64 k_9, .int .i64 (IntKind.wrap .i64 (k_9 + (1 : Int))), .slice x61 x61n x61c] I1 S1 fun v' I1' S1' => ∃ x67 x67n x67c, v' = .slice x67 x67n x67c ∧
    owner_address_b8 R x67 x67n x67c b_4 b_4n b_4c I1' S1')
    (owner_address_b8 R ls_0 ls_0n ls_0c b_4 b_4n b_4c I S)
def owner_address_b6 (R : Value → IMem → SH → Prop) (ls_0 : Option Addr) (ls_0n : Nat) (ls_0c : Nat) (b_4 : Option Addr) (b_4n : Nat) (b_4c : Nat) (I : IMem) (S : SH) : Prop :=
  Runs Tryd.prog 65 #[.slice ls_0 ls_0n ls_0c, .string ⟨#[122, 122]⟩] I S fun v I1 S1 => ∃ x49, v = .int .i64 x49 ∧
  bcase (decide (x49 ≥ (0 : Int)))
    (owner_address_b7 R ls_0 ls_0n ls_0c b_4 b_4n b_4c x49 (decide ((ls_0n : Int) ≤ (7 : Int))) I1 S1)
    (owner_address_b7 R ls_0 ls_0n ls_0c b_4 b_4n b_4c x49 false I1 S1)
def owner_address_b2 (R : Value → IMem → SH → Prop) (ls_0 : Option Addr) (ls_0n : Nat) (ls_0c : Nat) (b_4 : Option Addr) (b_4n : Nat) (b_4c : Nat) (x26 : Bool) (I : IMem) (S : SH) : Prop :=
  bcase x26
    (owner_address_b3 R b_4 b_4n b_4c ls_0 ls_0n ls_0c (ls_0n : Int) 0 I S)
    (owner_address_b6 R ls_0 ls_0n ls_0c b_4 b_4n b_4c I S)
def owner_address_b1 (R : Value → IMem → SH → Prop) (ls_0 : Option Addr) (ls_0n : Nat) (ls_0c : Nat) (b_4 : Option Addr) (b_4n : Nat) (b_4c : Nat) (I : IMem) (S : SH) : Prop :=
  bcase ((ls_0n : Int) == (4 : Int))
    (Runs Tryd.prog 64 #[.slice ls_0 ls_0n ls_0c, .string ⟨#[122, 122]⟩] I S fun v I1 S1 => ∃ x24, v = .bool x24 ∧
    owner_address_b2 R ls_0 ls_0n ls_0c b_4 b_4n b_4c (!x24) I1 S1)
    (owner_address_b2 R ls_0 ls_0n ls_0c b_4 b_4n b_4c false I S)
def owner_address (R : Value → IMem → SH → Prop) (ls_0 : Option Addr) (ls_0n : Nat) (ls_0c : Nat) (I : IMem) (S : SH) : Prop :=
  Runs Tryd.prog 63 #[.slice ls_0 ls_0n ls_0c] I S fun v I1 S1 => ∃ x16 x16n x16c, v = .slice x16 x16n x16c ∧
  Runs Tryd.prog 61 #[.slice x16 x16n x16c] I1 S1 fun v' I1' S1' => v' = .tuple #[] ∧
  owner_address_b1 R x16 x16n x16c none 0 0 I1' S1'
theorem owner_address_fn (R : Value → IMem → SH → Prop) (ls_0 : Option Addr) (ls_0n : Nat) (ls_0c : Nat) (I : IMem) (S : SH) (h : owner_address R ls_0 ls_0n ls_0c I S) :
    Runs Tryd.prog 42 #[.slice ls_0 ls_0n ls_0c] I S R := by
  refine Runs.of_wp (args := [.slice ls_0 ls_0n ls_0c]) (c := owner_address_code) Tryd.func42 (by kernel_rfl) (by kernel_rfl) ?_
  refine WP.cut 4 (fun l I S => asSl (l 0) fun ls_0 ls_0n ls_0c => asSl (l 4) fun b_4 b_4n b_4c => owner_address_b1 R ls_0 ls_0n ls_0c b_4 b_4n b_4c I S) (cast (by kernel_rfl) h) ?_
  clear h
  intro l I S _ h
  obtain ⟨ls_0, ls_0n, ls_0c, e0, h⟩ := asSl_e h
  obtain ⟨b_4, b_4n, b_4c, e4, h⟩ := asSl_e h
  rw [upd_eta e0, upd_eta e4]
  refine WP.seqY (by kernel_rfl) (fun l I S => asSl (l 0) fun ls_0 ls_0n ls_0c => asSl (l 4) fun b_4 b_4n b_4c => owner_address_b6 R ls_0 ls_0n ls_0c b_4 b_4n b_4c I S) ?_ ?_
  ·
    refine WP.cut 1 (fun l I S => asSl (l 0) fun ls_0 ls_0n ls_0c => asSl (l 4) fun b_4 b_4n b_4c => asB (l 26) fun x26 => owner_address_b2 R ls_0 ls_0n ls_0c b_4 b_4n b_4c x26 I S) (cast (by kernel_rfl) h) ?_
    clear h
    intro l I S _ h
    obtain ⟨ls_0, ls_0n, ls_0c, e0, h⟩ := asSl_e h
    obtain ⟨b_4, b_4n, b_4c, e4, h⟩ := asSl_e h
    obtain ⟨x26, e26, h⟩ := asB_e h
    rw [upd_eta e0, upd_eta e4, upd_eta e26]
    refine WP.cond' (by kernel_rfl) (by kernel_rfl) h ?_ ?_
    · clear h
      intro h
      refine WP.seqY (by kernel_rfl) (fun l I S => asSl (l 4) fun b_4 b_4n b_4c => owner_address_b5 R b_4 b_4n b_4c I S) ?_ ?_
      ·
        refine WP.cut 1 (fun l I S => asSl (l 4) fun b_4 b_4n b_4c => asSl (l 27) fun x27 x27n x27c => asI .i64 (l 28) fun x28 => asI .i64 (l 29) fun x29 => owner_address_b3 R b_4 b_4n b_4c x27 x27n x27c x28 x29 I S) (cast (by kernel_rfl) h) ?_
        clear h
        intro l I S _ h
        obtain ⟨b_4, b_4n, b_4c, e4, h⟩ := asSl_e h
        obtain ⟨x27, x27n, x27c, e27, h⟩ := asSl_e h
        obtain ⟨x28, e28, h⟩ := asI_e h
        obtain ⟨x29, e29, h⟩ := asI_e h
        rw [upd_eta e4, upd_eta e27, upd_eta e28, upd_eta e29]
        refine WP.block' (by kernel_rfl) ?_
        obtain ⟨Inv_again4, m_again4, h0, hr⟩ := h
        refine WP.loop' (by kernel_rfl) (fun m_again4 => fun l I S => asSl (l 4) fun b_4 b_4n b_4c => asSl (l 27) fun x27 x27n x27c => asI .i64 (l 28) fun x28 => asI .i64 (l 29) fun x29 => Inv_again4 m_again4 b_4 b_4n b_4c x27 x27n x27c x28 x29 I S) m_again4 (cast (by kernel_rfl) h0) ?_
        clear h0
        intro m_again4 l I S hle h
        obtain ⟨b_4, b_4n, b_4c, e4, h⟩ := asSl_e h
        obtain ⟨x27, x27n, x27c, e27, h⟩ := asSl_e h
        obtain ⟨x28, e28, h⟩ := asI_e h
        obtain ⟨x29, e29, h⟩ := asI_e h
        rw [upd_eta e4, upd_eta e27, upd_eta e28, upd_eta e29]
        have h := hr m_again4 b_4 b_4n b_4c x27 x27n x27c x28 x29 I S hle h
        clear hr hle
        exact Pre.sound _ _ _ _ _ (cast (by kernel_rfl) h)
      · clear h
        intro l I S _ h
        obtain ⟨b_4, b_4n, b_4c, e4, h⟩ := asSl_e h
        rw [upd_eta e4]
        exact Pre.sound _ _ _ _ _ (cast (by kernel_rfl) h)
    · clear h
      intro h
      exact Pre.sound _ _ _ _ _ (cast (by kernel_rfl) h)
  · clear h
    intro l I S _ h
    obtain ⟨ls_0, ls_0n, ls_0c, e0, h⟩ := asSl_e h
    obtain ⟨b_4, b_4n, b_4c, e4, h⟩ := asSl_e h
    rw [upd_eta e0, upd_eta e4]
    refine WP.seqY (by kernel_rfl) (fun l I S => asSl (l 0) fun ls_0 ls_0n ls_0c => asSl (l 4) fun b_4 b_4n b_4c => owner_address_b8 R ls_0 ls_0n ls_0c b_4 b_4n b_4c I S) ?_ ?_
    ·
      refine WP.cut 2 (fun l I S => asSl (l 0) fun ls_0 ls_0n ls_0c => asSl (l 4) fun b_4 b_4n b_4c => asI .i64 (l 9) fun k_9 => asB (l 56) fun x56 => owner_address_b7 R ls_0 ls_0n ls_0c b_4 b_4n b_4c k_9 x56 I S) (cast (by kernel_rfl) h) ?_
      clear h
      intro l I S _ h
      obtain ⟨ls_0, ls_0n, ls_0c, e0, h⟩ := asSl_e h
      obtain ⟨b_4, b_4n, b_4c, e4, h⟩ := asSl_e h
      obtain ⟨k_9, e9, h⟩ := asI_e h
      obtain ⟨x56, e56, h⟩ := asB_e h
      rw [upd_eta e0, upd_eta e4, upd_eta e9, upd_eta e56]
      exact Pre.sound _ _ _ _ _ (cast (by kernel_rfl) h)
    · clear h
      intro l I S _ h
      obtain ⟨ls_0, ls_0n, ls_0c, e0, h⟩ := asSl_e h
      obtain ⟨b_4, b_4n, b_4c, e4, h⟩ := asSl_e h
      rw [upd_eta e0, upd_eta e4]
      refine WP.cut 1 (fun l I S => asSl (l 0) fun ls_0 ls_0n ls_0c => asSl (l 4) fun b_4 b_4n b_4c => owner_address_b9 R ls_0 ls_0n ls_0c b_4 b_4n b_4c I S) (cast (by kernel_rfl) h) ?_
      clear h
      intro l I S _ h
      obtain ⟨ls_0, ls_0n, ls_0c, e0, h⟩ := asSl_e h
      obtain ⟨b_4, b_4n, b_4c, e4, h⟩ := asSl_e h
      rw [upd_eta e0, upd_eta e4]
      refine WP.seqY (by kernel_rfl) (fun l I S => asSl (l 4) fun b_4 b_4n b_4c => owner_address_b12 R b_4 b_4n b_4c I S) ?_ ?_
      ·
        refine WP.cut 1 (fun l I S => asSl (l 4) fun b_4 b_4n b_4c => asSl (l 71) fun x71 x71n x71c => asI .i64 (l 72) fun x72 => asI .i64 (l 73) fun x73 => owner_address_b10 R b_4 b_4n b_4c x71 x71n x71c x72 x73 I S) (cast (by kernel_rfl) h) ?_
        clear h
        intro l I S _ h
        obtain ⟨b_4, b_4n, b_4c, e4, h⟩ := asSl_e h
        obtain ⟨x71, x71n, x71c, e71, h⟩ := asSl_e h
        obtain ⟨x72, e72, h⟩ := asI_e h
        obtain ⟨x73, e73, h⟩ := asI_e h
        rw [upd_eta e4, upd_eta e71, upd_eta e72, upd_eta e73]
        refine WP.block' (by kernel_rfl) ?_
        obtain ⟨Inv_again11, m_again11, h0, hr⟩ := h
        refine WP.loop' (by kernel_rfl) (fun m_again11 => fun l I S => asSl (l 4) fun b_4 b_4n b_4c => asSl (l 71) fun x71 x71n x71c => asI .i64 (l 72) fun x72 => asI .i64 (l 73) fun x73 => Inv_again11 m_again11 b_4 b_4n b_4c x71 x71n x71c x72 x73 I S) m_again11 (cast (by kernel_rfl) h0) ?_
        clear h0
        intro m_again11 l I S hle h
        obtain ⟨b_4, b_4n, b_4c, e4, h⟩ := asSl_e h
        obtain ⟨x71, x71n, x71c, e71, h⟩ := asSl_e h
        obtain ⟨x72, e72, h⟩ := asI_e h
        obtain ⟨x73, e73, h⟩ := asI_e h
        rw [upd_eta e4, upd_eta e71, upd_eta e72, upd_eta e73]
        have h := hr m_again11 b_4 b_4n b_4c x71 x71n x71c x72 x73 I S hle h
        clear hr hle
        exact Pre.sound _ _ _ _ _ (cast (by kernel_rfl) h)
      · clear h
        intro l I S _ h
        obtain ⟨b_4, b_4n, b_4c, e4, h⟩ := asSl_e h
        rw [upd_eta e4]
        exact Pre.sound _ _ _ _ _ (cast (by kernel_rfl) h)
/-! ### slices_Equal__string_string: function 43, slices.Equal[[]string,string] -/
noncomputable def slices_Equal__string_string_code : Code := (Tryd.f43.body).getD .skip
def slices_Equal__string_string_b7 (again3 : Option Addr → Nat → Nat → Option Addr → Nat → Nat → Int → Int → IMem → SH → Prop) (R : Value → IMem → SH → Prop) (s1_0 : Option Addr) (s1_0n : Nat) (s1_0c : Nat) (s2_1 : Option Addr) (s2_1n : Nat) (s2_1c : Nat) (x12 : Int) (x13 : Int) (I : IMem) (S : SH) : Prop :=
  again3 s1_0 s1_0n s1_0c s2_1 s2_1n s2_1c x12 (IntKind.wrap .i64 (x13 + (1 : Int))) I S
def slices_Equal__string_string_b6 (again3 : Option Addr → Nat → Nat → Option Addr → Nat → Nat → Int → Int → IMem → SH → Prop) (R : Value → IMem → SH → Prop) (s1_0 : Option Addr) (s1_0n : Nat) (s1_0c : Nat) (s2_1 : Option Addr) (s2_1n : Nat) (s2_1c : Nat) (x12 : Int) (x13 : Int) (x24 : Bool) (I : IMem) (S : SH) : Prop :=
  bcase x24
    (R (.bool false) I S)
    (slices_Equal__string_string_b7 again3 R s1_0 s1_0n s1_0c s2_1 s2_1n s2_1c x12 x13 I S)
def slices_Equal__string_string_b5 (again3 : Option Addr → Nat → Nat → Option Addr → Nat → Nat → Int → Int → IMem → SH → Prop) (R : Value → IMem → SH → Prop) (s1_0 : Option Addr) (s1_0n : Nat) (s1_0c : Nat) (s2_1 : Option Addr) (s2_1n : Nat) (s2_1c : Nat) (i_5 : Int) (x12 : Int) (x13 : Int) (I : IMem) (S : SH) : Prop :=
  ptrP s1_0 fun x18 => (0 : Int) ≤ i_5 ∧ i_5 < (s1_0n : Int) ∧
  ∃ x19, Cell I S (x18.add (i_5.toNat * 1)) (.string x19) ∧
  ptrP s2_1 fun x22 => (0 : Int) ≤ i_5 ∧ i_5 < (s2_1n : Int) ∧
  ∃ x23, Cell I S (x22.add (i_5.toNat * 1)) (.string x23) ∧
  slices_Equal__string_string_b6 again3 R s1_0 s1_0n s1_0c s2_1 s2_1n s2_1c x12 x13 (!(x19.toList == x23.toList)) I S
def slices_Equal__string_string_b4 (again3 : Option Addr → Nat → Nat → Option Addr → Nat → Nat → Int → Int → IMem → SH → Prop) (R : Value → IMem → SH → Prop) (s1_0 : Option Addr) (s1_0n : Nat) (s1_0c : Nat) (s2_1 : Option Addr) (s2_1n : Nat) (s2_1c : Nat) (x12 : Int) (x13 : Int) (I : IMem) (S : SH) : Prop :=
  slices_Equal__string_string_b5 again3 R s1_0 s1_0n s1_0c s2_1 s2_1n s2_1c x13 x12 x13 I S
def slices_Equal__string_string_b8 (R : Value → IMem → SH → Prop) (I : IMem) (S : SH) : Prop :=
  R (.bool true) I S
def slices_Equal__string_string_l3 (again3 : Option Addr → Nat → Nat → Option Addr → Nat → Nat → Int → Int → IMem → SH → Prop) (R : Value → IMem → SH → Prop) (s1_0 : Option Addr) (s1_0n : Nat) (s1_0c : Nat) (s2_1 : Option Addr) (s2_1n : Nat) (s2_1c : Nat) (x12 : Int) (x13 : Int) (I : IMem) (S : SH) : Prop :=
  bcase (decide (x13 < x12))
    (slices_Equal__string_string_b4 again3 R s1_0 s1_0n s1_0c s2_1 s2_1n s2_1c x12 x13 I S)
    (slices_Equal__string_string_b8 R I S)
def slices_Equal__string_string_b2 (R : Value → IMem → SH → Prop) (s1_0 : Option Addr) (s1_0n : Nat) (s1_0c : Nat) (s2_1 : Option Addr) (s2_1n : Nat) (s2_1c : Nat) (x12 : Int) (x13 : Int) (I : IMem) (S : SH) : Prop :=
  ∃ (Inv : Nat → Option Addr → Nat → Nat → Option Addr → Nat → Nat → Int → Int → IMem → SH → Prop) (m : Nat), Inv m s1_0 s1_0n s1_0c s2_1 s2_1n s2_1c x12 x13 I S ∧
    ∀ (m : Nat) (s1_0 : Option Addr) (s1_0n : Nat) (s1_0c : Nat) (s2_1 : Option Addr) (s2_1n : Nat) (s2_1c : Nat) (x12 : Int) (x13 : Int) (J : IMem) (T : SH), I.le J → Inv m s1_0 s1_0n s1_0c s2_1 s2_1n s2_1c x12 x13 J T →
      slices_Equal__string_string_l3 (fun s1_0 s1_0n s1_0c s2_1 s2_1n s2_1c x12 x13 I S => ∃ m', m' < m ∧ Inv m' s1_0 s1_0n s1_0c s2_1 s2_1n s2_1c x12 x13 I S) R s1_0 s1_0n s1_0c s2_1 s2_1n s2_1c x12 x13 J T
def slices_Equal__string_string_b1 (R : Value → IMem → SH → Prop) (s1_0 : Option Addr) (s1_0n : Nat) (s1_0c : Nat) (s2_1 : Option Addr) (s2_1n : Nat) (s2_1c : Nat) (I : IMem) (S : SH) : Prop :=
  slices_Equal__string_string_b2 R s1_0 s1_0n s1_0c s2_1 s2_1n s2_1c (s1_0n : Int) 0 I S
def slices_Equal__string_string (R : Value → IMem → SH → Prop) (s1_0 : Option Addr) (s1_0n : Nat) (s1_0c : Nat) (s2_1 : Option Addr) (s2_1n : Nat) (s2_1c : Nat) (I : IMem) (S : SH) : Prop :=
  bcase ((s1_0n : Int) != (s2_1n : Int))
    (R (.bool false) I S)
    (slices_Equal__string_string_b1 R s1_0 s1_0n s1_0c s2_1 s2_1n s2_1c I S)
theorem slices_Equal__string_string_fn (R : Value → IMem → SH → Prop) (s1_0 : Option Addr) (s1_0n : Nat) (s1_0c : Nat) (s2_1 : Option Addr) (s2_1n : Nat) (s2_1c : Nat) (I : IMem) (S : SH) (h : slices_Equal__string_string R s1_0 s1_0n s1_0c s2_1 s2_1n s2_1c I S) :
    Runs Tryd.prog 43 #[.slice s1_0 s1_0n s1_0c, .slice s2_1 s2_1n s2_1c] I S R := by
  refine Runs.of_wp (args := [.slice s1_0 s1_0n s1_0c, .slice s2_1 s2_1n s2_1c]) (c := slices_Equal__string_string_code) Tryd.func43 (by kernel_rfl) (by kernel_rfl) ?_
  refine WP.cut 2 (fun l I S => asSl (l 0) fun s1_0 s1_0n s1_0c => asSl (l 1) fun s2_1 s2_1n s2_1c => slices_Equal__string_string_b1 R s1_0 s1_0n s1_0c s2_1 s2_1n s2_1c I S) (cast (by kernel_rfl) h) ?_
  clear h
  intro l I S _ h
  obtain ⟨s1_0, s1_0n, s1_0c, e0, h⟩ := asSl_e h
  obtain ⟨s2_1, s2_1n, s2_1c, e1, h⟩ := asSl_e h
  rw [upd_eta e0, upd_eta e1]
  refine WP.seqY (by kernel_rfl) (fun l I S => slices_Equal__string_string_b8 R I S) ?_ ?_
  ·
    refine WP.cut 1 (fun l I S => asSl (l 0) fun s1_0 s1_0n s1_0c => asSl (l 1) fun s2_1 s2_1n s2_1c => asI .i64 (l 12) fun x12 => asI .i64 (l 13) fun x13 => slices_Equal__string_string_b2 R s1_0 s1_0n s1_0c s2_1 s2_1n s2_1c x12 x13 I S) (cast (by kernel_rfl) h) ?_
    clear h
    intro l I S _ h
    obtain ⟨s1_0, s1_0n, s1_0c, e0, h⟩ := asSl_e h
    obtain ⟨s2_1, s2_1n, s2_1c, e1, h⟩ := asSl_e h
    obtain ⟨x12, e12, h⟩ := asI_e h
    obtain ⟨x13, e13, h⟩ := asI_e h
    rw [upd_eta e0, upd_eta e1, upd_eta e12, upd_eta e13]
    refine WP.block' (by kernel_rfl) ?_
    obtain ⟨Inv_again3, m_again3, h0, hr⟩ := h
    refine WP.loop' (by kernel_rfl) (fun m_again3 => fun l I S => asSl (l 0) fun s1_0 s1_0n s1_0c => asSl (l 1) fun s2_1 s2_1n s2_1c => asI .i64 (l 12) fun x12 => asI .i64 (l 13) fun x13 => Inv_again3 m_again3 s1_0 s1_0n s1_0c s2_1 s2_1n s2_1c x12 x13 I S) m_again3 (cast (by kernel_rfl) h0) ?_
    clear h0
    intro m_again3 l I S hle h
    obtain ⟨s1_0, s1_0n, s1_0c, e0, h⟩ := asSl_e h
    obtain ⟨s2_1, s2_1n, s2_1c, e1, h⟩ := asSl_e h
    obtain ⟨x12, e12, h⟩ := asI_e h
    obtain ⟨x13, e13, h⟩ := asI_e h
    rw [upd_eta e0, upd_eta e1, upd_eta e12, upd_eta e13]
    have h := hr m_again3 s1_0 s1_0n s1_0c s2_1 s2_1n s2_1c x12 x13 I S hle h
    clear hr hle
    refine WP.cut 2 (fun l I S => asSl (l 0) fun s1_0 s1_0n s1_0c => asSl (l 1) fun s2_1 s2_1n s2_1c => asI .i64 (l 12) fun x12 => asI .i64 (l 13) fun x13 => slices_Equal__string_string_b4 (fun s1_0 s1_0n s1_0c s2_1 s2_1n s2_1c x12 x13 I S => ∃ m', m' < m_again3 ∧ Inv_again3 m' s1_0 s1_0n s1_0c s2_1 s2_1n s2_1c x12 x13 I S) R s1_0 s1_0n s1_0c s2_1 s2_1n s2_1c x12 x13 I S) (cast (by kernel_rfl) h) ?_
    clear h
    intro l I S _ h
    obtain ⟨s1_0, s1_0n, s1_0c, e0, h⟩ := asSl_e h
    obtain ⟨s2_1, s2_1n, s2_1c, e1, h⟩ := asSl_e h
    obtain ⟨x12, e12, h⟩ := asI_e h
    obtain ⟨x13, e13, h⟩ := asI_e h
    rw [upd_eta e0, upd_eta e1, upd_eta e12, upd_eta e13]
    refine WP.seqY (by kernel_rfl) (fun l I S => asSl (l 0) fun s1_0 s1_0n s1_0c => asSl (l 1) fun s2_1 s2_1n s2_1c => asI .i64 (l 12) fun x12 => asI .i64 (l 13) fun x13 => slices_Equal__string_string_b7 (fun s1_0 s1_0n s1_0c s2_1 s2_1n s2_1c x12 x13 I S => ∃ m', m' < m_again3 ∧ Inv_again3 m' s1_0 s1_0n s1_0c s2_1 s2_1n s2_1c x12 x13 I S) R s1_0 s1_0n s1_0c s2_1 s2_1n s2_1c x12 x13 I S) ?_ ?_
    ·
      refine WP.block' (by kernel_rfl) ?_
      refine WP.cut 1 (fun l I S => asSl (l 0) fun s1_0 s1_0n s1_0c => asSl (l 1) fun s2_1 s2_1n s2_1c => asI .i64 (l 5) fun i_5 => asI .i64 (l 12) fun x12 => asI .i64 (l 13) fun x13 => slices_Equal__string_string_b5 (fun s1_0 s1_0n s1_0c s2_1 s2_1n s2_1c x12 x13 I S => ∃ m', m' < m_again3 ∧ Inv_again3 m' s1_0 s1_0n s1_0c s2_1 s2_1n s2_1c x12 x13 I S) R s1_0 s1_0n s1_0c s2_1 s2_1n s2_1c i_5 x12 x13 I S) (cast (by kernel_rfl) h) ?_
      clear h
      intro l I S _ h
      obtain ⟨s1_0, s1_0n, s1_0c, e0, h⟩ := asSl_e h
      obtain ⟨s2_1, s2_1n, s2_1c, e1, h⟩ := asSl_e h
      obtain ⟨i_5, e5, h⟩ := asI_e h
      obtain ⟨x12, e12, h⟩ := asI_e h
      obtain ⟨x13, e13, h⟩ := asI_e h
      rw [upd_eta e0, upd_eta e1, upd_eta e5, upd_eta e12, upd_eta e13]
      refine WP.seqY (by kernel_rfl) (fun l I S => asSl (l 0) fun s1_0 s1_0n s1_0c => asSl (l 1) fun s2_1 s2_1n s2_1c => asI .i64 (l 12) fun x12 => asI .i64 (l 13) fun x13 => asB (l 24) fun x24 => slices_Equal__string_string_b6 (fun s1_0 s1_0n s1_0c s2_1 s2_1n s2_1c x12 x13 I S => ∃ m', m' < m_again3 ∧ Inv_again3 m' s1_0 s1_0n s1_0c s2_1 s2_1n s2_1c x12 x13 I S) R s1_0 s1_0n s1_0c s2_1 s2_1n s2_1c x12 x13 x24 I S) ?_ ?_
      ·
        exact WP.quiet' (by kernel_rfl) (by kernel_rfl) (by kernel_rfl) (cast (by kernel_rfl) h)
      · clear h
        intro l I S _ h
        obtain ⟨s1_0, s1_0n, s1_0c, e0, h⟩ := asSl_e h
        obtain ⟨s2_1, s2_1n, s2_1c, e1, h⟩ := asSl_e h
        obtain ⟨x12, e12, h⟩ := asI_e h
        obtain ⟨x13, e13, h⟩ := asI_e h
        obtain ⟨x24, e24, h⟩ := asB_e h
        rw [upd_eta e0, upd_eta e1, upd_eta e12, upd_eta e13, upd_eta e24]
        exact Pre.sound _ _ _ _ _ (cast (by kernel_rfl) h)
    · clear h
      intro l I S _ h
      obtain ⟨s1_0, s1_0n, s1_0c, e0, h⟩ := asSl_e h
      obtain ⟨s2_1, s2_1n, s2_1c, e1, h⟩ := asSl_e h
      obtain ⟨x12, e12, h⟩ := asI_e h
      obtain ⟨x13, e13, h⟩ := asI_e h
      rw [upd_eta e0, upd_eta e1, upd_eta e12, upd_eta e13]
      exact Pre.sound _ _ _ _ _ (cast (by kernel_rfl) h)
  · clear h
    intro l I S _ h
    exact Pre.sound _ _ _ _ _ (cast (by kernel_rfl) h)
/-! ### owner_kinds: function 45, bolter/owner.kinds -/
noncomputable def owner_kinds_code : Code := (Tryd.f45.body).getD .skip
def owner_kinds (R : Value → IMem → SH → Prop) (I : IMem) (S : SH) : Prop :=
  ∀ r1 : Nat,
  MapSt ((r1, .map #[] 0) :: S) (some r1) (.int .i64) (.int .i64 0) (.string ⟨#[114, 112, 122, 45, 99, 108, 105, 101, 110, 116, 45, 105, 112]⟩) fun S1 =>
  MapSt S1 (some r1) (.int .i64) (.int .i64 3) (.string ⟨#[114, 112, 122, 45, 105, 112]⟩) fun S1' =>
  MapSt S1' (some r1) (.int .i64) (.int .i64 4) (.string ⟨#[114, 112, 122, 45, 110, 115, 100, 110, 97, 109, 101]⟩) fun S1'' =>
  MapSt S1'' (some r1) (.int .i64) (.int .i64 6) (.string ⟨#[114, 112, 122, 45, 110, 115, 105, 112]⟩) fun S1_r3 =>
  R (.map (some r1)) I S1_r3
theorem owner_kinds_fn (R : Value → IMem → SH → Prop) (I : IMem) (S : SH) (h : owner_kinds R I S) :
    Runs Tryd.prog 45 #[] I S R := by
  refine Runs.of_wp (args := []) (c := owner_kinds_code) Tryd.func45 (by kernel_rfl) (by kernel_rfl) ?_
  exact Pre.sound _ _ _ _ _ (cast (by kernel_rfl) h)
/-! ### owner_named: function 46, bolter/owner.named -/
noncomputable def owner_named_code : Code := (Tryd.f46.body).getD .skip
def owner_named_b6 (R : Value → IMem → SH → Prop) (x6 : Addr) (kind_8 : Int) (n_9 : ByteArray) (I : IMem) (S : SH) : Prop :=
  StP S x6 [.int .i64 kind_8, .string n_9, .string ⟨#[]⟩, .int .i64 0] fun S1 =>
  ∃ r6_0, Cell I S1 x6 (.int .i64 r6_0) ∧
  ∃ r6_1, Cell I S1 (x6.add 1) (.string r6_1) ∧
  ∃ r6_2, Cell I S1 (x6.add 2) (.string r6_2) ∧
  ∃ r6_3, Cell I S1 (x6.add 3) (.int .i64 r6_3) ∧
  R (.tuple #[.agg #[.int .i64 r6_0, .string r6_1, .string r6_2, .int .i64 r6_3], .bool true]) I S1
def owner_named_b5 (R : Value → IMem → SH → Prop) (x6 : Addr) (kind_8 : Int) (n_9 : ByteArray) (x40 : Bool) (I : IMem) (S : SH) : Prop :=
  bcase x40
    (StP S x6 [.int .i64 0, .string ⟨#[]⟩, .string ⟨#[]⟩, .int .i64 0] fun S1 =>
    ∃ r6_0, Cell I S1 x6 (.int .i64 r6_0) ∧
    ∃ r6_1, Cell I S1 (x6.add 1) (.string r6_1) ∧
    ∃ r6_2, Cell I S1 (x6.add 2) (.string r6_2) ∧
    ∃ r6_3, Cell I S1 (x6.add 3) (.int .i64 r6_3) ∧
    R (.tuple #[.agg #[.int .i64 r6_0, .string r6_1, .string r6_2, .int .i64 r6_3], .bool false]) I S1)
    (owner_named_b6 R x6 kind_8 n_9 I S)
def owner_named_b4 (R : Value → IMem → SH → Prop) (ls_0 : Option Addr) (ls_0n : Nat) (ls_0c : Nat) (exact_1 : Int) (x6 : Addr) (kind_8 : Int) (n_9 : ByteArray) (ok_10 : Bool) (I : IMem) (S : SH) : Prop :=
  bcase (!ok_10)
    (owner_named_b5 R x6 kind_8 n_9 true I S)
    (bcase ((ls_0n : Int) == (0 : Int))
      (owner_named_b5 R x6 kind_8 n_9 (kind_8 == exact_1) I S)
      (owner_named_b5 R x6 kind_8 n_9 false I S))
def owner_named_b3 (R : Value → IMem → SH → Prop) (ls_0 : Option Addr) (ls_0n : Nat) (ls_0c : Nat) (exact_1 : Int) (x6 : Addr) (kind_8 : Int) (I : IMem) (S : SH) : Prop :=
  Runs Tryd.prog 25 #[.slice ls_0 ls_0n ls_0c] I S fun v I1 S1 => ∃ x26_0 x26_1, v = .tuple #[.string x26_0, .bool x26_1] ∧
  owner_named_b4 R ls_0 ls_0n ls_0c exact_1 x6 kind_8 x26_0 x26_1 I1 S1
def owner_named_b2 (R : Value → IMem → SH → Prop) (ls_0 : Option Addr) (ls_0n : Nat) (ls_0c : Nat) (exact_1 : Int) (wild_2 : Int) (x6 : Addr) (kind_8 : Int) (x20 : Bool) (I : IMem) (S : SH) : Prop :=
  bcase x20
    ((0 : Int) ≤ (1 : Int) ∧ (1 : Int) ≤ ((ls_0n : Nat) : Int) ∧
    owner_named_b3 R (slA ls_0 ls_0c ((1 : Int).toNat) 1) (ls_0n - (1 : Int).toNat) (ls_0c - (1 : Int).toNat) exact_1 x6 wild_2 I S)
    (owner_named_b3 R ls_0 ls_0n ls_0c exact_1 x6 kind_8 I S)
def owner_named_b1 (R : Value → IMem → SH → Prop) (ls_0 : Option Addr) (ls_0n : Nat) (ls_0c : Nat) (exact_1 : Int) (wild_2 : Int) (x6 : Addr) (kind_8 : Int) (I : IMem) (S : SH) : Prop :=
  bcase (decide ((ls_0n : Int) > (0 : Int)))
    (ptrP ls_0 fun x17 => (0 : Int) ≤ (0 : Int) ∧ (0 : Int) < (ls_0n : Int) ∧
    ∃ x18, Cell I S (x17.add ((0 : Int).toNat * 1)) (.string x18) ∧
    owner_named_b2 R ls_0 ls_0n ls_0c exact_1 wild_2 x6 kind_8 (x18.toList == (⟨#[42]⟩ : ByteArray).toList) I S)
    (owner_named_b2 R ls_0 ls_0n ls_0c exact_1 wild_2 x6 kind_8 false I S)
def owner_named (R : Value → IMem → SH → Prop) (ls_0 : Option Addr) (ls_0n : Nat) (ls_0c : Nat) (exact_1 : Int) (wild_2 : Int) (I : IMem) (S : SH) : Prop :=
  ∀ b6 : Nat,
  owner_named_b1 R ls_0 ls_0n ls_0c exact_1 wild_2 ⟨b6, 0, none⟩ exact_1 I ((b6, .cells #[.int .i64 0, .string ⟨#[]⟩, .string ⟨#[]⟩, .int .i64 0] 29 (0, 0)) :: S)
theorem owner_named_fn (R : Value → IMem → SH → Prop) (ls_0 : Option Addr) (ls_0n : Nat) (ls_0c : Nat) (exact_1 : Int) (wild_2 : Int) (I : IMem) (S : SH) (h : owner_named R ls_0 ls_0n ls_0c exact_1 wild_2 I S) :
    Runs Tryd.prog 46 #[.slice ls_0 ls_0n ls_0c, .int .i64 exact_1, .int .i64 wild_2] I S R := by
  refine Runs.of_wp (args := [.slice ls_0 ls_0n ls_0c, .int .i64 exact_1, .int .i64 wild_2]) (c := owner_named_code) Tryd.func46 (by kernel_rfl) (by kernel_rfl) ?_
  refine WP.cut 2 (fun l I S => asSl (l 0) fun ls_0 ls_0n ls_0c => asI .i64 (l 1) fun exact_1 => asI .i64 (l 2) fun wild_2 => asAdr (l 6) fun x6 => asI .i64 (l 8) fun kind_8 => owner_named_b1 R ls_0 ls_0n ls_0c exact_1 wild_2 x6 kind_8 I S) (cast (by kernel_rfl) h) ?_
  clear h
  intro l I S _ h
  obtain ⟨ls_0, ls_0n, ls_0c, e0, h⟩ := asSl_e h
  obtain ⟨exact_1, e1, h⟩ := asI_e h
  obtain ⟨wild_2, e2, h⟩ := asI_e h
  obtain ⟨x6, e6, h⟩ := asAdr_e h
  obtain ⟨kind_8, e8, h⟩ := asI_e h
  rw [upd_eta e0, upd_eta e1, upd_eta e2, upd_eta e6, upd_eta e8]
  refine WP.seqY (by kernel_rfl) (fun l I S => asSl (l 0) fun ls_0 ls_0n ls_0c => asI .i64 (l 1) fun exact_1 => asAdr (l 6) fun x6 => asI .i64 (l 8) fun kind_8 => owner_named_b3 R ls_0 ls_0n ls_0c exact_1 x6 kind_8 I S) ?_ ?_
  ·
    refine WP.cut 1 (fun l I S => asSl (l 0) fun ls_0 ls_0n ls_0c => asI .i64 (l 1) fun exact_1 => asI .i64 (l 2) fun wild_2 => asAdr (l 6) fun x6 => asI .i64 (l 8) fun kind_8 => asB (l 20) fun x20 => owner_named_b2 R ls_0 ls_0n ls_0c exact_1 wild_2 x6 kind_8 x20 I S) (cast (by kernel_rfl) h) ?_
    clear h
    intro l I S _ h
    obtain ⟨ls_0, ls_0n, ls_0c, e0, h⟩ := asSl_e h
    obtain ⟨exact_1, e1, h⟩ := asI_e h
    obtain ⟨wild_2, e2, h⟩ := asI_e h
    obtain ⟨x6, e6, h⟩ := asAdr_e h
    obtain ⟨kind_8, e8, h⟩ := asI_e h
    obtain ⟨x20, e20, h⟩ := asB_e h
    rw [upd_eta e0, upd_eta e1, upd_eta e2, upd_eta e6, upd_eta e8, upd_eta e20]
    refine WP.cond' (by kernel_rfl) (by kernel_rfl) h ?_ ?_
    · clear h
      intro h
      exact WP.quiet' (by kernel_rfl) (by kernel_rfl) (by kernel_rfl) (cast (by kernel_rfl) h)
    · clear h
      intro h
      exact Pre.sound _ _ _ _ _ (cast (by kernel_rfl) h)
  · clear h
    intro l I S _ h
    obtain ⟨ls_0, ls_0n, ls_0c, e0, h⟩ := asSl_e h
    obtain ⟨exact_1, e1, h⟩ := asI_e h
    obtain ⟨x6, e6, h⟩ := asAdr_e h
    obtain ⟨kind_8, e8, h⟩ := asI_e h
    rw [upd_eta e0, upd_eta e1, upd_eta e6, upd_eta e8]
    refine WP.cut 1 (fun l I S => asSl (l 0) fun ls_0 ls_0n ls_0c => asI .i64 (l 1) fun exact_1 => asAdr (l 6) fun x6 => asI .i64 (l 8) fun kind_8 => asStr (l 9) fun n_9 => asB (l 10) fun ok_10 => owner_named_b4 R ls_0 ls_0n ls_0c exact_1 x6 kind_8 n_9 ok_10 I S) (cast (by kernel_rfl) h) ?_
    clear h
    intro l I S _ h
    obtain ⟨ls_0, ls_0n, ls_0c, e0, h⟩ := asSl_e h
    obtain ⟨exact_1, e1, h⟩ := asI_e h
    obtain ⟨x6, e6, h⟩ := asAdr_e h
    obtain ⟨kind_8, e8, h⟩ := asI_e h
    obtain ⟨n_9, e9, h⟩ := asStr_e h
    obtain ⟨ok_10, e10, h⟩ := asB_e h
    rw [upd_eta e0, upd_eta e1, upd_eta e6, upd_eta e8, upd_eta e9, upd_eta e10]
    refine WP.seqY (by kernel_rfl) (fun l I S => asAdr (l 6) fun x6 => asI .i64 (l 8) fun kind_8 => asStr (l 9) fun n_9 => owner_named_b6 R x6 kind_8 n_9 I S) ?_ ?_
    ·
      refine WP.cut 1 (fun l I S => asAdr (l 6) fun x6 => asI .i64 (l 8) fun kind_8 => asStr (l 9) fun n_9 => asB (l 40) fun x40 => owner_named_b5 R x6 kind_8 n_9 x40 I S) (cast (by kernel_rfl) h) ?_
      clear h
      intro l I S _ h
      obtain ⟨x6, e6, h⟩ := asAdr_e h
      obtain ⟨kind_8, e8, h⟩ := asI_e h
      obtain ⟨n_9, e9, h⟩ := asStr_e h
      obtain ⟨x40, e40, h⟩ := asB_e h
      rw [upd_eta e6, upd_eta e8, upd_eta e9, upd_eta e40]
      exact Pre.sound _ _ _ _ _ (cast (by kernel_rfl) h)
    · clear h
      intro l I S _ h
      obtain ⟨x6, e6, h⟩ := asAdr_e h
      obtain ⟨kind_8, e8, h⟩ := asI_e h
      obtain ⟨n_9, e9, h⟩ := asStr_e h
      rw [upd_eta e6, upd_eta e8, upd_eta e9]
      exact Pre.sound _ _ _ _ _ (cast (by kernel_rfl) h)
/-! ### owner_hex: function 68, bolter/owner.hex -/
noncomputable def owner_hex_code : Code := (Tryd.f68.body).getD .skip
def owner_hex_b1 (R : Value → IMem → SH → Prop) (x2 : Int) (x3 : Bool) (I : IMem) (S : SH) : Prop :=
  R (.tuple #[.int .i64 x2, .bool x3]) I S
def owner_hex (R : Value → IMem → SH → Prop) (s_0 : ByteArray) (I : IMem) (S : SH) : Prop :=
  Runs Tryd.prog 79 #[.string s_0, .int .i64 16, .int .i64 16] I S fun v I1 S1 => ∃ x8_0 x8_1, v = .tuple #[.int .u64 x8_0, x8_1] ∧
  ∃ nl, isNilI x8_1 = some nl ∧
  bcase nl
    (Runs Tryd.prog 80 #[.int .u64 x8_0, .int .i64 16] I1 S1 fun v' I1' S1' => ∃ x17, v' = .string x17 ∧
    owner_hex_b1 R (IntKind.wrap .i64 x8_0) (x17.toList == s_0.toList) I1' S1')
    (owner_hex_b1 R (IntKind.wrap .i64 x8_0) false I1 S1)
theorem owner_hex_fn (R : Value → IMem → SH → Prop) (s_0 : ByteArray) (I : IMem) (S : SH) (h : owner_hex R s_0 I S) :
    Runs Tryd.prog 68 #[.string s_0] I S R := by
  refine Runs.of_wp (args := [.string s_0]) (c := owner_hex_code) Tryd.func68 (by kernel_rfl) (by kernel_rfl) ?_
  refine WP.cut 3 (fun l I S => asI .i64 (l 2) fun x2 => asB (l 3) fun x3 => owner_hex_b1 R x2 x3 I S) (cast (by kernel_rfl) h) ?_
  clear h
  intro l I S _ h
  obtain ⟨x2, e2, h⟩ := asI_e h
  obtain ⟨x3, e3, h⟩ := asB_e h
  rw [upd_eta e2, upd_eta e3]
  exact Pre.sound _ _ _ _ _ (cast (by kernel_rfl) h)
/-! ### slices_Reverse__string_string: function 61, slices.Reverse[[]string,string] -/
noncomputable def slices_Reverse__string_string_code : Code := (Tryd.f61.body).getD .skip
def slices_Reverse__string_string_b4 (again2 : Option Addr → Nat → Nat → Int → Int → IMem → SH → Prop) (R : Value → IMem → SH → Prop) (s_0 : Option Addr) (s_0n : Nat) (s_0c : Nat) (i_2 : Int) (j_3 : Int) (I : IMem) (S : SH) : Prop :=
  again2 s_0 s_0n s_0c (IntKind.wrap .i64 (i_2 + (1 : Int))) (IntKind.wrap .i64 (j_3 - (1 : Int))) I S
def slices_Reverse__string_string_b3 (again2 : Option Addr → Nat → Nat → Int → Int → IMem → SH → Prop) (R : Value → IMem → SH → Prop) (s_0 : Option Addr) (s_0n : Nat) (s_0c : Nat) (i_2 : Int) (j_3 : Int) (I : IMem) (S : SH) : Prop :=
  ptrP s_0 fun x20 => (0 : Int) ≤ j_3 ∧ j_3 < (s_0n : Int) ∧
  ∃ x21, Cell I S (x20.add (j_3.toNat * 1)) (.string x21) ∧
  ptrP s_0 fun x24 => (0 : Int) ≤ i_2 ∧ i_2 < (s_0n : Int) ∧
  ∃ x25, Cell I S (x24.add (i_2.toNat * 1)) (.string x25) ∧
  ptrP s_0 fun x26 => (0 : Int) ≤ i_2 ∧ i_2 < (s_0n : Int) ∧
  StP S (x26.add (i_2.toNat * 1)) [.string x21] fun S1 =>
  ptrP s_0 fun x27 => (0 : Int) ≤ j_3 ∧ j_3 < (s_0n : Int) ∧
  StP S1 (x27.add (j_3.toNat * 1)) [.string x25] fun S1' =>
  slices_Reverse__string_string_b4 again2 R s_0 s_0n s_0c i_2 j_3 I S1'
def slices_Reverse__string_string_l2 (again2 : Option Addr → Nat → Nat → Int → Int → IMem → SH → Prop) (R : Value → IMem → SH → Prop) (s_0 : Option Addr) (s_0n : Nat) (s_0c : Nat) (i_2 : Int) (j_3 : Int) (I : IMem) (S : SH) : Prop :=
  bcase (decide (i_2 < j_3))
    (slices_Reverse__string_string_b3 again2 R s_0 s_0n s_0c i_2 j_3 I S)
    (R (.tuple #[]) I S)
def slices_Reverse__string_string_b1 (R : Value → IMem → SH → Prop) (s_0 : Option Addr) (s_0n : Nat) (s_0c : Nat) (i_2 : Int) (j_3 : Int) (I : IMem) (S : SH) : Prop :=
  ∃ (Inv : Nat → Option Addr → Nat → Nat → Int → Int → IMem → SH → Prop) (m : Nat), Inv m s_0 s_0n s_0c i_2 j_3 I S ∧
    ∀ (m : Nat) (s_0 : Option Addr) (s_0n : Nat) (s_0c : Nat) (i_2 : Int) (j_3 : Int) (J : IMem) (T : SH), I.le J → Inv m s_0 s_0n s_0c i_2 j_3 J T →
      slices_Reverse__string_string_l2 (fun s_0 s_0n s_0c i_2 j_3 I S => ∃ m', m' < m ∧ Inv m' s_0 s_0n s_0c i_2 j_3 I S) R s_0 s_0n s_0c i_2 j_3 J T
def slices_Reverse__string_string (R : Value → IMem → SH → Prop) (s_0 : Option Addr) (s_0n : Nat) (s_0c : Nat) (I : IMem) (S : SH) : Prop :=
  slices_Reverse__string_string_b1 R s_0 s_0n s_0c 0 (IntKind.wrap .i64 ((s_0n : Int) - (1 : Int))) I S
theorem slices_Reverse__string_string_fn (R : Value → IMem → SH → Prop) (s_0 : Option Addr) (s_0n : Nat) (s_0c : Nat) (I : IMem) (S : SH) (h : slices_Reverse__string_string R s_0 s_0n s_0c I S) :
    Runs Tryd.prog 61 #[.slice s_0 s_0n s_0c] I S R := by
  refine Runs.of_wp (args := [.slice s_0 s_0n s_0c]) (c := slices_Reverse__string_string_code) Tryd.func61 (by kernel_rfl) (by kernel_rfl) ?_
  refine WP.cut 1 (fun l I S => asSl (l 0) fun s_0 s_0n s_0c => asI .i64 (l 2) fun i_2 => asI .i64 (l 3) fun j_3 => slices_Reverse__string_string_b1 R s_0 s_0n s_0c i_2 j_3 I S) (cast (by kernel_rfl) h) ?_
  clear h
  intro l I S _ h
  obtain ⟨s_0, s_0n, s_0c, e0, h⟩ := asSl_e h
  obtain ⟨i_2, e2, h⟩ := asI_e h
  obtain ⟨j_3, e3, h⟩ := asI_e h
  rw [upd_eta e0, upd_eta e2, upd_eta e3]
  refine WP.block' (by kernel_rfl) ?_
  obtain ⟨Inv_again2, m_again2, h0, hr⟩ := h
  refine WP.loop' (by kernel_rfl) (fun m_again2 => fun l I S => asSl (l 0) fun s_0 s_0n s_0c => asI .i64 (l 2) fun i_2 => asI .i64 (l 3) fun j_3 => Inv_again2 m_again2 s_0 s_0n s_0c i_2 j_3 I S) m_again2 (cast (by kernel_rfl) h0) ?_
  clear h0
  intro m_again2 l I S hle h
  obtain ⟨s_0, s_0n, s_0c, e0, h⟩ := asSl_e h
  obtain ⟨i_2, e2, h⟩ := asI_e h
  obtain ⟨j_3, e3, h⟩ := asI_e h
  rw [upd_eta e0, upd_eta e2, upd_eta e3]
  have h := hr m_again2 s_0 s_0n s_0c i_2 j_3 I S hle h
  clear hr hle
  refine WP.cut 1 (fun l I S => asSl (l 0) fun s_0 s_0n s_0c => asI .i64 (l 2) fun i_2 => asI .i64 (l 3) fun j_3 => slices_Reverse__string_string_b3 (fun s_0 s_0n s_0c i_2 j_3 I S => ∃ m', m' < m_again2 ∧ Inv_again2 m' s_0 s_0n s_0c i_2 j_3 I S) R s_0 s_0n s_0c i_2 j_3 I S) (cast (by kernel_rfl) h) ?_
  clear h
  intro l I S _ h
  obtain ⟨s_0, s_0n, s_0c, e0, h⟩ := asSl_e h
  obtain ⟨i_2, e2, h⟩ := asI_e h
  obtain ⟨j_3, e3, h⟩ := asI_e h
  rw [upd_eta e0, upd_eta e2, upd_eta e3]
  refine WP.seqY (by kernel_rfl) (fun l I S => asSl (l 0) fun s_0 s_0n s_0c => asI .i64 (l 2) fun i_2 => asI .i64 (l 3) fun j_3 => slices_Reverse__string_string_b4 (fun s_0 s_0n s_0c i_2 j_3 I S => ∃ m', m' < m_again2 ∧ Inv_again2 m' s_0 s_0n s_0c i_2 j_3 I S) R s_0 s_0n s_0c i_2 j_3 I S) ?_ ?_
  ·
    refine WP.block' (by kernel_rfl) ?_
    exact WP.draw' (.take 0 (.take 1 (.take 2 (.take 3 (.take 4 (.take 5 (.take 6 (.take 7 (.take 8 (.take 9 (.take 10 (.take 11 (.take 12 (.step 13 (.take 14 (.step 15 .done)))))))))))))))) [13, 15] (by kernel_rfl) (by kernel_rfl) (by kernel_rfl) (by kernel_rfl) (by kernel_rfl) (cast (by kernel_rfl) h)
  · clear h
    intro l I S _ h
    obtain ⟨s_0, s_0n, s_0c, e0, h⟩ := asSl_e h
    obtain ⟨i_2, e2, h⟩ := asI_e h
    obtain ⟨j_3, e3, h⟩ := asI_e h
    rw [upd_eta e0, upd_eta e2, upd_eta e3]
    exact Pre.sound _ _ _ _ _ (cast (by kernel_rfl) h)
/-! ### slices_Clone__string_string: function 63, slices.Clone[[]string,string] -/
noncomputable def slices_Clone__string_string_code : Code := (Tryd.f63.body).getD .skip
def slices_Clone__string_string (R : Value → IMem → SH → Prop) (s_0 : Option Addr) (s_0n : Nat) (s_0c : Nat) (I : IMem) (S : SH) : Prop :=
  bcase ((s_0 : Option Addr).isNone)
    (R (.slice none 0 0) I S)
    (∀ b5 : Nat,
    AppG 9 1 16 [.string ⟨#[]⟩] (some (.slice 9)) I ((b5, .cells #[] 9 (0, 0)) :: S) (.slice (some ⟨b5, 0, none⟩) 0 0) (.slice s_0 s_0n s_0c) fun x7 x7n x7c S1 =>
    R (.slice x7 x7n x7c) I S1)
theorem slices_Clone__string_string_fn (R : Value → IMem → SH → Prop) (s_0 : Option Addr) (s_0n : Nat) (s_0c : Nat) (I : IMem) (S : SH) (h : slices_Clone__string_string R s_0 s_0n s_0c I S) :
    Runs Tryd.prog 63 #[.slice s_0 s_0n s_0c] I S R := by
  refine Runs.of_wp (args := [.slice s_0 s_0n s_0c]) (c := slices_Clone__string_string_code) Tryd.func63 (by kernel_rfl) (by kernel_rfl) ?_
  exact Pre.sound _ _ _ _ _ (cast (by kernel_rfl) h)
/-! ### slices_Contains__string_string: function 64, slices.Contains[[]string,string] -/
noncomputable def slices_Contains__string_string_code : Code := (Tryd.f64.body).getD .skip
def slices_Contains__string_string (R : Value → IMem → SH → Prop) (s_0 : Option Addr) (s_0n : Nat) (s_0c : Nat) (v_1 : ByteArray) (I : IMem) (S : SH) : Prop :=
  Runs Tryd.prog 65 #[.slice s_0 s_0n s_0c, .string v_1] I S fun v I1 S1 => ∃ x7, v = .int .i64 x7 ∧
  R (.bool (decide (x7 ≥ (0 : Int)))) I1 S1
theorem slices_Contains__string_string_fn (R : Value → IMem → SH → Prop) (s_0 : Option Addr) (s_0n : Nat) (s_0c : Nat) (v_1 : ByteArray) (I : IMem) (S : SH) (h : slices_Contains__string_string R s_0 s_0n s_0c v_1 I S) :
    Runs Tryd.prog 64 #[.slice s_0 s_0n s_0c, .string v_1] I S R := by
  refine Runs.of_wp (args := [.slice s_0 s_0n s_0c, .string v_1]) (c := slices_Contains__string_string_code) Tryd.func64 (by kernel_rfl) (by kernel_rfl) ?_
  exact Pre.sound _ _ _ _ _ (cast (by kernel_rfl) h)
/-! ### slices_Index__string_string: function 65, slices.Index[[]string,string] -/
noncomputable def slices_Index__string_string_code : Code := (Tryd.f65.body).getD .skip
def slices_Index__string_string_b4 (R : Value → IMem → SH → Prop) (I : IMem) (S : SH) : Prop :=
  R (.int .i64 (-1)) I S
def slices_Index__string_string_l3 (again3 : Option Addr → Nat → Nat → ByteArray → Int → Int → IMem → SH → Prop) (R : Value → IMem → SH → Prop) (s_0 : Option Addr) (s_0n : Nat) (s_0c : Nat) (v_1 : ByteArray) (x7 : Int) (x8 : Int) (I : IMem) (S : SH) : Prop :=
  bcase (decide (x8 < x7))
    (ptrP s_0 fun x14 => (0 : Int) ≤ x8 ∧ x8 < (s_0n : Int) ∧
    ∃ x15, Cell I S (x14.add (x8.toNat * 1)) (.string x15) ∧
    bcase (v_1.toList == x15.toList)
      (R (.int .i64 x8) I S)
      (again3 s_0 s_0n s_0c v_1 x7 (IntKind.wrap .i64 (x8 + (1 : Int))) I S))
    (slices_Index__string_string_b4 R I S)
def slices_Index__string_string_b2 (R : Value → IMem → SH → Prop) (s_0 : Option Addr) (s_0n : Nat) (s_0c : Nat) (v_1 : ByteArray) (x7 : Int) (x8 : Int) (I : IMem) (S : SH) : Prop :=
  ∃ (Inv : Nat → Option Addr → Nat → Nat → ByteArray → Int → Int → IMem → SH → Prop) (m : Nat), Inv m s_0 s_0n s_0c v_1 x7 x8 I S ∧
    ∀ (m : Nat) (s_0 : Option Addr) (s_0n : Nat) (s_0c : Nat) (v_1 : ByteArray) (x7 : Int) (x8 : Int) (J : IMem) (T : SH), I.le J → Inv m s_0 s_0n s_0c v_1 x7 x8 J T →
      slices_Index__string_string_l3 (fun s_0 s_0n s_0c v_1 x7 x8 I S => ∃ m', m' < m ∧ Inv m' s_0 s_0n s_0c v_1 x7 x8 I S) R s_0 s_0n s_0c v_1 x7 x8 J T
def slices_Index__string_string_b1 (R : Value → IMem → SH → Prop) (s_0 : Option Addr) (s_0n : Nat) (s_0c : Nat) (v_1 : ByteArray) (I : IMem) (S : SH) : Prop :=
  slices_Index__string_string_b2 R s_0 s_0n s_0c v_1 (s_0n : Int) 0 I S
def slices_Index__string_string (R : Value → IMem → SH → Prop) (s_0 : Option Addr) (s_0n : Nat) (s_0c : Nat) (v_1 : ByteArray) (I : IMem) (S : SH) : Prop :=
  slices_Index__string_string_b1 R s_0 s_0n s_0c v_1 I S
theorem slices_Index__string_string_fn (R : Value → IMem → SH → Prop) (s_0 : Option Addr) (s_0n : Nat) (s_0c : Nat) (v_1 : ByteArray) (I : IMem) (S : SH) (h : slices_Index__string_string R s_0 s_0n s_0c v_1 I S) :
    Runs Tryd.prog 65 #[.slice s_0 s_0n s_0c, .string v_1] I S R := by
  refine Runs.of_wp (args := [.slice s_0 s_0n s_0c, .string v_1]) (c := slices_Index__string_string_code) Tryd.func65 (by kernel_rfl) (by kernel_rfl) ?_
  refine WP.cut 1 (fun l I S => asSl (l 0) fun s_0 s_0n s_0c => asStr (l 1) fun v_1 => slices_Index__string_string_b1 R s_0 s_0n s_0c v_1 I S) (cast (by kernel_rfl) h) ?_
  clear h
  intro l I S _ h
  obtain ⟨s_0, s_0n, s_0c, e0, h⟩ := asSl_e h
  obtain ⟨v_1, e1, h⟩ := asStr_e h
  rw [upd_eta e0, upd_eta e1]
  refine WP.seqY (by kernel_rfl) (fun l I S => slices_Index__string_string_b4 R I S) ?_ ?_
  ·
    refine WP.cut 1 (fun l I S => asSl (l 0) fun s_0 s_0n s_0c => asStr (l 1) fun v_1 => asI .i64 (l 7) fun x7 => asI .i64 (l 8) fun x8 => slices_Index__string_string_b2 R s_0 s_0n s_0c v_1 x7 x8 I S) (cast (by kernel_rfl) h) ?_
    clear h
    intro l I S _ h
    obtain ⟨s_0, s_0n, s_0c, e0, h⟩ := asSl_e h
    obtain ⟨v_1, e1, h⟩ := asStr_e h
    obtain ⟨x7, e7, h⟩ := asI_e h
    obtain ⟨x8, e8, h⟩ := asI_e h
    rw [upd_eta e0, upd_eta e1, upd_eta e7, upd_eta e8]
    refine WP.block' (by kernel_rfl) ?_
    obtain ⟨Inv_again3, m_again3, h0, hr⟩ := h
    refine WP.loop' (by kernel_rfl) (fun m_again3 => fun l I S => asSl (l 0) fun s_0 s_0n s_0c => asStr (l 1) fun v_1 => asI .i64 (l 7) fun x7 => asI .i64 (l 8) fun x8 => Inv_again3 m_again3 s_0 s_0n s_0c v_1 x7 x8 I S) m_again3 (cast (by kernel_rfl) h0) ?_
    clear h0
    intro m_again3 l I S hle h
    obtain ⟨s_0, s_0n, s_0c, e0, h⟩ := asSl_e h
    obtain ⟨v_1, e1, h⟩ := asStr_e h
    obtain ⟨x7, e7, h⟩ := asI_e h
    obtain ⟨x8, e8, h⟩ := asI_e h
    rw [upd_eta e0, upd_eta e1, upd_eta e7, upd_eta e8]
    have h := hr m_again3 s_0 s_0n s_0c v_1 x7 x8 I S hle h
    clear hr hle
    exact Pre.sound _ _ _ _ _ (cast (by kernel_rfl) h)
  · clear h
    intro l I S _ h
    exact Pre.sound _ _ _ _ _ (cast (by kernel_rfl) h)
/-! ### slices_Repeat__string_string: function 66, slices.Repeat[[]string,string] -/
noncomputable def slices_Repeat__string_string_code : Code := (Tryd.f66.body).getD .skip
def slices_Repeat__string_string_b7 (again6 : Option Addr → Nat → Nat → Int → IMem → SH → Prop) (R : Value → IMem → SH → Prop) (newslice_7 : Option Addr) (newslice_7n : Nat) (newslice_7c : Nat) (n_8 : Int) (I : IMem) (S : SH) : Prop :=
  (0 : Int) ≤ n_8 ∧ n_8 ≤ ((newslice_7n : Nat) : Int) ∧
  (0 : Int) ≤ n_8 ∧ n_8 ≤ ((newslice_7c : Nat) : Int) ∧
  CpyP 1 I S (.slice (slA newslice_7 newslice_7c n_8.toNat 1) (newslice_7n - n_8.toNat) (newslice_7c - n_8.toNat)) (.slice (slA newslice_7 newslice_7c 0 1) (n_8.toNat - 0) (newslice_7c - 0)) fun x45 S1 =>
  again6 newslice_7 newslice_7n newslice_7c (IntKind.wrap .i64 (n_8 + (x45 : Int))) I S1
def slices_Repeat__string_string_b8 (R : Value → IMem → SH → Prop) (newslice_7 : Option Addr) (newslice_7n : Nat) (newslice_7c : Nat) (I : IMem) (S : SH) : Prop :=
  R (.slice newslice_7 newslice_7n newslice_7c) I S
def slices_Repeat__string_string_l6 (again6 : Option Addr → Nat → Nat → Int → IMem → SH → Prop) (R : Value → IMem → SH → Prop) (newslice_7 : Option Addr) (newslice_7n : Nat) (newslice_7c : Nat) (n_8 : Int) (I : IMem) (S : SH) : Prop :=
  bcase (decide (n_8 < (newslice_7n : Int)))
    (slices_Repeat__string_string_b7 again6 R newslice_7 newslice_7n newslice_7c n_8 I S)
    (slices_Repeat__string_string_b8 R newslice_7 newslice_7n newslice_7c I S)
def slices_Repeat__string_string_b5 (R : Value → IMem → SH → Prop) (newslice_7 : Option Addr) (newslice_7n : Nat) (newslice_7c : Nat) (n_8 : Int) (I : IMem) (S : SH) : Prop :=
  ∃ (Inv : Nat → Option Addr → Nat → Nat → Int → IMem → SH → Prop) (m : Nat), Inv m newslice_7 newslice_7n newslice_7c n_8 I S ∧
    ∀ (m : Nat) (newslice_7 : Option Addr) (newslice_7n : Nat) (newslice_7c : Nat) (n_8 : Int) (J : IMem) (T : SH), I.le J → Inv m newslice_7 newslice_7n newslice_7c n_8 J T →
      slices_Repeat__string_string_l6 (fun newslice_7 newslice_7n newslice_7c n_8 I S => ∃ m', m' < m ∧ Inv m' newslice_7 newslice_7n newslice_7c n_8 I S) R newslice_7 newslice_7n newslice_7c n_8 J T
def slices_Repeat__string_string_b4 (R : Value → IMem → SH → Prop) (x_0 : Option Addr) (x_0n : Nat) (x_0c : Nat) (lo_6 : Int) (I : IMem) (S : SH) : Prop :=
  (0 : Int) ≤ (IntKind.wrap .i64 lo_6) ∧ (IntKind.wrap .i64 lo_6) ≤ (IntKind.wrap .i64 lo_6) ∧ (IntKind.wrap .i64 lo_6) ≤ 9223372036854775807 ∧ (16 : Int) * (IntKind.wrap .i64 lo_6) ≤ 281474976710656 ∧ ∀ b30 : Nat,
  CpyP 1 I ((b30, .cells (repV (IntKind.wrap .i64 lo_6).toNat [.string ⟨#[]⟩]).toArray 9 (0, 0)) :: S) (.slice (some ⟨b30, 0, none⟩) ((IntKind.wrap .i64 lo_6).toNat) ((IntKind.wrap .i64 lo_6).toNat)) (.slice x_0 x_0n x_0c) fun x33 S1 =>
  slices_Repeat__string_string_b5 R (some ⟨b30, 0, none⟩) ((IntKind.wrap .i64 lo_6).toNat) ((IntKind.wrap .i64 lo_6).toNat) (x33 : Int) I S1
def slices_Repeat__string_string_b3 (R : Value → IMem → SH → Prop) (x_0 : Option Addr) (x_0n : Nat) (x_0c : Nat) (lo_6 : Int) (x26 : Bool) (I : IMem) (S : SH) : Prop :=
  bcase x26
    (False)
    (slices_Repeat__string_string_b4 R x_0 x_0n x_0c lo_6 I S)
def slices_Repeat__string_string_b2 (R : Value → IMem → SH → Prop) (x_0 : Option Addr) (x_0n : Nat) (x_0c : Nat) (hi_5 : Int) (lo_6 : Int) (I : IMem) (S : SH) : Prop :=
  bcase (decide (hi_5 > (0 : Int)))
    (slices_Repeat__string_string_b3 R x_0 x_0n x_0c lo_6 true I S)
    (slices_Repeat__string_string_b3 R x_0 x_0n x_0c lo_6 (decide (lo_6 > (9223372036854775807 : Int))) I S)
def slices_Repeat__string_string_b1 (R : Value → IMem → SH → Prop) (x_0 : Option Addr) (x_0n : Nat) (x_0c : Nat) (count_1 : Int) (I : IMem) (S : SH) : Prop :=
  Runs Tryd.prog 74 #[.int .u64 (IntKind.wrap .u64 (x_0n : Int)), .int .u64 (IntKind.wrap .u64 count_1)] I S fun v I1 S1 => ∃ x18_0 x18_1, v = .tuple #[.int .u64 x18_0, .int .u64 x18_1] ∧
  slices_Repeat__string_string_b2 R x_0 x_0n x_0c x18_0 x18_1 I1 S1
def slices_Repeat__string_string (R : Value → IMem → SH → Prop) (x_0 : Option Addr) (x_0n : Nat) (x_0c : Nat) (count_1 : Int) (I : IMem) (S : SH) : Prop :=
  bcase (decide (count_1 < (0 : Int)))
    (False)
    (slices_Repeat__string_string_b1 R x_0 x_0n x_0c count_1 I S)
theorem slices_Repeat__string_string_fn (R : Value → IMem → SH → Prop) (x_0 : Option Addr) (x_0n : Nat) (x_0c : Nat) (count_1 : Int) (I : IMem) (S : SH) (h : slices_Repeat__string_string R x_0 x_0n x_0c count_1 I S) :
    Runs Tryd.prog 66 #[.slice x_0 x_0n x_0c, .int .i64 count_1] I S R := by
  refine Runs.of_wp (args := [.slice x_0 x_0n x_0c, .int .i64 count_1]) (c := slices_Repeat__string_string_code) Tryd.func66 (by kernel_rfl) (by kernel_rfl) ?_
  refine WP.cut 2 (fun l I S => asSl (l 0) fun x_0 x_0n x_0c => asI .i64 (l 1) fun count_1 => slices_Repeat__string_string_b1 R x_0 x_0n x_0c count_1 I S) (cast (by kernel_rfl) h) ?_
  clear h
  intro l I S _ h
  obtain ⟨x_0, x_0n, x_0c, e0, h⟩ := asSl_e h
  obtain ⟨count_1, e1, h⟩ := asI_e h
  rw [upd_eta e0, upd_eta e1]
  refine WP.cut 1 (fun l I S => asSl (l 0) fun x_0 x_0n x_0c => asI .u64 (l 5) fun hi_5 => asI .u64 (l 6) fun lo_6 => slices_Repeat__string_string_b2 R x_0 x_0n x_0c hi_5 lo_6 I S) (cast (by kernel_rfl) h) ?_
  clear h
  intro l I S _ h
  obtain ⟨x_0, x_0n, x_0c, e0, h⟩ := asSl_e h
  obtain ⟨hi_5, e5, h⟩ := asI_e h
  obtain ⟨lo_6, e6, h⟩ := asI_e h
  rw [upd_eta e0, upd_eta e5, upd_eta e6]
  refine WP.seqY (by kernel_rfl) (fun l I S => asSl (l 0) fun x_0 x_0n x_0c => asI .u64 (l 6) fun lo_6 => slices_Repeat__string_string_b4 R x_0 x_0n x_0c lo_6 I S) ?_ ?_
  ·
    refine WP.cut 1 (fun l I S => asSl (l 0) fun x_0 x_0n x_0c => asI .u64 (l 6) fun lo_6 => asB (l 26) fun x26 => slices_Repeat__string_string_b3 R x_0 x_0n x_0c lo_6 x26 I S) (cast (by kernel_rfl) h) ?_
    clear h
    intro l I S _ h
    obtain ⟨x_0, x_0n, x_0c, e0, h⟩ := asSl_e h
    obtain ⟨lo_6, e6, h⟩ := asI_e h
    obtain ⟨x26, e26, h⟩ := asB_e h
    rw [upd_eta e0, upd_eta e6, upd_eta e26]
    exact Pre.sound _ _ _ _ _ (cast (by kernel_rfl) h)
  · clear h
    intro l I S _ h
    obtain ⟨x_0, x_0n, x_0c, e0, h⟩ := asSl_e h
    obtain ⟨lo_6, e6, h⟩ := asI_e h
    rw [upd_eta e0, upd_eta e6]
    refine WP.cut 2 (fun l I S => asSl (l 7) fun newslice_7 newslice_7n newslice_7c => asI .i64 (l 8) fun n_8 => slices_Repeat__string_string_b5 R newslice_7 newslice_7n newslice_7c n_8 I S) (cast (by kernel_rfl) h) ?_
    clear h
    intro l I S _ h
    obtain ⟨newslice_7, newslice_7n, newslice_7c, e7, h⟩ := asSl_e h
    obtain ⟨n_8, e8, h⟩ := asI_e h
    rw [upd_eta e7, upd_eta e8]
    refine WP.seqY (by kernel_rfl) (fun l I S => asSl (l 7) fun newslice_7 newslice_7n newslice_7c => slices_Repeat__string_string_b8 R newslice_7 newslice_7n newslice_7c I S) ?_ ?_
    ·
      refine WP.block' (by kernel_rfl) ?_
      obtain ⟨Inv_again6, m_again6, h0, hr⟩ := h
      refine WP.loop' (by kernel_rfl) (fun m_again6 => fun l I S => asSl (l 7) fun newslice_7 newslice_7n newslice_7c => asI .i64 (l 8) fun n_8 => Inv_again6 m_again6 newslice_7 newslice_7n newslice_7c n_8 I S) m_again6 (cast (by kernel_rfl) h0) ?_
      clear h0
      intro m_again6 l I S hle h
      obtain ⟨newslice_7, newslice_7n, newslice_7c, e7, h⟩ := asSl_e h
      obtain ⟨n_8, e8, h⟩ := asI_e h
      rw [upd_eta e7, upd_eta e8]
      have h := hr m_again6 newslice_7 newslice_7n newslice_7c n_8 I S hle h
      clear hr hle
      refine WP.cut 1 (fun l I S => asSl (l 7) fun newslice_7 newslice_7n newslice_7c => asI .i64 (l 8) fun n_8 => slices_Repeat__string_string_b7 (fun newslice_7 newslice_7n newslice_7c n_8 I S => ∃ m', m' < m_again6 ∧ Inv_again6 m' newslice_7 newslice_7n newslice_7c n_8 I S) R newslice_7 newslice_7n newslice_7c n_8 I S) (cast (by kernel_rfl) h) ?_
      clear h
      intro l I S _ h
      obtain ⟨newslice_7, newslice_7n, newslice_7c, e7, h⟩ := asSl_e h
      obtain ⟨n_8, e8, h⟩ := asI_e h
      rw [upd_eta e7, upd_eta e8]
      refine WP.block' (by kernel_rfl) ?_
      exact WP.draw' (.take 0 (.take 1 (.take 2 (.take 3 (.take 4 (.take 5 (.take 6 (.step 7 (.take 8 (.take 9 .done)))))))))) [7] (by kernel_rfl) (by kernel_rfl) (by kernel_rfl) (by kernel_rfl) (by kernel_rfl) (cast (by kernel_rfl) h)
    · clear h
      intro l I S _ h
      obtain ⟨newslice_7, newslice_7n, newslice_7c, e7, h⟩ := asSl_e h
      rw [upd_eta e7]
      exact Pre.sound _ _ _ _ _ (cast (by kernel_rfl) h)
/-! ### slices_Replace__string_string: function 67, slices.Replace[[]string,string] -/
noncomputable def slices_Replace__string_string_code : Code := (Tryd.f67.body).getD .skip
def slices_Replace__string_string_b3 (R : Value → IMem → SH → Prop) (s2_9 : Option Addr) (s2_9n : Nat) (s2_9c : Nat) (I : IMem) (S : SH) : Prop :=
  R (.slice s2_9 s2_9n s2_9c) I S
def slices_Replace__string_string_b8 (R : Value → IMem → SH → Prop) (s2_11 : Option Addr) (s2_11n : Nat) (s2_11c : Nat) (I : IMem) (S : SH) : Prop :=
  R (.slice s2_11 s2_11n s2_11c) I S
def slices_Replace__string_string_b7 (R : Value → IMem → SH → Prop) (s_0 : Option Addr) (s_0n : Nat) (s_0c : Nat) (i_1 : Int) (j_2 : Int) (v_3 : Option Addr) (v_3n : Nat) (v_3c : Nat) (s2_11 : Option Addr) (s2_11n : Nat) (s2_11c : Nat) (I : IMem) (S : SH) : Prop :=
  (0 : Int) ≤ (IntKind.wrap .i64 (i_1 + (v_3n : Int))) ∧ (IntKind.wrap .i64 (i_1 + (v_3n : Int))) ≤ ((s2_11n : Nat) : Int) ∧
  (0 : Int) ≤ j_2 ∧ j_2 ≤ ((s_0n : Nat) : Int) ∧
  CpyP 1 I S (.slice (slA s2_11 s2_11c ((IntKind.wrap .i64 (i_1 + (v_3n : Int))).toNat) 1) (s2_11n - (IntKind.wrap .i64 (i_1 + (v_3n : Int))).toNat) (s2_11c - (IntKind.wrap .i64 (i_1 + (v_3n : Int))).toNat)) (.slice (slA s_0 s_0c j_2.toNat 1) (s_0n - j_2.toNat) (s_0c - j_2.toNat)) fun x82 S1 =>
  slices_Replace__string_string_b8 R s2_11 s2_11n s2_11c I S1
def slices_Replace__string_string_b13 (R : Value → IMem → SH → Prop) (s_0 : Option Addr) (s_0n : Nat) (s_0c : Nat) (tot_10 : Int) (r_12 : Option Addr) (r_12n : Nat) (r_12c : Nat) (I : IMem) (S : SH) : Prop :=
  (0 : Int) ≤ tot_10 ∧ tot_10 ≤ ((s_0n : Nat) : Int) ∧
  ClrP [.string ⟨#[]⟩] S (slA s_0 s_0c tot_10.toNat 1) (s_0n - tot_10.toNat) fun S1 =>
  R (.slice r_12 r_12n r_12c) I S1
def slices_Replace__string_string_b12 (R : Value → IMem → SH → Prop) (s_0 : Option Addr) (s_0n : Nat) (s_0c : Nat) (i_1 : Int) (j_2 : Int) (v_3 : Option Addr) (v_3n : Nat) (v_3c : Nat) (tot_10 : Int) (r_12 : Option Addr) (r_12n : Nat) (r_12c : Nat) (I : IMem) (S : SH) : Prop :=
  (0 : Int) ≤ (IntKind.wrap .i64 (i_1 + (v_3n : Int))) ∧ (IntKind.wrap .i64 (i_1 + (v_3n : Int))) ≤ ((r_12n : Nat) : Int) ∧
  (0 : Int) ≤ j_2 ∧ j_2 ≤ ((s_0n : Nat) : Int) ∧
  CpyP 1 I S (.slice (slA r_12 r_12c ((IntKind.wrap .i64 (i_1 + (v_3n : Int))).toNat) 1) (r_12n - (IntKind.wrap .i64 (i_1 + (v_3n : Int))).toNat) (r_12c - (IntKind.wrap .i64 (i_1 + (v_3n : Int))).toNat)) (.slice (slA s_0 s_0c j_2.toNat 1) (s_0n - j_2.toNat) (s_0c - j_2.toNat)) fun x107 S1 =>
  slices_Replace__string_string_b13 R s_0 s_0n s_0c tot_10 r_12 r_12n r_12c I S1
def slices_Replace__string_string_b16 (R : Value → IMem → SH → Prop) (i_1 : Int) (v_3 : Option Addr) (v_3n : Nat) (v_3c : Nat) (r_12 : Option Addr) (r_12n : Nat) (r_12c : Nat) (I : IMem) (S : SH) : Prop :=
  (0 : Int) ≤ i_1 ∧ i_1 ≤ ((r_12n : Nat) : Int) ∧
  CpyP 1 I S (.slice (slA r_12 r_12c i_1.toNat 1) (r_12n - i_1.toNat) (r_12c - i_1.toNat)) (.slice v_3 v_3n v_3c) fun x135 S1 =>
  R (.slice r_12 r_12n r_12c) I S1
def slices_Replace__string_string_b21 (R : Value → IMem → SH → Prop) (i_1 : Int) (r_12 : Option Addr) (r_12n : Nat) (r_12c : Nat) (y_13 : Int) (I : IMem) (S : SH) : Prop :=
  (0 : Int) ≤ i_1 ∧ i_1 ≤ ((r_12n : Nat) : Int) ∧
  Runs Tryd.prog 77 #[.slice (slA r_12 r_12c i_1.toNat 1) (r_12n - i_1.toNat) (r_12c - i_1.toNat), .int .i64 y_13] I S fun v I1 S1 => v = .tuple #[] ∧
  R (.slice r_12 r_12n r_12c) I1 S1
def slices_Replace__string_string_b20 (R : Value → IMem → SH → Prop) (s_0 : Option Addr) (s_0n : Nat) (s_0c : Nat) (i_1 : Int) (v_3 : Option Addr) (v_3n : Nat) (v_3c : Nat) (r_12 : Option Addr) (r_12n : Nat) (r_12c : Nat) (y_13 : Int) (I : IMem) (S : SH) : Prop :=
  (0 : Int) ≤ (s_0n : Int) ∧ (s_0n : Int) ≤ ((r_12n : Nat) : Int) ∧
  (0 : Int) ≤ y_13 ∧ y_13 ≤ ((v_3c : Nat) : Int) ∧
  CpyP 1 I S (.slice (slA r_12 r_12c ((s_0n : Int).toNat) 1) (r_12n - (s_0n : Int).toNat) (r_12c - (s_0n : Int).toNat)) (.slice (slA v_3 v_3c 0 1) (y_13.toNat - 0) (v_3c - 0)) fun x165 S1 =>
  slices_Replace__string_string_b21 R i_1 r_12 r_12n r_12c y_13 I S1
def slices_Replace__string_string_b25 (R : Value → IMem → SH → Prop) (i_1 : Int) (r_12 : Option Addr) (r_12n : Nat) (r_12c : Nat) (y_13 : Int) (I : IMem) (S : SH) : Prop :=
  (0 : Int) ≤ i_1 ∧ i_1 ≤ ((r_12n : Nat) : Int) ∧
  Runs Tryd.prog 77 #[.slice (slA r_12 r_12c i_1.toNat 1) (r_12n - i_1.toNat) (r_12c - i_1.toNat), .int .i64 y_13] I S fun v I1 S1 => v = .tuple #[] ∧
  R (.slice r_12 r_12n r_12c) I1 S1
def slices_Replace__string_string_b24 (R : Value → IMem → SH → Prop) (i_1 : Int) (j_2 : Int) (v_3 : Option Addr) (v_3n : Nat) (v_3c : Nat) (r_12 : Option Addr) (r_12n : Nat) (r_12c : Nat) (y_13 : Int) (I : IMem) (S : SH) : Prop :=
  (0 : Int) ≤ j_2 ∧ j_2 ≤ ((r_12c : Nat) : Int) ∧
  (0 : Int) ≤ i_1 ∧ i_1 ≤ ((j_2.toNat : Nat) : Int) ∧
  (0 : Int) ≤ y_13 ∧ y_13 ≤ ((v_3n : Nat) : Int) ∧
  CpyP 1 I S (.slice (slA r_12 r_12c i_1.toNat 1) (j_2.toNat - i_1.toNat) (r_12c - i_1.toNat)) (.slice (slA v_3 v_3c y_13.toNat 1) (v_3n - y_13.toNat) (v_3c - y_13.toNat)) fun x194 S1 =>
  slices_Replace__string_string_b25 R i_1 r_12 r_12n r_12c y_13 I S1
def slices_Replace__string_string_b28 (R : Value → IMem → SH → Prop) (r_12 : Option Addr) (r_12n : Nat) (r_12c : Nat) (I : IMem) (S : SH) : Prop :=
  R (.slice r_12 r_12n r_12c) I S
def slices_Replace__string_string_b27 (R : Value → IMem → SH → Prop) (i_1 : Int) (v_3 : Option Addr) (v_3n : Nat) (v_3c : Nat) (r_12 : Option Addr) (r_12n : Nat) (r_12c : Nat) (k_14 : Int) (I : IMem) (S : SH) : Prop :=
  (0 : Int) ≤ (IntKind.wrap .i64 (i_1 + (v_3n : Int))) ∧ (IntKind.wrap .i64 (i_1 + (v_3n : Int))) ≤ ((r_12n : Nat) : Int) ∧
  (0 : Int) ≤ (IntKind.wrap .i64 (i_1 + k_14)) ∧ (IntKind.wrap .i64 (i_1 + k_14)) ≤ ((r_12n : Nat) : Int) ∧
  CpyP 1 I S (.slice (slA r_12 r_12c ((IntKind.wrap .i64 (i_1 + (v_3n : Int))).toNat) 1) (r_12n - (IntKind.wrap .i64 (i_1 + (v_3n : Int))).toNat) (r_12c - (IntKind.wrap .i64 (i_1 + (v_3n : Int))).toNat)) (.slice (slA r_12 r_12c ((IntKind.wrap .i64 (i_1 + k_14)).toNat) 1) (r_12n - (IntKind.wrap .i64 (i_1 + k_14)).toNat) (r_12c - (IntKind.wrap .i64 (i_1 + k_14)).toNat)) fun x222 S1 =>
  slices_Replace__string_string_b28 R r_12 r_12n r_12c I S1
def slices_Replace__string_string_b26 (R : Value → IMem → SH → Prop) (s_0 : Option Addr) (s_0n : Nat) (s_0c : Nat) (i_1 : Int) (j_2 : Int) (v_3 : Option Addr) (v_3n : Nat) (v_3c : Nat) (r_12 : Option Addr) (r_12n : Nat) (r_12c : Nat) (I : IMem) (S : SH) : Prop :=
  (0 : Int) ≤ j_2 ∧ j_2 ≤ ((s_0n : Nat) : Int) ∧
  Runs Tryd.prog 78 #[.slice v_3 v_3n v_3c, .slice (slA s_0 s_0c j_2.toNat 1) (s_0n - j_2.toNat) (s_0c - j_2.toNat)] I S fun v I1 S1 => ∃ x205, v = .int .i64 x205 ∧
  (0 : Int) ≤ i_1 ∧ i_1 ≤ ((r_12n : Nat) : Int) ∧
  CpyP 1 I1 S1 (.slice (slA r_12 r_12c i_1.toNat 1) (r_12n - i_1.toNat) (r_12c - i_1.toNat)) (.slice v_3 v_3n v_3c) fun x210 S1' =>
  slices_Replace__string_string_b27 R i_1 v_3 v_3n v_3c r_12 r_12n r_12c x205 I1 S1'
def slices_Replace__string_string_b23 (R : Value → IMem → SH → Prop) (s_0 : Option Addr) (s_0n : Nat) (s_0c : Nat) (i_1 : Int) (j_2 : Int) (v_3 : Option Addr) (v_3n : Nat) (v_3c : Nat) (r_12 : Option Addr) (r_12n : Nat) (r_12c : Nat) (y_13 : Int) (x178 : Bool) (I : IMem) (S : SH) : Prop :=
  bcase x178
    ((0 : Int) ≤ (s_0n : Int) ∧ (s_0n : Int) ≤ ((r_12n : Nat) : Int) ∧
    (0 : Int) ≤ y_13 ∧ y_13 ≤ ((v_3c : Nat) : Int) ∧
    CpyP 1 I S (.slice (slA r_12 r_12c ((s_0n : Int).toNat) 1) (r_12n - (s_0n : Int).toNat) (r_12c - (s_0n : Int).toNat)) (.slice (slA v_3 v_3c 0 1) (y_13.toNat - 0) (v_3c - 0)) fun x186 S1 =>
    slices_Replace__string_string_b24 R i_1 j_2 v_3 v_3n v_3c r_12 r_12n r_12c y_13 I S1)
    (slices_Replace__string_string_b26 R s_0 s_0n s_0c i_1 j_2 v_3 v_3n v_3c r_12 r_12n r_12c I S)
def slices_Replace__string_string_b22 (R : Value → IMem → SH → Prop) (s_0 : Option Addr) (s_0n : Nat) (s_0c : Nat) (i_1 : Int) (j_2 : Int) (v_3 : Option Addr) (v_3n : Nat) (v_3c : Nat) (r_12 : Option Addr) (r_12n : Nat) (r_12c : Nat) (y_13 : Int) (I : IMem) (S : SH) : Prop :=
  (0 : Int) ≤ (s_0n : Int) ∧ (s_0n : Int) ≤ ((r_12n : Nat) : Int) ∧
  RunsX Tryd.prog 76 #[.slice (slA r_12 r_12c ((s_0n : Int).toNat) 1) (r_12n - (s_0n : Int).toNat) (r_12c - (s_0n : Int).toNat), .slice v_3 v_3n v_3c] I S fun v I1 S1 => ∃ x177, v = .bool x177 ∧
  slices_Replace__string_string_b23 R s_0 s_0n s_0c i_1 j_2 v_3 v_3n v_3c r_12 r_12n r_12c y_13 (!x177) I1 S1
def slices_Replace__string_string_b19 (R : Value → IMem → SH → Prop) (s_0 : Option Addr) (s_0n : Nat) (s_0c : Nat) (i_1 : Int) (j_2 : Int) (v_3 : Option Addr) (v_3n : Nat) (v_3c : Nat) (r_12 : Option Addr) (r_12n : Nat) (r_12c : Nat) (y_13 : Int) (x149 : Bool) (I : IMem) (S : SH) : Prop :=
  bcase x149
    ((0 : Int) ≤ j_2 ∧ j_2 ≤ ((r_12c : Nat) : Int) ∧
    (0 : Int) ≤ i_1 ∧ i_1 ≤ ((j_2.toNat : Nat) : Int) ∧
    (0 : Int) ≤ y_13 ∧ y_13 ≤ ((v_3n : Nat) : Int) ∧
    CpyP 1 I S (.slice (slA r_12 r_12c i_1.toNat 1) (j_2.toNat - i_1.toNat) (r_12c - i_1.toNat)) (.slice (slA v_3 v_3c y_13.toNat 1) (v_3n - y_13.toNat) (v_3c - y_13.toNat)) fun x157 S1 =>
    slices_Replace__string_string_b20 R s_0 s_0n s_0c i_1 v_3 v_3n v_3c r_12 r_12n r_12c y_13 I S1)
    (slices_Replace__string_string_b22 R s_0 s_0n s_0c i_1 j_2 v_3 v_3n v_3c r_12 r_12n r_12c y_13 I S)
def slices_Replace__string_string_b18 (R : Value → IMem → SH → Prop) (s_0 : Option Addr) (s_0n : Nat) (s_0c : Nat) (i_1 : Int) (j_2 : Int) (v_3 : Option Addr) (v_3n : Nat) (v_3c : Nat) (r_12 : Option Addr) (r_12n : Nat) (r_12c : Nat) (y_13 : Int) (I : IMem) (S : SH) : Prop :=
  (0 : Int) ≤ j_2 ∧ j_2 ≤ ((r_12c : Nat) : Int) ∧
  (0 : Int) ≤ i_1 ∧ i_1 ≤ ((j_2.toNat : Nat) : Int) ∧
  RunsX Tryd.prog 76 #[.slice (slA r_12 r_12c i_1.toNat 1) (j_2.toNat - i_1.toNat) (r_12c - i_1.toNat), .slice v_3 v_3n v_3c] I S fun v I1 S1 => ∃ x148, v = .bool x148 ∧
  slices_Replace__string_string_b19 R s_0 s_0n s_0c i_1 j_2 v_3 v_3n v_3c r_12 r_12n r_12c y_13 (!x148) I1 S1
def slices_Replace__string_string_b17 (R : Value → IMem → SH → Prop) (s_0 : Option Addr) (s_0n : Nat) (s_0c : Nat) (i_1 : Int) (j_2 : Int) (v_3 : Option Addr) (v_3n : Nat) (v_3c : Nat) (r_12 : Option Addr) (r_12n : Nat) (r_12c : Nat) (I : IMem) (S : SH) : Prop :=
  slices_Replace__string_string_b18 R s_0 s_0n s_0c i_1 j_2 v_3 v_3n v_3c r_12 r_12n r_12c (IntKind.wrap .i64 ((v_3n : Int) - (IntKind.wrap .i64 (j_2 - i_1)))) I S
def slices_Replace__string_string_b15 (R : Value → IMem → SH → Prop) (s_0 : Option Addr) (s_0n : Nat) (s_0c : Nat) (i_1 : Int) (j_2 : Int) (v_3 : Option Addr) (v_3n : Nat) (v_3c : Nat) (r_12 : Option Addr) (r_12n : Nat) (r_12c : Nat) (x120 : Bool) (I : IMem) (S : SH) : Prop :=
  bcase x120
    ((0 : Int) ≤ (IntKind.wrap .i64 (i_1 + (v_3n : Int))) ∧ (IntKind.wrap .i64 (i_1 + (v_3n : Int))) ≤ ((r_12n : Nat) : Int) ∧
    (0 : Int) ≤ j_2 ∧ j_2 ≤ ((s_0n : Nat) : Int) ∧
    CpyP 1 I S (.slice (slA r_12 r_12c ((IntKind.wrap .i64 (i_1 + (v_3n : Int))).toNat) 1) (r_12n - (IntKind.wrap .i64 (i_1 + (v_3n : Int))).toNat) (r_12c - (IntKind.wrap .i64 (i_1 + (v_3n : Int))).toNat)) (.slice (slA s_0 s_0c j_2.toNat 1) (s_0n - j_2.toNat) (s_0c - j_2.toNat)) fun x130 S1 =>
    slices_Replace__string_string_b16 R i_1 v_3 v_3n v_3c r_12 r_12n r_12c I S1)
    (slices_Replace__string_string_b17 R s_0 s_0n s_0c i_1 j_2 v_3 v_3n v_3c r_12 r_12n r_12c I S)
def slices_Replace__string_string_b14 (R : Value → IMem → SH → Prop) (s_0 : Option Addr) (s_0n : Nat) (s_0c : Nat) (i_1 : Int) (j_2 : Int) (v_3 : Option Addr) (v_3n : Nat) (v_3c : Nat) (r_12 : Option Addr) (r_12n : Nat) (r_12c : Nat) (I : IMem) (S : SH) : Prop :=
  (0 : Int) ≤ (IntKind.wrap .i64 (i_1 + (v_3n : Int))) ∧ (IntKind.wrap .i64 (i_1 + (v_3n : Int))) ≤ ((r_12n : Nat) : Int) ∧
  RunsX Tryd.prog 76 #[.slice (slA r_12 r_12c ((IntKind.wrap .i64 (i_1 + (v_3n : Int))).toNat) 1) (r_12n - (IntKind.wrap .i64 (i_1 + (v_3n : Int))).toNat) (r_12c - (IntKind.wrap .i64 (i_1 + (v_3n : Int))).toNat), .slice v_3 v_3n v_3c] I S fun v I1 S1 => ∃ x119, v = .bool x119 ∧
  slices_Replace__string_string_b15 R s_0 s_0n s_0c i_1 j_2 v_3 v_3n v_3c r_12 r_12n r_12c (!x119) I1 S1
def slices_Replace__string_string_b11 (R : Value → IMem → SH → Prop) (s_0 : Option Addr) (s_0n : Nat) (s_0c : Nat) (i_1 : Int) (j_2 : Int) (v_3 : Option Addr) (v_3n : Nat) (v_3c : Nat) (tot_10 : Int) (r_12 : Option Addr) (r_12n : Nat) (r_12c : Nat) (x92 : Bool) (I : IMem) (S : SH) : Prop :=
  bcase x92
    ((0 : Int) ≤ i_1 ∧ i_1 ≤ ((r_12n : Nat) : Int) ∧
    CpyP 1 I S (.slice (slA r_12 r_12c i_1.toNat 1) (r_12n - i_1.toNat) (r_12c - i_1.toNat)) (.slice v_3 v_3n v_3c) fun x97 S1 =>
    slices_Replace__string_string_b12 R s_0 s_0n s_0c i_1 j_2 v_3 v_3n v_3c tot_10 r_12 r_12n r_12c I S1)
    (slices_Replace__string_string_b14 R s_0 s_0n s_0c i_1 j_2 v_3 v_3n v_3c r_12 r_12n r_12c I S)
def slices_Replace__string_string_b10 (R : Value → IMem → SH → Prop) (s_0 : Option Addr) (s_0n : Nat) (s_0c : Nat) (i_1 : Int) (j_2 : Int) (v_3 : Option Addr) (v_3n : Nat) (v_3c : Nat) (tot_10 : Int) (r_12 : Option Addr) (r_12n : Nat) (r_12c : Nat) (I : IMem) (S : SH) : Prop :=
  slices_Replace__string_string_b11 R s_0 s_0n s_0c i_1 j_2 v_3 v_3n v_3c tot_10 r_12 r_12n r_12c (decide ((IntKind.wrap .i64 (i_1 + (v_3n : Int))) ≤ j_2)) I S
def slices_Replace__string_string_b9 (R : Value → IMem → SH → Prop) (s_0 : Option Addr) (s_0n : Nat) (s_0c : Nat) (i_1 : Int) (j_2 : Int) (v_3 : Option Addr) (v_3n : Nat) (v_3c : Nat) (tot_10 : Int) (I : IMem) (S : SH) : Prop :=
  (0 : Int) ≤ tot_10 ∧ tot_10 ≤ ((s_0c : Nat) : Int) ∧
  slices_Replace__string_string_b10 R s_0 s_0n s_0c i_1 j_2 v_3 v_3n v_3c tot_10 (slA s_0 s_0c 0 1) (tot_10.toNat - 0) (s_0c - 0) I S
def slices_Replace__string_string_b6 (R : Value → IMem → SH → Prop) (s_0 : Option Addr) (s_0n : Nat) (s_0c : Nat) (i_1 : Int) (j_2 : Int) (v_3 : Option Addr) (v_3n : Nat) (v_3c : Nat) (tot_10 : Int) (x60 : Bool) (I : IMem) (S : SH) : Prop :=
  bcase x60
    ((0 : Int) ≤ i_1 ∧ i_1 ≤ ((s_0c : Nat) : Int) ∧
    AppG 9 1 16 [.string ⟨#[]⟩] (some (.int .i64)) I S (.slice (slA s_0 s_0c 0 1) (i_1.toNat - 0) (s_0c - 0)) (.int .i64 (IntKind.wrap .i64 (tot_10 - i_1))) fun x67 x67n x67c S1 =>
    (0 : Int) ≤ i_1 ∧ i_1 ≤ ((x67n : Nat) : Int) ∧
    CpyP 1 I S1 (.slice (slA x67 x67c i_1.toNat 1) (x67n - i_1.toNat) (x67c - i_1.toNat)) (.slice v_3 v_3n v_3c) fun x72 S1' =>
    slices_Replace__string_string_b7 R s_0 s_0n s_0c i_1 j_2 v_3 v_3n v_3c x67 x67n x67c I S1')
    (slices_Replace__string_string_b9 R s_0 s_0n s_0c i_1 j_2 v_3 v_3n v_3c tot_10 I S)
def slices_Replace__string_string_b5 (R : Value → IMem → SH → Prop) (s_0 : Option Addr) (s_0n : Nat) (s_0c : Nat) (i_1 : Int) (j_2 : Int) (v_3 : Option Addr) (v_3n : Nat) (v_3c : Nat) (tot_10 : Int) (I : IMem) (S : SH) : Prop :=
  slices_Replace__string_string_b6 R s_0 s_0n s_0c i_1 j_2 v_3 v_3n v_3c tot_10 (decide (tot_10 > (s_0c : Int))) I S
def slices_Replace__string_string_b4 (R : Value → IMem → SH → Prop) (s_0 : Option Addr) (s_0n : Nat) (s_0c : Nat) (i_1 : Int) (j_2 : Int) (v_3 : Option Addr) (v_3n : Nat) (v_3c : Nat) (I : IMem) (S : SH) : Prop :=
  (0 : Int) ≤ i_1 ∧ i_1 ≤ ((s_0c : Nat) : Int) ∧
  (0 : Int) ≤ j_2 ∧ j_2 ≤ ((s_0n : Nat) : Int) ∧
  slices_Replace__string_string_b5 R s_0 s_0n s_0c i_1 j_2 v_3 v_3n v_3c (IntKind.wrap .i64 ((IntKind.wrap .i64 ((((i_1.toNat - 0) : Nat) : Int) + (v_3n : Int))) + (((s_0n - j_2.toNat) : Nat) : Int))) I S
def slices_Replace__string_string_b2 (R : Value → IMem → SH → Prop) (s_0 : Option Addr) (s_0n : Nat) (s_0c : Nat) (i_1 : Int) (j_2 : Int) (v_3 : Option Addr) (v_3n : Nat) (v_3c : Nat) (x29 : Bool) (I : IMem) (S : SH) : Prop :=
  bcase x29
    ((0 : Int) ≤ i_1 ∧ i_1 ≤ ((s_0c : Nat) : Int) ∧
    AppG 9 1 16 [.string ⟨#[]⟩] (some (.slice 9)) I S (.slice (slA s_0 s_0c 0 1) (i_1.toNat - 0) (s_0c - 0)) (.slice v_3 v_3n v_3c) fun x34 x34n x34c S1 =>
    bcase (decide ((x34n : Int) < (s_0n : Int)))
      ((0 : Int) ≤ (x34n : Int) ∧ (x34n : Int) ≤ ((s_0n : Nat) : Int) ∧
      ClrP [.string ⟨#[]⟩] S1 (slA s_0 s_0c ((x34n : Int).toNat) 1) (s_0n - (x34n : Int).toNat) fun S1' =>
      slices_Replace__string_string_b3 R x34 x34n x34c I S1')
      (slices_Replace__string_string_b3 R x34 x34n x34c I S1))
    (slices_Replace__string_string_b4 R s_0 s_0n s_0c i_1 j_2 v_3 v_3n v_3c I S)
def slices_Replace__string_string_b1 (R : Value → IMem → SH → Prop) (s_0 : Option Addr) (s_0n : Nat) (s_0c : Nat) (i_1 : Int) (j_2 : Int) (v_3 : Option Addr) (v_3n : Nat) (v_3c : Nat) (I : IMem) (S : SH) : Prop :=
  slices_Replace__string_string_b2 R s_0 s_0n s_0c i_1 j_2 v_3 v_3n v_3c (j_2 == (s_0n : Int)) I S
def slices_Replace__string_string (R : Value → IMem → SH → Prop) (s_0 : Option Addr) (s_0n : Nat) (s_0c : Nat) (i_1 : Int) (j_2 : Int) (v_3 : Option Addr) (v_3n : Nat) (v_3c : Nat) (I : IMem) (S : SH) : Prop :=
  (0 : Int) ≤ j_2 ∧ j_2 ≤ ((s_0c : Nat) : Int) ∧
  (0 : Int) ≤ i_1 ∧ i_1 ≤ ((j_2.toNat : Nat) : Int) ∧
  bcase (i_1 == j_2)
    (Runs Tryd.prog 75 #[.slice s_0 s_0n s_0c, .int .i64 i_1, .slice v_3 v_3n v_3c] I S fun v I1 S1 => ∃ x25 x25n x25c, v = .slice x25 x25n x25c ∧
    R (.slice x25 x25n x25c) I1 S1)
    (slices_Replace__string_string_b1 R s_0 s_0n s_0c i_1 j_2 v_3 v_3n v_3c I S)
theorem slices_Replace__string_string_fn (R : Value → IMem → SH → Prop) (s_0 : Option Addr) (s_0n : Nat) (s_0c : Nat) (i_1 : Int) (j_2 : Int) (v_3 : Option Addr) (v_3n : Nat) (v_3c : Nat) (I : IMem) (S : SH) (h : slices_Replace__string_string R s_0 s_0n s_0c i_1 j_2 v_3 v_3n v_3c I S) :
    Runs Tryd.prog 67 #[.slice s_0 s_0n s_0c, .int .i64 i_1, .int .i64 j_2, .slice v_3 v_3n v_3c] I S R := by
  refine Runs.of_wp (args := [.slice s_0 s_0n s_0c, .int .i64 i_1, .int .i64 j_2, .slice v_3 v_3n v_3c]) (c := slices_Replace__string_string_code) Tryd.func67 (by kernel_rfl) (by kernel_rfl) ?_
  refine WP.cut 3 (fun l I S => asSl (l 0) fun s_0 s_0n s_0c => asI .i64 (l 1) fun i_1 => asI .i64 (l 2) fun j_2 => asSl (l 3) fun v_3 v_3n v_3c => slices_Replace__string_string_b1 R s_0 s_0n s_0c i_1 j_2 v_3 v_3n v_3c I S) (cast (by kernel_rfl) h) ?_
  clear h
  intro l I S _ h
  obtain ⟨s_0, s_0n, s_0c, e0, h⟩ := asSl_e h
  obtain ⟨i_1, e1, h⟩ := asI_e h
  obtain ⟨j_2, e2, h⟩ := asI_e h
  obtain ⟨v_3, v_3n, v_3c, e3, h⟩ := asSl_e h
  rw [upd_eta e0, upd_eta e1, upd_eta e2, upd_eta e3]
  refine WP.seqY (by kernel_rfl) (fun l I S => asSl (l 0) fun s_0 s_0n s_0c => asI .i64 (l 1) fun i_1 => asI .i64 (l 2) fun j_2 => asSl (l 3) fun v_3 v_3n v_3c => slices_Replace__string_string_b4 R s_0 s_0n s_0c i_1 j_2 v_3 v_3n v_3c I S) ?_ ?_
  ·
    refine WP.cut 1 (fun l I S => asSl (l 0) fun s_0 s_0n s_0c => asI .i64 (l 1) fun i_1 => asI .i64 (l 2) fun j_2 => asSl (l 3) fun v_3 v_3n v_3c => asB (l 29) fun x29 => slices_Replace__string_string_b2 R s_0 s_0n s_0c i_1 j_2 v_3 v_3n v_3c x29 I S) (cast (by kernel_rfl) h) ?_
    clear h
    intro l I S _ h
    obtain ⟨s_0, s_0n, s_0c, e0, h⟩ := asSl_e h
    obtain ⟨i_1, e1, h⟩ := asI_e h
    obtain ⟨j_2, e2, h⟩ := asI_e h
    obtain ⟨v_3, v_3n, v_3c, e3, h⟩ := asSl_e h
    obtain ⟨x29, e29, h⟩ := asB_e h
    rw [upd_eta e0, upd_eta e1, upd_eta e2, upd_eta e3, upd_eta e29]
    refine WP.cond' (by kernel_rfl) (by kernel_rfl) h ?_ ?_
    · clear h
      intro h
      refine WP.cut 2 (fun l I S => asSl (l 9) fun s2_9 s2_9n s2_9c => slices_Replace__string_string_b3 R s2_9 s2_9n s2_9c I S) (cast (by kernel_rfl) h) ?_
      clear h
      intro l I S _ h
      obtain ⟨s2_9, s2_9n, s2_9c, e9, h⟩ := asSl_e h
      rw [upd_eta e9]
      exact Pre.sound _ _ _ _ _ (cast (by kernel_rfl) h)
    · clear h
      intro h
      exact Pre.sound _ _ _ _ _ (cast (by kernel_rfl) h)
  · clear h
    intro l I S _ h
    obtain ⟨s_0, s_0n, s_0c, e0, h⟩ := asSl_e h
    obtain ⟨i_1, e1, h⟩ := asI_e h
    obtain ⟨j_2, e2, h⟩ := asI_e h
    obtain ⟨v_3, v_3n, v_3c, e3, h⟩ := asSl_e h
    rw [upd_eta e0, upd_eta e1, upd_eta e2, upd_eta e3]
    refine WP.seqY (by kernel_rfl) (fun l I S => asSl (l 0) fun s_0 s_0n s_0c => asI .i64 (l 1) fun i_1 => asI .i64 (l 2) fun j_2 => asSl (l 3) fun v_3 v_3n v_3c => asI .i64 (l 10) fun tot_10 => slices_Replace__string_string_b5 R s_0 s_0n s_0c i_1 j_2 v_3 v_3n v_3c tot_10 I S) ?_ ?_
    ·
      exact WP.quiet' (by kernel_rfl) (by kernel_rfl) (by kernel_rfl) (cast (by kernel_rfl) h)
    · clear h
      intro l I S _ h
      obtain ⟨s_0, s_0n, s_0c, e0, h⟩ := asSl_e h
      obtain ⟨i_1, e1, h⟩ := asI_e h
      obtain ⟨j_2, e2, h⟩ := asI_e h
      obtain ⟨v_3, v_3n, v_3c, e3, h⟩ := asSl_e h
      obtain ⟨tot_10, e10, h⟩ := asI_e h
      rw [upd_eta e0, upd_eta e1, upd_eta e2, upd_eta e3, upd_eta e10]
      refine WP.seqY (by kernel_rfl) (fun l I S => asSl (l 0) fun s_0 s_0n s_0c => asI .i64 (l 1) fun i_1 => asI .i64 (l 2) fun j_2 => asSl (l 3) fun v_3 v_3n v_3c => asI .i64 (l 10) fun tot_10 => slices_Replace__string_string_b9 R s_0 s_0n s_0c i_1 j_2 v_3 v_3n v_3c tot_10 I S) ?_ ?_
      ·
        refine WP.cut 1 (fun l I S => asSl (l 0) fun s_0 s_0n s_0c => asI .i64 (l 1) fun i_1 => asI .i64 (l 2) fun j_2 => asSl (l 3) fun v_3 v_3n v_3c => asI .i64 (l 10) fun tot_10 => asB (l 60) fun x60 => slices_Replace__string_string_b6 R s_0 s_0n s_0c i_1 j_2 v_3 v_3n v_3c tot_10 x60 I S) (cast (by kernel_rfl) h) ?_
        clear h
        intro l I S _ h
        obtain ⟨s_0, s_0n, s_0c, e0, h⟩ := asSl_e h
        obtain ⟨i_1, e1, h⟩ := asI_e h
        obtain ⟨j_2, e2, h⟩ := asI_e h
        obtain ⟨v_3, v_3n, v_3c, e3, h⟩ := asSl_e h
        obtain ⟨tot_10, e10, h⟩ := asI_e h
        obtain ⟨x60, e60, h⟩ := asB_e h
        rw [upd_eta e0, upd_eta e1, upd_eta e2, upd_eta e3, upd_eta e10, upd_eta e60]
        refine WP.cond' (by kernel_rfl) (by kernel_rfl) h ?_ ?_
        · clear h
          intro h
          refine WP.cut 2 (fun l I S => asSl (l 0) fun s_0 s_0n s_0c => asI .i64 (l 1) fun i_1 => asI .i64 (l 2) fun j_2 => asSl (l 3) fun v_3 v_3n v_3c => asSl (l 11) fun s2_11 s2_11n s2_11c => slices_Replace__string_string_b7 R s_0 s_0n s_0c i_1 j_2 v_3 v_3n v_3c s2_11 s2_11n s2_11c I S) (cast (by kernel_rfl) h) ?_
          clear h
          intro l I S _ h
          obtain ⟨s_0, s_0n, s_0c, e0, h⟩ := asSl_e h
          obtain ⟨i_1, e1, h⟩ := asI_e h
          obtain ⟨j_2, e2, h⟩ := asI_e h
          obtain ⟨v_3, v_3n, v_3c, e3, h⟩ := asSl_e h
          obtain ⟨s2_11, s2_11n, s2_11c, e11, h⟩ := asSl_e h
          rw [upd_eta e0, upd_eta e1, upd_eta e2, upd_eta e3, upd_eta e11]
          refine WP.seqY (by kernel_rfl) (fun l I S => asSl (l 11) fun s2_11 s2_11n s2_11c => slices_Replace__string_string_b8 R s2_11 s2_11n s2_11c I S) ?_ ?_
          ·
            exact WP.draw' (.take 0 (.take 1 (.take 2 (.take 3 (.take 4 (.take 5 (.take 6 (.take 7 (.take 8 (.step 9 .done)))))))))) [9] (by kernel_rfl) (by kernel_rfl) (by kernel_rfl) (by kernel_rfl) (by kernel_rfl) (cast (by kernel_rfl) h)
          · clear h
            intro l I S _ h
            obtain ⟨s2_11, s2_11n, s2_11c, e11, h⟩ := asSl_e h
            rw [upd_eta e11]
            exact Pre.sound _ _ _ _ _ (cast (by kernel_rfl) h)
        · clear h
          intro h
          exact Pre.sound _ _ _ _ _ (cast (by kernel_rfl) h)
      · clear h
        intro l I S _ h
        obtain ⟨s_0, s_0n, s_0c, e0, h⟩ := asSl_e h
        obtain ⟨i_1, e1, h⟩ := asI_e h
        obtain ⟨j_2, e2, h⟩ := asI_e h
        obtain ⟨v_3, v_3n, v_3c, e3, h⟩ := asSl_e h
        obtain ⟨tot_10, e10, h⟩ := asI_e h
        rw [upd_eta e0, upd_eta e1, upd_eta e2, upd_eta e3, upd_eta e10]
        refine WP.cut 1 (fun l I S => asSl (l 0) fun s_0 s_0n s_0c => asI .i64 (l 1) fun i_1 => asI .i64 (l 2) fun j_2 => asSl (l 3) fun v_3 v_3n v_3c => asI .i64 (l 10) fun tot_10 => asSl (l 12) fun r_12 r_12n r_12c => slices_Replace__string_string_b10 R s_0 s_0n s_0c i_1 j_2 v_3 v_3n v_3c tot_10 r_12 r_12n r_12c I S) (cast (by kernel_rfl) h) ?_
        clear h
        intro l I S _ h
        obtain ⟨s_0, s_0n, s_0c, e0, h⟩ := asSl_e h
        obtain ⟨i_1, e1, h⟩ := asI_e h
        obtain ⟨j_2, e2, h⟩ := asI_e h
        obtain ⟨v_3, v_3n, v_3c, e3, h⟩ := asSl_e h
        obtain ⟨tot_10, e10, h⟩ := asI_e h
        obtain ⟨r_12, r_12n, r_12c, e12, h⟩ := asSl_e h
        rw [upd_eta e0, upd_eta e1, upd_eta e2, upd_eta e3, upd_eta e10, upd_eta e12]
        refine WP.seqY (by kernel_rfl) (fun l I S => asSl (l 0) fun s_0 s_0n s_0c => asI .i64 (l 1) fun i_1 => asI .i64 (l 2) fun j_2 => asSl (l 3) fun v_3 v_3n v_3c => asSl (l 12) fun r_12 r_12n r_12c => slices_Replace__string_string_b14 R s_0 s_0n s_0c i_1 j_2 v_3 v_3n v_3c r_12 r_12n r_12c I S) ?_ ?_
        ·
          refine WP.cut 1 (fun l I S => asSl (l 0) fun s_0 s_0n s_0c => asI .i64 (l 1) fun i_1 => asI .i64 (l 2) fun j_2 => asSl (l 3) fun v_3 v_3n v_3c => asI .i64 (l 10) fun tot_10 => asSl (l 12) fun r_12 r_12n r_12c => asB (l 92) fun x92 => slices_Replace__string_string_b11 R s_0 s_0n s_0c i_1 j_2 v_3 v_3n v_3c tot_10 r_12 r_12n r_12c x92 I S) (cast (by kernel_rfl) h) ?_
          clear h
          intro l I S _ h
          obtain ⟨s_0, s_0n, s_0c, e0, h⟩ := asSl_e h
          obtain ⟨i_1, e1, h⟩ := asI_e h
          obtain ⟨j_2, e2, h⟩ := asI_e h
          obtain ⟨v_3, v_3n, v_3c, e3, h⟩ := asSl_e h
          obtain ⟨tot_10, e10, h⟩ := asI_e h
          obtain ⟨r_12, r_12n, r_12c, e12, h⟩ := asSl_e h
          obtain ⟨x92, e92, h⟩ := asB_e h
          rw [upd_eta e0, upd_eta e1, upd_eta e2, upd_eta e3, upd_eta e10, upd_eta e12, upd_eta e92]
          refine WP.cond' (by kernel_rfl) (by kernel_rfl) h ?_ ?_
          · clear h
            intro h
            refine WP.cut 1 (fun l I S => asSl (l 0) fun s_0 s_0n s_0c => asI .i64 (l 1) fun i_1 => asI .i64 (l 2) fun j_2 => asSl (l 3) fun v_3 v_3n v_3c => asI .i64 (l 10) fun tot_10 => asSl (l 12) fun r_12 r_12n r_12c => slices_Replace__string_string_b12 R s_0 s_0n s_0c i_1 j_2 v_3 v_3n v_3c tot_10 r_12 r_12n r_12c I S) (cast (by kernel_rfl) h) ?_
            clear h
            intro l I S _ h
            obtain ⟨s_0, s_0n, s_0c, e0, h⟩ := asSl_e h
            obtain ⟨i_1, e1, h⟩ := asI_e h
            obtain ⟨j_2, e2, h⟩ := asI_e h
            obtain ⟨v_3, v_3n, v_3c, e3, h⟩ := asSl_e h
            obtain ⟨tot_10, e10, h⟩ := asI_e h
            obtain ⟨r_12, r_12n, r_12c, e12, h⟩ := asSl_e h
            rw [upd_eta e0, upd_eta e1, upd_eta e2, upd_eta e3, upd_eta e10, upd_eta e12]
            refine WP.seqY (by kernel_rfl) (fun l I S => asSl (l 0) fun s_0 s_0n s_0c => asI .i64 (l 10) fun tot_10 => asSl (l 12) fun r_12 r_12n r_12c => slices_Replace__string_string_b13 R s_0 s_0n s_0c tot_10 r_12 r_12n r_12c I S) ?_ ?_
            ·
              exact WP.draw' (.take 0 (.take 1 (.take 2 (.take 3 (.take 4 (.take 5 (.take 6 (.take 7 (.take 8 (.step 9 .done)))))))))) [9] (by kernel_rfl) (by kernel_rfl) (by kernel_rfl) (by kernel_rfl) (by kernel_rfl) (cast (by kernel_rfl) h)
            · clear h
              intro l I S _ h
              obtain ⟨s_0, s_0n, s_0c, e0, h⟩ := asSl_e h
              obtain ⟨tot_10, e10, h⟩ := asI_e h
              obtain ⟨r_12, r_12n, r_12c, e12, h⟩ := asSl_e h
              rw [upd_eta e0, upd_eta e10, upd_eta e12]
              exact Pre.sound _ _ _ _ _ (cast (by kernel_rfl) h)
          · clear h
            intro h
            exact Pre.sound _ _ _ _ _ (cast (by kernel_rfl) h)
        · clear h
          intro l I S _ h
          obtain ⟨s_0, s_0n, s_0c, e0, h⟩ := asSl_e h
          obtain ⟨i_1, e1, h⟩ := asI_e h
          obtain ⟨j_2, e2, h⟩ := asI_e h
          obtain ⟨v_3, v_3n, v_3c, e3, h⟩ := asSl_e h
          obtain ⟨r_12, r_12n, r_12c, e12, h⟩ := asSl_e h
          rw [upd_eta e0, upd_eta e1, upd_eta e2, upd_eta e3, upd_eta e12]
          refine WP.seqY (by kernel_rfl) (fun l I S => asSl (l 0) fun s_0 s_0n s_0c => asI .i64 (l 1) fun i_1 => asI .i64 (l 2) fun j_2 => asSl (l 3) fun v_3 v_3n v_3c => asSl (l 12) fun r_12 r_12n r_12c => slices_Replace__string_string_b17 R s_0 s_0n s_0c i_1 j_2 v_3 v_3n v_3c r_12 r_12n r_12c I S) ?_ ?_
          ·
            refine WP.cut 1 (fun l I S => asSl (l 0) fun s_0 s_0n s_0c => asI .i64 (l 1) fun i_1 => asI .i64 (l 2) fun j_2 => asSl (l 3) fun v_3 v_3n v_3c => asSl (l 12) fun r_12 r_12n r_12c => asB (l 120) fun x120 => slices_Replace__string_string_b15 R s_0 s_0n s_0c i_1 j_2 v_3 v_3n v_3c r_12 r_12n r_12c x120 I S) (cast (by kernel_rfl) h) ?_
            clear h
            intro l I S _ h
            obtain ⟨s_0, s_0n, s_0c, e0, h⟩ := asSl_e h
            obtain ⟨i_1, e1, h⟩ := asI_e h
            obtain ⟨j_2, e2, h⟩ := asI_e h
            obtain ⟨v_3, v_3n, v_3c, e3, h⟩ := asSl_e h
            obtain ⟨r_12, r_12n, r_12c, e12, h⟩ := asSl_e h
            obtain ⟨x120, e120, h⟩ := asB_e h
            rw [upd_eta e0, upd_eta e1, upd_eta e2, upd_eta e3, upd_eta e12, upd_eta e120]
            refine WP.cond' (by kernel_rfl) (by kernel_rfl) h ?_ ?_
            · clear h
              intro h
              refine WP.seqY (by kernel_rfl) (fun l I S => asI .i64 (l 1) fun i_1 => asSl (l 3) fun v_3 v_3n v_3c => asSl (l 12) fun r_12 r_12n r_12c => slices_Replace__string_string_b16 R i_1 v_3 v_3n v_3c r_12 r_12n r_12c I S) ?_ ?_
              ·
                exact WP.draw' (.take 0 (.take 1 (.take 2 (.take 3 (.take 4 (.take 5 (.take 6 (.take 7 (.take 8 (.step 9 .done)))))))))) [9] (by kernel_rfl) (by kernel_rfl) (by kernel_rfl) (by kernel_rfl) (by kernel_rfl) (cast (by kernel_rfl) h)
              · clear h
                intro l I S _ h
                obtain ⟨i_1, e1, h⟩ := asI_e h
                obtain ⟨v_3, v_3n, v_3c, e3, h⟩ := asSl_e h
                obtain ⟨r_12, r_12n, r_12c, e12, h⟩ := asSl_e h
                rw [upd_eta e1, upd_eta e3, upd_eta e12]
                exact Pre.sound _ _ _ _ _ (cast (by kernel_rfl) h)
            · clear h
              intro h
              exact Pre.sound _ _ _ _ _ (cast (by kernel_rfl) h)
          · clear h
            intro l I S _ h
            obtain ⟨s_0, s_0n, s_0c, e0, h⟩ := asSl_e h
            obtain ⟨i_1, e1, h⟩ := asI_e h
            obtain ⟨j_2, e2, h⟩ := asI_e h
            obtain ⟨v_3, v_3n, v_3c, e3, h⟩ := asSl_e h
            obtain ⟨r_12, r_12n, r_12c, e12, h⟩ := asSl_e h
            rw [upd_eta e0, upd_eta e1, upd_eta e2, upd_eta e3, upd_eta e12]
            refine WP.cut 1 (fun l I S => asSl (l 0) fun s_0 s_0n s_0c => asI .i64 (l 1) fun i_1 => asI .i64 (l 2) fun j_2 => asSl (l 3) fun v_3 v_3n v_3c => asSl (l 12) fun r_12 r_12n r_12c => asI .i64 (l 13) fun y_13 => slices_Replace__string_string_b18 R s_0 s_0n s_0c i_1 j_2 v_3 v_3n v_3c r_12 r_12n r_12c y_13 I S) (cast (by kernel_rfl) h) ?_
            clear h
            intro l I S _ h
            obtain ⟨s_0, s_0n, s_0c, e0, h⟩ := asSl_e h
            obtain ⟨i_1, e1, h⟩ := asI_e h
            obtain ⟨j_2, e2, h⟩ := asI_e h
            obtain ⟨v_3, v_3n, v_3c, e3, h⟩ := asSl_e h
            obtain ⟨r_12, r_12n, r_12c, e12, h⟩ := asSl_e h
            obtain ⟨y_13, e13, h⟩ := asI_e h
            rw [upd_eta e0, upd_eta e1, upd_eta e2, upd_eta e3, upd_eta e12, upd_eta e13]
            refine WP.seqY (by kernel_rfl) (fun l I S => asSl (l 0) fun s_0 s_0n s_0c => asI .i64 (l 1) fun i_1 => asI .i64 (l 2) fun j_2 => asSl (l 3) fun v_3 v_3n v_3c => asSl (l 12) fun r_12 r_12n r_12c => asI .i64 (l 13) fun y_13 => slices_Replace__string_string_b22 R s_0 s_0n s_0c i_1 j_2 v_3 v_3n v_3c r_12 r_12n r_12c y_13 I S) ?_ ?_
            ·
              refine WP.cut 1 (fun l I S => asSl (l 0) fun s_0 s_0n s_0c => asI .i64 (l 1) fun i_1 => asI .i64 (l 2) fun j_2 => asSl (l 3) fun v_3 v_3n v_3c => asSl (l 12) fun r_12 r_12n r_12c => asI .i64 (l 13) fun y_13 => asB (l 149) fun x149 => slices_Replace__string_string_b19 R s_0 s_0n s_0c i_1 j_2 v_3 v_3n v_3c r_12 r_12n r_12c y_13 x149 I S) (cast (by kernel_rfl) h) ?_
              clear h
              intro l I S _ h
              obtain ⟨s_0, s_0n, s_0c, e0, h⟩ := asSl_e h
              obtain ⟨i_1, e1, h⟩ := asI_e h
              obtain ⟨j_2, e2, h⟩ := asI_e h
              obtain ⟨v_3, v_3n, v_3c, e3, h⟩ := asSl_e h
              obtain ⟨r_12, r_12n, r_12c, e12, h⟩ := asSl_e h
              obtain ⟨y_13, e13, h⟩ := asI_e h
              obtain ⟨x149, e149, h⟩ := asB_e h
              rw [upd_eta e0, upd_eta e1, upd_eta e2, upd_eta e3, upd_eta e12, upd_eta e13, upd_eta e149]
              refine WP.cond' (by kernel_rfl) (by kernel_rfl) h ?_ ?_
              · clear h
                intro h
                refine WP.seqY (by kernel_rfl) (fun l I S => asSl (l 0) fun s_0 s_0n s_0c => asI .i64 (l 1) fun i_1 => asSl (l 3) fun v_3 v_3n v_3c => asSl (l 12) fun r_12 r_12n r_12c => asI .i64 (l 13) fun y_13 => slices_Replace__string_string_b20 R s_0 s_0n s_0c i_1 v_3 v_3n v_3c r_12 r_12n r_12c y_13 I S) ?_ ?_
                ·
                  exact WP.draw' (.take 0 (.take 1 (.take 2 (.take 3 (.take 4 (.take 5 (.take 6 (.step 7 .done)))))))) [7] (by kernel_rfl) (by kernel_rfl) (by kernel_rfl) (by kernel_rfl) (by kernel_rfl) (cast (by kernel_rfl) h)
                · clear h
                  intro l I S _ h
                  obtain ⟨s_0, s_0n, s_0c, e0, h⟩ := asSl_e h
                  obtain ⟨i_1, e1, h⟩ := asI_e h
                  obtain ⟨v_3, v_3n, v_3c, e3, h⟩ := asSl_e h
                  obtain ⟨r_12, r_12n, r_12c, e12, h⟩ := asSl_e h
                  obtain ⟨y_13, e13, h⟩ := asI_e h
                  rw [upd_eta e0, upd_eta e1, upd_eta e3, upd_eta e12, upd_eta e13]
                  refine WP.seqY (by kernel_rfl) (fun l I S => asI .i64 (l 1) fun i_1 => asSl (l 12) fun r_12 r_12n r_12c => asI .i64 (l 13) fun y_13 => slices_Replace__string_string_b21 R i_1 r_12 r_12n r_12c y_13 I S) ?_ ?_
                  ·
                    exact WP.draw' (.take 0 (.take 1 (.take 2 (.take 3 (.take 4 (.take 5 (.take 6 (.step 7 .done)))))))) [7] (by kernel_rfl) (by kernel_rfl) (by kernel_rfl) (by kernel_rfl) (by kernel_rfl) (cast (by kernel_rfl) h)
                  · clear h
                    intro l I S _ h
                    obtain ⟨i_1, e1, h⟩ := asI_e h
                    obtain ⟨r_12, r_12n, r_12c, e12, h⟩ := asSl_e h
                    obtain ⟨y_13, e13, h⟩ := asI_e h
                    rw [upd_eta e1, upd_eta e12, upd_eta e13]
                    exact Pre.sound _ _ _ _ _ (cast (by kernel_rfl) h)
              · clear h
                intro h
                exact Pre.sound _ _ _ _ _ (cast (by kernel_rfl) h)
            · clear h
              intro l I S _ h
              obtain ⟨s_0, s_0n, s_0c, e0, h⟩ := asSl_e h
              obtain ⟨i_1, e1, h⟩ := asI_e h
              obtain ⟨j_2, e2, h⟩ := asI_e h
              obtain ⟨v_3, v_3n, v_3c, e3, h⟩ := asSl_e h
              obtain ⟨r_12, r_12n, r_12c, e12, h⟩ := asSl_e h
              obtain ⟨y_13, e13, h⟩ := asI_e h
              rw [upd_eta e0, upd_eta e1, upd_eta e2, upd_eta e3, upd_eta e12, upd_eta e13]
              refine WP.seqY (by kernel_rfl) (fun l I S => asSl (l 0) fun s_0 s_0n s_0c => asI .i64 (l 1) fun i_1 => asI .i64 (l 2) fun j_2 => asSl (l 3) fun v_3 v_3n v_3c => asSl (l 12) fun r_12 r_12n r_12c => slices_Replace__string_string_b26 R s_0 s_0n s_0c i_1 j_2 v_3 v_3n v_3c r_12 r_12n r_12c I S) ?_ ?_
              ·
                refine WP.cut 1 (fun l I S => asSl (l 0) fun s_0 s_0n s_0c => asI .i64 (l 1) fun i_1 => asI .i64 (l 2) fun j_2 => asSl (l 3) fun v_3 v_3n v_3c => asSl (l 12) fun r_12 r_12n r_12c => asI .i64 (l 13) fun y_13 => asB (l 178) fun x178 => slices_Replace__string_string_b23 R s_0 s_0n s_0c i_1 j_2 v_3 v_3n v_3c r_12 r_12n r_12c y_13 x178 I S) (cast (by kernel_rfl) h) ?_
                clear h
                intro l I S _ h
                obtain ⟨s_0, s_0n, s_0c, e0, h⟩ := asSl_e h
                obtain ⟨i_1, e1, h⟩ := asI_e h
                obtain ⟨j_2, e2, h⟩ := asI_e h
                obtain ⟨v_3, v_3n, v_3c, e3, h⟩ := asSl_e h
                obtain ⟨r_12, r_12n, r_12c, e12, h⟩ := asSl_e h
                obtain ⟨y_13, e13, h⟩ := asI_e h
                obtain ⟨x178, e178, h⟩ := asB_e h
                rw [upd_eta e0, upd_eta e1, upd_eta e2, upd_eta e3, upd_eta e12, upd_eta e13, upd_eta e178]
                refine WP.cond' (by kernel_rfl) (by kernel_rfl) h ?_ ?_
                · clear h
                  intro h
                  refine WP.seqY (by kernel_rfl) (fun l I S => asI .i64 (l 1) fun i_1 => asI .i64 (l 2) fun j_2 => asSl (l 3) fun v_3 v_3n v_3c => asSl (l 12) fun r_12 r_12n r_12c => asI .i64 (l 13) fun y_13 => slices_Replace__string_string_b24 R i_1 j_2 v_3 v_3n v_3c r_12 r_12n r_12c y_13 I S) ?_ ?_
                  ·
                    exact WP.draw' (.take 0 (.take 1 (.take 2 (.take 3 (.take 4 (.take 5 (.take 6 (.step 7 .done)))))))) [7] (by kernel_rfl) (by kernel_rfl) (by kernel_rfl) (by kernel_rfl) (by kernel_rfl) (cast (by kernel_rfl) h)
                  · clear h
                    intro l I S _ h
                    obtain ⟨i_1, e1, h⟩ := asI_e h
                    obtain ⟨j_2, e2, h⟩ := asI_e h
                    obtain ⟨v_3, v_3n, v_3c, e3, h⟩ := asSl_e h
                    obtain ⟨r_12, r_12n, r_12c, e12, h⟩ := asSl_e h
                    obtain ⟨y_13, e13, h⟩ := asI_e h
                    rw [upd_eta e1, upd_eta e2, upd_eta e3, upd_eta e12, upd_eta e13]
                    refine WP.seqY (by kernel_rfl) (fun l I S => asI .i64 (l 1) fun i_1 => asSl (l 12) fun r_12 r_12n r_12c => asI .i64 (l 13) fun y_13 => slices_Replace__string_string_b25 R i_1 r_12 r_12n r_12c y_13 I S) ?_ ?_
                    ·
                      exact WP.draw' (.take 0 (.take 1 (.take 2 (.take 3 (.take 4 (.take 5 (.take 6 (.step 7 .done)))))))) [7] (by kernel_rfl) (by kernel_rfl) (by kernel_rfl) (by kernel_rfl) (by kernel_rfl) (cast (by kernel_rfl) h)
                    · clear h
                      intro l I S _ h
                      obtain ⟨i_1, e1, h⟩ := asI_e h
                      obtain ⟨r_12, r_12n, r_12c, e12, h⟩ := asSl_e h
                      obtain ⟨y_13, e13, h⟩ := asI_e h
                      rw [upd_eta e1, upd_eta e12, upd_eta e13]
                      exact Pre.sound _ _ _ _ _ (cast (by kernel_rfl) h)
                · clear h
                  intro h
                  exact Pre.sound _ _ _ _ _ (cast (by kernel_rfl) h)
              · clear h
                intro l I S _ h
                obtain ⟨s_0, s_0n, s_0c, e0, h⟩ := asSl_e h
                obtain ⟨i_1, e1, h⟩ := asI_e h
                obtain ⟨j_2, e2, h⟩ := asI_e h
                obtain ⟨v_3, v_3n, v_3c, e3, h⟩ := asSl_e h
                obtain ⟨r_12, r_12n, r_12c, e12, h⟩ := asSl_e h
                rw [upd_eta e0, upd_eta e1, upd_eta e2, upd_eta e3, upd_eta e12]
                refine WP.cut 2 (fun l I S => asI .i64 (l 1) fun i_1 => asSl (l 3) fun v_3 v_3n v_3c => asSl (l 12) fun r_12 r_12n r_12c => asI .i64 (l 14) fun k_14 => slices_Replace__string_string_b27 R i_1 v_3 v_3n v_3c r_12 r_12n r_12c k_14 I S) (cast (by kernel_rfl) h) ?_
                clear h
                intro l I S _ h
                obtain ⟨i_1, e1, h⟩ := asI_e h
                obtain ⟨v_3, v_3n, v_3c, e3, h⟩ := asSl_e h
                obtain ⟨r_12, r_12n, r_12c, e12, h⟩ := asSl_e h
                obtain ⟨k_14, e14, h⟩ := asI_e h
                rw [upd_eta e1, upd_eta e3, upd_eta e12, upd_eta e14]
                refine WP.seqY (by kernel_rfl) (fun l I S => asSl (l 12) fun r_12 r_12n r_12c => slices_Replace__string_string_b28 R r_12 r_12n r_12c I S) ?_ ?_
                ·
                  exact WP.draw' (.take 0 (.take 1 (.take 2 (.take 3 (.take 4 (.take 5 (.take 6 (.take 7 (.take 8 (.take 9 (.take 10 (.step 11 .done)))))))))))) [11] (by kernel_rfl) (by kernel_rfl) (by kernel_rfl) (by kernel_rfl) (by kernel_rfl) (cast (by kernel_rfl) h)
                · clear h
                  intro l I S _ h
                  obtain ⟨r_12, r_12n, r_12c, e12, h⟩ := asSl_e h
                  rw [upd_eta e12]
                  exact Pre.sound _ _ _ _ _ (cast (by kernel_rfl) h)
/-! ### owner_Encode: function 21, bolter/owner.Encode -/
noncomputable def owner_Encode_code : Code := (Tryd.f21.body).getD .skip
def owner_Encode_b12 (R : Value → IMem → SH → Prop) (n_7 : ByteArray) (I : IMem) (S : SH) : Prop :=
  R (.tuple #[.string n_7, .bool true]) I S
def owner_Encode_b11 (R : Value → IMem → SH → Prop) (n_7 : ByteArray) (x69 : Bool) (I : IMem) (S : SH) : Prop :=
  bcase x69
    (R (.tuple #[.string ⟨#[]⟩, .bool false]) I S)
    (owner_Encode_b12 R n_7 I S)
def owner_Encode_b10 (R : Value → IMem → SH → Prop) (t_1 : Addr) (n_7 : ByteArray) (I : IMem) (S : SH) : Prop :=
  Runs Tryd.prog 22 #[.string n_7] I S fun v I1 S1 => ∃ x60_0_0 x60_0_1 x60_0_2 x60_0_3 x60_1, v = .tuple #[.agg #[.int .i64 x60_0_0, .string x60_0_1, .string x60_0_2, .int .i64 x60_0_3], .bool x60_1] ∧
  ∀ b9 : Nat,
  StP ((b9, .cells #[.int .i64 0, .string ⟨#[]⟩, .string ⟨#[]⟩, .int .i64 0] 29 (0, 0)) :: S1) ⟨b9, 0, none⟩ [.int .i64 x60_0_0, .string x60_0_1, .string x60_0_2, .int .i64 x60_0_3] fun S1' =>
  bcase (!x60_1)
    (owner_Encode_b11 R n_7 true I1 S1')
    (∃ x66_0, Cell I1 S1' ⟨b9, 0, none⟩ (.int .i64 x66_0) ∧
    ∃ x66_1, Cell I1 S1' ⟨b9, 1, none⟩ (.string x66_1) ∧
    ∃ x66_2, Cell I1 S1' ⟨b9, 2, none⟩ (.string x66_2) ∧
    ∃ x66_3, Cell I1 S1' ⟨b9, 3, none⟩ (.int .i64 x66_3) ∧
    ∃ x67_0, Cell I1 S1' t_1 (.int .i64 x67_0) ∧
    ∃ x67_1, Cell I1 S1' (t_1.add 1) (.string x67_1) ∧
    ∃ x67_2, Cell I1 S1' (t_1.add 2) (.string x67_2) ∧
    ∃ x67_3, Cell I1 S1' (t_1.add 3) (.int .i64 x67_3) ∧
    owner_Encode_b11 R n_7 (!(((x66_0 : Int) == (x67_0 : Int)) && (((x66_1 : ByteArray) == (x67_1 : ByteArray)) && ((((x66_2 : ByteArray) == (x67_2 : ByteArray)) && (((x66_3 : Int) == (x67_3 : Int)) && true)) && true)))) I1 S1')
def owner_Encode_b9 (R : Value → IMem → SH → Prop) (t_1 : Addr) (n_7 : ByteArray) (x57 : Bool) (I : IMem) (S : SH) : Prop :=
  bcase x57
    (R (.tuple #[.string ⟨#[]⟩, .bool false]) I S)
    (owner_Encode_b10 R t_1 n_7 I S)
def owner_Encode_b8 (R : Value → IMem → SH → Prop) (t_1 : Addr) (ok_5 : Bool) (n_7 : ByteArray) (is_8 : Bool) (I : IMem) (S : SH) : Prop :=
  bcase (!ok_5)
    (owner_Encode_b9 R t_1 n_7 true I S)
    (owner_Encode_b9 R t_1 n_7 (!is_8) I S)
def owner_Encode_b7 (R : Value → IMem → SH → Prop) (t_1 : Addr) (ls_4 : Option Addr) (ls_4n : Nat) (ls_4c : Nat) (ok_5 : Bool) (I : IMem) (S : SH) : Prop :=
  Runs Tryd.prog 25 #[.slice ls_4 ls_4n ls_4c] I S fun v I1 S1 => ∃ x49_0 x49_1, v = .tuple #[.string x49_0, .bool x49_1] ∧
  owner_Encode_b8 R t_1 ok_5 x49_0 x49_1 I1 S1
def owner_Encode_b6 (R : Value → IMem → SH → Prop) (t_1 : Addr) (ls_4 : Option Addr) (ls_4n : Nat) (ls_4c : Nat) (ok_5 : Bool) (word_6 : ByteArray) (I : IMem) (S : SH) : Prop :=
  bcase (!(word_6.toList == (⟨#[]⟩ : ByteArray).toList))
    (∀ b45 : Nat,
    AppG 9 1 16 [.string ⟨#[]⟩] (some (.slice 9)) I ((b45, .cells #[.string word_6] 9 (0, 0)) :: S) (.slice ls_4 ls_4n ls_4c) (.slice (some ⟨b45, 0, none⟩) 1 1) fun x46 x46n x46c S1 =>
    owner_Encode_b7 R t_1 x46 x46n x46c ok_5 I S1)
    (owner_Encode_b7 R t_1 ls_4 ls_4n ls_4c ok_5 I S)
def owner_Encode_b5 (R : Value → IMem → SH → Prop) (t_1 : Addr) (ls_4 : Option Addr) (ls_4n : Nat) (ls_4c : Nat) (ok_5 : Bool) (word_6 : ByteArray) (I : IMem) (S : SH) : Prop :=
  ∃ x37, Cell I S t_1 (.int .i64 x37) ∧
  bcase (x37 == (5 : Int))
    (Runs Tryd.prog 45 #[] I S fun v I1 S1 => ∃ x39, v = .map x39 ∧
    ∃ x40, ∃ x40ok : Bool, MapAt I1 S1 x39 (.int .i64) (.int .i64 4) (.string ⟨#[]⟩) (.string x40) x40ok ∧
    owner_Encode_b6 R t_1 ls_4 ls_4n ls_4c ok_5 x40 I1 S1)
    (owner_Encode_b6 R t_1 ls_4 ls_4n ls_4c ok_5 word_6 I S)
def owner_Encode_b13 (R : Value → IMem → SH → Prop) (t_1 : Addr) (ls_4 : Option Addr) (ls_4n : Nat) (ls_4c : Nat) (ok_5 : Bool) (word_6 : ByteArray) (x30 : Bool) (I : IMem) (S : SH) : Prop :=
  bcase x30
    (∀ b33 : Nat,
    AppG 9 1 16 [.string ⟨#[]⟩] (some (.slice 9)) I ((b33, .cells #[.string ⟨#[42]⟩] 9 (0, 0)) :: S) (.slice (some ⟨b33, 0, none⟩) 1 1) (.slice ls_4 ls_4n ls_4c) fun x35 x35n x35c S1 =>
    owner_Encode_b5 R t_1 x35 x35n x35c ok_5 word_6 I S1)
    (owner_Encode_b5 R t_1 ls_4 ls_4n ls_4c ok_5 word_6 I S)
def owner_Encode_b4 (R : Value → IMem → SH → Prop) (t_1 : Addr) (ls_4 : Option Addr) (ls_4n : Nat) (ls_4c : Nat) (ok_5 : Bool) (word_6 : ByteArray) (x22 : Int) (x23 : Bool) (I : IMem) (S : SH) : Prop :=
  bcase x23
    (∃ x28_0, Cell I S (t_1.add 2) (.string x28_0) ∧
    ∃ x28_1, Cell I S ((t_1.add 2).add 1) (.int .i64 x28_1) ∧
    Runs Tryd.prog 16 #[.agg #[.string x28_0, .int .i64 x28_1]] I S fun v I1 S1 => ∃ x29 x29n x29c, v = .slice x29 x29n x29c ∧
    owner_Encode_b5 R t_1 x29 x29n x29c ok_5 word_6 I1 S1)
    (bcase (x22 == (2 : Int))
      (owner_Encode_b13 R t_1 ls_4 ls_4n ls_4c ok_5 word_6 (x22 == (2 : Int)) I S)
      (owner_Encode_b13 R t_1 ls_4 ls_4n ls_4c ok_5 word_6 (x22 == (5 : Int)) I S))
def owner_Encode_b3 (R : Value → IMem → SH → Prop) (t_1 : Addr) (ls_4 : Option Addr) (ls_4n : Nat) (ls_4c : Nat) (ok_5 : Bool) (word_6 : ByteArray) (x22 : Int) (I : IMem) (S : SH) : Prop :=
  bcase (x22 == (0 : Int))
    (owner_Encode_b4 R t_1 ls_4 ls_4n ls_4c ok_5 word_6 x22 (x22 == (0 : Int)) I S)
    (bcase (x22 == (3 : Int))
      (owner_Encode_b4 R t_1 ls_4 ls_4n ls_4c ok_5 word_6 x22 (x22 == (3 : Int)) I S)
      (owner_Encode_b4 R t_1 ls_4 ls_4n ls_4c ok_5 word_6 x22 (x22 == (6 : Int)) I S))
def owner_Encode_b2 (R : Value → IMem → SH → Prop) (t_1 : Addr) (ls_4 : Option Addr) (ls_4n : Nat) (ls_4c : Nat) (ok_5 : Bool) (word_6 : ByteArray) (I : IMem) (S : SH) : Prop :=
  ∃ x22, Cell I S t_1 (.int .i64 x22) ∧
  owner_Encode_b3 R t_1 ls_4 ls_4n ls_4c ok_5 word_6 x22 I S
def owner_Encode_b1 (R : Value → IMem → SH → Prop) (t_1 : Addr) (ls_4 : Option Addr) (ls_4n : Nat) (ls_4c : Nat) (ok_5 : Bool) (I : IMem) (S : SH) : Prop :=
  ∃ x19, Cell I S t_1 (.int .i64 x19) ∧
  Runs Tryd.prog 45 #[] I S fun v I1 S1 => ∃ x17, v = .map x17 ∧
  Keep I S I1 S1 ∧
  ∃ x20, ∃ x20ok : Bool, MapAt I1 S1 x17 (.int .i64) (.int .i64 x19) (.string ⟨#[]⟩) (.string x20) x20ok ∧
  owner_Encode_b2 R t_1 ls_4 ls_4n ls_4c ok_5 x20 I1 S1
def owner_Encode (R : Value → IMem → SH → Prop) (t_0_0 : Int) (t_0_1 : ByteArray) (t_0_2 : ByteArray) (t_0_3 : Int) (I : IMem) (S : SH) : Prop :=
  ∀ b1 : Nat,
  ∃ x13, Cell I ((b1, .cells #[.int .i64 t_0_0, .string t_0_1, .string t_0_2, .int .i64 t_0_3] 29 (0, 0)) :: S) ⟨b1, 1, none⟩ (.string x13) ∧
  Runs Tryd.prog 23 #[.string x13] I ((b1, .cells #[.int .i64 t_0_0, .string t_0_1, .string t_0_2, .int .i64 t_0_3] 29 (0, 0)) :: S) fun v I1 S1 => ∃ x14_0 x14_0n x14_0c x14_1, v = .tuple #[.slice x14_0 x14_0n x14_0c, .bool x14_1] ∧
  owner_Encode_b1 R ⟨b1, 0, none⟩ x14_0 x14_0n x14_0c x14_1 I1 S1
theorem owner_Encode_fn (R : Value → IMem → SH → Prop) (t_0_0 : Int) (t_0_1 : ByteArray) (t_0_2 : ByteArray) (t_0_3 : Int) (I : IMem) (S : SH) (h : owner_Encode R t_0_0 t_0_1 t_0_2 t_0_3 I S) :
    Runs Tryd.prog 21 #[.agg #[.int .i64 t_0_0, .string t_0_1, .string t_0_2, .int .i64 t_0_3]] I S R := by
  refine Runs.of_wp (args := [.agg #[.int .i64 t_0_0, .string t_0_1, .string t_0_2, .int .i64 t_0_3]]) (c := owner_Encode_code) Tryd.func21 (by kernel_rfl) (by kernel_rfl) ?_
  refine WP.cut 2 (fun l I S => asAdr (l 1) fun t_1 => asSl (l 4) fun ls_4 ls_4n ls_4c => asB (l 5) fun ok_5 => owner_Encode_b1 R t_1 ls_4 ls_4n ls_4c ok_5 I S) (cast (by kernel_rfl) h) ?_
  clear h
  intro l I S _ h
  obtain ⟨t_1, e1, h⟩ := asAdr_e h
  obtain ⟨ls_4, ls_4n, ls_4c, e4, h⟩ := asSl_e h
  obtain ⟨ok_5, e5, h⟩ := asB_e h
  rw [upd_eta e1, upd_eta e4, upd_eta e5]
  refine WP.seqY (by kernel_rfl) (fun l I S => asAdr (l 1) fun t_1 => asSl (l 4) fun ls_4 ls_4n ls_4c => asB (l 5) fun ok_5 => asStr (l 6) fun word_6 => owner_Encode_b2 R t_1 ls_4 ls_4n ls_4c ok_5 word_6 I S) ?_ ?_
  ·
    exact WP.draw' (.take 1 (.take 2 (.step 0 (.step 3 (.take 4 .done))))) [0, 3] (by kernel_rfl) (by kernel_rfl) (by kernel_rfl) (by kernel_rfl) (by kernel_rfl) (cast (by kernel_rfl) h)
  · clear h
    intro l I S _ h
    obtain ⟨t_1, e1, h⟩ := asAdr_e h
    obtain ⟨ls_4, ls_4n, ls_4c, e4, h⟩ := asSl_e h
    obtain ⟨ok_5, e5, h⟩ := asB_e h
    obtain ⟨word_6, e6, h⟩ := asStr_e h
    rw [upd_eta e1, upd_eta e4, upd_eta e5, upd_eta e6]
    refine WP.seqY (by kernel_rfl) (fun l I S => asAdr (l 1) fun t_1 => asSl (l 4) fun ls_4 ls_4n ls_4c => asB (l 5) fun ok_5 => asStr (l 6) fun word_6 => owner_Encode_b5 R t_1 ls_4 ls_4n ls_4c ok_5 word_6 I S) ?_ ?_
    ·
      refine WP.cut 1 (fun l I S => asAdr (l 1) fun t_1 => asSl (l 4) fun ls_4 ls_4n ls_4c => asB (l 5) fun ok_5 => asStr (l 6) fun word_6 => asI .i64 (l 22) fun x22 => owner_Encode_b3 R t_1 ls_4 ls_4n ls_4c ok_5 word_6 x22 I S) (cast (by kernel_rfl) h) ?_
      clear h
      intro l I S _ h
      obtain ⟨t_1, e1, h⟩ := asAdr_e h
      obtain ⟨ls_4, ls_4n, ls_4c, e4, h⟩ := asSl_e h
      obtain ⟨ok_5, e5, h⟩ := asB_e h
      obtain ⟨word_6, e6, h⟩ := asStr_e h
      obtain ⟨x22, e22, h⟩ := asI_e h
      rw [upd_eta e1, upd_eta e4, upd_eta e5, upd_eta e6, upd_eta e22]
      refine WP.block' (by kernel_rfl) ?_
      refine WP.cut 1 (fun l I S => asAdr (l 1) fun t_1 => asSl (l 4) fun ls_4 ls_4n ls_4c => asB (l 5) fun ok_5 => asStr (l 6) fun word_6 => asI .i64 (l 22) fun x22 => asB (l 23) fun x23 => owner_Encode_b4 R t_1 ls_4 ls_4n ls_4c ok_5 word_6 x22 x23 I S) (cast (by kernel_rfl) h) ?_
      clear h
      intro l I S _ h
      obtain ⟨t_1, e1, h⟩ := asAdr_e h
      obtain ⟨ls_4, ls_4n, ls_4c, e4, h⟩ := asSl_e h
      obtain ⟨ok_5, e5, h⟩ := asB_e h
      obtain ⟨word_6, e6, h⟩ := asStr_e h
      obtain ⟨x22, e22, h⟩ := asI_e h
      obtain ⟨x23, e23, h⟩ := asB_e h
      rw [upd_eta e1, upd_eta e4, upd_eta e5, upd_eta e6, upd_eta e22, upd_eta e23]
      refine WP.cond' (by kernel_rfl) (by kernel_rfl) h ?_ ?_
      · clear h
        intro h
        exact Pre.sound _ _ _ _ _ (cast (by kernel_rfl) h)
      · clear h
        intro h
        refine WP.cut 1 (fun l I S => asAdr (l 1) fun t_1 => asSl (l 4) fun ls_4 ls_4n ls_4c => asB (l 5) fun ok_5 => asStr (l 6) fun word_6 => asB (l 30) fun x30 => owner_Encode_b13 R t_1 ls_4 ls_4n ls_4c ok_5 word_6 x30 I S) (cast (by kernel_rfl) h) ?_
        clear h
        intro l I S _ h
        obtain ⟨t_1, e1, h⟩ := asAdr_e h
        obtain ⟨ls_4, ls_4n, ls_4c, e4, h⟩ := asSl_e h
        obtain ⟨ok_5, e5, h⟩ := asB_e h
        obtain ⟨word_6, e6, h⟩ := asStr_e h
        obtain ⟨x30, e30, h⟩ := asB_e h
        rw [upd_eta e1, upd_eta e4, upd_eta e5, upd_eta e6, upd_eta e30]
        exact Pre.sound _ _ _ _ _ (cast (by kernel_rfl) h)
    · clear h
      intro l I S _ h
      obtain ⟨t_1, e1, h⟩ := asAdr_e h
      obtain ⟨ls_4, ls_4n, ls_4c, e4, h⟩ := asSl_e h
      obtain ⟨ok_5, e5, h⟩ := asB_e h
      obtain ⟨word_6, e6, h⟩ := asStr_e h
      rw [upd_eta e1, upd_eta e4, upd_eta e5, upd_eta e6]
      refine WP.cut 1 (fun l I S => asAdr (l 1) fun t_1 => asSl (l 4) fun ls_4 ls_4n ls_4c => asB (l 5) fun ok_5 => asStr (l 6) fun word_6 => owner_Encode_b6 R t_1 ls_4 ls_4n ls_4c ok_5 word_6 I S) (cast (by kernel_rfl) h) ?_
      clear h
      intro l I S _ h
      obtain ⟨t_1, e1, h⟩ := asAdr_e h
      obtain ⟨ls_4, ls_4n, ls_4c, e4, h⟩ := asSl_e h
      obtain ⟨ok_5, e5, h⟩ := asB_e h
      obtain ⟨word_6, e6, h⟩ := asStr_e h
      rw [upd_eta e1, upd_eta e4, upd_eta e5, upd_eta e6]
      refine WP.cut 1 (fun l I S => asAdr (l 1) fun t_1 => asSl (l 4) fun ls_4 ls_4n ls_4c => asB (l 5) fun ok_5 => owner_Encode_b7 R t_1 ls_4 ls_4n ls_4c ok_5 I S) (cast (by kernel_rfl) h) ?_
      clear h
      intro l I S _ h
      obtain ⟨t_1, e1, h⟩ := asAdr_e h
      obtain ⟨ls_4, ls_4n, ls_4c, e4, h⟩ := asSl_e h
      obtain ⟨ok_5, e5, h⟩ := asB_e h
      rw [upd_eta e1, upd_eta e4, upd_eta e5]
      refine WP.cut 1 (fun l I S => asAdr (l 1) fun t_1 => asB (l 5) fun ok_5 => asStr (l 7) fun n_7 => asB (l 8) fun is_8 => owner_Encode_b8 R t_1 ok_5 n_7 is_8 I S) (cast (by kernel_rfl) h) ?_
      clear h
      intro l I S _ h
      obtain ⟨t_1, e1, h⟩ := asAdr_e h
      obtain ⟨ok_5, e5, h⟩ := asB_e h
      obtain ⟨n_7, e7, h⟩ := asStr_e h
      obtain ⟨is_8, e8, h⟩ := asB_e h
      rw [upd_eta e1, upd_eta e5, upd_eta e7, upd_eta e8]
      refine WP.seqY (by kernel_rfl) (fun l I S => asAdr (l 1) fun t_1 => asStr (l 7) fun n_7 => owner_Encode_b10 R t_1 n_7 I S) ?_ ?_
      ·
        refine WP.cut 1 (fun l I S => asAdr (l 1) fun t_1 => asStr (l 7) fun n_7 => asB (l 57) fun x57 => owner_Encode_b9 R t_1 n_7 x57 I S) (cast (by kernel_rfl) h) ?_
        clear h
        intro l I S _ h
        obtain ⟨t_1, e1, h⟩ := asAdr_e h
        obtain ⟨n_7, e7, h⟩ := asStr_e h
        obtain ⟨x57, e57, h⟩ := asB_e h
        rw [upd_eta e1, upd_eta e7, upd_eta e57]
        exact Pre.sound _ _ _ _ _ (cast (by kernel_rfl) h)
      · clear h
        intro l I S _ h
        obtain ⟨t_1, e1, h⟩ := asAdr_e h
        obtain ⟨n_7, e7, h⟩ := asStr_e h
        rw [upd_eta e1, upd_eta e7]
        refine WP.seqY (by kernel_rfl) (fun l I S => asStr (l 7) fun n_7 => owner_Encode_b12 R n_7 I S) ?_ ?_
        ·
          refine WP.cut 2 (fun l I S => asStr (l 7) fun n_7 => asB (l 69) fun x69 => owner_Encode_b11 R n_7 x69 I S) (cast (by kernel_rfl) h) ?_
          clear h
          intro l I S _ h
          obtain ⟨n_7, e7, h⟩ := asStr_e h
          obtain ⟨x69, e69, h⟩ := asB_e h
          rw [upd_eta e7, upd_eta e69]
          exact Pre.sound _ _ _ _ _ (cast (by kernel_rfl) h)
        · clear h
          intro l I S _ h
          obtain ⟨n_7, e7, h⟩ := asStr_e h
          rw [upd_eta e7]
          exact Pre.sound _ _ _ _ _ (cast (by kernel_rfl) h)
/-! ### owner_Decode: function 22, bolter/owner.Decode -/
noncomputable def owner_Decode_code : Code := (Tryd.f22.body).getD .skip
def owner_Decode_b7 (R : Value → IMem → SH → Prop) (x2 : Addr) (ls_4 : Option Addr) (ls_4n : Nat) (ls_4c : Nat) (I : IMem) (S : SH) : Prop :=
  Runs Tryd.prog 46 #[.slice ls_4 ls_4n ls_4c, .int .i64 1, .int .i64 2] I S fun v I1 S1 => ∃ x66_0_0 x66_0_1 x66_0_2 x66_0_3 x66_1, v = .tuple #[.agg #[.int .i64 x66_0_0, .string x66_0_1, .string x66_0_2, .int .i64 x66_0_3], .bool x66_1] ∧
  StP S1 x2 [.int .i64 x66_0_0, .string x66_0_1, .string x66_0_2, .int .i64 x66_0_3] fun S1' =>
  ∃ r2_0, Cell I1 S1' x2 (.int .i64 r2_0) ∧
  ∃ r2_1, Cell I1 S1' (x2.add 1) (.string r2_1) ∧
  ∃ r2_2, Cell I1 S1' (x2.add 2) (.string r2_2) ∧
  ∃ r2_3, Cell I1 S1' (x2.add 3) (.int .i64 r2_3) ∧
  R (.tuple #[.agg #[.int .i64 r2_0, .string r2_1, .string r2_2, .int .i64 r2_3], .bool x66_1]) I1 S1'
def owner_Decode_b9 (again6 : Addr → Option Addr → Nat → Nat → ByteArray → Option Addr → Nat → Nat → Addr → IMem → SH → Prop) (R : Value → IMem → SH → Prop) (x2 : Addr) (ls_4 : Option Addr) (ls_4n : Nat) (ls_4c : Nat) (last_6 : ByteArray) (rest_7 : Option Addr) (rest_7n : Nat) (rest_7c : Nat) (kind_8 : Int) (word_9 : ByteArray) (x37 : Addr) (I : IMem) (S : SH) : Prop :=
  bcase (!(word_9.toList == last_6.toList))
    (again6 x2 ls_4 ls_4n ls_4c last_6 rest_7 rest_7n rest_7c x37 I S)
    (bcase (kind_8 == (4 : Int))
      (Runs Tryd.prog 46 #[.slice rest_7 rest_7n rest_7c, .int .i64 4, .int .i64 5] I S fun v I1 S1 => ∃ x62_0_0 x62_0_1 x62_0_2 x62_0_3 x62_1, v = .tuple #[.agg #[.int .i64 x62_0_0, .string x62_0_1, .string x62_0_2, .int .i64 x62_0_3], .bool x62_1] ∧
      StP S1 x2 [.int .i64 x62_0_0, .string x62_0_1, .string x62_0_2, .int .i64 x62_0_3] fun S1' =>
      ∃ r2_0, Cell I1 S1' x2 (.int .i64 r2_0) ∧
      ∃ r2_1, Cell I1 S1' (x2.add 1) (.string r2_1) ∧
      ∃ r2_2, Cell I1 S1' (x2.add 2) (.string r2_2) ∧
      ∃ r2_3, Cell I1 S1' (x2.add 3) (.int .i64 r2_3) ∧
      R (.tuple #[.agg #[.int .i64 r2_0, .string r2_1, .string r2_2, .int .i64 r2_3], .bool x62_1]) I1 S1')
      (Runs Tryd.prog 17 #[.slice rest_7 rest_7n rest_7c] I S fun v' I1' S1'' => ∃ x45_0_0 x45_0_1 x45_1, v' = .tuple #[.agg #[.string x45_0_0, .int .i64 x45_0_1], .bool x45_1] ∧
      ∀ b10 : Nat,
      StP ((b10, .cells #[.string ⟨#[]⟩, .int .i64 0] 24 (0, 0)) :: S1'') ⟨b10, 0, none⟩ [.string x45_0_0, .int .i64 x45_0_1] fun S1_r3 =>
      bcase (!x45_1)
        (StP S1_r3 x2 [.int .i64 0, .string ⟨#[]⟩, .string ⟨#[]⟩, .int .i64 0] fun S1_r4 =>
        ∃ r2_0', Cell I1' S1_r4 x2 (.int .i64 r2_0') ∧
        ∃ r2_1', Cell I1' S1_r4 (x2.add 1) (.string r2_1') ∧
        ∃ r2_2', Cell I1' S1_r4 (x2.add 2) (.string r2_2') ∧
        ∃ r2_3', Cell I1' S1_r4 (x2.add 3) (.int .i64 r2_3') ∧
        R (.tuple #[.agg #[.int .i64 r2_0', .string r2_1', .string r2_2', .int .i64 r2_3'], .bool false]) I1' S1_r4)
        (∃ x52_0, Cell I1' S1_r3 ⟨b10, 0, none⟩ (.string x52_0) ∧
        ∃ x52_1, Cell I1' S1_r3 ⟨b10, 1, none⟩ (.int .i64 x52_1) ∧
        StP S1_r3 x2 [.int .i64 kind_8, .string ⟨#[]⟩, .string x52_0, .int .i64 x52_1] fun S1_r5 =>
        ∃ r2_0'', Cell I1' S1_r5 x2 (.int .i64 r2_0'') ∧
        ∃ r2_1'', Cell I1' S1_r5 (x2.add 1) (.string r2_1'') ∧
        ∃ r2_2'', Cell I1' S1_r5 (x2.add 2) (.string r2_2'') ∧
        ∃ r2_3'', Cell I1' S1_r5 (x2.add 3) (.int .i64 r2_3'') ∧
        R (.tuple #[.agg #[.int .i64 r2_0'', .string r2_1'', .string r2_2'', .int .i64 r2_3''], .bool true]) I1' S1_r5)))
def owner_Decode_b8 (again6 : Addr → Option Addr → Nat → Nat → ByteArray → Option Addr → Nat → Nat → Addr → IMem → SH → Prop) (R : Value → IMem → SH → Prop) (x2 : Addr) (ls_4 : Option Addr) (ls_4n : Nat) (ls_4c : Nat) (last_6 : ByteArray) (rest_7 : Option Addr) (rest_7n : Nat) (rest_7c : Nat) (x37 : Addr) (I : IMem) (S : SH) : Prop :=
  EnP I S x37 fun kx40 vx40 =>
  asI .i64 kx40 fun kind_8 => asStr vx40 fun word_9 => owner_Decode_b9 again6 R x2 ls_4 ls_4n ls_4c last_6 rest_7 rest_7n rest_7c kind_8 word_9 x37 I S
def owner_Decode_l6 (again6 : Addr → Option Addr → Nat → Nat → ByteArray → Option Addr → Nat → Nat → Addr → IMem → SH → Prop) (R : Value → IMem → SH → Prop) (x2 : Addr) (ls_4 : Option Addr) (ls_4n : Nat) (ls_4c : Nat) (last_6 : ByteArray) (rest_7 : Option Addr) (rest_7n : Nat) (rest_7c : Nat) (x37 : Addr) (I : IMem) (S : SH) : Prop :=
  NxP I S x37 (owner_Decode_b7 R x2 ls_4 ls_4n ls_4c I S) fun kx38 vx38 S1 =>
  owner_Decode_b8 again6 R x2 ls_4 ls_4n ls_4c last_6 rest_7 rest_7n rest_7c x37 I S1
def owner_Decode_b5 (R : Value → IMem → SH → Prop) (x2 : Addr) (ls_4 : Option Addr) (ls_4n : Nat) (ls_4c : Nat) (last_6 : ByteArray) (rest_7 : Option Addr) (rest_7n : Nat) (rest_7c : Nat) (x37 : Addr) (I : IMem) (S : SH) : Prop :=
  ∃ (Inv : Nat → Addr → Option Addr → Nat → Nat → ByteArray → Option Addr → Nat → Nat → Addr → IMem → SH → Prop) (m : Nat), Inv m x2 ls_4 ls_4n ls_4c last_6 rest_7 rest_7n rest_7c x37 I S ∧
    ∀ (m : Nat) (x2 : Addr) (ls_4 : Option Addr) (ls_4n : Nat) (ls_4c : Nat) (last_6 : ByteArray) (rest_7 : Option Addr) (rest_7n : Nat) (rest_7c : Nat) (x37 : Addr) (J : IMem) (T : SH), I.le J → Inv m x2 ls_4 ls_4n ls_4c last_6 rest_7 rest_7n rest_7c x37 J T →
      owner_Decode_l6 (fun x2 ls_4 ls_4n ls_4c last_6 rest_7 rest_7n rest_7c x37 I S => ∃ m', m' < m ∧ Inv m' x2 ls_4 ls_4n ls_4c last_6 rest_7 rest_7n rest_7c x37 I S) R x2 ls_4 ls_4n ls_4c last_6 rest_7 rest_7n rest_7c x37 J T
def owner_Decode_b4 (R : Value → IMem → SH → Prop) (x2 : Addr) (ls_4 : Option Addr) (ls_4n : Nat) (ls_4c : Nat) (last_6 : ByteArray) (rest_7 : Option Addr) (rest_7n : Nat) (rest_7c : Nat) (I : IMem) (S : SH) : Prop :=
  Runs Tryd.prog 45 #[] I S fun v I1 S1 => ∃ x36, v = .map x36 ∧
  mapP x36 fun m => ∃ es ck, MpC I1 S1 m es ck ∧ ∀ b37 : Nat,
  owner_Decode_b5 R x2 ls_4 ls_4n ls_4c last_6 rest_7 rest_7n rest_7c ⟨b37, 0, none⟩ I1 ((b37, .mapIter (some m) ck #[] ck) :: S1)
def owner_Decode_b3 (R : Value → IMem → SH → Prop) (x2 : Addr) (ls_4 : Option Addr) (ls_4n : Nat) (ls_4c : Nat) (I : IMem) (S : SH) : Prop :=
  ptrP ls_4 fun x29 => (0 : Int) ≤ (IntKind.wrap .i64 ((ls_4n : Int) - (1 : Int))) ∧ (IntKind.wrap .i64 ((ls_4n : Int) - (1 : Int))) < (ls_4n : Int) ∧
  ∃ x30, Cell I S (x29.add ((IntKind.wrap .i64 ((ls_4n : Int) - (1 : Int))).toNat * 1)) (.string x30) ∧
  (0 : Int) ≤ (IntKind.wrap .i64 ((ls_4n : Int) - (1 : Int))) ∧ (IntKind.wrap .i64 ((ls_4n : Int) - (1 : Int))) ≤ ((ls_4c : Nat) : Int) ∧
  owner_Decode_b4 R x2 ls_4 ls_4n ls_4c x30 (slA ls_4 ls_4c 0 1) ((IntKind.wrap .i64 ((ls_4n : Int) - (1 : Int))).toNat - 0) (ls_4c - 0) I S
def owner_Decode_b2 (R : Value → IMem → SH → Prop) (x2 : Addr) (ls_4 : Option Addr) (ls_4n : Nat) (ls_4c : Nat) (x23 : Bool) (I : IMem) (S : SH) : Prop :=
  bcase x23
    (StP S x2 [.int .i64 0, .string ⟨#[]⟩, .string ⟨#[]⟩, .int .i64 0] fun S1 =>
    ∃ r2_0, Cell I S1 x2 (.int .i64 r2_0) ∧
    ∃ r2_1, Cell I S1 (x2.add 1) (.string r2_1) ∧
    ∃ r2_2, Cell I S1 (x2.add 2) (.string r2_2) ∧
    ∃ r2_3, Cell I S1 (x2.add 3) (.int .i64 r2_3) ∧
    R (.tuple #[.agg #[.int .i64 r2_0, .string r2_1, .string r2_2, .int .i64 r2_3], .bool false]) I S1)
    (owner_Decode_b3 R x2 ls_4 ls_4n ls_4c I S)
def owner_Decode_b1 (R : Value → IMem → SH → Prop) (x2 : Addr) (ls_4 : Option Addr) (ls_4n : Nat) (ls_4c : Nat) (ok_5 : Bool) (I : IMem) (S : SH) : Prop :=
  bcase (!ok_5)
    (owner_Decode_b2 R x2 ls_4 ls_4n ls_4c true I S)
    (owner_Decode_b2 R x2 ls_4 ls_4n ls_4c ((ls_4n : Int) == (0 : Int)) I S)
def owner_Decode (R : Value → IMem → SH → Prop) (n_0 : ByteArray) (I : IMem) (S : SH) : Prop :=
  ∀ b2 : Nat,
  Runs Tryd.prog 23 #[.string n_0] I ((b2, .cells #[.int .i64 0, .string ⟨#[]⟩, .string ⟨#[]⟩, .int .i64 0] 29 (0, 0)) :: S) fun v I1 S1 => ∃ x14_0 x14_0n x14_0c x14_1, v = .tuple #[.slice x14_0 x14_0n x14_0c, .bool x14_1] ∧
  owner_Decode_b1 R ⟨b2, 0, none⟩ x14_0 x14_0n x14_0c x14_1 I1 S1
theorem owner_Decode_fn (R : Value → IMem → SH → Prop) (n_0 : ByteArray) (I : IMem) (S : SH) (h : owner_Decode R n_0 I S) :
    Runs Tryd.prog 22 #[.string n_0] I S R := by
  refine Runs.of_wp (args := [.string n_0]) (c := owner_Decode_code) Tryd.func22 (by kernel_rfl) (by kernel_rfl) ?_
  refine WP.cut 2 (fun l I S => asAdr (l 2) fun x2 => asSl (l 4) fun ls_4 ls_4n ls_4c => asB (l 5) fun ok_5 => owner_Decode_b1 R x2 ls_4 ls_4n ls_4c ok_5 I S) (cast (by kernel_rfl) h) ?_
  clear h
  intro l I S _ h
  obtain ⟨x2, e2, h⟩ := asAdr_e h
  obtain ⟨ls_4, ls_4n, ls_4c, e4, h⟩ := asSl_e h
  obtain ⟨ok_5, e5, h⟩ := asB_e h
  rw [upd_eta e2, upd_eta e4, upd_eta e5]
  refine WP.seqY (by kernel_rfl) (fun l I S => asAdr (l 2) fun x2 => asSl (l 4) fun ls_4 ls_4n ls_4c => owner_Decode_b3 R x2 ls_4 ls_4n ls_4c I S) ?_ ?_
  ·
    refine WP.cut 1 (fun l I S => asAdr (l 2) fun x2 => asSl (l 4) fun ls_4 ls_4n ls_4c => asB (l 23) fun x23 => owner_Decode_b2 R x2 ls_4 ls_4n ls_4c x23 I S) (cast (by kernel_rfl) h) ?_
    clear h
    intro l I S _ h
    obtain ⟨x2, e2, h⟩ := asAdr_e h
    obtain ⟨ls_4, ls_4n, ls_4c, e4, h⟩ := asSl_e h
    obtain ⟨x23, e23, h⟩ := asB_e h
    rw [upd_eta e2, upd_eta e4, upd_eta e23]
    exact Pre.sound _ _ _ _ _ (cast (by kernel_rfl) h)
  · clear h
    intro l I S _ h
    obtain ⟨x2, e2, h⟩ := asAdr_e h
    obtain ⟨ls_4, ls_4n, ls_4c, e4, h⟩ := asSl_e h
    rw [upd_eta e2, upd_eta e4]
    refine WP.cut 2 (fun l I S => asAdr (l 2) fun x2 => asSl (l 4) fun ls_4 ls_4n ls_4c => asStr (l 6) fun last_6 => asSl (l 7) fun rest_7 rest_7n rest_7c => owner_Decode_b4 R x2 ls_4 ls_4n ls_4c last_6 rest_7 rest_7n rest_7c I S) (cast (by kernel_rfl) h) ?_
    clear h
    intro l I S _ h
    obtain ⟨x2, e2, h⟩ := asAdr_e h
    obtain ⟨ls_4, ls_4n, ls_4c, e4, h⟩ := asSl_e h
    obtain ⟨last_6, e6, h⟩ := asStr_e h
    obtain ⟨rest_7, rest_7n, rest_7c, e7, h⟩ := asSl_e h
    rw [upd_eta e2, upd_eta e4, upd_eta e6, upd_eta e7]
    refine WP.seqY (by kernel_rfl) (fun l I S => asAdr (l 2) fun x2 => asSl (l 4) fun ls_4 ls_4n ls_4c => owner_Decode_b7 R x2 ls_4 ls_4n ls_4c I S) ?_ ?_
    ·
      refine WP.cut 1 (fun l I S => asAdr (l 2) fun x2 => asSl (l 4) fun ls_4 ls_4n ls_4c => asStr (l 6) fun last_6 => asSl (l 7) fun rest_7 rest_7n rest_7c => asAdr (l 37) fun x37 => owner_Decode_b5 R x2 ls_4 ls_4n ls_4c last_6 rest_7 rest_7n rest_7c x37 I S) (cast (by kernel_rfl) h) ?_
      clear h
      intro l I S _ h
      obtain ⟨x2, e2, h⟩ := asAdr_e h
      obtain ⟨ls_4, ls_4n, ls_4c, e4, h⟩ := asSl_e h
      obtain ⟨last_6, e6, h⟩ := asStr_e h
      obtain ⟨rest_7, rest_7n, rest_7c, e7, h⟩ := asSl_e h
      obtain ⟨x37, e37, h⟩ := asAdr_e h
      rw [upd_eta e2, upd_eta e4, upd_eta e6, upd_eta e7, upd_eta e37]
      refine WP.block' (by kernel_rfl) ?_
      obtain ⟨Inv_again6, m_again6, h0, hr⟩ := h
      refine WP.loop' (by kernel_rfl) (fun m_again6 => fun l I S => asAdr (l 2) fun x2 => asSl (l 4) fun ls_4 ls_4n ls_4c => asStr (l 6) fun last_6 => asSl (l 7) fun rest_7 rest_7n rest_7c => asAdr (l 37) fun x37 => Inv_again6 m_again6 x2 ls_4 ls_4n ls_4c last_6 rest_7 rest_7n rest_7c x37 I S) m_again6 (cast (by kernel_rfl) h0) ?_
      clear h0
      intro m_again6 l I S hle h
      obtain ⟨x2, e2, h⟩ := asAdr_e h
      obtain ⟨ls_4, ls_4n, ls_4c, e4, h⟩ := asSl_e h
      obtain ⟨last_6, e6, h⟩ := asStr_e h
      obtain ⟨rest_7, rest_7n, rest_7c, e7, h⟩ := asSl_e h
      obtain ⟨x37, e37, h⟩ := asAdr_e h
      rw [upd_eta e2, upd_eta e4, upd_eta e6, upd_eta e7, upd_eta e37]
      have h := hr m_again6 x2 ls_4 ls_4n ls_4c last_6 rest_7 rest_7n rest_7c x37 I S hle h
      clear hr hle
      refine WP.cut 2 (fun l I S => asAdr (l 2) fun x2 => asSl (l 4) fun ls_4 ls_4n ls_4c => asStr (l 6) fun last_6 => asSl (l 7) fun rest_7 rest_7n rest_7c => asAdr (l 37) fun x37 => owner_Decode_b8 (fun x2 ls_4 ls_4n ls_4c last_6 rest_7 rest_7n rest_7c x37 I S => ∃ m', m' < m_again6 ∧ Inv_again6 m' x2 ls_4 ls_4n ls_4c last_6 rest_7 rest_7n rest_7c x37 I S) R x2 ls_4 ls_4n ls_4c last_6 rest_7 rest_7n rest_7c x37 I S) (cast (by kernel_rfl) h) ?_
      clear h
      intro l I S _ h
      obtain ⟨x2, e2, h⟩ := asAdr_e h
      obtain ⟨ls_4, ls_4n, ls_4c, e4, h⟩ := asSl_e h
      obtain ⟨last_6, e6, h⟩ := asStr_e h
      obtain ⟨rest_7, rest_7n, rest_7c, e7, h⟩ := asSl_e h
      obtain ⟨x37, e37, h⟩ := asAdr_e h
      rw [upd_eta e2, upd_eta e4, upd_eta e6, upd_eta e7, upd_eta e37]
      refine WP.block' (by kernel_rfl) ?_
      refine WP.cut 1 (fun l I S => asAdr (l 2) fun x2 => asSl (l 4) fun ls_4 ls_4n ls_4c => asStr (l 6) fun last_6 => asSl (l 7) fun rest_7 rest_7n rest_7c => asI .i64 (l 8) fun kind_8 => asStr (l 9) fun word_9 => asAdr (l 37) fun x37 => owner_Decode_b9 (fun x2 ls_4 ls_4n ls_4c last_6 rest_7 rest_7n rest_7c x37 I S => ∃ m', m' < m_again6 ∧ Inv_again6 m' x2 ls_4 ls_4n ls_4c last_6 rest_7 rest_7n rest_7c x37 I S) R x2 ls_4 ls_4n ls_4c last_6 rest_7 rest_7n rest_7c kind_8 word_9 x37 I S) (cast (by kernel_rfl) h) ?_
      clear h
      intro l I S _ h
      obtain ⟨x2, e2, h⟩ := asAdr_e h
      obtain ⟨ls_4, ls_4n, ls_4c, e4, h⟩ := asSl_e h
      obtain ⟨last_6, e6, h⟩ := asStr_e h
      obtain ⟨rest_7, rest_7n, rest_7c, e7, h⟩ := asSl_e h
      obtain ⟨kind_8, e8, h⟩ := asI_e h
      obtain ⟨word_9, e9, h⟩ := asStr_e h
      obtain ⟨x37, e37, h⟩ := asAdr_e h
      rw [upd_eta e2, upd_eta e4, upd_eta e6, upd_eta e7, upd_eta e8, upd_eta e9, upd_eta e37]
      exact Pre.sound _ _ _ _ _ (cast (by kernel_rfl) h)
    · clear h
      intro l I S _ h
      obtain ⟨x2, e2, h⟩ := asAdr_e h
      obtain ⟨ls_4, ls_4n, ls_4c, e4, h⟩ := asSl_e h
      rw [upd_eta e2, upd_eta e4]
      exact Pre.sound _ _ _ _ _ (cast (by kernel_rfl) h)
end Go.Proofs.YtkagfmlaolmdnaaDoor
