import Derived.Test.YtoeecjlencaglaaProg
import Derived.Test.YtoeecjlencaglaaPx6
set_option linter.unusedVariables false
namespace Go.Proofs.Ytoeecjlencaglaa
open Go.Px
/-! ### bolterlaw16_TrieDeep: function 4, bolter/bolterlaw16.TrieDeep -/
noncomputable def bolterlaw16_TrieDeep_code : Code := (Try.f4.body).getD .skip
def bolterlaw16_TrieDeep_b5 (R : Value → IMem → SH → Prop) (x4 : Bool) (I : IMem) (S : SH) : Prop :=
  R (.bool x4) I S
def bolterlaw16_TrieDeep_b4 (R : Value → IMem → SH → Prop) (t_5 : Option Addr) (k_6 : Int) (j_7 : Int) (all_8 : ByteArray) (I : IMem) (S : SH) : Prop :=
  (0 : Int) ≤ (if k_6 < j_7 then k_6 else j_7) ∧ (if k_6 < j_7 then k_6 else j_7) ≤ ((all_8.size : Nat) : Int) ∧
  Runs Try.prog 18 #[.pointer t_5, .string (all_8.extract 0 ((if k_6 < j_7 then k_6 else j_7).toNat))] I S fun v I1 S1 => ∃ x49_0 x49_1 x49_2, v = .tuple #[.int .i64 x49_0, .int .i64 x49_1, .bool x49_2] ∧
  bcase (((all_8.extract 0 ((if k_6 < j_7 then k_6 else j_7).toNat)).size : Int) == (0 : Int))
    (R (.bool (!x49_2)) I1 S1)
    (bcase x49_2
      (bcase (x49_1 == ((all_8.extract 0 ((if k_6 < j_7 then k_6 else j_7).toNat)).size : Int))
        (bcase (x49_0 == (IntKind.wrap .i64 (x49_1 - (1 : Int))))
          (Runs Try.prog 19 #[.pointer t_5] I1 S1 fun v' I1' S1' => ∃ x73, v' = .int .i64 x73 ∧
          bolterlaw16_TrieDeep_b5 R (x73 == k_6) I1' S1')
          (bolterlaw16_TrieDeep_b5 R false I1 S1))
        (bolterlaw16_TrieDeep_b5 R false I1 S1))
      (bolterlaw16_TrieDeep_b5 R false I1 S1))
def bolterlaw16_TrieDeep_l3 (again3 : Option Addr → Int → Int → ByteArray → Int → IMem → SH → Prop) (R : Value → IMem → SH → Prop) (t_5 : Option Addr) (k_6 : Int) (j_7 : Int) (all_8 : ByteArray) (i_9 : Int) (I : IMem) (S : SH) : Prop :=
  bcase (decide (i_9 < k_6))
    (((all_8.size + (Utf8.encode (IntKind.wrap .i32 (IntKind.wrap .i64 ((48 : Int) + (i_9.tmod (2 : Int)))))).size : Nat) : Int) ≤ 9223372036854775807 ∧
    Runs Try.prog 17 #[.pointer t_5, .string (all_8 ++ (Utf8.encode (IntKind.wrap .i32 (IntKind.wrap .i64 ((48 : Int) + (i_9.tmod (2 : Int))))))), .int .i64 i_9] I S fun v I1 S1 => ∃ x40, v = .bool x40 ∧
    again3 t_5 k_6 j_7 (all_8 ++ (Utf8.encode (IntKind.wrap .i32 (IntKind.wrap .i64 ((48 : Int) + (i_9.tmod (2 : Int))))))) (IntKind.wrap .i64 (i_9 + (1 : Int))) I1 S1)
    (bolterlaw16_TrieDeep_b4 R t_5 k_6 j_7 all_8 I S)
def bolterlaw16_TrieDeep_b2 (R : Value → IMem → SH → Prop) (t_5 : Option Addr) (k_6 : Int) (j_7 : Int) (all_8 : ByteArray) (i_9 : Int) (I : IMem) (S : SH) : Prop :=
  ∃ (Inv : Nat → Option Addr → Int → Int → ByteArray → Int → IMem → SH → Prop) (m : Nat), Inv m t_5 k_6 j_7 all_8 i_9 I S ∧
    ∀ (m : Nat) (t_5 : Option Addr) (k_6 : Int) (j_7 : Int) (all_8 : ByteArray) (i_9 : Int) (J : IMem) (T : SH), I.le J → Inv m t_5 k_6 j_7 all_8 i_9 J T →
      bolterlaw16_TrieDeep_l3 (fun t_5 k_6 j_7 all_8 i_9 I S => ∃ m', m' < m ∧ Inv m' t_5 k_6 j_7 all_8 i_9 I S) R t_5 k_6 j_7 all_8 i_9 J T
def bolterlaw16_TrieDeep_b1 (R : Value → IMem → SH → Prop) (t_5 : Option Addr) (k_6 : Int) (j_7 : Int) (all_8 : ByteArray) (I : IMem) (S : SH) : Prop :=
  bolterlaw16_TrieDeep_b2 R t_5 k_6 j_7 all_8 0 I S
def bolterlaw16_TrieDeep (R : Value → IMem → SH → Prop) (n_0 : Int) (m_1 : Int) (I : IMem) (S : SH) : Prop :=
  Runs Try.prog 16 #[] I S fun v I1 S1 => ∃ x14, v = .bool x14 ∧
  bcase (!x14)
    (R (.bool false) I1 S1)
    (∀ b17 : Nat,
    bolterlaw16_TrieDeep_b1 R (some ⟨b17, 0, none⟩) (IntKind.wrap .i64 (((IntKind.wrap .i64 n_0).tmod (128 : Int)) + (1 : Int))) ((IntKind.wrap .i64 m_1).tmod (129 : Int)) ⟨#[]⟩ I1 ((b17, .cells #[.pointer none, .int .i64 0] 29 (0, 0)) :: S1))
theorem bolterlaw16_TrieDeep_fn (R : Value → IMem → SH → Prop) (n_0 : Int) (m_1 : Int) (I : IMem) (S : SH) (h : bolterlaw16_TrieDeep R n_0 m_1 I S) :
    Runs Try.prog 4 #[.int .u8 n_0, .int .u8 m_1] I S R := by
  refine Runs.of_wp (args := [.int .u8 n_0, .int .u8 m_1]) (c := bolterlaw16_TrieDeep_code) Try.func4 (by kernel_rfl) (by kernel_rfl) ?_
  refine WP.cut 5 (fun l I S => asPtr (l 5) fun t_5 => asI .i64 (l 6) fun k_6 => asI .i64 (l 7) fun j_7 => asStr (l 8) fun all_8 => bolterlaw16_TrieDeep_b1 R t_5 k_6 j_7 all_8 I S) (cast (by kernel_rfl) h) ?_
  clear h
  intro l I S _ h
  obtain ⟨t_5, e5, h⟩ := asPtr_e h
  obtain ⟨k_6, e6, h⟩ := asI_e h
  obtain ⟨j_7, e7, h⟩ := asI_e h
  obtain ⟨all_8, e8, h⟩ := asStr_e h
  rw [upd_eta e5, upd_eta e6, upd_eta e7, upd_eta e8]
  refine WP.seqY (by kernel_rfl) (fun l I S => asPtr (l 5) fun t_5 => asI .i64 (l 6) fun k_6 => asI .i64 (l 7) fun j_7 => asStr (l 8) fun all_8 => bolterlaw16_TrieDeep_b4 R t_5 k_6 j_7 all_8 I S) ?_ ?_
  ·
    refine WP.cut 1 (fun l I S => asPtr (l 5) fun t_5 => asI .i64 (l 6) fun k_6 => asI .i64 (l 7) fun j_7 => asStr (l 8) fun all_8 => asI .i64 (l 9) fun i_9 => bolterlaw16_TrieDeep_b2 R t_5 k_6 j_7 all_8 i_9 I S) (cast (by kernel_rfl) h) ?_
    clear h
    intro l I S _ h
    obtain ⟨t_5, e5, h⟩ := asPtr_e h
    obtain ⟨k_6, e6, h⟩ := asI_e h
    obtain ⟨j_7, e7, h⟩ := asI_e h
    obtain ⟨all_8, e8, h⟩ := asStr_e h
    obtain ⟨i_9, e9, h⟩ := asI_e h
    rw [upd_eta e5, upd_eta e6, upd_eta e7, upd_eta e8, upd_eta e9]
    refine WP.block' (by kernel_rfl) ?_
    obtain ⟨Inv_again3, m_again3, h0, hr⟩ := h
    refine WP.loop' (by kernel_rfl) (fun m_again3 => fun l I S => asPtr (l 5) fun t_5 => asI .i64 (l 6) fun k_6 => asI .i64 (l 7) fun j_7 => asStr (l 8) fun all_8 => asI .i64 (l 9) fun i_9 => Inv_again3 m_again3 t_5 k_6 j_7 all_8 i_9 I S) m_again3 (cast (by kernel_rfl) h0) ?_
    clear h0
    intro m_again3 l I S hle h
    obtain ⟨t_5, e5, h⟩ := asPtr_e h
    obtain ⟨k_6, e6, h⟩ := asI_e h
    obtain ⟨j_7, e7, h⟩ := asI_e h
    obtain ⟨all_8, e8, h⟩ := asStr_e h
    obtain ⟨i_9, e9, h⟩ := asI_e h
    rw [upd_eta e5, upd_eta e6, upd_eta e7, upd_eta e8, upd_eta e9]
    have h := hr m_again3 t_5 k_6 j_7 all_8 i_9 I S hle h
    clear hr hle
    exact Pre.sound _ _ _ _ _ (cast (by kernel_rfl) h)
  · clear h
    intro l I S _ h
    obtain ⟨t_5, e5, h⟩ := asPtr_e h
    obtain ⟨k_6, e6, h⟩ := asI_e h
    obtain ⟨j_7, e7, h⟩ := asI_e h
    obtain ⟨all_8, e8, h⟩ := asStr_e h
    rw [upd_eta e5, upd_eta e6, upd_eta e7, upd_eta e8]
    refine WP.cut 4 (fun l I S => asB (l 4) fun x4 => bolterlaw16_TrieDeep_b5 R x4 I S) (cast (by kernel_rfl) h) ?_
    clear h
    intro l I S _ h
    obtain ⟨x4, e4, h⟩ := asB_e h
    rw [upd_eta e4]
    exact Pre.sound _ _ _ _ _ (cast (by kernel_rfl) h)
/-! ### bolterlaw16_TrieOrder: function 9, bolter/bolterlaw16.TrieOrder -/
noncomputable def bolterlaw16_TrieOrder_code : Code := (Try.f9.body).getD .skip
def bolterlaw16_TrieOrder_b7 (again3 : Option Addr → Nat → Nat → Option Addr → Option Addr → Int → Int → IMem → SH → Prop) (R : Value → IMem → SH → Prop) (acts_0 : Option Addr) (acts_0n : Nat) (acts_0c : Nat) (a_3 : Option Addr) (b_4 : Option Addr) (x22 : Int) (x23 : Int) (I : IMem) (S : SH) : Prop :=
  again3 acts_0 acts_0n acts_0c a_3 b_4 x22 (IntKind.wrap .i64 (x23 + (1 : Int))) I S
def bolterlaw16_TrieOrder_b6 (again3 : Option Addr → Nat → Nat → Option Addr → Option Addr → Int → Int → IMem → SH → Prop) (R : Value → IMem → SH → Prop) (acts_0 : Option Addr) (acts_0n : Nat) (acts_0c : Nat) (a_3 : Option Addr) (b_4 : Option Addr) (k_5 : Int) (x22 : Int) (x23 : Int) (I : IMem) (S : SH) : Prop :=
  ptrP acts_0 fun x45 => (0 : Int) ≤ (IntKind.wrap .i64 ((IntKind.wrap .i64 ((acts_0n : Int) - (1 : Int))) - k_5)) ∧ (IntKind.wrap .i64 ((IntKind.wrap .i64 ((acts_0n : Int) - (1 : Int))) - k_5)) < (acts_0n : Int) ∧
  ∃ x46_0, Cell I S (x45.add ((IntKind.wrap .i64 ((IntKind.wrap .i64 ((acts_0n : Int) - (1 : Int))) - k_5)).toNat * 4)) (.int .u8 x46_0) ∧
  ∃ x46_1, Cell I S ((x45.add ((IntKind.wrap .i64 ((IntKind.wrap .i64 ((acts_0n : Int) - (1 : Int))) - k_5)).toNat * 4)).add 1) (.int .u16 x46_1) ∧
  ∃ x46_2, Cell I S ((x45.add ((IntKind.wrap .i64 ((IntKind.wrap .i64 ((acts_0n : Int) - (1 : Int))) - k_5)).toNat * 4)).add 2) (.int .u8 x46_2) ∧
  ∃ x46_3, Cell I S ((x45.add ((IntKind.wrap .i64 ((IntKind.wrap .i64 ((acts_0n : Int) - (1 : Int))) - k_5)).toNat * 4)).add 3) (.int .i64 x46_3) ∧
  ∀ b6 : Nat,
  StP ((b6, .cells #[.int .u8 0, .int .u16 0, .int .u8 0, .int .i64 0] 57 (0, 0)) :: S) ⟨b6, 0, none⟩ [.int .u8 x46_0, .int .u16 x46_1, .int .u8 x46_2, .int .i64 x46_3] fun S1 =>
  ∃ x49, Cell I S1 ⟨b6, 1, none⟩ (.int .u16 x49) ∧
  ∃ x51, Cell I S1 ⟨b6, 2, none⟩ (.int .u8 x51) ∧
  Runs Try.prog 27 #[.int .u16 x49, .int .u8 x51] I S1 fun v I1 S1' => ∃ x52, v = .string x52 ∧
  Runs Try.prog 17 #[.pointer b_4, .string x52, .int .i64 7] I1 S1' fun v' I1' S1'' => ∃ x53, v' = .bool x53 ∧
  bolterlaw16_TrieOrder_b7 again3 R acts_0 acts_0n acts_0c a_3 b_4 x22 x23 I1' S1''
def bolterlaw16_TrieOrder_b5 (again3 : Option Addr → Nat → Nat → Option Addr → Option Addr → Int → Int → IMem → SH → Prop) (R : Value → IMem → SH → Prop) (acts_0 : Option Addr) (acts_0n : Nat) (acts_0c : Nat) (a_3 : Option Addr) (b_4 : Option Addr) (k_5 : Int) (x22 : Int) (x23 : Int) (I : IMem) (S : SH) : Prop :=
  ptrP acts_0 fun x29 => (0 : Int) ≤ k_5 ∧ k_5 < (acts_0n : Int) ∧
  ∃ x31, Cell I S ((x29.add (k_5.toNat * 4)).add 1) (.int .u16 x31) ∧
  ptrP acts_0 fun x34 => (0 : Int) ≤ k_5 ∧ k_5 < (acts_0n : Int) ∧
  ∃ x36, Cell I S ((x34.add (k_5.toNat * 4)).add 2) (.int .u8 x36) ∧
  ∃ x37, (∀ J T, I.le J → Runs Try.prog 27 #[.int .u16 x31, .int .u8 x36] J (T ++ S) (fun v' _ T' => v' = .string x37 ∧ T' = T ++ S)) ∧
  Runs Try.prog 17 #[.pointer a_3, .string x37, .int .i64 7] I S fun v I1 S1 => ∃ x38, v = .bool x38 ∧
  bolterlaw16_TrieOrder_b6 again3 R acts_0 acts_0n acts_0c a_3 b_4 k_5 x22 x23 I1 S1
def bolterlaw16_TrieOrder_b4 (again3 : Option Addr → Nat → Nat → Option Addr → Option Addr → Int → Int → IMem → SH → Prop) (R : Value → IMem → SH → Prop) (acts_0 : Option Addr) (acts_0n : Nat) (acts_0c : Nat) (a_3 : Option Addr) (b_4 : Option Addr) (x22 : Int) (x23 : Int) (I : IMem) (S : SH) : Prop :=
  bolterlaw16_TrieOrder_b5 again3 R acts_0 acts_0n acts_0c a_3 b_4 x23 x22 x23 I S
def bolterlaw16_TrieOrder_b15 (again12 : Option Addr → Option Addr → Option Addr → Nat → Nat → Int → Int → IMem → SH → Prop) (R : Value → IMem → SH → Prop) (a_3 : Option Addr) (b_4 : Option Addr) (x67 : Option Addr) (x67n : Nat) (x67c : Nat) (x68 : Int) (x69 : Int) (I : IMem) (S : SH) : Prop :=
  again12 a_3 b_4 x67 x67n x67c x68 (IntKind.wrap .i64 (x69 + (1 : Int))) I S
def bolterlaw16_TrieOrder_b14 (again12 : Option Addr → Option Addr → Option Addr → Nat → Nat → Int → Int → IMem → SH → Prop) (R : Value → IMem → SH → Prop) (a_3 : Option Addr) (b_4 : Option Addr) (x67 : Option Addr) (x67n : Nat) (x67c : Nat) (x68 : Int) (x69 : Int) (x98 : Bool) (I : IMem) (S : SH) : Prop :=
  bcase x98
    (R (.bool false) I S)
    (bolterlaw16_TrieOrder_b15 again12 R a_3 b_4 x67 x67n x67c x68 x69 I S)
def bolterlaw16_TrieOrder_b13 (again12 : Option Addr → Option Addr → Option Addr → Nat → Nat → Int → Int → IMem → SH → Prop) (R : Value → IMem → SH → Prop) (a_3 : Option Addr) (b_4 : Option Addr) (x67 : Option Addr) (x67n : Nat) (x67c : Nat) (x68 : Int) (x69 : Int) (I : IMem) (S : SH) : Prop :=
  ptrP x67 fun x71 => (0 : Int) ≤ x69 ∧ x69 < (x67n : Int) ∧
  ∃ x72_0, Cell I S (x71.add (x69.toNat * 4)) (.int .u8 x72_0) ∧
  ∃ x72_1, Cell I S ((x71.add (x69.toNat * 4)).add 1) (.int .u16 x72_1) ∧
  ∃ x72_2, Cell I S ((x71.add (x69.toNat * 4)).add 2) (.int .u8 x72_2) ∧
  ∃ x72_3, Cell I S ((x71.add (x69.toNat * 4)).add 3) (.int .i64 x72_3) ∧
  ∀ b8 : Nat,
  StP ((b8, .cells #[.int .u8 0, .int .u16 0, .int .u8 0, .int .i64 0] 57 (0, 0)) :: S) ⟨b8, 0, none⟩ [.int .u8 x72_0, .int .u16 x72_1, .int .u8 x72_2, .int .i64 x72_3] fun S1 =>
  ∃ x76, Cell I S1 ⟨b8, 1, none⟩ (.int .u16 x76) ∧
  Runs Try.prog 27 #[.int .u16 x76, .int .u8 13] I S1 fun v I1 S1' => ∃ x77, v = .string x77 ∧
  Runs Try.prog 18 #[.pointer a_3, .string x77] I1 S1' fun v' I1' S1'' => ∃ x78_0 x78_1 x78_2, v' = .tuple #[.int .i64 x78_0, .int .i64 x78_1, .bool x78_2] ∧
  ∃ x85, Cell I1' S1'' ⟨b8, 1, none⟩ (.int .u16 x85) ∧
  Runs Try.prog 27 #[.int .u16 x85, .int .u8 13] I1' S1'' fun v'' I1'' S1_r3 => ∃ x86, v'' = .string x86 ∧
  Runs Try.prog 18 #[.pointer b_4, .string x86] I1'' S1_r3 fun v_r3 I1_r3 S1_r4 => ∃ x87_0 x87_1 x87_2, v_r3 = .tuple #[.int .i64 x87_0, .int .i64 x87_1, .bool x87_2] ∧
  bcase (x78_1 != x87_1)
    (bolterlaw16_TrieOrder_b14 again12 R a_3 b_4 x67 x67n x67c x68 x69 true I1_r3 S1_r4)
    (bolterlaw16_TrieOrder_b14 again12 R a_3 b_4 x67 x67n x67c x68 x69 (!(x78_2 == x87_2)) I1_r3 S1_r4)
def bolterlaw16_TrieOrder_b16 (R : Value → IMem → SH → Prop) (I : IMem) (S : SH) : Prop :=
  R (.bool true) I S
def bolterlaw16_TrieOrder_l12 (again12 : Option Addr → Option Addr → Option Addr → Nat → Nat → Int → Int → IMem → SH → Prop) (R : Value → IMem → SH → Prop) (a_3 : Option Addr) (b_4 : Option Addr) (x67 : Option Addr) (x67n : Nat) (x67c : Nat) (x68 : Int) (x69 : Int) (I : IMem) (S : SH) : Prop :=
  bcase (decide (x69 < x68))
    (bolterlaw16_TrieOrder_b13 again12 R a_3 b_4 x67 x67n x67c x68 x69 I S)
    (bolterlaw16_TrieOrder_b16 R I S)
def bolterlaw16_TrieOrder_b11 (R : Value → IMem → SH → Prop) (a_3 : Option Addr) (b_4 : Option Addr) (x67 : Option Addr) (x67n : Nat) (x67c : Nat) (x68 : Int) (x69 : Int) (I : IMem) (S : SH) : Prop :=
  ∃ (Inv : Nat → Option Addr → Option Addr → Option Addr → Nat → Nat → Int → Int → IMem → SH → Prop) (m : Nat), Inv m a_3 b_4 x67 x67n x67c x68 x69 I S ∧
    ∀ (m : Nat) (a_3 : Option Addr) (b_4 : Option Addr) (x67 : Option Addr) (x67n : Nat) (x67c : Nat) (x68 : Int) (x69 : Int) (J : IMem) (T : SH), I.le J → Inv m a_3 b_4 x67 x67n x67c x68 x69 J T →
      bolterlaw16_TrieOrder_l12 (fun a_3 b_4 x67 x67n x67c x68 x69 I S => ∃ m', m' < m ∧ Inv m' a_3 b_4 x67 x67n x67c x68 x69 I S) R a_3 b_4 x67 x67n x67c x68 x69 J T
def bolterlaw16_TrieOrder_b10 (R : Value → IMem → SH → Prop) (acts_0 : Option Addr) (acts_0n : Nat) (acts_0c : Nat) (a_3 : Option Addr) (b_4 : Option Addr) (I : IMem) (S : SH) : Prop :=
  bolterlaw16_TrieOrder_b11 R a_3 b_4 acts_0 acts_0n acts_0c (acts_0n : Int) 0 I S
def bolterlaw16_TrieOrder_b9 (R : Value → IMem → SH → Prop) (acts_0 : Option Addr) (acts_0n : Nat) (acts_0c : Nat) (a_3 : Option Addr) (b_4 : Option Addr) (x66 : Bool) (I : IMem) (S : SH) : Prop :=
  bcase x66
    (R (.bool false) I S)
    (bolterlaw16_TrieOrder_b10 R acts_0 acts_0n acts_0c a_3 b_4 I S)
def bolterlaw16_TrieOrder_b8 (R : Value → IMem → SH → Prop) (acts_0 : Option Addr) (acts_0n : Nat) (acts_0c : Nat) (a_3 : Option Addr) (b_4 : Option Addr) (I : IMem) (S : SH) : Prop :=
  Runs Try.prog 19 #[.pointer a_3] I S fun v I1 S1 => ∃ x56, v = .int .i64 x56 ∧
  Runs Try.prog 19 #[.pointer b_4] I1 S1 fun v' I1' S1' => ∃ x58, v' = .int .i64 x58 ∧
  bcase (x56 != x58)
    (bolterlaw16_TrieOrder_b9 R acts_0 acts_0n acts_0c a_3 b_4 true I1' S1')
    (Runs Try.prog 28 #[.pointer a_3] I1' S1' fun v'' I1'' S1'' => ∃ x62, v'' = .int .i64 x62 ∧
    Runs Try.prog 28 #[.pointer b_4] I1'' S1'' fun v_r3 I1_r3 S1_r3 => ∃ x64, v_r3 = .int .i64 x64 ∧
    bolterlaw16_TrieOrder_b9 R acts_0 acts_0n acts_0c a_3 b_4 (x62 != x64) I1_r3 S1_r3)
def bolterlaw16_TrieOrder_l3 (again3 : Option Addr → Nat → Nat → Option Addr → Option Addr → Int → Int → IMem → SH → Prop) (R : Value → IMem → SH → Prop) (acts_0 : Option Addr) (acts_0n : Nat) (acts_0c : Nat) (a_3 : Option Addr) (b_4 : Option Addr) (x22 : Int) (x23 : Int) (I : IMem) (S : SH) : Prop :=
  bcase (decide (x23 < x22))
    (bolterlaw16_TrieOrder_b4 again3 R acts_0 acts_0n acts_0c a_3 b_4 x22 x23 I S)
    (bolterlaw16_TrieOrder_b8 R acts_0 acts_0n acts_0c a_3 b_4 I S)
def bolterlaw16_TrieOrder_b2 (R : Value → IMem → SH → Prop) (acts_0 : Option Addr) (acts_0n : Nat) (acts_0c : Nat) (a_3 : Option Addr) (b_4 : Option Addr) (x22 : Int) (x23 : Int) (I : IMem) (S : SH) : Prop :=
  ∃ (Inv : Nat → Option Addr → Nat → Nat → Option Addr → Option Addr → Int → Int → IMem → SH → Prop) (m : Nat), Inv m acts_0 acts_0n acts_0c a_3 b_4 x22 x23 I S ∧
    ∀ (m : Nat) (acts_0 : Option Addr) (acts_0n : Nat) (acts_0c : Nat) (a_3 : Option Addr) (b_4 : Option Addr) (x22 : Int) (x23 : Int) (J : IMem) (T : SH), I.le J → Inv m acts_0 acts_0n acts_0c a_3 b_4 x22 x23 J T →
      bolterlaw16_TrieOrder_l3 (fun acts_0 acts_0n acts_0c a_3 b_4 x22 x23 I S => ∃ m', m' < m ∧ Inv m' acts_0 acts_0n acts_0c a_3 b_4 x22 x23 I S) R acts_0 acts_0n acts_0c a_3 b_4 x22 x23 J T
def bolterlaw16_TrieOrder_b1 (R : Value → IMem → SH → Prop) (acts_0 : Option Addr) (acts_0n : Nat) (acts_0c : Nat) (a_3 : Option Addr) (b_4 : Option Addr) (I : IMem) (S : SH) : Prop :=
  bolterlaw16_TrieOrder_b2 R acts_0 acts_0n acts_0c a_3 b_4 (acts_0n : Int) 0 I S
def bolterlaw16_TrieOrder (R : Value → IMem → SH → Prop) (acts_0 : Option Addr) (acts_0n : Nat) (acts_0c : Nat) (I : IMem) (S : SH) : Prop :=
  Runs Try.prog 16 #[] I S fun v I1 S1 => ∃ x15, v = .bool x15 ∧
  bcase (!x15)
    (R (.bool false) I1 S1)
    (∀ b18 : Nat,
    ∀ b20 : Nat,
    bolterlaw16_TrieOrder_b1 R acts_0 acts_0n acts_0c (some ⟨b18, 0, none⟩) (some ⟨b20, 0, none⟩) I1 ((b20, .cells #[.pointer none, .int .i64 0] 29 (0, 0)) :: ((b18, .cells #[.pointer none, .int .i64 0] 29 (0, 0)) :: S1)))
theorem bolterlaw16_TrieOrder_fn (R : Value → IMem → SH → Prop) (acts_0 : Option Addr) (acts_0n : Nat) (acts_0c : Nat) (I : IMem) (S : SH) (h : bolterlaw16_TrieOrder R acts_0 acts_0n acts_0c I S) :
    Runs Try.prog 9 #[.slice acts_0 acts_0n acts_0c] I S R := by
  refine Runs.of_wp (args := [.slice acts_0 acts_0n acts_0c]) (c := bolterlaw16_TrieOrder_code) Try.func9 (by kernel_rfl) (by kernel_rfl) ?_
  refine WP.cut 3 (fun l I S => asSl (l 0) fun acts_0 acts_0n acts_0c => asPtr (l 3) fun a_3 => asPtr (l 4) fun b_4 => bolterlaw16_TrieOrder_b1 R acts_0 acts_0n acts_0c a_3 b_4 I S) (cast (by kernel_rfl) h) ?_
  clear h
  intro l I S _ h
  obtain ⟨acts_0, acts_0n, acts_0c, e0, h⟩ := asSl_e h
  obtain ⟨a_3, e3, h⟩ := asPtr_e h
  obtain ⟨b_4, e4, h⟩ := asPtr_e h
  rw [upd_eta e0, upd_eta e3, upd_eta e4]
  refine WP.seqY (by kernel_rfl) (fun l I S => asSl (l 0) fun acts_0 acts_0n acts_0c => asPtr (l 3) fun a_3 => asPtr (l 4) fun b_4 => bolterlaw16_TrieOrder_b8 R acts_0 acts_0n acts_0c a_3 b_4 I S) ?_ ?_
  ·
    refine WP.cut 1 (fun l I S => asSl (l 0) fun acts_0 acts_0n acts_0c => asPtr (l 3) fun a_3 => asPtr (l 4) fun b_4 => asI .i64 (l 22) fun x22 => asI .i64 (l 23) fun x23 => bolterlaw16_TrieOrder_b2 R acts_0 acts_0n acts_0c a_3 b_4 x22 x23 I S) (cast (by kernel_rfl) h) ?_
    clear h
    intro l I S _ h
    obtain ⟨acts_0, acts_0n, acts_0c, e0, h⟩ := asSl_e h
    obtain ⟨a_3, e3, h⟩ := asPtr_e h
    obtain ⟨b_4, e4, h⟩ := asPtr_e h
    obtain ⟨x22, e22, h⟩ := asI_e h
    obtain ⟨x23, e23, h⟩ := asI_e h
    rw [upd_eta e0, upd_eta e3, upd_eta e4, upd_eta e22, upd_eta e23]
    refine WP.block' (by kernel_rfl) ?_
    obtain ⟨Inv_again3, m_again3, h0, hr⟩ := h
    refine WP.loop' (by kernel_rfl) (fun m_again3 => fun l I S => asSl (l 0) fun acts_0 acts_0n acts_0c => asPtr (l 3) fun a_3 => asPtr (l 4) fun b_4 => asI .i64 (l 22) fun x22 => asI .i64 (l 23) fun x23 => Inv_again3 m_again3 acts_0 acts_0n acts_0c a_3 b_4 x22 x23 I S) m_again3 (cast (by kernel_rfl) h0) ?_
    clear h0
    intro m_again3 l I S hle h
    obtain ⟨acts_0, acts_0n, acts_0c, e0, h⟩ := asSl_e h
    obtain ⟨a_3, e3, h⟩ := asPtr_e h
    obtain ⟨b_4, e4, h⟩ := asPtr_e h
    obtain ⟨x22, e22, h⟩ := asI_e h
    obtain ⟨x23, e23, h⟩ := asI_e h
    rw [upd_eta e0, upd_eta e3, upd_eta e4, upd_eta e22, upd_eta e23]
    have h := hr m_again3 acts_0 acts_0n acts_0c a_3 b_4 x22 x23 I S hle h
    clear hr hle
    refine WP.cut 2 (fun l I S => asSl (l 0) fun acts_0 acts_0n acts_0c => asPtr (l 3) fun a_3 => asPtr (l 4) fun b_4 => asI .i64 (l 22) fun x22 => asI .i64 (l 23) fun x23 => bolterlaw16_TrieOrder_b4 (fun acts_0 acts_0n acts_0c a_3 b_4 x22 x23 I S => ∃ m', m' < m_again3 ∧ Inv_again3 m' acts_0 acts_0n acts_0c a_3 b_4 x22 x23 I S) R acts_0 acts_0n acts_0c a_3 b_4 x22 x23 I S) (cast (by kernel_rfl) h) ?_
    clear h
    intro l I S _ h
    obtain ⟨acts_0, acts_0n, acts_0c, e0, h⟩ := asSl_e h
    obtain ⟨a_3, e3, h⟩ := asPtr_e h
    obtain ⟨b_4, e4, h⟩ := asPtr_e h
    obtain ⟨x22, e22, h⟩ := asI_e h
    obtain ⟨x23, e23, h⟩ := asI_e h
    rw [upd_eta e0, upd_eta e3, upd_eta e4, upd_eta e22, upd_eta e23]
    refine WP.seqY (by kernel_rfl) (fun l I S => asSl (l 0) fun acts_0 acts_0n acts_0c => asPtr (l 3) fun a_3 => asPtr (l 4) fun b_4 => asI .i64 (l 22) fun x22 => asI .i64 (l 23) fun x23 => bolterlaw16_TrieOrder_b7 (fun acts_0 acts_0n acts_0c a_3 b_4 x22 x23 I S => ∃ m', m' < m_again3 ∧ Inv_again3 m' acts_0 acts_0n acts_0c a_3 b_4 x22 x23 I S) R acts_0 acts_0n acts_0c a_3 b_4 x22 x23 I S) ?_ ?_
    ·
      refine WP.block' (by kernel_rfl) ?_
      refine WP.cut 1 (fun l I S => asSl (l 0) fun acts_0 acts_0n acts_0c => asPtr (l 3) fun a_3 => asPtr (l 4) fun b_4 => asI .i64 (l 5) fun k_5 => asI .i64 (l 22) fun x22 => asI .i64 (l 23) fun x23 => bolterlaw16_TrieOrder_b5 (fun acts_0 acts_0n acts_0c a_3 b_4 x22 x23 I S => ∃ m', m' < m_again3 ∧ Inv_again3 m' acts_0 acts_0n acts_0c a_3 b_4 x22 x23 I S) R acts_0 acts_0n acts_0c a_3 b_4 k_5 x22 x23 I S) (cast (by kernel_rfl) h) ?_
      clear h
      intro l I S _ h
      obtain ⟨acts_0, acts_0n, acts_0c, e0, h⟩ := asSl_e h
      obtain ⟨a_3, e3, h⟩ := asPtr_e h
      obtain ⟨b_4, e4, h⟩ := asPtr_e h
      obtain ⟨k_5, e5, h⟩ := asI_e h
      obtain ⟨x22, e22, h⟩ := asI_e h
      obtain ⟨x23, e23, h⟩ := asI_e h
      rw [upd_eta e0, upd_eta e3, upd_eta e4, upd_eta e5, upd_eta e22, upd_eta e23]
      refine WP.seqY (by kernel_rfl) (fun l I S => asSl (l 0) fun acts_0 acts_0n acts_0c => asPtr (l 3) fun a_3 => asPtr (l 4) fun b_4 => asI .i64 (l 5) fun k_5 => asI .i64 (l 22) fun x22 => asI .i64 (l 23) fun x23 => bolterlaw16_TrieOrder_b6 (fun acts_0 acts_0n acts_0c a_3 b_4 x22 x23 I S => ∃ m', m' < m_again3 ∧ Inv_again3 m' acts_0 acts_0n acts_0c a_3 b_4 x22 x23 I S) R acts_0 acts_0n acts_0c a_3 b_4 k_5 x22 x23 I S) ?_ ?_
      ·
        exact WP.draw' (.take 0 (.take 1 (.take 2 (.take 3 (.take 4 (.take 5 (.take 6 (.take 7 (.take 8 (.take 9 (.take 10 (.take 11 (.step 12 .done))))))))))))) [12] (by kernel_rfl) (by kernel_rfl) (by kernel_rfl) (by kernel_rfl) (by kernel_rfl) (cast (by kernel_rfl) h)
      · clear h
        intro l I S _ h
        obtain ⟨acts_0, acts_0n, acts_0c, e0, h⟩ := asSl_e h
        obtain ⟨a_3, e3, h⟩ := asPtr_e h
        obtain ⟨b_4, e4, h⟩ := asPtr_e h
        obtain ⟨k_5, e5, h⟩ := asI_e h
        obtain ⟨x22, e22, h⟩ := asI_e h
        obtain ⟨x23, e23, h⟩ := asI_e h
        rw [upd_eta e0, upd_eta e3, upd_eta e4, upd_eta e5, upd_eta e22, upd_eta e23]
        exact Pre.sound _ _ _ _ _ (cast (by kernel_rfl) h)
    · clear h
      intro l I S _ h
      obtain ⟨acts_0, acts_0n, acts_0c, e0, h⟩ := asSl_e h
      obtain ⟨a_3, e3, h⟩ := asPtr_e h
      obtain ⟨b_4, e4, h⟩ := asPtr_e h
      obtain ⟨x22, e22, h⟩ := asI_e h
      obtain ⟨x23, e23, h⟩ := asI_e h
      rw [upd_eta e0, upd_eta e3, upd_eta e4, upd_eta e22, upd_eta e23]
      exact Pre.sound _ _ _ _ _ (cast (by kernel_rfl) h)
  · clear h
    intro l I S _ h
    obtain ⟨acts_0, acts_0n, acts_0c, e0, h⟩ := asSl_e h
    obtain ⟨a_3, e3, h⟩ := asPtr_e h
    obtain ⟨b_4, e4, h⟩ := asPtr_e h
    rw [upd_eta e0, upd_eta e3, upd_eta e4]
    refine WP.seqY (by kernel_rfl) (fun l I S => asSl (l 0) fun acts_0 acts_0n acts_0c => asPtr (l 3) fun a_3 => asPtr (l 4) fun b_4 => bolterlaw16_TrieOrder_b10 R acts_0 acts_0n acts_0c a_3 b_4 I S) ?_ ?_
    ·
      refine WP.cut 1 (fun l I S => asSl (l 0) fun acts_0 acts_0n acts_0c => asPtr (l 3) fun a_3 => asPtr (l 4) fun b_4 => asB (l 66) fun x66 => bolterlaw16_TrieOrder_b9 R acts_0 acts_0n acts_0c a_3 b_4 x66 I S) (cast (by kernel_rfl) h) ?_
      clear h
      intro l I S _ h
      obtain ⟨acts_0, acts_0n, acts_0c, e0, h⟩ := asSl_e h
      obtain ⟨a_3, e3, h⟩ := asPtr_e h
      obtain ⟨b_4, e4, h⟩ := asPtr_e h
      obtain ⟨x66, e66, h⟩ := asB_e h
      rw [upd_eta e0, upd_eta e3, upd_eta e4, upd_eta e66]
      exact Pre.sound _ _ _ _ _ (cast (by kernel_rfl) h)
    · clear h
      intro l I S _ h
      obtain ⟨acts_0, acts_0n, acts_0c, e0, h⟩ := asSl_e h
      obtain ⟨a_3, e3, h⟩ := asPtr_e h
      obtain ⟨b_4, e4, h⟩ := asPtr_e h
      rw [upd_eta e0, upd_eta e3, upd_eta e4]
      refine WP.seqY (by kernel_rfl) (fun l I S => bolterlaw16_TrieOrder_b16 R I S) ?_ ?_
      ·
        refine WP.cut 1 (fun l I S => asPtr (l 3) fun a_3 => asPtr (l 4) fun b_4 => asSl (l 67) fun x67 x67n x67c => asI .i64 (l 68) fun x68 => asI .i64 (l 69) fun x69 => bolterlaw16_TrieOrder_b11 R a_3 b_4 x67 x67n x67c x68 x69 I S) (cast (by kernel_rfl) h) ?_
        clear h
        intro l I S _ h
        obtain ⟨a_3, e3, h⟩ := asPtr_e h
        obtain ⟨b_4, e4, h⟩ := asPtr_e h
        obtain ⟨x67, x67n, x67c, e67, h⟩ := asSl_e h
        obtain ⟨x68, e68, h⟩ := asI_e h
        obtain ⟨x69, e69, h⟩ := asI_e h
        rw [upd_eta e3, upd_eta e4, upd_eta e67, upd_eta e68, upd_eta e69]
        refine WP.block' (by kernel_rfl) ?_
        obtain ⟨Inv_again12, m_again12, h0, hr⟩ := h
        refine WP.loop' (by kernel_rfl) (fun m_again12 => fun l I S => asPtr (l 3) fun a_3 => asPtr (l 4) fun b_4 => asSl (l 67) fun x67 x67n x67c => asI .i64 (l 68) fun x68 => asI .i64 (l 69) fun x69 => Inv_again12 m_again12 a_3 b_4 x67 x67n x67c x68 x69 I S) m_again12 (cast (by kernel_rfl) h0) ?_
        clear h0
        intro m_again12 l I S hle h
        obtain ⟨a_3, e3, h⟩ := asPtr_e h
        obtain ⟨b_4, e4, h⟩ := asPtr_e h
        obtain ⟨x67, x67n, x67c, e67, h⟩ := asSl_e h
        obtain ⟨x68, e68, h⟩ := asI_e h
        obtain ⟨x69, e69, h⟩ := asI_e h
        rw [upd_eta e3, upd_eta e4, upd_eta e67, upd_eta e68, upd_eta e69]
        have h := hr m_again12 a_3 b_4 x67 x67n x67c x68 x69 I S hle h
        clear hr hle
        refine WP.cut 2 (fun l I S => asPtr (l 3) fun a_3 => asPtr (l 4) fun b_4 => asSl (l 67) fun x67 x67n x67c => asI .i64 (l 68) fun x68 => asI .i64 (l 69) fun x69 => bolterlaw16_TrieOrder_b13 (fun a_3 b_4 x67 x67n x67c x68 x69 I S => ∃ m', m' < m_again12 ∧ Inv_again12 m' a_3 b_4 x67 x67n x67c x68 x69 I S) R a_3 b_4 x67 x67n x67c x68 x69 I S) (cast (by kernel_rfl) h) ?_
        clear h
        intro l I S _ h
        obtain ⟨a_3, e3, h⟩ := asPtr_e h
        obtain ⟨b_4, e4, h⟩ := asPtr_e h
        obtain ⟨x67, x67n, x67c, e67, h⟩ := asSl_e h
        obtain ⟨x68, e68, h⟩ := asI_e h
        obtain ⟨x69, e69, h⟩ := asI_e h
        rw [upd_eta e3, upd_eta e4, upd_eta e67, upd_eta e68, upd_eta e69]
        refine WP.seqY (by kernel_rfl) (fun l I S => asPtr (l 3) fun a_3 => asPtr (l 4) fun b_4 => asSl (l 67) fun x67 x67n x67c => asI .i64 (l 68) fun x68 => asI .i64 (l 69) fun x69 => bolterlaw16_TrieOrder_b15 (fun a_3 b_4 x67 x67n x67c x68 x69 I S => ∃ m', m' < m_again12 ∧ Inv_again12 m' a_3 b_4 x67 x67n x67c x68 x69 I S) R a_3 b_4 x67 x67n x67c x68 x69 I S) ?_ ?_
        ·
          refine WP.block' (by kernel_rfl) ?_
          refine WP.cut 4 (fun l I S => asPtr (l 3) fun a_3 => asPtr (l 4) fun b_4 => asSl (l 67) fun x67 x67n x67c => asI .i64 (l 68) fun x68 => asI .i64 (l 69) fun x69 => asB (l 98) fun x98 => bolterlaw16_TrieOrder_b14 (fun a_3 b_4 x67 x67n x67c x68 x69 I S => ∃ m', m' < m_again12 ∧ Inv_again12 m' a_3 b_4 x67 x67n x67c x68 x69 I S) R a_3 b_4 x67 x67n x67c x68 x69 x98 I S) (cast (by kernel_rfl) h) ?_
          clear h
          intro l I S _ h
          obtain ⟨a_3, e3, h⟩ := asPtr_e h
          obtain ⟨b_4, e4, h⟩ := asPtr_e h
          obtain ⟨x67, x67n, x67c, e67, h⟩ := asSl_e h
          obtain ⟨x68, e68, h⟩ := asI_e h
          obtain ⟨x69, e69, h⟩ := asI_e h
          obtain ⟨x98, e98, h⟩ := asB_e h
          rw [upd_eta e3, upd_eta e4, upd_eta e67, upd_eta e68, upd_eta e69, upd_eta e98]
          exact Pre.sound _ _ _ _ _ (cast (by kernel_rfl) h)
        · clear h
          intro l I S _ h
          obtain ⟨a_3, e3, h⟩ := asPtr_e h
          obtain ⟨b_4, e4, h⟩ := asPtr_e h
          obtain ⟨x67, x67n, x67c, e67, h⟩ := asSl_e h
          obtain ⟨x68, e68, h⟩ := asI_e h
          obtain ⟨x69, e69, h⟩ := asI_e h
          rw [upd_eta e3, upd_eta e4, upd_eta e67, upd_eta e68, upd_eta e69]
          exact Pre.sound _ _ _ _ _ (cast (by kernel_rfl) h)
      · clear h
        intro l I S _ h
        exact Pre.sound _ _ _ _ _ (cast (by kernel_rfl) h)
/-! ### bolterlaw16_TrieWhole: function 10, bolter/bolterlaw16.TrieWhole -/
noncomputable def bolterlaw16_TrieWhole_code : Code := (Try.f10.body).getD .skip
def bolterlaw16_TrieWhole_b5 (R : Value → IMem → SH → Prop) (x2 : Bool) (I : IMem) (S : SH) : Prop :=
  R (.bool x2) I S
def bolterlaw16_TrieWhole_b4 (R : Value → IMem → SH → Prop) (n_0 : Int) (t_3 : Option Addr) (all_4 : ByteArray) (I : IMem) (S : SH) : Prop :=
  Runs Try.prog 17 #[.pointer t_3, .string all_4, .int .i64 9] I S fun v I1 S1 => ∃ x40, v = .bool x40 ∧
  Runs Try.prog 18 #[.pointer t_3, .string all_4] I1 S1 fun v' I1' S1' => ∃ x44_0 x44_1 x44_2, v' = .tuple #[.int .i64 x44_0, .int .i64 x44_1, .bool x44_2] ∧
  (0 : Int) ≤ (127 : Int) ∧ (127 : Int) ≤ ((all_4.size : Nat) : Int) ∧
  Runs Try.prog 18 #[.pointer t_3, .string (all_4.extract 0 ((127 : Int).toNat))] I1' S1' fun v'' I1'' S1'' => ∃ x52_0 x52_1 x52_2, v'' = .tuple #[.int .i64 x52_0, .int .i64 x52_1, .bool x52_2] ∧
  ((all_4.size + (⟨#[49]⟩ : ByteArray).size : Nat) : Int) ≤ 9223372036854775807 ∧
  Runs Try.prog 17 #[.pointer t_3, .string (all_4 ++ (⟨#[49]⟩ : ByteArray)), .int .i64 3] I1'' S1'' fun v_r3 I1_r3 S1_r3 => ∃ x59, v_r3 = .bool x59 ∧
  Runs Try.prog 17 #[.pointer t_3, .string ⟨#[]⟩, .int .i64 4] I1_r3 S1_r3 fun v_r4 I1_r4 S1_r4 => ∃ x61, v_r4 = .bool x61 ∧
  (0 : Int) ≤ (n_0.tmod (128 : Int)) ∧ (n_0.tmod (128 : Int)) ≤ ((all_4.size : Nat) : Int) ∧
  Runs Try.prog 18 #[.pointer t_3, .string (all_4.extract 0 ((n_0.tmod (128 : Int)).toNat))] I1_r4 S1_r4 fun v_r5 I1_r5 S1_r5 => ∃ x68_0 x68_1 x68_2, v_r5 = .tuple #[.int .i64 x68_0, .int .i64 x68_1, .bool x68_2] ∧
  bcase x40
    (bcase (x44_0 == (9 : Int))
      (bcase (x44_1 == (128 : Int))
        (bcase x44_2
          (bcase (!x52_2)
            (bcase (!x59)
              (bcase x61
                (bcase (x68_0 == (4 : Int))
                  (bcase (x68_1 == (0 : Int))
                    (bcase x68_2
                      (Runs Try.prog 19 #[.pointer t_3] I1_r5 S1_r5 fun v_r6 I1_r6 S1_r6 => ∃ x108, v_r6 = .int .i64 x108 ∧
                      bcase (x108 == (2 : Int))
                        (Runs Try.prog 28 #[.pointer t_3] I1_r6 S1_r6 fun v_r7 I1_r7 S1_r7 => ∃ x113, v_r7 = .int .i64 x113 ∧
                        bolterlaw16_TrieWhole_b5 R (x113 == (2 : Int)) I1_r7 S1_r7)
                        (bolterlaw16_TrieWhole_b5 R false I1_r6 S1_r6))
                      (bolterlaw16_TrieWhole_b5 R false I1_r5 S1_r5))
                    (bolterlaw16_TrieWhole_b5 R false I1_r5 S1_r5))
                  (bolterlaw16_TrieWhole_b5 R false I1_r5 S1_r5))
                (bolterlaw16_TrieWhole_b5 R false I1_r5 S1_r5))
              (bolterlaw16_TrieWhole_b5 R false I1_r5 S1_r5))
            (bolterlaw16_TrieWhole_b5 R false I1_r5 S1_r5))
          (bolterlaw16_TrieWhole_b5 R false I1_r5 S1_r5))
        (bolterlaw16_TrieWhole_b5 R false I1_r5 S1_r5))
      (bolterlaw16_TrieWhole_b5 R false I1_r5 S1_r5))
    (bolterlaw16_TrieWhole_b5 R false I1_r5 S1_r5)
def bolterlaw16_TrieWhole_l3 (again3 : Int → Option Addr → ByteArray → Int → IMem → SH → Prop) (R : Value → IMem → SH → Prop) (n_0 : Int) (t_3 : Option Addr) (all_4 : ByteArray) (k_5 : Int) (I : IMem) (S : SH) : Prop :=
  bcase (decide (k_5 < (128 : Int)))
    (bcase (decide ((IntKind.wrap .i64 ((1 : Int) + (IntKind.wrap .i64 (n_0.tmod (9 : Int))))) = 0)) False (((all_4.size + (Utf8.encode (IntKind.wrap .i32 (IntKind.wrap .i64 ((48 : Int) + ((IntKind.wrap .i64 (k_5.tdiv (IntKind.wrap .i64 ((1 : Int) + (IntKind.wrap .i64 (n_0.tmod (9 : Int))))))).tmod (2 : Int)))))).size : Nat) : Int) ≤ 9223372036854775807 ∧
    again3 n_0 t_3 (all_4 ++ (Utf8.encode (IntKind.wrap .i32 (IntKind.wrap .i64 ((48 : Int) + ((IntKind.wrap .i64 (k_5.tdiv (IntKind.wrap .i64 ((1 : Int) + (IntKind.wrap .i64 (n_0.tmod (9 : Int))))))).tmod (2 : Int))))))) (IntKind.wrap .i64 (k_5 + (1 : Int))) I S))
    (bolterlaw16_TrieWhole_b4 R n_0 t_3 all_4 I S)
def bolterlaw16_TrieWhole_b2 (R : Value → IMem → SH → Prop) (n_0 : Int) (t_3 : Option Addr) (all_4 : ByteArray) (k_5 : Int) (I : IMem) (S : SH) : Prop :=
  ∃ (Inv : Nat → Int → Option Addr → ByteArray → Int → IMem → SH → Prop) (m : Nat), Inv m n_0 t_3 all_4 k_5 I S ∧
    ∀ (m : Nat) (n_0 : Int) (t_3 : Option Addr) (all_4 : ByteArray) (k_5 : Int) (J : IMem) (T : SH), I.le J → Inv m n_0 t_3 all_4 k_5 J T →
      bolterlaw16_TrieWhole_l3 (fun n_0 t_3 all_4 k_5 I S => ∃ m', m' < m ∧ Inv m' n_0 t_3 all_4 k_5 I S) R n_0 t_3 all_4 k_5 J T
def bolterlaw16_TrieWhole_b1 (R : Value → IMem → SH → Prop) (n_0 : Int) (t_3 : Option Addr) (all_4 : ByteArray) (I : IMem) (S : SH) : Prop :=
  bolterlaw16_TrieWhole_b2 R n_0 t_3 all_4 0 I S
def bolterlaw16_TrieWhole (R : Value → IMem → SH → Prop) (n_0 : Int) (I : IMem) (S : SH) : Prop :=
  Runs Try.prog 16 #[] I S fun v I1 S1 => ∃ x18, v = .bool x18 ∧
  bcase (!x18)
    (R (.bool false) I1 S1)
    (∀ b21 : Nat,
    bolterlaw16_TrieWhole_b1 R n_0 (some ⟨b21, 0, none⟩) ⟨#[]⟩ I1 ((b21, .cells #[.pointer none, .int .i64 0] 29 (0, 0)) :: S1))
theorem bolterlaw16_TrieWhole_fn (R : Value → IMem → SH → Prop) (n_0 : Int) (I : IMem) (S : SH) (h : bolterlaw16_TrieWhole R n_0 I S) :
    Runs Try.prog 10 #[.int .u8 n_0] I S R := by
  refine Runs.of_wp (args := [.int .u8 n_0]) (c := bolterlaw16_TrieWhole_code) Try.func10 (by kernel_rfl) (by kernel_rfl) ?_
  refine WP.cut 4 (fun l I S => asI .u8 (l 0) fun n_0 => asPtr (l 3) fun t_3 => asStr (l 4) fun all_4 => bolterlaw16_TrieWhole_b1 R n_0 t_3 all_4 I S) (cast (by kernel_rfl) h) ?_
  clear h
  intro l I S _ h
  obtain ⟨n_0, e0, h⟩ := asI_e h
  obtain ⟨t_3, e3, h⟩ := asPtr_e h
  obtain ⟨all_4, e4, h⟩ := asStr_e h
  rw [upd_eta e0, upd_eta e3, upd_eta e4]
  refine WP.seqY (by kernel_rfl) (fun l I S => asI .u8 (l 0) fun n_0 => asPtr (l 3) fun t_3 => asStr (l 4) fun all_4 => bolterlaw16_TrieWhole_b4 R n_0 t_3 all_4 I S) ?_ ?_
  ·
    refine WP.cut 1 (fun l I S => asI .u8 (l 0) fun n_0 => asPtr (l 3) fun t_3 => asStr (l 4) fun all_4 => asI .i64 (l 5) fun k_5 => bolterlaw16_TrieWhole_b2 R n_0 t_3 all_4 k_5 I S) (cast (by kernel_rfl) h) ?_
    clear h
    intro l I S _ h
    obtain ⟨n_0, e0, h⟩ := asI_e h
    obtain ⟨t_3, e3, h⟩ := asPtr_e h
    obtain ⟨all_4, e4, h⟩ := asStr_e h
    obtain ⟨k_5, e5, h⟩ := asI_e h
    rw [upd_eta e0, upd_eta e3, upd_eta e4, upd_eta e5]
    refine WP.block' (by kernel_rfl) ?_
    obtain ⟨Inv_again3, m_again3, h0, hr⟩ := h
    refine WP.loop' (by kernel_rfl) (fun m_again3 => fun l I S => asI .u8 (l 0) fun n_0 => asPtr (l 3) fun t_3 => asStr (l 4) fun all_4 => asI .i64 (l 5) fun k_5 => Inv_again3 m_again3 n_0 t_3 all_4 k_5 I S) m_again3 (cast (by kernel_rfl) h0) ?_
    clear h0
    intro m_again3 l I S hle h
    obtain ⟨n_0, e0, h⟩ := asI_e h
    obtain ⟨t_3, e3, h⟩ := asPtr_e h
    obtain ⟨all_4, e4, h⟩ := asStr_e h
    obtain ⟨k_5, e5, h⟩ := asI_e h
    rw [upd_eta e0, upd_eta e3, upd_eta e4, upd_eta e5]
    have h := hr m_again3 n_0 t_3 all_4 k_5 I S hle h
    clear hr hle
    exact Pre.sound _ _ _ _ _ (cast (by kernel_rfl) h)
  · clear h
    intro l I S _ h
    obtain ⟨n_0, e0, h⟩ := asI_e h
    obtain ⟨t_3, e3, h⟩ := asPtr_e h
    obtain ⟨all_4, e4, h⟩ := asStr_e h
    rw [upd_eta e0, upd_eta e3, upd_eta e4]
    refine WP.cut 7 (fun l I S => asB (l 2) fun x2 => bolterlaw16_TrieWhole_b5 R x2 I S) (cast (by kernel_rfl) h) ?_
    clear h
    intro l I S _ h
    obtain ⟨x2, e2, h⟩ := asB_e h
    rw [upd_eta e2]
    exact Pre.sound _ _ _ _ _ (cast (by kernel_rfl) h)
/-! ### bolterlaw16_TrieMay: function 12, bolter/bolterlaw16.TrieMay -/
noncomputable def bolterlaw16_TrieMay_code : Code := (Try.f12.body).getD .skip
def bolterlaw16_TrieMay_b4 (again3 : ByteArray → Int → Bool → Int → IMem → SH → Prop) (R : Value → IMem → SH → Prop) (s_0 : ByteArray) (value_1 : Int) (is_5 : Bool) (k_6 : Int) (I : IMem) (S : SH) : Prop :=
  again3 s_0 value_1 is_5 (IntKind.wrap .i64 (k_6 + (1 : Int))) I S
def bolterlaw16_TrieMay_b6 (R : Value → IMem → SH → Prop) (x4 : Bool) (I : IMem) (S : SH) : Prop :=
  R (.bool x4) I S
def bolterlaw16_TrieMay_b5 (R : Value → IMem → SH → Prop) (s_0 : ByteArray) (value_1 : Int) (is_5 : Bool) (I : IMem) (S : SH) : Prop :=
  ∀ b40 : Nat,
  Runs Try.prog 17 #[.pointer (some ⟨b40, 0, none⟩), .string s_0, .int .i64 value_1] I ((b40, .cells #[.pointer none, .int .i64 0] 29 (0, 0)) :: S) fun v I1 S1 => ∃ x44, v = .bool x44 ∧
  Runs Try.prog 30 #[.pointer (some ⟨b40, 0, none⟩), .string s_0] I1 S1 fun v' I1' S1' => ∃ x48_0 x48_1, v' = .tuple #[.int .i64 x48_0, .bool x48_1] ∧
  Runs Try.prog 18 #[.pointer (some ⟨b40, 0, none⟩), .string s_0] I1' S1' fun v'' I1'' S1'' => ∃ x54_0 x54_1 x54_2, v'' = .tuple #[.int .i64 x54_0, .int .i64 x54_1, .bool x54_2] ∧
  Runs Try.prog 29 #[.pointer (some ⟨b40, 0, none⟩), .string s_0] I1'' S1'' fun v_r3 I1_r3 S1_r3 => ∃ x60, v_r3 = .bool x60 ∧
  Runs Try.prog 32 #[.string s_0] I1_r3 S1_r3 fun v_r4 I1_r4 S1_r4 => ∃ x62, v_r4 = .bool x62 ∧
  bcase (x62 == is_5)
    (bcase (x44 == is_5)
      (bcase (x48_1 == is_5)
        (bcase (x54_2 == is_5)
          (bcase (x60 == is_5)
            (bcase (!is_5)
              (bcase (x48_0 == (0 : Int))
                (Runs Try.prog 19 #[.pointer (some ⟨b40, 0, none⟩)] I1_r4 S1_r4 fun v_r5 I1_r5 S1_r5 => ∃ x103, v_r5 = .int .i64 x103 ∧
                bcase (x103 == (0 : Int))
                  (Runs Try.prog 28 #[.pointer (some ⟨b40, 0, none⟩)] I1_r5 S1_r5 fun v_r6 I1_r6 S1_r6 => ∃ x108, v_r6 = .int .i64 x108 ∧
                  bolterlaw16_TrieMay_b6 R (x108 == (0 : Int)) I1_r6 S1_r6)
                  (bolterlaw16_TrieMay_b6 R false I1_r5 S1_r5))
                (bcase is_5
                  (bcase (x48_0 == value_1)
                    (Runs Try.prog 19 #[.pointer (some ⟨b40, 0, none⟩)] I1_r4 S1_r4 fun v_r7 I1_r7 S1_r7 => ∃ x103', v_r7 = .int .i64 x103' ∧
                    bcase (x103' == (0 : Int))
                      (Runs Try.prog 28 #[.pointer (some ⟨b40, 0, none⟩)] I1_r7 S1_r7 fun v_r8 I1_r8 S1_r8 => ∃ x108', v_r8 = .int .i64 x108' ∧
                      bolterlaw16_TrieMay_b6 R (x108' == (0 : Int)) I1_r8 S1_r8)
                      (bolterlaw16_TrieMay_b6 R false I1_r7 S1_r7))
                    (bolterlaw16_TrieMay_b6 R false I1_r4 S1_r4))
                  (bolterlaw16_TrieMay_b6 R false I1_r4 S1_r4)))
              (bcase is_5
                (bcase (x48_0 == value_1)
                  (Runs Try.prog 19 #[.pointer (some ⟨b40, 0, none⟩)] I1_r4 S1_r4 fun v_r9 I1_r9 S1_r9 => ∃ x103'', v_r9 = .int .i64 x103'' ∧
                  bcase (x103'' == (0 : Int))
                    (Runs Try.prog 28 #[.pointer (some ⟨b40, 0, none⟩)] I1_r9 S1_r9 fun v_r10 I1_r10 S1_r10 => ∃ x108'', v_r10 = .int .i64 x108'' ∧
                    bolterlaw16_TrieMay_b6 R (x108'' == (0 : Int)) I1_r10 S1_r10)
                    (bolterlaw16_TrieMay_b6 R false I1_r9 S1_r9))
                  (bolterlaw16_TrieMay_b6 R false I1_r4 S1_r4))
                (bolterlaw16_TrieMay_b6 R false I1_r4 S1_r4)))
            (bolterlaw16_TrieMay_b6 R false I1_r4 S1_r4))
          (bolterlaw16_TrieMay_b6 R false I1_r4 S1_r4))
        (bolterlaw16_TrieMay_b6 R false I1_r4 S1_r4))
      (bolterlaw16_TrieMay_b6 R false I1_r4 S1_r4))
    (bolterlaw16_TrieMay_b6 R false I1_r4 S1_r4)
def bolterlaw16_TrieMay_l3 (again3 : ByteArray → Int → Bool → Int → IMem → SH → Prop) (R : Value → IMem → SH → Prop) (s_0 : ByteArray) (value_1 : Int) (is_5 : Bool) (k_6 : Int) (I : IMem) (S : SH) : Prop :=
  bcase (decide (k_6 < (s_0.size : Int)))
    (bcase is_5
      (∃ cx30 : UInt8, (0 : Int) ≤ k_6 ∧ s_0[k_6.toNat]? = some cx30 ∧
      bcase ((cx30.toNat : Int) == (48 : Int))
        (bolterlaw16_TrieMay_b4 again3 R s_0 value_1 true k_6 I S)
        (∃ cx35 : UInt8, (0 : Int) ≤ k_6 ∧ s_0[k_6.toNat]? = some cx35 ∧
        bolterlaw16_TrieMay_b4 again3 R s_0 value_1 ((cx35.toNat : Int) == (49 : Int)) k_6 I S))
      (bolterlaw16_TrieMay_b4 again3 R s_0 value_1 false k_6 I S))
    (bolterlaw16_TrieMay_b5 R s_0 value_1 is_5 I S)
def bolterlaw16_TrieMay_b2 (R : Value → IMem → SH → Prop) (s_0 : ByteArray) (value_1 : Int) (is_5 : Bool) (k_6 : Int) (I : IMem) (S : SH) : Prop :=
  ∃ (Inv : Nat → ByteArray → Int → Bool → Int → IMem → SH → Prop) (m : Nat), Inv m s_0 value_1 is_5 k_6 I S ∧
    ∀ (m : Nat) (s_0 : ByteArray) (value_1 : Int) (is_5 : Bool) (k_6 : Int) (J : IMem) (T : SH), I.le J → Inv m s_0 value_1 is_5 k_6 J T →
      bolterlaw16_TrieMay_l3 (fun s_0 value_1 is_5 k_6 I S => ∃ m', m' < m ∧ Inv m' s_0 value_1 is_5 k_6 I S) R s_0 value_1 is_5 k_6 J T
def bolterlaw16_TrieMay_b1 (R : Value → IMem → SH → Prop) (s_0 : ByteArray) (value_1 : Int) (is_5 : Bool) (I : IMem) (S : SH) : Prop :=
  bolterlaw16_TrieMay_b2 R s_0 value_1 is_5 0 I S
def bolterlaw16_TrieMay (R : Value → IMem → SH → Prop) (s_0 : ByteArray) (value_1 : Int) (I : IMem) (S : SH) : Prop :=
  Runs Try.prog 16 #[] I S fun v I1 S1 => ∃ x15, v = .bool x15 ∧
  bcase (!x15)
    (R (.bool false) I1 S1)
    (bolterlaw16_TrieMay_b1 R s_0 value_1 (decide ((s_0.size : Int) ≤ (128 : Int))) I1 S1)
theorem bolterlaw16_TrieMay_fn (R : Value → IMem → SH → Prop) (s_0 : ByteArray) (value_1 : Int) (I : IMem) (S : SH) (h : bolterlaw16_TrieMay R s_0 value_1 I S) :
    Runs Try.prog 12 #[.string s_0, .int .i64 value_1] I S R := by
  refine Runs.of_wp (args := [.string s_0, .int .i64 value_1]) (c := bolterlaw16_TrieMay_code) Try.func12 (by kernel_rfl) (by kernel_rfl) ?_
  refine WP.cut 3 (fun l I S => asStr (l 0) fun s_0 => asI .i64 (l 1) fun value_1 => asB (l 5) fun is_5 => bolterlaw16_TrieMay_b1 R s_0 value_1 is_5 I S) (cast (by kernel_rfl) h) ?_
  clear h
  intro l I S _ h
  obtain ⟨s_0, e0, h⟩ := asStr_e h
  obtain ⟨value_1, e1, h⟩ := asI_e h
  obtain ⟨is_5, e5, h⟩ := asB_e h
  rw [upd_eta e0, upd_eta e1, upd_eta e5]
  refine WP.seqY (by kernel_rfl) (fun l I S => asStr (l 0) fun s_0 => asI .i64 (l 1) fun value_1 => asB (l 5) fun is_5 => bolterlaw16_TrieMay_b5 R s_0 value_1 is_5 I S) ?_ ?_
  ·
    refine WP.cut 1 (fun l I S => asStr (l 0) fun s_0 => asI .i64 (l 1) fun value_1 => asB (l 5) fun is_5 => asI .i64 (l 6) fun k_6 => bolterlaw16_TrieMay_b2 R s_0 value_1 is_5 k_6 I S) (cast (by kernel_rfl) h) ?_
    clear h
    intro l I S _ h
    obtain ⟨s_0, e0, h⟩ := asStr_e h
    obtain ⟨value_1, e1, h⟩ := asI_e h
    obtain ⟨is_5, e5, h⟩ := asB_e h
    obtain ⟨k_6, e6, h⟩ := asI_e h
    rw [upd_eta e0, upd_eta e1, upd_eta e5, upd_eta e6]
    refine WP.block' (by kernel_rfl) ?_
    obtain ⟨Inv_again3, m_again3, h0, hr⟩ := h
    refine WP.loop' (by kernel_rfl) (fun m_again3 => fun l I S => asStr (l 0) fun s_0 => asI .i64 (l 1) fun value_1 => asB (l 5) fun is_5 => asI .i64 (l 6) fun k_6 => Inv_again3 m_again3 s_0 value_1 is_5 k_6 I S) m_again3 (cast (by kernel_rfl) h0) ?_
    clear h0
    intro m_again3 l I S hle h
    obtain ⟨s_0, e0, h⟩ := asStr_e h
    obtain ⟨value_1, e1, h⟩ := asI_e h
    obtain ⟨is_5, e5, h⟩ := asB_e h
    obtain ⟨k_6, e6, h⟩ := asI_e h
    rw [upd_eta e0, upd_eta e1, upd_eta e5, upd_eta e6]
    have h := hr m_again3 s_0 value_1 is_5 k_6 I S hle h
    clear hr hle
    refine WP.cut 2 (fun l I S => asStr (l 0) fun s_0 => asI .i64 (l 1) fun value_1 => asB (l 5) fun is_5 => asI .i64 (l 6) fun k_6 => bolterlaw16_TrieMay_b4 (fun s_0 value_1 is_5 k_6 I S => ∃ m', m' < m_again3 ∧ Inv_again3 m' s_0 value_1 is_5 k_6 I S) R s_0 value_1 is_5 k_6 I S) (cast (by kernel_rfl) h) ?_
    clear h
    intro l I S _ h
    obtain ⟨s_0, e0, h⟩ := asStr_e h
    obtain ⟨value_1, e1, h⟩ := asI_e h
    obtain ⟨is_5, e5, h⟩ := asB_e h
    obtain ⟨k_6, e6, h⟩ := asI_e h
    rw [upd_eta e0, upd_eta e1, upd_eta e5, upd_eta e6]
    exact Pre.sound _ _ _ _ _ (cast (by kernel_rfl) h)
  · clear h
    intro l I S _ h
    obtain ⟨s_0, e0, h⟩ := asStr_e h
    obtain ⟨value_1, e1, h⟩ := asI_e h
    obtain ⟨is_5, e5, h⟩ := asB_e h
    rw [upd_eta e0, upd_eta e1, upd_eta e5]
    refine WP.cut 6 (fun l I S => asB (l 4) fun x4 => bolterlaw16_TrieMay_b6 R x4 I S) (cast (by kernel_rfl) h) ?_
    clear h
    intro l I S _ h
    obtain ⟨x4, e4, h⟩ := asB_e h
    rw [upd_eta e4]
    exact Pre.sound _ _ _ _ _ (cast (by kernel_rfl) h)
/-! ### bolterlaw16_TrieGone: function 13, bolter/bolterlaw16.TrieGone -/
noncomputable def bolterlaw16_TrieGone_code : Code := (Try.f13.body).getD .skip
def bolterlaw16_TrieGone_b6 (again3 : Option Addr → Nat → Nat → Option Addr → Option Addr → Nat → Nat → Int → Int → IMem → SH → Prop) (R : Value → IMem → SH → Prop) (acts_0 : Option Addr) (acts_0n : Nat) (acts_0c : Nat) (t_3 : Option Addr) (x14 : Option Addr) (x14n : Nat) (x14c : Nat) (x15 : Int) (x16 : Int) (I : IMem) (S : SH) : Prop :=
  again3 acts_0 acts_0n acts_0c t_3 x14 x14n x14c x15 (IntKind.wrap .i64 (x16 + (1 : Int))) I S
def bolterlaw16_TrieGone_b5 (again3 : Option Addr → Nat → Nat → Option Addr → Option Addr → Nat → Nat → Int → Int → IMem → SH → Prop) (R : Value → IMem → SH → Prop) (acts_0 : Option Addr) (acts_0n : Nat) (acts_0c : Nat) (t_3 : Option Addr) (a_5 : Addr) (x14 : Option Addr) (x14n : Nat) (x14c : Nat) (x15 : Int) (x16 : Int) (I : IMem) (S : SH) : Prop :=
  ∃ x22, Cell I S (a_5.add 1) (.int .u16 x22) ∧
  ∃ x24, Cell I S (a_5.add 2) (.int .u8 x24) ∧
  ∃ x25, (∀ J T, I.le J → Runs Try.prog 27 #[.int .u16 x22, .int .u8 x24] J (T ++ S) (fun v' _ T' => v' = .string x25 ∧ T' = T ++ S)) ∧
  ∃ x27, Cell I S (a_5.add 3) (.int .i64 x27) ∧
  Runs Try.prog 17 #[.pointer t_3, .string x25, .int .i64 x27] I S fun v I1 S1 => ∃ x28, v = .bool x28 ∧
  bolterlaw16_TrieGone_b6 again3 R acts_0 acts_0n acts_0c t_3 x14 x14n x14c x15 x16 I1 S1
def bolterlaw16_TrieGone_b4 (again3 : Option Addr → Nat → Nat → Option Addr → Option Addr → Nat → Nat → Int → Int → IMem → SH → Prop) (R : Value → IMem → SH → Prop) (acts_0 : Option Addr) (acts_0n : Nat) (acts_0c : Nat) (t_3 : Option Addr) (x14 : Option Addr) (x14n : Nat) (x14c : Nat) (x15 : Int) (x16 : Int) (I : IMem) (S : SH) : Prop :=
  ptrP x14 fun x18 => (0 : Int) ≤ x16 ∧ x16 < (x14n : Int) ∧
  ∃ x19_0, Cell I S (x18.add (x16.toNat * 4)) (.int .u8 x19_0) ∧
  ∃ x19_1, Cell I S ((x18.add (x16.toNat * 4)).add 1) (.int .u16 x19_1) ∧
  ∃ x19_2, Cell I S ((x18.add (x16.toNat * 4)).add 2) (.int .u8 x19_2) ∧
  ∃ x19_3, Cell I S ((x18.add (x16.toNat * 4)).add 3) (.int .i64 x19_3) ∧
  ∀ b5 : Nat,
  StP ((b5, .cells #[.int .u8 0, .int .u16 0, .int .u8 0, .int .i64 0] 57 (0, 0)) :: S) ⟨b5, 0, none⟩ [.int .u8 x19_0, .int .u16 x19_1, .int .u8 x19_2, .int .i64 x19_3] fun S1 =>
  bolterlaw16_TrieGone_b5 again3 R acts_0 acts_0n acts_0c t_3 ⟨b5, 0, none⟩ x14 x14n x14c x15 x16 I S1
def bolterlaw16_TrieGone_b12 (again9 : Option Addr → Option Addr → Nat → Nat → Int → Int → IMem → SH → Prop) (R : Value → IMem → SH → Prop) (t_3 : Option Addr) (x30 : Option Addr) (x30n : Nat) (x30c : Nat) (x31 : Int) (x32 : Int) (I : IMem) (S : SH) : Prop :=
  again9 t_3 x30 x30n x30c x31 (IntKind.wrap .i64 (x32 + (1 : Int))) I S
def bolterlaw16_TrieGone_b11 (again9 : Option Addr → Option Addr → Nat → Nat → Int → Int → IMem → SH → Prop) (R : Value → IMem → SH → Prop) (t_3 : Option Addr) (x30 : Option Addr) (x30n : Nat) (x30c : Nat) (x31 : Int) (x32 : Int) (x61 : Bool) (I : IMem) (S : SH) : Prop :=
  bcase x61
    (R (.bool false) I S)
    (bolterlaw16_TrieGone_b12 again9 R t_3 x30 x30n x30c x31 x32 I S)
def bolterlaw16_TrieGone_b10 (again9 : Option Addr → Option Addr → Nat → Nat → Int → Int → IMem → SH → Prop) (R : Value → IMem → SH → Prop) (t_3 : Option Addr) (x30 : Option Addr) (x30n : Nat) (x30c : Nat) (x31 : Int) (x32 : Int) (I : IMem) (S : SH) : Prop :=
  ptrP x30 fun x34 => (0 : Int) ≤ x32 ∧ x32 < (x30n : Int) ∧
  ∃ x35_0, Cell I S (x34.add (x32.toNat * 4)) (.int .u8 x35_0) ∧
  ∃ x35_1, Cell I S ((x34.add (x32.toNat * 4)).add 1) (.int .u16 x35_1) ∧
  ∃ x35_2, Cell I S ((x34.add (x32.toNat * 4)).add 2) (.int .u8 x35_2) ∧
  ∃ x35_3, Cell I S ((x34.add (x32.toNat * 4)).add 3) (.int .i64 x35_3) ∧
  ∀ b7 : Nat,
  StP ((b7, .cells #[.int .u8 0, .int .u16 0, .int .u8 0, .int .i64 0] 57 (0, 0)) :: S) ⟨b7, 0, none⟩ [.int .u8 x35_0, .int .u16 x35_1, .int .u8 x35_2, .int .i64 x35_3] fun S1 =>
  ∃ x38, Cell I S1 ⟨b7, 1, none⟩ (.int .u16 x38) ∧
  ∃ x40, Cell I S1 ⟨b7, 2, none⟩ (.int .u8 x40) ∧
  Runs Try.prog 27 #[.int .u16 x38, .int .u8 x40] I S1 fun v I1 S1' => ∃ x41, v = .string x41 ∧
  Runs Try.prog 29 #[.pointer t_3, .string x41] I1 S1' fun v' I1' S1'' => ∃ x42, v' = .bool x42 ∧
  ∃ x46, Cell I1' S1'' ⟨b7, 1, none⟩ (.int .u16 x46) ∧
  ∃ x48, Cell I1' S1'' ⟨b7, 2, none⟩ (.int .u8 x48) ∧
  Runs Try.prog 27 #[.int .u16 x46, .int .u8 x48] I1' S1'' fun v'' I1'' S1_r3 => ∃ x49, v'' = .string x49 ∧
  Runs Try.prog 30 #[.pointer t_3, .string x49] I1'' S1_r3 fun v_r3 I1_r3 S1_r4 => ∃ x50_0 x50_1, v_r3 = .tuple #[.int .i64 x50_0, .bool x50_1] ∧
  bcase x50_1
    (bolterlaw16_TrieGone_b11 again9 R t_3 x30 x30n x30c x31 x32 true I1_r3 S1_r4)
    (Runs Try.prog 28 #[.pointer t_3] I1_r3 S1_r4 fun v_r4 I1_r4 S1_r5 => ∃ x56, v_r4 = .int .i64 x56 ∧
    Runs Try.prog 19 #[.pointer t_3] I1_r4 S1_r5 fun v_r5 I1_r5 S1_r6 => ∃ x58, v_r5 = .int .i64 x58 ∧
    bolterlaw16_TrieGone_b11 again9 R t_3 x30 x30n x30c x31 x32 (decide (x56 > (IntKind.wrap .i64 ((2 : Int) * x58)))) I1_r5 S1_r6)
def bolterlaw16_TrieGone_b14 (R : Value → IMem → SH → Prop) (x2 : Bool) (I : IMem) (S : SH) : Prop :=
  R (.bool x2) I S
def bolterlaw16_TrieGone_b13 (R : Value → IMem → SH → Prop) (t_3 : Option Addr) (I : IMem) (S : SH) : Prop :=
  Runs Try.prog 19 #[.pointer t_3] I S fun v I1 S1 => ∃ x64, v = .int .i64 x64 ∧
  bcase (x64 == (0 : Int))
    (Runs Try.prog 28 #[.pointer t_3] I1 S1 fun v' I1' S1' => ∃ x68, v' = .int .i64 x68 ∧
    bolterlaw16_TrieGone_b14 R (x68 == (0 : Int)) I1' S1')
    (bolterlaw16_TrieGone_b14 R false I1 S1)
def bolterlaw16_TrieGone_l9 (again9 : Option Addr → Option Addr → Nat → Nat → Int → Int → IMem → SH → Prop) (R : Value → IMem → SH → Prop) (t_3 : Option Addr) (x30 : Option Addr) (x30n : Nat) (x30c : Nat) (x31 : Int) (x32 : Int) (I : IMem) (S : SH) : Prop :=
  bcase (decide (x32 < x31))
    (bolterlaw16_TrieGone_b10 again9 R t_3 x30 x30n x30c x31 x32 I S)
    (bolterlaw16_TrieGone_b13 R t_3 I S)
def bolterlaw16_TrieGone_b8 (R : Value → IMem → SH → Prop) (t_3 : Option Addr) (x30 : Option Addr) (x30n : Nat) (x30c : Nat) (x31 : Int) (x32 : Int) (I : IMem) (S : SH) : Prop :=
  ∃ (Inv : Nat → Option Addr → Option Addr → Nat → Nat → Int → Int → IMem → SH → Prop) (m : Nat), Inv m t_3 x30 x30n x30c x31 x32 I S ∧
    ∀ (m : Nat) (t_3 : Option Addr) (x30 : Option Addr) (x30n : Nat) (x30c : Nat) (x31 : Int) (x32 : Int) (J : IMem) (T : SH), I.le J → Inv m t_3 x30 x30n x30c x31 x32 J T →
      bolterlaw16_TrieGone_l9 (fun t_3 x30 x30n x30c x31 x32 I S => ∃ m', m' < m ∧ Inv m' t_3 x30 x30n x30c x31 x32 I S) R t_3 x30 x30n x30c x31 x32 J T
def bolterlaw16_TrieGone_b7 (R : Value → IMem → SH → Prop) (acts_0 : Option Addr) (acts_0n : Nat) (acts_0c : Nat) (t_3 : Option Addr) (I : IMem) (S : SH) : Prop :=
  bolterlaw16_TrieGone_b8 R t_3 acts_0 acts_0n acts_0c (acts_0n : Int) 0 I S
def bolterlaw16_TrieGone_l3 (again3 : Option Addr → Nat → Nat → Option Addr → Option Addr → Nat → Nat → Int → Int → IMem → SH → Prop) (R : Value → IMem → SH → Prop) (acts_0 : Option Addr) (acts_0n : Nat) (acts_0c : Nat) (t_3 : Option Addr) (x14 : Option Addr) (x14n : Nat) (x14c : Nat) (x15 : Int) (x16 : Int) (I : IMem) (S : SH) : Prop :=
  bcase (decide (x16 < x15))
    (bolterlaw16_TrieGone_b4 again3 R acts_0 acts_0n acts_0c t_3 x14 x14n x14c x15 x16 I S)
    (bolterlaw16_TrieGone_b7 R acts_0 acts_0n acts_0c t_3 I S)
def bolterlaw16_TrieGone_b2 (R : Value → IMem → SH → Prop) (acts_0 : Option Addr) (acts_0n : Nat) (acts_0c : Nat) (t_3 : Option Addr) (x14 : Option Addr) (x14n : Nat) (x14c : Nat) (x15 : Int) (x16 : Int) (I : IMem) (S : SH) : Prop :=
  ∃ (Inv : Nat → Option Addr → Nat → Nat → Option Addr → Option Addr → Nat → Nat → Int → Int → IMem → SH → Prop) (m : Nat), Inv m acts_0 acts_0n acts_0c t_3 x14 x14n x14c x15 x16 I S ∧
    ∀ (m : Nat) (acts_0 : Option Addr) (acts_0n : Nat) (acts_0c : Nat) (t_3 : Option Addr) (x14 : Option Addr) (x14n : Nat) (x14c : Nat) (x15 : Int) (x16 : Int) (J : IMem) (T : SH), I.le J → Inv m acts_0 acts_0n acts_0c t_3 x14 x14n x14c x15 x16 J T →
      bolterlaw16_TrieGone_l3 (fun acts_0 acts_0n acts_0c t_3 x14 x14n x14c x15 x16 I S => ∃ m', m' < m ∧ Inv m' acts_0 acts_0n acts_0c t_3 x14 x14n x14c x15 x16 I S) R acts_0 acts_0n acts_0c t_3 x14 x14n x14c x15 x16 J T
def bolterlaw16_TrieGone_b1 (R : Value → IMem → SH → Prop) (acts_0 : Option Addr) (acts_0n : Nat) (acts_0c : Nat) (t_3 : Option Addr) (I : IMem) (S : SH) : Prop :=
  bolterlaw16_TrieGone_b2 R acts_0 acts_0n acts_0c t_3 acts_0 acts_0n acts_0c (acts_0n : Int) 0 I S
def bolterlaw16_TrieGone (R : Value → IMem → SH → Prop) (acts_0 : Option Addr) (acts_0n : Nat) (acts_0c : Nat) (I : IMem) (S : SH) : Prop :=
  Runs Try.prog 16 #[] I S fun v I1 S1 => ∃ x10, v = .bool x10 ∧
  bcase (!x10)
    (R (.bool false) I1 S1)
    (∀ b13 : Nat,
    bolterlaw16_TrieGone_b1 R acts_0 acts_0n acts_0c (some ⟨b13, 0, none⟩) I1 ((b13, .cells #[.pointer none, .int .i64 0] 29 (0, 0)) :: S1))
theorem bolterlaw16_TrieGone_fn (R : Value → IMem → SH → Prop) (acts_0 : Option Addr) (acts_0n : Nat) (acts_0c : Nat) (I : IMem) (S : SH) (h : bolterlaw16_TrieGone R acts_0 acts_0n acts_0c I S) :
    Runs Try.prog 13 #[.slice acts_0 acts_0n acts_0c] I S R := by
  refine Runs.of_wp (args := [.slice acts_0 acts_0n acts_0c]) (c := bolterlaw16_TrieGone_code) Try.func13 (by kernel_rfl) (by kernel_rfl) ?_
  refine WP.cut 3 (fun l I S => asSl (l 0) fun acts_0 acts_0n acts_0c => asPtr (l 3) fun t_3 => bolterlaw16_TrieGone_b1 R acts_0 acts_0n acts_0c t_3 I S) (cast (by kernel_rfl) h) ?_
  clear h
  intro l I S _ h
  obtain ⟨acts_0, acts_0n, acts_0c, e0, h⟩ := asSl_e h
  obtain ⟨t_3, e3, h⟩ := asPtr_e h
  rw [upd_eta e0, upd_eta e3]
  refine WP.seqY (by kernel_rfl) (fun l I S => asSl (l 0) fun acts_0 acts_0n acts_0c => asPtr (l 3) fun t_3 => bolterlaw16_TrieGone_b7 R acts_0 acts_0n acts_0c t_3 I S) ?_ ?_
  ·
    refine WP.cut 1 (fun l I S => asSl (l 0) fun acts_0 acts_0n acts_0c => asPtr (l 3) fun t_3 => asSl (l 14) fun x14 x14n x14c => asI .i64 (l 15) fun x15 => asI .i64 (l 16) fun x16 => bolterlaw16_TrieGone_b2 R acts_0 acts_0n acts_0c t_3 x14 x14n x14c x15 x16 I S) (cast (by kernel_rfl) h) ?_
    clear h
    intro l I S _ h
    obtain ⟨acts_0, acts_0n, acts_0c, e0, h⟩ := asSl_e h
    obtain ⟨t_3, e3, h⟩ := asPtr_e h
    obtain ⟨x14, x14n, x14c, e14, h⟩ := asSl_e h
    obtain ⟨x15, e15, h⟩ := asI_e h
    obtain ⟨x16, e16, h⟩ := asI_e h
    rw [upd_eta e0, upd_eta e3, upd_eta e14, upd_eta e15, upd_eta e16]
    refine WP.block' (by kernel_rfl) ?_
    obtain ⟨Inv_again3, m_again3, h0, hr⟩ := h
    refine WP.loop' (by kernel_rfl) (fun m_again3 => fun l I S => asSl (l 0) fun acts_0 acts_0n acts_0c => asPtr (l 3) fun t_3 => asSl (l 14) fun x14 x14n x14c => asI .i64 (l 15) fun x15 => asI .i64 (l 16) fun x16 => Inv_again3 m_again3 acts_0 acts_0n acts_0c t_3 x14 x14n x14c x15 x16 I S) m_again3 (cast (by kernel_rfl) h0) ?_
    clear h0
    intro m_again3 l I S hle h
    obtain ⟨acts_0, acts_0n, acts_0c, e0, h⟩ := asSl_e h
    obtain ⟨t_3, e3, h⟩ := asPtr_e h
    obtain ⟨x14, x14n, x14c, e14, h⟩ := asSl_e h
    obtain ⟨x15, e15, h⟩ := asI_e h
    obtain ⟨x16, e16, h⟩ := asI_e h
    rw [upd_eta e0, upd_eta e3, upd_eta e14, upd_eta e15, upd_eta e16]
    have h := hr m_again3 acts_0 acts_0n acts_0c t_3 x14 x14n x14c x15 x16 I S hle h
    clear hr hle
    refine WP.cut 2 (fun l I S => asSl (l 0) fun acts_0 acts_0n acts_0c => asPtr (l 3) fun t_3 => asSl (l 14) fun x14 x14n x14c => asI .i64 (l 15) fun x15 => asI .i64 (l 16) fun x16 => bolterlaw16_TrieGone_b4 (fun acts_0 acts_0n acts_0c t_3 x14 x14n x14c x15 x16 I S => ∃ m', m' < m_again3 ∧ Inv_again3 m' acts_0 acts_0n acts_0c t_3 x14 x14n x14c x15 x16 I S) R acts_0 acts_0n acts_0c t_3 x14 x14n x14c x15 x16 I S) (cast (by kernel_rfl) h) ?_
    clear h
    intro l I S _ h
    obtain ⟨acts_0, acts_0n, acts_0c, e0, h⟩ := asSl_e h
    obtain ⟨t_3, e3, h⟩ := asPtr_e h
    obtain ⟨x14, x14n, x14c, e14, h⟩ := asSl_e h
    obtain ⟨x15, e15, h⟩ := asI_e h
    obtain ⟨x16, e16, h⟩ := asI_e h
    rw [upd_eta e0, upd_eta e3, upd_eta e14, upd_eta e15, upd_eta e16]
    refine WP.seqY (by kernel_rfl) (fun l I S => asSl (l 0) fun acts_0 acts_0n acts_0c => asPtr (l 3) fun t_3 => asSl (l 14) fun x14 x14n x14c => asI .i64 (l 15) fun x15 => asI .i64 (l 16) fun x16 => bolterlaw16_TrieGone_b6 (fun acts_0 acts_0n acts_0c t_3 x14 x14n x14c x15 x16 I S => ∃ m', m' < m_again3 ∧ Inv_again3 m' acts_0 acts_0n acts_0c t_3 x14 x14n x14c x15 x16 I S) R acts_0 acts_0n acts_0c t_3 x14 x14n x14c x15 x16 I S) ?_ ?_
    ·
      refine WP.block' (by kernel_rfl) ?_
      refine WP.cut 1 (fun l I S => asSl (l 0) fun acts_0 acts_0n acts_0c => asPtr (l 3) fun t_3 => asAdr (l 5) fun a_5 => asSl (l 14) fun x14 x14n x14c => asI .i64 (l 15) fun x15 => asI .i64 (l 16) fun x16 => bolterlaw16_TrieGone_b5 (fun acts_0 acts_0n acts_0c t_3 x14 x14n x14c x15 x16 I S => ∃ m', m' < m_again3 ∧ Inv_again3 m' acts_0 acts_0n acts_0c t_3 x14 x14n x14c x15 x16 I S) R acts_0 acts_0n acts_0c t_3 a_5 x14 x14n x14c x15 x16 I S) (cast (by kernel_rfl) h) ?_
      clear h
      intro l I S _ h
      obtain ⟨acts_0, acts_0n, acts_0c, e0, h⟩ := asSl_e h
      obtain ⟨t_3, e3, h⟩ := asPtr_e h
      obtain ⟨a_5, e5, h⟩ := asAdr_e h
      obtain ⟨x14, x14n, x14c, e14, h⟩ := asSl_e h
      obtain ⟨x15, e15, h⟩ := asI_e h
      obtain ⟨x16, e16, h⟩ := asI_e h
      rw [upd_eta e0, upd_eta e3, upd_eta e5, upd_eta e14, upd_eta e15, upd_eta e16]
      exact WP.draw' (.take 0 (.take 1 (.take 2 (.take 3 (.take 4 (.take 5 (.take 6 (.take 7 (.step 8 .done))))))))) [8] (by kernel_rfl) (by kernel_rfl) (by kernel_rfl) (by kernel_rfl) (by kernel_rfl) (cast (by kernel_rfl) h)
    · clear h
      intro l I S _ h
      obtain ⟨acts_0, acts_0n, acts_0c, e0, h⟩ := asSl_e h
      obtain ⟨t_3, e3, h⟩ := asPtr_e h
      obtain ⟨x14, x14n, x14c, e14, h⟩ := asSl_e h
      obtain ⟨x15, e15, h⟩ := asI_e h
      obtain ⟨x16, e16, h⟩ := asI_e h
      rw [upd_eta e0, upd_eta e3, upd_eta e14, upd_eta e15, upd_eta e16]
      exact Pre.sound _ _ _ _ _ (cast (by kernel_rfl) h)
  · clear h
    intro l I S _ h
    obtain ⟨acts_0, acts_0n, acts_0c, e0, h⟩ := asSl_e h
    obtain ⟨t_3, e3, h⟩ := asPtr_e h
    rw [upd_eta e0, upd_eta e3]
    refine WP.seqY (by kernel_rfl) (fun l I S => asPtr (l 3) fun t_3 => bolterlaw16_TrieGone_b13 R t_3 I S) ?_ ?_
    ·
      refine WP.cut 1 (fun l I S => asPtr (l 3) fun t_3 => asSl (l 30) fun x30 x30n x30c => asI .i64 (l 31) fun x31 => asI .i64 (l 32) fun x32 => bolterlaw16_TrieGone_b8 R t_3 x30 x30n x30c x31 x32 I S) (cast (by kernel_rfl) h) ?_
      clear h
      intro l I S _ h
      obtain ⟨t_3, e3, h⟩ := asPtr_e h
      obtain ⟨x30, x30n, x30c, e30, h⟩ := asSl_e h
      obtain ⟨x31, e31, h⟩ := asI_e h
      obtain ⟨x32, e32, h⟩ := asI_e h
      rw [upd_eta e3, upd_eta e30, upd_eta e31, upd_eta e32]
      refine WP.block' (by kernel_rfl) ?_
      obtain ⟨Inv_again9, m_again9, h0, hr⟩ := h
      refine WP.loop' (by kernel_rfl) (fun m_again9 => fun l I S => asPtr (l 3) fun t_3 => asSl (l 30) fun x30 x30n x30c => asI .i64 (l 31) fun x31 => asI .i64 (l 32) fun x32 => Inv_again9 m_again9 t_3 x30 x30n x30c x31 x32 I S) m_again9 (cast (by kernel_rfl) h0) ?_
      clear h0
      intro m_again9 l I S hle h
      obtain ⟨t_3, e3, h⟩ := asPtr_e h
      obtain ⟨x30, x30n, x30c, e30, h⟩ := asSl_e h
      obtain ⟨x31, e31, h⟩ := asI_e h
      obtain ⟨x32, e32, h⟩ := asI_e h
      rw [upd_eta e3, upd_eta e30, upd_eta e31, upd_eta e32]
      have h := hr m_again9 t_3 x30 x30n x30c x31 x32 I S hle h
      clear hr hle
      refine WP.cut 2 (fun l I S => asPtr (l 3) fun t_3 => asSl (l 30) fun x30 x30n x30c => asI .i64 (l 31) fun x31 => asI .i64 (l 32) fun x32 => bolterlaw16_TrieGone_b10 (fun t_3 x30 x30n x30c x31 x32 I S => ∃ m', m' < m_again9 ∧ Inv_again9 m' t_3 x30 x30n x30c x31 x32 I S) R t_3 x30 x30n x30c x31 x32 I S) (cast (by kernel_rfl) h) ?_
      clear h
      intro l I S _ h
      obtain ⟨t_3, e3, h⟩ := asPtr_e h
      obtain ⟨x30, x30n, x30c, e30, h⟩ := asSl_e h
      obtain ⟨x31, e31, h⟩ := asI_e h
      obtain ⟨x32, e32, h⟩ := asI_e h
      rw [upd_eta e3, upd_eta e30, upd_eta e31, upd_eta e32]
      refine WP.seqY (by kernel_rfl) (fun l I S => asPtr (l 3) fun t_3 => asSl (l 30) fun x30 x30n x30c => asI .i64 (l 31) fun x31 => asI .i64 (l 32) fun x32 => bolterlaw16_TrieGone_b12 (fun t_3 x30 x30n x30c x31 x32 I S => ∃ m', m' < m_again9 ∧ Inv_again9 m' t_3 x30 x30n x30c x31 x32 I S) R t_3 x30 x30n x30c x31 x32 I S) ?_ ?_
      ·
        refine WP.block' (by kernel_rfl) ?_
        refine WP.cut 4 (fun l I S => asPtr (l 3) fun t_3 => asSl (l 30) fun x30 x30n x30c => asI .i64 (l 31) fun x31 => asI .i64 (l 32) fun x32 => asB (l 61) fun x61 => bolterlaw16_TrieGone_b11 (fun t_3 x30 x30n x30c x31 x32 I S => ∃ m', m' < m_again9 ∧ Inv_again9 m' t_3 x30 x30n x30c x31 x32 I S) R t_3 x30 x30n x30c x31 x32 x61 I S) (cast (by kernel_rfl) h) ?_
        clear h
        intro l I S _ h
        obtain ⟨t_3, e3, h⟩ := asPtr_e h
        obtain ⟨x30, x30n, x30c, e30, h⟩ := asSl_e h
        obtain ⟨x31, e31, h⟩ := asI_e h
        obtain ⟨x32, e32, h⟩ := asI_e h
        obtain ⟨x61, e61, h⟩ := asB_e h
        rw [upd_eta e3, upd_eta e30, upd_eta e31, upd_eta e32, upd_eta e61]
        exact Pre.sound _ _ _ _ _ (cast (by kernel_rfl) h)
      · clear h
        intro l I S _ h
        obtain ⟨t_3, e3, h⟩ := asPtr_e h
        obtain ⟨x30, x30n, x30c, e30, h⟩ := asSl_e h
        obtain ⟨x31, e31, h⟩ := asI_e h
        obtain ⟨x32, e32, h⟩ := asI_e h
        rw [upd_eta e3, upd_eta e30, upd_eta e31, upd_eta e32]
        exact Pre.sound _ _ _ _ _ (cast (by kernel_rfl) h)
    · clear h
      intro l I S _ h
      obtain ⟨t_3, e3, h⟩ := asPtr_e h
      rw [upd_eta e3]
      refine WP.cut 1 (fun l I S => asB (l 2) fun x2 => bolterlaw16_TrieGone_b14 R x2 I S) (cast (by kernel_rfl) h) ?_
      clear h
      intro l I S _ h
      obtain ⟨x2, e2, h⟩ := asB_e h
      rw [upd_eta e2]
      exact Pre.sound _ _ _ _ _ (cast (by kernel_rfl) h)
/-! ### bolterlaw16_awake: function 16, bolter/bolterlaw16.awake -/
noncomputable def bolterlaw16_awake_code : Code := (Try.f16.body).getD .skip
def bolterlaw16_awake_b1 (R : Value → IMem → SH → Prop) (x0 : Bool) (I : IMem) (S : SH) : Prop :=
  R (.bool x0) I S
def bolterlaw16_awake (R : Value → IMem → SH → Prop) (I : IMem) (S : SH) : Prop :=
  ∀ b9 : Nat,
  Runs Try.prog 17 #[.pointer (some ⟨b9, 0, none⟩), .string ⟨#[49]⟩, .int .i64 5] I ((b9, .cells #[.pointer none, .int .i64 0] 29 (0, 0)) :: S) fun v I1 S1 => ∃ x11, v = .bool x11 ∧
  Runs Try.prog 17 #[.pointer (some ⟨b9, 0, none⟩), .string ⟨#[49, 48, 49]⟩, .int .i64 6] I1 S1 fun v' I1' S1' => ∃ x13, v' = .bool x13 ∧
  Runs Try.prog 18 #[.pointer (some ⟨b9, 0, none⟩), .string ⟨#[49, 48, 49, 49]⟩] I1' S1' fun v'' I1'' S1'' => ∃ x16_0 x16_1 x16_2, v'' = .tuple #[.int .i64 x16_0, .int .i64 x16_1, .bool x16_2] ∧
  Runs Try.prog 18 #[.pointer (some ⟨b9, 0, none⟩), .string ⟨#[49, 49]⟩] I1'' S1'' fun v_r3 I1_r3 S1_r3 => ∃ x22_0 x22_1 x22_2, v_r3 = .tuple #[.int .i64 x22_0, .int .i64 x22_1, .bool x22_2] ∧
  bcase (x16_0 == (6 : Int))
    (bcase (x16_1 == (3 : Int))
      (bcase x16_2
        (bcase (x22_0 == (5 : Int))
          (bcase (x22_1 == (1 : Int))
            (bcase x22_2
              (Runs Try.prog 19 #[.pointer (some ⟨b9, 0, none⟩)] I1_r3 S1_r3 fun v_r4 I1_r4 S1_r4 => ∃ x48, v_r4 = .int .i64 x48 ∧
              bolterlaw16_awake_b1 R (x48 == (2 : Int)) I1_r4 S1_r4)
              (bolterlaw16_awake_b1 R false I1_r3 S1_r3))
            (bolterlaw16_awake_b1 R false I1_r3 S1_r3))
          (bolterlaw16_awake_b1 R false I1_r3 S1_r3))
        (bolterlaw16_awake_b1 R false I1_r3 S1_r3))
      (bolterlaw16_awake_b1 R false I1_r3 S1_r3))
    (bolterlaw16_awake_b1 R false I1_r3 S1_r3)
theorem bolterlaw16_awake_fn (R : Value → IMem → SH → Prop) (I : IMem) (S : SH) (h : bolterlaw16_awake R I S) :
    Runs Try.prog 16 #[] I S R := by
  refine Runs.of_wp (args := []) (c := bolterlaw16_awake_code) Try.func16 (by kernel_rfl) (by kernel_rfl) ?_
  refine WP.cut 7 (fun l I S => asB (l 0) fun x0 => bolterlaw16_awake_b1 R x0 I S) (cast (by kernel_rfl) h) ?_
  clear h
  intro l I S _ h
  obtain ⟨x0, e0, h⟩ := asB_e h
  rw [upd_eta e0]
  exact Pre.sound _ _ _ _ _ (cast (by kernel_rfl) h)
/-! ### trie_Trie_Put: function 17, (*bolter/trie.Trie).Put -/
noncomputable def trie_Trie_Put_code : Code := (Try.f17.body).getD .skip
def trie_Trie_Put_b6 (again2 : Option Addr → ByteArray → Int → Option Addr → IMem → SH → Prop) (R : Value → IMem → SH → Prop) (t_0 : Option Addr) (key_1 : ByteArray) (value_2 : Int) (at_7 : Option Addr) (n_8 : Option Addr) (k_9 : Int) (part_10 : Option Addr) (I : IMem) (S : SH) : Prop :=
  ptrP n_8 fun x71 =>
  ∃ x73, Cell I S x71 (.string x73) ∧
  (0 : Int) ≤ k_9 ∧ k_9 ≤ ((x73.size : Nat) : Int) ∧
  ptrP n_8 fun x76 =>
  StP S x76 [.string (x73.extract k_9.toNat x73.size)] fun S1 =>
  ptrP at_7 fun x80 =>
  StP S1 x80 [.pointer part_10] fun S1' =>
  again2 t_0 key_1 value_2 at_7 I S1'
def trie_Trie_Put_b5 (again2 : Option Addr → ByteArray → Int → Option Addr → IMem → SH → Prop) (R : Value → IMem → SH → Prop) (t_0 : Option Addr) (key_1 : ByteArray) (value_2 : Int) (at_7 : Option Addr) (n_8 : Option Addr) (k_9 : Int) (part_10 : Option Addr) (I : IMem) (S : SH) : Prop :=
  ptrP n_8 fun x59 =>
  ∃ x61, Cell I S x59 (.string x61) ∧
  ∃ cx63 : UInt8, (0 : Int) ≤ k_9 ∧ x61[k_9.toNat]? = some cx63 ∧
  ptrP part_10 fun x66 =>
  (0 : Int) ≤ (IntKind.wrap .u8 ((cx63.toNat : Int) - (48 : Int))) ∧ (IntKind.wrap .u8 ((cx63.toNat : Int) - (48 : Int))) < ((2 : Nat) : Int) ∧
  StP S ((x66.add 3).add ((IntKind.wrap .u8 ((cx63.toNat : Int) - (48 : Int))).toNat * 1)) [.pointer n_8] fun S1 =>
  trie_Trie_Put_b6 again2 R t_0 key_1 value_2 at_7 n_8 k_9 part_10 I S1
def trie_Trie_Put_b9 (again2 : Option Addr → ByteArray → Int → Option Addr → IMem → SH → Prop) (R : Value → IMem → SH → Prop) (value_2 : Int) (n_8 : Option Addr) (is_11 : Bool) (I : IMem) (S : SH) : Prop :=
  ptrP n_8 fun x101 =>
  StP S (x101.add 1) [.bool true] fun S1 =>
  ptrP n_8 fun x103 =>
  StP S1 (x103.add 2) [.int .i64 value_2] fun S1' =>
  R (.bool is_11) I S1'
def trie_Trie_Put_b10 (again2 : Option Addr → ByteArray → Int → Option Addr → IMem → SH → Prop) (R : Value → IMem → SH → Prop) (t_0 : Option Addr) (key_1 : ByteArray) (value_2 : Int) (n_8 : Option Addr) (k_9 : Int) (I : IMem) (S : SH) : Prop :=
  ∃ cx109 : UInt8, (0 : Int) ≤ k_9 ∧ key_1[k_9.toNat]? = some cx109 ∧
  ptrP n_8 fun x111 =>
  (0 : Int) ≤ (IntKind.wrap .u8 ((cx109.toNat : Int) - (48 : Int))) ∧ (IntKind.wrap .u8 ((cx109.toNat : Int) - (48 : Int))) < ((2 : Nat) : Int) ∧
  (0 : Int) ≤ k_9 ∧ k_9 ≤ ((key_1.size : Nat) : Int) ∧
  again2 t_0 (key_1.extract k_9.toNat key_1.size) value_2 (some ((x111.add 3).add ((IntKind.wrap .u8 ((cx109.toNat : Int) - (48 : Int))).toNat * 1))) I S
def trie_Trie_Put_b8 (again2 : Option Addr → ByteArray → Int → Option Addr → IMem → SH → Prop) (R : Value → IMem → SH → Prop) (t_0 : Option Addr) (key_1 : ByteArray) (value_2 : Int) (n_8 : Option Addr) (k_9 : Int) (x84 : Bool) (I : IMem) (S : SH) : Prop :=
  bcase x84
    (ptrP n_8 fun x86 =>
    ∃ x88, Cell I S (x86.add 1) (.bool x88) ∧
    bcase (!x88)
      (ptrP t_0 fun x92 =>
      ∃ x94, Cell I S (x92.add 1) (.int .i64 x94) ∧
      ptrP t_0 fun x96 =>
      StP S (x96.add 1) [.int .i64 (IntKind.wrap .i64 (x94 + (1 : Int)))] fun S1 =>
      trie_Trie_Put_b9 again2 R value_2 n_8 (!x88) I S1)
      (trie_Trie_Put_b9 again2 R value_2 n_8 (!x88) I S))
    (trie_Trie_Put_b10 again2 R t_0 key_1 value_2 n_8 k_9 I S)
def trie_Trie_Put_b7 (again2 : Option Addr → ByteArray → Int → Option Addr → IMem → SH → Prop) (R : Value → IMem → SH → Prop) (t_0 : Option Addr) (key_1 : ByteArray) (value_2 : Int) (n_8 : Option Addr) (k_9 : Int) (I : IMem) (S : SH) : Prop :=
  trie_Trie_Put_b8 again2 R t_0 key_1 value_2 n_8 k_9 (k_9 == (key_1.size : Int)) I S
def trie_Trie_Put_b4 (again2 : Option Addr → ByteArray → Int → Option Addr → IMem → SH → Prop) (R : Value → IMem → SH → Prop) (t_0 : Option Addr) (key_1 : ByteArray) (value_2 : Int) (at_7 : Option Addr) (n_8 : Option Addr) (k_9 : Int) (x48 : Bool) (I : IMem) (S : SH) : Prop :=
  bcase x48
    (ptrP n_8 fun x50 =>
    ∃ x52, Cell I S x50 (.string x52) ∧
    (0 : Int) ≤ k_9 ∧ k_9 ≤ ((x52.size : Nat) : Int) ∧
    ∀ b56 : Nat,
    trie_Trie_Put_b5 again2 R t_0 key_1 value_2 at_7 n_8 k_9 (some ⟨b56, 0, none⟩) I ((b56, .cells #[.string (x52.extract 0 k_9.toNat), .bool false, .int .i64 0, .pointer none, .pointer none] 67 (0, 0)) :: S))
    (trie_Trie_Put_b7 again2 R t_0 key_1 value_2 n_8 k_9 I S)
def trie_Trie_Put_b3 (again2 : Option Addr → ByteArray → Int → Option Addr → IMem → SH → Prop) (R : Value → IMem → SH → Prop) (t_0 : Option Addr) (key_1 : ByteArray) (value_2 : Int) (at_7 : Option Addr) (n_8 : Option Addr) (k_9 : Int) (I : IMem) (S : SH) : Prop :=
  ptrP n_8 fun x44 =>
  ∃ x46, Cell I S x44 (.string x46) ∧
  trie_Trie_Put_b4 again2 R t_0 key_1 value_2 at_7 n_8 k_9 (decide (k_9 < (x46.size : Int))) I S
def trie_Trie_Put_l2 (again2 : Option Addr → ByteArray → Int → Option Addr → IMem → SH → Prop) (R : Value → IMem → SH → Prop) (t_0 : Option Addr) (key_1 : ByteArray) (value_2 : Int) (at_7 : Option Addr) (I : IMem) (S : SH) : Prop :=
  ptrP at_7 fun x19 =>
  ∃ x20, Cell I S x19 (.pointer x20) ∧
  bcase ((x20 : Option Addr).isNone)
    (∀ b27 : Nat,
    ptrP at_7 fun x28 =>
    StP ((b27, .cells #[.string key_1, .bool true, .int .i64 value_2, .pointer none, .pointer none] 67 (0, 0)) :: S) x28 [.pointer (some ⟨b27, 0, none⟩)] fun S1 =>
    ptrP t_0 fun x30 =>
    ∃ x32, Cell I S1 (x30.add 1) (.int .i64 x32) ∧
    ptrP t_0 fun x34 =>
    StP S1 (x34.add 1) [.int .i64 (IntKind.wrap .i64 (x32 + (1 : Int)))] fun S1' =>
    R (.bool true) I S1')
    (ptrP x20 fun x37 =>
    ∃ x39, Cell I S x37 (.string x39) ∧
    Runs Try.prog 33 #[.string x39, .string key_1] I S fun v I1 S1'' => ∃ x41, v = .int .i64 x41 ∧
    trie_Trie_Put_b3 again2 R t_0 key_1 value_2 at_7 x20 x41 I1 S1'')
def trie_Trie_Put_b1 (R : Value → IMem → SH → Prop) (t_0 : Option Addr) (key_1 : ByteArray) (value_2 : Int) (at_7 : Option Addr) (I : IMem) (S : SH) : Prop :=
  ∃ (Inv : Nat → Option Addr → ByteArray → Int → Option Addr → IMem → SH → Prop) (m : Nat), Inv m t_0 key_1 value_2 at_7 I S ∧
    ∀ (m : Nat) (t_0 : Option Addr) (key_1 : ByteArray) (value_2 : Int) (at_7 : Option Addr) (J : IMem) (T : SH), I.le J → Inv m t_0 key_1 value_2 at_7 J T →
      trie_Trie_Put_l2 (fun t_0 key_1 value_2 at_7 I S => ∃ m', m' < m ∧ Inv m' t_0 key_1 value_2 at_7 I S) R t_0 key_1 value_2 at_7 J T
def trie_Trie_Put (R : Value → IMem → SH → Prop) (t_0 : Option Addr) (key_1 : ByteArray) (value_2 : Int) (I : IMem) (S : SH) : Prop :=
  Runs Try.prog 32 #[.string key_1] I S fun v I1 S1 => ∃ x13, v = .bool x13 ∧
  bcase (!x13)
    (R (.bool false) I1 S1)
    (ptrP t_0 fun x16 =>
    trie_Trie_Put_b1 R t_0 key_1 value_2 (some x16) I1 S1)
theorem trie_Trie_Put_fn (R : Value → IMem → SH → Prop) (t_0 : Option Addr) (key_1 : ByteArray) (value_2 : Int) (I : IMem) (S : SH) (h : trie_Trie_Put R t_0 key_1 value_2 I S) :
    Runs Try.prog 17 #[.pointer t_0, .string key_1, .int .i64 value_2] I S R := by
  refine Runs.of_wp (args := [.pointer t_0, .string key_1, .int .i64 value_2]) (c := trie_Trie_Put_code) Try.func17 (by kernel_rfl) (by kernel_rfl) ?_
  refine WP.cut 3 (fun l I S => asPtr (l 0) fun t_0 => asStr (l 1) fun key_1 => asI .i64 (l 2) fun value_2 => asPtr (l 7) fun at_7 => trie_Trie_Put_b1 R t_0 key_1 value_2 at_7 I S) (cast (by kernel_rfl) h) ?_
  clear h
  intro l I S _ h
  obtain ⟨t_0, e0, h⟩ := asPtr_e h
  obtain ⟨key_1, e1, h⟩ := asStr_e h
  obtain ⟨value_2, e2, h⟩ := asI_e h
  obtain ⟨at_7, e7, h⟩ := asPtr_e h
  rw [upd_eta e0, upd_eta e1, upd_eta e2, upd_eta e7]
  refine WP.block' (by kernel_rfl) ?_
  obtain ⟨Inv_again2, m_again2, h0, hr⟩ := h
  refine WP.loop' (by kernel_rfl) (fun m_again2 => fun l I S => asPtr (l 0) fun t_0 => asStr (l 1) fun key_1 => asI .i64 (l 2) fun value_2 => asPtr (l 7) fun at_7 => Inv_again2 m_again2 t_0 key_1 value_2 at_7 I S) m_again2 (cast (by kernel_rfl) h0) ?_
  clear h0
  intro m_again2 l I S hle h
  obtain ⟨t_0, e0, h⟩ := asPtr_e h
  obtain ⟨key_1, e1, h⟩ := asStr_e h
  obtain ⟨value_2, e2, h⟩ := asI_e h
  obtain ⟨at_7, e7, h⟩ := asPtr_e h
  rw [upd_eta e0, upd_eta e1, upd_eta e2, upd_eta e7]
  have h := hr m_again2 t_0 key_1 value_2 at_7 I S hle h
  clear hr hle
  refine WP.block' (by kernel_rfl) ?_
  refine WP.cut 3 (fun l I S => asPtr (l 0) fun t_0 => asStr (l 1) fun key_1 => asI .i64 (l 2) fun value_2 => asPtr (l 7) fun at_7 => asPtr (l 8) fun n_8 => asI .i64 (l 9) fun k_9 => trie_Trie_Put_b3 (fun t_0 key_1 value_2 at_7 I S => ∃ m', m' < m_again2 ∧ Inv_again2 m' t_0 key_1 value_2 at_7 I S) R t_0 key_1 value_2 at_7 n_8 k_9 I S) (cast (by kernel_rfl) h) ?_
  clear h
  intro l I S _ h
  obtain ⟨t_0, e0, h⟩ := asPtr_e h
  obtain ⟨key_1, e1, h⟩ := asStr_e h
  obtain ⟨value_2, e2, h⟩ := asI_e h
  obtain ⟨at_7, e7, h⟩ := asPtr_e h
  obtain ⟨n_8, e8, h⟩ := asPtr_e h
  obtain ⟨k_9, e9, h⟩ := asI_e h
  rw [upd_eta e0, upd_eta e1, upd_eta e2, upd_eta e7, upd_eta e8, upd_eta e9]
  refine WP.seqY (by kernel_rfl) (fun l I S => asPtr (l 0) fun t_0 => asStr (l 1) fun key_1 => asI .i64 (l 2) fun value_2 => asPtr (l 8) fun n_8 => asI .i64 (l 9) fun k_9 => trie_Trie_Put_b7 (fun t_0 key_1 value_2 at_7 I S => ∃ m', m' < m_again2 ∧ Inv_again2 m' t_0 key_1 value_2 at_7 I S) R t_0 key_1 value_2 n_8 k_9 I S) ?_ ?_
  ·
    refine WP.cut 1 (fun l I S => asPtr (l 0) fun t_0 => asStr (l 1) fun key_1 => asI .i64 (l 2) fun value_2 => asPtr (l 7) fun at_7 => asPtr (l 8) fun n_8 => asI .i64 (l 9) fun k_9 => asB (l 48) fun x48 => trie_Trie_Put_b4 (fun t_0 key_1 value_2 at_7 I S => ∃ m', m' < m_again2 ∧ Inv_again2 m' t_0 key_1 value_2 at_7 I S) R t_0 key_1 value_2 at_7 n_8 k_9 x48 I S) (cast (by kernel_rfl) h) ?_
    clear h
    intro l I S _ h
    obtain ⟨t_0, e0, h⟩ := asPtr_e h
    obtain ⟨key_1, e1, h⟩ := asStr_e h
    obtain ⟨value_2, e2, h⟩ := asI_e h
    obtain ⟨at_7, e7, h⟩ := asPtr_e h
    obtain ⟨n_8, e8, h⟩ := asPtr_e h
    obtain ⟨k_9, e9, h⟩ := asI_e h
    obtain ⟨x48, e48, h⟩ := asB_e h
    rw [upd_eta e0, upd_eta e1, upd_eta e2, upd_eta e7, upd_eta e8, upd_eta e9, upd_eta e48]
    refine WP.cond' (by kernel_rfl) (by kernel_rfl) h ?_ ?_
    · clear h
      intro h
      refine WP.cut 1 (fun l I S => asPtr (l 0) fun t_0 => asStr (l 1) fun key_1 => asI .i64 (l 2) fun value_2 => asPtr (l 7) fun at_7 => asPtr (l 8) fun n_8 => asI .i64 (l 9) fun k_9 => asPtr (l 10) fun part_10 => trie_Trie_Put_b5 (fun t_0 key_1 value_2 at_7 I S => ∃ m', m' < m_again2 ∧ Inv_again2 m' t_0 key_1 value_2 at_7 I S) R t_0 key_1 value_2 at_7 n_8 k_9 part_10 I S) (cast (by kernel_rfl) h) ?_
      clear h
      intro l I S _ h
      obtain ⟨t_0, e0, h⟩ := asPtr_e h
      obtain ⟨key_1, e1, h⟩ := asStr_e h
      obtain ⟨value_2, e2, h⟩ := asI_e h
      obtain ⟨at_7, e7, h⟩ := asPtr_e h
      obtain ⟨n_8, e8, h⟩ := asPtr_e h
      obtain ⟨k_9, e9, h⟩ := asI_e h
      obtain ⟨part_10, e10, h⟩ := asPtr_e h
      rw [upd_eta e0, upd_eta e1, upd_eta e2, upd_eta e7, upd_eta e8, upd_eta e9, upd_eta e10]
      refine WP.seqY (by kernel_rfl) (fun l I S => asPtr (l 0) fun t_0 => asStr (l 1) fun key_1 => asI .i64 (l 2) fun value_2 => asPtr (l 7) fun at_7 => asPtr (l 8) fun n_8 => asI .i64 (l 9) fun k_9 => asPtr (l 10) fun part_10 => trie_Trie_Put_b6 (fun t_0 key_1 value_2 at_7 I S => ∃ m', m' < m_again2 ∧ Inv_again2 m' t_0 key_1 value_2 at_7 I S) R t_0 key_1 value_2 at_7 n_8 k_9 part_10 I S) ?_ ?_
      ·
        exact WP.draw' (.take 0 (.take 1 (.take 2 (.take 3 (.take 4 (.take 5 (.take 6 (.take 7 (.take 8 (.take 9 (.take 10 (.take 11 (.step 12 .done))))))))))))) [12] (by kernel_rfl) (by kernel_rfl) (by kernel_rfl) (by kernel_rfl) (by kernel_rfl) (cast (by kernel_rfl) h)
      · clear h
        intro l I S _ h
        obtain ⟨t_0, e0, h⟩ := asPtr_e h
        obtain ⟨key_1, e1, h⟩ := asStr_e h
        obtain ⟨value_2, e2, h⟩ := asI_e h
        obtain ⟨at_7, e7, h⟩ := asPtr_e h
        obtain ⟨n_8, e8, h⟩ := asPtr_e h
        obtain ⟨k_9, e9, h⟩ := asI_e h
        obtain ⟨part_10, e10, h⟩ := asPtr_e h
        rw [upd_eta e0, upd_eta e1, upd_eta e2, upd_eta e7, upd_eta e8, upd_eta e9, upd_eta e10]
        exact Pre.sound _ _ _ _ _ (cast (by kernel_rfl) h)
    · clear h
      intro h
      exact Pre.sound _ _ _ _ _ (cast (by kernel_rfl) h)
  · clear h
    intro l I S _ h
    obtain ⟨t_0, e0, h⟩ := asPtr_e h
    obtain ⟨key_1, e1, h⟩ := asStr_e h
    obtain ⟨value_2, e2, h⟩ := asI_e h
    obtain ⟨n_8, e8, h⟩ := asPtr_e h
    obtain ⟨k_9, e9, h⟩ := asI_e h
    rw [upd_eta e0, upd_eta e1, upd_eta e2, upd_eta e8, upd_eta e9]
    refine WP.seqY (by kernel_rfl) (fun l I S => asPtr (l 0) fun t_0 => asStr (l 1) fun key_1 => asI .i64 (l 2) fun value_2 => asPtr (l 8) fun n_8 => asI .i64 (l 9) fun k_9 => trie_Trie_Put_b10 (fun t_0 key_1 value_2 at_7 I S => ∃ m', m' < m_again2 ∧ Inv_again2 m' t_0 key_1 value_2 at_7 I S) R t_0 key_1 value_2 n_8 k_9 I S) ?_ ?_
    ·
      refine WP.cut 1 (fun l I S => asPtr (l 0) fun t_0 => asStr (l 1) fun key_1 => asI .i64 (l 2) fun value_2 => asPtr (l 8) fun n_8 => asI .i64 (l 9) fun k_9 => asB (l 84) fun x84 => trie_Trie_Put_b8 (fun t_0 key_1 value_2 at_7 I S => ∃ m', m' < m_again2 ∧ Inv_again2 m' t_0 key_1 value_2 at_7 I S) R t_0 key_1 value_2 n_8 k_9 x84 I S) (cast (by kernel_rfl) h) ?_
      clear h
      intro l I S _ h
      obtain ⟨t_0, e0, h⟩ := asPtr_e h
      obtain ⟨key_1, e1, h⟩ := asStr_e h
      obtain ⟨value_2, e2, h⟩ := asI_e h
      obtain ⟨n_8, e8, h⟩ := asPtr_e h
      obtain ⟨k_9, e9, h⟩ := asI_e h
      obtain ⟨x84, e84, h⟩ := asB_e h
      rw [upd_eta e0, upd_eta e1, upd_eta e2, upd_eta e8, upd_eta e9, upd_eta e84]
      refine WP.cond' (by kernel_rfl) (by kernel_rfl) h ?_ ?_
      · clear h
        intro h
        refine WP.cut 2 (fun l I S => asI .i64 (l 2) fun value_2 => asPtr (l 8) fun n_8 => asB (l 11) fun is_11 => trie_Trie_Put_b9 (fun t_0 key_1 value_2 at_7 I S => ∃ m', m' < m_again2 ∧ Inv_again2 m' t_0 key_1 value_2 at_7 I S) R value_2 n_8 is_11 I S) (cast (by kernel_rfl) h) ?_
        clear h
        intro l I S _ h
        obtain ⟨value_2, e2, h⟩ := asI_e h
        obtain ⟨n_8, e8, h⟩ := asPtr_e h
        obtain ⟨is_11, e11, h⟩ := asB_e h
        rw [upd_eta e2, upd_eta e8, upd_eta e11]
        exact Pre.sound _ _ _ _ _ (cast (by kernel_rfl) h)
      · clear h
        intro h
        exact Pre.sound _ _ _ _ _ (cast (by kernel_rfl) h)
    · clear h
      intro l I S _ h
      obtain ⟨t_0, e0, h⟩ := asPtr_e h
      obtain ⟨key_1, e1, h⟩ := asStr_e h
      obtain ⟨value_2, e2, h⟩ := asI_e h
      obtain ⟨n_8, e8, h⟩ := asPtr_e h
      obtain ⟨k_9, e9, h⟩ := asI_e h
      rw [upd_eta e0, upd_eta e1, upd_eta e2, upd_eta e8, upd_eta e9]
      exact WP.quiet' (by kernel_rfl) (by kernel_rfl) (by kernel_rfl) (cast (by kernel_rfl) h)
/-! ### trie_Trie_Longest: function 18, (*bolter/trie.Trie).Longest -/
noncomputable def trie_Trie_Longest_code : Code := (Try.f18.body).getD .skip
def trie_Trie_Longest_b6 (R : Value → IMem → SH → Prop) (value_7 : Int) (length_8 : Int) (is_9 : Bool) (I : IMem) (S : SH) : Prop :=
  R (.tuple #[.int .i64 value_7, .int .i64 length_8, .bool is_9]) I S
def trie_Trie_Longest_b10 (again3 : ByteArray → Int → Int → Bool → Int → Option Addr → IMem → SH → Prop) (R : Value → IMem → SH → Prop) (key_1 : ByteArray) (value_7 : Int) (length_8 : Int) (is_9 : Bool) (deep_10 : Int) (n_11 : Option Addr) (I : IMem) (S : SH) : Prop :=
  ∃ cx61 : UInt8, (0 : Int) ≤ (0 : Int) ∧ key_1[(0 : Int).toNat]? = some cx61 ∧
  ptrP n_11 fun x63 =>
  (0 : Int) ≤ (IntKind.wrap .u8 ((cx61.toNat : Int) - (48 : Int))) ∧ (IntKind.wrap .u8 ((cx61.toNat : Int) - (48 : Int))) < ((2 : Nat) : Int) ∧
  ∃ x66, Cell I S ((x63.add 3).add ((IntKind.wrap .u8 ((cx61.toNat : Int) - (48 : Int))).toNat * 1)) (.pointer x66) ∧
  again3 key_1 value_7 length_8 is_9 deep_10 x66 I S
def trie_Trie_Longest_b9 (again3 : ByteArray → Int → Int → Bool → Int → Option Addr → IMem → SH → Prop) (R : Value → IMem → SH → Prop) (key_1 : ByteArray) (value_7 : Int) (length_8 : Int) (is_9 : Bool) (deep_10 : Int) (n_11 : Option Addr) (I : IMem) (S : SH) : Prop :=
  bcase ((key_1.size : Int) == (0 : Int))
    (trie_Trie_Longest_b6 R value_7 length_8 is_9 I S)
    (trie_Trie_Longest_b10 again3 R key_1 value_7 length_8 is_9 deep_10 n_11 I S)
def trie_Trie_Longest_b8 (again3 : ByteArray → Int → Int → Bool → Int → Option Addr → IMem → SH → Prop) (R : Value → IMem → SH → Prop) (key_1 : ByteArray) (value_7 : Int) (length_8 : Int) (is_9 : Bool) (deep_10 : Int) (n_11 : Option Addr) (I : IMem) (S : SH) : Prop :=
  ptrP n_11 fun x48 =>
  ∃ x50, Cell I S (x48.add 1) (.bool x50) ∧
  bcase x50
    (ptrP n_11 fun x52 =>
    ∃ x54, Cell I S (x52.add 2) (.int .i64 x54) ∧
    trie_Trie_Longest_b9 again3 R key_1 x54 deep_10 true deep_10 n_11 I S)
    (trie_Trie_Longest_b9 again3 R key_1 value_7 length_8 is_9 deep_10 n_11 I S)
def trie_Trie_Longest_b7 (again3 : ByteArray → Int → Int → Bool → Int → Option Addr → IMem → SH → Prop) (R : Value → IMem → SH → Prop) (key_1 : ByteArray) (value_7 : Int) (length_8 : Int) (is_9 : Bool) (deep_10 : Int) (n_11 : Option Addr) (I : IMem) (S : SH) : Prop :=
  ptrP n_11 fun x35 =>
  ∃ x37, Cell I S x35 (.string x37) ∧
  ptrP n_11 fun x42 =>
  ∃ x44, Cell I S x42 (.string x44) ∧
  (0 : Int) ≤ (x44.size : Int) ∧ (x44.size : Int) ≤ ((key_1.size : Nat) : Int) ∧
  trie_Trie_Longest_b8 again3 R (key_1.extract ((x44.size : Int).toNat) key_1.size) value_7 length_8 is_9 (IntKind.wrap .i64 (deep_10 + (x37.size : Int))) n_11 I S
def trie_Trie_Longest_b5 (again3 : ByteArray → Int → Int → Bool → Int → Option Addr → IMem → SH → Prop) (R : Value → IMem → SH → Prop) (key_1 : ByteArray) (value_7 : Int) (length_8 : Int) (is_9 : Bool) (deep_10 : Int) (n_11 : Option Addr) (x32 : Bool) (I : IMem) (S : SH) : Prop :=
  bcase x32
    (trie_Trie_Longest_b6 R value_7 length_8 is_9 I S)
    (trie_Trie_Longest_b7 again3 R key_1 value_7 length_8 is_9 deep_10 n_11 I S)
def trie_Trie_Longest_b4 (again3 : ByteArray → Int → Int → Bool → Int → Option Addr → IMem → SH → Prop) (R : Value → IMem → SH → Prop) (key_1 : ByteArray) (value_7 : Int) (length_8 : Int) (is_9 : Bool) (deep_10 : Int) (n_11 : Option Addr) (I : IMem) (S : SH) : Prop :=
  ptrP n_11 fun x22 =>
  ∃ x24, Cell I S x22 (.string x24) ∧
  ∃ x26, Runs Try.prog 33 #[.string x24, .string key_1] I S (fun v' _ T => v' = .int .i64 x26 ∧ T = S) ∧
  ptrP n_11 fun x28 =>
  ∃ x30, Cell I S x28 (.string x30) ∧
  trie_Trie_Longest_b5 again3 R key_1 value_7 length_8 is_9 deep_10 n_11 (decide (x26 < (x30.size : Int))) I S
def trie_Trie_Longest_l3 (again3 : ByteArray → Int → Int → Bool → Int → Option Addr → IMem → SH → Prop) (R : Value → IMem → SH → Prop) (key_1 : ByteArray) (value_7 : Int) (length_8 : Int) (is_9 : Bool) (deep_10 : Int) (n_11 : Option Addr) (I : IMem) (S : SH) : Prop :=
  bcase (!(n_11 : Option Addr).isNone)
    (trie_Trie_Longest_b4 again3 R key_1 value_7 length_8 is_9 deep_10 n_11 I S)
    (trie_Trie_Longest_b6 R value_7 length_8 is_9 I S)
def trie_Trie_Longest_b2 (R : Value → IMem → SH → Prop) (key_1 : ByteArray) (value_7 : Int) (length_8 : Int) (is_9 : Bool) (deep_10 : Int) (n_11 : Option Addr) (I : IMem) (S : SH) : Prop :=
  ∃ (Inv : Nat → ByteArray → Int → Int → Bool → Int → Option Addr → IMem → SH → Prop) (m : Nat), Inv m key_1 value_7 length_8 is_9 deep_10 n_11 I S ∧
    ∀ (m : Nat) (key_1 : ByteArray) (value_7 : Int) (length_8 : Int) (is_9 : Bool) (deep_10 : Int) (n_11 : Option Addr) (J : IMem) (T : SH), I.le J → Inv m key_1 value_7 length_8 is_9 deep_10 n_11 J T →
      trie_Trie_Longest_l3 (fun key_1 value_7 length_8 is_9 deep_10 n_11 I S => ∃ m', m' < m ∧ Inv m' key_1 value_7 length_8 is_9 deep_10 n_11 I S) R key_1 value_7 length_8 is_9 deep_10 n_11 J T
def trie_Trie_Longest_b1 (R : Value → IMem → SH → Prop) (t_0 : Option Addr) (key_1 : ByteArray) (value_7 : Int) (length_8 : Int) (is_9 : Bool) (deep_10 : Int) (I : IMem) (S : SH) : Prop :=
  ptrP t_0 fun x16 =>
  ∃ x18, Cell I S x16 (.pointer x18) ∧
  trie_Trie_Longest_b2 R key_1 value_7 length_8 is_9 deep_10 x18 I S
def trie_Trie_Longest (R : Value → IMem → SH → Prop) (t_0 : Option Addr) (key_1 : ByteArray) (I : IMem) (S : SH) : Prop :=
  Runs Try.prog 32 #[.string key_1] I S fun v I1 S1 => ∃ x13, v = .bool x13 ∧
  bcase (!x13)
    (R (.tuple #[.int .i64 0, .int .i64 0, .bool false]) I1 S1)
    (trie_Trie_Longest_b1 R t_0 key_1 0 0 false 0 I1 S1)
theorem trie_Trie_Longest_fn (R : Value → IMem → SH → Prop) (t_0 : Option Addr) (key_1 : ByteArray) (I : IMem) (S : SH) (h : trie_Trie_Longest R t_0 key_1 I S) :
    Runs Try.prog 18 #[.pointer t_0, .string key_1] I S R := by
  refine Runs.of_wp (args := [.pointer t_0, .string key_1]) (c := trie_Trie_Longest_code) Try.func18 (by kernel_rfl) (by kernel_rfl) ?_
  refine WP.cut 4 (fun l I S => asPtr (l 0) fun t_0 => asStr (l 1) fun key_1 => asI .i64 (l 7) fun value_7 => asI .i64 (l 8) fun length_8 => asB (l 9) fun is_9 => asI .i64 (l 10) fun deep_10 => trie_Trie_Longest_b1 R t_0 key_1 value_7 length_8 is_9 deep_10 I S) (cast (by kernel_rfl) h) ?_
  clear h
  intro l I S _ h
  obtain ⟨t_0, e0, h⟩ := asPtr_e h
  obtain ⟨key_1, e1, h⟩ := asStr_e h
  obtain ⟨value_7, e7, h⟩ := asI_e h
  obtain ⟨length_8, e8, h⟩ := asI_e h
  obtain ⟨is_9, e9, h⟩ := asB_e h
  obtain ⟨deep_10, e10, h⟩ := asI_e h
  rw [upd_eta e0, upd_eta e1, upd_eta e7, upd_eta e8, upd_eta e9, upd_eta e10]
  refine WP.seqY (by kernel_rfl) (fun l I S => asI .i64 (l 7) fun value_7 => asI .i64 (l 8) fun length_8 => asB (l 9) fun is_9 => trie_Trie_Longest_b6 R value_7 length_8 is_9 I S) ?_ ?_
  ·
    refine WP.cut 1 (fun l I S => asStr (l 1) fun key_1 => asI .i64 (l 7) fun value_7 => asI .i64 (l 8) fun length_8 => asB (l 9) fun is_9 => asI .i64 (l 10) fun deep_10 => asPtr (l 11) fun n_11 => trie_Trie_Longest_b2 R key_1 value_7 length_8 is_9 deep_10 n_11 I S) (cast (by kernel_rfl) h) ?_
    clear h
    intro l I S _ h
    obtain ⟨key_1, e1, h⟩ := asStr_e h
    obtain ⟨value_7, e7, h⟩ := asI_e h
    obtain ⟨length_8, e8, h⟩ := asI_e h
    obtain ⟨is_9, e9, h⟩ := asB_e h
    obtain ⟨deep_10, e10, h⟩ := asI_e h
    obtain ⟨n_11, e11, h⟩ := asPtr_e h
    rw [upd_eta e1, upd_eta e7, upd_eta e8, upd_eta e9, upd_eta e10, upd_eta e11]
    refine WP.block' (by kernel_rfl) ?_
    obtain ⟨Inv_again3, m_again3, h0, hr⟩ := h
    refine WP.loop' (by kernel_rfl) (fun m_again3 => fun l I S => asStr (l 1) fun key_1 => asI .i64 (l 7) fun value_7 => asI .i64 (l 8) fun length_8 => asB (l 9) fun is_9 => asI .i64 (l 10) fun deep_10 => asPtr (l 11) fun n_11 => Inv_again3 m_again3 key_1 value_7 length_8 is_9 deep_10 n_11 I S) m_again3 (cast (by kernel_rfl) h0) ?_
    clear h0
    intro m_again3 l I S hle h
    obtain ⟨key_1, e1, h⟩ := asStr_e h
    obtain ⟨value_7, e7, h⟩ := asI_e h
    obtain ⟨length_8, e8, h⟩ := asI_e h
    obtain ⟨is_9, e9, h⟩ := asB_e h
    obtain ⟨deep_10, e10, h⟩ := asI_e h
    obtain ⟨n_11, e11, h⟩ := asPtr_e h
    rw [upd_eta e1, upd_eta e7, upd_eta e8, upd_eta e9, upd_eta e10, upd_eta e11]
    have h := hr m_again3 key_1 value_7 length_8 is_9 deep_10 n_11 I S hle h
    clear hr hle
    refine WP.cut 1 (fun l I S => asStr (l 1) fun key_1 => asI .i64 (l 7) fun value_7 => asI .i64 (l 8) fun length_8 => asB (l 9) fun is_9 => asI .i64 (l 10) fun deep_10 => asPtr (l 11) fun n_11 => trie_Trie_Longest_b4 (fun key_1 value_7 length_8 is_9 deep_10 n_11 I S => ∃ m', m' < m_again3 ∧ Inv_again3 m' key_1 value_7 length_8 is_9 deep_10 n_11 I S) R key_1 value_7 length_8 is_9 deep_10 n_11 I S) (cast (by kernel_rfl) h) ?_
    clear h
    intro l I S _ h
    obtain ⟨key_1, e1, h⟩ := asStr_e h
    obtain ⟨value_7, e7, h⟩ := asI_e h
    obtain ⟨length_8, e8, h⟩ := asI_e h
    obtain ⟨is_9, e9, h⟩ := asB_e h
    obtain ⟨deep_10, e10, h⟩ := asI_e h
    obtain ⟨n_11, e11, h⟩ := asPtr_e h
    rw [upd_eta e1, upd_eta e7, upd_eta e8, upd_eta e9, upd_eta e10, upd_eta e11]
    refine WP.block' (by kernel_rfl) ?_
    refine WP.seqY (by kernel_rfl) (fun l I S => asStr (l 1) fun key_1 => asI .i64 (l 7) fun value_7 => asI .i64 (l 8) fun length_8 => asB (l 9) fun is_9 => asI .i64 (l 10) fun deep_10 => asPtr (l 11) fun n_11 => trie_Trie_Longest_b7 (fun key_1 value_7 length_8 is_9 deep_10 n_11 I S => ∃ m', m' < m_again3 ∧ Inv_again3 m' key_1 value_7 length_8 is_9 deep_10 n_11 I S) R key_1 value_7 length_8 is_9 deep_10 n_11 I S) ?_ ?_
    ·
      refine WP.seqY (by kernel_rfl) (fun l I S => asStr (l 1) fun key_1 => asI .i64 (l 7) fun value_7 => asI .i64 (l 8) fun length_8 => asB (l 9) fun is_9 => asI .i64 (l 10) fun deep_10 => asPtr (l 11) fun n_11 => asB (l 32) fun x32 => trie_Trie_Longest_b5 (fun key_1 value_7 length_8 is_9 deep_10 n_11 I S => ∃ m', m' < m_again3 ∧ Inv_again3 m' key_1 value_7 length_8 is_9 deep_10 n_11 I S) R key_1 value_7 length_8 is_9 deep_10 n_11 x32 I S) ?_ ?_
      ·
        exact WP.quiet' (by kernel_rfl) (by kernel_rfl) (by kernel_rfl) (cast (by kernel_rfl) h)
      · clear h
        intro l I S _ h
        obtain ⟨key_1, e1, h⟩ := asStr_e h
        obtain ⟨value_7, e7, h⟩ := asI_e h
        obtain ⟨length_8, e8, h⟩ := asI_e h
        obtain ⟨is_9, e9, h⟩ := asB_e h
        obtain ⟨deep_10, e10, h⟩ := asI_e h
        obtain ⟨n_11, e11, h⟩ := asPtr_e h
        obtain ⟨x32, e32, h⟩ := asB_e h
        rw [upd_eta e1, upd_eta e7, upd_eta e8, upd_eta e9, upd_eta e10, upd_eta e11, upd_eta e32]
        exact Pre.sound _ _ _ _ _ (cast (by kernel_rfl) h)
    · clear h
      intro l I S _ h
      obtain ⟨key_1, e1, h⟩ := asStr_e h
      obtain ⟨value_7, e7, h⟩ := asI_e h
      obtain ⟨length_8, e8, h⟩ := asI_e h
      obtain ⟨is_9, e9, h⟩ := asB_e h
      obtain ⟨deep_10, e10, h⟩ := asI_e h
      obtain ⟨n_11, e11, h⟩ := asPtr_e h
      rw [upd_eta e1, upd_eta e7, upd_eta e8, upd_eta e9, upd_eta e10, upd_eta e11]
      refine WP.seqY (by kernel_rfl) (fun l I S => asStr (l 1) fun key_1 => asI .i64 (l 7) fun value_7 => asI .i64 (l 8) fun length_8 => asB (l 9) fun is_9 => asI .i64 (l 10) fun deep_10 => asPtr (l 11) fun n_11 => trie_Trie_Longest_b8 (fun key_1 value_7 length_8 is_9 deep_10 n_11 I S => ∃ m', m' < m_again3 ∧ Inv_again3 m' key_1 value_7 length_8 is_9 deep_10 n_11 I S) R key_1 value_7 length_8 is_9 deep_10 n_11 I S) ?_ ?_
      ·
        exact WP.quiet' (by kernel_rfl) (by kernel_rfl) (by kernel_rfl) (cast (by kernel_rfl) h)
      · clear h
        intro l I S _ h
        obtain ⟨key_1, e1, h⟩ := asStr_e h
        obtain ⟨value_7, e7, h⟩ := asI_e h
        obtain ⟨length_8, e8, h⟩ := asI_e h
        obtain ⟨is_9, e9, h⟩ := asB_e h
        obtain ⟨deep_10, e10, h⟩ := asI_e h
        obtain ⟨n_11, e11, h⟩ := asPtr_e h
        rw [upd_eta e1, upd_eta e7, upd_eta e8, upd_eta e9, upd_eta e10, upd_eta e11]
        refine WP.cut 1 (fun l I S => asStr (l 1) fun key_1 => asI .i64 (l 7) fun value_7 => asI .i64 (l 8) fun length_8 => asB (l 9) fun is_9 => asI .i64 (l 10) fun deep_10 => asPtr (l 11) fun n_11 => trie_Trie_Longest_b9 (fun key_1 value_7 length_8 is_9 deep_10 n_11 I S => ∃ m', m' < m_again3 ∧ Inv_again3 m' key_1 value_7 length_8 is_9 deep_10 n_11 I S) R key_1 value_7 length_8 is_9 deep_10 n_11 I S) (cast (by kernel_rfl) h) ?_
        clear h
        intro l I S _ h
        obtain ⟨key_1, e1, h⟩ := asStr_e h
        obtain ⟨value_7, e7, h⟩ := asI_e h
        obtain ⟨length_8, e8, h⟩ := asI_e h
        obtain ⟨is_9, e9, h⟩ := asB_e h
        obtain ⟨deep_10, e10, h⟩ := asI_e h
        obtain ⟨n_11, e11, h⟩ := asPtr_e h
        rw [upd_eta e1, upd_eta e7, upd_eta e8, upd_eta e9, upd_eta e10, upd_eta e11]
        refine WP.cut 1 (fun l I S => asStr (l 1) fun key_1 => asI .i64 (l 7) fun value_7 => asI .i64 (l 8) fun length_8 => asB (l 9) fun is_9 => asI .i64 (l 10) fun deep_10 => asPtr (l 11) fun n_11 => trie_Trie_Longest_b10 (fun key_1 value_7 length_8 is_9 deep_10 n_11 I S => ∃ m', m' < m_again3 ∧ Inv_again3 m' key_1 value_7 length_8 is_9 deep_10 n_11 I S) R key_1 value_7 length_8 is_9 deep_10 n_11 I S) (cast (by kernel_rfl) h) ?_
        clear h
        intro l I S _ h
        obtain ⟨key_1, e1, h⟩ := asStr_e h
        obtain ⟨value_7, e7, h⟩ := asI_e h
        obtain ⟨length_8, e8, h⟩ := asI_e h
        obtain ⟨is_9, e9, h⟩ := asB_e h
        obtain ⟨deep_10, e10, h⟩ := asI_e h
        obtain ⟨n_11, e11, h⟩ := asPtr_e h
        rw [upd_eta e1, upd_eta e7, upd_eta e8, upd_eta e9, upd_eta e10, upd_eta e11]
        exact WP.quiet' (by kernel_rfl) (by kernel_rfl) (by kernel_rfl) (cast (by kernel_rfl) h)
  · clear h
    intro l I S _ h
    obtain ⟨value_7, e7, h⟩ := asI_e h
    obtain ⟨length_8, e8, h⟩ := asI_e h
    obtain ⟨is_9, e9, h⟩ := asB_e h
    rw [upd_eta e7, upd_eta e8, upd_eta e9]
    exact Pre.sound _ _ _ _ _ (cast (by kernel_rfl) h)
/-! ### trie_Trie_Len: function 19, (*bolter/trie.Trie).Len -/
noncomputable def trie_Trie_Len_code : Code := (Try.f19.body).getD .skip
def trie_Trie_Len (R : Value → IMem → SH → Prop) (t_0 : Option Addr) (I : IMem) (S : SH) : Prop :=
  ptrP t_0 fun x4 =>
  ∃ x6, Cell I S (x4.add 1) (.int .i64 x6) ∧
  R (.int .i64 x6) I S
theorem trie_Trie_Len_fn (R : Value → IMem → SH → Prop) (t_0 : Option Addr) (I : IMem) (S : SH) (h : trie_Trie_Len R t_0 I S) :
    Runs Try.prog 19 #[.pointer t_0] I S R := by
  refine Runs.of_wp (args := [.pointer t_0]) (c := trie_Trie_Len_code) Try.func19 (by kernel_rfl) (by kernel_rfl) ?_
  exact Pre.sound _ _ _ _ _ (cast (by kernel_rfl) h)
/-! ### bolterlaw16_Key: function 27, bolter/bolterlaw16.Key -/
noncomputable def bolterlaw16_Key_code : Code := (Try.f27.body).getD .skip
def bolterlaw16_Key_b4 (R : Value → IMem → SH → Prop) (s_5 : ByteArray) (I : IMem) (S : SH) : Prop :=
  R (.string s_5) I S
def bolterlaw16_Key_l3 (again3 : Int → Int → ByteArray → Int → IMem → SH → Prop) (R : Value → IMem → SH → Prop) (bits_0 : Int) (long_1 : Int) (s_5 : ByteArray) (k_6 : Int) (I : IMem) (S : SH) : Prop :=
  bcase (decide (k_6 < (IntKind.wrap .i64 (long_1.tmod (14 : Int)))))
    (bcase (decide ((k_6.tmod (16 : Int)) < 0)) False (((s_5.size + (Utf8.encode (IntKind.wrap .i32 (IntKind.wrap .u16 ((48 : Int) + (iand .u16 (bits_0.fdiv (2 ^ (min (k_6.tmod (16 : Int)).toNat (IntKind.bits .u16)))) (1 : Int)))))).size : Nat) : Int) ≤ 9223372036854775807 ∧
    again3 bits_0 long_1 (s_5 ++ (Utf8.encode (IntKind.wrap .i32 (IntKind.wrap .u16 ((48 : Int) + (iand .u16 (bits_0.fdiv (2 ^ (min (k_6.tmod (16 : Int)).toNat (IntKind.bits .u16)))) (1 : Int))))))) (IntKind.wrap .i64 (k_6 + (1 : Int))) I S))
    (bolterlaw16_Key_b4 R s_5 I S)
def bolterlaw16_Key_b2 (R : Value → IMem → SH → Prop) (bits_0 : Int) (long_1 : Int) (s_5 : ByteArray) (k_6 : Int) (I : IMem) (S : SH) : Prop :=
  ∃ (Inv : Nat → Int → Int → ByteArray → Int → IMem → SH → Prop) (m : Nat), Inv m bits_0 long_1 s_5 k_6 I S ∧
    ∀ (m : Nat) (bits_0 : Int) (long_1 : Int) (s_5 : ByteArray) (k_6 : Int) (J : IMem) (T : SH), I.le J → Inv m bits_0 long_1 s_5 k_6 J T →
      bolterlaw16_Key_l3 (fun bits_0 long_1 s_5 k_6 I S => ∃ m', m' < m ∧ Inv m' bits_0 long_1 s_5 k_6 I S) R bits_0 long_1 s_5 k_6 J T
def bolterlaw16_Key_b1 (R : Value → IMem → SH → Prop) (bits_0 : Int) (long_1 : Int) (s_5 : ByteArray) (I : IMem) (S : SH) : Prop :=
  bolterlaw16_Key_b2 R bits_0 long_1 s_5 0 I S
def bolterlaw16_Key (R : Value → IMem → SH → Prop) (bits_0 : Int) (long_1 : Int) (I : IMem) (S : SH) : Prop :=
  bolterlaw16_Key_b1 R bits_0 long_1 ⟨#[]⟩ I S
theorem bolterlaw16_Key_fn (R : Value → IMem → SH → Prop) (bits_0 : Int) (long_1 : Int) (I : IMem) (S : SH) (h : bolterlaw16_Key R bits_0 long_1 I S) :
    Runs Try.prog 27 #[.int .u16 bits_0, .int .u8 long_1] I S R := by
  refine Runs.of_wp (args := [.int .u16 bits_0, .int .u8 long_1]) (c := bolterlaw16_Key_code) Try.func27 (by kernel_rfl) (by kernel_rfl) ?_
  refine WP.cut 2 (fun l I S => asI .u16 (l 0) fun bits_0 => asI .u8 (l 1) fun long_1 => asStr (l 5) fun s_5 => bolterlaw16_Key_b1 R bits_0 long_1 s_5 I S) (cast (by kernel_rfl) h) ?_
  clear h
  intro l I S _ h
  obtain ⟨bits_0, e0, h⟩ := asI_e h
  obtain ⟨long_1, e1, h⟩ := asI_e h
  obtain ⟨s_5, e5, h⟩ := asStr_e h
  rw [upd_eta e0, upd_eta e1, upd_eta e5]
  refine WP.seqY (by kernel_rfl) (fun l I S => asStr (l 5) fun s_5 => bolterlaw16_Key_b4 R s_5 I S) ?_ ?_
  ·
    refine WP.cut 1 (fun l I S => asI .u16 (l 0) fun bits_0 => asI .u8 (l 1) fun long_1 => asStr (l 5) fun s_5 => asI .i64 (l 6) fun k_6 => bolterlaw16_Key_b2 R bits_0 long_1 s_5 k_6 I S) (cast (by kernel_rfl) h) ?_
    clear h
    intro l I S _ h
    obtain ⟨bits_0, e0, h⟩ := asI_e h
    obtain ⟨long_1, e1, h⟩ := asI_e h
    obtain ⟨s_5, e5, h⟩ := asStr_e h
    obtain ⟨k_6, e6, h⟩ := asI_e h
    rw [upd_eta e0, upd_eta e1, upd_eta e5, upd_eta e6]
    refine WP.block' (by kernel_rfl) ?_
    obtain ⟨Inv_again3, m_again3, h0, hr⟩ := h
    refine WP.loop' (by kernel_rfl) (fun m_again3 => fun l I S => asI .u16 (l 0) fun bits_0 => asI .u8 (l 1) fun long_1 => asStr (l 5) fun s_5 => asI .i64 (l 6) fun k_6 => Inv_again3 m_again3 bits_0 long_1 s_5 k_6 I S) m_again3 (cast (by kernel_rfl) h0) ?_
    clear h0
    intro m_again3 l I S hle h
    obtain ⟨bits_0, e0, h⟩ := asI_e h
    obtain ⟨long_1, e1, h⟩ := asI_e h
    obtain ⟨s_5, e5, h⟩ := asStr_e h
    obtain ⟨k_6, e6, h⟩ := asI_e h
    rw [upd_eta e0, upd_eta e1, upd_eta e5, upd_eta e6]
    have h := hr m_again3 bits_0 long_1 s_5 k_6 I S hle h
    clear hr hle
    exact Pre.sound _ _ _ _ _ (cast (by kernel_rfl) h)
  · clear h
    intro l I S _ h
    obtain ⟨s_5, e5, h⟩ := asStr_e h
    rw [upd_eta e5]
    exact Pre.sound _ _ _ _ _ (cast (by kernel_rfl) h)
/-! ### trie_Trie_Nodes: function 28, (*bolter/trie.Trie).Nodes -/
noncomputable def trie_Trie_Nodes_code : Code := (Try.f28.body).getD .skip
def trie_Trie_Nodes (R : Value → IMem → SH → Prop) (t_0 : Option Addr) (I : IMem) (S : SH) : Prop :=
  ptrP t_0 fun x4 =>
  ∃ x6, Cell I S x4 (.pointer x6) ∧
  Runs Try.prog 36 #[.pointer x6] I S fun v I1 S1 => ∃ x7, v = .int .i64 x7 ∧
  R (.int .i64 x7) I1 S1
theorem trie_Trie_Nodes_fn (R : Value → IMem → SH → Prop) (t_0 : Option Addr) (I : IMem) (S : SH) (h : trie_Trie_Nodes R t_0 I S) :
    Runs Try.prog 28 #[.pointer t_0] I S R := by
  refine Runs.of_wp (args := [.pointer t_0]) (c := trie_Trie_Nodes_code) Try.func28 (by kernel_rfl) (by kernel_rfl) ?_
  exact Pre.sound _ _ _ _ _ (cast (by kernel_rfl) h)
/-! ### trie_Trie_Del: function 29, (*bolter/trie.Trie).Del -/
noncomputable def trie_Trie_Del_code : Code := (Try.f29.body).getD .skip
def trie_Trie_Del (R : Value → IMem → SH → Prop) (t_0 : Option Addr) (key_1 : ByteArray) (I : IMem) (S : SH) : Prop :=
  Runs Try.prog 30 #[.pointer t_0, .string key_1] I S fun v I1 S1 => ∃ x10_0 x10_1, v = .tuple #[.int .i64 x10_0, .bool x10_1] ∧
  bcase (!x10_1)
    (R (.bool false) I1 S1)
    (ptrP t_0 fun x17 =>
    ∃ x19, Cell I1 S1 x17 (.pointer x19) ∧
    Runs Try.prog 37 #[.pointer x19, .string key_1] I1 S1 fun v' I1' S1' => ∃ x21, v' = .pointer x21 ∧
    ptrP t_0 fun x22 =>
    StP S1' x22 [.pointer x21] fun S1'' =>
    ptrP t_0 fun x25 =>
    ∃ x27, Cell I1' S1'' (x25.add 1) (.int .i64 x27) ∧
    ptrP t_0 fun x29 =>
    StP S1'' (x29.add 1) [.int .i64 (IntKind.wrap .i64 (x27 - (1 : Int)))] fun S1_r3 =>
    R (.bool true) I1' S1_r3)
theorem trie_Trie_Del_fn (R : Value → IMem → SH → Prop) (t_0 : Option Addr) (key_1 : ByteArray) (I : IMem) (S : SH) (h : trie_Trie_Del R t_0 key_1 I S) :
    Runs Try.prog 29 #[.pointer t_0, .string key_1] I S R := by
  refine Runs.of_wp (args := [.pointer t_0, .string key_1]) (c := trie_Trie_Del_code) Try.func29 (by kernel_rfl) (by kernel_rfl) ?_
  exact Pre.sound _ _ _ _ _ (cast (by kernel_rfl) h)
/-! ### trie_Trie_Get: function 30, (*bolter/trie.Trie).Get -/
noncomputable def trie_Trie_Get_code : Code := (Try.f30.body).getD .skip
def trie_Trie_Get_b3 (R : Value → IMem → SH → Prop) (v_6 : Int) (I : IMem) (S : SH) : Prop :=
  R (.tuple #[.int .i64 v_6, .bool true]) I S
def trie_Trie_Get_b2 (R : Value → IMem → SH → Prop) (v_6 : Int) (x23 : Bool) (I : IMem) (S : SH) : Prop :=
  bcase x23
    (R (.tuple #[.int .i64 0, .bool false]) I S)
    (trie_Trie_Get_b3 R v_6 I S)
def trie_Trie_Get_b1 (R : Value → IMem → SH → Prop) (key_1 : ByteArray) (v_6 : Int) (n_7 : Int) (ok_8 : Bool) (I : IMem) (S : SH) : Prop :=
  bcase (!ok_8)
    (trie_Trie_Get_b2 R v_6 true I S)
    (trie_Trie_Get_b2 R v_6 (n_7 != (key_1.size : Int)) I S)
def trie_Trie_Get (R : Value → IMem → SH → Prop) (t_0 : Option Addr) (key_1 : ByteArray) (I : IMem) (S : SH) : Prop :=
  Runs Try.prog 18 #[.pointer t_0, .string key_1] I S fun v I1 S1 => ∃ x12_0 x12_1 x12_2, v = .tuple #[.int .i64 x12_0, .int .i64 x12_1, .bool x12_2] ∧
  trie_Trie_Get_b1 R key_1 x12_0 x12_1 x12_2 I1 S1
theorem trie_Trie_Get_fn (R : Value → IMem → SH → Prop) (t_0 : Option Addr) (key_1 : ByteArray) (I : IMem) (S : SH) (h : trie_Trie_Get R t_0 key_1 I S) :
    Runs Try.prog 30 #[.pointer t_0, .string key_1] I S R := by
  refine Runs.of_wp (args := [.pointer t_0, .string key_1]) (c := trie_Trie_Get_code) Try.func30 (by kernel_rfl) (by kernel_rfl) ?_
  refine WP.cut 2 (fun l I S => asStr (l 1) fun key_1 => asI .i64 (l 6) fun v_6 => asI .i64 (l 7) fun n_7 => asB (l 8) fun ok_8 => trie_Trie_Get_b1 R key_1 v_6 n_7 ok_8 I S) (cast (by kernel_rfl) h) ?_
  clear h
  intro l I S _ h
  obtain ⟨key_1, e1, h⟩ := asStr_e h
  obtain ⟨v_6, e6, h⟩ := asI_e h
  obtain ⟨n_7, e7, h⟩ := asI_e h
  obtain ⟨ok_8, e8, h⟩ := asB_e h
  rw [upd_eta e1, upd_eta e6, upd_eta e7, upd_eta e8]
  refine WP.seqY (by kernel_rfl) (fun l I S => asI .i64 (l 6) fun v_6 => trie_Trie_Get_b3 R v_6 I S) ?_ ?_
  ·
    refine WP.cut 1 (fun l I S => asI .i64 (l 6) fun v_6 => asB (l 23) fun x23 => trie_Trie_Get_b2 R v_6 x23 I S) (cast (by kernel_rfl) h) ?_
    clear h
    intro l I S _ h
    obtain ⟨v_6, e6, h⟩ := asI_e h
    obtain ⟨x23, e23, h⟩ := asB_e h
    rw [upd_eta e6, upd_eta e23]
    exact Pre.sound _ _ _ _ _ (cast (by kernel_rfl) h)
  · clear h
    intro l I S _ h
    obtain ⟨v_6, e6, h⟩ := asI_e h
    rw [upd_eta e6]
    exact Pre.sound _ _ _ _ _ (cast (by kernel_rfl) h)
/-! ### trie_May: function 32, bolter/trie.May -/
noncomputable def trie_May_code : Code := (Try.f32.body).getD .skip
def trie_May_b6 (again3 : ByteArray → Int → Int → IMem → SH → Prop) (R : Value → IMem → SH → Prop) (key_0 : ByteArray) (x5 : Int) (x6 : Int) (I : IMem) (S : SH) : Prop :=
  again3 key_0 x5 (IntKind.wrap .i64 (x6 + (1 : Int))) I S
def trie_May_b5 (again3 : ByteArray → Int → Int → IMem → SH → Prop) (R : Value → IMem → SH → Prop) (key_0 : ByteArray) (x5 : Int) (x6 : Int) (x18 : Bool) (I : IMem) (S : SH) : Prop :=
  bcase x18
    (R (.bool false) I S)
    (trie_May_b6 again3 R key_0 x5 x6 I S)
def trie_May_b4 (again3 : ByteArray → Int → Int → IMem → SH → Prop) (R : Value → IMem → SH → Prop) (key_0 : ByteArray) (x5 : Int) (x6 : Int) (I : IMem) (S : SH) : Prop :=
  ∃ cx11 : UInt8, (0 : Int) ≤ x6 ∧ key_0[x6.toNat]? = some cx11 ∧
  bcase ((cx11.toNat : Int) != (48 : Int))
    (∃ cx16 : UInt8, (0 : Int) ≤ x6 ∧ key_0[x6.toNat]? = some cx16 ∧
    trie_May_b5 again3 R key_0 x5 x6 ((cx16.toNat : Int) != (49 : Int)) I S)
    (trie_May_b5 again3 R key_0 x5 x6 false I S)
def trie_May_b7 (R : Value → IMem → SH → Prop) (key_0 : ByteArray) (I : IMem) (S : SH) : Prop :=
  R (.bool (decide ((key_0.size : Int) ≤ (128 : Int)))) I S
def trie_May_l3 (again3 : ByteArray → Int → Int → IMem → SH → Prop) (R : Value → IMem → SH → Prop) (key_0 : ByteArray) (x5 : Int) (x6 : Int) (I : IMem) (S : SH) : Prop :=
  bcase (decide (x6 < x5))
    (trie_May_b4 again3 R key_0 x5 x6 I S)
    (trie_May_b7 R key_0 I S)
def trie_May_b2 (R : Value → IMem → SH → Prop) (key_0 : ByteArray) (x5 : Int) (x6 : Int) (I : IMem) (S : SH) : Prop :=
  ∃ (Inv : Nat → ByteArray → Int → Int → IMem → SH → Prop) (m : Nat), Inv m key_0 x5 x6 I S ∧
    ∀ (m : Nat) (key_0 : ByteArray) (x5 : Int) (x6 : Int) (J : IMem) (T : SH), I.le J → Inv m key_0 x5 x6 J T →
      trie_May_l3 (fun key_0 x5 x6 I S => ∃ m', m' < m ∧ Inv m' key_0 x5 x6 I S) R key_0 x5 x6 J T
def trie_May_b1 (R : Value → IMem → SH → Prop) (key_0 : ByteArray) (I : IMem) (S : SH) : Prop :=
  trie_May_b2 R key_0 (key_0.size : Int) 0 I S
def trie_May (R : Value → IMem → SH → Prop) (key_0 : ByteArray) (I : IMem) (S : SH) : Prop :=
  trie_May_b1 R key_0 I S
theorem trie_May_fn (R : Value → IMem → SH → Prop) (key_0 : ByteArray) (I : IMem) (S : SH) (h : trie_May R key_0 I S) :
    Runs Try.prog 32 #[.string key_0] I S R := by
  refine Runs.of_wp (args := [.string key_0]) (c := trie_May_code) Try.func32 (by kernel_rfl) (by kernel_rfl) ?_
  refine WP.cut 1 (fun l I S => asStr (l 0) fun key_0 => trie_May_b1 R key_0 I S) (cast (by kernel_rfl) h) ?_
  clear h
  intro l I S _ h
  obtain ⟨key_0, e0, h⟩ := asStr_e h
  rw [upd_eta e0]
  refine WP.seqY (by kernel_rfl) (fun l I S => asStr (l 0) fun key_0 => trie_May_b7 R key_0 I S) ?_ ?_
  ·
    refine WP.cut 1 (fun l I S => asStr (l 0) fun key_0 => asI .i64 (l 5) fun x5 => asI .i64 (l 6) fun x6 => trie_May_b2 R key_0 x5 x6 I S) (cast (by kernel_rfl) h) ?_
    clear h
    intro l I S _ h
    obtain ⟨key_0, e0, h⟩ := asStr_e h
    obtain ⟨x5, e5, h⟩ := asI_e h
    obtain ⟨x6, e6, h⟩ := asI_e h
    rw [upd_eta e0, upd_eta e5, upd_eta e6]
    refine WP.block' (by kernel_rfl) ?_
    obtain ⟨Inv_again3, m_again3, h0, hr⟩ := h
    refine WP.loop' (by kernel_rfl) (fun m_again3 => fun l I S => asStr (l 0) fun key_0 => asI .i64 (l 5) fun x5 => asI .i64 (l 6) fun x6 => Inv_again3 m_again3 key_0 x5 x6 I S) m_again3 (cast (by kernel_rfl) h0) ?_
    clear h0
    intro m_again3 l I S hle h
    obtain ⟨key_0, e0, h⟩ := asStr_e h
    obtain ⟨x5, e5, h⟩ := asI_e h
    obtain ⟨x6, e6, h⟩ := asI_e h
    rw [upd_eta e0, upd_eta e5, upd_eta e6]
    have h := hr m_again3 key_0 x5 x6 I S hle h
    clear hr hle
    refine WP.cut 2 (fun l I S => asStr (l 0) fun key_0 => asI .i64 (l 5) fun x5 => asI .i64 (l 6) fun x6 => trie_May_b4 (fun key_0 x5 x6 I S => ∃ m', m' < m_again3 ∧ Inv_again3 m' key_0 x5 x6 I S) R key_0 x5 x6 I S) (cast (by kernel_rfl) h) ?_
    clear h
    intro l I S _ h
    obtain ⟨key_0, e0, h⟩ := asStr_e h
    obtain ⟨x5, e5, h⟩ := asI_e h
    obtain ⟨x6, e6, h⟩ := asI_e h
    rw [upd_eta e0, upd_eta e5, upd_eta e6]
    refine WP.seqY (by kernel_rfl) (fun l I S => asStr (l 0) fun key_0 => asI .i64 (l 5) fun x5 => asI .i64 (l 6) fun x6 => trie_May_b6 (fun key_0 x5 x6 I S => ∃ m', m' < m_again3 ∧ Inv_again3 m' key_0 x5 x6 I S) R key_0 x5 x6 I S) ?_ ?_
    ·
      refine WP.block' (by kernel_rfl) ?_
      refine WP.cut 2 (fun l I S => asStr (l 0) fun key_0 => asI .i64 (l 5) fun x5 => asI .i64 (l 6) fun x6 => asB (l 18) fun x18 => trie_May_b5 (fun key_0 x5 x6 I S => ∃ m', m' < m_again3 ∧ Inv_again3 m' key_0 x5 x6 I S) R key_0 x5 x6 x18 I S) (cast (by kernel_rfl) h) ?_
      clear h
      intro l I S _ h
      obtain ⟨key_0, e0, h⟩ := asStr_e h
      obtain ⟨x5, e5, h⟩ := asI_e h
      obtain ⟨x6, e6, h⟩ := asI_e h
      obtain ⟨x18, e18, h⟩ := asB_e h
      rw [upd_eta e0, upd_eta e5, upd_eta e6, upd_eta e18]
      exact Pre.sound _ _ _ _ _ (cast (by kernel_rfl) h)
    · clear h
      intro l I S _ h
      obtain ⟨key_0, e0, h⟩ := asStr_e h
      obtain ⟨x5, e5, h⟩ := asI_e h
      obtain ⟨x6, e6, h⟩ := asI_e h
      rw [upd_eta e0, upd_eta e5, upd_eta e6]
      exact Pre.sound _ _ _ _ _ (cast (by kernel_rfl) h)
  · clear h
    intro l I S _ h
    obtain ⟨key_0, e0, h⟩ := asStr_e h
    rw [upd_eta e0]
    exact Pre.sound _ _ _ _ _ (cast (by kernel_rfl) h)
/-! ### trie_common: function 33, bolter/trie.common -/
noncomputable def trie_common_code : Code := (Try.f33.body).getD .skip
def trie_common_b4 (again2 : ByteArray → ByteArray → Int → IMem → SH → Prop) (R : Value → IMem → SH → Prop) (a_0 : ByteArray) (b_1 : ByteArray) (n_5 : Int) (I : IMem) (S : SH) : Prop :=
  again2 a_0 b_1 (IntKind.wrap .i64 (n_5 + (1 : Int))) I S
def trie_common_b5 (R : Value → IMem → SH → Prop) (n_5 : Int) (I : IMem) (S : SH) : Prop :=
  R (.int .i64 n_5) I S
def trie_common_b3 (again2 : ByteArray → ByteArray → Int → IMem → SH → Prop) (R : Value → IMem → SH → Prop) (a_0 : ByteArray) (b_1 : ByteArray) (n_5 : Int) (x24 : Bool) (I : IMem) (S : SH) : Prop :=
  bcase x24
    (trie_common_b4 again2 R a_0 b_1 n_5 I S)
    (trie_common_b5 R n_5 I S)
def trie_common_l2 (again2 : ByteArray → ByteArray → Int → IMem → SH → Prop) (R : Value → IMem → SH → Prop) (a_0 : ByteArray) (b_1 : ByteArray) (n_5 : Int) (I : IMem) (S : SH) : Prop :=
  bcase (decide (n_5 < (a_0.size : Int)))
    (bcase (decide (n_5 < (b_1.size : Int)))
      (∃ cx19 : UInt8, (0 : Int) ≤ n_5 ∧ a_0[n_5.toNat]? = some cx19 ∧
      ∃ cx22 : UInt8, (0 : Int) ≤ n_5 ∧ b_1[n_5.toNat]? = some cx22 ∧
      trie_common_b3 again2 R a_0 b_1 n_5 ((cx19.toNat : Int) == (cx22.toNat : Int)) I S)
      (trie_common_b3 again2 R a_0 b_1 n_5 false I S))
    (trie_common_b3 again2 R a_0 b_1 n_5 false I S)
def trie_common_b1 (R : Value → IMem → SH → Prop) (a_0 : ByteArray) (b_1 : ByteArray) (n_5 : Int) (I : IMem) (S : SH) : Prop :=
  ∃ (Inv : Nat → ByteArray → ByteArray → Int → IMem → SH → Prop) (m : Nat), Inv m a_0 b_1 n_5 I S ∧
    ∀ (m : Nat) (a_0 : ByteArray) (b_1 : ByteArray) (n_5 : Int) (J : IMem) (T : SH), I.le J → Inv m a_0 b_1 n_5 J T →
      trie_common_l2 (fun a_0 b_1 n_5 I S => ∃ m', m' < m ∧ Inv m' a_0 b_1 n_5 I S) R a_0 b_1 n_5 J T
def trie_common (R : Value → IMem → SH → Prop) (a_0 : ByteArray) (b_1 : ByteArray) (I : IMem) (S : SH) : Prop :=
  trie_common_b1 R a_0 b_1 0 I S
theorem trie_common_fn (R : Value → IMem → SH → Prop) (a_0 : ByteArray) (b_1 : ByteArray) (I : IMem) (S : SH) (h : trie_common R a_0 b_1 I S) :
    Runs Try.prog 33 #[.string a_0, .string b_1] I S R := by
  refine Runs.of_wp (args := [.string a_0, .string b_1]) (c := trie_common_code) Try.func33 (by kernel_rfl) (by kernel_rfl) ?_
  refine WP.cut 2 (fun l I S => asStr (l 0) fun a_0 => asStr (l 1) fun b_1 => asI .i64 (l 5) fun n_5 => trie_common_b1 R a_0 b_1 n_5 I S) (cast (by kernel_rfl) h) ?_
  clear h
  intro l I S _ h
  obtain ⟨a_0, e0, h⟩ := asStr_e h
  obtain ⟨b_1, e1, h⟩ := asStr_e h
  obtain ⟨n_5, e5, h⟩ := asI_e h
  rw [upd_eta e0, upd_eta e1, upd_eta e5]
  refine WP.seqY (by kernel_rfl) (fun l I S => asI .i64 (l 5) fun n_5 => trie_common_b5 R n_5 I S) ?_ ?_
  ·
    refine WP.block' (by kernel_rfl) ?_
    obtain ⟨Inv_again2, m_again2, h0, hr⟩ := h
    refine WP.loop' (by kernel_rfl) (fun m_again2 => fun l I S => asStr (l 0) fun a_0 => asStr (l 1) fun b_1 => asI .i64 (l 5) fun n_5 => Inv_again2 m_again2 a_0 b_1 n_5 I S) m_again2 (cast (by kernel_rfl) h0) ?_
    clear h0
    intro m_again2 l I S hle h
    obtain ⟨a_0, e0, h⟩ := asStr_e h
    obtain ⟨b_1, e1, h⟩ := asStr_e h
    obtain ⟨n_5, e5, h⟩ := asI_e h
    rw [upd_eta e0, upd_eta e1, upd_eta e5]
    have h := hr m_again2 a_0 b_1 n_5 I S hle h
    clear hr hle
    refine WP.seqY (by kernel_rfl) (fun l I S => asStr (l 0) fun a_0 => asStr (l 1) fun b_1 => asI .i64 (l 5) fun n_5 => trie_common_b4 (fun a_0 b_1 n_5 I S => ∃ m', m' < m_again2 ∧ Inv_again2 m' a_0 b_1 n_5 I S) R a_0 b_1 n_5 I S) ?_ ?_
    ·
      refine WP.seqY (by kernel_rfl) (fun l I S => asStr (l 0) fun a_0 => asStr (l 1) fun b_1 => asI .i64 (l 5) fun n_5 => asB (l 24) fun x24 => trie_common_b3 (fun a_0 b_1 n_5 I S => ∃ m', m' < m_again2 ∧ Inv_again2 m' a_0 b_1 n_5 I S) R a_0 b_1 n_5 x24 I S) ?_ ?_
      ·
        exact WP.quiet' (by kernel_rfl) (by kernel_rfl) (by kernel_rfl) (cast (by kernel_rfl) h)
      · clear h
        intro l I S _ h
        obtain ⟨a_0, e0, h⟩ := asStr_e h
        obtain ⟨b_1, e1, h⟩ := asStr_e h
        obtain ⟨n_5, e5, h⟩ := asI_e h
        obtain ⟨x24, e24, h⟩ := asB_e h
        rw [upd_eta e0, upd_eta e1, upd_eta e5, upd_eta e24]
        exact Pre.sound _ _ _ _ _ (cast (by kernel_rfl) h)
    · clear h
      intro l I S _ h
      obtain ⟨a_0, e0, h⟩ := asStr_e h
      obtain ⟨b_1, e1, h⟩ := asStr_e h
      obtain ⟨n_5, e5, h⟩ := asI_e h
      rw [upd_eta e0, upd_eta e1, upd_eta e5]
      exact Pre.sound _ _ _ _ _ (cast (by kernel_rfl) h)
  · clear h
    intro l I S _ h
    obtain ⟨n_5, e5, h⟩ := asI_e h
    rw [upd_eta e5]
    exact Pre.sound _ _ _ _ _ (cast (by kernel_rfl) h)
/-! ### trie_count: function 36, bolter/trie.count -/
noncomputable def trie_count_code : Code := (Try.f36.body).getD .skip
def trie_count_b2 (R : Value → IMem → SH → Prop) (x2 : Int) (I : IMem) (S : SH) : Prop :=
  R (.int .i64 x2) I S
def trie_count_b1 (R : Value → IMem → SH → Prop) (n_0 : Option Addr) (I : IMem) (S : SH) : Prop :=
  ptrP n_0 fun x6 =>
  (0 : Int) ≤ (0 : Int) ∧ (0 : Int) < ((2 : Nat) : Int) ∧
  ∃ x9, Cell I S ((x6.add 3).add ((0 : Int).toNat * 1)) (.pointer x9) ∧
  ptrP n_0 fun x13 =>
  (0 : Int) ≤ (1 : Int) ∧ (1 : Int) < ((2 : Nat) : Int) ∧
  ∃ x16, Cell I S ((x13.add 3).add ((1 : Int).toNat * 1)) (.pointer x16) ∧
  Runs Try.prog 36 #[.pointer x9] I S fun v I1 S1 => ∃ x10, v = .int .i64 x10 ∧
  Keep I S I1 S1 ∧
  Runs Try.prog 36 #[.pointer x16] I1 S1 fun v' I1' S1' => ∃ x17, v' = .int .i64 x17 ∧
  trie_count_b2 R (IntKind.wrap .i64 ((IntKind.wrap .i64 ((1 : Int) + x10)) + x17)) I1' S1'
def trie_count (R : Value → IMem → SH → Prop) (n_0 : Option Addr) (I : IMem) (S : SH) : Prop :=
  bcase ((n_0 : Option Addr).isNone)
    (R (.int .i64 0) I S)
    (trie_count_b1 R n_0 I S)
theorem trie_count_fn (R : Value → IMem → SH → Prop) (n_0 : Option Addr) (I : IMem) (S : SH) (h : trie_count R n_0 I S) :
    Runs Try.prog 36 #[.pointer n_0] I S R := by
  refine Runs.of_wp (args := [.pointer n_0]) (c := trie_count_code) Try.func36 (by kernel_rfl) (by kernel_rfl) ?_
  refine WP.cut 2 (fun l I S => asPtr (l 0) fun n_0 => trie_count_b1 R n_0 I S) (cast (by kernel_rfl) h) ?_
  clear h
  intro l I S _ h
  obtain ⟨n_0, e0, h⟩ := asPtr_e h
  rw [upd_eta e0]
  refine WP.seqY (by kernel_rfl) (fun l I S => asI .i64 (l 2) fun x2 => trie_count_b2 R x2 I S) ?_ ?_
  ·
    exact WP.draw' (.take 0 (.take 1 (.take 2 (.take 3 (.take 4 (.take 7 (.take 8 (.take 9 (.take 10 (.take 11 (.step 5 (.take 6 (.step 12 (.take 13 (.take 14 .done))))))))))))))) [5, 12] (by kernel_rfl) (by kernel_rfl) (by kernel_rfl) (by kernel_rfl) (by kernel_rfl) (cast (by kernel_rfl) h)
  · clear h
    intro l I S _ h
    obtain ⟨x2, e2, h⟩ := asI_e h
    rw [upd_eta e2]
    exact Pre.sound _ _ _ _ _ (cast (by kernel_rfl) h)
/-! ### trie_without: function 37, bolter/trie.without -/
noncomputable def trie_without_code : Code := (Try.f37.body).getD .skip
def trie_without_b6 (R : Value → IMem → SH → Prop) (n_0 : Option Addr) (I : IMem) (S : SH) : Prop :=
  ptrP n_0 fun x89 =>
  (0 : Int) ≤ (0 : Int) ∧ (0 : Int) < ((2 : Nat) : Int) ∧
  ∃ x92, Cell I S ((x89.add 3).add ((0 : Int).toNat * 1)) (.pointer x92) ∧
  R (.pointer x92) I S
def trie_without_b8 (R : Value → IMem → SH → Prop) (n_0 : Option Addr) (I : IMem) (S : SH) : Prop :=
  ptrP n_0 fun x121 =>
  (0 : Int) ≤ (1 : Int) ∧ (1 : Int) < ((2 : Nat) : Int) ∧
  ∃ x124, Cell I S ((x121.add 3).add ((1 : Int).toNat * 1)) (.pointer x124) ∧
  R (.pointer x124) I S
def trie_without_b9 (R : Value → IMem → SH → Prop) (I : IMem) (S : SH) : Prop :=
  R (.pointer none) I S
def trie_without_b7 (R : Value → IMem → SH → Prop) (n_0 : Option Addr) (x93 : Bool) (I : IMem) (S : SH) : Prop :=
  bcase x93
    (ptrP n_0 fun x101 =>
    (0 : Int) ≤ (1 : Int) ∧ (1 : Int) < ((2 : Nat) : Int) ∧
    ∃ x104, Cell I S ((x101.add 3).add ((1 : Int).toNat * 1)) (.pointer x104) ∧
    ptrP n_0 fun x106 =>
    ∃ x108, Cell I S x106 (.string x108) ∧
    ptrP n_0 fun x110 =>
    (0 : Int) ≤ (1 : Int) ∧ (1 : Int) < ((2 : Nat) : Int) ∧
    ∃ x113, Cell I S ((x110.add 3).add ((1 : Int).toNat * 1)) (.pointer x113) ∧
    ptrP x113 fun x114 =>
    ∃ x116, Cell I S x114 (.string x116) ∧
    ((x108.size + x116.size : Nat) : Int) ≤ 9223372036854775807 ∧
    ptrP x104 fun x118 =>
    StP S x118 [.string (x108 ++ x116)] fun S1 =>
    trie_without_b8 R n_0 I S1)
    (trie_without_b9 R I S)
def trie_without_b5 (R : Value → IMem → SH → Prop) (n_0 : Option Addr) (x61 : Bool) (I : IMem) (S : SH) : Prop :=
  bcase x61
    (ptrP n_0 fun x69 =>
    (0 : Int) ≤ (0 : Int) ∧ (0 : Int) < ((2 : Nat) : Int) ∧
    ∃ x72, Cell I S ((x69.add 3).add ((0 : Int).toNat * 1)) (.pointer x72) ∧
    ptrP n_0 fun x74 =>
    ∃ x76, Cell I S x74 (.string x76) ∧
    ptrP n_0 fun x78 =>
    (0 : Int) ≤ (0 : Int) ∧ (0 : Int) < ((2 : Nat) : Int) ∧
    ∃ x81, Cell I S ((x78.add 3).add ((0 : Int).toNat * 1)) (.pointer x81) ∧
    ptrP x81 fun x82 =>
    ∃ x84, Cell I S x82 (.string x84) ∧
    ((x76.size + x84.size : Nat) : Int) ≤ 9223372036854775807 ∧
    ptrP x72 fun x86 =>
    StP S x86 [.string (x76 ++ x84)] fun S1 =>
    trie_without_b6 R n_0 I S1)
    (ptrP n_0 fun x95 =>
    (0 : Int) ≤ (1 : Int) ∧ (1 : Int) < ((2 : Nat) : Int) ∧
    ∃ x98, Cell I S ((x95.add 3).add ((1 : Int).toNat * 1)) (.pointer x98) ∧
    trie_without_b7 R n_0 (!(x98 : Option Addr).isNone) I S)
def trie_without_b4 (R : Value → IMem → SH → Prop) (n_0 : Option Addr) (x39 : Bool) (I : IMem) (S : SH) : Prop :=
  bcase x39
    (R (.pointer n_0) I S)
    (ptrP n_0 fun x63 =>
    (0 : Int) ≤ (0 : Int) ∧ (0 : Int) < ((2 : Nat) : Int) ∧
    ∃ x66, Cell I S ((x63.add 3).add ((0 : Int).toNat * 1)) (.pointer x66) ∧
    trie_without_b5 R n_0 (!(x66 : Option Addr).isNone) I S)
def trie_without_b3 (R : Value → IMem → SH → Prop) (n_0 : Option Addr) (I : IMem) (S : SH) : Prop :=
  ptrP n_0 fun x41 =>
  ∃ x43, Cell I S (x41.add 1) (.bool x43) ∧
  bcase x43
    (trie_without_b4 R n_0 true I S)
    (ptrP n_0 fun x46 =>
    (0 : Int) ≤ (0 : Int) ∧ (0 : Int) < ((2 : Nat) : Int) ∧
    ∃ x49, Cell I S ((x46.add 3).add ((0 : Int).toNat * 1)) (.pointer x49) ∧
    bcase (!(x49 : Option Addr).isNone)
      (ptrP n_0 fun x53 =>
      (0 : Int) ≤ (1 : Int) ∧ (1 : Int) < ((2 : Nat) : Int) ∧
      ∃ x56, Cell I S ((x53.add 3).add ((1 : Int).toNat * 1)) (.pointer x56) ∧
      trie_without_b4 R n_0 (!(x56 : Option Addr).isNone) I S)
      (trie_without_b4 R n_0 false I S))
def trie_without_b10 (R : Value → IMem → SH → Prop) (n_0 : Option Addr) (rest_5 : ByteArray) (k_6 : Int) (I : IMem) (S : SH) : Prop :=
  ptrP n_0 fun x30 =>
  (0 : Int) ≤ k_6 ∧ k_6 < ((2 : Nat) : Int) ∧
  ∃ x33, Cell I S ((x30.add 3).add (k_6.toNat * 1)) (.pointer x33) ∧
  ptrP n_0 fun x36 =>
  Runs Try.prog 37 #[.pointer x33, .string rest_5] I S fun v I1 S1 => ∃ x35, v = .pointer x35 ∧
  (0 : Int) ≤ k_6 ∧ k_6 < ((2 : Nat) : Int) ∧
  StP S1 ((x36.add 3).add (k_6.toNat * 1)) [.pointer x35] fun S1' =>
  trie_without_b3 R n_0 I1 S1'
def trie_without_b2 (R : Value → IMem → SH → Prop) (n_0 : Option Addr) (rest_5 : ByteArray) (x16 : Bool) (I : IMem) (S : SH) : Prop :=
  bcase x16
    (ptrP n_0 fun x19 =>
    StP S (x19.add 1) [.bool false] fun S1 =>
    ptrP n_0 fun x21 =>
    StP S1 (x21.add 2) [.int .i64 0] fun S1' =>
    trie_without_b3 R n_0 I S1')
    (∃ cx24 : UInt8, (0 : Int) ≤ (0 : Int) ∧ rest_5[(0 : Int).toNat]? = some cx24 ∧
    trie_without_b10 R n_0 rest_5 (IntKind.wrap .u8 ((cx24.toNat : Int) - (48 : Int))) I S)
def trie_without_b1 (R : Value → IMem → SH → Prop) (n_0 : Option Addr) (rest_5 : ByteArray) (I : IMem) (S : SH) : Prop :=
  trie_without_b2 R n_0 rest_5 ((rest_5.size : Int) == (0 : Int)) I S
def trie_without (R : Value → IMem → SH → Prop) (n_0 : Option Addr) (key_1 : ByteArray) (I : IMem) (S : SH) : Prop :=
  ptrP n_0 fun x9 =>
  ∃ x11, Cell I S x9 (.string x11) ∧
  (0 : Int) ≤ (x11.size : Int) ∧ (x11.size : Int) ≤ ((key_1.size : Nat) : Int) ∧
  trie_without_b1 R n_0 (key_1.extract ((x11.size : Int).toNat) key_1.size) I S
theorem trie_without_fn (R : Value → IMem → SH → Prop) (n_0 : Option Addr) (key_1 : ByteArray) (I : IMem) (S : SH) (h : trie_without R n_0 key_1 I S) :
    Runs Try.prog 37 #[.pointer n_0, .string key_1] I S R := by
  refine Runs.of_wp (args := [.pointer n_0, .string key_1]) (c := trie_without_code) Try.func37 (by kernel_rfl) (by kernel_rfl) ?_
  refine WP.cut 2 (fun l I S => asPtr (l 0) fun n_0 => asStr (l 5) fun rest_5 => trie_without_b1 R n_0 rest_5 I S) (cast (by kernel_rfl) h) ?_
  clear h
  intro l I S _ h
  obtain ⟨n_0, e0, h⟩ := asPtr_e h
  obtain ⟨rest_5, e5, h⟩ := asStr_e h
  rw [upd_eta e0, upd_eta e5]
  refine WP.seqY (by kernel_rfl) (fun l I S => asPtr (l 0) fun n_0 => trie_without_b3 R n_0 I S) ?_ ?_
  ·
    refine WP.cut 1 (fun l I S => asPtr (l 0) fun n_0 => asStr (l 5) fun rest_5 => asB (l 16) fun x16 => trie_without_b2 R n_0 rest_5 x16 I S) (cast (by kernel_rfl) h) ?_
    clear h
    intro l I S _ h
    obtain ⟨n_0, e0, h⟩ := asPtr_e h
    obtain ⟨rest_5, e5, h⟩ := asStr_e h
    obtain ⟨x16, e16, h⟩ := asB_e h
    rw [upd_eta e0, upd_eta e5, upd_eta e16]
    refine WP.cond' (by kernel_rfl) (by kernel_rfl) h ?_ ?_
    · clear h
      intro h
      exact Pre.sound _ _ _ _ _ (cast (by kernel_rfl) h)
    · clear h
      intro h
      refine WP.cut 1 (fun l I S => asPtr (l 0) fun n_0 => asStr (l 5) fun rest_5 => asI .u8 (l 6) fun k_6 => trie_without_b10 R n_0 rest_5 k_6 I S) (cast (by kernel_rfl) h) ?_
      clear h
      intro l I S _ h
      obtain ⟨n_0, e0, h⟩ := asPtr_e h
      obtain ⟨rest_5, e5, h⟩ := asStr_e h
      obtain ⟨k_6, e6, h⟩ := asI_e h
      rw [upd_eta e0, upd_eta e5, upd_eta e6]
      exact WP.draw' (.take 0 (.take 1 (.take 2 (.take 3 (.take 4 (.take 5 (.take 6 (.take 7 (.take 8 (.take 10 (.take 11 (.step 9 (.take 12 (.step 13 .done)))))))))))))) [9, 13] (by kernel_rfl) (by kernel_rfl) (by kernel_rfl) (by kernel_rfl) (by kernel_rfl) (cast (by kernel_rfl) h)
  · clear h
    intro l I S _ h
    obtain ⟨n_0, e0, h⟩ := asPtr_e h
    rw [upd_eta e0]
    refine WP.seqY (by kernel_rfl) (fun l I S => trie_without_b9 R I S) ?_ ?_
    ·
      refine WP.block' (by kernel_rfl) ?_
      refine WP.cut 1 (fun l I S => asPtr (l 0) fun n_0 => asB (l 39) fun x39 => trie_without_b4 R n_0 x39 I S) (cast (by kernel_rfl) h) ?_
      clear h
      intro l I S _ h
      obtain ⟨n_0, e0, h⟩ := asPtr_e h
      obtain ⟨x39, e39, h⟩ := asB_e h
      rw [upd_eta e0, upd_eta e39]
      refine WP.cond' (by kernel_rfl) (by kernel_rfl) h ?_ ?_
      · clear h
        intro h
        exact Pre.sound _ _ _ _ _ (cast (by kernel_rfl) h)
      · clear h
        intro h
        refine WP.cut 1 (fun l I S => asPtr (l 0) fun n_0 => asB (l 61) fun x61 => trie_without_b5 R n_0 x61 I S) (cast (by kernel_rfl) h) ?_
        clear h
        intro l I S _ h
        obtain ⟨n_0, e0, h⟩ := asPtr_e h
        obtain ⟨x61, e61, h⟩ := asB_e h
        rw [upd_eta e0, upd_eta e61]
        refine WP.cond' (by kernel_rfl) (by kernel_rfl) h ?_ ?_
        · clear h
          intro h
          refine WP.seqY (by kernel_rfl) (fun l I S => asPtr (l 0) fun n_0 => trie_without_b6 R n_0 I S) ?_ ?_
          ·
            exact WP.draw' (.take 0 (.take 1 (.take 2 (.take 3 (.take 4 (.take 5 (.take 6 (.take 7 (.take 8 (.take 9 (.take 10 (.take 11 (.take 12 (.take 13 (.take 14 (.take 15 (.take 16 (.take 17 (.take 18 (.take 19 (.step 20 .done))))))))))))))))))))) [20] (by kernel_rfl) (by kernel_rfl) (by kernel_rfl) (by kernel_rfl) (by kernel_rfl) (cast (by kernel_rfl) h)
          · clear h
            intro l I S _ h
            obtain ⟨n_0, e0, h⟩ := asPtr_e h
            rw [upd_eta e0]
            exact Pre.sound _ _ _ _ _ (cast (by kernel_rfl) h)
        · clear h
          intro h
          refine WP.cut 1 (fun l I S => asPtr (l 0) fun n_0 => asB (l 93) fun x93 => trie_without_b7 R n_0 x93 I S) (cast (by kernel_rfl) h) ?_
          clear h
          intro l I S _ h
          obtain ⟨n_0, e0, h⟩ := asPtr_e h
          obtain ⟨x93, e93, h⟩ := asB_e h
          rw [upd_eta e0, upd_eta e93]
          refine WP.cond' (by kernel_rfl) (by kernel_rfl) h ?_ ?_
          · clear h
            intro h
            refine WP.seqY (by kernel_rfl) (fun l I S => asPtr (l 0) fun n_0 => trie_without_b8 R n_0 I S) ?_ ?_
            ·
              exact WP.draw' (.take 0 (.take 1 (.take 2 (.take 3 (.take 4 (.take 5 (.take 6 (.take 7 (.take 8 (.take 9 (.take 10 (.take 11 (.take 12 (.take 13 (.take 14 (.take 15 (.take 16 (.take 17 (.take 18 (.take 19 (.step 20 .done))))))))))))))))))))) [20] (by kernel_rfl) (by kernel_rfl) (by kernel_rfl) (by kernel_rfl) (by kernel_rfl) (cast (by kernel_rfl) h)
            · clear h
              intro l I S _ h
              obtain ⟨n_0, e0, h⟩ := asPtr_e h
              rw [upd_eta e0]
              exact Pre.sound _ _ _ _ _ (cast (by kernel_rfl) h)
          · clear h
            intro h
            exact Pre.sound _ _ _ _ _ (cast (by kernel_rfl) h)
    · clear h
      intro l I S _ h
      exact Pre.sound _ _ _ _ _ (cast (by kernel_rfl) h)
end Go.Proofs.Ytoeecjlencaglaa
