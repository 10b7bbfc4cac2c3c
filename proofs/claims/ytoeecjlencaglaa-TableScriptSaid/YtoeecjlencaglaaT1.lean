import Derived.Test.YtoeecjlencaglaaProg
import Derived.Test.YtoeecjlencaglaaPx6
set_option linter.unusedVariables false
namespace Go.Proofs.Ytoeecjlencaglaa
open Go.Px
/-! ### bolterlaw15_TableHash: function 3, bolter/bolterlaw15.TableHash -/
noncomputable def bolterlaw15_TableHash_code : Code := (Try.f3.body).getD .skip
def bolterlaw15_TableHash_b6 (R : Value → IMem → SH → Prop) (x4 : Bool) (I : IMem) (S : SH) : Prop :=
  R (.bool x4) I S
def bolterlaw15_TableHash_b5 (R : Value → IMem → SH → Prop) (key_0 : ByteArray) (slots_1 : Int) (h_5 : Int) (n_7 : Int) (I : IMem) (S : SH) : Prop :=
  ∃ x29, Runs Try.prog 15 #[.string key_0, .int .i64 slots_1] I S (fun v' _ T => v' = .int .i64 x29 ∧ T = S) ∧
  bcase (decide (n_7 = 0)) False (bolterlaw15_TableHash_b6 R ((IntKind.wrap .u64 x29) == (h_5.tmod n_7)) I S)
def bolterlaw15_TableHash_b4 (R : Value → IMem → SH → Prop) (key_0 : ByteArray) (slots_1 : Int) (h_5 : Int) (I : IMem) (S : SH) : Prop :=
  bolterlaw15_TableHash_b5 R key_0 slots_1 h_5 (IntKind.wrap .u64 (if slots_1 > (1 : Int) then slots_1 else (1 : Int))) I S
def bolterlaw15_TableHash_l3 (again3 : ByteArray → Int → Int → Int → IMem → SH → Prop) (R : Value → IMem → SH → Prop) (key_0 : ByteArray) (slots_1 : Int) (h_5 : Int) (k_6 : Int) (I : IMem) (S : SH) : Prop :=
  bcase (decide (k_6 < (key_0.size : Int)))
    (∃ cx20 : UInt8, (0 : Int) ≤ k_6 ∧ key_0[k_6.toNat]? = some cx20 ∧
    again3 key_0 slots_1 ((IntKind.wrap .u64 ((IntKind.wrap .u64 (h_5 * (31 : Int))) + (IntKind.wrap .u64 (cx20.toNat : Int)))).tmod (4294967296 : Int)) (IntKind.wrap .i64 (k_6 + (1 : Int))) I S)
    (bolterlaw15_TableHash_b4 R key_0 slots_1 h_5 I S)
def bolterlaw15_TableHash_b2 (R : Value → IMem → SH → Prop) (key_0 : ByteArray) (slots_1 : Int) (h_5 : Int) (k_6 : Int) (I : IMem) (S : SH) : Prop :=
  ∃ (Inv : Nat → ByteArray → Int → Int → Int → IMem → SH → Prop) (m : Nat), Inv m key_0 slots_1 h_5 k_6 I S ∧
    ∀ (m : Nat) (key_0 : ByteArray) (slots_1 : Int) (h_5 : Int) (k_6 : Int) (J : IMem) (T : SH), I.le J → Inv m key_0 slots_1 h_5 k_6 J T →
      bolterlaw15_TableHash_l3 (fun key_0 slots_1 h_5 k_6 I S => ∃ m', m' < m ∧ Inv m' key_0 slots_1 h_5 k_6 I S) R key_0 slots_1 h_5 k_6 J T
def bolterlaw15_TableHash_b1 (R : Value → IMem → SH → Prop) (key_0 : ByteArray) (slots_1 : Int) (h_5 : Int) (I : IMem) (S : SH) : Prop :=
  bolterlaw15_TableHash_b2 R key_0 slots_1 h_5 0 I S
def bolterlaw15_TableHash (R : Value → IMem → SH → Prop) (key_0 : ByteArray) (slots_1 : Int) (I : IMem) (S : SH) : Prop :=
  Runs Try.prog 14 #[] I S fun v I1 S1 => ∃ x8, v = .bool x8 ∧
  bcase (!x8)
    (R (.bool false) I1 S1)
    (bolterlaw15_TableHash_b1 R key_0 slots_1 17 I1 S1)
theorem bolterlaw15_TableHash_fn (R : Value → IMem → SH → Prop) (key_0 : ByteArray) (slots_1 : Int) (I : IMem) (S : SH) (h : bolterlaw15_TableHash R key_0 slots_1 I S) :
    Runs Try.prog 3 #[.string key_0, .int .i64 slots_1] I S R := by
  refine Runs.of_wp (args := [.string key_0, .int .i64 slots_1]) (c := bolterlaw15_TableHash_code) Try.func3 (by kernel_rfl) (by kernel_rfl) ?_
  refine WP.cut 3 (fun l I S => asStr (l 0) fun key_0 => asI .i64 (l 1) fun slots_1 => asI .u64 (l 5) fun h_5 => bolterlaw15_TableHash_b1 R key_0 slots_1 h_5 I S) (cast (by kernel_rfl) h) ?_
  clear h
  intro l I S _ h
  obtain ⟨key_0, e0, h⟩ := asStr_e h
  obtain ⟨slots_1, e1, h⟩ := asI_e h
  obtain ⟨h_5, e5, h⟩ := asI_e h
  rw [upd_eta e0, upd_eta e1, upd_eta e5]
  refine WP.seqY (by kernel_rfl) (fun l I S => asStr (l 0) fun key_0 => asI .i64 (l 1) fun slots_1 => asI .u64 (l 5) fun h_5 => bolterlaw15_TableHash_b4 R key_0 slots_1 h_5 I S) ?_ ?_
  ·
    refine WP.cut 1 (fun l I S => asStr (l 0) fun key_0 => asI .i64 (l 1) fun slots_1 => asI .u64 (l 5) fun h_5 => asI .i64 (l 6) fun k_6 => bolterlaw15_TableHash_b2 R key_0 slots_1 h_5 k_6 I S) (cast (by kernel_rfl) h) ?_
    clear h
    intro l I S _ h
    obtain ⟨key_0, e0, h⟩ := asStr_e h
    obtain ⟨slots_1, e1, h⟩ := asI_e h
    obtain ⟨h_5, e5, h⟩ := asI_e h
    obtain ⟨k_6, e6, h⟩ := asI_e h
    rw [upd_eta e0, upd_eta e1, upd_eta e5, upd_eta e6]
    refine WP.block' (by kernel_rfl) ?_
    obtain ⟨Inv_again3, m_again3, h0, hr⟩ := h
    refine WP.loop' (by kernel_rfl) (fun m_again3 => fun l I S => asStr (l 0) fun key_0 => asI .i64 (l 1) fun slots_1 => asI .u64 (l 5) fun h_5 => asI .i64 (l 6) fun k_6 => Inv_again3 m_again3 key_0 slots_1 h_5 k_6 I S) m_again3 (cast (by kernel_rfl) h0) ?_
    clear h0
    intro m_again3 l I S hle h
    obtain ⟨key_0, e0, h⟩ := asStr_e h
    obtain ⟨slots_1, e1, h⟩ := asI_e h
    obtain ⟨h_5, e5, h⟩ := asI_e h
    obtain ⟨k_6, e6, h⟩ := asI_e h
    rw [upd_eta e0, upd_eta e1, upd_eta e5, upd_eta e6]
    have h := hr m_again3 key_0 slots_1 h_5 k_6 I S hle h
    clear hr hle
    exact Pre.sound _ _ _ _ _ (cast (by kernel_rfl) h)
  · clear h
    intro l I S _ h
    obtain ⟨key_0, e0, h⟩ := asStr_e h
    obtain ⟨slots_1, e1, h⟩ := asI_e h
    obtain ⟨h_5, e5, h⟩ := asI_e h
    rw [upd_eta e0, upd_eta e1, upd_eta e5]
    refine WP.cut 1 (fun l I S => asStr (l 0) fun key_0 => asI .i64 (l 1) fun slots_1 => asI .u64 (l 5) fun h_5 => asI .u64 (l 7) fun n_7 => bolterlaw15_TableHash_b5 R key_0 slots_1 h_5 n_7 I S) (cast (by kernel_rfl) h) ?_
    clear h
    intro l I S _ h
    obtain ⟨key_0, e0, h⟩ := asStr_e h
    obtain ⟨slots_1, e1, h⟩ := asI_e h
    obtain ⟨h_5, e5, h⟩ := asI_e h
    obtain ⟨n_7, e7, h⟩ := asI_e h
    rw [upd_eta e0, upd_eta e1, upd_eta e5, upd_eta e7]
    refine WP.seqY (by kernel_rfl) (fun l I S => asB (l 4) fun x4 => bolterlaw15_TableHash_b6 R x4 I S) ?_ ?_
    ·
      exact WP.quiet' (by kernel_rfl) (by kernel_rfl) (by kernel_rfl) (cast (by kernel_rfl) h)
    · clear h
      intro l I S _ h
      obtain ⟨x4, e4, h⟩ := asB_e h
      rw [upd_eta e4]
      exact Pre.sound _ _ _ _ _ (cast (by kernel_rfl) h)
/-! ### bolterlaw15_awake: function 14, bolter/bolterlaw15.awake -/
noncomputable def bolterlaw15_awake_code : Code := (Try.f14.body).getD .skip
def bolterlaw15_awake_b1 (R : Value → IMem → SH → Prop) (x0 : Bool) (I : IMem) (S : SH) : Prop :=
  R (.bool x0) I S
def bolterlaw15_awake (R : Value → IMem → SH → Prop) (I : IMem) (S : SH) : Prop :=
  ∀ b7 : Nat,
  Runs Try.prog 21 #[.pointer (some ⟨b7, 0, none⟩), .string ⟨#[97]⟩, .int .i64 1] I ((b7, .cells #[.slice none 0 0, .int .i64 0, .int .i64 0] 38 (0, 0)) :: S) fun v I1 S1 => ∃ x9, v = .bool x9 ∧
  Runs Try.prog 21 #[.pointer (some ⟨b7, 0, none⟩), .string ⟨#[97]⟩, .int .i64 2] I1 S1 fun v' I1' S1' => ∃ x11, v' = .bool x11 ∧
  Runs Try.prog 23 #[.pointer (some ⟨b7, 0, none⟩), .string ⟨#[97]⟩] I1' S1' fun v'' I1'' S1'' => ∃ x14_0 x14_1, v'' = .tuple #[.int .i64 x14_0, .bool x14_1] ∧
  bcase x9
    (bcase (!x11)
      (bcase (x14_0 == (2 : Int))
        (bcase x14_1
          (Runs Try.prog 24 #[.pointer (some ⟨b7, 0, none⟩)] I1'' S1'' fun v_r3 I1_r3 S1_r3 => ∃ x31, v_r3 = .int .i64 x31 ∧
          bolterlaw15_awake_b1 R (x31 == (1 : Int)) I1_r3 S1_r3)
          (bolterlaw15_awake_b1 R false I1'' S1''))
        (bolterlaw15_awake_b1 R false I1'' S1''))
      (bolterlaw15_awake_b1 R false I1'' S1''))
    (bolterlaw15_awake_b1 R false I1'' S1'')
theorem bolterlaw15_awake_fn (R : Value → IMem → SH → Prop) (I : IMem) (S : SH) (h : bolterlaw15_awake R I S) :
    Runs Try.prog 14 #[] I S R := by
  refine Runs.of_wp (args := []) (c := bolterlaw15_awake_code) Try.func14 (by kernel_rfl) (by kernel_rfl) ?_
  refine WP.cut 5 (fun l I S => asB (l 0) fun x0 => bolterlaw15_awake_b1 R x0 I S) (cast (by kernel_rfl) h) ?_
  clear h
  intro l I S _ h
  obtain ⟨x0, e0, h⟩ := asB_e h
  rw [upd_eta e0]
  exact Pre.sound _ _ _ _ _ (cast (by kernel_rfl) h)
/-! ### table_Hash: function 15, bolter/table.Hash -/
noncomputable def table_Hash_code : Code := (Try.f15.body).getD .skip
def table_Hash_b4 (R : Value → IMem → SH → Prop) (slots_1 : Int) (h_5 : Int) (I : IMem) (S : SH) : Prop :=
  bcase (decide ((IntKind.wrap .u64 (if slots_1 > (1 : Int) then slots_1 else (1 : Int))) = 0)) False (R (.int .i64 (IntKind.wrap .i64 ((IntKind.wrap .u64 h_5).tmod (IntKind.wrap .u64 (if slots_1 > (1 : Int) then slots_1 else (1 : Int)))))) I S)
def table_Hash_l3 (again3 : ByteArray → Int → Int → Int → Int → IMem → SH → Prop) (R : Value → IMem → SH → Prop) (key_0 : ByteArray) (slots_1 : Int) (h_5 : Int) (x8 : Int) (x9 : Int) (I : IMem) (S : SH) : Prop :=
  bcase (decide (x9 < x8))
    (∃ cx16 : UInt8, (0 : Int) ≤ x9 ∧ key_0[x9.toNat]? = some cx16 ∧
    again3 key_0 slots_1 (IntKind.wrap .u32 ((IntKind.wrap .u32 (h_5 * (31 : Int))) + (IntKind.wrap .u32 (cx16.toNat : Int)))) x8 (IntKind.wrap .i64 (x9 + (1 : Int))) I S)
    (table_Hash_b4 R slots_1 h_5 I S)
def table_Hash_b2 (R : Value → IMem → SH → Prop) (key_0 : ByteArray) (slots_1 : Int) (h_5 : Int) (x8 : Int) (x9 : Int) (I : IMem) (S : SH) : Prop :=
  ∃ (Inv : Nat → ByteArray → Int → Int → Int → Int → IMem → SH → Prop) (m : Nat), Inv m key_0 slots_1 h_5 x8 x9 I S ∧
    ∀ (m : Nat) (key_0 : ByteArray) (slots_1 : Int) (h_5 : Int) (x8 : Int) (x9 : Int) (J : IMem) (T : SH), I.le J → Inv m key_0 slots_1 h_5 x8 x9 J T →
      table_Hash_l3 (fun key_0 slots_1 h_5 x8 x9 I S => ∃ m', m' < m ∧ Inv m' key_0 slots_1 h_5 x8 x9 I S) R key_0 slots_1 h_5 x8 x9 J T
def table_Hash_b1 (R : Value → IMem → SH → Prop) (key_0 : ByteArray) (slots_1 : Int) (h_5 : Int) (I : IMem) (S : SH) : Prop :=
  table_Hash_b2 R key_0 slots_1 h_5 (key_0.size : Int) 0 I S
def table_Hash (R : Value → IMem → SH → Prop) (key_0 : ByteArray) (slots_1 : Int) (I : IMem) (S : SH) : Prop :=
  table_Hash_b1 R key_0 slots_1 17 I S
theorem table_Hash_fn (R : Value → IMem → SH → Prop) (key_0 : ByteArray) (slots_1 : Int) (I : IMem) (S : SH) (h : table_Hash R key_0 slots_1 I S) :
    Runs Try.prog 15 #[.string key_0, .int .i64 slots_1] I S R := by
  refine Runs.of_wp (args := [.string key_0, .int .i64 slots_1]) (c := table_Hash_code) Try.func15 (by kernel_rfl) (by kernel_rfl) ?_
  refine WP.cut 2 (fun l I S => asStr (l 0) fun key_0 => asI .i64 (l 1) fun slots_1 => asI .u32 (l 5) fun h_5 => table_Hash_b1 R key_0 slots_1 h_5 I S) (cast (by kernel_rfl) h) ?_
  clear h
  intro l I S _ h
  obtain ⟨key_0, e0, h⟩ := asStr_e h
  obtain ⟨slots_1, e1, h⟩ := asI_e h
  obtain ⟨h_5, e5, h⟩ := asI_e h
  rw [upd_eta e0, upd_eta e1, upd_eta e5]
  refine WP.seqY (by kernel_rfl) (fun l I S => asI .i64 (l 1) fun slots_1 => asI .u32 (l 5) fun h_5 => table_Hash_b4 R slots_1 h_5 I S) ?_ ?_
  ·
    refine WP.cut 1 (fun l I S => asStr (l 0) fun key_0 => asI .i64 (l 1) fun slots_1 => asI .u32 (l 5) fun h_5 => asI .i64 (l 8) fun x8 => asI .i64 (l 9) fun x9 => table_Hash_b2 R key_0 slots_1 h_5 x8 x9 I S) (cast (by kernel_rfl) h) ?_
    clear h
    intro l I S _ h
    obtain ⟨key_0, e0, h⟩ := asStr_e h
    obtain ⟨slots_1, e1, h⟩ := asI_e h
    obtain ⟨h_5, e5, h⟩ := asI_e h
    obtain ⟨x8, e8, h⟩ := asI_e h
    obtain ⟨x9, e9, h⟩ := asI_e h
    rw [upd_eta e0, upd_eta e1, upd_eta e5, upd_eta e8, upd_eta e9]
    refine WP.block' (by kernel_rfl) ?_
    obtain ⟨Inv_again3, m_again3, h0, hr⟩ := h
    refine WP.loop' (by kernel_rfl) (fun m_again3 => fun l I S => asStr (l 0) fun key_0 => asI .i64 (l 1) fun slots_1 => asI .u32 (l 5) fun h_5 => asI .i64 (l 8) fun x8 => asI .i64 (l 9) fun x9 => Inv_again3 m_again3 key_0 slots_1 h_5 x8 x9 I S) m_again3 (cast (by kernel_rfl) h0) ?_
    clear h0
    intro m_again3 l I S hle h
    obtain ⟨key_0, e0, h⟩ := asStr_e h
    obtain ⟨slots_1, e1, h⟩ := asI_e h
    obtain ⟨h_5, e5, h⟩ := asI_e h
    obtain ⟨x8, e8, h⟩ := asI_e h
    obtain ⟨x9, e9, h⟩ := asI_e h
    rw [upd_eta e0, upd_eta e1, upd_eta e5, upd_eta e8, upd_eta e9]
    have h := hr m_again3 key_0 slots_1 h_5 x8 x9 I S hle h
    clear hr hle
    exact Pre.sound _ _ _ _ _ (cast (by kernel_rfl) h)
  · clear h
    intro l I S _ h
    obtain ⟨slots_1, e1, h⟩ := asI_e h
    obtain ⟨h_5, e5, h⟩ := asI_e h
    rw [upd_eta e1, upd_eta e5]
    exact Pre.sound _ _ _ _ _ (cast (by kernel_rfl) h)
/-! ### table_Table_Put: function 21, (*bolter/table.Table).Put -/
noncomputable def table_Table_Put_code : Code := (Try.f21.body).getD .skip
def table_Table_Put_b4 (R : Value → IMem → SH → Prop) (t_0 : Option Addr) (key_1 : ByteArray) (value_2 : Int) (at_7 : Int) (is_8 : Bool) (I : IMem) (S : SH) : Prop :=
  ptrP t_0 fun x55 =>
  ∃ x57 x57n x57c, Cell I S x55 (.slice x57 x57n x57c) ∧
  ptrP x57 fun x62 => (0 : Int) ≤ at_7 ∧ at_7 < (x57n : Int) ∧
  StP S (x62.add (at_7.toNat * 4)) [.string key_1, .int .i64 value_2, .bool true, .bool false] fun S1 =>
  R (.bool (!is_8)) I S1
def table_Table_Put_b3 (R : Value → IMem → SH → Prop) (t_0 : Option Addr) (key_1 : ByteArray) (value_2 : Int) (I : IMem) (S : SH) : Prop :=
  Runs Try.prog 35 #[.pointer t_0, .string key_1] I S fun v I1 S1 => ∃ x26_0 x26_1, v = .tuple #[.int .i64 x26_0, .bool x26_1] ∧
  bcase (!x26_1)
    (ptrP t_0 fun x32 =>
    ∃ x34, Cell I1 S1 (x32.add 1) (.int .i64 x34) ∧
    ptrP t_0 fun x36 =>
    StP S1 (x36.add 1) [.int .i64 (IntKind.wrap .i64 (x34 + (1 : Int)))] fun S1' =>
    ptrP t_0 fun x39 =>
    ∃ x41 x41n x41c, Cell I1 S1' x39 (.slice x41 x41n x41c) ∧
    ptrP x41 fun x43 => (0 : Int) ≤ x26_0 ∧ x26_0 < (x41n : Int) ∧
    ∃ x45, Cell I1 S1' ((x43.add (x26_0.toNat * 4)).add 3) (.bool x45) ∧
    bcase (!x45)
      (ptrP t_0 fun x48 =>
      ∃ x50, Cell I1 S1' (x48.add 2) (.int .i64 x50) ∧
      ptrP t_0 fun x52 =>
      StP S1' (x52.add 2) [.int .i64 (IntKind.wrap .i64 (x50 + (1 : Int)))] fun S1'' =>
      table_Table_Put_b4 R t_0 key_1 value_2 x26_0 x26_1 I1 S1'')
      (table_Table_Put_b4 R t_0 key_1 value_2 x26_0 x26_1 I1 S1'))
    (table_Table_Put_b4 R t_0 key_1 value_2 x26_0 x26_1 I1 S1)
def table_Table_Put_b2 (R : Value → IMem → SH → Prop) (t_0 : Option Addr) (key_1 : ByteArray) (value_2 : Int) (x20 : Bool) (I : IMem) (S : SH) : Prop :=
  bcase x20
    (Runs Try.prog 34 #[.pointer t_0] I S fun v I1 S1 => v = .tuple #[] ∧
    table_Table_Put_b3 R t_0 key_1 value_2 I1 S1)
    (table_Table_Put_b3 R t_0 key_1 value_2 I S)
def table_Table_Put_b1 (R : Value → IMem → SH → Prop) (t_0 : Option Addr) (key_1 : ByteArray) (value_2 : Int) (I : IMem) (S : SH) : Prop :=
  ptrP t_0 fun x10 =>
  ∃ x12, Cell I S (x10.add 2) (.int .i64 x12) ∧
  ptrP t_0 fun x16 =>
  ∃ x18 x18n x18c, Cell I S x16 (.slice x18 x18n x18c) ∧
  table_Table_Put_b2 R t_0 key_1 value_2 (decide ((IntKind.wrap .i64 ((2 : Int) * (IntKind.wrap .i64 (x12 + (1 : Int))))) > (x18n : Int))) I S
def table_Table_Put (R : Value → IMem → SH → Prop) (t_0 : Option Addr) (key_1 : ByteArray) (value_2 : Int) (I : IMem) (S : SH) : Prop :=
  table_Table_Put_b1 R t_0 key_1 value_2 I S
theorem table_Table_Put_fn (R : Value → IMem → SH → Prop) (t_0 : Option Addr) (key_1 : ByteArray) (value_2 : Int) (I : IMem) (S : SH) (h : table_Table_Put R t_0 key_1 value_2 I S) :
    Runs Try.prog 21 #[.pointer t_0, .string key_1, .int .i64 value_2] I S R := by
  refine Runs.of_wp (args := [.pointer t_0, .string key_1, .int .i64 value_2]) (c := table_Table_Put_code) Try.func21 (by kernel_rfl) (by kernel_rfl) ?_
  refine WP.cut 1 (fun l I S => asPtr (l 0) fun t_0 => asStr (l 1) fun key_1 => asI .i64 (l 2) fun value_2 => table_Table_Put_b1 R t_0 key_1 value_2 I S) (cast (by kernel_rfl) h) ?_
  clear h
  intro l I S _ h
  obtain ⟨t_0, e0, h⟩ := asPtr_e h
  obtain ⟨key_1, e1, h⟩ := asStr_e h
  obtain ⟨value_2, e2, h⟩ := asI_e h
  rw [upd_eta e0, upd_eta e1, upd_eta e2]
  refine WP.seqY (by kernel_rfl) (fun l I S => asPtr (l 0) fun t_0 => asStr (l 1) fun key_1 => asI .i64 (l 2) fun value_2 => table_Table_Put_b3 R t_0 key_1 value_2 I S) ?_ ?_
  ·
    refine WP.seqY (by kernel_rfl) (fun l I S => asPtr (l 0) fun t_0 => asStr (l 1) fun key_1 => asI .i64 (l 2) fun value_2 => asB (l 20) fun x20 => table_Table_Put_b2 R t_0 key_1 value_2 x20 I S) ?_ ?_
    ·
      exact WP.quiet' (by kernel_rfl) (by kernel_rfl) (by kernel_rfl) (cast (by kernel_rfl) h)
    · clear h
      intro l I S _ h
      obtain ⟨t_0, e0, h⟩ := asPtr_e h
      obtain ⟨key_1, e1, h⟩ := asStr_e h
      obtain ⟨value_2, e2, h⟩ := asI_e h
      obtain ⟨x20, e20, h⟩ := asB_e h
      rw [upd_eta e0, upd_eta e1, upd_eta e2, upd_eta e20]
      exact Pre.sound _ _ _ _ _ (cast (by kernel_rfl) h)
  · clear h
    intro l I S _ h
    obtain ⟨t_0, e0, h⟩ := asPtr_e h
    obtain ⟨key_1, e1, h⟩ := asStr_e h
    obtain ⟨value_2, e2, h⟩ := asI_e h
    rw [upd_eta e0, upd_eta e1, upd_eta e2]
    refine WP.cut 2 (fun l I S => asPtr (l 0) fun t_0 => asStr (l 1) fun key_1 => asI .i64 (l 2) fun value_2 => asI .i64 (l 7) fun at_7 => asB (l 8) fun is_8 => table_Table_Put_b4 R t_0 key_1 value_2 at_7 is_8 I S) (cast (by kernel_rfl) h) ?_
    clear h
    intro l I S _ h
    obtain ⟨t_0, e0, h⟩ := asPtr_e h
    obtain ⟨key_1, e1, h⟩ := asStr_e h
    obtain ⟨value_2, e2, h⟩ := asI_e h
    obtain ⟨at_7, e7, h⟩ := asI_e h
    obtain ⟨is_8, e8, h⟩ := asB_e h
    rw [upd_eta e0, upd_eta e1, upd_eta e2, upd_eta e7, upd_eta e8]
    exact Pre.sound _ _ _ _ _ (cast (by kernel_rfl) h)
/-! ### table_Table_Del: function 22, (*bolter/table.Table).Del -/
noncomputable def table_Table_Del_code : Code := (Try.f22.body).getD .skip
def table_Table_Del_b1 (R : Value → IMem → SH → Prop) (is_6 : Bool) (I : IMem) (S : SH) : Prop :=
  R (.bool is_6) I S
def table_Table_Del (R : Value → IMem → SH → Prop) (t_0 : Option Addr) (key_1 : ByteArray) (I : IMem) (S : SH) : Prop :=
  ptrP t_0 fun x8 =>
  ∃ x10 x10n x10c, Cell I S x8 (.slice x10 x10n x10c) ∧
  bcase ((x10n : Int) == (0 : Int))
    (R (.bool false) I S)
    (Runs Try.prog 35 #[.pointer t_0, .string key_1] I S fun v I1 S1 => ∃ x16_0 x16_1, v = .tuple #[.int .i64 x16_0, .bool x16_1] ∧
    bcase x16_1
      (ptrP t_0 fun x21 =>
      ∃ x23 x23n x23c, Cell I1 S1 x21 (.slice x23 x23n x23c) ∧
      ptrP x23 fun x26 => (0 : Int) ≤ x16_0 ∧ x16_0 < (x23n : Int) ∧
      StP S1 (x26.add (x16_0.toNat * 4)) [.string ⟨#[]⟩, .int .i64 0, .bool false, .bool true] fun S1' =>
      ptrP t_0 fun x28 =>
      ∃ x30, Cell I1 S1' (x28.add 1) (.int .i64 x30) ∧
      ptrP t_0 fun x32 =>
      StP S1' (x32.add 1) [.int .i64 (IntKind.wrap .i64 (x30 - (1 : Int)))] fun S1'' =>
      table_Table_Del_b1 R x16_1 I1 S1'')
      (table_Table_Del_b1 R x16_1 I1 S1))
theorem table_Table_Del_fn (R : Value → IMem → SH → Prop) (t_0 : Option Addr) (key_1 : ByteArray) (I : IMem) (S : SH) (h : table_Table_Del R t_0 key_1 I S) :
    Runs Try.prog 22 #[.pointer t_0, .string key_1] I S R := by
  refine Runs.of_wp (args := [.pointer t_0, .string key_1]) (c := table_Table_Del_code) Try.func22 (by kernel_rfl) (by kernel_rfl) ?_
  refine WP.cut 4 (fun l I S => asB (l 6) fun is_6 => table_Table_Del_b1 R is_6 I S) (cast (by kernel_rfl) h) ?_
  clear h
  intro l I S _ h
  obtain ⟨is_6, e6, h⟩ := asB_e h
  rw [upd_eta e6]
  exact Pre.sound _ _ _ _ _ (cast (by kernel_rfl) h)
/-! ### table_Table_Get: function 23, (*bolter/table.Table).Get -/
noncomputable def table_Table_Get_code : Code := (Try.f23.body).getD .skip
def table_Table_Get (R : Value → IMem → SH → Prop) (t_0 : Option Addr) (key_1 : ByteArray) (I : IMem) (S : SH) : Prop :=
  ptrP t_0 fun x9 =>
  ∃ x11 x11n x11c, Cell I S x9 (.slice x11 x11n x11c) ∧
  bcase ((x11n : Int) == (0 : Int))
    (R (.tuple #[.int .i64 0, .bool false]) I S)
    (Runs Try.prog 35 #[.pointer t_0, .string key_1] I S fun v I1 S1 => ∃ x17_0 x17_1, v = .tuple #[.int .i64 x17_0, .bool x17_1] ∧
    bcase (!x17_1)
      (R (.tuple #[.int .i64 0, .bool false]) I1 S1)
      (ptrP t_0 fun x23 =>
      ∃ x25 x25n x25c, Cell I1 S1 x23 (.slice x25 x25n x25c) ∧
      ptrP x25 fun x27 => (0 : Int) ≤ x17_0 ∧ x17_0 < (x25n : Int) ∧
      ∃ x29, Cell I1 S1 ((x27.add (x17_0.toNat * 4)).add 1) (.int .i64 x29) ∧
      R (.tuple #[.int .i64 x29, .bool true]) I1 S1))
theorem table_Table_Get_fn (R : Value → IMem → SH → Prop) (t_0 : Option Addr) (key_1 : ByteArray) (I : IMem) (S : SH) (h : table_Table_Get R t_0 key_1 I S) :
    Runs Try.prog 23 #[.pointer t_0, .string key_1] I S R := by
  refine Runs.of_wp (args := [.pointer t_0, .string key_1]) (c := table_Table_Get_code) Try.func23 (by kernel_rfl) (by kernel_rfl) ?_
  exact Pre.sound _ _ _ _ _ (cast (by kernel_rfl) h)
/-! ### table_Table_Len: function 24, (*bolter/table.Table).Len -/
noncomputable def table_Table_Len_code : Code := (Try.f24.body).getD .skip
def table_Table_Len (R : Value → IMem → SH → Prop) (t_0 : Option Addr) (I : IMem) (S : SH) : Prop :=
  ptrP t_0 fun x4 =>
  ∃ x6, Cell I S (x4.add 1) (.int .i64 x6) ∧
  R (.int .i64 x6) I S
theorem table_Table_Len_fn (R : Value → IMem → SH → Prop) (t_0 : Option Addr) (I : IMem) (S : SH) (h : table_Table_Len R t_0 I S) :
    Runs Try.prog 24 #[.pointer t_0] I S R := by
  refine Runs.of_wp (args := [.pointer t_0]) (c := table_Table_Len_code) Try.func24 (by kernel_rfl) (by kernel_rfl) ?_
  exact Pre.sound _ _ _ _ _ (cast (by kernel_rfl) h)
/-! ### table_Table_Slots: function 26, (*bolter/table.Table).Slots -/
noncomputable def table_Table_Slots_code : Code := (Try.f26.body).getD .skip
def table_Table_Slots_b2 (R : Value → IMem → SH → Prop) (x2 : Int) (x3 : Int) (I : IMem) (S : SH) : Prop :=
  R (.tuple #[.int .i64 x2, .int .i64 x3]) I S
def table_Table_Slots_b1 (R : Value → IMem → SH → Prop) (t_0 : Option Addr) (I : IMem) (S : SH) : Prop :=
  ptrP t_0 fun x5 =>
  ∃ x7 x7n x7c, Cell I S x5 (.slice x7 x7n x7c) ∧
  ptrP t_0 fun x10 =>
  ∃ x12, Cell I S (x10.add 2) (.int .i64 x12) ∧
  table_Table_Slots_b2 R (x7n : Int) x12 I S
def table_Table_Slots (R : Value → IMem → SH → Prop) (t_0 : Option Addr) (I : IMem) (S : SH) : Prop :=
  table_Table_Slots_b1 R t_0 I S
theorem table_Table_Slots_fn (R : Value → IMem → SH → Prop) (t_0 : Option Addr) (I : IMem) (S : SH) (h : table_Table_Slots R t_0 I S) :
    Runs Try.prog 26 #[.pointer t_0] I S R := by
  refine Runs.of_wp (args := [.pointer t_0]) (c := table_Table_Slots_code) Try.func26 (by kernel_rfl) (by kernel_rfl) ?_
  refine WP.cut 1 (fun l I S => asPtr (l 0) fun t_0 => table_Table_Slots_b1 R t_0 I S) (cast (by kernel_rfl) h) ?_
  clear h
  intro l I S _ h
  obtain ⟨t_0, e0, h⟩ := asPtr_e h
  rw [upd_eta e0]
  refine WP.seqY (by kernel_rfl) (fun l I S => asI .i64 (l 2) fun x2 => asI .i64 (l 3) fun x3 => table_Table_Slots_b2 R x2 x3 I S) ?_ ?_
  ·
    exact WP.quiet' (by kernel_rfl) (by kernel_rfl) (by kernel_rfl) (cast (by kernel_rfl) h)
  · clear h
    intro l I S _ h
    obtain ⟨x2, e2, h⟩ := asI_e h
    obtain ⟨x3, e3, h⟩ := asI_e h
    rw [upd_eta e2, upd_eta e3]
    exact Pre.sound _ _ _ _ _ (cast (by kernel_rfl) h)
/-! ### table_Table_grow: function 34, (*bolter/table.Table).grow -/
noncomputable def table_Table_grow_code : Code := (Try.f34.body).getD .skip
def table_Table_grow_b8 (again4 : Option Addr → Option Addr → Nat → Nat → Int → Int → IMem → SH → Prop) (R : Value → IMem → SH → Prop) (t_0 : Option Addr) (x28 : Option Addr) (x28n : Nat) (x28c : Nat) (x29 : Int) (x30 : Int) (I : IMem) (S : SH) : Prop :=
  again4 t_0 x28 x28n x28c x29 (IntKind.wrap .i64 (x30 + (1 : Int))) I S
def table_Table_grow_b7 (again4 : Option Addr → Option Addr → Nat → Nat → Int → Int → IMem → SH → Prop) (R : Value → IMem → SH → Prop) (t_0 : Option Addr) (s_4 : Addr) (at_5 : Int) (x28 : Option Addr) (x28n : Nat) (x28c : Nat) (x29 : Int) (x30 : Int) (I : IMem) (S : SH) : Prop :=
  ptrP t_0 fun x44 =>
  ∃ x46 x46n x46c, Cell I S x44 (.slice x46 x46n x46c) ∧
  ∃ x48_0, Cell I S s_4 (.string x48_0) ∧
  ∃ x48_1, Cell I S (s_4.add 1) (.int .i64 x48_1) ∧
  ∃ x48_2, Cell I S (s_4.add 2) (.bool x48_2) ∧
  ∃ x48_3, Cell I S (s_4.add 3) (.bool x48_3) ∧
  ptrP x46 fun x49 => (0 : Int) ≤ at_5 ∧ at_5 < (x46n : Int) ∧
  StP S (x49.add (at_5.toNat * 4)) [.string x48_0, .int .i64 x48_1, .bool x48_2, .bool x48_3] fun S1 =>
  table_Table_grow_b8 again4 R t_0 x28 x28n x28c x29 x30 I S1
def table_Table_grow_b6 (again4 : Option Addr → Option Addr → Nat → Nat → Int → Int → IMem → SH → Prop) (R : Value → IMem → SH → Prop) (t_0 : Option Addr) (s_4 : Addr) (x28 : Option Addr) (x28n : Nat) (x28c : Nat) (x29 : Int) (x30 : Int) (x35 : Bool) (I : IMem) (S : SH) : Prop :=
  bcase x35
    (∃ x39, Cell I S s_4 (.string x39) ∧
    Runs Try.prog 35 #[.pointer t_0, .string x39] I S fun v I1 S1 => ∃ x40_0 x40_1, v = .tuple #[.int .i64 x40_0, .bool x40_1] ∧
    table_Table_grow_b7 again4 R t_0 s_4 x40_0 x28 x28n x28c x29 x30 I1 S1)
    (table_Table_grow_b8 again4 R t_0 x28 x28n x28c x29 x30 I S)
def table_Table_grow_b5 (again4 : Option Addr → Option Addr → Nat → Nat → Int → Int → IMem → SH → Prop) (R : Value → IMem → SH → Prop) (t_0 : Option Addr) (x28 : Option Addr) (x28n : Nat) (x28c : Nat) (x29 : Int) (x30 : Int) (I : IMem) (S : SH) : Prop :=
  ptrP x28 fun x32 => (0 : Int) ≤ x30 ∧ x30 < (x28n : Int) ∧
  ∃ x33_0, Cell I S (x32.add (x30.toNat * 4)) (.string x33_0) ∧
  ∃ x33_1, Cell I S ((x32.add (x30.toNat * 4)).add 1) (.int .i64 x33_1) ∧
  ∃ x33_2, Cell I S ((x32.add (x30.toNat * 4)).add 2) (.bool x33_2) ∧
  ∃ x33_3, Cell I S ((x32.add (x30.toNat * 4)).add 3) (.bool x33_3) ∧
  ∀ b4 : Nat,
  StP ((b4, .cells #[.string ⟨#[]⟩, .int .i64 0, .bool false, .bool false] 70 (0, 0)) :: S) ⟨b4, 0, none⟩ [.string x33_0, .int .i64 x33_1, .bool x33_2, .bool x33_3] fun S1 =>
  ∃ x35, Cell I S1 ⟨b4, 2, none⟩ (.bool x35) ∧
  table_Table_grow_b6 again4 R t_0 ⟨b4, 0, none⟩ x28 x28n x28c x29 x30 x35 I S1
def table_Table_grow_l4 (again4 : Option Addr → Option Addr → Nat → Nat → Int → Int → IMem → SH → Prop) (R : Value → IMem → SH → Prop) (t_0 : Option Addr) (x28 : Option Addr) (x28n : Nat) (x28c : Nat) (x29 : Int) (x30 : Int) (I : IMem) (S : SH) : Prop :=
  bcase (decide (x30 < x29))
    (table_Table_grow_b5 again4 R t_0 x28 x28n x28c x29 x30 I S)
    (R (.tuple #[]) I S)
def table_Table_grow_b3 (R : Value → IMem → SH → Prop) (t_0 : Option Addr) (x28 : Option Addr) (x28n : Nat) (x28c : Nat) (x29 : Int) (x30 : Int) (I : IMem) (S : SH) : Prop :=
  ∃ (Inv : Nat → Option Addr → Option Addr → Nat → Nat → Int → Int → IMem → SH → Prop) (m : Nat), Inv m t_0 x28 x28n x28c x29 x30 I S ∧
    ∀ (m : Nat) (t_0 : Option Addr) (x28 : Option Addr) (x28n : Nat) (x28c : Nat) (x29 : Int) (x30 : Int) (J : IMem) (T : SH), I.le J → Inv m t_0 x28 x28n x28c x29 x30 J T →
      table_Table_grow_l4 (fun t_0 x28 x28n x28c x29 x30 I S => ∃ m', m' < m ∧ Inv m' t_0 x28 x28n x28c x29 x30 I S) R t_0 x28 x28n x28c x29 x30 J T
def table_Table_grow_b2 (R : Value → IMem → SH → Prop) (t_0 : Option Addr) (old_2 : Option Addr) (old_2n : Nat) (old_2c : Nat) (I : IMem) (S : SH) : Prop :=
  table_Table_grow_b3 R t_0 old_2 old_2n old_2c (old_2n : Int) 0 I S
def table_Table_grow_b1 (R : Value → IMem → SH → Prop) (t_0 : Option Addr) (old_2 : Option Addr) (old_2n : Nat) (old_2c : Nat) (I : IMem) (S : SH) : Prop :=
  ptrP t_0 fun x14 =>
  ∃ x16, Cell I S (x14.add 1) (.int .i64 x16) ∧
  ptrP t_0 fun x21 =>
  ∃ x23, Cell I S (x21.add 1) (.int .i64 x23) ∧
  (0 : Int) ≤ (if (IntKind.wrap .i64 ((4 : Int) * x16)) > (8 : Int) then (IntKind.wrap .i64 ((4 : Int) * x16)) else (8 : Int)) ∧ (if (IntKind.wrap .i64 ((4 : Int) * x16)) > (8 : Int) then (IntKind.wrap .i64 ((4 : Int) * x16)) else (8 : Int)) ≤ (if (IntKind.wrap .i64 ((4 : Int) * x16)) > (8 : Int) then (IntKind.wrap .i64 ((4 : Int) * x16)) else (8 : Int)) ∧ (if (IntKind.wrap .i64 ((4 : Int) * x16)) > (8 : Int) then (IntKind.wrap .i64 ((4 : Int) * x16)) else (8 : Int)) ≤ 9223372036854775807 ∧ (32 : Int) * (if (IntKind.wrap .i64 ((4 : Int) * x16)) > (8 : Int) then (IntKind.wrap .i64 ((4 : Int) * x16)) else (8 : Int)) ≤ 281474976710656 ∧ ∀ b19 : Nat,
  Keep I S I ((b19, .cells (repV (if (IntKind.wrap .i64 ((4 : Int) * x16)) > (8 : Int) then (IntKind.wrap .i64 ((4 : Int) * x16)) else (8 : Int)).toNat [.string ⟨#[]⟩, .int .i64 0, .bool false, .bool false]).toArray 70 (0, 0)) :: S) ∧
  ptrP t_0 fun x24 =>
  StP ((b19, .cells (repV (if (IntKind.wrap .i64 ((4 : Int) * x16)) > (8 : Int) then (IntKind.wrap .i64 ((4 : Int) * x16)) else (8 : Int)).toNat [.string ⟨#[]⟩, .int .i64 0, .bool false, .bool false]).toArray 70 (0, 0)) :: S) x24 [.slice (some ⟨b19, 0, none⟩) ((if (IntKind.wrap .i64 ((4 : Int) * x16)) > (8 : Int) then (IntKind.wrap .i64 ((4 : Int) * x16)) else (8 : Int)).toNat) ((if (IntKind.wrap .i64 ((4 : Int) * x16)) > (8 : Int) then (IntKind.wrap .i64 ((4 : Int) * x16)) else (8 : Int)).toNat)] fun S1 =>
  ptrP t_0 fun x26 =>
  StP S1 (x26.add 2) [.int .i64 x23] fun S1' =>
  table_Table_grow_b2 R t_0 old_2 old_2n old_2c I S1'
def table_Table_grow (R : Value → IMem → SH → Prop) (t_0 : Option Addr) (I : IMem) (S : SH) : Prop :=
  ptrP t_0 fun x8 =>
  ∃ x10 x10n x10c, Cell I S x8 (.slice x10 x10n x10c) ∧
  table_Table_grow_b1 R t_0 x10 x10n x10c I S
theorem table_Table_grow_fn (R : Value → IMem → SH → Prop) (t_0 : Option Addr) (I : IMem) (S : SH) (h : table_Table_grow R t_0 I S) :
    Runs Try.prog 34 #[.pointer t_0] I S R := by
  refine Runs.of_wp (args := [.pointer t_0]) (c := table_Table_grow_code) Try.func34 (by kernel_rfl) (by kernel_rfl) ?_
  refine WP.cut 1 (fun l I S => asPtr (l 0) fun t_0 => asSl (l 2) fun old_2 old_2n old_2c => table_Table_grow_b1 R t_0 old_2 old_2n old_2c I S) (cast (by kernel_rfl) h) ?_
  clear h
  intro l I S _ h
  obtain ⟨t_0, e0, h⟩ := asPtr_e h
  obtain ⟨old_2, old_2n, old_2c, e2, h⟩ := asSl_e h
  rw [upd_eta e0, upd_eta e2]
  refine WP.seqY (by kernel_rfl) (fun l I S => asPtr (l 0) fun t_0 => asSl (l 2) fun old_2 old_2n old_2c => table_Table_grow_b2 R t_0 old_2 old_2n old_2c I S) ?_ ?_
  ·
    exact WP.draw' (.take 0 (.take 1 (.take 2 (.take 3 (.take 4 (.take 5 (.take 6 (.take 7 (.take 9 (.take 10 (.take 11 (.take 12 (.step 8 (.take 13 (.take 14 (.step 15 (.take 16 (.take 17 (.step 18 .done))))))))))))))))))) [8, 15, 18] (by kernel_rfl) (by kernel_rfl) (by kernel_rfl) (by kernel_rfl) (by kernel_rfl) (cast (by kernel_rfl) h)
  · clear h
    intro l I S _ h
    obtain ⟨t_0, e0, h⟩ := asPtr_e h
    obtain ⟨old_2, old_2n, old_2c, e2, h⟩ := asSl_e h
    rw [upd_eta e0, upd_eta e2]
    refine WP.cut 1 (fun l I S => asPtr (l 0) fun t_0 => asSl (l 28) fun x28 x28n x28c => asI .i64 (l 29) fun x29 => asI .i64 (l 30) fun x30 => table_Table_grow_b3 R t_0 x28 x28n x28c x29 x30 I S) (cast (by kernel_rfl) h) ?_
    clear h
    intro l I S _ h
    obtain ⟨t_0, e0, h⟩ := asPtr_e h
    obtain ⟨x28, x28n, x28c, e28, h⟩ := asSl_e h
    obtain ⟨x29, e29, h⟩ := asI_e h
    obtain ⟨x30, e30, h⟩ := asI_e h
    rw [upd_eta e0, upd_eta e28, upd_eta e29, upd_eta e30]
    refine WP.block' (by kernel_rfl) ?_
    obtain ⟨Inv_again4, m_again4, h0, hr⟩ := h
    refine WP.loop' (by kernel_rfl) (fun m_again4 => fun l I S => asPtr (l 0) fun t_0 => asSl (l 28) fun x28 x28n x28c => asI .i64 (l 29) fun x29 => asI .i64 (l 30) fun x30 => Inv_again4 m_again4 t_0 x28 x28n x28c x29 x30 I S) m_again4 (cast (by kernel_rfl) h0) ?_
    clear h0
    intro m_again4 l I S hle h
    obtain ⟨t_0, e0, h⟩ := asPtr_e h
    obtain ⟨x28, x28n, x28c, e28, h⟩ := asSl_e h
    obtain ⟨x29, e29, h⟩ := asI_e h
    obtain ⟨x30, e30, h⟩ := asI_e h
    rw [upd_eta e0, upd_eta e28, upd_eta e29, upd_eta e30]
    have h := hr m_again4 t_0 x28 x28n x28c x29 x30 I S hle h
    clear hr hle
    refine WP.cut 2 (fun l I S => asPtr (l 0) fun t_0 => asSl (l 28) fun x28 x28n x28c => asI .i64 (l 29) fun x29 => asI .i64 (l 30) fun x30 => table_Table_grow_b5 (fun t_0 x28 x28n x28c x29 x30 I S => ∃ m', m' < m_again4 ∧ Inv_again4 m' t_0 x28 x28n x28c x29 x30 I S) R t_0 x28 x28n x28c x29 x30 I S) (cast (by kernel_rfl) h) ?_
    clear h
    intro l I S _ h
    obtain ⟨t_0, e0, h⟩ := asPtr_e h
    obtain ⟨x28, x28n, x28c, e28, h⟩ := asSl_e h
    obtain ⟨x29, e29, h⟩ := asI_e h
    obtain ⟨x30, e30, h⟩ := asI_e h
    rw [upd_eta e0, upd_eta e28, upd_eta e29, upd_eta e30]
    refine WP.seqY (by kernel_rfl) (fun l I S => asPtr (l 0) fun t_0 => asSl (l 28) fun x28 x28n x28c => asI .i64 (l 29) fun x29 => asI .i64 (l 30) fun x30 => table_Table_grow_b8 (fun t_0 x28 x28n x28c x29 x30 I S => ∃ m', m' < m_again4 ∧ Inv_again4 m' t_0 x28 x28n x28c x29 x30 I S) R t_0 x28 x28n x28c x29 x30 I S) ?_ ?_
    ·
      refine WP.block' (by kernel_rfl) ?_
      refine WP.cut 2 (fun l I S => asPtr (l 0) fun t_0 => asAdr (l 4) fun s_4 => asSl (l 28) fun x28 x28n x28c => asI .i64 (l 29) fun x29 => asI .i64 (l 30) fun x30 => asB (l 35) fun x35 => table_Table_grow_b6 (fun t_0 x28 x28n x28c x29 x30 I S => ∃ m', m' < m_again4 ∧ Inv_again4 m' t_0 x28 x28n x28c x29 x30 I S) R t_0 s_4 x28 x28n x28c x29 x30 x35 I S) (cast (by kernel_rfl) h) ?_
      clear h
      intro l I S _ h
      obtain ⟨t_0, e0, h⟩ := asPtr_e h
      obtain ⟨s_4, e4, h⟩ := asAdr_e h
      obtain ⟨x28, x28n, x28c, e28, h⟩ := asSl_e h
      obtain ⟨x29, e29, h⟩ := asI_e h
      obtain ⟨x30, e30, h⟩ := asI_e h
      obtain ⟨x35, e35, h⟩ := asB_e h
      rw [upd_eta e0, upd_eta e4, upd_eta e28, upd_eta e29, upd_eta e30, upd_eta e35]
      refine WP.cond' (by kernel_rfl) (by kernel_rfl) h ?_ ?_
      · clear h
        intro h
        refine WP.cut 1 (fun l I S => asPtr (l 0) fun t_0 => asAdr (l 4) fun s_4 => asI .i64 (l 5) fun at_5 => asSl (l 28) fun x28 x28n x28c => asI .i64 (l 29) fun x29 => asI .i64 (l 30) fun x30 => table_Table_grow_b7 (fun t_0 x28 x28n x28c x29 x30 I S => ∃ m', m' < m_again4 ∧ Inv_again4 m' t_0 x28 x28n x28c x29 x30 I S) R t_0 s_4 at_5 x28 x28n x28c x29 x30 I S) (cast (by kernel_rfl) h) ?_
        clear h
        intro l I S _ h
        obtain ⟨t_0, e0, h⟩ := asPtr_e h
        obtain ⟨s_4, e4, h⟩ := asAdr_e h
        obtain ⟨at_5, e5, h⟩ := asI_e h
        obtain ⟨x28, x28n, x28c, e28, h⟩ := asSl_e h
        obtain ⟨x29, e29, h⟩ := asI_e h
        obtain ⟨x30, e30, h⟩ := asI_e h
        rw [upd_eta e0, upd_eta e4, upd_eta e5, upd_eta e28, upd_eta e29, upd_eta e30]
        exact WP.draw' (.take 0 (.take 1 (.take 2 (.take 3 (.take 4 (.take 5 (.take 6 (.step 7 .done)))))))) [7] (by kernel_rfl) (by kernel_rfl) (by kernel_rfl) (by kernel_rfl) (by kernel_rfl) (cast (by kernel_rfl) h)
      · clear h
        intro h
        exact Pre.sound _ _ _ _ _ (cast (by kernel_rfl) h)
    · clear h
      intro l I S _ h
      obtain ⟨t_0, e0, h⟩ := asPtr_e h
      obtain ⟨x28, x28n, x28c, e28, h⟩ := asSl_e h
      obtain ⟨x29, e29, h⟩ := asI_e h
      obtain ⟨x30, e30, h⟩ := asI_e h
      rw [upd_eta e0, upd_eta e28, upd_eta e29, upd_eta e30]
      exact Pre.sound _ _ _ _ _ (cast (by kernel_rfl) h)
/-! ### table_Table_find: function 35, (*bolter/table.Table).find -/
noncomputable def table_Table_find_code : Code := (Try.f35.body).getD .skip
def table_Table_find_b6 (again2 : Option Addr → ByteArray → Int → Int → IMem → SH → Prop) (R : Value → IMem → SH → Prop) (t_0 : Option Addr) (key_1 : ByteArray) (at_6 : Int) (free_7 : Int) (I : IMem) (S : SH) : Prop :=
  ptrP t_0 fun x68 =>
  ∃ x70 x70n x70c, Cell I S x68 (.slice x70 x70n x70c) ∧
  bcase (decide ((x70n : Int) = 0)) False (0 = 0 ∧ again2 t_0 key_1 ((IntKind.wrap .i64 (at_6 + (1 : Int))).tmod (x70n : Int)) free_7 I S)
def table_Table_find_b8 (again2 : Option Addr → ByteArray → Int → Int → IMem → SH → Prop) (R : Value → IMem → SH → Prop) (t_0 : Option Addr) (key_1 : ByteArray) (at_6 : Int) (free_7 : Int) (x55 : Bool) (I : IMem) (S : SH) : Prop :=
  bcase x55
    (R (.tuple #[.int .i64 free_7, .bool false]) I S)
    (table_Table_find_b6 again2 R t_0 key_1 at_6 free_7 I S)
def table_Table_find_b7 (again2 : Option Addr → ByteArray → Int → Int → IMem → SH → Prop) (R : Value → IMem → SH → Prop) (t_0 : Option Addr) (key_1 : ByteArray) (at_6 : Int) (free_7 : Int) (s_8 : Addr) (x41 : Bool) (I : IMem) (S : SH) : Prop :=
  bcase x41
    (R (.tuple #[.int .i64 at_6, .bool false]) I S)
    (∃ x57, Cell I S (s_8.add 2) (.bool x57) ∧
    bcase (!x57)
      (∃ x61, Cell I S (s_8.add 3) (.bool x61) ∧
      table_Table_find_b8 again2 R t_0 key_1 at_6 free_7 (!x61) I S)
      (table_Table_find_b8 again2 R t_0 key_1 at_6 free_7 false I S))
def table_Table_find_b5 (again2 : Option Addr → ByteArray → Int → Int → IMem → SH → Prop) (R : Value → IMem → SH → Prop) (t_0 : Option Addr) (key_1 : ByteArray) (at_6 : Int) (free_7 : Int) (s_8 : Addr) (x33 : Bool) (I : IMem) (S : SH) : Prop :=
  bcase x33
    (table_Table_find_b6 again2 R t_0 key_1 at_6 at_6 I S)
    (∃ x43, Cell I S (s_8.add 2) (.bool x43) ∧
    bcase (!x43)
      (∃ x47, Cell I S (s_8.add 3) (.bool x47) ∧
      bcase (!x47)
        (table_Table_find_b7 again2 R t_0 key_1 at_6 free_7 s_8 (decide (free_7 < (0 : Int))) I S)
        (table_Table_find_b7 again2 R t_0 key_1 at_6 free_7 s_8 false I S))
      (table_Table_find_b7 again2 R t_0 key_1 at_6 free_7 s_8 false I S))
def table_Table_find_b4 (again2 : Option Addr → ByteArray → Int → Int → IMem → SH → Prop) (R : Value → IMem → SH → Prop) (t_0 : Option Addr) (key_1 : ByteArray) (at_6 : Int) (free_7 : Int) (s_8 : Addr) (x23 : Bool) (I : IMem) (S : SH) : Prop :=
  bcase x23
    (R (.tuple #[.int .i64 at_6, .bool true]) I S)
    (∃ x35, Cell I S (s_8.add 3) (.bool x35) ∧
    bcase x35
      (table_Table_find_b5 again2 R t_0 key_1 at_6 free_7 s_8 (decide (free_7 < (0 : Int))) I S)
      (table_Table_find_b5 again2 R t_0 key_1 at_6 free_7 s_8 false I S))
def table_Table_find_b3 (again2 : Option Addr → ByteArray → Int → Int → IMem → SH → Prop) (R : Value → IMem → SH → Prop) (t_0 : Option Addr) (key_1 : ByteArray) (at_6 : Int) (free_7 : Int) (s_8 : Addr) (I : IMem) (S : SH) : Prop :=
  ∃ x25, Cell I S (s_8.add 2) (.bool x25) ∧
  bcase x25
    (∃ x28, Cell I S s_8 (.string x28) ∧
    table_Table_find_b4 again2 R t_0 key_1 at_6 free_7 s_8 (x28.toList == key_1.toList) I S)
    (table_Table_find_b4 again2 R t_0 key_1 at_6 free_7 s_8 false I S)
def table_Table_find_l2 (again2 : Option Addr → ByteArray → Int → Int → IMem → SH → Prop) (R : Value → IMem → SH → Prop) (t_0 : Option Addr) (key_1 : ByteArray) (at_6 : Int) (free_7 : Int) (I : IMem) (S : SH) : Prop :=
  ptrP t_0 fun x17 =>
  ∃ x19 x19n x19c, Cell I S x17 (.slice x19 x19n x19c) ∧
  ptrP x19 fun x21 => (0 : Int) ≤ at_6 ∧ at_6 < (x19n : Int) ∧
  ∃ x22_0, Cell I S (x21.add (at_6.toNat * 4)) (.string x22_0) ∧
  ∃ x22_1, Cell I S ((x21.add (at_6.toNat * 4)).add 1) (.int .i64 x22_1) ∧
  ∃ x22_2, Cell I S ((x21.add (at_6.toNat * 4)).add 2) (.bool x22_2) ∧
  ∃ x22_3, Cell I S ((x21.add (at_6.toNat * 4)).add 3) (.bool x22_3) ∧
  ∀ b8 : Nat,
  StP ((b8, .cells #[.string ⟨#[]⟩, .int .i64 0, .bool false, .bool false] 70 (0, 0)) :: S) ⟨b8, 0, none⟩ [.string x22_0, .int .i64 x22_1, .bool x22_2, .bool x22_3] fun S1 =>
  table_Table_find_b3 again2 R t_0 key_1 at_6 free_7 ⟨b8, 0, none⟩ I S1
def table_Table_find_b1 (R : Value → IMem → SH → Prop) (t_0 : Option Addr) (key_1 : ByteArray) (I : IMem) (S : SH) : Prop :=
  ∃ Inv : Nat → Option Addr → ByteArray → Int → Int → IMem → SH → Prop,
    (ptrP t_0 fun x11 =>
  ∃ x13 x13n x13c, Cell I S x11 (.slice x13 x13n x13c) ∧
  Runs Try.prog 15 #[.string key_1, .int .i64 (x13n : Int)] I S fun v I1 S1 => ∃ x15, v = .int .i64 x15 ∧
  ∃ m, Inv m t_0 key_1 x15 (-1) I1 S1) ∧
    ∀ (m : Nat) (t_0 : Option Addr) (key_1 : ByteArray) (at_6 : Int) (free_7 : Int) (J : IMem) (T : SH), I.le J → Inv m t_0 key_1 at_6 free_7 J T →
      table_Table_find_l2 (fun t_0 key_1 at_6 free_7 I S => ∃ m', m' < m ∧ Inv m' t_0 key_1 at_6 free_7 I S) R t_0 key_1 at_6 free_7 J T
def table_Table_find (R : Value → IMem → SH → Prop) (t_0 : Option Addr) (key_1 : ByteArray) (I : IMem) (S : SH) : Prop :=
  table_Table_find_b1 R t_0 key_1 I S
theorem table_Table_find_fn (R : Value → IMem → SH → Prop) (t_0 : Option Addr) (key_1 : ByteArray) (I : IMem) (S : SH) (h : table_Table_find R t_0 key_1 I S) :
    Runs Try.prog 35 #[.pointer t_0, .string key_1] I S R := by
  refine Runs.of_wp (args := [.pointer t_0, .string key_1]) (c := table_Table_find_code) Try.func35 (by kernel_rfl) (by kernel_rfl) ?_
  refine WP.cut 1 (fun l I S => asPtr (l 0) fun t_0 => asStr (l 1) fun key_1 => table_Table_find_b1 R t_0 key_1 I S) (cast (by kernel_rfl) h) ?_
  clear h
  intro l I S _ h
  obtain ⟨t_0, e0, h⟩ := asPtr_e h
  obtain ⟨key_1, e1, h⟩ := asStr_e h
  rw [upd_eta e0, upd_eta e1]
  obtain ⟨Inv_again2, h0, hr⟩ := h
  refine WP.scope' 1 0 (by kernel_rfl) (by kernel_rfl) (by kernel_rfl) (fun m_again2 => fun l I S => asPtr (l 0) fun t_0 => asStr (l 1) fun key_1 => asI .i64 (l 6) fun at_6 => asI .i64 (l 7) fun free_7 => Inv_again2 m_again2 t_0 key_1 at_6 free_7 I S) (cast (by kernel_rfl) h0) ?_
  clear h0
  intro m_again2 l I S hle h
  obtain ⟨t_0, e0, h⟩ := asPtr_e h
  obtain ⟨key_1, e1, h⟩ := asStr_e h
  obtain ⟨at_6, e6, h⟩ := asI_e h
  obtain ⟨free_7, e7, h⟩ := asI_e h
  rw [upd_eta e0, upd_eta e1, upd_eta e6, upd_eta e7]
  have h := hr m_again2 t_0 key_1 at_6 free_7 I S hle h
  clear hr hle
  refine WP.cut 1 (fun l I S => asPtr (l 0) fun t_0 => asStr (l 1) fun key_1 => asI .i64 (l 6) fun at_6 => asI .i64 (l 7) fun free_7 => asAdr (l 8) fun s_8 => table_Table_find_b3 (fun t_0 key_1 at_6 free_7 I S => ∃ m', m' < m_again2 ∧ Inv_again2 m' t_0 key_1 at_6 free_7 I S) R t_0 key_1 at_6 free_7 s_8 I S) (cast (by kernel_rfl) h) ?_
  clear h
  intro l I S _ h
  obtain ⟨t_0, e0, h⟩ := asPtr_e h
  obtain ⟨key_1, e1, h⟩ := asStr_e h
  obtain ⟨at_6, e6, h⟩ := asI_e h
  obtain ⟨free_7, e7, h⟩ := asI_e h
  obtain ⟨s_8, e8, h⟩ := asAdr_e h
  rw [upd_eta e0, upd_eta e1, upd_eta e6, upd_eta e7, upd_eta e8]
  refine WP.seqY (by kernel_rfl) (fun l I S => asPtr (l 0) fun t_0 => asStr (l 1) fun key_1 => asI .i64 (l 6) fun at_6 => asI .i64 (l 7) fun free_7 => table_Table_find_b6 (fun t_0 key_1 at_6 free_7 I S => ∃ m', m' < m_again2 ∧ Inv_again2 m' t_0 key_1 at_6 free_7 I S) R t_0 key_1 at_6 free_7 I S) ?_ ?_
  ·
    refine WP.block' (by kernel_rfl) ?_
    refine WP.cut 1 (fun l I S => asPtr (l 0) fun t_0 => asStr (l 1) fun key_1 => asI .i64 (l 6) fun at_6 => asI .i64 (l 7) fun free_7 => asAdr (l 8) fun s_8 => asB (l 23) fun x23 => table_Table_find_b4 (fun t_0 key_1 at_6 free_7 I S => ∃ m', m' < m_again2 ∧ Inv_again2 m' t_0 key_1 at_6 free_7 I S) R t_0 key_1 at_6 free_7 s_8 x23 I S) (cast (by kernel_rfl) h) ?_
    clear h
    intro l I S _ h
    obtain ⟨t_0, e0, h⟩ := asPtr_e h
    obtain ⟨key_1, e1, h⟩ := asStr_e h
    obtain ⟨at_6, e6, h⟩ := asI_e h
    obtain ⟨free_7, e7, h⟩ := asI_e h
    obtain ⟨s_8, e8, h⟩ := asAdr_e h
    obtain ⟨x23, e23, h⟩ := asB_e h
    rw [upd_eta e0, upd_eta e1, upd_eta e6, upd_eta e7, upd_eta e8, upd_eta e23]
    refine WP.cond' (by kernel_rfl) (by kernel_rfl) h ?_ ?_
    · clear h
      intro h
      exact Pre.sound _ _ _ _ _ (cast (by kernel_rfl) h)
    · clear h
      intro h
      refine WP.cut 1 (fun l I S => asPtr (l 0) fun t_0 => asStr (l 1) fun key_1 => asI .i64 (l 6) fun at_6 => asI .i64 (l 7) fun free_7 => asAdr (l 8) fun s_8 => asB (l 33) fun x33 => table_Table_find_b5 (fun t_0 key_1 at_6 free_7 I S => ∃ m', m' < m_again2 ∧ Inv_again2 m' t_0 key_1 at_6 free_7 I S) R t_0 key_1 at_6 free_7 s_8 x33 I S) (cast (by kernel_rfl) h) ?_
      clear h
      intro l I S _ h
      obtain ⟨t_0, e0, h⟩ := asPtr_e h
      obtain ⟨key_1, e1, h⟩ := asStr_e h
      obtain ⟨at_6, e6, h⟩ := asI_e h
      obtain ⟨free_7, e7, h⟩ := asI_e h
      obtain ⟨s_8, e8, h⟩ := asAdr_e h
      obtain ⟨x33, e33, h⟩ := asB_e h
      rw [upd_eta e0, upd_eta e1, upd_eta e6, upd_eta e7, upd_eta e8, upd_eta e33]
      refine WP.cond' (by kernel_rfl) (by kernel_rfl) h ?_ ?_
      · clear h
        intro h
        exact Pre.sound _ _ _ _ _ (cast (by kernel_rfl) h)
      · clear h
        intro h
        refine WP.cut 1 (fun l I S => asPtr (l 0) fun t_0 => asStr (l 1) fun key_1 => asI .i64 (l 6) fun at_6 => asI .i64 (l 7) fun free_7 => asAdr (l 8) fun s_8 => asB (l 41) fun x41 => table_Table_find_b7 (fun t_0 key_1 at_6 free_7 I S => ∃ m', m' < m_again2 ∧ Inv_again2 m' t_0 key_1 at_6 free_7 I S) R t_0 key_1 at_6 free_7 s_8 x41 I S) (cast (by kernel_rfl) h) ?_
        clear h
        intro l I S _ h
        obtain ⟨t_0, e0, h⟩ := asPtr_e h
        obtain ⟨key_1, e1, h⟩ := asStr_e h
        obtain ⟨at_6, e6, h⟩ := asI_e h
        obtain ⟨free_7, e7, h⟩ := asI_e h
        obtain ⟨s_8, e8, h⟩ := asAdr_e h
        obtain ⟨x41, e41, h⟩ := asB_e h
        rw [upd_eta e0, upd_eta e1, upd_eta e6, upd_eta e7, upd_eta e8, upd_eta e41]
        refine WP.cond' (by kernel_rfl) (by kernel_rfl) h ?_ ?_
        · clear h
          intro h
          exact Pre.sound _ _ _ _ _ (cast (by kernel_rfl) h)
        · clear h
          intro h
          refine WP.cut 1 (fun l I S => asPtr (l 0) fun t_0 => asStr (l 1) fun key_1 => asI .i64 (l 6) fun at_6 => asI .i64 (l 7) fun free_7 => asB (l 55) fun x55 => table_Table_find_b8 (fun t_0 key_1 at_6 free_7 I S => ∃ m', m' < m_again2 ∧ Inv_again2 m' t_0 key_1 at_6 free_7 I S) R t_0 key_1 at_6 free_7 x55 I S) (cast (by kernel_rfl) h) ?_
          clear h
          intro l I S _ h
          obtain ⟨t_0, e0, h⟩ := asPtr_e h
          obtain ⟨key_1, e1, h⟩ := asStr_e h
          obtain ⟨at_6, e6, h⟩ := asI_e h
          obtain ⟨free_7, e7, h⟩ := asI_e h
          obtain ⟨x55, e55, h⟩ := asB_e h
          rw [upd_eta e0, upd_eta e1, upd_eta e6, upd_eta e7, upd_eta e55]
          exact Pre.sound _ _ _ _ _ (cast (by kernel_rfl) h)
  · clear h
    intro l I S _ h
    obtain ⟨t_0, e0, h⟩ := asPtr_e h
    obtain ⟨key_1, e1, h⟩ := asStr_e h
    obtain ⟨at_6, e6, h⟩ := asI_e h
    obtain ⟨free_7, e7, h⟩ := asI_e h
    rw [upd_eta e0, upd_eta e1, upd_eta e6, upd_eta e7]
    exact Pre.sound _ _ _ _ _ (cast (by kernel_rfl) h)
end Go.Proofs.Ytoeecjlencaglaa
