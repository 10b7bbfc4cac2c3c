import Derived.Test.YtoeecjlencaglaaProg
import Derived.Test.YtoeecjlencaglaaPx6
set_option linter.unusedVariables false
namespace Go.Proofs.Ytoeecjlencaglaa
open Go.Px
/-! ### bolterlaw15_TableScript: function 5, bolter/bolterlaw15.TableScript -/
noncomputable def bolterlaw15_TableScript_code : Code := (Try.f5.body).getD .skip
def bolterlaw15_TableScript_b10 (again3 : Option Addr → Option Nat → Option Addr → Nat → Nat → Int → Int → IMem → SH → Prop) (R : Value → IMem → SH → Prop) (t_3 : Option Addr) (has_4 : Option Nat) (x24 : Option Addr) (x24n : Nat) (x24c : Nat) (x25 : Int) (x26 : Int) (I : IMem) (S : SH) : Prop :=
  again3 t_3 has_4 x24 x24n x24c x25 (IntKind.wrap .i64 (x26 + (1 : Int))) I S
def bolterlaw15_TableScript_b9 (again3 : Option Addr → Option Nat → Option Addr → Nat → Nat → Int → Int → IMem → SH → Prop) (R : Value → IMem → SH → Prop) (t_3 : Option Addr) (has_4 : Option Nat) (x24 : Option Addr) (x24n : Nat) (x24c : Nat) (x25 : Int) (x26 : Int) (x91 : Bool) (I : IMem) (S : SH) : Prop :=
  bcase x91
    (R (.bool false) I S)
    (bolterlaw15_TableScript_b10 again3 R t_3 has_4 x24 x24n x24c x25 x26 I S)
def bolterlaw15_TableScript_b8 (again3 : Option Addr → Option Nat → Option Addr → Nat → Nat → Int → Int → IMem → SH → Prop) (R : Value → IMem → SH → Prop) (t_3 : Option Addr) (has_4 : Option Nat) (key_7 : ByteArray) (x24 : Option Addr) (x24n : Nat) (x24c : Nat) (x25 : Int) (x26 : Int) (I : IMem) (S : SH) : Prop :=
  Runs Try.prog 23 #[.pointer t_3, .string key_7] I S fun v I1 S1 => ∃ x68_0 x68_1, v = .tuple #[.int .i64 x68_0, .bool x68_1] ∧
  ∃ x74, ∃ x74ok : Bool, MapAt I1 S1 has_4 .string (.string key_7) (.int .i64 0) (.int .i64 x74) x74ok ∧
  bcase (x68_0 != x74)
    (bolterlaw15_TableScript_b9 again3 R t_3 has_4 x24 x24n x24c x25 x26 true I1 S1)
    (bcase (!(x68_1 == x74ok))
      (bolterlaw15_TableScript_b9 again3 R t_3 has_4 x24 x24n x24c x25 x26 true I1 S1)
      (Runs Try.prog 24 #[.pointer t_3] I1 S1 fun v' I1' S1' => ∃ x87, v' = .int .i64 x87 ∧
      ∃ x89 : Nat, MapLen I1' S1' has_4 x89 ∧
      bolterlaw15_TableScript_b9 again3 R t_3 has_4 x24 x24n x24c x25 x26 (x87 != (x89 : Int)) I1' S1'))
def bolterlaw15_TableScript_b7 (again3 : Option Addr → Option Nat → Option Addr → Nat → Nat → Int → Int → IMem → SH → Prop) (R : Value → IMem → SH → Prop) (t_3 : Option Addr) (has_4 : Option Nat) (a_6 : Addr) (key_7 : ByteArray) (is_9 : Bool) (x24 : Option Addr) (x24n : Nat) (x24c : Nat) (x25 : Int) (x26 : Int) (x41 : Int) (x42 : Bool) (I : IMem) (S : SH) : Prop :=
  bcase x42
    (∃ x48, Cell I S (a_6.add 2) (.int .i64 x48) ∧
    Runs Try.prog 21 #[.pointer t_3, .string key_7, .int .i64 x48] I S fun v I1 S1 => ∃ x49, v = .bool x49 ∧
    bcase (x49 == is_9)
      (R (.bool false) I1 S1)
      (∃ x55, Cell I1 S1 (a_6.add 2) (.int .i64 x55) ∧
      MapSt S1 has_4 .string (.string key_7) (.int .i64 x55) fun S1' =>
      bolterlaw15_TableScript_b8 again3 R t_3 has_4 key_7 x24 x24n x24c x25 x26 I1 S1'))
    (bcase (x41 == (2 : Int))
      (Runs Try.prog 22 #[.pointer t_3, .string key_7] I S fun v' I1' S1'' => ∃ x60, v' = .bool x60 ∧
      bcase (!(x60 == is_9))
        (R (.bool false) I1' S1'')
        (MapDl S1'' has_4 .string (.string key_7) fun S1_r3 =>
        bolterlaw15_TableScript_b8 again3 R t_3 has_4 key_7 x24 x24n x24c x25 x26 I1' S1_r3))
      (bolterlaw15_TableScript_b8 again3 R t_3 has_4 key_7 x24 x24n x24c x25 x26 I S))
def bolterlaw15_TableScript_b6 (again3 : Option Addr → Option Nat → Option Addr → Nat → Nat → Int → Int → IMem → SH → Prop) (R : Value → IMem → SH → Prop) (t_3 : Option Addr) (has_4 : Option Nat) (a_6 : Addr) (key_7 : ByteArray) (is_9 : Bool) (x24 : Option Addr) (x24n : Nat) (x24c : Nat) (x25 : Int) (x26 : Int) (x41 : Int) (I : IMem) (S : SH) : Prop :=
  bcase (x41 == (0 : Int))
    (bolterlaw15_TableScript_b7 again3 R t_3 has_4 a_6 key_7 is_9 x24 x24n x24c x25 x26 x41 (x41 == (0 : Int)) I S)
    (bolterlaw15_TableScript_b7 again3 R t_3 has_4 a_6 key_7 is_9 x24 x24n x24c x25 x26 x41 (x41 == (1 : Int)) I S)
def bolterlaw15_TableScript_b5 (again3 : Option Addr → Option Nat → Option Addr → Nat → Nat → Int → Int → IMem → SH → Prop) (R : Value → IMem → SH → Prop) (t_3 : Option Addr) (has_4 : Option Nat) (a_6 : Addr) (key_7 : ByteArray) (is_9 : Bool) (x24 : Option Addr) (x24n : Nat) (x24c : Nat) (x25 : Int) (x26 : Int) (I : IMem) (S : SH) : Prop :=
  ∃ x40, Cell I S a_6 (.int .u8 x40) ∧
  bolterlaw15_TableScript_b6 again3 R t_3 has_4 a_6 key_7 is_9 x24 x24n x24c x25 x26 (x40.tmod (4 : Int)) I S
def bolterlaw15_TableScript_b4 (again3 : Option Addr → Option Nat → Option Addr → Nat → Nat → Int → Int → IMem → SH → Prop) (R : Value → IMem → SH → Prop) (t_3 : Option Addr) (has_4 : Option Nat) (x24 : Option Addr) (x24n : Nat) (x24c : Nat) (x25 : Int) (x26 : Int) (I : IMem) (S : SH) : Prop :=
  ptrP x24 fun x28 => (0 : Int) ≤ x26 ∧ x26 < (x24n : Int) ∧
  ∃ x29_0, Cell I S (x28.add (x26.toNat * 3)) (.int .u8 x29_0) ∧
  ∃ x29_1, Cell I S ((x28.add (x26.toNat * 3)).add 1) (.int .u8 x29_1) ∧
  ∃ x29_2, Cell I S ((x28.add (x26.toNat * 3)).add 2) (.int .i64 x29_2) ∧
  ∀ b6 : Nat,
  StP ((b6, .cells #[.int .u8 0, .int .u8 0, .int .i64 0] 41 (0, 0)) :: S) ⟨b6, 0, none⟩ [.int .u8 x29_0, .int .u8 x29_1, .int .i64 x29_2] fun S1 =>
  ∃ x31, Cell I S1 ⟨b6, 1, none⟩ (.int .u8 x31) ∧
  Runs Try.prog 20 #[.int .u8 x31] I S1 fun v I1 S1' => ∃ x32, v = .string x32 ∧
  ∃ x36, ∃ x36ok : Bool, MapAt I1 S1' has_4 .string (.string x32) (.int .i64 0) (.int .i64 x36) x36ok ∧
  bolterlaw15_TableScript_b5 again3 R t_3 has_4 ⟨b6, 0, none⟩ x32 x36ok x24 x24n x24c x25 x26 I1 S1'
def bolterlaw15_TableScript_b16 (again13 : Option Addr → Option Nat → Int → IMem → SH → Prop) (R : Value → IMem → SH → Prop) (t_3 : Option Addr) (has_4 : Option Nat) (n_14 : Int) (I : IMem) (S : SH) : Prop :=
  again13 t_3 has_4 (IntKind.wrap .i64 (n_14 + (1 : Int))) I S
def bolterlaw15_TableScript_b15 (again13 : Option Addr → Option Nat → Int → IMem → SH → Prop) (R : Value → IMem → SH → Prop) (t_3 : Option Addr) (has_4 : Option Nat) (n_14 : Int) (x120 : Bool) (I : IMem) (S : SH) : Prop :=
  bcase x120
    (R (.bool false) I S)
    (bolterlaw15_TableScript_b16 again13 R t_3 has_4 n_14 I S)
def bolterlaw15_TableScript_b14 (again13 : Option Addr → Option Nat → Int → IMem → SH → Prop) (R : Value → IMem → SH → Prop) (t_3 : Option Addr) (has_4 : Option Nat) (n_14 : Int) (I : IMem) (S : SH) : Prop :=
  Runs Try.prog 20 #[.int .u8 (IntKind.wrap .u8 n_14)] I S fun v I1 S1 => ∃ x101, v = .string x101 ∧
  Runs Try.prog 23 #[.pointer t_3, .string x101] I1 S1 fun v' I1' S1' => ∃ x102_0 x102_1, v' = .tuple #[.int .i64 x102_0, .bool x102_1] ∧
  Runs Try.prog 20 #[.int .u8 (IntKind.wrap .u8 n_14)] I1' S1' fun v'' I1'' S1'' => ∃ x109, v'' = .string x109 ∧
  ∃ x110, ∃ x110ok : Bool, MapAt I1'' S1'' has_4 .string (.string x109) (.int .i64 0) (.int .i64 x110) x110ok ∧
  bcase (x102_0 != x110)
    (bolterlaw15_TableScript_b15 again13 R t_3 has_4 n_14 true I1'' S1'')
    (bolterlaw15_TableScript_b15 again13 R t_3 has_4 n_14 (!(x102_1 == x110ok)) I1'' S1'')
def bolterlaw15_TableScript_b17 (R : Value → IMem → SH → Prop) (I : IMem) (S : SH) : Prop :=
  R (.bool true) I S
def bolterlaw15_TableScript_l13 (again13 : Option Addr → Option Nat → Int → IMem → SH → Prop) (R : Value → IMem → SH → Prop) (t_3 : Option Addr) (has_4 : Option Nat) (n_14 : Int) (I : IMem) (S : SH) : Prop :=
  bcase (decide (n_14 < (256 : Int)))
    (bolterlaw15_TableScript_b14 again13 R t_3 has_4 n_14 I S)
    (bolterlaw15_TableScript_b17 R I S)
def bolterlaw15_TableScript_b12 (R : Value → IMem → SH → Prop) (t_3 : Option Addr) (has_4 : Option Nat) (n_14 : Int) (I : IMem) (S : SH) : Prop :=
  ∃ (Inv : Nat → Option Addr → Option Nat → Int → IMem → SH → Prop) (m : Nat), Inv m t_3 has_4 n_14 I S ∧
    ∀ (m : Nat) (t_3 : Option Addr) (has_4 : Option Nat) (n_14 : Int) (J : IMem) (T : SH), I.le J → Inv m t_3 has_4 n_14 J T →
      bolterlaw15_TableScript_l13 (fun t_3 has_4 n_14 I S => ∃ m', m' < m ∧ Inv m' t_3 has_4 n_14 I S) R t_3 has_4 n_14 J T
def bolterlaw15_TableScript_b11 (R : Value → IMem → SH → Prop) (t_3 : Option Addr) (has_4 : Option Nat) (I : IMem) (S : SH) : Prop :=
  bolterlaw15_TableScript_b12 R t_3 has_4 0 I S
def bolterlaw15_TableScript_l3 (again3 : Option Addr → Option Nat → Option Addr → Nat → Nat → Int → Int → IMem → SH → Prop) (R : Value → IMem → SH → Prop) (t_3 : Option Addr) (has_4 : Option Nat) (x24 : Option Addr) (x24n : Nat) (x24c : Nat) (x25 : Int) (x26 : Int) (I : IMem) (S : SH) : Prop :=
  bcase (decide (x26 < x25))
    (bolterlaw15_TableScript_b4 again3 R t_3 has_4 x24 x24n x24c x25 x26 I S)
    (bolterlaw15_TableScript_b11 R t_3 has_4 I S)
def bolterlaw15_TableScript_b2 (R : Value → IMem → SH → Prop) (t_3 : Option Addr) (has_4 : Option Nat) (x24 : Option Addr) (x24n : Nat) (x24c : Nat) (x25 : Int) (x26 : Int) (I : IMem) (S : SH) : Prop :=
  ∃ (Inv : Nat → Option Addr → Option Nat → Option Addr → Nat → Nat → Int → Int → IMem → SH → Prop) (m : Nat), Inv m t_3 has_4 x24 x24n x24c x25 x26 I S ∧
    ∀ (m : Nat) (t_3 : Option Addr) (has_4 : Option Nat) (x24 : Option Addr) (x24n : Nat) (x24c : Nat) (x25 : Int) (x26 : Int) (J : IMem) (T : SH), I.le J → Inv m t_3 has_4 x24 x24n x24c x25 x26 J T →
      bolterlaw15_TableScript_l3 (fun t_3 has_4 x24 x24n x24c x25 x26 I S => ∃ m', m' < m ∧ Inv m' t_3 has_4 x24 x24n x24c x25 x26 I S) R t_3 has_4 x24 x24n x24c x25 x26 J T
def bolterlaw15_TableScript_b1 (R : Value → IMem → SH → Prop) (acts_0 : Option Addr) (acts_0n : Nat) (acts_0c : Nat) (t_3 : Option Addr) (has_4 : Option Nat) (I : IMem) (S : SH) : Prop :=
  bolterlaw15_TableScript_b2 R t_3 has_4 acts_0 acts_0n acts_0c (acts_0n : Int) 0 I S
def bolterlaw15_TableScript (R : Value → IMem → SH → Prop) (acts_0 : Option Addr) (acts_0n : Nat) (acts_0c : Nat) (I : IMem) (S : SH) : Prop :=
  Runs Try.prog 14 #[] I S fun v I1 S1 => ∃ x19, v = .bool x19 ∧
  bcase (!x19)
    (R (.bool false) I1 S1)
    (∀ b22 : Nat,
    ∀ r23 : Nat,
    bolterlaw15_TableScript_b1 R acts_0 acts_0n acts_0c (some ⟨b22, 0, none⟩) (some r23) I1 ((r23, .map #[] 0) :: ((b22, .cells #[.slice none 0 0, .int .i64 0, .int .i64 0] 38 (0, 0)) :: S1)))
theorem bolterlaw15_TableScript_fn (R : Value → IMem → SH → Prop) (acts_0 : Option Addr) (acts_0n : Nat) (acts_0c : Nat) (I : IMem) (S : SH) (h : bolterlaw15_TableScript R acts_0 acts_0n acts_0c I S) :
    Runs Try.prog 5 #[.slice acts_0 acts_0n acts_0c] I S R := by
  refine Runs.of_wp (args := [.slice acts_0 acts_0n acts_0c]) (c := bolterlaw15_TableScript_code) Try.func5 (by kernel_rfl) (by kernel_rfl) ?_
  refine WP.cut 4 (fun l I S => asSl (l 0) fun acts_0 acts_0n acts_0c => asPtr (l 3) fun t_3 => asMap (l 4) fun has_4 => bolterlaw15_TableScript_b1 R acts_0 acts_0n acts_0c t_3 has_4 I S) (cast (by kernel_rfl) h) ?_
  clear h
  intro l I S _ h
  obtain ⟨acts_0, acts_0n, acts_0c, e0, h⟩ := asSl_e h
  obtain ⟨t_3, e3, h⟩ := asPtr_e h
  obtain ⟨has_4, e4, h⟩ := asMap_e h
  rw [upd_eta e0, upd_eta e3, upd_eta e4]
  refine WP.seqY (by kernel_rfl) (fun l I S => asPtr (l 3) fun t_3 => asMap (l 4) fun has_4 => bolterlaw15_TableScript_b11 R t_3 has_4 I S) ?_ ?_
  ·
    refine WP.cut 1 (fun l I S => asPtr (l 3) fun t_3 => asMap (l 4) fun has_4 => asSl (l 24) fun x24 x24n x24c => asI .i64 (l 25) fun x25 => asI .i64 (l 26) fun x26 => bolterlaw15_TableScript_b2 R t_3 has_4 x24 x24n x24c x25 x26 I S) (cast (by kernel_rfl) h) ?_
    clear h
    intro l I S _ h
    obtain ⟨t_3, e3, h⟩ := asPtr_e h
    obtain ⟨has_4, e4, h⟩ := asMap_e h
    obtain ⟨x24, x24n, x24c, e24, h⟩ := asSl_e h
    obtain ⟨x25, e25, h⟩ := asI_e h
    obtain ⟨x26, e26, h⟩ := asI_e h
    rw [upd_eta e3, upd_eta e4, upd_eta e24, upd_eta e25, upd_eta e26]
    refine WP.block' (by kernel_rfl) ?_
    obtain ⟨Inv_again3, m_again3, h0, hr⟩ := h
    refine WP.loop' (by kernel_rfl) (fun m_again3 => fun l I S => asPtr (l 3) fun t_3 => asMap (l 4) fun has_4 => asSl (l 24) fun x24 x24n x24c => asI .i64 (l 25) fun x25 => asI .i64 (l 26) fun x26 => Inv_again3 m_again3 t_3 has_4 x24 x24n x24c x25 x26 I S) m_again3 (cast (by kernel_rfl) h0) ?_
    clear h0
    intro m_again3 l I S hle h
    obtain ⟨t_3, e3, h⟩ := asPtr_e h
    obtain ⟨has_4, e4, h⟩ := asMap_e h
    obtain ⟨x24, x24n, x24c, e24, h⟩ := asSl_e h
    obtain ⟨x25, e25, h⟩ := asI_e h
    obtain ⟨x26, e26, h⟩ := asI_e h
    rw [upd_eta e3, upd_eta e4, upd_eta e24, upd_eta e25, upd_eta e26]
    have h := hr m_again3 t_3 has_4 x24 x24n x24c x25 x26 I S hle h
    clear hr hle
    refine WP.cut 2 (fun l I S => asPtr (l 3) fun t_3 => asMap (l 4) fun has_4 => asSl (l 24) fun x24 x24n x24c => asI .i64 (l 25) fun x25 => asI .i64 (l 26) fun x26 => bolterlaw15_TableScript_b4 (fun t_3 has_4 x24 x24n x24c x25 x26 I S => ∃ m', m' < m_again3 ∧ Inv_again3 m' t_3 has_4 x24 x24n x24c x25 x26 I S) R t_3 has_4 x24 x24n x24c x25 x26 I S) (cast (by kernel_rfl) h) ?_
    clear h
    intro l I S _ h
    obtain ⟨t_3, e3, h⟩ := asPtr_e h
    obtain ⟨has_4, e4, h⟩ := asMap_e h
    obtain ⟨x24, x24n, x24c, e24, h⟩ := asSl_e h
    obtain ⟨x25, e25, h⟩ := asI_e h
    obtain ⟨x26, e26, h⟩ := asI_e h
    rw [upd_eta e3, upd_eta e4, upd_eta e24, upd_eta e25, upd_eta e26]
    refine WP.seqY (by kernel_rfl) (fun l I S => asPtr (l 3) fun t_3 => asMap (l 4) fun has_4 => asSl (l 24) fun x24 x24n x24c => asI .i64 (l 25) fun x25 => asI .i64 (l 26) fun x26 => bolterlaw15_TableScript_b10 (fun t_3 has_4 x24 x24n x24c x25 x26 I S => ∃ m', m' < m_again3 ∧ Inv_again3 m' t_3 has_4 x24 x24n x24c x25 x26 I S) R t_3 has_4 x24 x24n x24c x25 x26 I S) ?_ ?_
    ·
      refine WP.block' (by kernel_rfl) ?_
      refine WP.cut 3 (fun l I S => asPtr (l 3) fun t_3 => asMap (l 4) fun has_4 => asAdr (l 6) fun a_6 => asStr (l 7) fun key_7 => asB (l 9) fun is_9 => asSl (l 24) fun x24 x24n x24c => asI .i64 (l 25) fun x25 => asI .i64 (l 26) fun x26 => bolterlaw15_TableScript_b5 (fun t_3 has_4 x24 x24n x24c x25 x26 I S => ∃ m', m' < m_again3 ∧ Inv_again3 m' t_3 has_4 x24 x24n x24c x25 x26 I S) R t_3 has_4 a_6 key_7 is_9 x24 x24n x24c x25 x26 I S) (cast (by kernel_rfl) h) ?_
      clear h
      intro l I S _ h
      obtain ⟨t_3, e3, h⟩ := asPtr_e h
      obtain ⟨has_4, e4, h⟩ := asMap_e h
      obtain ⟨a_6, e6, h⟩ := asAdr_e h
      obtain ⟨key_7, e7, h⟩ := asStr_e h
      obtain ⟨is_9, e9, h⟩ := asB_e h
      obtain ⟨x24, x24n, x24c, e24, h⟩ := asSl_e h
      obtain ⟨x25, e25, h⟩ := asI_e h
      obtain ⟨x26, e26, h⟩ := asI_e h
      rw [upd_eta e3, upd_eta e4, upd_eta e6, upd_eta e7, upd_eta e9, upd_eta e24, upd_eta e25, upd_eta e26]
      refine WP.seqY (by kernel_rfl) (fun l I S => asPtr (l 3) fun t_3 => asMap (l 4) fun has_4 => asStr (l 7) fun key_7 => asSl (l 24) fun x24 x24n x24c => asI .i64 (l 25) fun x25 => asI .i64 (l 26) fun x26 => bolterlaw15_TableScript_b8 (fun t_3 has_4 x24 x24n x24c x25 x26 I S => ∃ m', m' < m_again3 ∧ Inv_again3 m' t_3 has_4 x24 x24n x24c x25 x26 I S) R t_3 has_4 key_7 x24 x24n x24c x25 x26 I S) ?_ ?_
      ·
        refine WP.cut 1 (fun l I S => asPtr (l 3) fun t_3 => asMap (l 4) fun has_4 => asAdr (l 6) fun a_6 => asStr (l 7) fun key_7 => asB (l 9) fun is_9 => asSl (l 24) fun x24 x24n x24c => asI .i64 (l 25) fun x25 => asI .i64 (l 26) fun x26 => asI .u8 (l 41) fun x41 => bolterlaw15_TableScript_b6 (fun t_3 has_4 x24 x24n x24c x25 x26 I S => ∃ m', m' < m_again3 ∧ Inv_again3 m' t_3 has_4 x24 x24n x24c x25 x26 I S) R t_3 has_4 a_6 key_7 is_9 x24 x24n x24c x25 x26 x41 I S) (cast (by kernel_rfl) h) ?_
        clear h
        intro l I S _ h
        obtain ⟨t_3, e3, h⟩ := asPtr_e h
        obtain ⟨has_4, e4, h⟩ := asMap_e h
        obtain ⟨a_6, e6, h⟩ := asAdr_e h
        obtain ⟨key_7, e7, h⟩ := asStr_e h
        obtain ⟨is_9, e9, h⟩ := asB_e h
        obtain ⟨x24, x24n, x24c, e24, h⟩ := asSl_e h
        obtain ⟨x25, e25, h⟩ := asI_e h
        obtain ⟨x26, e26, h⟩ := asI_e h
        obtain ⟨x41, e41, h⟩ := asI_e h
        rw [upd_eta e3, upd_eta e4, upd_eta e6, upd_eta e7, upd_eta e9, upd_eta e24, upd_eta e25, upd_eta e26, upd_eta e41]
        refine WP.block' (by kernel_rfl) ?_
        refine WP.cut 1 (fun l I S => asPtr (l 3) fun t_3 => asMap (l 4) fun has_4 => asAdr (l 6) fun a_6 => asStr (l 7) fun key_7 => asB (l 9) fun is_9 => asSl (l 24) fun x24 x24n x24c => asI .i64 (l 25) fun x25 => asI .i64 (l 26) fun x26 => asI .u8 (l 41) fun x41 => asB (l 42) fun x42 => bolterlaw15_TableScript_b7 (fun t_3 has_4 x24 x24n x24c x25 x26 I S => ∃ m', m' < m_again3 ∧ Inv_again3 m' t_3 has_4 x24 x24n x24c x25 x26 I S) R t_3 has_4 a_6 key_7 is_9 x24 x24n x24c x25 x26 x41 x42 I S) (cast (by kernel_rfl) h) ?_
        clear h
        intro l I S _ h
        obtain ⟨t_3, e3, h⟩ := asPtr_e h
        obtain ⟨has_4, e4, h⟩ := asMap_e h
        obtain ⟨a_6, e6, h⟩ := asAdr_e h
        obtain ⟨key_7, e7, h⟩ := asStr_e h
        obtain ⟨is_9, e9, h⟩ := asB_e h
        obtain ⟨x24, x24n, x24c, e24, h⟩ := asSl_e h
        obtain ⟨x25, e25, h⟩ := asI_e h
        obtain ⟨x26, e26, h⟩ := asI_e h
        obtain ⟨x41, e41, h⟩ := asI_e h
        obtain ⟨x42, e42, h⟩ := asB_e h
        rw [upd_eta e3, upd_eta e4, upd_eta e6, upd_eta e7, upd_eta e9, upd_eta e24, upd_eta e25, upd_eta e26, upd_eta e41, upd_eta e42]
        exact Pre.sound _ _ _ _ _ (cast (by kernel_rfl) h)
      · clear h
        intro l I S _ h
        obtain ⟨t_3, e3, h⟩ := asPtr_e h
        obtain ⟨has_4, e4, h⟩ := asMap_e h
        obtain ⟨key_7, e7, h⟩ := asStr_e h
        obtain ⟨x24, x24n, x24c, e24, h⟩ := asSl_e h
        obtain ⟨x25, e25, h⟩ := asI_e h
        obtain ⟨x26, e26, h⟩ := asI_e h
        rw [upd_eta e3, upd_eta e4, upd_eta e7, upd_eta e24, upd_eta e25, upd_eta e26]
        refine WP.cut 3 (fun l I S => asPtr (l 3) fun t_3 => asMap (l 4) fun has_4 => asSl (l 24) fun x24 x24n x24c => asI .i64 (l 25) fun x25 => asI .i64 (l 26) fun x26 => asB (l 91) fun x91 => bolterlaw15_TableScript_b9 (fun t_3 has_4 x24 x24n x24c x25 x26 I S => ∃ m', m' < m_again3 ∧ Inv_again3 m' t_3 has_4 x24 x24n x24c x25 x26 I S) R t_3 has_4 x24 x24n x24c x25 x26 x91 I S) (cast (by kernel_rfl) h) ?_
        clear h
        intro l I S _ h
        obtain ⟨t_3, e3, h⟩ := asPtr_e h
        obtain ⟨has_4, e4, h⟩ := asMap_e h
        obtain ⟨x24, x24n, x24c, e24, h⟩ := asSl_e h
        obtain ⟨x25, e25, h⟩ := asI_e h
        obtain ⟨x26, e26, h⟩ := asI_e h
        obtain ⟨x91, e91, h⟩ := asB_e h
        rw [upd_eta e3, upd_eta e4, upd_eta e24, upd_eta e25, upd_eta e26, upd_eta e91]
        exact Pre.sound _ _ _ _ _ (cast (by kernel_rfl) h)
    · clear h
      intro l I S _ h
      obtain ⟨t_3, e3, h⟩ := asPtr_e h
      obtain ⟨has_4, e4, h⟩ := asMap_e h
      obtain ⟨x24, x24n, x24c, e24, h⟩ := asSl_e h
      obtain ⟨x25, e25, h⟩ := asI_e h
      obtain ⟨x26, e26, h⟩ := asI_e h
      rw [upd_eta e3, upd_eta e4, upd_eta e24, upd_eta e25, upd_eta e26]
      exact Pre.sound _ _ _ _ _ (cast (by kernel_rfl) h)
  · clear h
    intro l I S _ h
    obtain ⟨t_3, e3, h⟩ := asPtr_e h
    obtain ⟨has_4, e4, h⟩ := asMap_e h
    rw [upd_eta e3, upd_eta e4]
    refine WP.seqY (by kernel_rfl) (fun l I S => bolterlaw15_TableScript_b17 R I S) ?_ ?_
    ·
      refine WP.cut 1 (fun l I S => asPtr (l 3) fun t_3 => asMap (l 4) fun has_4 => asI .i64 (l 14) fun n_14 => bolterlaw15_TableScript_b12 R t_3 has_4 n_14 I S) (cast (by kernel_rfl) h) ?_
      clear h
      intro l I S _ h
      obtain ⟨t_3, e3, h⟩ := asPtr_e h
      obtain ⟨has_4, e4, h⟩ := asMap_e h
      obtain ⟨n_14, e14, h⟩ := asI_e h
      rw [upd_eta e3, upd_eta e4, upd_eta e14]
      refine WP.block' (by kernel_rfl) ?_
      obtain ⟨Inv_again13, m_again13, h0, hr⟩ := h
      refine WP.loop' (by kernel_rfl) (fun m_again13 => fun l I S => asPtr (l 3) fun t_3 => asMap (l 4) fun has_4 => asI .i64 (l 14) fun n_14 => Inv_again13 m_again13 t_3 has_4 n_14 I S) m_again13 (cast (by kernel_rfl) h0) ?_
      clear h0
      intro m_again13 l I S hle h
      obtain ⟨t_3, e3, h⟩ := asPtr_e h
      obtain ⟨has_4, e4, h⟩ := asMap_e h
      obtain ⟨n_14, e14, h⟩ := asI_e h
      rw [upd_eta e3, upd_eta e4, upd_eta e14]
      have h := hr m_again13 t_3 has_4 n_14 I S hle h
      clear hr hle
      refine WP.cut 1 (fun l I S => asPtr (l 3) fun t_3 => asMap (l 4) fun has_4 => asI .i64 (l 14) fun n_14 => bolterlaw15_TableScript_b14 (fun t_3 has_4 n_14 I S => ∃ m', m' < m_again13 ∧ Inv_again13 m' t_3 has_4 n_14 I S) R t_3 has_4 n_14 I S) (cast (by kernel_rfl) h) ?_
      clear h
      intro l I S _ h
      obtain ⟨t_3, e3, h⟩ := asPtr_e h
      obtain ⟨has_4, e4, h⟩ := asMap_e h
      obtain ⟨n_14, e14, h⟩ := asI_e h
      rw [upd_eta e3, upd_eta e4, upd_eta e14]
      refine WP.seqY (by kernel_rfl) (fun l I S => asPtr (l 3) fun t_3 => asMap (l 4) fun has_4 => asI .i64 (l 14) fun n_14 => bolterlaw15_TableScript_b16 (fun t_3 has_4 n_14 I S => ∃ m', m' < m_again13 ∧ Inv_again13 m' t_3 has_4 n_14 I S) R t_3 has_4 n_14 I S) ?_ ?_
      ·
        refine WP.block' (by kernel_rfl) ?_
        refine WP.cut 3 (fun l I S => asPtr (l 3) fun t_3 => asMap (l 4) fun has_4 => asI .i64 (l 14) fun n_14 => asB (l 120) fun x120 => bolterlaw15_TableScript_b15 (fun t_3 has_4 n_14 I S => ∃ m', m' < m_again13 ∧ Inv_again13 m' t_3 has_4 n_14 I S) R t_3 has_4 n_14 x120 I S) (cast (by kernel_rfl) h) ?_
        clear h
        intro l I S _ h
        obtain ⟨t_3, e3, h⟩ := asPtr_e h
        obtain ⟨has_4, e4, h⟩ := asMap_e h
        obtain ⟨n_14, e14, h⟩ := asI_e h
        obtain ⟨x120, e120, h⟩ := asB_e h
        rw [upd_eta e3, upd_eta e4, upd_eta e14, upd_eta e120]
        exact Pre.sound _ _ _ _ _ (cast (by kernel_rfl) h)
      · clear h
        intro l I S _ h
        obtain ⟨t_3, e3, h⟩ := asPtr_e h
        obtain ⟨has_4, e4, h⟩ := asMap_e h
        obtain ⟨n_14, e14, h⟩ := asI_e h
        rw [upd_eta e3, upd_eta e4, upd_eta e14]
        exact Pre.sound _ _ _ _ _ (cast (by kernel_rfl) h)
    · clear h
      intro l I S _ h
      exact Pre.sound _ _ _ _ _ (cast (by kernel_rfl) h)
/-! ### bolterlaw15_TableMany: function 6, bolter/bolterlaw15.TableMany -/
noncomputable def bolterlaw15_TableMany_code : Code := (Try.f6.body).getD .skip
def bolterlaw15_TableMany_b13 (again10 : Option Addr → Int → Int → Int → IMem → SH → Prop) (R : Value → IMem → SH → Prop) (t_5 : Option Addr) (k_6 : Int) (step_9 : Int) (i_11 : Int) (I : IMem) (S : SH) : Prop :=
  again10 t_5 k_6 step_9 (IntKind.wrap .i64 (i_11 + (1 : Int))) I S
def bolterlaw15_TableMany_b12 (again10 : Option Addr → Int → Int → Int → IMem → SH → Prop) (R : Value → IMem → SH → Prop) (t_5 : Option Addr) (k_6 : Int) (step_9 : Int) (i_11 : Int) (x75 : Bool) (I : IMem) (S : SH) : Prop :=
  bcase x75
    (R (.bool false) I S)
    (bolterlaw15_TableMany_b13 again10 R t_5 k_6 step_9 i_11 I S)
def bolterlaw15_TableMany_b11 (again10 : Option Addr → Int → Int → Int → IMem → SH → Prop) (R : Value → IMem → SH → Prop) (t_5 : Option Addr) (k_6 : Int) (step_9 : Int) (i_11 : Int) (I : IMem) (S : SH) : Prop :=
  Runs Try.prog 25 #[.int .i64 i_11] I S fun v I1 S1 => ∃ x58, v = .string x58 ∧
  Runs Try.prog 23 #[.pointer t_5, .string x58] I1 S1 fun v' I1' S1' => ∃ x59_0 x59_1, v' = .tuple #[.int .i64 x59_0, .bool x59_1] ∧
  bcase (decide (step_9 = 0)) False (bcase (!(x59_1 == ((i_11.tmod step_9) != (0 : Int))))
    (bolterlaw15_TableMany_b12 again10 R t_5 k_6 step_9 i_11 true I1' S1')
    (bcase x59_1
      (bolterlaw15_TableMany_b12 again10 R t_5 k_6 step_9 i_11 (x59_0 != i_11) I1' S1')
      (bolterlaw15_TableMany_b12 again10 R t_5 k_6 step_9 i_11 false I1' S1')))
def bolterlaw15_TableMany_b15 (R : Value → IMem → SH → Prop) (x4 : Bool) (I : IMem) (S : SH) : Prop :=
  R (.bool x4) I S
def bolterlaw15_TableMany_b14 (R : Value → IMem → SH → Prop) (t_5 : Option Addr) (k_6 : Int) (step_9 : Int) (I : IMem) (S : SH) : Prop :=
  bcase (decide (step_9 = 0)) False (Runs Try.prog 24 #[.pointer t_5] I S fun v I1 S1 => ∃ x77, v = .int .i64 x77 ∧
  bolterlaw15_TableMany_b15 R (x77 == (IntKind.wrap .i64 (k_6 - (IntKind.wrap .i64 ((IntKind.wrap .i64 ((IntKind.wrap .i64 (k_6 + step_9)) - (1 : Int))).tdiv step_9))))) I1 S1)
def bolterlaw15_TableMany_l10 (again10 : Option Addr → Int → Int → Int → IMem → SH → Prop) (R : Value → IMem → SH → Prop) (t_5 : Option Addr) (k_6 : Int) (step_9 : Int) (i_11 : Int) (I : IMem) (S : SH) : Prop :=
  bcase (decide (i_11 < k_6))
    (bolterlaw15_TableMany_b11 again10 R t_5 k_6 step_9 i_11 I S)
    (bolterlaw15_TableMany_b14 R t_5 k_6 step_9 I S)
def bolterlaw15_TableMany_b9 (R : Value → IMem → SH → Prop) (t_5 : Option Addr) (k_6 : Int) (step_9 : Int) (i_11 : Int) (I : IMem) (S : SH) : Prop :=
  ∃ (Inv : Nat → Option Addr → Int → Int → Int → IMem → SH → Prop) (m : Nat), Inv m t_5 k_6 step_9 i_11 I S ∧
    ∀ (m : Nat) (t_5 : Option Addr) (k_6 : Int) (step_9 : Int) (i_11 : Int) (J : IMem) (T : SH), I.le J → Inv m t_5 k_6 step_9 i_11 J T →
      bolterlaw15_TableMany_l10 (fun t_5 k_6 step_9 i_11 I S => ∃ m', m' < m ∧ Inv m' t_5 k_6 step_9 i_11 I S) R t_5 k_6 step_9 i_11 J T
def bolterlaw15_TableMany_b8 (R : Value → IMem → SH → Prop) (t_5 : Option Addr) (k_6 : Int) (step_9 : Int) (I : IMem) (S : SH) : Prop :=
  bolterlaw15_TableMany_b9 R t_5 k_6 step_9 0 I S
def bolterlaw15_TableMany_l7 (again7 : Option Addr → Int → Int → Int → IMem → SH → Prop) (R : Value → IMem → SH → Prop) (t_5 : Option Addr) (k_6 : Int) (step_9 : Int) (i_10 : Int) (I : IMem) (S : SH) : Prop :=
  bcase (decide (i_10 < k_6))
    (Runs Try.prog 25 #[.int .i64 i_10] I S fun v I1 S1 => ∃ x46, v = .string x46 ∧
    Runs Try.prog 22 #[.pointer t_5, .string x46] I1 S1 fun v' I1' S1' => ∃ x47, v' = .bool x47 ∧
    bcase (!x47)
      (R (.bool false) I1' S1')
      (again7 t_5 k_6 step_9 (IntKind.wrap .i64 (i_10 + step_9)) I1' S1'))
    (bolterlaw15_TableMany_b8 R t_5 k_6 step_9 I S)
def bolterlaw15_TableMany_b6 (R : Value → IMem → SH → Prop) (t_5 : Option Addr) (k_6 : Int) (step_9 : Int) (i_10 : Int) (I : IMem) (S : SH) : Prop :=
  ∃ (Inv : Nat → Option Addr → Int → Int → Int → IMem → SH → Prop) (m : Nat), Inv m t_5 k_6 step_9 i_10 I S ∧
    ∀ (m : Nat) (t_5 : Option Addr) (k_6 : Int) (step_9 : Int) (i_10 : Int) (J : IMem) (T : SH), I.le J → Inv m t_5 k_6 step_9 i_10 J T →
      bolterlaw15_TableMany_l7 (fun t_5 k_6 step_9 i_10 I S => ∃ m', m' < m ∧ Inv m' t_5 k_6 step_9 i_10 I S) R t_5 k_6 step_9 i_10 J T
def bolterlaw15_TableMany_b5 (R : Value → IMem → SH → Prop) (t_5 : Option Addr) (k_6 : Int) (step_9 : Int) (I : IMem) (S : SH) : Prop :=
  bolterlaw15_TableMany_b6 R t_5 k_6 step_9 0 I S
def bolterlaw15_TableMany_b4 (R : Value → IMem → SH → Prop) (drop_1 : Int) (t_5 : Option Addr) (k_6 : Int) (I : IMem) (S : SH) : Prop :=
  bolterlaw15_TableMany_b5 R t_5 k_6 (IntKind.wrap .i64 ((2 : Int) + (IntKind.wrap .i64 (drop_1.tmod (5 : Int))))) I S
def bolterlaw15_TableMany_l3 (again3 : Int → Option Addr → Int → Int → IMem → SH → Prop) (R : Value → IMem → SH → Prop) (drop_1 : Int) (t_5 : Option Addr) (k_6 : Int) (i_8 : Int) (I : IMem) (S : SH) : Prop :=
  bcase (decide (i_8 < k_6))
    (Runs Try.prog 25 #[.int .i64 i_8] I S fun v I1 S1 => ∃ x29, v = .string x29 ∧
    Runs Try.prog 21 #[.pointer t_5, .string x29, .int .i64 i_8] I1 S1 fun v' I1' S1' => ∃ x31, v' = .bool x31 ∧
    bcase (!x31)
      (R (.bool false) I1' S1')
      (again3 drop_1 t_5 k_6 (IntKind.wrap .i64 (i_8 + (1 : Int))) I1' S1'))
    (bolterlaw15_TableMany_b4 R drop_1 t_5 k_6 I S)
def bolterlaw15_TableMany_b2 (R : Value → IMem → SH → Prop) (drop_1 : Int) (t_5 : Option Addr) (k_6 : Int) (i_8 : Int) (I : IMem) (S : SH) : Prop :=
  ∃ (Inv : Nat → Int → Option Addr → Int → Int → IMem → SH → Prop) (m : Nat), Inv m drop_1 t_5 k_6 i_8 I S ∧
    ∀ (m : Nat) (drop_1 : Int) (t_5 : Option Addr) (k_6 : Int) (i_8 : Int) (J : IMem) (T : SH), I.le J → Inv m drop_1 t_5 k_6 i_8 J T →
      bolterlaw15_TableMany_l3 (fun drop_1 t_5 k_6 i_8 I S => ∃ m', m' < m ∧ Inv m' drop_1 t_5 k_6 i_8 I S) R drop_1 t_5 k_6 i_8 J T
def bolterlaw15_TableMany_b1 (R : Value → IMem → SH → Prop) (drop_1 : Int) (t_5 : Option Addr) (k_6 : Int) (I : IMem) (S : SH) : Prop :=
  bolterlaw15_TableMany_b2 R drop_1 t_5 k_6 0 I S
def bolterlaw15_TableMany (R : Value → IMem → SH → Prop) (n_0 : Int) (drop_1 : Int) (I : IMem) (S : SH) : Prop :=
  Runs Try.prog 14 #[] I S fun v I1 S1 => ∃ x14, v = .bool x14 ∧
  bcase (!x14)
    (R (.bool false) I1 S1)
    (∀ b17 : Nat,
    bolterlaw15_TableMany_b1 R drop_1 (some ⟨b17, 0, none⟩) (IntKind.wrap .i64 (n_0.tmod (2000 : Int))) I1 ((b17, .cells #[.slice none 0 0, .int .i64 0, .int .i64 0] 38 (0, 0)) :: S1))
theorem bolterlaw15_TableMany_fn (R : Value → IMem → SH → Prop) (n_0 : Int) (drop_1 : Int) (I : IMem) (S : SH) (h : bolterlaw15_TableMany R n_0 drop_1 I S) :
    Runs Try.prog 6 #[.int .u16 n_0, .int .u8 drop_1] I S R := by
  refine Runs.of_wp (args := [.int .u16 n_0, .int .u8 drop_1]) (c := bolterlaw15_TableMany_code) Try.func6 (by kernel_rfl) (by kernel_rfl) ?_
  refine WP.cut 5 (fun l I S => asI .u8 (l 1) fun drop_1 => asPtr (l 5) fun t_5 => asI .i64 (l 6) fun k_6 => asF 25 (l 7) (bolterlaw15_TableMany_b1 R drop_1 t_5 k_6 I S)) (cast (by kernel_rfl) h) ?_
  clear h
  intro l I S _ h
  obtain ⟨drop_1, e1, h⟩ := asI_e h
  obtain ⟨t_5, e5, h⟩ := asPtr_e h
  obtain ⟨k_6, e6, h⟩ := asI_e h
  obtain ⟨e7, h⟩ := asF_e h
  rw [upd_eta e1, upd_eta e5, upd_eta e6, upd_eta e7]
  refine WP.seqY (by kernel_rfl) (fun l I S => asI .u8 (l 1) fun drop_1 => asPtr (l 5) fun t_5 => asI .i64 (l 6) fun k_6 => asF 25 (l 7) (bolterlaw15_TableMany_b4 R drop_1 t_5 k_6 I S)) ?_ ?_
  ·
    refine WP.cut 1 (fun l I S => asI .u8 (l 1) fun drop_1 => asPtr (l 5) fun t_5 => asI .i64 (l 6) fun k_6 => asF 25 (l 7) (asI .i64 (l 8) fun i_8 => bolterlaw15_TableMany_b2 R drop_1 t_5 k_6 i_8 I S)) (cast (by kernel_rfl) h) ?_
    clear h
    intro l I S _ h
    obtain ⟨drop_1, e1, h⟩ := asI_e h
    obtain ⟨t_5, e5, h⟩ := asPtr_e h
    obtain ⟨k_6, e6, h⟩ := asI_e h
    obtain ⟨e7, h⟩ := asF_e h
    obtain ⟨i_8, e8, h⟩ := asI_e h
    rw [upd_eta e1, upd_eta e5, upd_eta e6, upd_eta e7, upd_eta e8]
    refine WP.block' (by kernel_rfl) ?_
    obtain ⟨Inv_again3, m_again3, h0, hr⟩ := h
    refine WP.loop' (by kernel_rfl) (fun m_again3 => fun l I S => asI .u8 (l 1) fun drop_1 => asPtr (l 5) fun t_5 => asI .i64 (l 6) fun k_6 => asF 25 (l 7) (asI .i64 (l 8) fun i_8 => Inv_again3 m_again3 drop_1 t_5 k_6 i_8 I S)) m_again3 (cast (by kernel_rfl) h0) ?_
    clear h0
    intro m_again3 l I S hle h
    obtain ⟨drop_1, e1, h⟩ := asI_e h
    obtain ⟨t_5, e5, h⟩ := asPtr_e h
    obtain ⟨k_6, e6, h⟩ := asI_e h
    obtain ⟨e7, h⟩ := asF_e h
    obtain ⟨i_8, e8, h⟩ := asI_e h
    rw [upd_eta e1, upd_eta e5, upd_eta e6, upd_eta e7, upd_eta e8]
    have h := hr m_again3 drop_1 t_5 k_6 i_8 I S hle h
    clear hr hle
    exact Pre.sound _ _ _ _ _ (cast (by kernel_rfl) h)
  · clear h
    intro l I S _ h
    obtain ⟨drop_1, e1, h⟩ := asI_e h
    obtain ⟨t_5, e5, h⟩ := asPtr_e h
    obtain ⟨k_6, e6, h⟩ := asI_e h
    obtain ⟨e7, h⟩ := asF_e h
    rw [upd_eta e1, upd_eta e5, upd_eta e6, upd_eta e7]
    refine WP.cut 1 (fun l I S => asPtr (l 5) fun t_5 => asI .i64 (l 6) fun k_6 => asF 25 (l 7) (asI .i64 (l 9) fun step_9 => bolterlaw15_TableMany_b5 R t_5 k_6 step_9 I S)) (cast (by kernel_rfl) h) ?_
    clear h
    intro l I S _ h
    obtain ⟨t_5, e5, h⟩ := asPtr_e h
    obtain ⟨k_6, e6, h⟩ := asI_e h
    obtain ⟨e7, h⟩ := asF_e h
    obtain ⟨step_9, e9, h⟩ := asI_e h
    rw [upd_eta e5, upd_eta e6, upd_eta e7, upd_eta e9]
    refine WP.seqY (by kernel_rfl) (fun l I S => asPtr (l 5) fun t_5 => asI .i64 (l 6) fun k_6 => asF 25 (l 7) (asI .i64 (l 9) fun step_9 => bolterlaw15_TableMany_b8 R t_5 k_6 step_9 I S)) ?_ ?_
    ·
      refine WP.cut 1 (fun l I S => asPtr (l 5) fun t_5 => asI .i64 (l 6) fun k_6 => asF 25 (l 7) (asI .i64 (l 9) fun step_9 => asI .i64 (l 10) fun i_10 => bolterlaw15_TableMany_b6 R t_5 k_6 step_9 i_10 I S)) (cast (by kernel_rfl) h) ?_
      clear h
      intro l I S _ h
      obtain ⟨t_5, e5, h⟩ := asPtr_e h
      obtain ⟨k_6, e6, h⟩ := asI_e h
      obtain ⟨e7, h⟩ := asF_e h
      obtain ⟨step_9, e9, h⟩ := asI_e h
      obtain ⟨i_10, e10, h⟩ := asI_e h
      rw [upd_eta e5, upd_eta e6, upd_eta e7, upd_eta e9, upd_eta e10]
      refine WP.block' (by kernel_rfl) ?_
      obtain ⟨Inv_again7, m_again7, h0, hr⟩ := h
      refine WP.loop' (by kernel_rfl) (fun m_again7 => fun l I S => asPtr (l 5) fun t_5 => asI .i64 (l 6) fun k_6 => asF 25 (l 7) (asI .i64 (l 9) fun step_9 => asI .i64 (l 10) fun i_10 => Inv_again7 m_again7 t_5 k_6 step_9 i_10 I S)) m_again7 (cast (by kernel_rfl) h0) ?_
      clear h0
      intro m_again7 l I S hle h
      obtain ⟨t_5, e5, h⟩ := asPtr_e h
      obtain ⟨k_6, e6, h⟩ := asI_e h
      obtain ⟨e7, h⟩ := asF_e h
      obtain ⟨step_9, e9, h⟩ := asI_e h
      obtain ⟨i_10, e10, h⟩ := asI_e h
      rw [upd_eta e5, upd_eta e6, upd_eta e7, upd_eta e9, upd_eta e10]
      have h := hr m_again7 t_5 k_6 step_9 i_10 I S hle h
      clear hr hle
      exact Pre.sound _ _ _ _ _ (cast (by kernel_rfl) h)
    · clear h
      intro l I S _ h
      obtain ⟨t_5, e5, h⟩ := asPtr_e h
      obtain ⟨k_6, e6, h⟩ := asI_e h
      obtain ⟨e7, h⟩ := asF_e h
      obtain ⟨step_9, e9, h⟩ := asI_e h
      rw [upd_eta e5, upd_eta e6, upd_eta e7, upd_eta e9]
      refine WP.seqY (by kernel_rfl) (fun l I S => asPtr (l 5) fun t_5 => asI .i64 (l 6) fun k_6 => asI .i64 (l 9) fun step_9 => bolterlaw15_TableMany_b14 R t_5 k_6 step_9 I S) ?_ ?_
      ·
        refine WP.cut 1 (fun l I S => asPtr (l 5) fun t_5 => asI .i64 (l 6) fun k_6 => asF 25 (l 7) (asI .i64 (l 9) fun step_9 => asI .i64 (l 11) fun i_11 => bolterlaw15_TableMany_b9 R t_5 k_6 step_9 i_11 I S)) (cast (by kernel_rfl) h) ?_
        clear h
        intro l I S _ h
        obtain ⟨t_5, e5, h⟩ := asPtr_e h
        obtain ⟨k_6, e6, h⟩ := asI_e h
        obtain ⟨e7, h⟩ := asF_e h
        obtain ⟨step_9, e9, h⟩ := asI_e h
        obtain ⟨i_11, e11, h⟩ := asI_e h
        rw [upd_eta e5, upd_eta e6, upd_eta e7, upd_eta e9, upd_eta e11]
        refine WP.block' (by kernel_rfl) ?_
        obtain ⟨Inv_again10, m_again10, h0, hr⟩ := h
        refine WP.loop' (by kernel_rfl) (fun m_again10 => fun l I S => asPtr (l 5) fun t_5 => asI .i64 (l 6) fun k_6 => asF 25 (l 7) (asI .i64 (l 9) fun step_9 => asI .i64 (l 11) fun i_11 => Inv_again10 m_again10 t_5 k_6 step_9 i_11 I S)) m_again10 (cast (by kernel_rfl) h0) ?_
        clear h0
        intro m_again10 l I S hle h
        obtain ⟨t_5, e5, h⟩ := asPtr_e h
        obtain ⟨k_6, e6, h⟩ := asI_e h
        obtain ⟨e7, h⟩ := asF_e h
        obtain ⟨step_9, e9, h⟩ := asI_e h
        obtain ⟨i_11, e11, h⟩ := asI_e h
        rw [upd_eta e5, upd_eta e6, upd_eta e7, upd_eta e9, upd_eta e11]
        have h := hr m_again10 t_5 k_6 step_9 i_11 I S hle h
        clear hr hle
        refine WP.cut 1 (fun l I S => asPtr (l 5) fun t_5 => asI .i64 (l 6) fun k_6 => asF 25 (l 7) (asI .i64 (l 9) fun step_9 => asI .i64 (l 11) fun i_11 => bolterlaw15_TableMany_b11 (fun t_5 k_6 step_9 i_11 I S => ∃ m', m' < m_again10 ∧ Inv_again10 m' t_5 k_6 step_9 i_11 I S) R t_5 k_6 step_9 i_11 I S)) (cast (by kernel_rfl) h) ?_
        clear h
        intro l I S _ h
        obtain ⟨t_5, e5, h⟩ := asPtr_e h
        obtain ⟨k_6, e6, h⟩ := asI_e h
        obtain ⟨e7, h⟩ := asF_e h
        obtain ⟨step_9, e9, h⟩ := asI_e h
        obtain ⟨i_11, e11, h⟩ := asI_e h
        rw [upd_eta e5, upd_eta e6, upd_eta e7, upd_eta e9, upd_eta e11]
        refine WP.seqY (by kernel_rfl) (fun l I S => asPtr (l 5) fun t_5 => asI .i64 (l 6) fun k_6 => asF 25 (l 7) (asI .i64 (l 9) fun step_9 => asI .i64 (l 11) fun i_11 => bolterlaw15_TableMany_b13 (fun t_5 k_6 step_9 i_11 I S => ∃ m', m' < m_again10 ∧ Inv_again10 m' t_5 k_6 step_9 i_11 I S) R t_5 k_6 step_9 i_11 I S)) ?_ ?_
        ·
          refine WP.block' (by kernel_rfl) ?_
          refine WP.cut 2 (fun l I S => asPtr (l 5) fun t_5 => asI .i64 (l 6) fun k_6 => asF 25 (l 7) (asI .i64 (l 9) fun step_9 => asI .i64 (l 11) fun i_11 => asB (l 75) fun x75 => bolterlaw15_TableMany_b12 (fun t_5 k_6 step_9 i_11 I S => ∃ m', m' < m_again10 ∧ Inv_again10 m' t_5 k_6 step_9 i_11 I S) R t_5 k_6 step_9 i_11 x75 I S)) (cast (by kernel_rfl) h) ?_
          clear h
          intro l I S _ h
          obtain ⟨t_5, e5, h⟩ := asPtr_e h
          obtain ⟨k_6, e6, h⟩ := asI_e h
          obtain ⟨e7, h⟩ := asF_e h
          obtain ⟨step_9, e9, h⟩ := asI_e h
          obtain ⟨i_11, e11, h⟩ := asI_e h
          obtain ⟨x75, e75, h⟩ := asB_e h
          rw [upd_eta e5, upd_eta e6, upd_eta e7, upd_eta e9, upd_eta e11, upd_eta e75]
          exact Pre.sound _ _ _ _ _ (cast (by kernel_rfl) h)
        · clear h
          intro l I S _ h
          obtain ⟨t_5, e5, h⟩ := asPtr_e h
          obtain ⟨k_6, e6, h⟩ := asI_e h
          obtain ⟨e7, h⟩ := asF_e h
          obtain ⟨step_9, e9, h⟩ := asI_e h
          obtain ⟨i_11, e11, h⟩ := asI_e h
          rw [upd_eta e5, upd_eta e6, upd_eta e7, upd_eta e9, upd_eta e11]
          exact Pre.sound _ _ _ _ _ (cast (by kernel_rfl) h)
      · clear h
        intro l I S _ h
        obtain ⟨t_5, e5, h⟩ := asPtr_e h
        obtain ⟨k_6, e6, h⟩ := asI_e h
        obtain ⟨step_9, e9, h⟩ := asI_e h
        rw [upd_eta e5, upd_eta e6, upd_eta e9]
        refine WP.seqY (by kernel_rfl) (fun l I S => asB (l 4) fun x4 => bolterlaw15_TableMany_b15 R x4 I S) ?_ ?_
        ·
          exact WP.draw' (.take 0 (.take 2 (.take 3 (.take 4 (.take 5 (.take 6 (.take 7 (.take 8 (.take 9 (.step 1 (.take 10 (.take 11 .done)))))))))))) [1] (by kernel_rfl) (by kernel_rfl) (by kernel_rfl) (by kernel_rfl) (by kernel_rfl) (cast (by kernel_rfl) h)
        · clear h
          intro l I S _ h
          obtain ⟨x4, e4, h⟩ := asB_e h
          rw [upd_eta e4]
          exact Pre.sound _ _ _ _ _ (cast (by kernel_rfl) h)
/-! ### bolterlaw15_TableSlots: function 7, bolter/bolterlaw15.TableSlots -/
noncomputable def bolterlaw15_TableSlots_code : Code := (Try.f7.body).getD .skip
def bolterlaw15_TableSlots_b9 (again3 : Option Addr → Int → Option Addr → Nat → Nat → Int → Int → IMem → SH → Prop) (R : Value → IMem → SH → Prop) (t_3 : Option Addr) (most_4 : Int) (x13 : Option Addr) (x13n : Nat) (x13c : Nat) (x14 : Int) (x15 : Int) (I : IMem) (S : SH) : Prop :=
  again3 t_3 most_4 x13 x13n x13c x14 (IntKind.wrap .i64 (x15 + (1 : Int))) I S
def bolterlaw15_TableSlots_b8 (again3 : Option Addr → Int → Option Addr → Nat → Nat → Int → Int → IMem → SH → Prop) (R : Value → IMem → SH → Prop) (t_3 : Option Addr) (most_4 : Int) (x13 : Option Addr) (x13n : Nat) (x13c : Nat) (x14 : Int) (x15 : Int) (x69 : Bool) (I : IMem) (S : SH) : Prop :=
  bcase x69
    (R (.bool false) I S)
    (bolterlaw15_TableSlots_b9 again3 R t_3 most_4 x13 x13n x13c x14 x15 I S)
def bolterlaw15_TableSlots_b7 (again3 : Option Addr → Int → Option Addr → Nat → Nat → Int → Int → IMem → SH → Prop) (R : Value → IMem → SH → Prop) (t_3 : Option Addr) (most_4 : Int) (x13 : Option Addr) (x13n : Nat) (x13c : Nat) (x14 : Int) (x15 : Int) (I : IMem) (S : SH) : Prop :=
  Runs Try.prog 24 #[.pointer t_3] I S fun v I1 S1 => ∃ x37, v = .int .i64 x37 ∧
  Runs Try.prog 26 #[.pointer t_3] I1 S1 fun v' I1' S1' => ∃ x41_0 x41_1, v' = .tuple #[.int .i64 x41_0, .int .i64 x41_1] ∧
  bcase (decide ((IntKind.wrap .i64 ((2 : Int) * x41_1)) > x41_0))
    (bolterlaw15_TableSlots_b8 again3 R t_3 (if x37 > most_4 then x37 else most_4) x13 x13n x13c x14 x15 true I1' S1')
    (Runs Try.prog 24 #[.pointer t_3] I1' S1' fun v'' I1'' S1'' => ∃ x51, v'' = .int .i64 x51 ∧
    bcase (decide (x41_1 < x51))
      (bolterlaw15_TableSlots_b8 again3 R t_3 (if x37 > most_4 then x37 else most_4) x13 x13n x13c x14 x15 true I1'' S1'')
      (bcase (decide (x41_0 > (if (IntKind.wrap .i64 ((8 : Int) * (if x37 > most_4 then x37 else most_4))) > (8 : Int) then (IntKind.wrap .i64 ((8 : Int) * (if x37 > most_4 then x37 else most_4))) else (8 : Int))))
        (bolterlaw15_TableSlots_b8 again3 R t_3 (if x37 > most_4 then x37 else most_4) x13 x13n x13c x14 x15 true I1'' S1'')
        (bcase (decide (x41_0 < (8 : Int)))
          (Runs Try.prog 24 #[.pointer t_3] I1'' S1'' fun v_r3 I1_r3 S1_r3 => ∃ x66, v_r3 = .int .i64 x66 ∧
          bolterlaw15_TableSlots_b8 again3 R t_3 (if x37 > most_4 then x37 else most_4) x13 x13n x13c x14 x15 (decide (x66 > (0 : Int))) I1_r3 S1_r3)
          (bolterlaw15_TableSlots_b8 again3 R t_3 (if x37 > most_4 then x37 else most_4) x13 x13n x13c x14 x15 false I1'' S1''))))
def bolterlaw15_TableSlots_b6 (again3 : Option Addr → Int → Option Addr → Nat → Nat → Int → Int → IMem → SH → Prop) (R : Value → IMem → SH → Prop) (t_3 : Option Addr) (most_4 : Int) (a_6 : Addr) (x13 : Option Addr) (x13n : Nat) (x13c : Nat) (x14 : Int) (x15 : Int) (x22 : Bool) (I : IMem) (S : SH) : Prop :=
  bcase x22
    (∃ x25, Cell I S (a_6.add 1) (.int .u8 x25) ∧
    Runs Try.prog 20 #[.int .u8 x25] I S fun v I1 S1 => ∃ x26, v = .string x26 ∧
    Runs Try.prog 22 #[.pointer t_3, .string x26] I1 S1 fun v' I1' S1' => ∃ x27, v' = .bool x27 ∧
    bolterlaw15_TableSlots_b7 again3 R t_3 most_4 x13 x13n x13c x14 x15 I1' S1')
    (∃ x30, Cell I S (a_6.add 1) (.int .u8 x30) ∧
    ∃ x31, (∀ J T, I.le J → Runs Try.prog 20 #[.int .u8 x30] J (T ++ S) (fun v' _ T' => v' = .string x31 ∧ T' = T ++ S)) ∧
    ∃ x33, Cell I S (a_6.add 2) (.int .i64 x33) ∧
    Runs Try.prog 21 #[.pointer t_3, .string x31, .int .i64 x33] I S fun v'' I1'' S1'' => ∃ x34, v'' = .bool x34 ∧
    bolterlaw15_TableSlots_b7 again3 R t_3 most_4 x13 x13n x13c x14 x15 I1'' S1'')
def bolterlaw15_TableSlots_b5 (again3 : Option Addr → Int → Option Addr → Nat → Nat → Int → Int → IMem → SH → Prop) (R : Value → IMem → SH → Prop) (t_3 : Option Addr) (most_4 : Int) (a_6 : Addr) (x13 : Option Addr) (x13n : Nat) (x13c : Nat) (x14 : Int) (x15 : Int) (I : IMem) (S : SH) : Prop :=
  ∃ x20, Cell I S a_6 (.int .u8 x20) ∧
  bolterlaw15_TableSlots_b6 again3 R t_3 most_4 a_6 x13 x13n x13c x14 x15 ((x20.tmod (3 : Int)) == (2 : Int)) I S
def bolterlaw15_TableSlots_b4 (again3 : Option Addr → Int → Option Addr → Nat → Nat → Int → Int → IMem → SH → Prop) (R : Value → IMem → SH → Prop) (t_3 : Option Addr) (most_4 : Int) (x13 : Option Addr) (x13n : Nat) (x13c : Nat) (x14 : Int) (x15 : Int) (I : IMem) (S : SH) : Prop :=
  ptrP x13 fun x17 => (0 : Int) ≤ x15 ∧ x15 < (x13n : Int) ∧
  ∃ x18_0, Cell I S (x17.add (x15.toNat * 3)) (.int .u8 x18_0) ∧
  ∃ x18_1, Cell I S ((x17.add (x15.toNat * 3)).add 1) (.int .u8 x18_1) ∧
  ∃ x18_2, Cell I S ((x17.add (x15.toNat * 3)).add 2) (.int .i64 x18_2) ∧
  ∀ b6 : Nat,
  StP ((b6, .cells #[.int .u8 0, .int .u8 0, .int .i64 0] 41 (0, 0)) :: S) ⟨b6, 0, none⟩ [.int .u8 x18_0, .int .u8 x18_1, .int .i64 x18_2] fun S1 =>
  bolterlaw15_TableSlots_b5 again3 R t_3 most_4 ⟨b6, 0, none⟩ x13 x13n x13c x14 x15 I S1
def bolterlaw15_TableSlots_b10 (R : Value → IMem → SH → Prop) (I : IMem) (S : SH) : Prop :=
  R (.bool true) I S
def bolterlaw15_TableSlots_l3 (again3 : Option Addr → Int → Option Addr → Nat → Nat → Int → Int → IMem → SH → Prop) (R : Value → IMem → SH → Prop) (t_3 : Option Addr) (most_4 : Int) (x13 : Option Addr) (x13n : Nat) (x13c : Nat) (x14 : Int) (x15 : Int) (I : IMem) (S : SH) : Prop :=
  bcase (decide (x15 < x14))
    (bolterlaw15_TableSlots_b4 again3 R t_3 most_4 x13 x13n x13c x14 x15 I S)
    (bolterlaw15_TableSlots_b10 R I S)
def bolterlaw15_TableSlots_b2 (R : Value → IMem → SH → Prop) (t_3 : Option Addr) (most_4 : Int) (x13 : Option Addr) (x13n : Nat) (x13c : Nat) (x14 : Int) (x15 : Int) (I : IMem) (S : SH) : Prop :=
  ∃ (Inv : Nat → Option Addr → Int → Option Addr → Nat → Nat → Int → Int → IMem → SH → Prop) (m : Nat), Inv m t_3 most_4 x13 x13n x13c x14 x15 I S ∧
    ∀ (m : Nat) (t_3 : Option Addr) (most_4 : Int) (x13 : Option Addr) (x13n : Nat) (x13c : Nat) (x14 : Int) (x15 : Int) (J : IMem) (T : SH), I.le J → Inv m t_3 most_4 x13 x13n x13c x14 x15 J T →
      bolterlaw15_TableSlots_l3 (fun t_3 most_4 x13 x13n x13c x14 x15 I S => ∃ m', m' < m ∧ Inv m' t_3 most_4 x13 x13n x13c x14 x15 I S) R t_3 most_4 x13 x13n x13c x14 x15 J T
def bolterlaw15_TableSlots_b1 (R : Value → IMem → SH → Prop) (acts_0 : Option Addr) (acts_0n : Nat) (acts_0c : Nat) (t_3 : Option Addr) (most_4 : Int) (I : IMem) (S : SH) : Prop :=
  bolterlaw15_TableSlots_b2 R t_3 most_4 acts_0 acts_0n acts_0c (acts_0n : Int) 0 I S
def bolterlaw15_TableSlots (R : Value → IMem → SH → Prop) (acts_0 : Option Addr) (acts_0n : Nat) (acts_0c : Nat) (I : IMem) (S : SH) : Prop :=
  Runs Try.prog 14 #[] I S fun v I1 S1 => ∃ x9, v = .bool x9 ∧
  bcase (!x9)
    (R (.bool false) I1 S1)
    (∀ b12 : Nat,
    bolterlaw15_TableSlots_b1 R acts_0 acts_0n acts_0c (some ⟨b12, 0, none⟩) 0 I1 ((b12, .cells #[.slice none 0 0, .int .i64 0, .int .i64 0] 38 (0, 0)) :: S1))
theorem bolterlaw15_TableSlots_fn (R : Value → IMem → SH → Prop) (acts_0 : Option Addr) (acts_0n : Nat) (acts_0c : Nat) (I : IMem) (S : SH) (h : bolterlaw15_TableSlots R acts_0 acts_0n acts_0c I S) :
    Runs Try.prog 7 #[.slice acts_0 acts_0n acts_0c] I S R := by
  refine Runs.of_wp (args := [.slice acts_0 acts_0n acts_0c]) (c := bolterlaw15_TableSlots_code) Try.func7 (by kernel_rfl) (by kernel_rfl) ?_
  refine WP.cut 4 (fun l I S => asSl (l 0) fun acts_0 acts_0n acts_0c => asPtr (l 3) fun t_3 => asI .i64 (l 4) fun most_4 => bolterlaw15_TableSlots_b1 R acts_0 acts_0n acts_0c t_3 most_4 I S) (cast (by kernel_rfl) h) ?_
  clear h
  intro l I S _ h
  obtain ⟨acts_0, acts_0n, acts_0c, e0, h⟩ := asSl_e h
  obtain ⟨t_3, e3, h⟩ := asPtr_e h
  obtain ⟨most_4, e4, h⟩ := asI_e h
  rw [upd_eta e0, upd_eta e3, upd_eta e4]
  refine WP.seqY (by kernel_rfl) (fun l I S => bolterlaw15_TableSlots_b10 R I S) ?_ ?_
  ·
    refine WP.cut 1 (fun l I S => asPtr (l 3) fun t_3 => asI .i64 (l 4) fun most_4 => asSl (l 13) fun x13 x13n x13c => asI .i64 (l 14) fun x14 => asI .i64 (l 15) fun x15 => bolterlaw15_TableSlots_b2 R t_3 most_4 x13 x13n x13c x14 x15 I S) (cast (by kernel_rfl) h) ?_
    clear h
    intro l I S _ h
    obtain ⟨t_3, e3, h⟩ := asPtr_e h
    obtain ⟨most_4, e4, h⟩ := asI_e h
    obtain ⟨x13, x13n, x13c, e13, h⟩ := asSl_e h
    obtain ⟨x14, e14, h⟩ := asI_e h
    obtain ⟨x15, e15, h⟩ := asI_e h
    rw [upd_eta e3, upd_eta e4, upd_eta e13, upd_eta e14, upd_eta e15]
    refine WP.block' (by kernel_rfl) ?_
    obtain ⟨Inv_again3, m_again3, h0, hr⟩ := h
    refine WP.loop' (by kernel_rfl) (fun m_again3 => fun l I S => asPtr (l 3) fun t_3 => asI .i64 (l 4) fun most_4 => asSl (l 13) fun x13 x13n x13c => asI .i64 (l 14) fun x14 => asI .i64 (l 15) fun x15 => Inv_again3 m_again3 t_3 most_4 x13 x13n x13c x14 x15 I S) m_again3 (cast (by kernel_rfl) h0) ?_
    clear h0
    intro m_again3 l I S hle h
    obtain ⟨t_3, e3, h⟩ := asPtr_e h
    obtain ⟨most_4, e4, h⟩ := asI_e h
    obtain ⟨x13, x13n, x13c, e13, h⟩ := asSl_e h
    obtain ⟨x14, e14, h⟩ := asI_e h
    obtain ⟨x15, e15, h⟩ := asI_e h
    rw [upd_eta e3, upd_eta e4, upd_eta e13, upd_eta e14, upd_eta e15]
    have h := hr m_again3 t_3 most_4 x13 x13n x13c x14 x15 I S hle h
    clear hr hle
    refine WP.cut 2 (fun l I S => asPtr (l 3) fun t_3 => asI .i64 (l 4) fun most_4 => asSl (l 13) fun x13 x13n x13c => asI .i64 (l 14) fun x14 => asI .i64 (l 15) fun x15 => bolterlaw15_TableSlots_b4 (fun t_3 most_4 x13 x13n x13c x14 x15 I S => ∃ m', m' < m_again3 ∧ Inv_again3 m' t_3 most_4 x13 x13n x13c x14 x15 I S) R t_3 most_4 x13 x13n x13c x14 x15 I S) (cast (by kernel_rfl) h) ?_
    clear h
    intro l I S _ h
    obtain ⟨t_3, e3, h⟩ := asPtr_e h
    obtain ⟨most_4, e4, h⟩ := asI_e h
    obtain ⟨x13, x13n, x13c, e13, h⟩ := asSl_e h
    obtain ⟨x14, e14, h⟩ := asI_e h
    obtain ⟨x15, e15, h⟩ := asI_e h
    rw [upd_eta e3, upd_eta e4, upd_eta e13, upd_eta e14, upd_eta e15]
    refine WP.seqY (by kernel_rfl) (fun l I S => asPtr (l 3) fun t_3 => asI .i64 (l 4) fun most_4 => asSl (l 13) fun x13 x13n x13c => asI .i64 (l 14) fun x14 => asI .i64 (l 15) fun x15 => bolterlaw15_TableSlots_b9 (fun t_3 most_4 x13 x13n x13c x14 x15 I S => ∃ m', m' < m_again3 ∧ Inv_again3 m' t_3 most_4 x13 x13n x13c x14 x15 I S) R t_3 most_4 x13 x13n x13c x14 x15 I S) ?_ ?_
    ·
      refine WP.block' (by kernel_rfl) ?_
      refine WP.cut 1 (fun l I S => asPtr (l 3) fun t_3 => asI .i64 (l 4) fun most_4 => asAdr (l 6) fun a_6 => asSl (l 13) fun x13 x13n x13c => asI .i64 (l 14) fun x14 => asI .i64 (l 15) fun x15 => bolterlaw15_TableSlots_b5 (fun t_3 most_4 x13 x13n x13c x14 x15 I S => ∃ m', m' < m_again3 ∧ Inv_again3 m' t_3 most_4 x13 x13n x13c x14 x15 I S) R t_3 most_4 a_6 x13 x13n x13c x14 x15 I S) (cast (by kernel_rfl) h) ?_
      clear h
      intro l I S _ h
      obtain ⟨t_3, e3, h⟩ := asPtr_e h
      obtain ⟨most_4, e4, h⟩ := asI_e h
      obtain ⟨a_6, e6, h⟩ := asAdr_e h
      obtain ⟨x13, x13n, x13c, e13, h⟩ := asSl_e h
      obtain ⟨x14, e14, h⟩ := asI_e h
      obtain ⟨x15, e15, h⟩ := asI_e h
      rw [upd_eta e3, upd_eta e4, upd_eta e6, upd_eta e13, upd_eta e14, upd_eta e15]
      refine WP.seqY (by kernel_rfl) (fun l I S => asPtr (l 3) fun t_3 => asI .i64 (l 4) fun most_4 => asSl (l 13) fun x13 x13n x13c => asI .i64 (l 14) fun x14 => asI .i64 (l 15) fun x15 => bolterlaw15_TableSlots_b7 (fun t_3 most_4 x13 x13n x13c x14 x15 I S => ∃ m', m' < m_again3 ∧ Inv_again3 m' t_3 most_4 x13 x13n x13c x14 x15 I S) R t_3 most_4 x13 x13n x13c x14 x15 I S) ?_ ?_
      ·
        refine WP.cut 1 (fun l I S => asPtr (l 3) fun t_3 => asI .i64 (l 4) fun most_4 => asAdr (l 6) fun a_6 => asSl (l 13) fun x13 x13n x13c => asI .i64 (l 14) fun x14 => asI .i64 (l 15) fun x15 => asB (l 22) fun x22 => bolterlaw15_TableSlots_b6 (fun t_3 most_4 x13 x13n x13c x14 x15 I S => ∃ m', m' < m_again3 ∧ Inv_again3 m' t_3 most_4 x13 x13n x13c x14 x15 I S) R t_3 most_4 a_6 x13 x13n x13c x14 x15 x22 I S) (cast (by kernel_rfl) h) ?_
        clear h
        intro l I S _ h
        obtain ⟨t_3, e3, h⟩ := asPtr_e h
        obtain ⟨most_4, e4, h⟩ := asI_e h
        obtain ⟨a_6, e6, h⟩ := asAdr_e h
        obtain ⟨x13, x13n, x13c, e13, h⟩ := asSl_e h
        obtain ⟨x14, e14, h⟩ := asI_e h
        obtain ⟨x15, e15, h⟩ := asI_e h
        obtain ⟨x22, e22, h⟩ := asB_e h
        rw [upd_eta e3, upd_eta e4, upd_eta e6, upd_eta e13, upd_eta e14, upd_eta e15, upd_eta e22]
        refine WP.cond' (by kernel_rfl) (by kernel_rfl) h ?_ ?_
        · clear h
          intro h
          exact Pre.sound _ _ _ _ _ (cast (by kernel_rfl) h)
        · clear h
          intro h
          exact WP.draw' (.take 0 (.take 1 (.take 2 (.take 3 (.take 4 (.take 5 (.step 6 .done))))))) [6] (by kernel_rfl) (by kernel_rfl) (by kernel_rfl) (by kernel_rfl) (by kernel_rfl) (cast (by kernel_rfl) h)
      · clear h
        intro l I S _ h
        obtain ⟨t_3, e3, h⟩ := asPtr_e h
        obtain ⟨most_4, e4, h⟩ := asI_e h
        obtain ⟨x13, x13n, x13c, e13, h⟩ := asSl_e h
        obtain ⟨x14, e14, h⟩ := asI_e h
        obtain ⟨x15, e15, h⟩ := asI_e h
        rw [upd_eta e3, upd_eta e4, upd_eta e13, upd_eta e14, upd_eta e15]
        refine WP.cut 3 (fun l I S => asPtr (l 3) fun t_3 => asI .i64 (l 4) fun most_4 => asSl (l 13) fun x13 x13n x13c => asI .i64 (l 14) fun x14 => asI .i64 (l 15) fun x15 => asB (l 69) fun x69 => bolterlaw15_TableSlots_b8 (fun t_3 most_4 x13 x13n x13c x14 x15 I S => ∃ m', m' < m_again3 ∧ Inv_again3 m' t_3 most_4 x13 x13n x13c x14 x15 I S) R t_3 most_4 x13 x13n x13c x14 x15 x69 I S) (cast (by kernel_rfl) h) ?_
        clear h
        intro l I S _ h
        obtain ⟨t_3, e3, h⟩ := asPtr_e h
        obtain ⟨most_4, e4, h⟩ := asI_e h
        obtain ⟨x13, x13n, x13c, e13, h⟩ := asSl_e h
        obtain ⟨x14, e14, h⟩ := asI_e h
        obtain ⟨x15, e15, h⟩ := asI_e h
        obtain ⟨x69, e69, h⟩ := asB_e h
        rw [upd_eta e3, upd_eta e4, upd_eta e13, upd_eta e14, upd_eta e15, upd_eta e69]
        exact Pre.sound _ _ _ _ _ (cast (by kernel_rfl) h)
    · clear h
      intro l I S _ h
      obtain ⟨t_3, e3, h⟩ := asPtr_e h
      obtain ⟨most_4, e4, h⟩ := asI_e h
      obtain ⟨x13, x13n, x13c, e13, h⟩ := asSl_e h
      obtain ⟨x14, e14, h⟩ := asI_e h
      obtain ⟨x15, e15, h⟩ := asI_e h
      rw [upd_eta e3, upd_eta e4, upd_eta e13, upd_eta e14, upd_eta e15]
      exact Pre.sound _ _ _ _ _ (cast (by kernel_rfl) h)
  · clear h
    intro l I S _ h
    exact Pre.sound _ _ _ _ _ (cast (by kernel_rfl) h)
/-! ### bolterlaw15_TableRound: function 8, bolter/bolterlaw15.TableRound -/
noncomputable def bolterlaw15_TableRound_code : Code := (Try.f8.body).getD .skip
def bolterlaw15_TableRound_b6 (again3 : Int → Option Addr → Int → IMem → SH → Prop) (R : Value → IMem → SH → Prop) (rounds_0 : Int) (t_3 : Option Addr) (i_4 : Int) (I : IMem) (S : SH) : Prop :=
  again3 rounds_0 t_3 (IntKind.wrap .i64 (i_4 + (1 : Int))) I S
def bolterlaw15_TableRound_b5 (again3 : Int → Option Addr → Int → IMem → SH → Prop) (R : Value → IMem → SH → Prop) (rounds_0 : Int) (t_3 : Option Addr) (i_4 : Int) (x41 : Bool) (I : IMem) (S : SH) : Prop :=
  bcase x41
    (R (.bool false) I S)
    (bolterlaw15_TableRound_b6 again3 R rounds_0 t_3 i_4 I S)
def bolterlaw15_TableRound_b4 (again3 : Int → Option Addr → Int → IMem → SH → Prop) (R : Value → IMem → SH → Prop) (rounds_0 : Int) (t_3 : Option Addr) (i_4 : Int) (I : IMem) (S : SH) : Prop :=
  ∀ b24 : Nat,
  ∃ x25 : ByteArray, BytesAt I ((b24, .cells #[.int .u8 (IntKind.wrap .u8 i_4), .int .u8 (IntKind.wrap .u8 (IntKind.wrap .i64 (i_4.tdiv (256 : Int))))] 5 (0, 0)) :: S) (some ⟨b24, 0, none⟩) 2 x25 ∧
  Runs Try.prog 21 #[.pointer t_3, .string x25, .int .i64 i_4] I ((b24, .cells #[.int .u8 (IntKind.wrap .u8 i_4), .int .u8 (IntKind.wrap .u8 (IntKind.wrap .i64 (i_4.tdiv (256 : Int))))] 5 (0, 0)) :: S) fun v I1 S1 => ∃ x29, v = .bool x29 ∧
  bcase (!x29)
    (bolterlaw15_TableRound_b5 again3 R rounds_0 t_3 i_4 true I1 S1)
    (Runs Try.prog 22 #[.pointer t_3, .string x25] I1 S1 fun v' I1' S1' => ∃ x34, v' = .bool x34 ∧
    bcase (!x34)
      (bolterlaw15_TableRound_b5 again3 R rounds_0 t_3 i_4 true I1' S1')
      (Runs Try.prog 24 #[.pointer t_3] I1' S1' fun v'' I1'' S1'' => ∃ x39, v'' = .int .i64 x39 ∧
      bolterlaw15_TableRound_b5 again3 R rounds_0 t_3 i_4 (x39 != (0 : Int)) I1'' S1''))
def bolterlaw15_TableRound_b8 (R : Value → IMem → SH → Prop) (x2 : Bool) (I : IMem) (S : SH) : Prop :=
  R (.bool x2) I S
def bolterlaw15_TableRound_b7 (R : Value → IMem → SH → Prop) (t_3 : Option Addr) (I : IMem) (S : SH) : Prop :=
  Runs Try.prog 26 #[.pointer t_3] I S fun v I1 S1 => ∃ x44_0 x44_1, v = .tuple #[.int .i64 x44_0, .int .i64 x44_1] ∧
  bcase (decide (x44_0 ≤ (8 : Int)))
    (bolterlaw15_TableRound_b8 R (decide ((IntKind.wrap .i64 ((2 : Int) * x44_1)) ≤ x44_0)) I1 S1)
    (bolterlaw15_TableRound_b8 R false I1 S1)
def bolterlaw15_TableRound_l3 (again3 : Int → Option Addr → Int → IMem → SH → Prop) (R : Value → IMem → SH → Prop) (rounds_0 : Int) (t_3 : Option Addr) (i_4 : Int) (I : IMem) (S : SH) : Prop :=
  bcase (decide (i_4 < (IntKind.wrap .i64 (rounds_0.tmod (3000 : Int)))))
    (bolterlaw15_TableRound_b4 again3 R rounds_0 t_3 i_4 I S)
    (bolterlaw15_TableRound_b7 R t_3 I S)
def bolterlaw15_TableRound_b2 (R : Value → IMem → SH → Prop) (rounds_0 : Int) (t_3 : Option Addr) (i_4 : Int) (I : IMem) (S : SH) : Prop :=
  ∃ (Inv : Nat → Int → Option Addr → Int → IMem → SH → Prop) (m : Nat), Inv m rounds_0 t_3 i_4 I S ∧
    ∀ (m : Nat) (rounds_0 : Int) (t_3 : Option Addr) (i_4 : Int) (J : IMem) (T : SH), I.le J → Inv m rounds_0 t_3 i_4 J T →
      bolterlaw15_TableRound_l3 (fun rounds_0 t_3 i_4 I S => ∃ m', m' < m ∧ Inv m' rounds_0 t_3 i_4 I S) R rounds_0 t_3 i_4 J T
def bolterlaw15_TableRound_b1 (R : Value → IMem → SH → Prop) (rounds_0 : Int) (t_3 : Option Addr) (I : IMem) (S : SH) : Prop :=
  bolterlaw15_TableRound_b2 R rounds_0 t_3 0 I S
def bolterlaw15_TableRound (R : Value → IMem → SH → Prop) (rounds_0 : Int) (I : IMem) (S : SH) : Prop :=
  Runs Try.prog 14 #[] I S fun v I1 S1 => ∃ x8, v = .bool x8 ∧
  bcase (!x8)
    (R (.bool false) I1 S1)
    (∀ b11 : Nat,
    bolterlaw15_TableRound_b1 R rounds_0 (some ⟨b11, 0, none⟩) I1 ((b11, .cells #[.slice none 0 0, .int .i64 0, .int .i64 0] 38 (0, 0)) :: S1))
theorem bolterlaw15_TableRound_fn (R : Value → IMem → SH → Prop) (rounds_0 : Int) (I : IMem) (S : SH) (h : bolterlaw15_TableRound R rounds_0 I S) :
    Runs Try.prog 8 #[.int .u16 rounds_0] I S R := by
  refine Runs.of_wp (args := [.int .u16 rounds_0]) (c := bolterlaw15_TableRound_code) Try.func8 (by kernel_rfl) (by kernel_rfl) ?_
  refine WP.cut 3 (fun l I S => asI .u16 (l 0) fun rounds_0 => asPtr (l 3) fun t_3 => bolterlaw15_TableRound_b1 R rounds_0 t_3 I S) (cast (by kernel_rfl) h) ?_
  clear h
  intro l I S _ h
  obtain ⟨rounds_0, e0, h⟩ := asI_e h
  obtain ⟨t_3, e3, h⟩ := asPtr_e h
  rw [upd_eta e0, upd_eta e3]
  refine WP.seqY (by kernel_rfl) (fun l I S => asPtr (l 3) fun t_3 => bolterlaw15_TableRound_b7 R t_3 I S) ?_ ?_
  ·
    refine WP.cut 1 (fun l I S => asI .u16 (l 0) fun rounds_0 => asPtr (l 3) fun t_3 => asI .i64 (l 4) fun i_4 => bolterlaw15_TableRound_b2 R rounds_0 t_3 i_4 I S) (cast (by kernel_rfl) h) ?_
    clear h
    intro l I S _ h
    obtain ⟨rounds_0, e0, h⟩ := asI_e h
    obtain ⟨t_3, e3, h⟩ := asPtr_e h
    obtain ⟨i_4, e4, h⟩ := asI_e h
    rw [upd_eta e0, upd_eta e3, upd_eta e4]
    refine WP.block' (by kernel_rfl) ?_
    obtain ⟨Inv_again3, m_again3, h0, hr⟩ := h
    refine WP.loop' (by kernel_rfl) (fun m_again3 => fun l I S => asI .u16 (l 0) fun rounds_0 => asPtr (l 3) fun t_3 => asI .i64 (l 4) fun i_4 => Inv_again3 m_again3 rounds_0 t_3 i_4 I S) m_again3 (cast (by kernel_rfl) h0) ?_
    clear h0
    intro m_again3 l I S hle h
    obtain ⟨rounds_0, e0, h⟩ := asI_e h
    obtain ⟨t_3, e3, h⟩ := asPtr_e h
    obtain ⟨i_4, e4, h⟩ := asI_e h
    rw [upd_eta e0, upd_eta e3, upd_eta e4]
    have h := hr m_again3 rounds_0 t_3 i_4 I S hle h
    clear hr hle
    refine WP.cut 1 (fun l I S => asI .u16 (l 0) fun rounds_0 => asPtr (l 3) fun t_3 => asI .i64 (l 4) fun i_4 => bolterlaw15_TableRound_b4 (fun rounds_0 t_3 i_4 I S => ∃ m', m' < m_again3 ∧ Inv_again3 m' rounds_0 t_3 i_4 I S) R rounds_0 t_3 i_4 I S) (cast (by kernel_rfl) h) ?_
    clear h
    intro l I S _ h
    obtain ⟨rounds_0, e0, h⟩ := asI_e h
    obtain ⟨t_3, e3, h⟩ := asPtr_e h
    obtain ⟨i_4, e4, h⟩ := asI_e h
    rw [upd_eta e0, upd_eta e3, upd_eta e4]
    refine WP.seqY (by kernel_rfl) (fun l I S => asI .u16 (l 0) fun rounds_0 => asPtr (l 3) fun t_3 => asI .i64 (l 4) fun i_4 => bolterlaw15_TableRound_b6 (fun rounds_0 t_3 i_4 I S => ∃ m', m' < m_again3 ∧ Inv_again3 m' rounds_0 t_3 i_4 I S) R rounds_0 t_3 i_4 I S) ?_ ?_
    ·
      refine WP.block' (by kernel_rfl) ?_
      refine WP.cut 2 (fun l I S => asI .u16 (l 0) fun rounds_0 => asPtr (l 3) fun t_3 => asI .i64 (l 4) fun i_4 => asB (l 41) fun x41 => bolterlaw15_TableRound_b5 (fun rounds_0 t_3 i_4 I S => ∃ m', m' < m_again3 ∧ Inv_again3 m' rounds_0 t_3 i_4 I S) R rounds_0 t_3 i_4 x41 I S) (cast (by kernel_rfl) h) ?_
      clear h
      intro l I S _ h
      obtain ⟨rounds_0, e0, h⟩ := asI_e h
      obtain ⟨t_3, e3, h⟩ := asPtr_e h
      obtain ⟨i_4, e4, h⟩ := asI_e h
      obtain ⟨x41, e41, h⟩ := asB_e h
      rw [upd_eta e0, upd_eta e3, upd_eta e4, upd_eta e41]
      exact Pre.sound _ _ _ _ _ (cast (by kernel_rfl) h)
    · clear h
      intro l I S _ h
      obtain ⟨rounds_0, e0, h⟩ := asI_e h
      obtain ⟨t_3, e3, h⟩ := asPtr_e h
      obtain ⟨i_4, e4, h⟩ := asI_e h
      rw [upd_eta e0, upd_eta e3, upd_eta e4]
      exact Pre.sound _ _ _ _ _ (cast (by kernel_rfl) h)
  · clear h
    intro l I S _ h
    obtain ⟨t_3, e3, h⟩ := asPtr_e h
    rw [upd_eta e3]
    refine WP.cut 2 (fun l I S => asB (l 2) fun x2 => bolterlaw15_TableRound_b8 R x2 I S) (cast (by kernel_rfl) h) ?_
    clear h
    intro l I S _ h
    obtain ⟨x2, e2, h⟩ := asB_e h
    rw [upd_eta e2]
    exact Pre.sound _ _ _ _ _ (cast (by kernel_rfl) h)
/-! ### bolterlaw16_TrieScript: function 11, bolter/bolterlaw16.TrieScript -/
noncomputable def bolterlaw16_TrieScript_code : Code := (Try.f11.body).getD .skip
def bolterlaw16_TrieScript_b13 (again3 : Option Addr → Nat → Nat → Option Addr → Option Nat → Option Addr → Nat → Nat → Int → Int → IMem → SH → Prop) (again10 : Option Addr → Nat → Nat → Option Addr → Option Nat → Option Addr → Nat → Nat → Int → Int → Option Addr → Nat → Nat → Int → Int → IMem → SH → Prop) (R : Value → IMem → SH → Prop) (probes_1 : Option Addr) (probes_1n : Nat) (probes_1c : Nat) (t_5 : Option Addr) (has_6 : Option Nat) (x29 : Option Addr) (x29n : Nat) (x29c : Nat) (x30 : Int) (x31 : Int) (x107 : Option Addr) (x107n : Nat) (x107c : Nat) (x108 : Int) (x109 : Int) (I : IMem) (S : SH) : Prop :=
  again10 probes_1 probes_1n probes_1c t_5 has_6 x29 x29n x29c x30 x31 x107 x107n x107c x108 (IntKind.wrap .i64 (x109 + (1 : Int))) I S
def bolterlaw16_TrieScript_b12 (again3 : Option Addr → Nat → Nat → Option Addr → Option Nat → Option Addr → Nat → Nat → Int → Int → IMem → SH → Prop) (again10 : Option Addr → Nat → Nat → Option Addr → Option Nat → Option Addr → Nat → Nat → Int → Int → Option Addr → Nat → Nat → Int → Int → IMem → SH → Prop) (R : Value → IMem → SH → Prop) (probes_1 : Option Addr) (probes_1n : Nat) (probes_1c : Nat) (t_5 : Option Addr) (has_6 : Option Nat) (x29 : Option Addr) (x29n : Nat) (x29c : Nat) (x30 : Int) (x31 : Int) (x107 : Option Addr) (x107n : Nat) (x107c : Nat) (x108 : Int) (x109 : Int) (x141 : Bool) (I : IMem) (S : SH) : Prop :=
  bcase x141
    (R (.bool false) I S)
    (bolterlaw16_TrieScript_b13 again3 again10 R probes_1 probes_1n probes_1c t_5 has_6 x29 x29n x29c x30 x31 x107 x107n x107c x108 x109 I S)
def bolterlaw16_TrieScript_b11 (again3 : Option Addr → Nat → Nat → Option Addr → Option Nat → Option Addr → Nat → Nat → Int → Int → IMem → SH → Prop) (again10 : Option Addr → Nat → Nat → Option Addr → Option Nat → Option Addr → Nat → Nat → Int → Int → Option Addr → Nat → Nat → Int → Int → IMem → SH → Prop) (R : Value → IMem → SH → Prop) (probes_1 : Option Addr) (probes_1n : Nat) (probes_1c : Nat) (t_5 : Option Addr) (has_6 : Option Nat) (x29 : Option Addr) (x29n : Nat) (x29c : Nat) (x30 : Int) (x31 : Int) (x107 : Option Addr) (x107n : Nat) (x107c : Nat) (x108 : Int) (x109 : Int) (I : IMem) (S : SH) : Prop :=
  ptrP x107 fun x111 => (0 : Int) ≤ x109 ∧ x109 < (x107n : Int) ∧
  ∃ x112, Cell I S (x111.add (x109.toNat * 1)) (.int .u16 x112) ∧
  Runs Try.prog 27 #[.int .u16 x112, .int .u8 13] I S fun v I1 S1 => ∃ x116, v = .string x116 ∧
  Runs Try.prog 18 #[.pointer t_5, .string x116] I1 S1 fun v' I1' S1' => ∃ x117_0 x117_1 x117_2, v' = .tuple #[.int .i64 x117_0, .int .i64 x117_1, .bool x117_2] ∧
  Runs Try.prog 27 #[.int .u16 x112, .int .u8 13] I1' S1' fun v'' I1'' S1'' => ∃ x124, v'' = .string x124 ∧
  Runs Try.prog 31 #[.map has_6, .string x124] I1'' S1'' fun v_r3 I1_r3 S1_r3 => ∃ x125_0 x125_1 x125_2, v_r3 = .tuple #[.int .i64 x125_0, .int .i64 x125_1, .bool x125_2] ∧
  bcase (x117_0 != x125_0)
    (bolterlaw16_TrieScript_b12 again3 again10 R probes_1 probes_1n probes_1c t_5 has_6 x29 x29n x29c x30 x31 x107 x107n x107c x108 x109 true I1_r3 S1_r3)
    (bcase (x117_1 != x125_1)
      (bolterlaw16_TrieScript_b12 again3 again10 R probes_1 probes_1n probes_1c t_5 has_6 x29 x29n x29c x30 x31 x107 x107n x107c x108 x109 true I1_r3 S1_r3)
      (bolterlaw16_TrieScript_b12 again3 again10 R probes_1 probes_1n probes_1c t_5 has_6 x29 x29n x29c x30 x31 x107 x107n x107c x108 x109 (!(x117_2 == x125_2)) I1_r3 S1_r3))
def bolterlaw16_TrieScript_b14 (again3 : Option Addr → Nat → Nat → Option Addr → Option Nat → Option Addr → Nat → Nat → Int → Int → IMem → SH → Prop) (R : Value → IMem → SH → Prop) (probes_1 : Option Addr) (probes_1n : Nat) (probes_1c : Nat) (t_5 : Option Addr) (has_6 : Option Nat) (x29 : Option Addr) (x29n : Nat) (x29c : Nat) (x30 : Int) (x31 : Int) (I : IMem) (S : SH) : Prop :=
  again3 probes_1 probes_1n probes_1c t_5 has_6 x29 x29n x29c x30 (IntKind.wrap .i64 (x31 + (1 : Int))) I S
def bolterlaw16_TrieScript_l10 (again3 : Option Addr → Nat → Nat → Option Addr → Option Nat → Option Addr → Nat → Nat → Int → Int → IMem → SH → Prop) (again10 : Option Addr → Nat → Nat → Option Addr → Option Nat → Option Addr → Nat → Nat → Int → Int → Option Addr → Nat → Nat → Int → Int → IMem → SH → Prop) (R : Value → IMem → SH → Prop) (probes_1 : Option Addr) (probes_1n : Nat) (probes_1c : Nat) (t_5 : Option Addr) (has_6 : Option Nat) (x29 : Option Addr) (x29n : Nat) (x29c : Nat) (x30 : Int) (x31 : Int) (x107 : Option Addr) (x107n : Nat) (x107c : Nat) (x108 : Int) (x109 : Int) (I : IMem) (S : SH) : Prop :=
  bcase (decide (x109 < x108))
    (bolterlaw16_TrieScript_b11 again3 again10 R probes_1 probes_1n probes_1c t_5 has_6 x29 x29n x29c x30 x31 x107 x107n x107c x108 x109 I S)
    (bolterlaw16_TrieScript_b14 again3 R probes_1 probes_1n probes_1c t_5 has_6 x29 x29n x29c x30 x31 I S)
def bolterlaw16_TrieScript_b9 (again3 : Option Addr → Nat → Nat → Option Addr → Option Nat → Option Addr → Nat → Nat → Int → Int → IMem → SH → Prop) (R : Value → IMem → SH → Prop) (probes_1 : Option Addr) (probes_1n : Nat) (probes_1c : Nat) (t_5 : Option Addr) (has_6 : Option Nat) (x29 : Option Addr) (x29n : Nat) (x29c : Nat) (x30 : Int) (x31 : Int) (x107 : Option Addr) (x107n : Nat) (x107c : Nat) (x108 : Int) (x109 : Int) (I : IMem) (S : SH) : Prop :=
  ∃ (Inv : Nat → Option Addr → Nat → Nat → Option Addr → Option Nat → Option Addr → Nat → Nat → Int → Int → Option Addr → Nat → Nat → Int → Int → IMem → SH → Prop) (m : Nat), Inv m probes_1 probes_1n probes_1c t_5 has_6 x29 x29n x29c x30 x31 x107 x107n x107c x108 x109 I S ∧
    ∀ (m : Nat) (probes_1 : Option Addr) (probes_1n : Nat) (probes_1c : Nat) (t_5 : Option Addr) (has_6 : Option Nat) (x29 : Option Addr) (x29n : Nat) (x29c : Nat) (x30 : Int) (x31 : Int) (x107 : Option Addr) (x107n : Nat) (x107c : Nat) (x108 : Int) (x109 : Int) (J : IMem) (T : SH), I.le J → Inv m probes_1 probes_1n probes_1c t_5 has_6 x29 x29n x29c x30 x31 x107 x107n x107c x108 x109 J T →
      bolterlaw16_TrieScript_l10 again3 (fun probes_1 probes_1n probes_1c t_5 has_6 x29 x29n x29c x30 x31 x107 x107n x107c x108 x109 I S => ∃ m', m' < m ∧ Inv m' probes_1 probes_1n probes_1c t_5 has_6 x29 x29n x29c x30 x31 x107 x107n x107c x108 x109 I S) R probes_1 probes_1n probes_1c t_5 has_6 x29 x29n x29c x30 x31 x107 x107n x107c x108 x109 J T
def bolterlaw16_TrieScript_b8 (again3 : Option Addr → Nat → Nat → Option Addr → Option Nat → Option Addr → Nat → Nat → Int → Int → IMem → SH → Prop) (R : Value → IMem → SH → Prop) (probes_1 : Option Addr) (probes_1n : Nat) (probes_1c : Nat) (t_5 : Option Addr) (has_6 : Option Nat) (x29 : Option Addr) (x29n : Nat) (x29c : Nat) (x30 : Int) (x31 : Int) (I : IMem) (S : SH) : Prop :=
  (0 : Int) ≤ (if (8 : Int) < (probes_1n : Int) then (8 : Int) else (probes_1n : Int)) ∧ (if (8 : Int) < (probes_1n : Int) then (8 : Int) else (probes_1n : Int)) ≤ ((probes_1c : Nat) : Int) ∧
  bolterlaw16_TrieScript_b9 again3 R probes_1 probes_1n probes_1c t_5 has_6 x29 x29n x29c x30 x31 (slA probes_1 probes_1c 0 1) ((if (8 : Int) < (probes_1n : Int) then (8 : Int) else (probes_1n : Int)).toNat - 0) (probes_1c - 0) (((if (8 : Int) < (probes_1n : Int) then (8 : Int) else (probes_1n : Int)).toNat - 0) : Int) 0 I S
def bolterlaw16_TrieScript_b7 (again3 : Option Addr → Nat → Nat → Option Addr → Option Nat → Option Addr → Nat → Nat → Int → Int → IMem → SH → Prop) (R : Value → IMem → SH → Prop) (probes_1 : Option Addr) (probes_1n : Nat) (probes_1c : Nat) (t_5 : Option Addr) (has_6 : Option Nat) (x29 : Option Addr) (x29n : Nat) (x29c : Nat) (x30 : Int) (x31 : Int) (x102 : Bool) (I : IMem) (S : SH) : Prop :=
  bcase x102
    (R (.bool false) I S)
    (bolterlaw16_TrieScript_b8 again3 R probes_1 probes_1n probes_1c t_5 has_6 x29 x29n x29c x30 x31 I S)
def bolterlaw16_TrieScript_b6 (again3 : Option Addr → Nat → Nat → Option Addr → Option Nat → Option Addr → Nat → Nat → Int → Int → IMem → SH → Prop) (R : Value → IMem → SH → Prop) (probes_1 : Option Addr) (probes_1n : Nat) (probes_1c : Nat) (t_5 : Option Addr) (has_6 : Option Nat) (v_12 : Int) (ok_13 : Bool) (w_14 : Int) (want_15 : Bool) (x29 : Option Addr) (x29n : Nat) (x29c : Nat) (x30 : Int) (x31 : Int) (I : IMem) (S : SH) : Prop :=
  bcase (v_12 != w_14)
    (bolterlaw16_TrieScript_b7 again3 R probes_1 probes_1n probes_1c t_5 has_6 x29 x29n x29c x30 x31 true I S)
    (bcase (!(ok_13 == want_15))
      (bolterlaw16_TrieScript_b7 again3 R probes_1 probes_1n probes_1c t_5 has_6 x29 x29n x29c x30 x31 true I S)
      (Runs Try.prog 19 #[.pointer t_5] I S fun v I1 S1 => ∃ x90, v = .int .i64 x90 ∧
      ∃ x92 : Nat, MapLen I1 S1 has_6 x92 ∧
      bcase (x90 != (x92 : Int))
        (bolterlaw16_TrieScript_b7 again3 R probes_1 probes_1n probes_1c t_5 has_6 x29 x29n x29c x30 x31 true I1 S1)
        (Runs Try.prog 28 #[.pointer t_5] I1 S1 fun v' I1' S1' => ∃ x97, v' = .int .i64 x97 ∧
        Runs Try.prog 19 #[.pointer t_5] I1' S1' fun v'' I1'' S1'' => ∃ x99, v'' = .int .i64 x99 ∧
        bolterlaw16_TrieScript_b7 again3 R probes_1 probes_1n probes_1c t_5 has_6 x29 x29n x29c x30 x31 (decide (x97 > (IntKind.wrap .i64 ((2 : Int) * x99)))) I1'' S1'')))
def bolterlaw16_TrieScript_b5 (again3 : Option Addr → Nat → Nat → Option Addr → Option Nat → Option Addr → Nat → Nat → Int → Int → IMem → SH → Prop) (R : Value → IMem → SH → Prop) (probes_1 : Option Addr) (probes_1n : Nat) (probes_1c : Nat) (t_5 : Option Addr) (has_6 : Option Nat) (key_9 : ByteArray) (x29 : Option Addr) (x29n : Nat) (x29c : Nat) (x30 : Int) (x31 : Int) (I : IMem) (S : SH) : Prop :=
  Runs Try.prog 30 #[.pointer t_5, .string key_9] I S fun v I1 S1 => ∃ x71_0 x71_1, v = .tuple #[.int .i64 x71_0, .bool x71_1] ∧
  ∃ x77, ∃ x77ok : Bool, MapAt I1 S1 has_6 .string (.string key_9) (.int .i64 0) (.int .i64 x77) x77ok ∧
  bolterlaw16_TrieScript_b6 again3 R probes_1 probes_1n probes_1c t_5 has_6 x71_0 x71_1 x77 x77ok x29 x29n x29c x30 x31 I1 S1
def bolterlaw16_TrieScript_b4 (again3 : Option Addr → Nat → Nat → Option Addr → Option Nat → Option Addr → Nat → Nat → Int → Int → IMem → SH → Prop) (R : Value → IMem → SH → Prop) (probes_1 : Option Addr) (probes_1n : Nat) (probes_1c : Nat) (t_5 : Option Addr) (has_6 : Option Nat) (x29 : Option Addr) (x29n : Nat) (x29c : Nat) (x30 : Int) (x31 : Int) (I : IMem) (S : SH) : Prop :=
  ptrP x29 fun x33 => (0 : Int) ≤ x31 ∧ x31 < (x29n : Int) ∧
  ∃ x34_0, Cell I S (x33.add (x31.toNat * 4)) (.int .u8 x34_0) ∧
  ∃ x34_1, Cell I S ((x33.add (x31.toNat * 4)).add 1) (.int .u16 x34_1) ∧
  ∃ x34_2, Cell I S ((x33.add (x31.toNat * 4)).add 2) (.int .u8 x34_2) ∧
  ∃ x34_3, Cell I S ((x33.add (x31.toNat * 4)).add 3) (.int .i64 x34_3) ∧
  ∀ b8 : Nat,
  StP ((b8, .cells #[.int .u8 0, .int .u16 0, .int .u8 0, .int .i64 0] 57 (0, 0)) :: S) ⟨b8, 0, none⟩ [.int .u8 x34_0, .int .u16 x34_1, .int .u8 x34_2, .int .i64 x34_3] fun S1 =>
  ∃ x36, Cell I S1 ⟨b8, 1, none⟩ (.int .u16 x36) ∧
  ∃ x38, Cell I S1 ⟨b8, 2, none⟩ (.int .u8 x38) ∧
  Runs Try.prog 27 #[.int .u16 x36, .int .u8 x38] I S1 fun v I1 S1' => ∃ x39, v = .string x39 ∧
  ∃ x43, ∃ x43ok : Bool, MapAt I1 S1' has_6 .string (.string x39) (.int .i64 0) (.int .i64 x43) x43ok ∧
  ∃ x47, Cell I1 S1' ⟨b8, 0, none⟩ (.int .u8 x47) ∧
  bcase ((x47.tmod (3 : Int)) == (2 : Int))
    (Runs Try.prog 29 #[.pointer t_5, .string x39] I1 S1' fun v' I1' S1'' => ∃ x52, v' = .bool x52 ∧
    bcase (!(x52 == x43ok))
      (R (.bool false) I1' S1'')
      (MapDl S1'' has_6 .string (.string x39) fun S1_r3 =>
      bolterlaw16_TrieScript_b5 again3 R probes_1 probes_1n probes_1c t_5 has_6 x39 x29 x29n x29c x30 x31 I1' S1_r3))
    (∃ x60, Cell I1 S1' ⟨b8, 3, none⟩ (.int .i64 x60) ∧
    Runs Try.prog 17 #[.pointer t_5, .string x39, .int .i64 x60] I1 S1' fun v'' I1'' S1_r4 => ∃ x61, v'' = .bool x61 ∧
    bcase (x61 == x43ok)
      (R (.bool false) I1'' S1_r4)
      (∃ x67, Cell I1'' S1_r4 ⟨b8, 3, none⟩ (.int .i64 x67) ∧
      MapSt S1_r4 has_6 .string (.string x39) (.int .i64 x67) fun S1_r5 =>
      bolterlaw16_TrieScript_b5 again3 R probes_1 probes_1n probes_1c t_5 has_6 x39 x29 x29n x29c x30 x31 I1'' S1_r5))
def bolterlaw16_TrieScript_b15 (R : Value → IMem → SH → Prop) (I : IMem) (S : SH) : Prop :=
  R (.bool true) I S
def bolterlaw16_TrieScript_l3 (again3 : Option Addr → Nat → Nat → Option Addr → Option Nat → Option Addr → Nat → Nat → Int → Int → IMem → SH → Prop) (R : Value → IMem → SH → Prop) (probes_1 : Option Addr) (probes_1n : Nat) (probes_1c : Nat) (t_5 : Option Addr) (has_6 : Option Nat) (x29 : Option Addr) (x29n : Nat) (x29c : Nat) (x30 : Int) (x31 : Int) (I : IMem) (S : SH) : Prop :=
  bcase (decide (x31 < x30))
    (bolterlaw16_TrieScript_b4 again3 R probes_1 probes_1n probes_1c t_5 has_6 x29 x29n x29c x30 x31 I S)
    (bolterlaw16_TrieScript_b15 R I S)
def bolterlaw16_TrieScript_b2 (R : Value → IMem → SH → Prop) (probes_1 : Option Addr) (probes_1n : Nat) (probes_1c : Nat) (t_5 : Option Addr) (has_6 : Option Nat) (x29 : Option Addr) (x29n : Nat) (x29c : Nat) (x30 : Int) (x31 : Int) (I : IMem) (S : SH) : Prop :=
  ∃ (Inv : Nat → Option Addr → Nat → Nat → Option Addr → Option Nat → Option Addr → Nat → Nat → Int → Int → IMem → SH → Prop) (m : Nat), Inv m probes_1 probes_1n probes_1c t_5 has_6 x29 x29n x29c x30 x31 I S ∧
    ∀ (m : Nat) (probes_1 : Option Addr) (probes_1n : Nat) (probes_1c : Nat) (t_5 : Option Addr) (has_6 : Option Nat) (x29 : Option Addr) (x29n : Nat) (x29c : Nat) (x30 : Int) (x31 : Int) (J : IMem) (T : SH), I.le J → Inv m probes_1 probes_1n probes_1c t_5 has_6 x29 x29n x29c x30 x31 J T →
      bolterlaw16_TrieScript_l3 (fun probes_1 probes_1n probes_1c t_5 has_6 x29 x29n x29c x30 x31 I S => ∃ m', m' < m ∧ Inv m' probes_1 probes_1n probes_1c t_5 has_6 x29 x29n x29c x30 x31 I S) R probes_1 probes_1n probes_1c t_5 has_6 x29 x29n x29c x30 x31 J T
def bolterlaw16_TrieScript_b1 (R : Value → IMem → SH → Prop) (acts_0 : Option Addr) (acts_0n : Nat) (acts_0c : Nat) (probes_1 : Option Addr) (probes_1n : Nat) (probes_1c : Nat) (t_5 : Option Addr) (has_6 : Option Nat) (I : IMem) (S : SH) : Prop :=
  bolterlaw16_TrieScript_b2 R probes_1 probes_1n probes_1c t_5 has_6 acts_0 acts_0n acts_0c (acts_0n : Int) 0 I S
def bolterlaw16_TrieScript (R : Value → IMem → SH → Prop) (acts_0 : Option Addr) (acts_0n : Nat) (acts_0c : Nat) (probes_1 : Option Addr) (probes_1n : Nat) (probes_1c : Nat) (I : IMem) (S : SH) : Prop :=
  Runs Try.prog 16 #[] I S fun v I1 S1 => ∃ x24, v = .bool x24 ∧
  bcase (!x24)
    (R (.bool false) I1 S1)
    (∀ b27 : Nat,
    ∀ r28 : Nat,
    bolterlaw16_TrieScript_b1 R acts_0 acts_0n acts_0c probes_1 probes_1n probes_1c (some ⟨b27, 0, none⟩) (some r28) I1 ((r28, .map #[] 0) :: ((b27, .cells #[.pointer none, .int .i64 0] 29 (0, 0)) :: S1)))
theorem bolterlaw16_TrieScript_fn (R : Value → IMem → SH → Prop) (acts_0 : Option Addr) (acts_0n : Nat) (acts_0c : Nat) (probes_1 : Option Addr) (probes_1n : Nat) (probes_1c : Nat) (I : IMem) (S : SH) (h : bolterlaw16_TrieScript R acts_0 acts_0n acts_0c probes_1 probes_1n probes_1c I S) :
    Runs Try.prog 11 #[.slice acts_0 acts_0n acts_0c, .slice probes_1 probes_1n probes_1c] I S R := by
  refine Runs.of_wp (args := [.slice acts_0 acts_0n acts_0c, .slice probes_1 probes_1n probes_1c]) (c := bolterlaw16_TrieScript_code) Try.func11 (by kernel_rfl) (by kernel_rfl) ?_
  refine WP.cut 4 (fun l I S => asSl (l 0) fun acts_0 acts_0n acts_0c => asSl (l 1) fun probes_1 probes_1n probes_1c => asPtr (l 5) fun t_5 => asMap (l 6) fun has_6 => bolterlaw16_TrieScript_b1 R acts_0 acts_0n acts_0c probes_1 probes_1n probes_1c t_5 has_6 I S) (cast (by kernel_rfl) h) ?_
  clear h
  intro l I S _ h
  obtain ⟨acts_0, acts_0n, acts_0c, e0, h⟩ := asSl_e h
  obtain ⟨probes_1, probes_1n, probes_1c, e1, h⟩ := asSl_e h
  obtain ⟨t_5, e5, h⟩ := asPtr_e h
  obtain ⟨has_6, e6, h⟩ := asMap_e h
  rw [upd_eta e0, upd_eta e1, upd_eta e5, upd_eta e6]
  refine WP.seqY (by kernel_rfl) (fun l I S => bolterlaw16_TrieScript_b15 R I S) ?_ ?_
  ·
    refine WP.cut 1 (fun l I S => asSl (l 1) fun probes_1 probes_1n probes_1c => asPtr (l 5) fun t_5 => asMap (l 6) fun has_6 => asSl (l 29) fun x29 x29n x29c => asI .i64 (l 30) fun x30 => asI .i64 (l 31) fun x31 => bolterlaw16_TrieScript_b2 R probes_1 probes_1n probes_1c t_5 has_6 x29 x29n x29c x30 x31 I S) (cast (by kernel_rfl) h) ?_
    clear h
    intro l I S _ h
    obtain ⟨probes_1, probes_1n, probes_1c, e1, h⟩ := asSl_e h
    obtain ⟨t_5, e5, h⟩ := asPtr_e h
    obtain ⟨has_6, e6, h⟩ := asMap_e h
    obtain ⟨x29, x29n, x29c, e29, h⟩ := asSl_e h
    obtain ⟨x30, e30, h⟩ := asI_e h
    obtain ⟨x31, e31, h⟩ := asI_e h
    rw [upd_eta e1, upd_eta e5, upd_eta e6, upd_eta e29, upd_eta e30, upd_eta e31]
    refine WP.block' (by kernel_rfl) ?_
    obtain ⟨Inv_again3, m_again3, h0, hr⟩ := h
    refine WP.loop' (by kernel_rfl) (fun m_again3 => fun l I S => asSl (l 1) fun probes_1 probes_1n probes_1c => asPtr (l 5) fun t_5 => asMap (l 6) fun has_6 => asSl (l 29) fun x29 x29n x29c => asI .i64 (l 30) fun x30 => asI .i64 (l 31) fun x31 => Inv_again3 m_again3 probes_1 probes_1n probes_1c t_5 has_6 x29 x29n x29c x30 x31 I S) m_again3 (cast (by kernel_rfl) h0) ?_
    clear h0
    intro m_again3 l I S hle h
    obtain ⟨probes_1, probes_1n, probes_1c, e1, h⟩ := asSl_e h
    obtain ⟨t_5, e5, h⟩ := asPtr_e h
    obtain ⟨has_6, e6, h⟩ := asMap_e h
    obtain ⟨x29, x29n, x29c, e29, h⟩ := asSl_e h
    obtain ⟨x30, e30, h⟩ := asI_e h
    obtain ⟨x31, e31, h⟩ := asI_e h
    rw [upd_eta e1, upd_eta e5, upd_eta e6, upd_eta e29, upd_eta e30, upd_eta e31]
    have h := hr m_again3 probes_1 probes_1n probes_1c t_5 has_6 x29 x29n x29c x30 x31 I S hle h
    clear hr hle
    refine WP.cut 2 (fun l I S => asSl (l 1) fun probes_1 probes_1n probes_1c => asPtr (l 5) fun t_5 => asMap (l 6) fun has_6 => asSl (l 29) fun x29 x29n x29c => asI .i64 (l 30) fun x30 => asI .i64 (l 31) fun x31 => bolterlaw16_TrieScript_b4 (fun probes_1 probes_1n probes_1c t_5 has_6 x29 x29n x29c x30 x31 I S => ∃ m', m' < m_again3 ∧ Inv_again3 m' probes_1 probes_1n probes_1c t_5 has_6 x29 x29n x29c x30 x31 I S) R probes_1 probes_1n probes_1c t_5 has_6 x29 x29n x29c x30 x31 I S) (cast (by kernel_rfl) h) ?_
    clear h
    intro l I S _ h
    obtain ⟨probes_1, probes_1n, probes_1c, e1, h⟩ := asSl_e h
    obtain ⟨t_5, e5, h⟩ := asPtr_e h
    obtain ⟨has_6, e6, h⟩ := asMap_e h
    obtain ⟨x29, x29n, x29c, e29, h⟩ := asSl_e h
    obtain ⟨x30, e30, h⟩ := asI_e h
    obtain ⟨x31, e31, h⟩ := asI_e h
    rw [upd_eta e1, upd_eta e5, upd_eta e6, upd_eta e29, upd_eta e30, upd_eta e31]
    refine WP.seqY (by kernel_rfl) (fun l I S => asSl (l 1) fun probes_1 probes_1n probes_1c => asPtr (l 5) fun t_5 => asMap (l 6) fun has_6 => asSl (l 29) fun x29 x29n x29c => asI .i64 (l 30) fun x30 => asI .i64 (l 31) fun x31 => bolterlaw16_TrieScript_b14 (fun probes_1 probes_1n probes_1c t_5 has_6 x29 x29n x29c x30 x31 I S => ∃ m', m' < m_again3 ∧ Inv_again3 m' probes_1 probes_1n probes_1c t_5 has_6 x29 x29n x29c x30 x31 I S) R probes_1 probes_1n probes_1c t_5 has_6 x29 x29n x29c x30 x31 I S) ?_ ?_
    ·
      refine WP.block' (by kernel_rfl) ?_
      refine WP.cut 4 (fun l I S => asSl (l 1) fun probes_1 probes_1n probes_1c => asPtr (l 5) fun t_5 => asMap (l 6) fun has_6 => asStr (l 9) fun key_9 => asSl (l 29) fun x29 x29n x29c => asI .i64 (l 30) fun x30 => asI .i64 (l 31) fun x31 => bolterlaw16_TrieScript_b5 (fun probes_1 probes_1n probes_1c t_5 has_6 x29 x29n x29c x30 x31 I S => ∃ m', m' < m_again3 ∧ Inv_again3 m' probes_1 probes_1n probes_1c t_5 has_6 x29 x29n x29c x30 x31 I S) R probes_1 probes_1n probes_1c t_5 has_6 key_9 x29 x29n x29c x30 x31 I S) (cast (by kernel_rfl) h) ?_
      clear h
      intro l I S _ h
      obtain ⟨probes_1, probes_1n, probes_1c, e1, h⟩ := asSl_e h
      obtain ⟨t_5, e5, h⟩ := asPtr_e h
      obtain ⟨has_6, e6, h⟩ := asMap_e h
      obtain ⟨key_9, e9, h⟩ := asStr_e h
      obtain ⟨x29, x29n, x29c, e29, h⟩ := asSl_e h
      obtain ⟨x30, e30, h⟩ := asI_e h
      obtain ⟨x31, e31, h⟩ := asI_e h
      rw [upd_eta e1, upd_eta e5, upd_eta e6, upd_eta e9, upd_eta e29, upd_eta e30, upd_eta e31]
      refine WP.cut 2 (fun l I S => asSl (l 1) fun probes_1 probes_1n probes_1c => asPtr (l 5) fun t_5 => asMap (l 6) fun has_6 => asI .i64 (l 12) fun v_12 => asB (l 13) fun ok_13 => asI .i64 (l 14) fun w_14 => asB (l 15) fun want_15 => asSl (l 29) fun x29 x29n x29c => asI .i64 (l 30) fun x30 => asI .i64 (l 31) fun x31 => bolterlaw16_TrieScript_b6 (fun probes_1 probes_1n probes_1c t_5 has_6 x29 x29n x29c x30 x31 I S => ∃ m', m' < m_again3 ∧ Inv_again3 m' probes_1 probes_1n probes_1c t_5 has_6 x29 x29n x29c x30 x31 I S) R probes_1 probes_1n probes_1c t_5 has_6 v_12 ok_13 w_14 want_15 x29 x29n x29c x30 x31 I S) (cast (by kernel_rfl) h) ?_
      clear h
      intro l I S _ h
      obtain ⟨probes_1, probes_1n, probes_1c, e1, h⟩ := asSl_e h
      obtain ⟨t_5, e5, h⟩ := asPtr_e h
      obtain ⟨has_6, e6, h⟩ := asMap_e h
      obtain ⟨v_12, e12, h⟩ := asI_e h
      obtain ⟨ok_13, e13, h⟩ := asB_e h
      obtain ⟨w_14, e14, h⟩ := asI_e h
      obtain ⟨want_15, e15, h⟩ := asB_e h
      obtain ⟨x29, x29n, x29c, e29, h⟩ := asSl_e h
      obtain ⟨x30, e30, h⟩ := asI_e h
      obtain ⟨x31, e31, h⟩ := asI_e h
      rw [upd_eta e1, upd_eta e5, upd_eta e6, upd_eta e12, upd_eta e13, upd_eta e14, upd_eta e15, upd_eta e29, upd_eta e30, upd_eta e31]
      refine WP.seqY (by kernel_rfl) (fun l I S => asSl (l 1) fun probes_1 probes_1n probes_1c => asPtr (l 5) fun t_5 => asMap (l 6) fun has_6 => asSl (l 29) fun x29 x29n x29c => asI .i64 (l 30) fun x30 => asI .i64 (l 31) fun x31 => bolterlaw16_TrieScript_b8 (fun probes_1 probes_1n probes_1c t_5 has_6 x29 x29n x29c x30 x31 I S => ∃ m', m' < m_again3 ∧ Inv_again3 m' probes_1 probes_1n probes_1c t_5 has_6 x29 x29n x29c x30 x31 I S) R probes_1 probes_1n probes_1c t_5 has_6 x29 x29n x29c x30 x31 I S) ?_ ?_
      ·
        refine WP.cut 1 (fun l I S => asSl (l 1) fun probes_1 probes_1n probes_1c => asPtr (l 5) fun t_5 => asMap (l 6) fun has_6 => asSl (l 29) fun x29 x29n x29c => asI .i64 (l 30) fun x30 => asI .i64 (l 31) fun x31 => asB (l 102) fun x102 => bolterlaw16_TrieScript_b7 (fun probes_1 probes_1n probes_1c t_5 has_6 x29 x29n x29c x30 x31 I S => ∃ m', m' < m_again3 ∧ Inv_again3 m' probes_1 probes_1n probes_1c t_5 has_6 x29 x29n x29c x30 x31 I S) R probes_1 probes_1n probes_1c t_5 has_6 x29 x29n x29c x30 x31 x102 I S) (cast (by kernel_rfl) h) ?_
        clear h
        intro l I S _ h
        obtain ⟨probes_1, probes_1n, probes_1c, e1, h⟩ := asSl_e h
        obtain ⟨t_5, e5, h⟩ := asPtr_e h
        obtain ⟨has_6, e6, h⟩ := asMap_e h
        obtain ⟨x29, x29n, x29c, e29, h⟩ := asSl_e h
        obtain ⟨x30, e30, h⟩ := asI_e h
        obtain ⟨x31, e31, h⟩ := asI_e h
        obtain ⟨x102, e102, h⟩ := asB_e h
        rw [upd_eta e1, upd_eta e5, upd_eta e6, upd_eta e29, upd_eta e30, upd_eta e31, upd_eta e102]
        exact Pre.sound _ _ _ _ _ (cast (by kernel_rfl) h)
      · clear h
        intro l I S _ h
        obtain ⟨probes_1, probes_1n, probes_1c, e1, h⟩ := asSl_e h
        obtain ⟨t_5, e5, h⟩ := asPtr_e h
        obtain ⟨has_6, e6, h⟩ := asMap_e h
        obtain ⟨x29, x29n, x29c, e29, h⟩ := asSl_e h
        obtain ⟨x30, e30, h⟩ := asI_e h
        obtain ⟨x31, e31, h⟩ := asI_e h
        rw [upd_eta e1, upd_eta e5, upd_eta e6, upd_eta e29, upd_eta e30, upd_eta e31]
        refine WP.cut 1 (fun l I S => asSl (l 1) fun probes_1 probes_1n probes_1c => asPtr (l 5) fun t_5 => asMap (l 6) fun has_6 => asSl (l 29) fun x29 x29n x29c => asI .i64 (l 30) fun x30 => asI .i64 (l 31) fun x31 => asSl (l 107) fun x107 x107n x107c => asI .i64 (l 108) fun x108 => asI .i64 (l 109) fun x109 => bolterlaw16_TrieScript_b9 (fun probes_1 probes_1n probes_1c t_5 has_6 x29 x29n x29c x30 x31 I S => ∃ m', m' < m_again3 ∧ Inv_again3 m' probes_1 probes_1n probes_1c t_5 has_6 x29 x29n x29c x30 x31 I S) R probes_1 probes_1n probes_1c t_5 has_6 x29 x29n x29c x30 x31 x107 x107n x107c x108 x109 I S) (cast (by kernel_rfl) h) ?_
        clear h
        intro l I S _ h
        obtain ⟨probes_1, probes_1n, probes_1c, e1, h⟩ := asSl_e h
        obtain ⟨t_5, e5, h⟩ := asPtr_e h
        obtain ⟨has_6, e6, h⟩ := asMap_e h
        obtain ⟨x29, x29n, x29c, e29, h⟩ := asSl_e h
        obtain ⟨x30, e30, h⟩ := asI_e h
        obtain ⟨x31, e31, h⟩ := asI_e h
        obtain ⟨x107, x107n, x107c, e107, h⟩ := asSl_e h
        obtain ⟨x108, e108, h⟩ := asI_e h
        obtain ⟨x109, e109, h⟩ := asI_e h
        rw [upd_eta e1, upd_eta e5, upd_eta e6, upd_eta e29, upd_eta e30, upd_eta e31, upd_eta e107, upd_eta e108, upd_eta e109]
        refine WP.block' (by kernel_rfl) ?_
        obtain ⟨Inv_again10, m_again10, h0, hr⟩ := h
        refine WP.loop' (by kernel_rfl) (fun m_again10 => fun l I S => asSl (l 1) fun probes_1 probes_1n probes_1c => asPtr (l 5) fun t_5 => asMap (l 6) fun has_6 => asSl (l 29) fun x29 x29n x29c => asI .i64 (l 30) fun x30 => asI .i64 (l 31) fun x31 => asSl (l 107) fun x107 x107n x107c => asI .i64 (l 108) fun x108 => asI .i64 (l 109) fun x109 => Inv_again10 m_again10 probes_1 probes_1n probes_1c t_5 has_6 x29 x29n x29c x30 x31 x107 x107n x107c x108 x109 I S) m_again10 (cast (by kernel_rfl) h0) ?_
        clear h0
        intro m_again10 l I S hle h
        obtain ⟨probes_1, probes_1n, probes_1c, e1, h⟩ := asSl_e h
        obtain ⟨t_5, e5, h⟩ := asPtr_e h
        obtain ⟨has_6, e6, h⟩ := asMap_e h
        obtain ⟨x29, x29n, x29c, e29, h⟩ := asSl_e h
        obtain ⟨x30, e30, h⟩ := asI_e h
        obtain ⟨x31, e31, h⟩ := asI_e h
        obtain ⟨x107, x107n, x107c, e107, h⟩ := asSl_e h
        obtain ⟨x108, e108, h⟩ := asI_e h
        obtain ⟨x109, e109, h⟩ := asI_e h
        rw [upd_eta e1, upd_eta e5, upd_eta e6, upd_eta e29, upd_eta e30, upd_eta e31, upd_eta e107, upd_eta e108, upd_eta e109]
        have h := hr m_again10 probes_1 probes_1n probes_1c t_5 has_6 x29 x29n x29c x30 x31 x107 x107n x107c x108 x109 I S hle h
        clear hr hle
        refine WP.cut 2 (fun l I S => asSl (l 1) fun probes_1 probes_1n probes_1c => asPtr (l 5) fun t_5 => asMap (l 6) fun has_6 => asSl (l 29) fun x29 x29n x29c => asI .i64 (l 30) fun x30 => asI .i64 (l 31) fun x31 => asSl (l 107) fun x107 x107n x107c => asI .i64 (l 108) fun x108 => asI .i64 (l 109) fun x109 => bolterlaw16_TrieScript_b11 (fun probes_1 probes_1n probes_1c t_5 has_6 x29 x29n x29c x30 x31 I S => ∃ m', m' < m_again3 ∧ Inv_again3 m' probes_1 probes_1n probes_1c t_5 has_6 x29 x29n x29c x30 x31 I S) (fun probes_1 probes_1n probes_1c t_5 has_6 x29 x29n x29c x30 x31 x107 x107n x107c x108 x109 I S => ∃ m', m' < m_again10 ∧ Inv_again10 m' probes_1 probes_1n probes_1c t_5 has_6 x29 x29n x29c x30 x31 x107 x107n x107c x108 x109 I S) R probes_1 probes_1n probes_1c t_5 has_6 x29 x29n x29c x30 x31 x107 x107n x107c x108 x109 I S) (cast (by kernel_rfl) h) ?_
        clear h
        intro l I S _ h
        obtain ⟨probes_1, probes_1n, probes_1c, e1, h⟩ := asSl_e h
        obtain ⟨t_5, e5, h⟩ := asPtr_e h
        obtain ⟨has_6, e6, h⟩ := asMap_e h
        obtain ⟨x29, x29n, x29c, e29, h⟩ := asSl_e h
        obtain ⟨x30, e30, h⟩ := asI_e h
        obtain ⟨x31, e31, h⟩ := asI_e h
        obtain ⟨x107, x107n, x107c, e107, h⟩ := asSl_e h
        obtain ⟨x108, e108, h⟩ := asI_e h
        obtain ⟨x109, e109, h⟩ := asI_e h
        rw [upd_eta e1, upd_eta e5, upd_eta e6, upd_eta e29, upd_eta e30, upd_eta e31, upd_eta e107, upd_eta e108, upd_eta e109]
        refine WP.seqY (by kernel_rfl) (fun l I S => asSl (l 1) fun probes_1 probes_1n probes_1c => asPtr (l 5) fun t_5 => asMap (l 6) fun has_6 => asSl (l 29) fun x29 x29n x29c => asI .i64 (l 30) fun x30 => asI .i64 (l 31) fun x31 => asSl (l 107) fun x107 x107n x107c => asI .i64 (l 108) fun x108 => asI .i64 (l 109) fun x109 => bolterlaw16_TrieScript_b13 (fun probes_1 probes_1n probes_1c t_5 has_6 x29 x29n x29c x30 x31 I S => ∃ m', m' < m_again3 ∧ Inv_again3 m' probes_1 probes_1n probes_1c t_5 has_6 x29 x29n x29c x30 x31 I S) (fun probes_1 probes_1n probes_1c t_5 has_6 x29 x29n x29c x30 x31 x107 x107n x107c x108 x109 I S => ∃ m', m' < m_again10 ∧ Inv_again10 m' probes_1 probes_1n probes_1c t_5 has_6 x29 x29n x29c x30 x31 x107 x107n x107c x108 x109 I S) R probes_1 probes_1n probes_1c t_5 has_6 x29 x29n x29c x30 x31 x107 x107n x107c x108 x109 I S) ?_ ?_
        ·
          refine WP.block' (by kernel_rfl) ?_
          refine WP.cut 4 (fun l I S => asSl (l 1) fun probes_1 probes_1n probes_1c => asPtr (l 5) fun t_5 => asMap (l 6) fun has_6 => asSl (l 29) fun x29 x29n x29c => asI .i64 (l 30) fun x30 => asI .i64 (l 31) fun x31 => asSl (l 107) fun x107 x107n x107c => asI .i64 (l 108) fun x108 => asI .i64 (l 109) fun x109 => asB (l 141) fun x141 => bolterlaw16_TrieScript_b12 (fun probes_1 probes_1n probes_1c t_5 has_6 x29 x29n x29c x30 x31 I S => ∃ m', m' < m_again3 ∧ Inv_again3 m' probes_1 probes_1n probes_1c t_5 has_6 x29 x29n x29c x30 x31 I S) (fun probes_1 probes_1n probes_1c t_5 has_6 x29 x29n x29c x30 x31 x107 x107n x107c x108 x109 I S => ∃ m', m' < m_again10 ∧ Inv_again10 m' probes_1 probes_1n probes_1c t_5 has_6 x29 x29n x29c x30 x31 x107 x107n x107c x108 x109 I S) R probes_1 probes_1n probes_1c t_5 has_6 x29 x29n x29c x30 x31 x107 x107n x107c x108 x109 x141 I S) (cast (by kernel_rfl) h) ?_
          clear h
          intro l I S _ h
          obtain ⟨probes_1, probes_1n, probes_1c, e1, h⟩ := asSl_e h
          obtain ⟨t_5, e5, h⟩ := asPtr_e h
          obtain ⟨has_6, e6, h⟩ := asMap_e h
          obtain ⟨x29, x29n, x29c, e29, h⟩ := asSl_e h
          obtain ⟨x30, e30, h⟩ := asI_e h
          obtain ⟨x31, e31, h⟩ := asI_e h
          obtain ⟨x107, x107n, x107c, e107, h⟩ := asSl_e h
          obtain ⟨x108, e108, h⟩ := asI_e h
          obtain ⟨x109, e109, h⟩ := asI_e h
          obtain ⟨x141, e141, h⟩ := asB_e h
          rw [upd_eta e1, upd_eta e5, upd_eta e6, upd_eta e29, upd_eta e30, upd_eta e31, upd_eta e107, upd_eta e108, upd_eta e109, upd_eta e141]
          exact Pre.sound _ _ _ _ _ (cast (by kernel_rfl) h)
        · clear h
          intro l I S _ h
          obtain ⟨probes_1, probes_1n, probes_1c, e1, h⟩ := asSl_e h
          obtain ⟨t_5, e5, h⟩ := asPtr_e h
          obtain ⟨has_6, e6, h⟩ := asMap_e h
          obtain ⟨x29, x29n, x29c, e29, h⟩ := asSl_e h
          obtain ⟨x30, e30, h⟩ := asI_e h
          obtain ⟨x31, e31, h⟩ := asI_e h
          obtain ⟨x107, x107n, x107c, e107, h⟩ := asSl_e h
          obtain ⟨x108, e108, h⟩ := asI_e h
          obtain ⟨x109, e109, h⟩ := asI_e h
          rw [upd_eta e1, upd_eta e5, upd_eta e6, upd_eta e29, upd_eta e30, upd_eta e31, upd_eta e107, upd_eta e108, upd_eta e109]
          exact Pre.sound _ _ _ _ _ (cast (by kernel_rfl) h)
    · clear h
      intro l I S _ h
      obtain ⟨probes_1, probes_1n, probes_1c, e1, h⟩ := asSl_e h
      obtain ⟨t_5, e5, h⟩ := asPtr_e h
      obtain ⟨has_6, e6, h⟩ := asMap_e h
      obtain ⟨x29, x29n, x29c, e29, h⟩ := asSl_e h
      obtain ⟨x30, e30, h⟩ := asI_e h
      obtain ⟨x31, e31, h⟩ := asI_e h
      rw [upd_eta e1, upd_eta e5, upd_eta e6, upd_eta e29, upd_eta e30, upd_eta e31]
      exact Pre.sound _ _ _ _ _ (cast (by kernel_rfl) h)
  · clear h
    intro l I S _ h
    exact Pre.sound _ _ _ _ _ (cast (by kernel_rfl) h)
/-! ### bolterlaw15_Key: function 20, bolter/bolterlaw15.Key -/
noncomputable def bolterlaw15_Key_code : Code := (Try.f20.body).getD .skip
def bolterlaw15_Key_b2 (R : Value → IMem → SH → Prop) (x2 : ByteArray) (I : IMem) (S : SH) : Prop :=
  R (.string x2) I S
def bolterlaw15_Key_b1 (R : Value → IMem → SH → Prop) (n_0 : Int) (I : IMem) (S : SH) : Prop :=
  (∀ b10 : Nat,
  (∃ x11 : ByteArray, BytesAt I ((b10, .cells #[.int .u8 (IntKind.wrap .u8 ((97 : Int) + (n_0.tmod (8 : Int)))), .int .u8 (IntKind.wrap .u8 ((97 : Int) + ((IntKind.wrap .u8 (n_0.tdiv (8 : Int))).tmod (4 : Int))))] 5 (0, 0)) :: S) (some ⟨b10, 0, none⟩) 2 x11 ∧
  (0 : Int) ≤ (IntKind.wrap .u8 (n_0.tdiv (32 : Int))) ∧ (IntKind.wrap .u8 (n_0.tdiv (32 : Int))) ≤ (IntKind.wrap .u8 (n_0.tdiv (32 : Int))) ∧ (IntKind.wrap .u8 (n_0.tdiv (32 : Int))) ≤ 9223372036854775807 ∧ (1 : Int) * (IntKind.wrap .u8 (n_0.tdiv (32 : Int))) ≤ 281474976710656 ∧ ∀ b14 : Nat,
  ∃ x15 : ByteArray, BytesAt I ((b14, .cells (repV (IntKind.wrap .u8 (n_0.tdiv (32 : Int))).toNat [.int .u8 0]).toArray 5 (0, 0)) :: ((b10, .cells #[.int .u8 (IntKind.wrap .u8 ((97 : Int) + (n_0.tmod (8 : Int)))), .int .u8 (IntKind.wrap .u8 ((97 : Int) + ((IntKind.wrap .u8 (n_0.tdiv (8 : Int))).tmod (4 : Int))))] 5 (0, 0)) :: S)) (some ⟨b14, 0, none⟩) ((IntKind.wrap .u8 (n_0.tdiv (32 : Int))).toNat) x15 ∧
  ((x11.size + x15.size : Nat) : Int) ≤ 9223372036854775807 ∧
  bolterlaw15_Key_b2 R (x11 ++ x15) I ((b14, .cells (repV (IntKind.wrap .u8 (n_0.tdiv (32 : Int))).toNat [.int .u8 0]).toArray 5 (0, 0)) :: ((b10, .cells #[.int .u8 (IntKind.wrap .u8 ((97 : Int) + (n_0.tmod (8 : Int)))), .int .u8 (IntKind.wrap .u8 ((97 : Int) + ((IntKind.wrap .u8 (n_0.tdiv (8 : Int))).tmod (4 : Int))))] 5 (0, 0)) :: S))) ∧
  ((0 : Int) ≤ (IntKind.wrap .u8 (n_0.tdiv (32 : Int))) ∧ (IntKind.wrap .u8 (n_0.tdiv (32 : Int))) ≤ (IntKind.wrap .u8 (n_0.tdiv (32 : Int))) ∧ (IntKind.wrap .u8 (n_0.tdiv (32 : Int))) ≤ 9223372036854775807 ∧ (1 : Int) * (IntKind.wrap .u8 (n_0.tdiv (32 : Int))) ≤ 281474976710656 ∧ ∀ b14' : Nat,
  (∃ x11' : ByteArray, BytesAt I ((b14', .cells (repV (IntKind.wrap .u8 (n_0.tdiv (32 : Int))).toNat [.int .u8 0]).toArray 5 (0, 0)) :: ((b10, .cells #[.int .u8 (IntKind.wrap .u8 ((97 : Int) + (n_0.tmod (8 : Int)))), .int .u8 (IntKind.wrap .u8 ((97 : Int) + ((IntKind.wrap .u8 (n_0.tdiv (8 : Int))).tmod (4 : Int))))] 5 (0, 0)) :: S)) (some ⟨b10, 0, none⟩) 2 x11' ∧
  ∃ x15' : ByteArray, BytesAt I ((b14', .cells (repV (IntKind.wrap .u8 (n_0.tdiv (32 : Int))).toNat [.int .u8 0]).toArray 5 (0, 0)) :: ((b10, .cells #[.int .u8 (IntKind.wrap .u8 ((97 : Int) + (n_0.tmod (8 : Int)))), .int .u8 (IntKind.wrap .u8 ((97 : Int) + ((IntKind.wrap .u8 (n_0.tdiv (8 : Int))).tmod (4 : Int))))] 5 (0, 0)) :: S)) (some ⟨b14', 0, none⟩) ((IntKind.wrap .u8 (n_0.tdiv (32 : Int))).toNat) x15' ∧
  ((x11'.size + x15'.size : Nat) : Int) ≤ 9223372036854775807 ∧
  bolterlaw15_Key_b2 R (x11' ++ x15') I ((b14', .cells (repV (IntKind.wrap .u8 (n_0.tdiv (32 : Int))).toNat [.int .u8 0]).toArray 5 (0, 0)) :: ((b10, .cells #[.int .u8 (IntKind.wrap .u8 ((97 : Int) + (n_0.tmod (8 : Int)))), .int .u8 (IntKind.wrap .u8 ((97 : Int) + ((IntKind.wrap .u8 (n_0.tdiv (8 : Int))).tmod (4 : Int))))] 5 (0, 0)) :: S))) ∧
  (∃ x15'' : ByteArray, BytesAt I ((b14', .cells (repV (IntKind.wrap .u8 (n_0.tdiv (32 : Int))).toNat [.int .u8 0]).toArray 5 (0, 0)) :: ((b10, .cells #[.int .u8 (IntKind.wrap .u8 ((97 : Int) + (n_0.tmod (8 : Int)))), .int .u8 (IntKind.wrap .u8 ((97 : Int) + ((IntKind.wrap .u8 (n_0.tdiv (8 : Int))).tmod (4 : Int))))] 5 (0, 0)) :: S)) (some ⟨b14', 0, none⟩) ((IntKind.wrap .u8 (n_0.tdiv (32 : Int))).toNat) x15'' ∧
  ∃ x11'' : ByteArray, BytesAt I ((b14', .cells (repV (IntKind.wrap .u8 (n_0.tdiv (32 : Int))).toNat [.int .u8 0]).toArray 5 (0, 0)) :: ((b10, .cells #[.int .u8 (IntKind.wrap .u8 ((97 : Int) + (n_0.tmod (8 : Int)))), .int .u8 (IntKind.wrap .u8 ((97 : Int) + ((IntKind.wrap .u8 (n_0.tdiv (8 : Int))).tmod (4 : Int))))] 5 (0, 0)) :: S)) (some ⟨b10, 0, none⟩) 2 x11'' ∧
  ((x11''.size + x15''.size : Nat) : Int) ≤ 9223372036854775807 ∧
  bolterlaw15_Key_b2 R (x11'' ++ x15'') I ((b14', .cells (repV (IntKind.wrap .u8 (n_0.tdiv (32 : Int))).toNat [.int .u8 0]).toArray 5 (0, 0)) :: ((b10, .cells #[.int .u8 (IntKind.wrap .u8 ((97 : Int) + (n_0.tmod (8 : Int)))), .int .u8 (IntKind.wrap .u8 ((97 : Int) + ((IntKind.wrap .u8 (n_0.tdiv (8 : Int))).tmod (4 : Int))))] 5 (0, 0)) :: S))))) ∧
  ((0 : Int) ≤ (IntKind.wrap .u8 (n_0.tdiv (32 : Int))) ∧ (IntKind.wrap .u8 (n_0.tdiv (32 : Int))) ≤ (IntKind.wrap .u8 (n_0.tdiv (32 : Int))) ∧ (IntKind.wrap .u8 (n_0.tdiv (32 : Int))) ≤ 9223372036854775807 ∧ (1 : Int) * (IntKind.wrap .u8 (n_0.tdiv (32 : Int))) ≤ 281474976710656 ∧ ∀ b14'' : Nat,
  (∀ b10' : Nat,
  (∃ x11_r3 : ByteArray, BytesAt I ((b10', .cells #[.int .u8 (IntKind.wrap .u8 ((97 : Int) + (n_0.tmod (8 : Int)))), .int .u8 (IntKind.wrap .u8 ((97 : Int) + ((IntKind.wrap .u8 (n_0.tdiv (8 : Int))).tmod (4 : Int))))] 5 (0, 0)) :: ((b14'', .cells (repV (IntKind.wrap .u8 (n_0.tdiv (32 : Int))).toNat [.int .u8 0]).toArray 5 (0, 0)) :: S)) (some ⟨b10', 0, none⟩) 2 x11_r3 ∧
  ∃ x15_r3 : ByteArray, BytesAt I ((b10', .cells #[.int .u8 (IntKind.wrap .u8 ((97 : Int) + (n_0.tmod (8 : Int)))), .int .u8 (IntKind.wrap .u8 ((97 : Int) + ((IntKind.wrap .u8 (n_0.tdiv (8 : Int))).tmod (4 : Int))))] 5 (0, 0)) :: ((b14'', .cells (repV (IntKind.wrap .u8 (n_0.tdiv (32 : Int))).toNat [.int .u8 0]).toArray 5 (0, 0)) :: S)) (some ⟨b14'', 0, none⟩) ((IntKind.wrap .u8 (n_0.tdiv (32 : Int))).toNat) x15_r3 ∧
  ((x11_r3.size + x15_r3.size : Nat) : Int) ≤ 9223372036854775807 ∧
  bolterlaw15_Key_b2 R (x11_r3 ++ x15_r3) I ((b10', .cells #[.int .u8 (IntKind.wrap .u8 ((97 : Int) + (n_0.tmod (8 : Int)))), .int .u8 (IntKind.wrap .u8 ((97 : Int) + ((IntKind.wrap .u8 (n_0.tdiv (8 : Int))).tmod (4 : Int))))] 5 (0, 0)) :: ((b14'', .cells (repV (IntKind.wrap .u8 (n_0.tdiv (32 : Int))).toNat [.int .u8 0]).toArray 5 (0, 0)) :: S))) ∧
  (∃ x15_r4 : ByteArray, BytesAt I ((b10', .cells #[.int .u8 (IntKind.wrap .u8 ((97 : Int) + (n_0.tmod (8 : Int)))), .int .u8 (IntKind.wrap .u8 ((97 : Int) + ((IntKind.wrap .u8 (n_0.tdiv (8 : Int))).tmod (4 : Int))))] 5 (0, 0)) :: ((b14'', .cells (repV (IntKind.wrap .u8 (n_0.tdiv (32 : Int))).toNat [.int .u8 0]).toArray 5 (0, 0)) :: S)) (some ⟨b14'', 0, none⟩) ((IntKind.wrap .u8 (n_0.tdiv (32 : Int))).toNat) x15_r4 ∧
  ∃ x11_r4 : ByteArray, BytesAt I ((b10', .cells #[.int .u8 (IntKind.wrap .u8 ((97 : Int) + (n_0.tmod (8 : Int)))), .int .u8 (IntKind.wrap .u8 ((97 : Int) + ((IntKind.wrap .u8 (n_0.tdiv (8 : Int))).tmod (4 : Int))))] 5 (0, 0)) :: ((b14'', .cells (repV (IntKind.wrap .u8 (n_0.tdiv (32 : Int))).toNat [.int .u8 0]).toArray 5 (0, 0)) :: S)) (some ⟨b10', 0, none⟩) 2 x11_r4 ∧
  ((x11_r4.size + x15_r4.size : Nat) : Int) ≤ 9223372036854775807 ∧
  bolterlaw15_Key_b2 R (x11_r4 ++ x15_r4) I ((b10', .cells #[.int .u8 (IntKind.wrap .u8 ((97 : Int) + (n_0.tmod (8 : Int)))), .int .u8 (IntKind.wrap .u8 ((97 : Int) + ((IntKind.wrap .u8 (n_0.tdiv (8 : Int))).tmod (4 : Int))))] 5 (0, 0)) :: ((b14'', .cells (repV (IntKind.wrap .u8 (n_0.tdiv (32 : Int))).toNat [.int .u8 0]).toArray 5 (0, 0)) :: S)))) ∧
  (∃ x15_r5 : ByteArray, BytesAt I ((b14'', .cells (repV (IntKind.wrap .u8 (n_0.tdiv (32 : Int))).toNat [.int .u8 0]).toArray 5 (0, 0)) :: S) (some ⟨b14'', 0, none⟩) ((IntKind.wrap .u8 (n_0.tdiv (32 : Int))).toNat) x15_r5 ∧
  ∀ b10'' : Nat,
  ∃ x11_r5 : ByteArray, BytesAt I ((b10'', .cells #[.int .u8 (IntKind.wrap .u8 ((97 : Int) + (n_0.tmod (8 : Int)))), .int .u8 (IntKind.wrap .u8 ((97 : Int) + ((IntKind.wrap .u8 (n_0.tdiv (8 : Int))).tmod (4 : Int))))] 5 (0, 0)) :: ((b14'', .cells (repV (IntKind.wrap .u8 (n_0.tdiv (32 : Int))).toNat [.int .u8 0]).toArray 5 (0, 0)) :: S)) (some ⟨b10'', 0, none⟩) 2 x11_r5 ∧
  ((x11_r5.size + x15_r5.size : Nat) : Int) ≤ 9223372036854775807 ∧
  bolterlaw15_Key_b2 R (x11_r5 ++ x15_r5) I ((b10'', .cells #[.int .u8 (IntKind.wrap .u8 ((97 : Int) + (n_0.tmod (8 : Int)))), .int .u8 (IntKind.wrap .u8 ((97 : Int) + ((IntKind.wrap .u8 (n_0.tdiv (8 : Int))).tmod (4 : Int))))] 5 (0, 0)) :: ((b14'', .cells (repV (IntKind.wrap .u8 (n_0.tdiv (32 : Int))).toNat [.int .u8 0]).toArray 5 (0, 0)) :: S))))
def bolterlaw15_Key (R : Value → IMem → SH → Prop) (n_0 : Int) (I : IMem) (S : SH) : Prop :=
  bolterlaw15_Key_b1 R n_0 I S
theorem bolterlaw15_Key_fn (R : Value → IMem → SH → Prop) (n_0 : Int) (I : IMem) (S : SH) (h : bolterlaw15_Key R n_0 I S) :
    Runs Try.prog 20 #[.int .u8 n_0] I S R := by
  refine Runs.of_wp (args := [.int .u8 n_0]) (c := bolterlaw15_Key_code) Try.func20 (by kernel_rfl) (by kernel_rfl) ?_
  refine WP.cut 1 (fun l I S => asI .u8 (l 0) fun n_0 => bolterlaw15_Key_b1 R n_0 I S) (cast (by kernel_rfl) h) ?_
  clear h
  intro l I S _ h
  obtain ⟨n_0, e0, h⟩ := asI_e h
  rw [upd_eta e0]
  refine WP.seqY (by kernel_rfl) (fun l I S => asStr (l 2) fun x2 => bolterlaw15_Key_b2 R x2 I S) ?_ ?_
  ·
    exact WP.draw' (.take 0 (.take 1 (.take 2 (.take 3 (.take 4 (.take 5 (.take 6 (.take 9 (.take 10 (.fork 7 (.fork 8 (.step 11 (.step 12 (.take 13 (.take 14 .done)))) 11 (.fork 8 (.step 12 (.take 13 (.take 14 .done))) 12 (.step 8 (.take 13 (.take 14 .done))))) 11 (.fork 7 (.fork 8 (.step 12 (.take 13 (.take 14 .done))) 12 (.step 8 (.take 13 (.take 14 .done)))) 12 (.step 7 (.step 8 (.take 13 (.take 14 .done))))))))))))))) [7, 8, 11, 12] (by kernel_rfl) (by kernel_rfl) (by kernel_rfl) (by kernel_rfl) (by kernel_rfl) (cast (by kernel_rfl) h)
  · clear h
    intro l I S _ h
    obtain ⟨x2, e2, h⟩ := asStr_e h
    rw [upd_eta e2]
    exact Pre.sound _ _ _ _ _ (cast (by kernel_rfl) h)
/-! ### bolterlaw15_TableMany_f1: function 25, bolter/bolterlaw15.TableMany$1 -/
noncomputable def bolterlaw15_TableMany_f1_code : Code := (Try.f25.body).getD .skip
def bolterlaw15_TableMany_f1 (R : Value → IMem → SH → Prop) (i_0 : Int) (I : IMem) (S : SH) : Prop :=
  ∀ b11 : Nat,
  ∃ x12 : ByteArray, BytesAt I ((b11, .cells #[.int .u8 (IntKind.wrap .u8 i_0), .int .u8 (IntKind.wrap .u8 (IntKind.wrap .i64 (i_0.tdiv (256 : Int)))), .int .u8 (IntKind.wrap .u8 (i_0.tmod (7 : Int)))] 5 (0, 0)) :: S) (some ⟨b11, 0, none⟩) 3 x12 ∧
  R (.string x12) I ((b11, .cells #[.int .u8 (IntKind.wrap .u8 i_0), .int .u8 (IntKind.wrap .u8 (IntKind.wrap .i64 (i_0.tdiv (256 : Int)))), .int .u8 (IntKind.wrap .u8 (i_0.tmod (7 : Int)))] 5 (0, 0)) :: S)
theorem bolterlaw15_TableMany_f1_fn (R : Value → IMem → SH → Prop) (i_0 : Int) (I : IMem) (S : SH) (h : bolterlaw15_TableMany_f1 R i_0 I S) :
    Runs Try.prog 25 #[.int .i64 i_0] I S R := by
  refine Runs.of_wp (args := [.int .i64 i_0]) (c := bolterlaw15_TableMany_f1_code) Try.func25 (by kernel_rfl) (by kernel_rfl) ?_
  exact Pre.sound _ _ _ _ _ (cast (by kernel_rfl) h)
/-! ### bolterlaw16_longest: function 31, bolter/bolterlaw16.longest -/
noncomputable def bolterlaw16_longest_code : Code := (Try.f31.body).getD .skip
def bolterlaw16_longest_b4 (R : Value → IMem → SH → Prop) (I : IMem) (S : SH) : Prop :=
  R (.tuple #[.int .i64 0, .int .i64 0, .bool false]) I S
def bolterlaw16_longest_l3 (again3 : Option Nat → ByteArray → Int → IMem → SH → Prop) (R : Value → IMem → SH → Prop) (has_0 : Option Nat) (key_1 : ByteArray) (n_7 : Int) (I : IMem) (S : SH) : Prop :=
  bcase (decide (n_7 ≥ (0 : Int)))
    ((0 : Int) ≤ n_7 ∧ n_7 ≤ ((key_1.size : Nat) : Int) ∧
    ∃ x21, ∃ x21ok : Bool, MapAt I S has_0 .string (.string (key_1.extract 0 n_7.toNat)) (.int .i64 0) (.int .i64 x21) x21ok ∧
    bcase x21ok
      (R (.tuple #[.int .i64 x21, .int .i64 n_7, .bool true]) I S)
      (again3 has_0 key_1 (IntKind.wrap .i64 (n_7 - (1 : Int))) I S))
    (bolterlaw16_longest_b4 R I S)
def bolterlaw16_longest_b2 (R : Value → IMem → SH → Prop) (has_0 : Option Nat) (key_1 : ByteArray) (n_7 : Int) (I : IMem) (S : SH) : Prop :=
  ∃ (Inv : Nat → Option Nat → ByteArray → Int → IMem → SH → Prop) (m : Nat), Inv m has_0 key_1 n_7 I S ∧
    ∀ (m : Nat) (has_0 : Option Nat) (key_1 : ByteArray) (n_7 : Int) (J : IMem) (T : SH), I.le J → Inv m has_0 key_1 n_7 J T →
      bolterlaw16_longest_l3 (fun has_0 key_1 n_7 I S => ∃ m', m' < m ∧ Inv m' has_0 key_1 n_7 I S) R has_0 key_1 n_7 J T
def bolterlaw16_longest_b1 (R : Value → IMem → SH → Prop) (has_0 : Option Nat) (key_1 : ByteArray) (I : IMem) (S : SH) : Prop :=
  bolterlaw16_longest_b2 R has_0 key_1 (key_1.size : Int) I S
def bolterlaw16_longest (R : Value → IMem → SH → Prop) (has_0 : Option Nat) (key_1 : ByteArray) (I : IMem) (S : SH) : Prop :=
  bolterlaw16_longest_b1 R has_0 key_1 I S
theorem bolterlaw16_longest_fn (R : Value → IMem → SH → Prop) (has_0 : Option Nat) (key_1 : ByteArray) (I : IMem) (S : SH) (h : bolterlaw16_longest R has_0 key_1 I S) :
    Runs Try.prog 31 #[.map has_0, .string key_1] I S R := by
  refine Runs.of_wp (args := [.map has_0, .string key_1]) (c := bolterlaw16_longest_code) Try.func31 (by kernel_rfl) (by kernel_rfl) ?_
  refine WP.cut 1 (fun l I S => asMap (l 0) fun has_0 => asStr (l 1) fun key_1 => bolterlaw16_longest_b1 R has_0 key_1 I S) (cast (by kernel_rfl) h) ?_
  clear h
  intro l I S _ h
  obtain ⟨has_0, e0, h⟩ := asMap_e h
  obtain ⟨key_1, e1, h⟩ := asStr_e h
  rw [upd_eta e0, upd_eta e1]
  refine WP.seqY (by kernel_rfl) (fun l I S => bolterlaw16_longest_b4 R I S) ?_ ?_
  ·
    refine WP.cut 1 (fun l I S => asMap (l 0) fun has_0 => asStr (l 1) fun key_1 => asI .i64 (l 7) fun n_7 => bolterlaw16_longest_b2 R has_0 key_1 n_7 I S) (cast (by kernel_rfl) h) ?_
    clear h
    intro l I S _ h
    obtain ⟨has_0, e0, h⟩ := asMap_e h
    obtain ⟨key_1, e1, h⟩ := asStr_e h
    obtain ⟨n_7, e7, h⟩ := asI_e h
    rw [upd_eta e0, upd_eta e1, upd_eta e7]
    refine WP.block' (by kernel_rfl) ?_
    obtain ⟨Inv_again3, m_again3, h0, hr⟩ := h
    refine WP.loop' (by kernel_rfl) (fun m_again3 => fun l I S => asMap (l 0) fun has_0 => asStr (l 1) fun key_1 => asI .i64 (l 7) fun n_7 => Inv_again3 m_again3 has_0 key_1 n_7 I S) m_again3 (cast (by kernel_rfl) h0) ?_
    clear h0
    intro m_again3 l I S hle h
    obtain ⟨has_0, e0, h⟩ := asMap_e h
    obtain ⟨key_1, e1, h⟩ := asStr_e h
    obtain ⟨n_7, e7, h⟩ := asI_e h
    rw [upd_eta e0, upd_eta e1, upd_eta e7]
    have h := hr m_again3 has_0 key_1 n_7 I S hle h
    clear hr hle
    exact Pre.sound _ _ _ _ _ (cast (by kernel_rfl) h)
  · clear h
    intro l I S _ h
    exact Pre.sound _ _ _ _ _ (cast (by kernel_rfl) h)
end Go.Proofs.Ytoeecjlencaglaa
