import Derived.Test.YtkagfmlaolmdnaaDoorProg
import Derived.Test.YtkagfmlaolmdnaaDoorPx6
set_option linter.unusedVariables false
set_option maxRecDepth 8000
set_option maxHeartbeats 2000000
namespace Go.Proofs.YtkagfmlaolmdnaaDoor
open Go.Px
/-! ### bolterlaw13_Trigger: function 15, bolter/bolterlaw13.Trigger -/
noncomputable def bolterlaw13_Trigger_code : Code := (Tryd.f15.body).getD .skip
def bolterlaw13_Trigger_b4 (R : Value → IMem → SH → Prop) (x8 : Addr) (t_9 : Addr) (I : IMem) (S : SH) : Prop :=
  ∃ x78_0, Cell I S t_9 (.int .i64 x78_0) ∧
  ∃ x78_1, Cell I S (t_9.add 1) (.string x78_1) ∧
  ∃ x78_2, Cell I S (t_9.add 2) (.string x78_2) ∧
  ∃ x78_3, Cell I S (t_9.add 3) (.int .i64 x78_3) ∧
  StP S x8 [.int .i64 x78_0, .string x78_1, .string x78_2, .int .i64 x78_3] fun S1 =>
  ∃ r8_0, Cell I S1 x8 (.int .i64 r8_0) ∧
  ∃ r8_1, Cell I S1 (x8.add 1) (.string r8_1) ∧
  ∃ r8_2, Cell I S1 (x8.add 2) (.string r8_2) ∧
  ∃ r8_3, Cell I S1 (x8.add 3) (.int .i64 r8_3) ∧
  R (.agg #[.int .i64 r8_0, .string r8_1, .string r8_2, .int .i64 r8_3]) I S1
def bolterlaw13_Trigger_b8 (again7 : Addr → Addr → Option Addr → Nat → Nat → Option Addr → Nat → Nat → Int → Int → IMem → SH → Prop) (R : Value → IMem → SH → Prop) (x8 : Addr) (t_9 : Addr) (ls_11 : Option Addr) (ls_11n : Nat) (ls_11c : Nat) (x20 : Option Addr) (x20n : Nat) (x20c : Nat) (x21 : Int) (x22 : Int) (I : IMem) (S : SH) : Prop :=
  again7 x8 t_9 ls_11 ls_11n ls_11c x20 x20n x20c x21 (IntKind.wrap .i64 (x22 + (1 : Int))) I S
def bolterlaw13_Trigger_b11 (R : Value → IMem → SH → Prop) (x8 : Addr) (t_9 : Addr) (ls_11 : Option Addr) (ls_11n : Nat) (ls_11c : Nat) (I : IMem) (S : SH) : Prop :=
  Runs Tryd.prog 25 #[.slice ls_11 ls_11n ls_11c] I S fun v I1 S1 => ∃ x54_0 x54_1, v = .tuple #[.string x54_0, .bool x54_1] ∧
  StP S1 (t_9.add 1) [.string x54_0] fun S1' =>
  bolterlaw13_Trigger_b4 R x8 t_9 I1 S1'
def bolterlaw13_Trigger_b10 (R : Value → IMem → SH → Prop) (x8 : Addr) (t_9 : Addr) (ls_11 : Option Addr) (ls_11n : Nat) (ls_11c : Nat) (x50 : Bool) (I : IMem) (S : SH) : Prop :=
  bcase x50
    (∀ b51 : Nat,
    bolterlaw13_Trigger_b11 R x8 t_9 (some ⟨b51, 0, none⟩) 1 1 I ((b51, .cells #[.string ⟨#[97]⟩] 9 (0, 0)) :: S))
    (bolterlaw13_Trigger_b11 R x8 t_9 ls_11 ls_11n ls_11c I S)
def bolterlaw13_Trigger_b9 (R : Value → IMem → SH → Prop) (x8 : Addr) (t_9 : Addr) (ls_11 : Option Addr) (ls_11n : Nat) (ls_11c : Nat) (I : IMem) (S : SH) : Prop :=
  bcase ((ls_11n : Int) == (0 : Int))
    (∃ x43, Cell I S t_9 (.int .i64 x43) ∧
    bcase (x43 == (1 : Int))
      (bolterlaw13_Trigger_b10 R x8 t_9 ls_11 ls_11n ls_11c true I S)
      (∃ x47, Cell I S t_9 (.int .i64 x47) ∧
      bolterlaw13_Trigger_b10 R x8 t_9 ls_11 ls_11n ls_11c (x47 == (4 : Int)) I S))
    (bolterlaw13_Trigger_b10 R x8 t_9 ls_11 ls_11n ls_11c false I S)
def bolterlaw13_Trigger_l7 (again7 : Addr → Addr → Option Addr → Nat → Nat → Option Addr → Nat → Nat → Int → Int → IMem → SH → Prop) (R : Value → IMem → SH → Prop) (x8 : Addr) (t_9 : Addr) (ls_11 : Option Addr) (ls_11n : Nat) (ls_11c : Nat) (x20 : Option Addr) (x20n : Nat) (x20c : Nat) (x21 : Int) (x22 : Int) (I : IMem) (S : SH) : Prop :=
  bcase (decide (x22 < x21))
    (ptrP x20 fun x24 => (0 : Int) ≤ x22 ∧ x22 < (x20n : Int) ∧
    ∃ x25, Cell I S (x24.add (x22.toNat * 1)) (.int .u8 x25) ∧
    bcase (decide ((ls_11n : Int) < (5 : Int)))
      (∀ b30 : Nat,
      ptrP (some ⟨b30, 0, none⟩) fun x33 => (0 : Int) ≤ (x25.tmod (5 : Int)) ∧ (x25.tmod (5 : Int)) < (5 : Int) ∧
      ∃ x34, Cell I ((b30, .cells #[.string ⟨#[97]⟩, .string ⟨#[98]⟩, .string ⟨#[119, 119, 119]⟩, .string ⟨#[101, 120]⟩, .string ⟨#[111, 114, 103]⟩] 9 (0, 0)) :: S) (x33.add ((x25.tmod (5 : Int)).toNat * 1)) (.string x34) ∧
      ∀ b35 : Nat,
      AppG 9 1 16 [.string ⟨#[]⟩] (some (.slice 9)) I ((b35, .cells #[.string x34] 9 (0, 0)) :: ((b30, .cells #[.string ⟨#[97]⟩, .string ⟨#[98]⟩, .string ⟨#[119, 119, 119]⟩, .string ⟨#[101, 120]⟩, .string ⟨#[111, 114, 103]⟩] 9 (0, 0)) :: S)) (.slice ls_11 ls_11n ls_11c) (.slice (some ⟨b35, 0, none⟩) 1 1) fun x36 x36n x36c S1 =>
      bolterlaw13_Trigger_b8 again7 R x8 t_9 x36 x36n x36c x20 x20n x20c x21 x22 I S1)
      (bolterlaw13_Trigger_b8 again7 R x8 t_9 ls_11 ls_11n ls_11c x20 x20n x20c x21 x22 I S))
    (bolterlaw13_Trigger_b9 R x8 t_9 ls_11 ls_11n ls_11c I S)
def bolterlaw13_Trigger_b6 (R : Value → IMem → SH → Prop) (x8 : Addr) (t_9 : Addr) (ls_11 : Option Addr) (ls_11n : Nat) (ls_11c : Nat) (x20 : Option Addr) (x20n : Nat) (x20c : Nat) (x21 : Int) (x22 : Int) (I : IMem) (S : SH) : Prop :=
  ∃ (Inv : Nat → Addr → Addr → Option Addr → Nat → Nat → Option Addr → Nat → Nat → Int → Int → IMem → SH → Prop) (m : Nat), Inv m x8 t_9 ls_11 ls_11n ls_11c x20 x20n x20c x21 x22 I S ∧
    ∀ (m : Nat) (x8 : Addr) (t_9 : Addr) (ls_11 : Option Addr) (ls_11n : Nat) (ls_11c : Nat) (x20 : Option Addr) (x20n : Nat) (x20c : Nat) (x21 : Int) (x22 : Int) (J : IMem) (T : SH), I.le J → Inv m x8 t_9 ls_11 ls_11n ls_11c x20 x20n x20c x21 x22 J T →
      bolterlaw13_Trigger_l7 (fun x8 t_9 ls_11 ls_11n ls_11c x20 x20n x20c x21 x22 I S => ∃ m', m' < m ∧ Inv m' x8 t_9 ls_11 ls_11n ls_11c x20 x20n x20c x21 x22 I S) R x8 t_9 ls_11 ls_11n ls_11c x20 x20n x20c x21 x22 J T
def bolterlaw13_Trigger_b5 (R : Value → IMem → SH → Prop) (ns_1 : Option Addr) (ns_1n : Nat) (ns_1c : Nat) (x8 : Addr) (t_9 : Addr) (ls_11 : Option Addr) (ls_11n : Nat) (ls_11c : Nat) (I : IMem) (S : SH) : Prop :=
  bolterlaw13_Trigger_b6 R x8 t_9 ls_11 ls_11n ls_11c ns_1 ns_1n ns_1c (ns_1n : Int) 0 I S
def bolterlaw13_Trigger_b3 (R : Value → IMem → SH → Prop) (ns_1 : Option Addr) (ns_1n : Nat) (ns_1c : Nat) (six_2 : Bool) (bits_3 : Int) (x8 : Addr) (t_9 : Addr) (x58 : Bool) (I : IMem) (S : SH) : Prop :=
  bcase x58
    (Runs Tryd.prog 36 #[.bool six_2, .slice ns_1 ns_1n ns_1c] I S fun v I1 S1 => ∃ x64, v = .string x64 ∧
    bcase (decide ((IntKind.wrap .i64 ((IntKind.wrap .i64 ((8 : Int) * (x64.size : Int))) + (1 : Int))) = 0)) False (Runs Tryd.prog 37 #[.string x64, .int .i64 ((IntKind.wrap .i64 bits_3).tmod (IntKind.wrap .i64 ((IntKind.wrap .i64 ((8 : Int) * (x64.size : Int))) + (1 : Int))))] I1 S1 fun v' I1' S1' => ∃ x74_0_0 x74_0_1 x74_1, v' = .tuple #[.agg #[.string x74_0_0, .int .i64 x74_0_1], .bool x74_1] ∧
    StP S1' (t_9.add 2) [.string x74_0_0, .int .i64 x74_0_1] fun S1'' =>
    bolterlaw13_Trigger_b4 R x8 t_9 I1' S1''))
    (bolterlaw13_Trigger_b5 R ns_1 ns_1n ns_1c x8 t_9 none 0 0 I S)
def bolterlaw13_Trigger_b2 (R : Value → IMem → SH → Prop) (ns_1 : Option Addr) (ns_1n : Nat) (ns_1c : Nat) (six_2 : Bool) (bits_3 : Int) (x8 : Addr) (t_9 : Addr) (x19 : Int) (I : IMem) (S : SH) : Prop :=
  bcase (x19 == (0 : Int))
    (bolterlaw13_Trigger_b3 R ns_1 ns_1n ns_1c six_2 bits_3 x8 t_9 (x19 == (0 : Int)) I S)
    (bcase (x19 == (3 : Int))
      (bolterlaw13_Trigger_b3 R ns_1 ns_1n ns_1c six_2 bits_3 x8 t_9 (x19 == (3 : Int)) I S)
      (bolterlaw13_Trigger_b3 R ns_1 ns_1n ns_1c six_2 bits_3 x8 t_9 (x19 == (6 : Int)) I S))
def bolterlaw13_Trigger_b1 (R : Value → IMem → SH → Prop) (ns_1 : Option Addr) (ns_1n : Nat) (ns_1c : Nat) (six_2 : Bool) (bits_3 : Int) (x8 : Addr) (t_9 : Addr) (I : IMem) (S : SH) : Prop :=
  ∃ x19, Cell I S t_9 (.int .i64 x19) ∧
  bolterlaw13_Trigger_b2 R ns_1 ns_1n ns_1c six_2 bits_3 x8 t_9 x19 I S
def bolterlaw13_Trigger (R : Value → IMem → SH → Prop) (kind_0 : Int) (ns_1 : Option Addr) (ns_1n : Nat) (ns_1c : Nat) (six_2 : Bool) (bits_3 : Int) (I : IMem) (S : SH) : Prop :=
  ∀ b8 : Nat,
  ∀ b9 : Nat,
  StP ((b9, .cells #[.int .i64 0, .string ⟨#[]⟩, .string ⟨#[]⟩, .int .i64 0] 29 (0, 0)) :: ((b8, .cells #[.int .i64 0, .string ⟨#[]⟩, .string ⟨#[]⟩, .int .i64 0] 29 (0, 0)) :: S)) ⟨b9, 0, none⟩ [.int .i64 (IntKind.wrap .i64 (kind_0.tmod (7 : Int))), .string ⟨#[]⟩, .string ⟨#[]⟩, .int .i64 0] fun S1 =>
  bolterlaw13_Trigger_b1 R ns_1 ns_1n ns_1c six_2 bits_3 ⟨b8, 0, none⟩ ⟨b9, 0, none⟩ I S1
theorem bolterlaw13_Trigger_fn (R : Value → IMem → SH → Prop) (kind_0 : Int) (ns_1 : Option Addr) (ns_1n : Nat) (ns_1c : Nat) (six_2 : Bool) (bits_3 : Int) (I : IMem) (S : SH) (h : bolterlaw13_Trigger R kind_0 ns_1 ns_1n ns_1c six_2 bits_3 I S) :
    Runs Tryd.prog 15 #[.int .u8 kind_0, .slice ns_1 ns_1n ns_1c, .bool six_2, .int .u8 bits_3] I S R := by
  refine Runs.of_wp (args := [.int .u8 kind_0, .slice ns_1 ns_1n ns_1c, .bool six_2, .int .u8 bits_3]) (c := bolterlaw13_Trigger_code) Tryd.func15 (by kernel_rfl) (by kernel_rfl) ?_
  refine WP.cut 2 (fun l I S => asSl (l 1) fun ns_1 ns_1n ns_1c => asB (l 2) fun six_2 => asI .u8 (l 3) fun bits_3 => asAdr (l 8) fun x8 => asAdr (l 9) fun t_9 => bolterlaw13_Trigger_b1 R ns_1 ns_1n ns_1c six_2 bits_3 x8 t_9 I S) (cast (by kernel_rfl) h) ?_
  clear h
  intro l I S _ h
  obtain ⟨ns_1, ns_1n, ns_1c, e1, h⟩ := asSl_e h
  obtain ⟨six_2, e2, h⟩ := asB_e h
  obtain ⟨bits_3, e3, h⟩ := asI_e h
  obtain ⟨x8, e8, h⟩ := asAdr_e h
  obtain ⟨t_9, e9, h⟩ := asAdr_e h
  rw [upd_eta e1, upd_eta e2, upd_eta e3, upd_eta e8, upd_eta e9]
  refine WP.seqY (by kernel_rfl) (fun l I S => asAdr (l 8) fun x8 => asAdr (l 9) fun t_9 => bolterlaw13_Trigger_b4 R x8 t_9 I S) ?_ ?_
  ·
    refine WP.cut 1 (fun l I S => asSl (l 1) fun ns_1 ns_1n ns_1c => asB (l 2) fun six_2 => asI .u8 (l 3) fun bits_3 => asAdr (l 8) fun x8 => asAdr (l 9) fun t_9 => asI .i64 (l 19) fun x19 => bolterlaw13_Trigger_b2 R ns_1 ns_1n ns_1c six_2 bits_3 x8 t_9 x19 I S) (cast (by kernel_rfl) h) ?_
    clear h
    intro l I S _ h
    obtain ⟨ns_1, ns_1n, ns_1c, e1, h⟩ := asSl_e h
    obtain ⟨six_2, e2, h⟩ := asB_e h
    obtain ⟨bits_3, e3, h⟩ := asI_e h
    obtain ⟨x8, e8, h⟩ := asAdr_e h
    obtain ⟨t_9, e9, h⟩ := asAdr_e h
    obtain ⟨x19, e19, h⟩ := asI_e h
    rw [upd_eta e1, upd_eta e2, upd_eta e3, upd_eta e8, upd_eta e9, upd_eta e19]
    refine WP.block' (by kernel_rfl) ?_
    refine WP.cut 1 (fun l I S => asSl (l 1) fun ns_1 ns_1n ns_1c => asB (l 2) fun six_2 => asI .u8 (l 3) fun bits_3 => asAdr (l 8) fun x8 => asAdr (l 9) fun t_9 => asB (l 58) fun x58 => bolterlaw13_Trigger_b3 R ns_1 ns_1n ns_1c six_2 bits_3 x8 t_9 x58 I S) (cast (by kernel_rfl) h) ?_
    clear h
    intro l I S _ h
    obtain ⟨ns_1, ns_1n, ns_1c, e1, h⟩ := asSl_e h
    obtain ⟨six_2, e2, h⟩ := asB_e h
    obtain ⟨bits_3, e3, h⟩ := asI_e h
    obtain ⟨x8, e8, h⟩ := asAdr_e h
    obtain ⟨t_9, e9, h⟩ := asAdr_e h
    obtain ⟨x58, e58, h⟩ := asB_e h
    rw [upd_eta e1, upd_eta e2, upd_eta e3, upd_eta e8, upd_eta e9, upd_eta e58]
    refine WP.cond' (by kernel_rfl) (by kernel_rfl) h ?_ ?_
    · clear h
      intro h
      exact Pre.sound _ _ _ _ _ (cast (by kernel_rfl) h)
    · clear h
      intro h
      refine WP.cut 1 (fun l I S => asSl (l 1) fun ns_1 ns_1n ns_1c => asAdr (l 8) fun x8 => asAdr (l 9) fun t_9 => asSl (l 11) fun ls_11 ls_11n ls_11c => bolterlaw13_Trigger_b5 R ns_1 ns_1n ns_1c x8 t_9 ls_11 ls_11n ls_11c I S) (cast (by kernel_rfl) h) ?_
      clear h
      intro l I S _ h
      obtain ⟨ns_1, ns_1n, ns_1c, e1, h⟩ := asSl_e h
      obtain ⟨x8, e8, h⟩ := asAdr_e h
      obtain ⟨t_9, e9, h⟩ := asAdr_e h
      obtain ⟨ls_11, ls_11n, ls_11c, e11, h⟩ := asSl_e h
      rw [upd_eta e1, upd_eta e8, upd_eta e9, upd_eta e11]
      refine WP.seqY (by kernel_rfl) (fun l I S => asAdr (l 8) fun x8 => asAdr (l 9) fun t_9 => asSl (l 11) fun ls_11 ls_11n ls_11c => bolterlaw13_Trigger_b9 R x8 t_9 ls_11 ls_11n ls_11c I S) ?_ ?_
      ·
        refine WP.cut 1 (fun l I S => asAdr (l 8) fun x8 => asAdr (l 9) fun t_9 => asSl (l 11) fun ls_11 ls_11n ls_11c => asSl (l 20) fun x20 x20n x20c => asI .i64 (l 21) fun x21 => asI .i64 (l 22) fun x22 => bolterlaw13_Trigger_b6 R x8 t_9 ls_11 ls_11n ls_11c x20 x20n x20c x21 x22 I S) (cast (by kernel_rfl) h) ?_
        clear h
        intro l I S _ h
        obtain ⟨x8, e8, h⟩ := asAdr_e h
        obtain ⟨t_9, e9, h⟩ := asAdr_e h
        obtain ⟨ls_11, ls_11n, ls_11c, e11, h⟩ := asSl_e h
        obtain ⟨x20, x20n, x20c, e20, h⟩ := asSl_e h
        obtain ⟨x21, e21, h⟩ := asI_e h
        obtain ⟨x22, e22, h⟩ := asI_e h
        rw [upd_eta e8, upd_eta e9, upd_eta e11, upd_eta e20, upd_eta e21, upd_eta e22]
        refine WP.block' (by kernel_rfl) ?_
        obtain ⟨Inv_again7, m_again7, h0, hr⟩ := h
        refine WP.loop' (by kernel_rfl) (fun m_again7 => fun l I S => asAdr (l 8) fun x8 => asAdr (l 9) fun t_9 => asSl (l 11) fun ls_11 ls_11n ls_11c => asSl (l 20) fun x20 x20n x20c => asI .i64 (l 21) fun x21 => asI .i64 (l 22) fun x22 => Inv_again7 m_again7 x8 t_9 ls_11 ls_11n ls_11c x20 x20n x20c x21 x22 I S) m_again7 (cast (by kernel_rfl) h0) ?_
        clear h0
        intro m_again7 l I S hle h
        obtain ⟨x8, e8, h⟩ := asAdr_e h
        obtain ⟨t_9, e9, h⟩ := asAdr_e h
        obtain ⟨ls_11, ls_11n, ls_11c, e11, h⟩ := asSl_e h
        obtain ⟨x20, x20n, x20c, e20, h⟩ := asSl_e h
        obtain ⟨x21, e21, h⟩ := asI_e h
        obtain ⟨x22, e22, h⟩ := asI_e h
        rw [upd_eta e8, upd_eta e9, upd_eta e11, upd_eta e20, upd_eta e21, upd_eta e22]
        have h := hr m_again7 x8 t_9 ls_11 ls_11n ls_11c x20 x20n x20c x21 x22 I S hle h
        clear hr hle
        refine WP.cut 3 (fun l I S => asAdr (l 8) fun x8 => asAdr (l 9) fun t_9 => asSl (l 11) fun ls_11 ls_11n ls_11c => asSl (l 20) fun x20 x20n x20c => asI .i64 (l 21) fun x21 => asI .i64 (l 22) fun x22 => bolterlaw13_Trigger_b8 (fun x8 t_9 ls_11 ls_11n ls_11c x20 x20n x20c x21 x22 I S => ∃ m', m' < m_again7 ∧ Inv_again7 m' x8 t_9 ls_11 ls_11n ls_11c x20 x20n x20c x21 x22 I S) R x8 t_9 ls_11 ls_11n ls_11c x20 x20n x20c x21 x22 I S) (cast (by kernel_rfl) h) ?_
        clear h
        intro l I S _ h
        obtain ⟨x8, e8, h⟩ := asAdr_e h
        obtain ⟨t_9, e9, h⟩ := asAdr_e h
        obtain ⟨ls_11, ls_11n, ls_11c, e11, h⟩ := asSl_e h
        obtain ⟨x20, x20n, x20c, e20, h⟩ := asSl_e h
        obtain ⟨x21, e21, h⟩ := asI_e h
        obtain ⟨x22, e22, h⟩ := asI_e h
        rw [upd_eta e8, upd_eta e9, upd_eta e11, upd_eta e20, upd_eta e21, upd_eta e22]
        exact Pre.sound _ _ _ _ _ (cast (by kernel_rfl) h)
      · clear h
        intro l I S _ h
        obtain ⟨x8, e8, h⟩ := asAdr_e h
        obtain ⟨t_9, e9, h⟩ := asAdr_e h
        obtain ⟨ls_11, ls_11n, ls_11c, e11, h⟩ := asSl_e h
        rw [upd_eta e8, upd_eta e9, upd_eta e11]
        refine WP.seqY (by kernel_rfl) (fun l I S => asAdr (l 8) fun x8 => asAdr (l 9) fun t_9 => asSl (l 11) fun ls_11 ls_11n ls_11c => bolterlaw13_Trigger_b11 R x8 t_9 ls_11 ls_11n ls_11c I S) ?_ ?_
        ·
          refine WP.cut 1 (fun l I S => asAdr (l 8) fun x8 => asAdr (l 9) fun t_9 => asSl (l 11) fun ls_11 ls_11n ls_11c => asB (l 50) fun x50 => bolterlaw13_Trigger_b10 R x8 t_9 ls_11 ls_11n ls_11c x50 I S) (cast (by kernel_rfl) h) ?_
          clear h
          intro l I S _ h
          obtain ⟨x8, e8, h⟩ := asAdr_e h
          obtain ⟨t_9, e9, h⟩ := asAdr_e h
          obtain ⟨ls_11, ls_11n, ls_11c, e11, h⟩ := asSl_e h
          obtain ⟨x50, e50, h⟩ := asB_e h
          rw [upd_eta e8, upd_eta e9, upd_eta e11, upd_eta e50]
          exact Pre.sound _ _ _ _ _ (cast (by kernel_rfl) h)
        · clear h
          intro l I S _ h
          obtain ⟨x8, e8, h⟩ := asAdr_e h
          obtain ⟨t_9, e9, h⟩ := asAdr_e h
          obtain ⟨ls_11, ls_11n, ls_11c, e11, h⟩ := asSl_e h
          rw [upd_eta e8, upd_eta e9, upd_eta e11]
          exact Pre.sound _ _ _ _ _ (cast (by kernel_rfl) h)
  · clear h
    intro l I S _ h
    obtain ⟨x8, e8, h⟩ := asAdr_e h
    obtain ⟨t_9, e9, h⟩ := asAdr_e h
    rw [upd_eta e8, upd_eta e9]
    exact Pre.sound _ _ _ _ _ (cast (by kernel_rfl) h)
/-! ### bolterlaw13_Code_Trigger: function 24, (bolter/bolterlaw13.Code).Trigger -/
noncomputable def bolterlaw13_Code_Trigger_code : Code := (Tryd.f24.body).getD .skip
def bolterlaw13_Code_Trigger (R : Value → IMem → SH → Prop) (c_0_0 : Int) (c_0_1 : Option Addr) (c_0_1n : Nat) (c_0_1c : Nat) (c_0_2 : Bool) (c_0_3 : Int) (I : IMem) (S : SH) : Prop :=
  ∀ b1 : Nat,
  ∀ b2 : Nat,
  ∃ x4, Cell I ((b2, .cells #[.int .i64 0, .string ⟨#[]⟩, .string ⟨#[]⟩, .int .i64 0] 29 (0, 0)) :: ((b1, .cells #[.int .u8 c_0_0, .slice c_0_1 c_0_1n c_0_1c, .bool c_0_2, .int .u8 c_0_3] 49 (0, 0)) :: S)) ⟨b1, 0, none⟩ (.int .u8 x4) ∧
  ∃ x6 x6n x6c, Cell I ((b2, .cells #[.int .i64 0, .string ⟨#[]⟩, .string ⟨#[]⟩, .int .i64 0] 29 (0, 0)) :: ((b1, .cells #[.int .u8 c_0_0, .slice c_0_1 c_0_1n c_0_1c, .bool c_0_2, .int .u8 c_0_3] 49 (0, 0)) :: S)) ⟨b1, 1, none⟩ (.slice x6 x6n x6c) ∧
  ∃ x8, Cell I ((b2, .cells #[.int .i64 0, .string ⟨#[]⟩, .string ⟨#[]⟩, .int .i64 0] 29 (0, 0)) :: ((b1, .cells #[.int .u8 c_0_0, .slice c_0_1 c_0_1n c_0_1c, .bool c_0_2, .int .u8 c_0_3] 49 (0, 0)) :: S)) ⟨b1, 2, none⟩ (.bool x8) ∧
  ∃ x10, Cell I ((b2, .cells #[.int .i64 0, .string ⟨#[]⟩, .string ⟨#[]⟩, .int .i64 0] 29 (0, 0)) :: ((b1, .cells #[.int .u8 c_0_0, .slice c_0_1 c_0_1n c_0_1c, .bool c_0_2, .int .u8 c_0_3] 49 (0, 0)) :: S)) ⟨b1, 3, none⟩ (.int .u8 x10) ∧
  Runs Tryd.prog 15 #[.int .u8 x4, .slice x6 x6n x6c, .bool x8, .int .u8 x10] I ((b2, .cells #[.int .i64 0, .string ⟨#[]⟩, .string ⟨#[]⟩, .int .i64 0] 29 (0, 0)) :: ((b1, .cells #[.int .u8 c_0_0, .slice c_0_1 c_0_1n c_0_1c, .bool c_0_2, .int .u8 c_0_3] 49 (0, 0)) :: S)) fun v I1 S1 => ∃ x11_0 x11_1 x11_2 x11_3, v = .agg #[.int .i64 x11_0, .string x11_1, .string x11_2, .int .i64 x11_3] ∧
  StP S1 ⟨b2, 0, none⟩ [.int .i64 x11_0, .string x11_1, .string x11_2, .int .i64 x11_3] fun S1' =>
  ∃ r2_0, Cell I1 S1' ⟨b2, 0, none⟩ (.int .i64 r2_0) ∧
  ∃ r2_1, Cell I1 S1' ⟨b2, 1, none⟩ (.string r2_1) ∧
  ∃ r2_2, Cell I1 S1' ⟨b2, 2, none⟩ (.string r2_2) ∧
  ∃ r2_3, Cell I1 S1' ⟨b2, 3, none⟩ (.int .i64 r2_3) ∧
  R (.agg #[.int .i64 r2_0, .string r2_1, .string r2_2, .int .i64 r2_3]) I1 S1'
theorem bolterlaw13_Code_Trigger_fn (R : Value → IMem → SH → Prop) (c_0_0 : Int) (c_0_1 : Option Addr) (c_0_1n : Nat) (c_0_1c : Nat) (c_0_2 : Bool) (c_0_3 : Int) (I : IMem) (S : SH) (h : bolterlaw13_Code_Trigger R c_0_0 c_0_1 c_0_1n c_0_1c c_0_2 c_0_3 I S) :
    Runs Tryd.prog 24 #[.agg #[.int .u8 c_0_0, .slice c_0_1 c_0_1n c_0_1c, .bool c_0_2, .int .u8 c_0_3]] I S R := by
  refine Runs.of_wp (args := [.agg #[.int .u8 c_0_0, .slice c_0_1 c_0_1n c_0_1c, .bool c_0_2, .int .u8 c_0_3]]) (c := bolterlaw13_Code_Trigger_code) Tryd.func24 (by kernel_rfl) (by kernel_rfl) ?_
  exact Pre.sound _ _ _ _ _ (cast (by kernel_rfl) h)
/-! ### bolterlaw12_Addr: function 36, bolter/bolterlaw12.Addr -/
noncomputable def bolterlaw12_Addr_code : Code := (Tryd.f36.body).getD .skip
def bolterlaw12_Addr_b6 (again3 : Option Addr → Nat → Nat → Option Addr → Nat → Nat → Int → Int → IMem → SH → Prop) (R : Value → IMem → SH → Prop) (b_5 : Option Addr) (b_5n : Nat) (b_5c : Nat) (x11 : Option Addr) (x11n : Nat) (x11c : Nat) (x12 : Int) (x13 : Int) (I : IMem) (S : SH) : Prop :=
  again3 b_5 b_5n b_5c x11 x11n x11c x12 (IntKind.wrap .i64 (x13 + (1 : Int))) I S
def bolterlaw12_Addr_b5 (again3 : Option Addr → Nat → Nat → Option Addr → Nat → Nat → Int → Int → IMem → SH → Prop) (R : Value → IMem → SH → Prop) (b_5 : Option Addr) (b_5n : Nat) (b_5c : Nat) (k_6 : Int) (n_7 : Int) (x11 : Option Addr) (x11n : Nat) (x11c : Nat) (x12 : Int) (x13 : Int) (x21 : Bool) (I : IMem) (S : SH) : Prop :=
  bcase x21
    (bcase (decide ((b_5n : Int) = 0)) False (∀ b29 : Nat,
    ptrP (some ⟨b29, 0, none⟩) fun x32 => (0 : Int) ≤ (n_7.tmod (6 : Int)) ∧ (n_7.tmod (6 : Int)) < (6 : Int) ∧
    ∃ x33, Cell I ((b29, .cells #[.int .u8 0, .int .u8 1, .int .u8 128, .int .u8 255, .int .u8 192, .int .u8 n_7] 5 (0, 0)) :: S) (x32.add ((n_7.tmod (6 : Int)).toNat * 1)) (.int .u8 x33) ∧
    ptrP b_5 fun x34 => (0 : Int) ≤ ((IntKind.wrap .i64 (k_6 * (7 : Int))).tmod (b_5n : Int)) ∧ ((IntKind.wrap .i64 (k_6 * (7 : Int))).tmod (b_5n : Int)) < (b_5n : Int) ∧
    StP ((b29, .cells #[.int .u8 0, .int .u8 1, .int .u8 128, .int .u8 255, .int .u8 192, .int .u8 n_7] 5 (0, 0)) :: S) (x34.add (((IntKind.wrap .i64 (k_6 * (7 : Int))).tmod (b_5n : Int)).toNat * 1)) [.int .u8 x33] fun S1 =>
    bolterlaw12_Addr_b6 again3 R b_5 b_5n b_5c x11 x11n x11c x12 x13 I S1))
    (bolterlaw12_Addr_b6 again3 R b_5 b_5n b_5c x11 x11n x11c x12 x13 I S)
def bolterlaw12_Addr_b4 (again3 : Option Addr → Nat → Nat → Option Addr → Nat → Nat → Int → Int → IMem → SH → Prop) (R : Value → IMem → SH → Prop) (b_5 : Option Addr) (b_5n : Nat) (b_5c : Nat) (x11 : Option Addr) (x11n : Nat) (x11c : Nat) (x12 : Int) (x13 : Int) (I : IMem) (S : SH) : Prop :=
  ptrP x11 fun x16 => (0 : Int) ≤ x13 ∧ x13 < (x11n : Int) ∧
  ∃ x17, Cell I S (x16.add (x13.toNat * 1)) (.int .u8 x17) ∧
  bolterlaw12_Addr_b5 again3 R b_5 b_5n b_5c x13 x17 x11 x11n x11c x12 x13 (decide (x13 < (b_5n : Int))) I S
def bolterlaw12_Addr_b7 (R : Value → IMem → SH → Prop) (b_5 : Option Addr) (b_5n : Nat) (b_5c : Nat) (I : IMem) (S : SH) : Prop :=
  ∃ x37 : ByteArray, BytesAt I S b_5 b_5n x37 ∧
  R (.string x37) I S
def bolterlaw12_Addr_l3 (again3 : Option Addr → Nat → Nat → Option Addr → Nat → Nat → Int → Int → IMem → SH → Prop) (R : Value → IMem → SH → Prop) (b_5 : Option Addr) (b_5n : Nat) (b_5c : Nat) (x11 : Option Addr) (x11n : Nat) (x11c : Nat) (x12 : Int) (x13 : Int) (I : IMem) (S : SH) : Prop :=
  bcase (decide (x13 < x12))
    (bolterlaw12_Addr_b4 again3 R b_5 b_5n b_5c x11 x11n x11c x12 x13 I S)
    (bolterlaw12_Addr_b7 R b_5 b_5n b_5c I S)
def bolterlaw12_Addr_b2 (R : Value → IMem → SH → Prop) (b_5 : Option Addr) (b_5n : Nat) (b_5c : Nat) (x11 : Option Addr) (x11n : Nat) (x11c : Nat) (x12 : Int) (x13 : Int) (I : IMem) (S : SH) : Prop :=
  ∃ (Inv : Nat → Option Addr → Nat → Nat → Option Addr → Nat → Nat → Int → Int → IMem → SH → Prop) (m : Nat), Inv m b_5 b_5n b_5c x11 x11n x11c x12 x13 I S ∧
    ∀ (m : Nat) (b_5 : Option Addr) (b_5n : Nat) (b_5c : Nat) (x11 : Option Addr) (x11n : Nat) (x11c : Nat) (x12 : Int) (x13 : Int) (J : IMem) (T : SH), I.le J → Inv m b_5 b_5n b_5c x11 x11n x11c x12 x13 J T →
      bolterlaw12_Addr_l3 (fun b_5 b_5n b_5c x11 x11n x11c x12 x13 I S => ∃ m', m' < m ∧ Inv m' b_5 b_5n b_5c x11 x11n x11c x12 x13 I S) R b_5 b_5n b_5c x11 x11n x11c x12 x13 J T
def bolterlaw12_Addr_b1 (R : Value → IMem → SH → Prop) (ns_1 : Option Addr) (ns_1n : Nat) (ns_1c : Nat) (b_5 : Option Addr) (b_5n : Nat) (b_5c : Nat) (I : IMem) (S : SH) : Prop :=
  bolterlaw12_Addr_b2 R b_5 b_5n b_5c ns_1 ns_1n ns_1c (ns_1n : Int) 0 I S
def bolterlaw12_Addr (R : Value → IMem → SH → Prop) (six_0 : Bool) (ns_1 : Option Addr) (ns_1n : Nat) (ns_1c : Nat) (I : IMem) (S : SH) : Prop :=
  (0 : Int) ≤ 4 ∧ (4 : Int) ≤ 4 ∧ (4 : Int) ≤ 9223372036854775807 ∧ (1 : Int) * 4 ≤ 281474976710656 ∧ ∀ b8 : Nat,
  bcase six_0
    ((0 : Int) ≤ 16 ∧ (16 : Int) ≤ 16 ∧ (16 : Int) ≤ 9223372036854775807 ∧ (1 : Int) * 16 ≤ 281474976710656 ∧ ∀ b10 : Nat,
    bolterlaw12_Addr_b1 R ns_1 ns_1n ns_1c (some ⟨b10, 0, none⟩) 16 16 I ((b10, .cells #[.int .u8 0, .int .u8 0, .int .u8 0, .int .u8 0, .int .u8 0, .int .u8 0, .int .u8 0, .int .u8 0, .int .u8 0, .int .u8 0, .int .u8 0, .int .u8 0, .int .u8 0, .int .u8 0, .int .u8 0, .int .u8 0] 5 (0, 0)) :: ((b8, .cells #[.int .u8 0, .int .u8 0, .int .u8 0, .int .u8 0] 5 (0, 0)) :: S)))
    (bolterlaw12_Addr_b1 R ns_1 ns_1n ns_1c (some ⟨b8, 0, none⟩) 4 4 I ((b8, .cells #[.int .u8 0, .int .u8 0, .int .u8 0, .int .u8 0] 5 (0, 0)) :: S))
theorem bolterlaw12_Addr_fn (R : Value → IMem → SH → Prop) (six_0 : Bool) (ns_1 : Option Addr) (ns_1n : Nat) (ns_1c : Nat) (I : IMem) (S : SH) (h : bolterlaw12_Addr R six_0 ns_1 ns_1n ns_1c I S) :
    Runs Tryd.prog 36 #[.bool six_0, .slice ns_1 ns_1n ns_1c] I S R := by
  refine Runs.of_wp (args := [.bool six_0, .slice ns_1 ns_1n ns_1c]) (c := bolterlaw12_Addr_code) Tryd.func36 (by kernel_rfl) (by kernel_rfl) ?_
  refine WP.cut 3 (fun l I S => asSl (l 1) fun ns_1 ns_1n ns_1c => asSl (l 5) fun b_5 b_5n b_5c => bolterlaw12_Addr_b1 R ns_1 ns_1n ns_1c b_5 b_5n b_5c I S) (cast (by kernel_rfl) h) ?_
  clear h
  intro l I S _ h
  obtain ⟨ns_1, ns_1n, ns_1c, e1, h⟩ := asSl_e h
  obtain ⟨b_5, b_5n, b_5c, e5, h⟩ := asSl_e h
  rw [upd_eta e1, upd_eta e5]
  refine WP.seqY (by kernel_rfl) (fun l I S => asSl (l 5) fun b_5 b_5n b_5c => bolterlaw12_Addr_b7 R b_5 b_5n b_5c I S) ?_ ?_
  ·
    refine WP.cut 1 (fun l I S => asSl (l 5) fun b_5 b_5n b_5c => asSl (l 11) fun x11 x11n x11c => asI .i64 (l 12) fun x12 => asI .i64 (l 13) fun x13 => bolterlaw12_Addr_b2 R b_5 b_5n b_5c x11 x11n x11c x12 x13 I S) (cast (by kernel_rfl) h) ?_
    clear h
    intro l I S _ h
    obtain ⟨b_5, b_5n, b_5c, e5, h⟩ := asSl_e h
    obtain ⟨x11, x11n, x11c, e11, h⟩ := asSl_e h
    obtain ⟨x12, e12, h⟩ := asI_e h
    obtain ⟨x13, e13, h⟩ := asI_e h
    rw [upd_eta e5, upd_eta e11, upd_eta e12, upd_eta e13]
    refine WP.block' (by kernel_rfl) ?_
    obtain ⟨Inv_again3, m_again3, h0, hr⟩ := h
    refine WP.loop' (by kernel_rfl) (fun m_again3 => fun l I S => asSl (l 5) fun b_5 b_5n b_5c => asSl (l 11) fun x11 x11n x11c => asI .i64 (l 12) fun x12 => asI .i64 (l 13) fun x13 => Inv_again3 m_again3 b_5 b_5n b_5c x11 x11n x11c x12 x13 I S) m_again3 (cast (by kernel_rfl) h0) ?_
    clear h0
    intro m_again3 l I S hle h
    obtain ⟨b_5, b_5n, b_5c, e5, h⟩ := asSl_e h
    obtain ⟨x11, x11n, x11c, e11, h⟩ := asSl_e h
    obtain ⟨x12, e12, h⟩ := asI_e h
    obtain ⟨x13, e13, h⟩ := asI_e h
    rw [upd_eta e5, upd_eta e11, upd_eta e12, upd_eta e13]
    have h := hr m_again3 b_5 b_5n b_5c x11 x11n x11c x12 x13 I S hle h
    clear hr hle
    refine WP.cut 2 (fun l I S => asSl (l 5) fun b_5 b_5n b_5c => asSl (l 11) fun x11 x11n x11c => asI .i64 (l 12) fun x12 => asI .i64 (l 13) fun x13 => bolterlaw12_Addr_b4 (fun b_5 b_5n b_5c x11 x11n x11c x12 x13 I S => ∃ m', m' < m_again3 ∧ Inv_again3 m' b_5 b_5n b_5c x11 x11n x11c x12 x13 I S) R b_5 b_5n b_5c x11 x11n x11c x12 x13 I S) (cast (by kernel_rfl) h) ?_
    clear h
    intro l I S _ h
    obtain ⟨b_5, b_5n, b_5c, e5, h⟩ := asSl_e h
    obtain ⟨x11, x11n, x11c, e11, h⟩ := asSl_e h
    obtain ⟨x12, e12, h⟩ := asI_e h
    obtain ⟨x13, e13, h⟩ := asI_e h
    rw [upd_eta e5, upd_eta e11, upd_eta e12, upd_eta e13]
    refine WP.seqY (by kernel_rfl) (fun l I S => asSl (l 5) fun b_5 b_5n b_5c => asSl (l 11) fun x11 x11n x11c => asI .i64 (l 12) fun x12 => asI .i64 (l 13) fun x13 => bolterlaw12_Addr_b6 (fun b_5 b_5n b_5c x11 x11n x11c x12 x13 I S => ∃ m', m' < m_again3 ∧ Inv_again3 m' b_5 b_5n b_5c x11 x11n x11c x12 x13 I S) R b_5 b_5n b_5c x11 x11n x11c x12 x13 I S) ?_ ?_
    ·
      refine WP.block' (by kernel_rfl) ?_
      refine WP.cut 2 (fun l I S => asSl (l 5) fun b_5 b_5n b_5c => asI .i64 (l 6) fun k_6 => asI .u8 (l 7) fun n_7 => asSl (l 11) fun x11 x11n x11c => asI .i64 (l 12) fun x12 => asI .i64 (l 13) fun x13 => asB (l 21) fun x21 => bolterlaw12_Addr_b5 (fun b_5 b_5n b_5c x11 x11n x11c x12 x13 I S => ∃ m', m' < m_again3 ∧ Inv_again3 m' b_5 b_5n b_5c x11 x11n x11c x12 x13 I S) R b_5 b_5n b_5c k_6 n_7 x11 x11n x11c x12 x13 x21 I S) (cast (by kernel_rfl) h) ?_
      clear h
      intro l I S _ h
      obtain ⟨b_5, b_5n, b_5c, e5, h⟩ := asSl_e h
      obtain ⟨k_6, e6, h⟩ := asI_e h
      obtain ⟨n_7, e7, h⟩ := asI_e h
      obtain ⟨x11, x11n, x11c, e11, h⟩ := asSl_e h
      obtain ⟨x12, e12, h⟩ := asI_e h
      obtain ⟨x13, e13, h⟩ := asI_e h
      obtain ⟨x21, e21, h⟩ := asB_e h
      rw [upd_eta e5, upd_eta e6, upd_eta e7, upd_eta e11, upd_eta e12, upd_eta e13, upd_eta e21]
      refine WP.cond' (by kernel_rfl) (by kernel_rfl) h ?_ ?_
      · clear h
        intro h
        exact WP.draw' (.take 0 (.take 1 (.take 2 (.take 3 (.take 4 (.take 5 (.take 6 (.take 8 (.take 9 (.step 7 (.take 10 (.step 11 (.take 12 (.step 13 .done)))))))))))))) [7, 11, 13] (by kernel_rfl) (by kernel_rfl) (by kernel_rfl) (by kernel_rfl) (by kernel_rfl) (cast (by kernel_rfl) h)
      · clear h
        intro h
        exact Pre.sound _ _ _ _ _ (cast (by kernel_rfl) h)
    · clear h
      intro l I S _ h
      obtain ⟨b_5, b_5n, b_5c, e5, h⟩ := asSl_e h
      obtain ⟨x11, x11n, x11c, e11, h⟩ := asSl_e h
      obtain ⟨x12, e12, h⟩ := asI_e h
      obtain ⟨x13, e13, h⟩ := asI_e h
      rw [upd_eta e5, upd_eta e11, upd_eta e12, upd_eta e13]
      exact Pre.sound _ _ _ _ _ (cast (by kernel_rfl) h)
  · clear h
    intro l I S _ h
    obtain ⟨b_5, b_5n, b_5c, e5, h⟩ := asSl_e h
    rw [upd_eta e5]
    exact Pre.sound _ _ _ _ _ (cast (by kernel_rfl) h)
/-! ### bolterlaw02_Words: function 26, bolter/bolterlaw02.Words -/
noncomputable def bolterlaw02_Words_code : Code := (Tryd.f26.body).getD .skip
def bolterlaw02_Words_b4 (R : Value → IMem → SH → Prop) (out_3 : Option Addr) (out_3n : Nat) (out_3c : Nat) (I : IMem) (S : SH) : Prop :=
  R (.slice out_3 out_3n out_3c) I S
def bolterlaw02_Words_l3 (again3 : Option Addr → Nat → Nat → Option Addr → Nat → Nat → Int → Int → IMem → SH → Prop) (R : Value → IMem → SH → Prop) (out_3 : Option Addr) (out_3n : Nat) (out_3c : Nat) (x7 : Option Addr) (x7n : Nat) (x7c : Nat) (x8 : Int) (x9 : Int) (I : IMem) (S : SH) : Prop :=
  bcase (decide (x9 < x8))
    (ptrP x7 fun x12 => (0 : Int) ≤ x9 ∧ x9 < (x7n : Int) ∧
    ∃ x13, Cell I S (x12.add (x9.toNat * 1)) (.int .u8 x13) ∧
    bcase (x9 == (12 : Int))
      (bolterlaw02_Words_b4 R out_3 out_3n out_3c I S)
      (∀ b16 : Nat,
      ptrP (some ⟨b16, 0, none⟩) fun x21 => (0 : Int) ≤ (x13.tmod (8 : Int)) ∧ (x13.tmod (8 : Int)) < (8 : Int) ∧
      ∃ x22, Cell I ((b16, .cells #[.string ⟨#[97]⟩, .string ⟨#[98]⟩, .string ⟨#[99]⟩, .string ⟨#[119, 119, 119]⟩, .string ⟨#[101, 120]⟩, .string ⟨#[111, 114, 103]⟩, .string ⟨#[42]⟩, .string ⟨#[114, 112, 122, 45, 105, 112]⟩] 9 (0, 0)) :: S) (x21.add ((x13.tmod (8 : Int)).toNat * 1)) (.string x22) ∧
      ∀ b23 : Nat,
      AppG 9 1 16 [.string ⟨#[]⟩] (some (.slice 9)) I ((b23, .cells #[.string x22] 9 (0, 0)) :: ((b16, .cells #[.string ⟨#[97]⟩, .string ⟨#[98]⟩, .string ⟨#[99]⟩, .string ⟨#[119, 119, 119]⟩, .string ⟨#[101, 120]⟩, .string ⟨#[111, 114, 103]⟩, .string ⟨#[42]⟩, .string ⟨#[114, 112, 122, 45, 105, 112]⟩] 9 (0, 0)) :: S)) (.slice out_3 out_3n out_3c) (.slice (some ⟨b23, 0, none⟩) 1 1) fun x24 x24n x24c S1 =>
      again3 x24 x24n x24c x7 x7n x7c x8 (IntKind.wrap .i64 (x9 + (1 : Int))) I S1))
    (bolterlaw02_Words_b4 R out_3 out_3n out_3c I S)
def bolterlaw02_Words_b2 (R : Value → IMem → SH → Prop) (out_3 : Option Addr) (out_3n : Nat) (out_3c : Nat) (x7 : Option Addr) (x7n : Nat) (x7c : Nat) (x8 : Int) (x9 : Int) (I : IMem) (S : SH) : Prop :=
  ∃ (Inv : Nat → Option Addr → Nat → Nat → Option Addr → Nat → Nat → Int → Int → IMem → SH → Prop) (m : Nat), Inv m out_3 out_3n out_3c x7 x7n x7c x8 x9 I S ∧
    ∀ (m : Nat) (out_3 : Option Addr) (out_3n : Nat) (out_3c : Nat) (x7 : Option Addr) (x7n : Nat) (x7c : Nat) (x8 : Int) (x9 : Int) (J : IMem) (T : SH), I.le J → Inv m out_3 out_3n out_3c x7 x7n x7c x8 x9 J T →
      bolterlaw02_Words_l3 (fun out_3 out_3n out_3c x7 x7n x7c x8 x9 I S => ∃ m', m' < m ∧ Inv m' out_3 out_3n out_3c x7 x7n x7c x8 x9 I S) R out_3 out_3n out_3c x7 x7n x7c x8 x9 J T
def bolterlaw02_Words_b1 (R : Value → IMem → SH → Prop) (ns_0 : Option Addr) (ns_0n : Nat) (ns_0c : Nat) (out_3 : Option Addr) (out_3n : Nat) (out_3c : Nat) (I : IMem) (S : SH) : Prop :=
  bolterlaw02_Words_b2 R out_3 out_3n out_3c ns_0 ns_0n ns_0c (ns_0n : Int) 0 I S
def bolterlaw02_Words (R : Value → IMem → SH → Prop) (ns_0 : Option Addr) (ns_0n : Nat) (ns_0c : Nat) (I : IMem) (S : SH) : Prop :=
  bolterlaw02_Words_b1 R ns_0 ns_0n ns_0c none 0 0 I S
theorem bolterlaw02_Words_fn (R : Value → IMem → SH → Prop) (ns_0 : Option Addr) (ns_0n : Nat) (ns_0c : Nat) (I : IMem) (S : SH) (h : bolterlaw02_Words R ns_0 ns_0n ns_0c I S) :
    Runs Tryd.prog 26 #[.slice ns_0 ns_0n ns_0c] I S R := by
  refine Runs.of_wp (args := [.slice ns_0 ns_0n ns_0c]) (c := bolterlaw02_Words_code) Tryd.func26 (by kernel_rfl) (by kernel_rfl) ?_
  refine WP.cut 2 (fun l I S => asSl (l 0) fun ns_0 ns_0n ns_0c => asSl (l 3) fun out_3 out_3n out_3c => bolterlaw02_Words_b1 R ns_0 ns_0n ns_0c out_3 out_3n out_3c I S) (cast (by kernel_rfl) h) ?_
  clear h
  intro l I S _ h
  obtain ⟨ns_0, ns_0n, ns_0c, e0, h⟩ := asSl_e h
  obtain ⟨out_3, out_3n, out_3c, e3, h⟩ := asSl_e h
  rw [upd_eta e0, upd_eta e3]
  refine WP.seqY (by kernel_rfl) (fun l I S => asSl (l 3) fun out_3 out_3n out_3c => bolterlaw02_Words_b4 R out_3 out_3n out_3c I S) ?_ ?_
  ·
    refine WP.cut 1 (fun l I S => asSl (l 3) fun out_3 out_3n out_3c => asSl (l 7) fun x7 x7n x7c => asI .i64 (l 8) fun x8 => asI .i64 (l 9) fun x9 => bolterlaw02_Words_b2 R out_3 out_3n out_3c x7 x7n x7c x8 x9 I S) (cast (by kernel_rfl) h) ?_
    clear h
    intro l I S _ h
    obtain ⟨out_3, out_3n, out_3c, e3, h⟩ := asSl_e h
    obtain ⟨x7, x7n, x7c, e7, h⟩ := asSl_e h
    obtain ⟨x8, e8, h⟩ := asI_e h
    obtain ⟨x9, e9, h⟩ := asI_e h
    rw [upd_eta e3, upd_eta e7, upd_eta e8, upd_eta e9]
    refine WP.block' (by kernel_rfl) ?_
    obtain ⟨Inv_again3, m_again3, h0, hr⟩ := h
    refine WP.loop' (by kernel_rfl) (fun m_again3 => fun l I S => asSl (l 3) fun out_3 out_3n out_3c => asSl (l 7) fun x7 x7n x7c => asI .i64 (l 8) fun x8 => asI .i64 (l 9) fun x9 => Inv_again3 m_again3 out_3 out_3n out_3c x7 x7n x7c x8 x9 I S) m_again3 (cast (by kernel_rfl) h0) ?_
    clear h0
    intro m_again3 l I S hle h
    obtain ⟨out_3, out_3n, out_3c, e3, h⟩ := asSl_e h
    obtain ⟨x7, x7n, x7c, e7, h⟩ := asSl_e h
    obtain ⟨x8, e8, h⟩ := asI_e h
    obtain ⟨x9, e9, h⟩ := asI_e h
    rw [upd_eta e3, upd_eta e7, upd_eta e8, upd_eta e9]
    have h := hr m_again3 out_3 out_3n out_3c x7 x7n x7c x8 x9 I S hle h
    clear hr hle
    exact Pre.sound _ _ _ _ _ (cast (by kernel_rfl) h)
  · clear h
    intro l I S _ h
    obtain ⟨out_3, out_3n, out_3c, e3, h⟩ := asSl_e h
    rw [upd_eta e3]
    exact Pre.sound _ _ _ _ _ (cast (by kernel_rfl) h)
/-! ### bolterlaw02_Name: function 27, bolter/bolterlaw02.Name -/
noncomputable def bolterlaw02_Name_code : Code := (Tryd.f27.body).getD .skip
def bolterlaw02_Name (R : Value → IMem → SH → Prop) (ns_0 : Option Addr) (ns_0n : Nat) (ns_0c : Nat) (I : IMem) (S : SH) : Prop :=
  Runs Tryd.prog 26 #[.slice ns_0 ns_0n ns_0c] I S fun v I1 S1 => ∃ x7 x7n x7c, v = .slice x7 x7n x7c ∧
  Runs Tryd.prog 25 #[.slice x7 x7n x7c] I1 S1 fun v' I1' S1' => ∃ x8_0 x8_1, v' = .tuple #[.string x8_0, .bool x8_1] ∧
  R (.string x8_0) I1' S1'
theorem bolterlaw02_Name_fn (R : Value → IMem → SH → Prop) (ns_0 : Option Addr) (ns_0n : Nat) (ns_0c : Nat) (I : IMem) (S : SH) (h : bolterlaw02_Name R ns_0 ns_0n ns_0c I S) :
    Runs Tryd.prog 27 #[.slice ns_0 ns_0n ns_0c] I S R := by
  refine Runs.of_wp (args := [.slice ns_0 ns_0n ns_0c]) (c := bolterlaw02_Name_code) Tryd.func27 (by kernel_rfl) (by kernel_rfl) ?_
  exact Pre.sound _ _ _ _ _ (cast (by kernel_rfl) h)
/-! ### name_Labels: function 23, bolter/name.Labels -/
noncomputable def name_Labels_code : Code := (Tryd.f23.body).getD .skip
def name_Labels_b8 (again4 : Option Addr → Nat → Nat → ByteArray → IMem → SH → Prop) (R : Value → IMem → SH → Prop) (out_4 : Option Addr) (out_4n : Nat) (out_4c : Nat) (s_5 : ByteArray) (k_6 : Int) (I : IMem) (S : SH) : Prop :=
  (0 : Int) ≤ (IntKind.wrap .i64 ((1 : Int) + k_6)) ∧ (IntKind.wrap .i64 ((1 : Int) + k_6)) ≤ ((s_5.size : Nat) : Int) ∧
  (0 : Int) ≤ (1 : Int) ∧ (1 : Int) ≤ (((IntKind.wrap .i64 ((1 : Int) + k_6)).toNat : Nat) : Int) ∧
  ∀ b40 : Nat,
  AppG 9 1 16 [.string ⟨#[]⟩] (some (.slice 9)) I ((b40, .cells #[.string (s_5.extract ((1 : Int).toNat) ((IntKind.wrap .i64 ((1 : Int) + k_6)).toNat))] 9 (0, 0)) :: S) (.slice out_4 out_4n out_4c) (.slice (some ⟨b40, 0, none⟩) 1 1) fun x41 x41n x41c S1 =>
  (0 : Int) ≤ (IntKind.wrap .i64 ((1 : Int) + k_6)) ∧ (IntKind.wrap .i64 ((1 : Int) + k_6)) ≤ ((s_5.size : Nat) : Int) ∧
  again4 x41 x41n x41c (s_5.extract ((IntKind.wrap .i64 ((1 : Int) + k_6)).toNat) s_5.size) I S1
def name_Labels_b7 (again4 : Option Addr → Nat → Nat → ByteArray → IMem → SH → Prop) (R : Value → IMem → SH → Prop) (out_4 : Option Addr) (out_4n : Nat) (out_4c : Nat) (s_5 : ByteArray) (k_6 : Int) (x34 : Bool) (I : IMem) (S : SH) : Prop :=
  bcase x34
    (R (.tuple #[.slice none 0 0, .bool false]) I S)
    (name_Labels_b8 again4 R out_4 out_4n out_4c s_5 k_6 I S)
def name_Labels_b6 (again4 : Option Addr → Nat → Nat → ByteArray → IMem → SH → Prop) (R : Value → IMem → SH → Prop) (out_4 : Option Addr) (out_4n : Nat) (out_4c : Nat) (s_5 : ByteArray) (k_6 : Int) (I : IMem) (S : SH) : Prop :=
  bcase (decide (k_6 < (1 : Int)))
    (name_Labels_b7 again4 R out_4 out_4n out_4c s_5 k_6 true I S)
    (bcase (decide (k_6 > (63 : Int)))
      (name_Labels_b7 again4 R out_4 out_4n out_4c s_5 k_6 true I S)
      (name_Labels_b7 again4 R out_4 out_4n out_4c s_5 k_6 (decide (k_6 ≥ (s_5.size : Int))) I S))
def name_Labels_b5 (again4 : Option Addr → Nat → Nat → ByteArray → IMem → SH → Prop) (R : Value → IMem → SH → Prop) (out_4 : Option Addr) (out_4n : Nat) (out_4c : Nat) (s_5 : ByteArray) (I : IMem) (S : SH) : Prop :=
  ∃ cx21 : UInt8, (0 : Int) ≤ (0 : Int) ∧ s_5[(0 : Int).toNat]? = some cx21 ∧
  name_Labels_b6 again4 R out_4 out_4n out_4c s_5 (IntKind.wrap .i64 (cx21.toNat : Int)) I S
def name_Labels_b9 (R : Value → IMem → SH → Prop) (out_4 : Option Addr) (out_4n : Nat) (out_4c : Nat) (I : IMem) (S : SH) : Prop :=
  R (.tuple #[.slice out_4 out_4n out_4c, .bool true]) I S
def name_Labels_l4 (again4 : Option Addr → Nat → Nat → ByteArray → IMem → SH → Prop) (R : Value → IMem → SH → Prop) (out_4 : Option Addr) (out_4n : Nat) (out_4c : Nat) (s_5 : ByteArray) (I : IMem) (S : SH) : Prop :=
  bcase (decide ((s_5.size : Int) > (0 : Int)))
    (name_Labels_b5 again4 R out_4 out_4n out_4c s_5 I S)
    (name_Labels_b9 R out_4 out_4n out_4c I S)
def name_Labels_b3 (R : Value → IMem → SH → Prop) (out_4 : Option Addr) (out_4n : Nat) (out_4c : Nat) (s_5 : ByteArray) (I : IMem) (S : SH) : Prop :=
  ∃ (Inv : Nat → Option Addr → Nat → Nat → ByteArray → IMem → SH → Prop) (m : Nat), Inv m out_4 out_4n out_4c s_5 I S ∧
    ∀ (m : Nat) (out_4 : Option Addr) (out_4n : Nat) (out_4c : Nat) (s_5 : ByteArray) (J : IMem) (T : SH), I.le J → Inv m out_4 out_4n out_4c s_5 J T →
      name_Labels_l4 (fun out_4 out_4n out_4c s_5 I S => ∃ m', m' < m ∧ Inv m' out_4 out_4n out_4c s_5 I S) R out_4 out_4n out_4c s_5 J T
def name_Labels_b2 (R : Value → IMem → SH → Prop) (out_4 : Option Addr) (out_4n : Nat) (out_4c : Nat) (s_5 : ByteArray) (x16 : Bool) (I : IMem) (S : SH) : Prop :=
  bcase x16
    (R (.tuple #[.slice none 0 0, .bool false]) I S)
    (name_Labels_b3 R out_4 out_4n out_4c s_5 I S)
def name_Labels_b1 (R : Value → IMem → SH → Prop) (out_4 : Option Addr) (out_4n : Nat) (out_4c : Nat) (s_5 : ByteArray) (I : IMem) (S : SH) : Prop :=
  bcase (decide ((s_5.size : Int) > (254 : Int)))
    (name_Labels_b2 R out_4 out_4n out_4c s_5 true I S)
    (Runs Tryd.prog 47 #[.string s_5] I S fun v I1 S1 => ∃ x14, v = .string x14 ∧
    name_Labels_b2 R out_4 out_4n out_4c s_5 (!(s_5.toList == x14.toList)) I1 S1)
def name_Labels (R : Value → IMem → SH → Prop) (n_0 : ByteArray) (I : IMem) (S : SH) : Prop :=
  name_Labels_b1 R none 0 0 n_0 I S
theorem name_Labels_fn (R : Value → IMem → SH → Prop) (n_0 : ByteArray) (I : IMem) (S : SH) (h : name_Labels R n_0 I S) :
    Runs Tryd.prog 23 #[.string n_0] I S R := by
  refine Runs.of_wp (args := [.string n_0]) (c := name_Labels_code) Tryd.func23 (by kernel_rfl) (by kernel_rfl) ?_
  refine WP.cut 3 (fun l I S => asSl (l 4) fun out_4 out_4n out_4c => asStr (l 5) fun s_5 => name_Labels_b1 R out_4 out_4n out_4c s_5 I S) (cast (by kernel_rfl) h) ?_
  clear h
  intro l I S _ h
  obtain ⟨out_4, out_4n, out_4c, e4, h⟩ := asSl_e h
  obtain ⟨s_5, e5, h⟩ := asStr_e h
  rw [upd_eta e4, upd_eta e5]
  refine WP.seqY (by kernel_rfl) (fun l I S => asSl (l 4) fun out_4 out_4n out_4c => asStr (l 5) fun s_5 => name_Labels_b3 R out_4 out_4n out_4c s_5 I S) ?_ ?_
  ·
    refine WP.cut 1 (fun l I S => asSl (l 4) fun out_4 out_4n out_4c => asStr (l 5) fun s_5 => asB (l 16) fun x16 => name_Labels_b2 R out_4 out_4n out_4c s_5 x16 I S) (cast (by kernel_rfl) h) ?_
    clear h
    intro l I S _ h
    obtain ⟨out_4, out_4n, out_4c, e4, h⟩ := asSl_e h
    obtain ⟨s_5, e5, h⟩ := asStr_e h
    obtain ⟨x16, e16, h⟩ := asB_e h
    rw [upd_eta e4, upd_eta e5, upd_eta e16]
    exact Pre.sound _ _ _ _ _ (cast (by kernel_rfl) h)
  · clear h
    intro l I S _ h
    obtain ⟨out_4, out_4n, out_4c, e4, h⟩ := asSl_e h
    obtain ⟨s_5, e5, h⟩ := asStr_e h
    rw [upd_eta e4, upd_eta e5]
    refine WP.seqY (by kernel_rfl) (fun l I S => asSl (l 4) fun out_4 out_4n out_4c => name_Labels_b9 R out_4 out_4n out_4c I S) ?_ ?_
    ·
      refine WP.block' (by kernel_rfl) ?_
      obtain ⟨Inv_again4, m_again4, h0, hr⟩ := h
      refine WP.loop' (by kernel_rfl) (fun m_again4 => fun l I S => asSl (l 4) fun out_4 out_4n out_4c => asStr (l 5) fun s_5 => Inv_again4 m_again4 out_4 out_4n out_4c s_5 I S) m_again4 (cast (by kernel_rfl) h0) ?_
      clear h0
      intro m_again4 l I S hle h
      obtain ⟨out_4, out_4n, out_4c, e4, h⟩ := asSl_e h
      obtain ⟨s_5, e5, h⟩ := asStr_e h
      rw [upd_eta e4, upd_eta e5]
      have h := hr m_again4 out_4 out_4n out_4c s_5 I S hle h
      clear hr hle
      refine WP.cut 1 (fun l I S => asSl (l 4) fun out_4 out_4n out_4c => asStr (l 5) fun s_5 => name_Labels_b5 (fun out_4 out_4n out_4c s_5 I S => ∃ m', m' < m_again4 ∧ Inv_again4 m' out_4 out_4n out_4c s_5 I S) R out_4 out_4n out_4c s_5 I S) (cast (by kernel_rfl) h) ?_
      clear h
      intro l I S _ h
      obtain ⟨out_4, out_4n, out_4c, e4, h⟩ := asSl_e h
      obtain ⟨s_5, e5, h⟩ := asStr_e h
      rw [upd_eta e4, upd_eta e5]
      refine WP.block' (by kernel_rfl) ?_
      refine WP.cut 1 (fun l I S => asSl (l 4) fun out_4 out_4n out_4c => asStr (l 5) fun s_5 => asI .i64 (l 6) fun k_6 => name_Labels_b6 (fun out_4 out_4n out_4c s_5 I S => ∃ m', m' < m_again4 ∧ Inv_again4 m' out_4 out_4n out_4c s_5 I S) R out_4 out_4n out_4c s_5 k_6 I S) (cast (by kernel_rfl) h) ?_
      clear h
      intro l I S _ h
      obtain ⟨out_4, out_4n, out_4c, e4, h⟩ := asSl_e h
      obtain ⟨s_5, e5, h⟩ := asStr_e h
      obtain ⟨k_6, e6, h⟩ := asI_e h
      rw [upd_eta e4, upd_eta e5, upd_eta e6]
      refine WP.seqY (by kernel_rfl) (fun l I S => asSl (l 4) fun out_4 out_4n out_4c => asStr (l 5) fun s_5 => asI .i64 (l 6) fun k_6 => name_Labels_b8 (fun out_4 out_4n out_4c s_5 I S => ∃ m', m' < m_again4 ∧ Inv_again4 m' out_4 out_4n out_4c s_5 I S) R out_4 out_4n out_4c s_5 k_6 I S) ?_ ?_
      ·
        refine WP.cut 1 (fun l I S => asSl (l 4) fun out_4 out_4n out_4c => asStr (l 5) fun s_5 => asI .i64 (l 6) fun k_6 => asB (l 34) fun x34 => name_Labels_b7 (fun out_4 out_4n out_4c s_5 I S => ∃ m', m' < m_again4 ∧ Inv_again4 m' out_4 out_4n out_4c s_5 I S) R out_4 out_4n out_4c s_5 k_6 x34 I S) (cast (by kernel_rfl) h) ?_
        clear h
        intro l I S _ h
        obtain ⟨out_4, out_4n, out_4c, e4, h⟩ := asSl_e h
        obtain ⟨s_5, e5, h⟩ := asStr_e h
        obtain ⟨k_6, e6, h⟩ := asI_e h
        obtain ⟨x34, e34, h⟩ := asB_e h
        rw [upd_eta e4, upd_eta e5, upd_eta e6, upd_eta e34]
        exact Pre.sound _ _ _ _ _ (cast (by kernel_rfl) h)
      · clear h
        intro l I S _ h
        obtain ⟨out_4, out_4n, out_4c, e4, h⟩ := asSl_e h
        obtain ⟨s_5, e5, h⟩ := asStr_e h
        obtain ⟨k_6, e6, h⟩ := asI_e h
        rw [upd_eta e4, upd_eta e5, upd_eta e6]
        exact Pre.sound _ _ _ _ _ (cast (by kernel_rfl) h)
    · clear h
      intro l I S _ h
      obtain ⟨out_4, out_4n, out_4c, e4, h⟩ := asSl_e h
      rw [upd_eta e4]
      exact Pre.sound _ _ _ _ _ (cast (by kernel_rfl) h)
/-! ### name_Make: function 25, bolter/name.Make -/
noncomputable def name_Make_code : Code := (Tryd.f25.body).getD .skip
def name_Make_b8 (again3 : Addr → Option Addr → Nat → Nat → Int → Int → IMem → SH → Prop) (R : Value → IMem → SH → Prop) (out_4 : Addr) (x7 : Option Addr) (x7n : Nat) (x7c : Nat) (x8 : Int) (x9 : Int) (I : IMem) (S : SH) : Prop :=
  again3 out_4 x7 x7n x7c x8 (IntKind.wrap .i64 (x9 + (1 : Int))) I S
def name_Make_b7 (again3 : Addr → Option Addr → Nat → Nat → Int → Int → IMem → SH → Prop) (R : Value → IMem → SH → Prop) (out_4 : Addr) (l_6 : ByteArray) (x7 : Option Addr) (x7n : Nat) (x7c : Nat) (x8 : Int) (x9 : Int) (I : IMem) (S : SH) : Prop :=
  Runs Tryd.prog 49 #[.pointer (some out_4), .int .u8 (IntKind.wrap .u8 (l_6.size : Int))] I S fun v I1 S1 => ∃ x32, v = x32 ∧
  Runs Tryd.prog 47 #[.string l_6] I1 S1 fun v' I1' S1' => ∃ x34, v' = .string x34 ∧
  Runs Tryd.prog 50 #[.pointer (some out_4), .string x34] I1' S1' fun v'' I1'' S1'' => ∃ x35_0 x35_1, v'' = .tuple #[.int .i64 x35_0, x35_1] ∧
  name_Make_b8 again3 R out_4 x7 x7n x7c x8 x9 I1'' S1''
def name_Make_b6 (again3 : Addr → Option Addr → Nat → Nat → Int → Int → IMem → SH → Prop) (R : Value → IMem → SH → Prop) (out_4 : Addr) (l_6 : ByteArray) (x7 : Option Addr) (x7n : Nat) (x7c : Nat) (x8 : Int) (x9 : Int) (x28 : Bool) (I : IMem) (S : SH) : Prop :=
  bcase x28
    (R (.tuple #[.string ⟨#[]⟩, .bool false]) I S)
    (name_Make_b7 again3 R out_4 l_6 x7 x7n x7c x8 x9 I S)
def name_Make_b5 (again3 : Addr → Option Addr → Nat → Nat → Int → Int → IMem → SH → Prop) (R : Value → IMem → SH → Prop) (out_4 : Addr) (l_6 : ByteArray) (x7 : Option Addr) (x7n : Nat) (x7c : Nat) (x8 : Int) (x9 : Int) (I : IMem) (S : SH) : Prop :=
  bcase (decide ((l_6.size : Int) < (1 : Int)))
    (name_Make_b6 again3 R out_4 l_6 x7 x7n x7c x8 x9 true I S)
    (bcase (decide ((l_6.size : Int) > (63 : Int)))
      (name_Make_b6 again3 R out_4 l_6 x7 x7n x7c x8 x9 true I S)
      (Runs Tryd.prog 48 #[.pointer (some out_4)] I S fun v I1 S1 => ∃ x22, v = .int .i64 x22 ∧
      name_Make_b6 again3 R out_4 l_6 x7 x7n x7c x8 x9 (decide ((IntKind.wrap .i64 ((IntKind.wrap .i64 (x22 + (1 : Int))) + (l_6.size : Int))) > (254 : Int))) I1 S1))
def name_Make_b4 (again3 : Addr → Option Addr → Nat → Nat → Int → Int → IMem → SH → Prop) (R : Value → IMem → SH → Prop) (out_4 : Addr) (x7 : Option Addr) (x7n : Nat) (x7c : Nat) (x8 : Int) (x9 : Int) (I : IMem) (S : SH) : Prop :=
  ptrP x7 fun x11 => (0 : Int) ≤ x9 ∧ x9 < (x7n : Int) ∧
  ∃ x12, Cell I S (x11.add (x9.toNat * 1)) (.string x12) ∧
  name_Make_b5 again3 R out_4 x12 x7 x7n x7c x8 x9 I S
def name_Make_b9 (R : Value → IMem → SH → Prop) (out_4 : Addr) (I : IMem) (S : SH) : Prop :=
  Runs Tryd.prog 51 #[.pointer (some out_4)] I S fun v I1 S1 => ∃ x37, v = .string x37 ∧
  R (.tuple #[.string x37, .bool true]) I1 S1
def name_Make_l3 (again3 : Addr → Option Addr → Nat → Nat → Int → Int → IMem → SH → Prop) (R : Value → IMem → SH → Prop) (out_4 : Addr) (x7 : Option Addr) (x7n : Nat) (x7c : Nat) (x8 : Int) (x9 : Int) (I : IMem) (S : SH) : Prop :=
  bcase (decide (x9 < x8))
    (name_Make_b4 again3 R out_4 x7 x7n x7c x8 x9 I S)
    (name_Make_b9 R out_4 I S)
def name_Make_b2 (R : Value → IMem → SH → Prop) (out_4 : Addr) (x7 : Option Addr) (x7n : Nat) (x7c : Nat) (x8 : Int) (x9 : Int) (I : IMem) (S : SH) : Prop :=
  ∃ (Inv : Nat → Addr → Option Addr → Nat → Nat → Int → Int → IMem → SH → Prop) (m : Nat), Inv m out_4 x7 x7n x7c x8 x9 I S ∧
    ∀ (m : Nat) (out_4 : Addr) (x7 : Option Addr) (x7n : Nat) (x7c : Nat) (x8 : Int) (x9 : Int) (J : IMem) (T : SH), I.le J → Inv m out_4 x7 x7n x7c x8 x9 J T →
      name_Make_l3 (fun out_4 x7 x7n x7c x8 x9 I S => ∃ m', m' < m ∧ Inv m' out_4 x7 x7n x7c x8 x9 I S) R out_4 x7 x7n x7c x8 x9 J T
def name_Make_b1 (R : Value → IMem → SH → Prop) (labels_0 : Option Addr) (labels_0n : Nat) (labels_0c : Nat) (out_4 : Addr) (I : IMem) (S : SH) : Prop :=
  name_Make_b2 R out_4 labels_0 labels_0n labels_0c (labels_0n : Int) 0 I S
def name_Make (R : Value → IMem → SH → Prop) (labels_0 : Option Addr) (labels_0n : Nat) (labels_0c : Nat) (I : IMem) (S : SH) : Prop :=
  ∀ b4 : Nat,
  name_Make_b1 R labels_0 labels_0n labels_0c ⟨b4, 0, none⟩ I ((b4, .cells #[.pointer none, .slice none 0 0] 95 (0, 0)) :: S)
theorem name_Make_fn (R : Value → IMem → SH → Prop) (labels_0 : Option Addr) (labels_0n : Nat) (labels_0c : Nat) (I : IMem) (S : SH) (h : name_Make R labels_0 labels_0n labels_0c I S) :
    Runs Tryd.prog 25 #[.slice labels_0 labels_0n labels_0c] I S R := by
  refine Runs.of_wp (args := [.slice labels_0 labels_0n labels_0c]) (c := name_Make_code) Tryd.func25 (by kernel_rfl) (by kernel_rfl) ?_
  refine WP.cut 2 (fun l I S => asSl (l 0) fun labels_0 labels_0n labels_0c => asAdr (l 4) fun out_4 => name_Make_b1 R labels_0 labels_0n labels_0c out_4 I S) (cast (by kernel_rfl) h) ?_
  clear h
  intro l I S _ h
  obtain ⟨labels_0, labels_0n, labels_0c, e0, h⟩ := asSl_e h
  obtain ⟨out_4, e4, h⟩ := asAdr_e h
  rw [upd_eta e0, upd_eta e4]
  refine WP.seqY (by kernel_rfl) (fun l I S => asAdr (l 4) fun out_4 => name_Make_b9 R out_4 I S) ?_ ?_
  ·
    refine WP.cut 1 (fun l I S => asAdr (l 4) fun out_4 => asSl (l 7) fun x7 x7n x7c => asI .i64 (l 8) fun x8 => asI .i64 (l 9) fun x9 => name_Make_b2 R out_4 x7 x7n x7c x8 x9 I S) (cast (by kernel_rfl) h) ?_
    clear h
    intro l I S _ h
    obtain ⟨out_4, e4, h⟩ := asAdr_e h
    obtain ⟨x7, x7n, x7c, e7, h⟩ := asSl_e h
    obtain ⟨x8, e8, h⟩ := asI_e h
    obtain ⟨x9, e9, h⟩ := asI_e h
    rw [upd_eta e4, upd_eta e7, upd_eta e8, upd_eta e9]
    refine WP.block' (by kernel_rfl) ?_
    obtain ⟨Inv_again3, m_again3, h0, hr⟩ := h
    refine WP.loop' (by kernel_rfl) (fun m_again3 => fun l I S => asAdr (l 4) fun out_4 => asSl (l 7) fun x7 x7n x7c => asI .i64 (l 8) fun x8 => asI .i64 (l 9) fun x9 => Inv_again3 m_again3 out_4 x7 x7n x7c x8 x9 I S) m_again3 (cast (by kernel_rfl) h0) ?_
    clear h0
    intro m_again3 l I S hle h
    obtain ⟨out_4, e4, h⟩ := asAdr_e h
    obtain ⟨x7, x7n, x7c, e7, h⟩ := asSl_e h
    obtain ⟨x8, e8, h⟩ := asI_e h
    obtain ⟨x9, e9, h⟩ := asI_e h
    rw [upd_eta e4, upd_eta e7, upd_eta e8, upd_eta e9]
    have h := hr m_again3 out_4 x7 x7n x7c x8 x9 I S hle h
    clear hr hle
    refine WP.cut 2 (fun l I S => asAdr (l 4) fun out_4 => asSl (l 7) fun x7 x7n x7c => asI .i64 (l 8) fun x8 => asI .i64 (l 9) fun x9 => name_Make_b4 (fun out_4 x7 x7n x7c x8 x9 I S => ∃ m', m' < m_again3 ∧ Inv_again3 m' out_4 x7 x7n x7c x8 x9 I S) R out_4 x7 x7n x7c x8 x9 I S) (cast (by kernel_rfl) h) ?_
    clear h
    intro l I S _ h
    obtain ⟨out_4, e4, h⟩ := asAdr_e h
    obtain ⟨x7, x7n, x7c, e7, h⟩ := asSl_e h
    obtain ⟨x8, e8, h⟩ := asI_e h
    obtain ⟨x9, e9, h⟩ := asI_e h
    rw [upd_eta e4, upd_eta e7, upd_eta e8, upd_eta e9]
    refine WP.seqY (by kernel_rfl) (fun l I S => asAdr (l 4) fun out_4 => asSl (l 7) fun x7 x7n x7c => asI .i64 (l 8) fun x8 => asI .i64 (l 9) fun x9 => name_Make_b8 (fun out_4 x7 x7n x7c x8 x9 I S => ∃ m', m' < m_again3 ∧ Inv_again3 m' out_4 x7 x7n x7c x8 x9 I S) R out_4 x7 x7n x7c x8 x9 I S) ?_ ?_
    ·
      refine WP.block' (by kernel_rfl) ?_
      refine WP.cut 1 (fun l I S => asAdr (l 4) fun out_4 => asStr (l 6) fun l_6 => asSl (l 7) fun x7 x7n x7c => asI .i64 (l 8) fun x8 => asI .i64 (l 9) fun x9 => name_Make_b5 (fun out_4 x7 x7n x7c x8 x9 I S => ∃ m', m' < m_again3 ∧ Inv_again3 m' out_4 x7 x7n x7c x8 x9 I S) R out_4 l_6 x7 x7n x7c x8 x9 I S) (cast (by kernel_rfl) h) ?_
      clear h
      intro l I S _ h
      obtain ⟨out_4, e4, h⟩ := asAdr_e h
      obtain ⟨l_6, e6, h⟩ := asStr_e h
      obtain ⟨x7, x7n, x7c, e7, h⟩ := asSl_e h
      obtain ⟨x8, e8, h⟩ := asI_e h
      obtain ⟨x9, e9, h⟩ := asI_e h
      rw [upd_eta e4, upd_eta e6, upd_eta e7, upd_eta e8, upd_eta e9]
      refine WP.seqY (by kernel_rfl) (fun l I S => asAdr (l 4) fun out_4 => asStr (l 6) fun l_6 => asSl (l 7) fun x7 x7n x7c => asI .i64 (l 8) fun x8 => asI .i64 (l 9) fun x9 => name_Make_b7 (fun out_4 x7 x7n x7c x8 x9 I S => ∃ m', m' < m_again3 ∧ Inv_again3 m' out_4 x7 x7n x7c x8 x9 I S) R out_4 l_6 x7 x7n x7c x8 x9 I S) ?_ ?_
      ·
        refine WP.cut 1 (fun l I S => asAdr (l 4) fun out_4 => asStr (l 6) fun l_6 => asSl (l 7) fun x7 x7n x7c => asI .i64 (l 8) fun x8 => asI .i64 (l 9) fun x9 => asB (l 28) fun x28 => name_Make_b6 (fun out_4 x7 x7n x7c x8 x9 I S => ∃ m', m' < m_again3 ∧ Inv_again3 m' out_4 x7 x7n x7c x8 x9 I S) R out_4 l_6 x7 x7n x7c x8 x9 x28 I S) (cast (by kernel_rfl) h) ?_
        clear h
        intro l I S _ h
        obtain ⟨out_4, e4, h⟩ := asAdr_e h
        obtain ⟨l_6, e6, h⟩ := asStr_e h
        obtain ⟨x7, x7n, x7c, e7, h⟩ := asSl_e h
        obtain ⟨x8, e8, h⟩ := asI_e h
        obtain ⟨x9, e9, h⟩ := asI_e h
        obtain ⟨x28, e28, h⟩ := asB_e h
        rw [upd_eta e4, upd_eta e6, upd_eta e7, upd_eta e8, upd_eta e9, upd_eta e28]
        exact Pre.sound _ _ _ _ _ (cast (by kernel_rfl) h)
      · clear h
        intro l I S _ h
        obtain ⟨out_4, e4, h⟩ := asAdr_e h
        obtain ⟨l_6, e6, h⟩ := asStr_e h
        obtain ⟨x7, x7n, x7c, e7, h⟩ := asSl_e h
        obtain ⟨x8, e8, h⟩ := asI_e h
        obtain ⟨x9, e9, h⟩ := asI_e h
        rw [upd_eta e4, upd_eta e6, upd_eta e7, upd_eta e8, upd_eta e9]
        exact Pre.sound _ _ _ _ _ (cast (by kernel_rfl) h)
    · clear h
      intro l I S _ h
      obtain ⟨out_4, e4, h⟩ := asAdr_e h
      obtain ⟨x7, x7n, x7c, e7, h⟩ := asSl_e h
      obtain ⟨x8, e8, h⟩ := asI_e h
      obtain ⟨x9, e9, h⟩ := asI_e h
      rw [upd_eta e4, upd_eta e7, upd_eta e8, upd_eta e9]
      exact Pre.sound _ _ _ _ _ (cast (by kernel_rfl) h)
  · clear h
    intro l I S _ h
    obtain ⟨out_4, e4, h⟩ := asAdr_e h
    rw [upd_eta e4]
    exact Pre.sound _ _ _ _ _ (cast (by kernel_rfl) h)
/-! ### name_May: function 28, bolter/name.May -/
noncomputable def name_May_code : Code := (Tryd.f28.body).getD .skip
def name_May (R : Value → IMem → SH → Prop) (n_0 : ByteArray) (I : IMem) (S : SH) : Prop :=
  Runs Tryd.prog 23 #[.string n_0] I S fun v I1 S1 => ∃ x7_0 x7_0n x7_0c x7_1, v = .tuple #[.slice x7_0 x7_0n x7_0c, .bool x7_1] ∧
  R (.bool x7_1) I1 S1
theorem name_May_fn (R : Value → IMem → SH → Prop) (n_0 : ByteArray) (I : IMem) (S : SH) (h : name_May R n_0 I S) :
    Runs Tryd.prog 28 #[.string n_0] I S R := by
  refine Runs.of_wp (args := [.string n_0]) (c := name_May_code) Tryd.func28 (by kernel_rfl) (by kernel_rfl) ?_
  exact Pre.sound _ _ _ _ _ (cast (by kernel_rfl) h)
/-! ### name_folded: function 47, bolter/name.folded -/
noncomputable def name_folded_code : Code := (Tryd.f47.body).getD .skip
def name_folded_b4 (R : Value → IMem → SH → Prop) (b_3 : Option Addr) (b_3n : Nat) (b_3c : Nat) (I : IMem) (S : SH) : Prop :=
  ∃ x22 : ByteArray, BytesAt I S b_3 b_3n x22 ∧
  R (.string x22) I S
def name_folded_l3 (again3 : Option Addr → Nat → Nat → Option Addr → Nat → Nat → Int → Int → IMem → SH → Prop) (R : Value → IMem → SH → Prop) (b_3 : Option Addr) (b_3n : Nat) (b_3c : Nat) (x8 : Option Addr) (x8n : Nat) (x8c : Nat) (x9 : Int) (x10 : Int) (I : IMem) (S : SH) : Prop :=
  bcase (decide (x10 < x9))
    (ptrP x8 fun x13 => (0 : Int) ≤ x10 ∧ x10 < (x8n : Int) ∧
    ∃ x14, Cell I S (x13.add (x10.toNat * 1)) (.int .u8 x14) ∧
    Runs Tryd.prog 69 #[.int .u8 x14] I S fun v I1 S1 => ∃ x18, v = .int .u8 x18 ∧
    ptrP b_3 fun x19 => (0 : Int) ≤ x10 ∧ x10 < (b_3n : Int) ∧
    StP S1 (x19.add (x10.toNat * 1)) [.int .u8 x18] fun S1' =>
    again3 b_3 b_3n b_3c x8 x8n x8c x9 (IntKind.wrap .i64 (x10 + (1 : Int))) I1 S1')
    (name_folded_b4 R b_3 b_3n b_3c I S)
def name_folded_b2 (R : Value → IMem → SH → Prop) (b_3 : Option Addr) (b_3n : Nat) (b_3c : Nat) (x8 : Option Addr) (x8n : Nat) (x8c : Nat) (x9 : Int) (x10 : Int) (I : IMem) (S : SH) : Prop :=
  ∃ (Inv : Nat → Option Addr → Nat → Nat → Option Addr → Nat → Nat → Int → Int → IMem → SH → Prop) (m : Nat), Inv m b_3 b_3n b_3c x8 x8n x8c x9 x10 I S ∧
    ∀ (m : Nat) (b_3 : Option Addr) (b_3n : Nat) (b_3c : Nat) (x8 : Option Addr) (x8n : Nat) (x8c : Nat) (x9 : Int) (x10 : Int) (J : IMem) (T : SH), I.le J → Inv m b_3 b_3n b_3c x8 x8n x8c x9 x10 J T →
      name_folded_l3 (fun b_3 b_3n b_3c x8 x8n x8c x9 x10 I S => ∃ m', m' < m ∧ Inv m' b_3 b_3n b_3c x8 x8n x8c x9 x10 I S) R b_3 b_3n b_3c x8 x8n x8c x9 x10 J T
def name_folded_b1 (R : Value → IMem → SH → Prop) (b_3 : Option Addr) (b_3n : Nat) (b_3c : Nat) (I : IMem) (S : SH) : Prop :=
  name_folded_b2 R b_3 b_3n b_3c b_3 b_3n b_3c (b_3n : Int) 0 I S
def name_folded (R : Value → IMem → SH → Prop) (s_0 : ByteArray) (I : IMem) (S : SH) : Prop :=
  s_0.size ≤ maxLen ∧ ∀ b7 c7 : Nat, s_0.size ≤ c7 → c7 ≤ maxLen →
  name_folded_b1 R (some ⟨b7, 0, none⟩) s_0.size c7 I ((b7, .cells (byteCells s_0 ++ repV (c7 - s_0.size) [.int .u8 0]).toArray 5 (c7, c7 + 1)) :: S)
theorem name_folded_fn (R : Value → IMem → SH → Prop) (s_0 : ByteArray) (I : IMem) (S : SH) (h : name_folded R s_0 I S) :
    Runs Tryd.prog 47 #[.string s_0] I S R := by
  refine Runs.of_wp (args := [.string s_0]) (c := name_folded_code) Tryd.func47 (by kernel_rfl) (by kernel_rfl) ?_
  refine WP.cut 2 (fun l I S => asSl (l 3) fun b_3 b_3n b_3c => name_folded_b1 R b_3 b_3n b_3c I S) (cast (by kernel_rfl) h) ?_
  clear h
  intro l I S _ h
  obtain ⟨b_3, b_3n, b_3c, e3, h⟩ := asSl_e h
  rw [upd_eta e3]
  refine WP.seqY (by kernel_rfl) (fun l I S => asSl (l 3) fun b_3 b_3n b_3c => name_folded_b4 R b_3 b_3n b_3c I S) ?_ ?_
  ·
    refine WP.cut 1 (fun l I S => asSl (l 3) fun b_3 b_3n b_3c => asSl (l 8) fun x8 x8n x8c => asI .i64 (l 9) fun x9 => asI .i64 (l 10) fun x10 => name_folded_b2 R b_3 b_3n b_3c x8 x8n x8c x9 x10 I S) (cast (by kernel_rfl) h) ?_
    clear h
    intro l I S _ h
    obtain ⟨b_3, b_3n, b_3c, e3, h⟩ := asSl_e h
    obtain ⟨x8, x8n, x8c, e8, h⟩ := asSl_e h
    obtain ⟨x9, e9, h⟩ := asI_e h
    obtain ⟨x10, e10, h⟩ := asI_e h
    rw [upd_eta e3, upd_eta e8, upd_eta e9, upd_eta e10]
    refine WP.block' (by kernel_rfl) ?_
    obtain ⟨Inv_again3, m_again3, h0, hr⟩ := h
    refine WP.loop' (by kernel_rfl) (fun m_again3 => fun l I S => asSl (l 3) fun b_3 b_3n b_3c => asSl (l 8) fun x8 x8n x8c => asI .i64 (l 9) fun x9 => asI .i64 (l 10) fun x10 => Inv_again3 m_again3 b_3 b_3n b_3c x8 x8n x8c x9 x10 I S) m_again3 (cast (by kernel_rfl) h0) ?_
    clear h0
    intro m_again3 l I S hle h
    obtain ⟨b_3, b_3n, b_3c, e3, h⟩ := asSl_e h
    obtain ⟨x8, x8n, x8c, e8, h⟩ := asSl_e h
    obtain ⟨x9, e9, h⟩ := asI_e h
    obtain ⟨x10, e10, h⟩ := asI_e h
    rw [upd_eta e3, upd_eta e8, upd_eta e9, upd_eta e10]
    have h := hr m_again3 b_3 b_3n b_3c x8 x8n x8c x9 x10 I S hle h
    clear hr hle
    exact Pre.sound _ _ _ _ _ (cast (by kernel_rfl) h)
  · clear h
    intro l I S _ h
    obtain ⟨b_3, b_3n, b_3c, e3, h⟩ := asSl_e h
    rw [upd_eta e3]
    exact Pre.sound _ _ _ _ _ (cast (by kernel_rfl) h)
/-! ### strings_Builder_Len: function 48, (*strings.Builder).Len -/
noncomputable def strings_Builder_Len_code : Code := (Tryd.f48.body).getD .skip
def strings_Builder_Len (R : Value → IMem → SH → Prop) (b_0 : Option Addr) (I : IMem) (S : SH) : Prop :=
  ptrP b_0 fun x4 =>
  ∃ x6 x6n x6c, Cell I S (x4.add 1) (.slice x6 x6n x6c) ∧
  R (.int .i64 (x6n : Int)) I S
theorem strings_Builder_Len_fn (R : Value → IMem → SH → Prop) (b_0 : Option Addr) (I : IMem) (S : SH) (h : strings_Builder_Len R b_0 I S) :
    Runs Tryd.prog 48 #[.pointer b_0] I S R := by
  refine Runs.of_wp (args := [.pointer b_0]) (c := strings_Builder_Len_code) Tryd.func48 (by kernel_rfl) (by kernel_rfl) ?_
  exact Pre.sound _ _ _ _ _ (cast (by kernel_rfl) h)
/-! ### strings_Builder_WriteByte: function 49, (*strings.Builder).WriteByte -/
noncomputable def strings_Builder_WriteByte_code : Code := (Tryd.f49.body).getD .skip
def strings_Builder_WriteByte (R : Value → IMem → SH → Prop) (b_0 : Option Addr) (c_1 : Int) (I : IMem) (S : SH) : Prop :=
  Runs Tryd.prog 70 #[.pointer b_0] I S fun v I1 S1 => v = .tuple #[] ∧
  ptrP b_0 fun x9 =>
  ∃ x11 x11n x11c, Cell I1 S1 (x9.add 1) (.slice x11 x11n x11c) ∧
  ∀ b13 : Nat,
  AppG 5 1 1 [.int .u8 0] (some (.slice 5)) I1 ((b13, .cells #[.int .u8 c_1] 5 (0, 0)) :: S1) (.slice x11 x11n x11c) (.slice (some ⟨b13, 0, none⟩) 1 1) fun x14 x14n x14c S1' =>
  ptrP b_0 fun x15 =>
  StP S1' (x15.add 1) [.slice x14 x14n x14c] fun S1'' =>
  R .nilIface I1 S1''
theorem strings_Builder_WriteByte_fn (R : Value → IMem → SH → Prop) (b_0 : Option Addr) (c_1 : Int) (I : IMem) (S : SH) (h : strings_Builder_WriteByte R b_0 c_1 I S) :
    Runs Tryd.prog 49 #[.pointer b_0, .int .u8 c_1] I S R := by
  refine Runs.of_wp (args := [.pointer b_0, .int .u8 c_1]) (c := strings_Builder_WriteByte_code) Tryd.func49 (by kernel_rfl) (by kernel_rfl) ?_
  exact Pre.sound _ _ _ _ _ (cast (by kernel_rfl) h)
/-! ### strings_Builder_WriteString: function 50, (*strings.Builder).WriteString -/
noncomputable def strings_Builder_WriteString_code : Code := (Tryd.f50.body).getD .skip
def strings_Builder_WriteString (R : Value → IMem → SH → Prop) (b_0 : Option Addr) (s_1 : ByteArray) (I : IMem) (S : SH) : Prop :=
  Runs Tryd.prog 70 #[.pointer b_0] I S fun v I1 S1 => v = .tuple #[] ∧
  ptrP b_0 fun x10 =>
  ∃ x12 x12n x12c, Cell I1 S1 (x10.add 1) (.slice x12 x12n x12c) ∧
  AppG 5 1 1 [.int .u8 0] (some .string) I1 S1 (.slice x12 x12n x12c) (.string s_1) fun x14 x14n x14c S1' =>
  ptrP b_0 fun x15 =>
  StP S1' (x15.add 1) [.slice x14 x14n x14c] fun S1'' =>
  R (.tuple #[.int .i64 (s_1.size : Int), .nilIface]) I1 S1''
theorem strings_Builder_WriteString_fn (R : Value → IMem → SH → Prop) (b_0 : Option Addr) (s_1 : ByteArray) (I : IMem) (S : SH) (h : strings_Builder_WriteString R b_0 s_1 I S) :
    Runs Tryd.prog 50 #[.pointer b_0, .string s_1] I S R := by
  refine Runs.of_wp (args := [.pointer b_0, .string s_1]) (c := strings_Builder_WriteString_code) Tryd.func50 (by kernel_rfl) (by kernel_rfl) ?_
  exact Pre.sound _ _ _ _ _ (cast (by kernel_rfl) h)
/-! ### strings_Builder_String: function 51, (*strings.Builder).String -/
noncomputable def strings_Builder_String_code : Code := (Tryd.f51.body).getD .skip
def strings_Builder_String_b2 (R : Value → IMem → SH → Prop) (x2 : ByteArray) (I : IMem) (S : SH) : Prop :=
  R (.string x2) I S
def strings_Builder_String_b1 (R : Value → IMem → SH → Prop) (b_0 : Option Addr) (I : IMem) (S : SH) : Prop :=
  ptrP b_0 fun x4 =>
  ∃ x6 x6n x6c, Cell I S (x4.add 1) (.slice x6 x6n x6c) ∧
  ((x6 : Option Addr).isSome = true → x6c ≠ 0) ∧
  ptrP b_0 fun x9 =>
  ∃ x11 x11n x11c, Cell I S (x9.add 1) (.slice x11 x11n x11c) ∧
  UsP Tryd.prog 5 I S x6 (x11n : Int) fun x13 S1 =>
  strings_Builder_String_b2 R x13 I S1
def strings_Builder_String (R : Value → IMem → SH → Prop) (b_0 : Option Addr) (I : IMem) (S : SH) : Prop :=
  strings_Builder_String_b1 R b_0 I S
theorem strings_Builder_String_fn (R : Value → IMem → SH → Prop) (b_0 : Option Addr) (I : IMem) (S : SH) (h : strings_Builder_String R b_0 I S) :
    Runs Tryd.prog 51 #[.pointer b_0] I S R := by
  refine Runs.of_wp (args := [.pointer b_0]) (c := strings_Builder_String_code) Tryd.func51 (by kernel_rfl) (by kernel_rfl) ?_
  refine WP.cut 1 (fun l I S => asPtr (l 0) fun b_0 => strings_Builder_String_b1 R b_0 I S) (cast (by kernel_rfl) h) ?_
  clear h
  intro l I S _ h
  obtain ⟨b_0, e0, h⟩ := asPtr_e h
  rw [upd_eta e0]
  refine WP.seqY (by kernel_rfl) (fun l I S => asStr (l 2) fun x2 => strings_Builder_String_b2 R x2 I S) ?_ ?_
  ·
    exact WP.draw' (.take 0 (.take 1 (.take 2 (.take 3 (.take 4 (.take 5 (.take 6 (.take 7 (.take 8 (.take 9 (.step 10 (.take 11 .done)))))))))))) [10] (by kernel_rfl) (by kernel_rfl) (by kernel_rfl) (by kernel_rfl) (by kernel_rfl) (cast (by kernel_rfl) h)
  · clear h
    intro l I S _ h
    obtain ⟨x2, e2, h⟩ := asStr_e h
    rw [upd_eta e2]
    exact Pre.sound _ _ _ _ _ (cast (by kernel_rfl) h)
/-! ### name_Fold: function 69, bolter/name.Fold -/
noncomputable def name_Fold_code : Code := (Tryd.f69.body).getD .skip
def name_Fold_b3 (R : Value → IMem → SH → Prop) (c_0 : Int) (I : IMem) (S : SH) : Prop :=
  R (.int .u8 c_0) I S
def name_Fold_b2 (R : Value → IMem → SH → Prop) (c_0 : Int) (x8 : Bool) (I : IMem) (S : SH) : Prop :=
  bcase x8
    (R (.int .u8 (IntKind.wrap .u8 ((IntKind.wrap .u8 (c_0 + (97 : Int))) - (65 : Int)))) I S)
    (name_Fold_b3 R c_0 I S)
def name_Fold_b1 (R : Value → IMem → SH → Prop) (c_0 : Int) (I : IMem) (S : SH) : Prop :=
  bcase (decide (c_0 ≥ (65 : Int)))
    (name_Fold_b2 R c_0 (decide (c_0 ≤ (90 : Int))) I S)
    (name_Fold_b2 R c_0 false I S)
def name_Fold (R : Value → IMem → SH → Prop) (c_0 : Int) (I : IMem) (S : SH) : Prop :=
  name_Fold_b1 R c_0 I S
theorem name_Fold_fn (R : Value → IMem → SH → Prop) (c_0 : Int) (I : IMem) (S : SH) (h : name_Fold R c_0 I S) :
    Runs Tryd.prog 69 #[.int .u8 c_0] I S R := by
  refine Runs.of_wp (args := [.int .u8 c_0]) (c := name_Fold_code) Tryd.func69 (by kernel_rfl) (by kernel_rfl) ?_
  refine WP.cut 1 (fun l I S => asI .u8 (l 0) fun c_0 => name_Fold_b1 R c_0 I S) (cast (by kernel_rfl) h) ?_
  clear h
  intro l I S _ h
  obtain ⟨c_0, e0, h⟩ := asI_e h
  rw [upd_eta e0]
  refine WP.seqY (by kernel_rfl) (fun l I S => asI .u8 (l 0) fun c_0 => name_Fold_b3 R c_0 I S) ?_ ?_
  ·
    refine WP.cut 1 (fun l I S => asI .u8 (l 0) fun c_0 => asB (l 8) fun x8 => name_Fold_b2 R c_0 x8 I S) (cast (by kernel_rfl) h) ?_
    clear h
    intro l I S _ h
    obtain ⟨c_0, e0, h⟩ := asI_e h
    obtain ⟨x8, e8, h⟩ := asB_e h
    rw [upd_eta e0, upd_eta e8]
    exact Pre.sound _ _ _ _ _ (cast (by kernel_rfl) h)
  · clear h
    intro l I S _ h
    obtain ⟨c_0, e0, h⟩ := asI_e h
    rw [upd_eta e0]
    exact Pre.sound _ _ _ _ _ (cast (by kernel_rfl) h)
/-! ### strings_Builder_copyCheck: function 70, (*strings.Builder).copyCheck -/
noncomputable def strings_Builder_copyCheck_code : Code := (Tryd.f70.body).getD .skip
def strings_Builder_copyCheck (R : Value → IMem → SH → Prop) (b_0 : Addr) (I : IMem) (S : SH) : Prop :=
  ∃ x5, Cell I S b_0 (.pointer x5) ∧
  bcase ((x5 : Option Addr).isNone)
    (∃ csx9 ex9, BlkAt I S b_0.block csx9 ex9 ∧ b_0.off < csx9.size ∧
    RunsX Tryd.prog 81 #[.pointer (some b_0)] I S fun v I1 S1 => ∃ x10, v = .pointer x10 ∧
    ptrP x10 fun x11 => ∃ csx11 ex11, BlkAt I1 S1 x11.block csx11 ex11 ∧ liesAt Tryd.prog (Program.depth Tryd.prog) ex11 (csx11.size / Program.cellsOf Tryd.prog ex11) x11.off 95 1 = true ∧
    StP S1 b_0 [.pointer (some x11)] fun S1' =>
    R (.tuple #[]) I1 S1')
    (∃ x17, Cell I S b_0 (.pointer x17) ∧
    (x17 : Option Addr) = some b_0 ∧
    R (.tuple #[]) I S)
theorem strings_Builder_copyCheck_fn (R : Value → IMem → SH → Prop) (b_0 : Addr) (I : IMem) (S : SH) (h : strings_Builder_copyCheck R b_0 I S) :
    Runs Tryd.prog 70 #[.pointer (some b_0)] I S R := by
  refine Runs.of_wp (args := [.pointer (some b_0)]) (c := strings_Builder_copyCheck_code) Tryd.func70 (by kernel_rfl) (by kernel_rfl) ?_
  exact Pre.sound _ _ _ _ _ (cast (by kernel_rfl) h)
end Go.Proofs.YtkagfmlaolmdnaaDoor
