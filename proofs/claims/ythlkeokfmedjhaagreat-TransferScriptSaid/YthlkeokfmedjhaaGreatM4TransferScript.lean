import Derived.Test.YthlkeokfmedjhaaGreatProg
import Derived.Test.YthlkeokfmedjhaaGreatM1TransferScript
import Derived.Test.YthlkeokfmedjhaaGreatM2TransferScript
import Derived.Test.YthlkeokfmedjhaaGreatM3TransferScript
set_option linter.unusedVariables false
set_option maxRecDepth 8000
set_option maxHeartbeats 2000000
namespace Go.Proofs.YthlkeokfmedjhaaGreat
open Go.Px
/-! ### apply_Deltas: function 49, bolter/apply.Deltas -/
noncomputable def apply_Deltas_code : Code := (Tryz.f49.body).getD .skip
def apply_Deltas_b4 (R : Value → IMem → SH → Prop) (origin_0 : ByteArray) (out_8 : Option Addr) (out_8n : Nat) (out_8c : Nat) (I : IMem) (S : SH) : Prop :=
  Runs Tryz.prog 64 #[.string origin_0, .slice out_8 out_8n out_8c] I S fun v I1 S1 => ∃ x34_0 x34_0n x34_0c x34_1, v = .tuple #[.slice x34_0 x34_0n x34_0c, x34_1] ∧
  R (.tuple #[.slice x34_0 x34_0n x34_0c, x34_1]) I1 S1
def apply_Deltas_l3 (again3 : ByteArray → Option Addr → Nat → Nat → Option Addr → Nat → Nat → Int → Int → IMem → SH → Prop) (R : Value → IMem → SH → Prop) (origin_0 : ByteArray) (out_8 : Option Addr) (out_8n : Nat) (out_8c : Nat) (x15 : Option Addr) (x15n : Nat) (x15c : Nat) (x16 : Int) (x17 : Int) (I : IMem) (S : SH) : Prop :=
  bcase (decide (x17 < x16))
    (ptrP x15 fun x19 => (0 : Int) ≤ x17 ∧ x17 < (x15n : Int) ∧
    ∃ x20_0, Cell I S (x19.add (x17.toNat * 10)) (.string x20_0) ∧
    ∃ x20_1, Cell I S ((x19.add (x17.toNat * 10)).add 1) (.int .u16 x20_1) ∧
    ∃ x20_2, Cell I S ((x19.add (x17.toNat * 10)).add 2) (.int .u32 x20_2) ∧
    ∃ x20_3, Cell I S ((x19.add (x17.toNat * 10)).add 3) (.string x20_3) ∧
    ∃ x20_4, Cell I S ((x19.add (x17.toNat * 10)).add 4) (.string x20_4) ∧
    ∃ x20_5, Cell I S ((x19.add (x17.toNat * 10)).add 5) (.int .u16 x20_5) ∧
    ∃ x20_6, Cell I S ((x19.add (x17.toNat * 10)).add 6) (.int .u32 x20_6) ∧
    ∃ x20_7, Cell I S ((x19.add (x17.toNat * 10)).add 7) (.string x20_7) ∧
    ∃ x20_8 x20_8n x20_8c, Cell I S ((x19.add (x17.toNat * 10)).add 8) (.slice x20_8 x20_8n x20_8c) ∧
    ∃ x20_9 x20_9n x20_9c, Cell I S ((x19.add (x17.toNat * 10)).add 9) (.slice x20_9 x20_9n x20_9c) ∧
    ∀ b10 : Nat,
    StP ((b10, .cells #[.string ⟨#[]⟩, .int .u16 0, .int .u32 0, .string ⟨#[]⟩, .string ⟨#[]⟩, .int .u16 0, .int .u32 0, .string ⟨#[]⟩, .slice none 0 0, .slice none 0 0] 131 (0, 0)) :: S) ⟨b10, 0, none⟩ [.string x20_0, .int .u16 x20_1, .int .u32 x20_2, .string x20_3, .string x20_4, .int .u16 x20_5, .int .u32 x20_6, .string x20_7, .slice x20_8 x20_8n x20_8c, .slice x20_9 x20_9n x20_9c] fun S1 =>
    ∃ x23_0, Cell I S1 ⟨b10, 0, none⟩ (.string x23_0) ∧
    ∃ x23_1, Cell I S1 ⟨b10, 1, none⟩ (.int .u16 x23_1) ∧
    ∃ x23_2, Cell I S1 ⟨b10, 2, none⟩ (.int .u32 x23_2) ∧
    ∃ x23_3, Cell I S1 ⟨b10, 3, none⟩ (.string x23_3) ∧
    ∃ x23_4, Cell I S1 ⟨b10, 4, none⟩ (.string x23_4) ∧
    ∃ x23_5, Cell I S1 ⟨b10, 5, none⟩ (.int .u16 x23_5) ∧
    ∃ x23_6, Cell I S1 ⟨b10, 6, none⟩ (.int .u32 x23_6) ∧
    ∃ x23_7, Cell I S1 ⟨b10, 7, none⟩ (.string x23_7) ∧
    ∃ x23_8 x23_8n x23_8c, Cell I S1 ⟨b10, 8, none⟩ (.slice x23_8 x23_8n x23_8c) ∧
    ∃ x23_9 x23_9n x23_9c, Cell I S1 ⟨b10, 9, none⟩ (.slice x23_9 x23_9n x23_9c) ∧
    Runs Tryz.prog 68 #[.slice out_8 out_8n out_8c, .agg #[.string x23_0, .int .u16 x23_1, .int .u32 x23_2, .string x23_3, .string x23_4, .int .u16 x23_5, .int .u32 x23_6, .string x23_7, .slice x23_8 x23_8n x23_8c, .slice x23_9 x23_9n x23_9c]] I S1 fun v I1 S1' => ∃ x24_0 x24_0n x24_0c x24_1, v = .tuple #[.slice x24_0 x24_0n x24_0c, x24_1] ∧
    ∃ nl, isNilI x24_1 = some nl ∧
    bcase (!nl)
      (R (.tuple #[.slice none 0 0, x24_1]) I1 S1')
      (again3 origin_0 x24_0 x24_0n x24_0c x15 x15n x15c x16 (IntKind.wrap .i64 (x17 + (1 : Int))) I1 S1'))
    (apply_Deltas_b4 R origin_0 out_8 out_8n out_8c I S)
def apply_Deltas_b2 (R : Value → IMem → SH → Prop) (origin_0 : ByteArray) (out_8 : Option Addr) (out_8n : Nat) (out_8c : Nat) (x15 : Option Addr) (x15n : Nat) (x15c : Nat) (x16 : Int) (x17 : Int) (I : IMem) (S : SH) : Prop :=
  ∃ (Inv : Nat → ByteArray → Option Addr → Nat → Nat → Option Addr → Nat → Nat → Int → Int → IMem → SH → Prop) (m : Nat), Inv m origin_0 out_8 out_8n out_8c x15 x15n x15c x16 x17 I S ∧
    ∀ (m : Nat) (origin_0 : ByteArray) (out_8 : Option Addr) (out_8n : Nat) (out_8c : Nat) (x15 : Option Addr) (x15n : Nat) (x15c : Nat) (x16 : Int) (x17 : Int) (J : IMem) (T : SH), I.le J → Inv m origin_0 out_8 out_8n out_8c x15 x15n x15c x16 x17 J T →
      apply_Deltas_l3 (fun origin_0 out_8 out_8n out_8c x15 x15n x15c x16 x17 I S => ∃ m', m' < m ∧ Inv m' origin_0 out_8 out_8n out_8c x15 x15n x15c x16 x17 I S) R origin_0 out_8 out_8n out_8c x15 x15n x15c x16 x17 J T
def apply_Deltas_b1 (R : Value → IMem → SH → Prop) (origin_0 : ByteArray) (ds_2 : Option Addr) (ds_2n : Nat) (ds_2c : Nat) (out_8 : Option Addr) (out_8n : Nat) (out_8c : Nat) (I : IMem) (S : SH) : Prop :=
  apply_Deltas_b2 R origin_0 out_8 out_8n out_8c ds_2 ds_2n ds_2c (ds_2n : Int) 0 I S
def apply_Deltas (R : Value → IMem → SH → Prop) (origin_0 : ByteArray) (z_1 : Option Addr) (z_1n : Nat) (z_1c : Nat) (ds_2 : Option Addr) (ds_2n : Nat) (ds_2c : Nat) (I : IMem) (S : SH) : Prop :=
  Runs Tryz.prog 67 #[.slice z_1 z_1n z_1c] I S fun v I1 S1 => ∃ x14 x14n x14c, v = .slice x14 x14n x14c ∧
  apply_Deltas_b1 R origin_0 ds_2 ds_2n ds_2c x14 x14n x14c I1 S1
theorem apply_Deltas_fn (R : Value → IMem → SH → Prop) (origin_0 : ByteArray) (z_1 : Option Addr) (z_1n : Nat) (z_1c : Nat) (ds_2 : Option Addr) (ds_2n : Nat) (ds_2c : Nat) (I : IMem) (S : SH) (h : apply_Deltas R origin_0 z_1 z_1n z_1c ds_2 ds_2n ds_2c I S) :
    Runs Tryz.prog 49 #[.string origin_0, .slice z_1 z_1n z_1c, .slice ds_2 ds_2n ds_2c] I S R := by
  refine Runs.of_wp (args := [.string origin_0, .slice z_1 z_1n z_1c, .slice ds_2 ds_2n ds_2c]) (c := apply_Deltas_code) Tryz.func49 (by kernel_rfl) (by kernel_rfl) ?_
  refine WP.cut 2 (fun l I S => asStr (l 0) fun origin_0 => asSl (l 2) fun ds_2 ds_2n ds_2c => asSl (l 8) fun out_8 out_8n out_8c => apply_Deltas_b1 R origin_0 ds_2 ds_2n ds_2c out_8 out_8n out_8c I S) (cast (by kernel_rfl) h) ?_
  clear h
  intro l I S _ h
  obtain ⟨origin_0, e0, h⟩ := asStr_e h
  obtain ⟨ds_2, ds_2n, ds_2c, e2, h⟩ := asSl_e h
  obtain ⟨out_8, out_8n, out_8c, e8, h⟩ := asSl_e h
  rw [upd_eta e0, upd_eta e2, upd_eta e8]
  refine WP.seqY (by kernel_rfl) (fun l I S => asStr (l 0) fun origin_0 => asSl (l 8) fun out_8 out_8n out_8c => apply_Deltas_b4 R origin_0 out_8 out_8n out_8c I S) ?_ ?_
  ·
    refine WP.cut 1 (fun l I S => asStr (l 0) fun origin_0 => asSl (l 8) fun out_8 out_8n out_8c => asSl (l 15) fun x15 x15n x15c => asI .i64 (l 16) fun x16 => asI .i64 (l 17) fun x17 => apply_Deltas_b2 R origin_0 out_8 out_8n out_8c x15 x15n x15c x16 x17 I S) (cast (by kernel_rfl) h) ?_
    clear h
    intro l I S _ h
    obtain ⟨origin_0, e0, h⟩ := asStr_e h
    obtain ⟨out_8, out_8n, out_8c, e8, h⟩ := asSl_e h
    obtain ⟨x15, x15n, x15c, e15, h⟩ := asSl_e h
    obtain ⟨x16, e16, h⟩ := asI_e h
    obtain ⟨x17, e17, h⟩ := asI_e h
    rw [upd_eta e0, upd_eta e8, upd_eta e15, upd_eta e16, upd_eta e17]
    refine WP.block' (by kernel_rfl) ?_
    obtain ⟨Inv_again3, m_again3, h0, hr⟩ := h
    refine WP.loop' (by kernel_rfl) (fun m_again3 => fun l I S => asStr (l 0) fun origin_0 => asSl (l 8) fun out_8 out_8n out_8c => asSl (l 15) fun x15 x15n x15c => asI .i64 (l 16) fun x16 => asI .i64 (l 17) fun x17 => Inv_again3 m_again3 origin_0 out_8 out_8n out_8c x15 x15n x15c x16 x17 I S) m_again3 (cast (by kernel_rfl) h0) ?_
    clear h0
    intro m_again3 l I S hle h
    obtain ⟨origin_0, e0, h⟩ := asStr_e h
    obtain ⟨out_8, out_8n, out_8c, e8, h⟩ := asSl_e h
    obtain ⟨x15, x15n, x15c, e15, h⟩ := asSl_e h
    obtain ⟨x16, e16, h⟩ := asI_e h
    obtain ⟨x17, e17, h⟩ := asI_e h
    rw [upd_eta e0, upd_eta e8, upd_eta e15, upd_eta e16, upd_eta e17]
    have h := hr m_again3 origin_0 out_8 out_8n out_8c x15 x15n x15c x16 x17 I S hle h
    clear hr hle
    exact Pre.sound _ _ _ _ _ (cast (by kernel_rfl) h)
  · clear h
    intro l I S _ h
    obtain ⟨origin_0, e0, h⟩ := asStr_e h
    obtain ⟨out_8, out_8n, out_8c, e8, h⟩ := asSl_e h
    rw [upd_eta e0, upd_eta e8]
    exact Pre.sound _ _ _ _ _ (cast (by kernel_rfl) h)
/-! ### num_Get16: function 91, bolter/num.Get16 -/
noncomputable def num_Get16_code : Code := (Tryz.f91.body).getD .skip
def num_Get16_b4 (R : Value → IMem → SH → Prop) (x4 : Int) (x5 : Bool) (I : IMem) (S : SH) : Prop :=
  R (.tuple #[.int .u16 x4, .bool x5]) I S
def num_Get16_b3 (R : Value → IMem → SH → Prop) (b_0 : ByteArray) (at_1 : Int) (I : IMem) (S : SH) : Prop :=
  ∃ cx17 : UInt8, (0 : Int) ≤ at_1 ∧ b_0[at_1.toNat]? = some cx17 ∧
  ∃ cx23 : UInt8, (0 : Int) ≤ (IntKind.wrap .i64 (at_1 + (1 : Int))) ∧ b_0[(IntKind.wrap .i64 (at_1 + (1 : Int))).toNat]? = some cx23 ∧
  num_Get16_b4 R (ior .u16 (IntKind.wrap .u16 ((IntKind.wrap .u16 (cx17.toNat : Int)) * 2 ^ (min (8 : Int).toNat (IntKind.bits .u16)))) (IntKind.wrap .u16 (cx23.toNat : Int))) true I S
def num_Get16_b2 (R : Value → IMem → SH → Prop) (b_0 : ByteArray) (at_1 : Int) (x14 : Bool) (I : IMem) (S : SH) : Prop :=
  bcase x14
    (R (.tuple #[.int .u16 0, .bool false]) I S)
    (num_Get16_b3 R b_0 at_1 I S)
def num_Get16_b1 (R : Value → IMem → SH → Prop) (b_0 : ByteArray) (at_1 : Int) (I : IMem) (S : SH) : Prop :=
  bcase (decide (at_1 < (0 : Int)))
    (num_Get16_b2 R b_0 at_1 true I S)
    (num_Get16_b2 R b_0 at_1 (decide (at_1 > (IntKind.wrap .i64 ((b_0.size : Int) - (2 : Int))))) I S)
def num_Get16 (R : Value → IMem → SH → Prop) (b_0 : ByteArray) (at_1 : Int) (I : IMem) (S : SH) : Prop :=
  num_Get16_b1 R b_0 at_1 I S
theorem num_Get16_fn (R : Value → IMem → SH → Prop) (b_0 : ByteArray) (at_1 : Int) (I : IMem) (S : SH) (h : num_Get16 R b_0 at_1 I S) :
    Runs Tryz.prog 91 #[.string b_0, .int .i64 at_1] I S R := by
  refine Runs.of_wp (args := [.string b_0, .int .i64 at_1]) (c := num_Get16_code) Tryz.func91 (by kernel_rfl) (by kernel_rfl) ?_
  refine WP.cut 1 (fun l I S => asStr (l 0) fun b_0 => asI .i64 (l 1) fun at_1 => num_Get16_b1 R b_0 at_1 I S) (cast (by kernel_rfl) h) ?_
  clear h
  intro l I S _ h
  obtain ⟨b_0, e0, h⟩ := asStr_e h
  obtain ⟨at_1, e1, h⟩ := asI_e h
  rw [upd_eta e0, upd_eta e1]
  refine WP.seqY (by kernel_rfl) (fun l I S => asStr (l 0) fun b_0 => asI .i64 (l 1) fun at_1 => num_Get16_b3 R b_0 at_1 I S) ?_ ?_
  ·
    refine WP.cut 1 (fun l I S => asStr (l 0) fun b_0 => asI .i64 (l 1) fun at_1 => asB (l 14) fun x14 => num_Get16_b2 R b_0 at_1 x14 I S) (cast (by kernel_rfl) h) ?_
    clear h
    intro l I S _ h
    obtain ⟨b_0, e0, h⟩ := asStr_e h
    obtain ⟨at_1, e1, h⟩ := asI_e h
    obtain ⟨x14, e14, h⟩ := asB_e h
    rw [upd_eta e0, upd_eta e1, upd_eta e14]
    exact Pre.sound _ _ _ _ _ (cast (by kernel_rfl) h)
  · clear h
    intro l I S _ h
    obtain ⟨b_0, e0, h⟩ := asStr_e h
    obtain ⟨at_1, e1, h⟩ := asI_e h
    rw [upd_eta e0, upd_eta e1]
    refine WP.seqY (by kernel_rfl) (fun l I S => asI .u16 (l 4) fun x4 => asB (l 5) fun x5 => num_Get16_b4 R x4 x5 I S) ?_ ?_
    ·
      exact WP.quiet' (by kernel_rfl) (by kernel_rfl) (by kernel_rfl) (cast (by kernel_rfl) h)
    · clear h
      intro l I S _ h
      obtain ⟨x4, e4, h⟩ := asI_e h
      obtain ⟨x5, e5, h⟩ := asB_e h
      rw [upd_eta e4, upd_eta e5]
      exact Pre.sound _ _ _ _ _ (cast (by kernel_rfl) h)
/-! ### num_Get32: function 73, bolter/num.Get32 -/
noncomputable def num_Get32_code : Code := (Tryz.f73.body).getD .skip
def num_Get32_b3 (R : Value → IMem → SH → Prop) (high_6 : Int) (low_8 : Int) (I : IMem) (S : SH) : Prop :=
  R (.tuple #[.int .u32 (ior .u32 (IntKind.wrap .u32 ((IntKind.wrap .u32 high_6) * 2 ^ (min (16 : Int).toNat (IntKind.bits .u32)))) (IntKind.wrap .u32 low_8)), .bool true]) I S
def num_Get32_b2 (R : Value → IMem → SH → Prop) (high_6 : Int) (low_8 : Int) (x28 : Bool) (I : IMem) (S : SH) : Prop :=
  bcase x28
    (R (.tuple #[.int .u32 0, .bool false]) I S)
    (num_Get32_b3 R high_6 low_8 I S)
def num_Get32_b1 (R : Value → IMem → SH → Prop) (high_6 : Int) (ok_7 : Bool) (low_8 : Int) (is_9 : Bool) (I : IMem) (S : SH) : Prop :=
  bcase (!ok_7)
    (num_Get32_b2 R high_6 low_8 true I S)
    (num_Get32_b2 R high_6 low_8 (!is_9) I S)
def num_Get32 (R : Value → IMem → SH → Prop) (b_0 : ByteArray) (at_1 : Int) (I : IMem) (S : SH) : Prop :=
  Runs Tryz.prog 91 #[.string b_0, .int .i64 at_1] I S fun v I1 S1 => ∃ x13_0 x13_1, v = .tuple #[.int .u16 x13_0, .bool x13_1] ∧
  Runs Tryz.prog 91 #[.string b_0, .int .i64 (IntKind.wrap .i64 (at_1 + (2 : Int)))] I1 S1 fun v' I1' S1' => ∃ x20_0 x20_1, v' = .tuple #[.int .u16 x20_0, .bool x20_1] ∧
  num_Get32_b1 R x13_0 x13_1 x20_0 x20_1 I1' S1'
theorem num_Get32_fn (R : Value → IMem → SH → Prop) (b_0 : ByteArray) (at_1 : Int) (I : IMem) (S : SH) (h : num_Get32 R b_0 at_1 I S) :
    Runs Tryz.prog 73 #[.string b_0, .int .i64 at_1] I S R := by
  refine Runs.of_wp (args := [.string b_0, .int .i64 at_1]) (c := num_Get32_code) Tryz.func73 (by kernel_rfl) (by kernel_rfl) ?_
  refine WP.cut 3 (fun l I S => asI .u16 (l 6) fun high_6 => asB (l 7) fun ok_7 => asI .u16 (l 8) fun low_8 => asB (l 9) fun is_9 => num_Get32_b1 R high_6 ok_7 low_8 is_9 I S) (cast (by kernel_rfl) h) ?_
  clear h
  intro l I S _ h
  obtain ⟨high_6, e6, h⟩ := asI_e h
  obtain ⟨ok_7, e7, h⟩ := asB_e h
  obtain ⟨low_8, e8, h⟩ := asI_e h
  obtain ⟨is_9, e9, h⟩ := asB_e h
  rw [upd_eta e6, upd_eta e7, upd_eta e8, upd_eta e9]
  refine WP.seqY (by kernel_rfl) (fun l I S => asI .u16 (l 6) fun high_6 => asI .u16 (l 8) fun low_8 => num_Get32_b3 R high_6 low_8 I S) ?_ ?_
  ·
    refine WP.cut 1 (fun l I S => asI .u16 (l 6) fun high_6 => asI .u16 (l 8) fun low_8 => asB (l 28) fun x28 => num_Get32_b2 R high_6 low_8 x28 I S) (cast (by kernel_rfl) h) ?_
    clear h
    intro l I S _ h
    obtain ⟨high_6, e6, h⟩ := asI_e h
    obtain ⟨low_8, e8, h⟩ := asI_e h
    obtain ⟨x28, e28, h⟩ := asB_e h
    rw [upd_eta e6, upd_eta e8, upd_eta e28]
    exact Pre.sound _ _ _ _ _ (cast (by kernel_rfl) h)
  · clear h
    intro l I S _ h
    obtain ⟨high_6, e6, h⟩ := asI_e h
    obtain ⟨low_8, e8, h⟩ := asI_e h
    rw [upd_eta e6, upd_eta e8]
    exact Pre.sound _ _ _ _ _ (cast (by kernel_rfl) h)
/-! ### soa_Of: function 39, bolter/soa.Of -/
noncomputable def soa_Of_code : Code := (Tryz.f39.body).getD .skip
def soa_Of (R : Value → IMem → SH → Prop) (r_0_0 : ByteArray) (r_0_1 : Int) (r_0_2 : Int) (r_0_3 : ByteArray) (I : IMem) (S : SH) : Prop :=
  ∀ b1 : Nat,
  ∀ b2 : Nat,
  ∃ x5, Cell I ((b2, .cells #[.string ⟨#[]⟩, .string ⟨#[]⟩, .int .u32 0, .int .u32 0, .int .u32 0, .int .u32 0, .int .u32 0] 67 (0, 0)) :: ((b1, .cells #[.string r_0_0, .int .u16 r_0_1, .int .u32 r_0_2, .string r_0_3] 32 (0, 0)) :: S)) ⟨b1, 1, none⟩ (.int .u16 x5) ∧
  bcase (x5 != (6 : Int))
    (StP ((b2, .cells #[.string ⟨#[]⟩, .string ⟨#[]⟩, .int .u32 0, .int .u32 0, .int .u32 0, .int .u32 0, .int .u32 0] 67 (0, 0)) :: ((b1, .cells #[.string r_0_0, .int .u16 r_0_1, .int .u32 r_0_2, .string r_0_3] 32 (0, 0)) :: S)) ⟨b2, 0, none⟩ [.string ⟨#[]⟩, .string ⟨#[]⟩, .int .u32 0, .int .u32 0, .int .u32 0, .int .u32 0, .int .u32 0] fun S1 =>
    ∃ r2_0, Cell I S1 ⟨b2, 0, none⟩ (.string r2_0) ∧
    ∃ r2_1, Cell I S1 ⟨b2, 1, none⟩ (.string r2_1) ∧
    ∃ r2_2, Cell I S1 ⟨b2, 2, none⟩ (.int .u32 r2_2) ∧
    ∃ r2_3, Cell I S1 ⟨b2, 3, none⟩ (.int .u32 r2_3) ∧
    ∃ r2_4, Cell I S1 ⟨b2, 4, none⟩ (.int .u32 r2_4) ∧
    ∃ r2_5, Cell I S1 ⟨b2, 5, none⟩ (.int .u32 r2_5) ∧
    ∃ r2_6, Cell I S1 ⟨b2, 6, none⟩ (.int .u32 r2_6) ∧
    R (.tuple #[.agg #[.string r2_0, .string r2_1, .int .u32 r2_2, .int .u32 r2_3, .int .u32 r2_4, .int .u32 r2_5, .int .u32 r2_6], .bool false]) I S1)
    (∃ x9, Cell I ((b2, .cells #[.string ⟨#[]⟩, .string ⟨#[]⟩, .int .u32 0, .int .u32 0, .int .u32 0, .int .u32 0, .int .u32 0] 67 (0, 0)) :: ((b1, .cells #[.string r_0_0, .int .u16 r_0_1, .int .u32 r_0_2, .string r_0_3] 32 (0, 0)) :: S)) ⟨b1, 3, none⟩ (.string x9) ∧
    Runs Tryz.prog 54 #[.string x9] I ((b2, .cells #[.string ⟨#[]⟩, .string ⟨#[]⟩, .int .u32 0, .int .u32 0, .int .u32 0, .int .u32 0, .int .u32 0] 67 (0, 0)) :: ((b1, .cells #[.string r_0_0, .int .u16 r_0_1, .int .u32 r_0_2, .string r_0_3] 32 (0, 0)) :: S)) fun v I1 S1' => ∃ x10_0_0 x10_0_1 x10_0_2 x10_0_3 x10_0_4 x10_0_5 x10_0_6 x10_1, v = .tuple #[.agg #[.string x10_0_0, .string x10_0_1, .int .u32 x10_0_2, .int .u32 x10_0_3, .int .u32 x10_0_4, .int .u32 x10_0_5, .int .u32 x10_0_6], .bool x10_1] ∧
    StP S1' ⟨b2, 0, none⟩ [.string x10_0_0, .string x10_0_1, .int .u32 x10_0_2, .int .u32 x10_0_3, .int .u32 x10_0_4, .int .u32 x10_0_5, .int .u32 x10_0_6] fun S1'' =>
    ∃ r2_0', Cell I1 S1'' ⟨b2, 0, none⟩ (.string r2_0') ∧
    ∃ r2_1', Cell I1 S1'' ⟨b2, 1, none⟩ (.string r2_1') ∧
    ∃ r2_2', Cell I1 S1'' ⟨b2, 2, none⟩ (.int .u32 r2_2') ∧
    ∃ r2_3', Cell I1 S1'' ⟨b2, 3, none⟩ (.int .u32 r2_3') ∧
    ∃ r2_4', Cell I1 S1'' ⟨b2, 4, none⟩ (.int .u32 r2_4') ∧
    ∃ r2_5', Cell I1 S1'' ⟨b2, 5, none⟩ (.int .u32 r2_5') ∧
    ∃ r2_6', Cell I1 S1'' ⟨b2, 6, none⟩ (.int .u32 r2_6') ∧
    R (.tuple #[.agg #[.string r2_0', .string r2_1', .int .u32 r2_2', .int .u32 r2_3', .int .u32 r2_4', .int .u32 r2_5', .int .u32 r2_6'], .bool x10_1]) I1 S1'')
theorem soa_Of_fn (R : Value → IMem → SH → Prop) (r_0_0 : ByteArray) (r_0_1 : Int) (r_0_2 : Int) (r_0_3 : ByteArray) (I : IMem) (S : SH) (h : soa_Of R r_0_0 r_0_1 r_0_2 r_0_3 I S) :
    Runs Tryz.prog 39 #[.agg #[.string r_0_0, .int .u16 r_0_1, .int .u32 r_0_2, .string r_0_3]] I S R := by
  refine Runs.of_wp (args := [.agg #[.string r_0_0, .int .u16 r_0_1, .int .u32 r_0_2, .string r_0_3]]) (c := soa_Of_code) Tryz.func39 (by kernel_rfl) (by kernel_rfl) ?_
  exact Pre.sound _ _ _ _ _ (cast (by kernel_rfl) h)
/-! ### soa_Parse: function 54, bolter/soa.Parse -/
noncomputable def soa_Parse_code : Code := (Tryz.f54.body).getD .skip
def soa_Parse_b6 (R : Value → IMem → SH → Prop) (x2 : Addr) (s_4 : Addr) (I : IMem) (S : SH) : Prop :=
  ∃ x55_0, Cell I S s_4 (.string x55_0) ∧
  ∃ x55_1, Cell I S (s_4.add 1) (.string x55_1) ∧
  ∃ x55_2, Cell I S (s_4.add 2) (.int .u32 x55_2) ∧
  ∃ x55_3, Cell I S (s_4.add 3) (.int .u32 x55_3) ∧
  ∃ x55_4, Cell I S (s_4.add 4) (.int .u32 x55_4) ∧
  ∃ x55_5, Cell I S (s_4.add 5) (.int .u32 x55_5) ∧
  ∃ x55_6, Cell I S (s_4.add 6) (.int .u32 x55_6) ∧
  StP S x2 [.string x55_0, .string x55_1, .int .u32 x55_2, .int .u32 x55_3, .int .u32 x55_4, .int .u32 x55_5, .int .u32 x55_6] fun S1 =>
  ∃ r2_0, Cell I S1 x2 (.string r2_0) ∧
  ∃ r2_1, Cell I S1 (x2.add 1) (.string r2_1) ∧
  ∃ r2_2, Cell I S1 (x2.add 2) (.int .u32 r2_2) ∧
  ∃ r2_3, Cell I S1 (x2.add 3) (.int .u32 r2_3) ∧
  ∃ r2_4, Cell I S1 (x2.add 4) (.int .u32 r2_4) ∧
  ∃ r2_5, Cell I S1 (x2.add 5) (.int .u32 r2_5) ∧
  ∃ r2_6, Cell I S1 (x2.add 6) (.int .u32 r2_6) ∧
  R (.tuple #[.agg #[.string r2_0, .string r2_1, .int .u32 r2_2, .int .u32 r2_3, .int .u32 r2_4, .int .u32 r2_5, .int .u32 r2_6], .bool true]) I S1
def soa_Parse_l5 (again5 : ByteArray → Addr → Addr → Option Addr → Nat → Nat → Int → Int → IMem → SH → Prop) (R : Value → IMem → SH → Prop) (d_0 : ByteArray) (x2 : Addr) (s_4 : Addr) (x38 : Option Addr) (x38n : Nat) (x38c : Nat) (x39 : Int) (x40 : Int) (I : IMem) (S : SH) : Prop :=
  bcase (decide (x40 < x39))
    (ptrP x38 fun x43 => (0 : Int) ≤ x40 ∧ x40 < (x38n : Int) ∧
    ∃ x44, Cell I S (x43.add (x40.toNat * 1)) (.pointer x44) ∧
    Runs Tryz.prog 73 #[.string d_0, .int .i64 (IntKind.wrap .i64 ((4 : Int) * x40))] I S fun v I1 S1 => ∃ x50_0 x50_1, v = .tuple #[.int .u32 x50_0, .bool x50_1] ∧
    ptrP x44 fun x53 =>
    StP S1 x53 [.int .u32 x50_0] fun S1' =>
    again5 d_0 x2 s_4 x38 x38n x38c x39 (IntKind.wrap .i64 (x40 + (1 : Int))) I1 S1')
    (soa_Parse_b6 R x2 s_4 I S)
def soa_Parse_b4 (R : Value → IMem → SH → Prop) (d_0 : ByteArray) (x2 : Addr) (s_4 : Addr) (x38 : Option Addr) (x38n : Nat) (x38c : Nat) (x39 : Int) (x40 : Int) (I : IMem) (S : SH) : Prop :=
  ∃ (Inv : Nat → ByteArray → Addr → Addr → Option Addr → Nat → Nat → Int → Int → IMem → SH → Prop) (m : Nat), Inv m d_0 x2 s_4 x38 x38n x38c x39 x40 I S ∧
    ∀ (m : Nat) (d_0 : ByteArray) (x2 : Addr) (s_4 : Addr) (x38 : Option Addr) (x38n : Nat) (x38c : Nat) (x39 : Int) (x40 : Int) (J : IMem) (T : SH), I.le J → Inv m d_0 x2 s_4 x38 x38n x38c x39 x40 J T →
      soa_Parse_l5 (fun d_0 x2 s_4 x38 x38n x38c x39 x40 I S => ∃ m', m' < m ∧ Inv m' d_0 x2 s_4 x38 x38n x38c x39 x40 I S) R d_0 x2 s_4 x38 x38n x38c x39 x40 J T
def soa_Parse_b3 (R : Value → IMem → SH → Prop) (d_0 : ByteArray) (x2 : Addr) (s_4 : Addr) (I : IMem) (S : SH) : Prop :=
  ∀ b38 : Nat,
  soa_Parse_b4 R d_0 x2 s_4 (some ⟨b38, 0, none⟩) 5 5 (5 : Int) 0 I ((b38, .cells #[.pointer (some (s_4.add 2)), .pointer (some (s_4.add 3)), .pointer (some (s_4.add 4)), .pointer (some (s_4.add 5)), .pointer (some (s_4.add 6))] 140 (0, 0)) :: S)
def soa_Parse_b2 (R : Value → IMem → SH → Prop) (d_0 : ByteArray) (x2 : Addr) (s_4 : Addr) (x31 : Bool) (I : IMem) (S : SH) : Prop :=
  bcase x31
    (StP S x2 [.string ⟨#[]⟩, .string ⟨#[]⟩, .int .u32 0, .int .u32 0, .int .u32 0, .int .u32 0, .int .u32 0] fun S1 =>
    ∃ r2_0, Cell I S1 x2 (.string r2_0) ∧
    ∃ r2_1, Cell I S1 (x2.add 1) (.string r2_1) ∧
    ∃ r2_2, Cell I S1 (x2.add 2) (.int .u32 r2_2) ∧
    ∃ r2_3, Cell I S1 (x2.add 3) (.int .u32 r2_3) ∧
    ∃ r2_4, Cell I S1 (x2.add 4) (.int .u32 r2_4) ∧
    ∃ r2_5, Cell I S1 (x2.add 5) (.int .u32 r2_5) ∧
    ∃ r2_6, Cell I S1 (x2.add 6) (.int .u32 r2_6) ∧
    R (.tuple #[.agg #[.string r2_0, .string r2_1, .int .u32 r2_2, .int .u32 r2_3, .int .u32 r2_4, .int .u32 r2_5, .int .u32 r2_6], .bool false]) I S1)
    (soa_Parse_b3 R d_0 x2 s_4 I S)
def soa_Parse_b1 (R : Value → IMem → SH → Prop) (d_0 : ByteArray) (x2 : Addr) (s_4 : Addr) (I : IMem) (S : SH) : Prop :=
  Runs Tryz.prog 72 #[.string d_0] I S fun v I1 S1 => ∃ x20_0 x20_1 x20_2, v = .tuple #[.string x20_0, .string x20_1, .bool x20_2] ∧
  StP S1 (s_4.add 1) [.string x20_0] fun S1' =>
  bcase (!x20_2)
    (soa_Parse_b2 R x20_1 x2 s_4 true I1 S1')
    (soa_Parse_b2 R x20_1 x2 s_4 ((x20_1.size : Int) != (20 : Int)) I1 S1')
def soa_Parse (R : Value → IMem → SH → Prop) (d_0 : ByteArray) (I : IMem) (S : SH) : Prop :=
  ∀ b2 : Nat,
  ∀ b4 : Nat,
  Runs Tryz.prog 72 #[.string d_0] I ((b4, .cells #[.string ⟨#[]⟩, .string ⟨#[]⟩, .int .u32 0, .int .u32 0, .int .u32 0, .int .u32 0, .int .u32 0] 67 (0, 0)) :: ((b2, .cells #[.string ⟨#[]⟩, .string ⟨#[]⟩, .int .u32 0, .int .u32 0, .int .u32 0, .int .u32 0, .int .u32 0] 67 (0, 0)) :: S)) fun v I1 S1 => ∃ x10_0 x10_1 x10_2, v = .tuple #[.string x10_0, .string x10_1, .bool x10_2] ∧
  StP S1 ⟨b4, 0, none⟩ [.string x10_0] fun S1' =>
  bcase (!x10_2)
    (StP S1' ⟨b2, 0, none⟩ [.string ⟨#[]⟩, .string ⟨#[]⟩, .int .u32 0, .int .u32 0, .int .u32 0, .int .u32 0, .int .u32 0] fun S1'' =>
    ∃ r2_0, Cell I1 S1'' ⟨b2, 0, none⟩ (.string r2_0) ∧
    ∃ r2_1, Cell I1 S1'' ⟨b2, 1, none⟩ (.string r2_1) ∧
    ∃ r2_2, Cell I1 S1'' ⟨b2, 2, none⟩ (.int .u32 r2_2) ∧
    ∃ r2_3, Cell I1 S1'' ⟨b2, 3, none⟩ (.int .u32 r2_3) ∧
    ∃ r2_4, Cell I1 S1'' ⟨b2, 4, none⟩ (.int .u32 r2_4) ∧
    ∃ r2_5, Cell I1 S1'' ⟨b2, 5, none⟩ (.int .u32 r2_5) ∧
    ∃ r2_6, Cell I1 S1'' ⟨b2, 6, none⟩ (.int .u32 r2_6) ∧
    R (.tuple #[.agg #[.string r2_0, .string r2_1, .int .u32 r2_2, .int .u32 r2_3, .int .u32 r2_4, .int .u32 r2_5, .int .u32 r2_6], .bool false]) I1 S1'')
    (soa_Parse_b1 R x10_1 ⟨b2, 0, none⟩ ⟨b4, 0, none⟩ I1 S1')
theorem soa_Parse_fn (R : Value → IMem → SH → Prop) (d_0 : ByteArray) (I : IMem) (S : SH) (h : soa_Parse R d_0 I S) :
    Runs Tryz.prog 54 #[.string d_0] I S R := by
  refine Runs.of_wp (args := [.string d_0]) (c := soa_Parse_code) Tryz.func54 (by kernel_rfl) (by kernel_rfl) ?_
  refine WP.cut 4 (fun l I S => asStr (l 0) fun d_0 => asAdr (l 2) fun x2 => asAdr (l 4) fun s_4 => soa_Parse_b1 R d_0 x2 s_4 I S) (cast (by kernel_rfl) h) ?_
  clear h
  intro l I S _ h
  obtain ⟨d_0, e0, h⟩ := asStr_e h
  obtain ⟨x2, e2, h⟩ := asAdr_e h
  obtain ⟨s_4, e4, h⟩ := asAdr_e h
  rw [upd_eta e0, upd_eta e2, upd_eta e4]
  refine WP.seqY (by kernel_rfl) (fun l I S => asStr (l 0) fun d_0 => asAdr (l 2) fun x2 => asAdr (l 4) fun s_4 => soa_Parse_b3 R d_0 x2 s_4 I S) ?_ ?_
  ·
    refine WP.cut 2 (fun l I S => asStr (l 0) fun d_0 => asAdr (l 2) fun x2 => asAdr (l 4) fun s_4 => asB (l 31) fun x31 => soa_Parse_b2 R d_0 x2 s_4 x31 I S) (cast (by kernel_rfl) h) ?_
    clear h
    intro l I S _ h
    obtain ⟨d_0, e0, h⟩ := asStr_e h
    obtain ⟨x2, e2, h⟩ := asAdr_e h
    obtain ⟨s_4, e4, h⟩ := asAdr_e h
    obtain ⟨x31, e31, h⟩ := asB_e h
    rw [upd_eta e0, upd_eta e2, upd_eta e4, upd_eta e31]
    exact Pre.sound _ _ _ _ _ (cast (by kernel_rfl) h)
  · clear h
    intro l I S _ h
    obtain ⟨d_0, e0, h⟩ := asStr_e h
    obtain ⟨x2, e2, h⟩ := asAdr_e h
    obtain ⟨s_4, e4, h⟩ := asAdr_e h
    rw [upd_eta e0, upd_eta e2, upd_eta e4]
    refine WP.seqY (by kernel_rfl) (fun l I S => asAdr (l 2) fun x2 => asAdr (l 4) fun s_4 => soa_Parse_b6 R x2 s_4 I S) ?_ ?_
    ·
      refine WP.cut 1 (fun l I S => asStr (l 0) fun d_0 => asAdr (l 2) fun x2 => asAdr (l 4) fun s_4 => asSl (l 38) fun x38 x38n x38c => asI .i64 (l 39) fun x39 => asI .i64 (l 40) fun x40 => soa_Parse_b4 R d_0 x2 s_4 x38 x38n x38c x39 x40 I S) (cast (by kernel_rfl) h) ?_
      clear h
      intro l I S _ h
      obtain ⟨d_0, e0, h⟩ := asStr_e h
      obtain ⟨x2, e2, h⟩ := asAdr_e h
      obtain ⟨s_4, e4, h⟩ := asAdr_e h
      obtain ⟨x38, x38n, x38c, e38, h⟩ := asSl_e h
      obtain ⟨x39, e39, h⟩ := asI_e h
      obtain ⟨x40, e40, h⟩ := asI_e h
      rw [upd_eta e0, upd_eta e2, upd_eta e4, upd_eta e38, upd_eta e39, upd_eta e40]
      refine WP.block' (by kernel_rfl) ?_
      obtain ⟨Inv_again5, m_again5, h0, hr⟩ := h
      refine WP.loop' (by kernel_rfl) (fun m_again5 => fun l I S => asStr (l 0) fun d_0 => asAdr (l 2) fun x2 => asAdr (l 4) fun s_4 => asSl (l 38) fun x38 x38n x38c => asI .i64 (l 39) fun x39 => asI .i64 (l 40) fun x40 => Inv_again5 m_again5 d_0 x2 s_4 x38 x38n x38c x39 x40 I S) m_again5 (cast (by kernel_rfl) h0) ?_
      clear h0
      intro m_again5 l I S hle h
      obtain ⟨d_0, e0, h⟩ := asStr_e h
      obtain ⟨x2, e2, h⟩ := asAdr_e h
      obtain ⟨s_4, e4, h⟩ := asAdr_e h
      obtain ⟨x38, x38n, x38c, e38, h⟩ := asSl_e h
      obtain ⟨x39, e39, h⟩ := asI_e h
      obtain ⟨x40, e40, h⟩ := asI_e h
      rw [upd_eta e0, upd_eta e2, upd_eta e4, upd_eta e38, upd_eta e39, upd_eta e40]
      have h := hr m_again5 d_0 x2 s_4 x38 x38n x38c x39 x40 I S hle h
      clear hr hle
      exact Pre.sound _ _ _ _ _ (cast (by kernel_rfl) h)
    · clear h
      intro l I S _ h
      obtain ⟨x2, e2, h⟩ := asAdr_e h
      obtain ⟨s_4, e4, h⟩ := asAdr_e h
      rw [upd_eta e2, upd_eta e4]
      exact Pre.sound _ _ _ _ _ (cast (by kernel_rfl) h)
/-! ### serial_Later: function 20, bolter/serial.Later -/
noncomputable def serial_Later_code : Code := (Tryz.f20.body).getD .skip
def serial_Later_b1 (R : Value → IMem → SH → Prop) (x4 : Bool) (I : IMem) (S : SH) : Prop :=
  R (.bool x4) I S
def serial_Later (R : Value → IMem → SH → Prop) (a_0 : Int) (b_1 : Int) (I : IMem) (S : SH) : Prop :=
  bcase (decide ((IntKind.wrap .u32 (a_0 - b_1)) > (0 : Int)))
    (serial_Later_b1 R (decide ((IntKind.wrap .u32 (a_0 - b_1)) < (2147483648 : Int))) I S)
    (serial_Later_b1 R false I S)
theorem serial_Later_fn (R : Value → IMem → SH → Prop) (a_0 : Int) (b_1 : Int) (I : IMem) (S : SH) (h : serial_Later R a_0 b_1 I S) :
    Runs Tryz.prog 20 #[.int .u32 a_0, .int .u32 b_1] I S R := by
  refine Runs.of_wp (args := [.int .u32 a_0, .int .u32 b_1]) (c := serial_Later_code) Tryz.func20 (by kernel_rfl) (by kernel_rfl) ?_
  refine WP.cut 3 (fun l I S => asB (l 4) fun x4 => serial_Later_b1 R x4 I S) (cast (by kernel_rfl) h) ?_
  clear h
  intro l I S _ h
  obtain ⟨x4, e4, h⟩ := asB_e h
  rw [upd_eta e4]
  exact Pre.sound _ _ _ _ _ (cast (by kernel_rfl) h)
/-! ### stream_right: function 60, bolter/stream.right -/
noncomputable def stream_right_code : Code := (Tryz.f60.body).getD .skip
def stream_right_b6 (again3 : ByteArray → Option Addr → Nat → Nat → Option Addr → Nat → Nat → Int → Int → IMem → SH → Prop) (R : Value → IMem → SH → Prop) (origin_0 : ByteArray) (rs_1 : Option Addr) (rs_1n : Nat) (rs_1c : Nat) (x7 : Option Addr) (x7n : Nat) (x7c : Nat) (x8 : Int) (x9 : Int) (I : IMem) (S : SH) : Prop :=
  again3 origin_0 rs_1 rs_1n rs_1c x7 x7n x7c x8 (IntKind.wrap .i64 (x9 + (1 : Int))) I S
def stream_right_b5 (again3 : ByteArray → Option Addr → Nat → Nat → Option Addr → Nat → Nat → Int → Int → IMem → SH → Prop) (R : Value → IMem → SH → Prop) (origin_0 : ByteArray) (rs_1 : Option Addr) (rs_1n : Nat) (rs_1c : Nat) (x7 : Option Addr) (x7n : Nat) (x7c : Nat) (x8 : Int) (x9 : Int) (x33 : Bool) (I : IMem) (S : SH) : Prop :=
  bcase x33
    (R (.bool false) I S)
    (stream_right_b6 again3 R origin_0 rs_1 rs_1n rs_1c x7 x7n x7c x8 x9 I S)
def stream_right_b4 (again3 : ByteArray → Option Addr → Nat → Nat → Option Addr → Nat → Nat → Int → Int → IMem → SH → Prop) (R : Value → IMem → SH → Prop) (origin_0 : ByteArray) (rs_1 : Option Addr) (rs_1n : Nat) (rs_1c : Nat) (x7 : Option Addr) (x7n : Nat) (x7c : Nat) (x8 : Int) (x9 : Int) (I : IMem) (S : SH) : Prop :=
  ptrP x7 fun x11 => (0 : Int) ≤ x9 ∧ x9 < (x7n : Int) ∧
  ∃ x12_0, Cell I S (x11.add (x9.toNat * 4)) (.string x12_0) ∧
  ∃ x12_1, Cell I S ((x11.add (x9.toNat * 4)).add 1) (.int .u16 x12_1) ∧
  ∃ x12_2, Cell I S ((x11.add (x9.toNat * 4)).add 2) (.int .u32 x12_2) ∧
  ∃ x12_3, Cell I S ((x11.add (x9.toNat * 4)).add 3) (.string x12_3) ∧
  ∀ b6 : Nat,
  StP ((b6, .cells #[.string ⟨#[]⟩, .int .u16 0, .int .u32 0, .string ⟨#[]⟩] 32 (0, 0)) :: S) ⟨b6, 0, none⟩ [.string x12_0, .int .u16 x12_1, .int .u32 x12_2, .string x12_3] fun S1 =>
  ∃ x13_0, Cell I S1 ⟨b6, 0, none⟩ (.string x13_0) ∧
  ∃ x13_1, Cell I S1 ⟨b6, 1, none⟩ (.int .u16 x13_1) ∧
  ∃ x13_2, Cell I S1 ⟨b6, 2, none⟩ (.int .u32 x13_2) ∧
  ∃ x13_3, Cell I S1 ⟨b6, 3, none⟩ (.string x13_3) ∧
  Runs Tryz.prog 76 #[.agg #[.string x13_0, .int .u16 x13_1, .int .u32 x13_2, .string x13_3]] I S1 fun v I1 S1' => ∃ x14, v = .bool x14 ∧
  bcase (!x14)
    (stream_right_b5 again3 R origin_0 rs_1 rs_1n rs_1c x7 x7n x7c x8 x9 true I1 S1')
    (∃ x18, Cell I1 S1' ⟨b6, 0, none⟩ (.string x18) ∧
    Runs Tryz.prog 77 #[.string x18, .string origin_0] I1 S1' fun v' I1' S1'' => ∃ x20, v' = .bool x20 ∧
    bcase (!x20)
      (stream_right_b5 again3 R origin_0 rs_1 rs_1n rs_1c x7 x7n x7c x8 x9 true I1' S1'')
      (∃ x25, Cell I1' S1'' ⟨b6, 1, none⟩ (.int .u16 x25) ∧
      bcase (x25 == (6 : Int))
        (∃ x29, Cell I1' S1'' ⟨b6, 0, none⟩ (.string x29) ∧
        stream_right_b5 again3 R origin_0 rs_1 rs_1n rs_1c x7 x7n x7c x8 x9 (!(x29.toList == origin_0.toList)) I1' S1'')
        (stream_right_b5 again3 R origin_0 rs_1 rs_1n rs_1c x7 x7n x7c x8 x9 false I1' S1'')))
def stream_right_b8 (R : Value → IMem → SH → Prop) (x4 : Bool) (I : IMem) (S : SH) : Prop :=
  R (.bool x4) I S
def stream_right_b7 (R : Value → IMem → SH → Prop) (rs_1 : Option Addr) (rs_1n : Nat) (rs_1c : Nat) (I : IMem) (S : SH) : Prop :=
  bcase (decide ((rs_1n : Int) > (0 : Int)))
    (ptrP rs_1 fun x40 => (0 : Int) ≤ (0 : Int) ∧ (0 : Int) < (rs_1n : Int) ∧
    ∃ x42, Cell I S ((x40.add ((0 : Int).toNat * 4)).add 1) (.int .u16 x42) ∧
    stream_right_b8 R (x42 == (6 : Int)) I S)
    (stream_right_b8 R false I S)
def stream_right_l3 (again3 : ByteArray → Option Addr → Nat → Nat → Option Addr → Nat → Nat → Int → Int → IMem → SH → Prop) (R : Value → IMem → SH → Prop) (origin_0 : ByteArray) (rs_1 : Option Addr) (rs_1n : Nat) (rs_1c : Nat) (x7 : Option Addr) (x7n : Nat) (x7c : Nat) (x8 : Int) (x9 : Int) (I : IMem) (S : SH) : Prop :=
  bcase (decide (x9 < x8))
    (stream_right_b4 again3 R origin_0 rs_1 rs_1n rs_1c x7 x7n x7c x8 x9 I S)
    (stream_right_b7 R rs_1 rs_1n rs_1c I S)
def stream_right_b2 (R : Value → IMem → SH → Prop) (origin_0 : ByteArray) (rs_1 : Option Addr) (rs_1n : Nat) (rs_1c : Nat) (x7 : Option Addr) (x7n : Nat) (x7c : Nat) (x8 : Int) (x9 : Int) (I : IMem) (S : SH) : Prop :=
  ∃ (Inv : Nat → ByteArray → Option Addr → Nat → Nat → Option Addr → Nat → Nat → Int → Int → IMem → SH → Prop) (m : Nat), Inv m origin_0 rs_1 rs_1n rs_1c x7 x7n x7c x8 x9 I S ∧
    ∀ (m : Nat) (origin_0 : ByteArray) (rs_1 : Option Addr) (rs_1n : Nat) (rs_1c : Nat) (x7 : Option Addr) (x7n : Nat) (x7c : Nat) (x8 : Int) (x9 : Int) (J : IMem) (T : SH), I.le J → Inv m origin_0 rs_1 rs_1n rs_1c x7 x7n x7c x8 x9 J T →
      stream_right_l3 (fun origin_0 rs_1 rs_1n rs_1c x7 x7n x7c x8 x9 I S => ∃ m', m' < m ∧ Inv m' origin_0 rs_1 rs_1n rs_1c x7 x7n x7c x8 x9 I S) R origin_0 rs_1 rs_1n rs_1c x7 x7n x7c x8 x9 J T
def stream_right_b1 (R : Value → IMem → SH → Prop) (origin_0 : ByteArray) (rs_1 : Option Addr) (rs_1n : Nat) (rs_1c : Nat) (I : IMem) (S : SH) : Prop :=
  stream_right_b2 R origin_0 rs_1 rs_1n rs_1c rs_1 rs_1n rs_1c (rs_1n : Int) 0 I S
def stream_right (R : Value → IMem → SH → Prop) (origin_0 : ByteArray) (rs_1 : Option Addr) (rs_1n : Nat) (rs_1c : Nat) (I : IMem) (S : SH) : Prop :=
  stream_right_b1 R origin_0 rs_1 rs_1n rs_1c I S
theorem stream_right_fn (R : Value → IMem → SH → Prop) (origin_0 : ByteArray) (rs_1 : Option Addr) (rs_1n : Nat) (rs_1c : Nat) (I : IMem) (S : SH) (h : stream_right R origin_0 rs_1 rs_1n rs_1c I S) :
    Runs Tryz.prog 60 #[.string origin_0, .slice rs_1 rs_1n rs_1c] I S R := by
  refine Runs.of_wp (args := [.string origin_0, .slice rs_1 rs_1n rs_1c]) (c := stream_right_code) Tryz.func60 (by kernel_rfl) (by kernel_rfl) ?_
  refine WP.cut 1 (fun l I S => asStr (l 0) fun origin_0 => asSl (l 1) fun rs_1 rs_1n rs_1c => stream_right_b1 R origin_0 rs_1 rs_1n rs_1c I S) (cast (by kernel_rfl) h) ?_
  clear h
  intro l I S _ h
  obtain ⟨origin_0, e0, h⟩ := asStr_e h
  obtain ⟨rs_1, rs_1n, rs_1c, e1, h⟩ := asSl_e h
  rw [upd_eta e0, upd_eta e1]
  refine WP.seqY (by kernel_rfl) (fun l I S => asSl (l 1) fun rs_1 rs_1n rs_1c => stream_right_b7 R rs_1 rs_1n rs_1c I S) ?_ ?_
  ·
    refine WP.cut 1 (fun l I S => asStr (l 0) fun origin_0 => asSl (l 1) fun rs_1 rs_1n rs_1c => asSl (l 7) fun x7 x7n x7c => asI .i64 (l 8) fun x8 => asI .i64 (l 9) fun x9 => stream_right_b2 R origin_0 rs_1 rs_1n rs_1c x7 x7n x7c x8 x9 I S) (cast (by kernel_rfl) h) ?_
    clear h
    intro l I S _ h
    obtain ⟨origin_0, e0, h⟩ := asStr_e h
    obtain ⟨rs_1, rs_1n, rs_1c, e1, h⟩ := asSl_e h
    obtain ⟨x7, x7n, x7c, e7, h⟩ := asSl_e h
    obtain ⟨x8, e8, h⟩ := asI_e h
    obtain ⟨x9, e9, h⟩ := asI_e h
    rw [upd_eta e0, upd_eta e1, upd_eta e7, upd_eta e8, upd_eta e9]
    refine WP.block' (by kernel_rfl) ?_
    obtain ⟨Inv_again3, m_again3, h0, hr⟩ := h
    refine WP.loop' (by kernel_rfl) (fun m_again3 => fun l I S => asStr (l 0) fun origin_0 => asSl (l 1) fun rs_1 rs_1n rs_1c => asSl (l 7) fun x7 x7n x7c => asI .i64 (l 8) fun x8 => asI .i64 (l 9) fun x9 => Inv_again3 m_again3 origin_0 rs_1 rs_1n rs_1c x7 x7n x7c x8 x9 I S) m_again3 (cast (by kernel_rfl) h0) ?_
    clear h0
    intro m_again3 l I S hle h
    obtain ⟨origin_0, e0, h⟩ := asStr_e h
    obtain ⟨rs_1, rs_1n, rs_1c, e1, h⟩ := asSl_e h
    obtain ⟨x7, x7n, x7c, e7, h⟩ := asSl_e h
    obtain ⟨x8, e8, h⟩ := asI_e h
    obtain ⟨x9, e9, h⟩ := asI_e h
    rw [upd_eta e0, upd_eta e1, upd_eta e7, upd_eta e8, upd_eta e9]
    have h := hr m_again3 origin_0 rs_1 rs_1n rs_1c x7 x7n x7c x8 x9 I S hle h
    clear hr hle
    refine WP.cut 2 (fun l I S => asStr (l 0) fun origin_0 => asSl (l 1) fun rs_1 rs_1n rs_1c => asSl (l 7) fun x7 x7n x7c => asI .i64 (l 8) fun x8 => asI .i64 (l 9) fun x9 => stream_right_b4 (fun origin_0 rs_1 rs_1n rs_1c x7 x7n x7c x8 x9 I S => ∃ m', m' < m_again3 ∧ Inv_again3 m' origin_0 rs_1 rs_1n rs_1c x7 x7n x7c x8 x9 I S) R origin_0 rs_1 rs_1n rs_1c x7 x7n x7c x8 x9 I S) (cast (by kernel_rfl) h) ?_
    clear h
    intro l I S _ h
    obtain ⟨origin_0, e0, h⟩ := asStr_e h
    obtain ⟨rs_1, rs_1n, rs_1c, e1, h⟩ := asSl_e h
    obtain ⟨x7, x7n, x7c, e7, h⟩ := asSl_e h
    obtain ⟨x8, e8, h⟩ := asI_e h
    obtain ⟨x9, e9, h⟩ := asI_e h
    rw [upd_eta e0, upd_eta e1, upd_eta e7, upd_eta e8, upd_eta e9]
    refine WP.seqY (by kernel_rfl) (fun l I S => asStr (l 0) fun origin_0 => asSl (l 1) fun rs_1 rs_1n rs_1c => asSl (l 7) fun x7 x7n x7c => asI .i64 (l 8) fun x8 => asI .i64 (l 9) fun x9 => stream_right_b6 (fun origin_0 rs_1 rs_1n rs_1c x7 x7n x7c x8 x9 I S => ∃ m', m' < m_again3 ∧ Inv_again3 m' origin_0 rs_1 rs_1n rs_1c x7 x7n x7c x8 x9 I S) R origin_0 rs_1 rs_1n rs_1c x7 x7n x7c x8 x9 I S) ?_ ?_
    ·
      refine WP.block' (by kernel_rfl) ?_
      refine WP.cut 2 (fun l I S => asStr (l 0) fun origin_0 => asSl (l 1) fun rs_1 rs_1n rs_1c => asSl (l 7) fun x7 x7n x7c => asI .i64 (l 8) fun x8 => asI .i64 (l 9) fun x9 => asB (l 33) fun x33 => stream_right_b5 (fun origin_0 rs_1 rs_1n rs_1c x7 x7n x7c x8 x9 I S => ∃ m', m' < m_again3 ∧ Inv_again3 m' origin_0 rs_1 rs_1n rs_1c x7 x7n x7c x8 x9 I S) R origin_0 rs_1 rs_1n rs_1c x7 x7n x7c x8 x9 x33 I S) (cast (by kernel_rfl) h) ?_
      clear h
      intro l I S _ h
      obtain ⟨origin_0, e0, h⟩ := asStr_e h
      obtain ⟨rs_1, rs_1n, rs_1c, e1, h⟩ := asSl_e h
      obtain ⟨x7, x7n, x7c, e7, h⟩ := asSl_e h
      obtain ⟨x8, e8, h⟩ := asI_e h
      obtain ⟨x9, e9, h⟩ := asI_e h
      obtain ⟨x33, e33, h⟩ := asB_e h
      rw [upd_eta e0, upd_eta e1, upd_eta e7, upd_eta e8, upd_eta e9, upd_eta e33]
      exact Pre.sound _ _ _ _ _ (cast (by kernel_rfl) h)
    · clear h
      intro l I S _ h
      obtain ⟨origin_0, e0, h⟩ := asStr_e h
      obtain ⟨rs_1, rs_1n, rs_1c, e1, h⟩ := asSl_e h
      obtain ⟨x7, x7n, x7c, e7, h⟩ := asSl_e h
      obtain ⟨x8, e8, h⟩ := asI_e h
      obtain ⟨x9, e9, h⟩ := asI_e h
      rw [upd_eta e0, upd_eta e1, upd_eta e7, upd_eta e8, upd_eta e9]
      exact Pre.sound _ _ _ _ _ (cast (by kernel_rfl) h)
  · clear h
    intro l I S _ h
    obtain ⟨rs_1, rs_1n, rs_1c, e1, h⟩ := asSl_e h
    rw [upd_eta e1]
    refine WP.cut 1 (fun l I S => asB (l 4) fun x4 => stream_right_b8 R x4 I S) (cast (by kernel_rfl) h) ?_
    clear h
    intro l I S _ h
    obtain ⟨x4, e4, h⟩ := asB_e h
    rw [upd_eta e4]
    exact Pre.sound _ _ _ _ _ (cast (by kernel_rfl) h)
/-! ### stream_Full: function 46, bolter/stream.Full -/
noncomputable def stream_Full_code : Code := (Tryz.f46.body).getD .skip
def stream_Full_b6 (R : Value → IMem → SH → Prop) (rs_1 : Option Addr) (rs_1n : Nat) (rs_1c : Nat) (n_6 : Int) (I : IMem) (S : SH) : Prop :=
  (0 : Int) ≤ n_6 ∧ n_6 ≤ ((rs_1c : Nat) : Int) ∧
  AppG 32 4 40 [.string ⟨#[]⟩, .int .u16 0, .int .u32 0, .string ⟨#[]⟩] (some (.slice 32)) I S (.slice none 0 0) (.slice (slA rs_1 rs_1c 0 4) (n_6.toNat - 0) (rs_1c - 0)) fun x47 x47n x47c S1 =>
  R (.tuple #[.slice x47 x47n x47c, .nilIface]) I S1
def stream_Full_l5 (again5 : Option Addr → Nat → Nat → Int → Option Addr → Nat → Nat → Int → Int → IMem → SH → Prop) (R : Value → IMem → SH → Prop) (rs_1 : Option Addr) (rs_1n : Nat) (rs_1c : Nat) (n_6 : Int) (x33 : Option Addr) (x33n : Nat) (x33c : Nat) (x34 : Int) (x35 : Int) (I : IMem) (S : SH) : Prop :=
  bcase (decide (x35 < x34))
    (ptrP x33 fun x37 => (0 : Int) ≤ x35 ∧ x35 < (x33n : Int) ∧
    ∃ x38_0, Cell I S (x37.add (x35.toNat * 4)) (.string x38_0) ∧
    ∃ x38_1, Cell I S ((x37.add (x35.toNat * 4)).add 1) (.int .u16 x38_1) ∧
    ∃ x38_2, Cell I S ((x37.add (x35.toNat * 4)).add 2) (.int .u32 x38_2) ∧
    ∃ x38_3, Cell I S ((x37.add (x35.toNat * 4)).add 3) (.string x38_3) ∧
    ∀ b8 : Nat,
    StP ((b8, .cells #[.string ⟨#[]⟩, .int .u16 0, .int .u32 0, .string ⟨#[]⟩] 32 (0, 0)) :: S) ⟨b8, 0, none⟩ [.string x38_0, .int .u16 x38_1, .int .u32 x38_2, .string x38_3] fun S1 =>
    ∃ x40, Cell I S1 ⟨b8, 1, none⟩ (.int .u16 x40) ∧
    bcase (x40 == (6 : Int))
      (R (.tuple #[.slice none 0 0, (.iface 123 (.int .i64 4))]) I S1)
      (again5 rs_1 rs_1n rs_1c n_6 x33 x33n x33c x34 (IntKind.wrap .i64 (x35 + (1 : Int))) I S1))
    (stream_Full_b6 R rs_1 rs_1n rs_1c n_6 I S)
def stream_Full_b4 (R : Value → IMem → SH → Prop) (rs_1 : Option Addr) (rs_1n : Nat) (rs_1c : Nat) (n_6 : Int) (x33 : Option Addr) (x33n : Nat) (x33c : Nat) (x34 : Int) (x35 : Int) (I : IMem) (S : SH) : Prop :=
  ∃ (Inv : Nat → Option Addr → Nat → Nat → Int → Option Addr → Nat → Nat → Int → Int → IMem → SH → Prop) (m : Nat), Inv m rs_1 rs_1n rs_1c n_6 x33 x33n x33c x34 x35 I S ∧
    ∀ (m : Nat) (rs_1 : Option Addr) (rs_1n : Nat) (rs_1c : Nat) (n_6 : Int) (x33 : Option Addr) (x33n : Nat) (x33c : Nat) (x34 : Int) (x35 : Int) (J : IMem) (T : SH), I.le J → Inv m rs_1 rs_1n rs_1c n_6 x33 x33n x33c x34 x35 J T →
      stream_Full_l5 (fun rs_1 rs_1n rs_1c n_6 x33 x33n x33c x34 x35 I S => ∃ m', m' < m ∧ Inv m' rs_1 rs_1n rs_1c n_6 x33 x33n x33c x34 x35 I S) R rs_1 rs_1n rs_1c n_6 x33 x33n x33c x34 x35 J T
def stream_Full_b3 (R : Value → IMem → SH → Prop) (rs_1 : Option Addr) (rs_1n : Nat) (rs_1c : Nat) (n_6 : Int) (I : IMem) (S : SH) : Prop :=
  (0 : Int) ≤ n_6 ∧ n_6 ≤ ((rs_1c : Nat) : Int) ∧
  (0 : Int) ≤ (1 : Int) ∧ (1 : Int) ≤ ((n_6.toNat : Nat) : Int) ∧
  stream_Full_b4 R rs_1 rs_1n rs_1c n_6 (slA rs_1 rs_1c ((1 : Int).toNat) 4) (n_6.toNat - (1 : Int).toNat) (rs_1c - (1 : Int).toNat) (((n_6.toNat - (1 : Int).toNat) : Nat) : Int) 0 I S
def stream_Full_b2 (R : Value → IMem → SH → Prop) (rs_1 : Option Addr) (rs_1n : Nat) (rs_1c : Nat) (n_6 : Int) (x29 : Bool) (I : IMem) (S : SH) : Prop :=
  bcase x29
    (R (.tuple #[.slice none 0 0, (.iface 123 (.int .i64 4))]) I S)
    (stream_Full_b3 R rs_1 rs_1n rs_1c n_6 I S)
def stream_Full_b1 (R : Value → IMem → SH → Prop) (origin_0 : ByteArray) (rs_1 : Option Addr) (rs_1n : Nat) (rs_1c : Nat) (n_6 : Int) (I : IMem) (S : SH) : Prop :=
  Runs Tryz.prog 60 #[.string origin_0, .slice rs_1 rs_1n rs_1c] I S fun v I1 S1 => ∃ x14, v = .bool x14 ∧
  Keep I S I1 S1 ∧
  bcase (!x14)
    (stream_Full_b2 R rs_1 rs_1n rs_1c n_6 true I1 S1)
    (bcase (decide (n_6 < (1 : Int)))
      (stream_Full_b2 R rs_1 rs_1n rs_1c n_6 true I1 S1)
      (ptrP rs_1 fun x23 => (0 : Int) ≤ n_6 ∧ n_6 < (rs_1n : Int) ∧
      ∃ x24_0, Cell I S (x23.add (n_6.toNat * 4)) (.string x24_0) ∧
      ∃ x24_1, Cell I S ((x23.add (n_6.toNat * 4)).add 1) (.int .u16 x24_1) ∧
      ∃ x24_2, Cell I S ((x23.add (n_6.toNat * 4)).add 2) (.int .u32 x24_2) ∧
      ∃ x24_3, Cell I S ((x23.add (n_6.toNat * 4)).add 3) (.string x24_3) ∧
      ptrP rs_1 fun x26 => (0 : Int) ≤ (0 : Int) ∧ (0 : Int) < (rs_1n : Int) ∧
      ∃ x27_0, Cell I S (x26.add ((0 : Int).toNat * 4)) (.string x27_0) ∧
      ∃ x27_1, Cell I S ((x26.add ((0 : Int).toNat * 4)).add 1) (.int .u16 x27_1) ∧
      ∃ x27_2, Cell I S ((x26.add ((0 : Int).toNat * 4)).add 2) (.int .u32 x27_2) ∧
      ∃ x27_3, Cell I S ((x26.add ((0 : Int).toNat * 4)).add 3) (.string x27_3) ∧
      stream_Full_b2 R rs_1 rs_1n rs_1c n_6 (!(((x24_0 : ByteArray) == (x27_0 : ByteArray)) && (((x24_1 : Int) == (x27_1 : Int)) && (((x24_2 : Int) == (x27_2 : Int)) && (((x24_3 : ByteArray) == (x27_3 : ByteArray)) && true))))) I1 S1))
def stream_Full (R : Value → IMem → SH → Prop) (origin_0 : ByteArray) (rs_1 : Option Addr) (rs_1n : Nat) (rs_1c : Nat) (I : IMem) (S : SH) : Prop :=
  stream_Full_b1 R origin_0 rs_1 rs_1n rs_1c (IntKind.wrap .i64 ((rs_1n : Int) - (1 : Int))) I S
theorem stream_Full_fn (R : Value → IMem → SH → Prop) (origin_0 : ByteArray) (rs_1 : Option Addr) (rs_1n : Nat) (rs_1c : Nat) (I : IMem) (S : SH) (h : stream_Full R origin_0 rs_1 rs_1n rs_1c I S) :
    Runs Tryz.prog 46 #[.string origin_0, .slice rs_1 rs_1n rs_1c] I S R := by
  refine Runs.of_wp (args := [.string origin_0, .slice rs_1 rs_1n rs_1c]) (c := stream_Full_code) Tryz.func46 (by kernel_rfl) (by kernel_rfl) ?_
  refine WP.cut 2 (fun l I S => asStr (l 0) fun origin_0 => asSl (l 1) fun rs_1 rs_1n rs_1c => asI .i64 (l 6) fun n_6 => stream_Full_b1 R origin_0 rs_1 rs_1n rs_1c n_6 I S) (cast (by kernel_rfl) h) ?_
  clear h
  intro l I S _ h
  obtain ⟨origin_0, e0, h⟩ := asStr_e h
  obtain ⟨rs_1, rs_1n, rs_1c, e1, h⟩ := asSl_e h
  obtain ⟨n_6, e6, h⟩ := asI_e h
  rw [upd_eta e0, upd_eta e1, upd_eta e6]
  refine WP.seqY (by kernel_rfl) (fun l I S => asSl (l 1) fun rs_1 rs_1n rs_1c => asI .i64 (l 6) fun n_6 => stream_Full_b3 R rs_1 rs_1n rs_1c n_6 I S) ?_ ?_
  ·
    refine WP.seqY (by kernel_rfl) (fun l I S => asSl (l 1) fun rs_1 rs_1n rs_1c => asI .i64 (l 6) fun n_6 => asB (l 29) fun x29 => stream_Full_b2 R rs_1 rs_1n rs_1c n_6 x29 I S) ?_ ?_
    ·
      exact WP.draw' (.take 0 (.take 1 (.step 2 (.take 3 (.take 4 (.take 5 (.take 6 (.take 7 (.take 8 (.take 9 (.take 10 (.take 11 (.take 12 (.take 13 (.take 14 (.take 15 (.take 16 (.take 17 .done)))))))))))))))))) [2] (by kernel_rfl) (by kernel_rfl) (by kernel_rfl) (by kernel_rfl) (by kernel_rfl) (cast (by kernel_rfl) h)
    · clear h
      intro l I S _ h
      obtain ⟨rs_1, rs_1n, rs_1c, e1, h⟩ := asSl_e h
      obtain ⟨n_6, e6, h⟩ := asI_e h
      obtain ⟨x29, e29, h⟩ := asB_e h
      rw [upd_eta e1, upd_eta e6, upd_eta e29]
      exact Pre.sound _ _ _ _ _ (cast (by kernel_rfl) h)
  · clear h
    intro l I S _ h
    obtain ⟨rs_1, rs_1n, rs_1c, e1, h⟩ := asSl_e h
    obtain ⟨n_6, e6, h⟩ := asI_e h
    rw [upd_eta e1, upd_eta e6]
    refine WP.seqY (by kernel_rfl) (fun l I S => asSl (l 1) fun rs_1 rs_1n rs_1c => asI .i64 (l 6) fun n_6 => stream_Full_b6 R rs_1 rs_1n rs_1c n_6 I S) ?_ ?_
    ·
      refine WP.cut 1 (fun l I S => asSl (l 1) fun rs_1 rs_1n rs_1c => asI .i64 (l 6) fun n_6 => asSl (l 33) fun x33 x33n x33c => asI .i64 (l 34) fun x34 => asI .i64 (l 35) fun x35 => stream_Full_b4 R rs_1 rs_1n rs_1c n_6 x33 x33n x33c x34 x35 I S) (cast (by kernel_rfl) h) ?_
      clear h
      intro l I S _ h
      obtain ⟨rs_1, rs_1n, rs_1c, e1, h⟩ := asSl_e h
      obtain ⟨n_6, e6, h⟩ := asI_e h
      obtain ⟨x33, x33n, x33c, e33, h⟩ := asSl_e h
      obtain ⟨x34, e34, h⟩ := asI_e h
      obtain ⟨x35, e35, h⟩ := asI_e h
      rw [upd_eta e1, upd_eta e6, upd_eta e33, upd_eta e34, upd_eta e35]
      refine WP.block' (by kernel_rfl) ?_
      obtain ⟨Inv_again5, m_again5, h0, hr⟩ := h
      refine WP.loop' (by kernel_rfl) (fun m_again5 => fun l I S => asSl (l 1) fun rs_1 rs_1n rs_1c => asI .i64 (l 6) fun n_6 => asSl (l 33) fun x33 x33n x33c => asI .i64 (l 34) fun x34 => asI .i64 (l 35) fun x35 => Inv_again5 m_again5 rs_1 rs_1n rs_1c n_6 x33 x33n x33c x34 x35 I S) m_again5 (cast (by kernel_rfl) h0) ?_
      clear h0
      intro m_again5 l I S hle h
      obtain ⟨rs_1, rs_1n, rs_1c, e1, h⟩ := asSl_e h
      obtain ⟨n_6, e6, h⟩ := asI_e h
      obtain ⟨x33, x33n, x33c, e33, h⟩ := asSl_e h
      obtain ⟨x34, e34, h⟩ := asI_e h
      obtain ⟨x35, e35, h⟩ := asI_e h
      rw [upd_eta e1, upd_eta e6, upd_eta e33, upd_eta e34, upd_eta e35]
      have h := hr m_again5 rs_1 rs_1n rs_1c n_6 x33 x33n x33c x34 x35 I S hle h
      clear hr hle
      exact Pre.sound _ _ _ _ _ (cast (by kernel_rfl) h)
    · clear h
      intro l I S _ h
      obtain ⟨rs_1, rs_1n, rs_1c, e1, h⟩ := asSl_e h
      obtain ⟨n_6, e6, h⟩ := asI_e h
      rw [upd_eta e1, upd_eta e6]
      exact Pre.sound _ _ _ _ _ (cast (by kernel_rfl) h)
/-! ### stream_run: function 87, bolter/stream.run -/
noncomputable def stream_run_code : Code := (Tryz.f87.body).getD .skip
def stream_run_b6 (again3 : Option Addr → Nat → Nat → Option Addr → Nat → Nat → Int → Int → IMem → SH → Prop) (R : Value → IMem → SH → Prop) (x2 : Option Addr) (x2n : Nat) (x2c : Nat) (x3 : Option Addr) (x3n : Nat) (x3c : Nat) (I : IMem) (S : SH) : Prop :=
  R (.tuple #[.slice x2 x2n x2c, .slice x3 x3n x3c]) I S
def stream_run_b7 (again3 : Option Addr → Nat → Nat → Option Addr → Nat → Nat → Int → Int → IMem → SH → Prop) (R : Value → IMem → SH → Prop) (rs_0 : Option Addr) (rs_0n : Nat) (rs_0c : Nat) (x6 : Option Addr) (x6n : Nat) (x6c : Nat) (x7 : Int) (x8 : Int) (I : IMem) (S : SH) : Prop :=
  again3 rs_0 rs_0n rs_0c x6 x6n x6c x7 (IntKind.wrap .i64 (x8 + (1 : Int))) I S
def stream_run_b5 (again3 : Option Addr → Nat → Nat → Option Addr → Nat → Nat → Int → Int → IMem → SH → Prop) (R : Value → IMem → SH → Prop) (rs_0 : Option Addr) (rs_0n : Nat) (rs_0c : Nat) (k_4 : Int) (x6 : Option Addr) (x6n : Nat) (x6c : Nat) (x7 : Int) (x8 : Int) (x15 : Bool) (I : IMem) (S : SH) : Prop :=
  bcase x15
    ((0 : Int) ≤ k_4 ∧ k_4 ≤ ((rs_0c : Nat) : Int) ∧
    (0 : Int) ≤ k_4 ∧ k_4 ≤ ((rs_0n : Nat) : Int) ∧
    AppG 32 4 40 [.string ⟨#[]⟩, .int .u16 0, .int .u32 0, .string ⟨#[]⟩] (some (.slice 32)) I S (.slice none 0 0) (.slice (slA rs_0 rs_0c 0 4) (k_4.toNat - 0) (rs_0c - 0)) fun x19 x19n x19c S1 =>
    stream_run_b6 again3 R x19 x19n x19c (slA rs_0 rs_0c k_4.toNat 4) (rs_0n - k_4.toNat) (rs_0c - k_4.toNat) I S1)
    (stream_run_b7 again3 R rs_0 rs_0n rs_0c x6 x6n x6c x7 x8 I S)
def stream_run_b4 (again3 : Option Addr → Nat → Nat → Option Addr → Nat → Nat → Int → Int → IMem → SH → Prop) (R : Value → IMem → SH → Prop) (rs_0 : Option Addr) (rs_0n : Nat) (rs_0c : Nat) (x6 : Option Addr) (x6n : Nat) (x6c : Nat) (x7 : Int) (x8 : Int) (I : IMem) (S : SH) : Prop :=
  ptrP x6 fun x11 => (0 : Int) ≤ x8 ∧ x8 < (x6n : Int) ∧
  ∃ x12_0, Cell I S (x11.add (x8.toNat * 4)) (.string x12_0) ∧
  ∃ x12_1, Cell I S ((x11.add (x8.toNat * 4)).add 1) (.int .u16 x12_1) ∧
  ∃ x12_2, Cell I S ((x11.add (x8.toNat * 4)).add 2) (.int .u32 x12_2) ∧
  ∃ x12_3, Cell I S ((x11.add (x8.toNat * 4)).add 3) (.string x12_3) ∧
  ∀ b5 : Nat,
  StP ((b5, .cells #[.string ⟨#[]⟩, .int .u16 0, .int .u32 0, .string ⟨#[]⟩] 32 (0, 0)) :: S) ⟨b5, 0, none⟩ [.string x12_0, .int .u16 x12_1, .int .u32 x12_2, .string x12_3] fun S1 =>
  ∃ x14, Cell I S1 ⟨b5, 1, none⟩ (.int .u16 x14) ∧
  stream_run_b5 again3 R rs_0 rs_0n rs_0c x8 x6 x6n x6c x7 x8 (x14 == (6 : Int)) I S1
def stream_run_b8 (R : Value → IMem → SH → Prop) (rs_0 : Option Addr) (rs_0n : Nat) (rs_0c : Nat) (I : IMem) (S : SH) : Prop :=
  AppG 32 4 40 [.string ⟨#[]⟩, .int .u16 0, .int .u32 0, .string ⟨#[]⟩] (some (.slice 32)) I S (.slice none 0 0) (.slice rs_0 rs_0n rs_0c) fun x25 x25n x25c S1 =>
  R (.tuple #[.slice x25 x25n x25c, .slice none 0 0]) I S1
def stream_run_l3 (again3 : Option Addr → Nat → Nat → Option Addr → Nat → Nat → Int → Int → IMem → SH → Prop) (R : Value → IMem → SH → Prop) (rs_0 : Option Addr) (rs_0n : Nat) (rs_0c : Nat) (x6 : Option Addr) (x6n : Nat) (x6c : Nat) (x7 : Int) (x8 : Int) (I : IMem) (S : SH) : Prop :=
  bcase (decide (x8 < x7))
    (stream_run_b4 again3 R rs_0 rs_0n rs_0c x6 x6n x6c x7 x8 I S)
    (stream_run_b8 R rs_0 rs_0n rs_0c I S)
def stream_run_b2 (R : Value → IMem → SH → Prop) (rs_0 : Option Addr) (rs_0n : Nat) (rs_0c : Nat) (x6 : Option Addr) (x6n : Nat) (x6c : Nat) (x7 : Int) (x8 : Int) (I : IMem) (S : SH) : Prop :=
  ∃ (Inv : Nat → Option Addr → Nat → Nat → Option Addr → Nat → Nat → Int → Int → IMem → SH → Prop) (m : Nat), Inv m rs_0 rs_0n rs_0c x6 x6n x6c x7 x8 I S ∧
    ∀ (m : Nat) (rs_0 : Option Addr) (rs_0n : Nat) (rs_0c : Nat) (x6 : Option Addr) (x6n : Nat) (x6c : Nat) (x7 : Int) (x8 : Int) (J : IMem) (T : SH), I.le J → Inv m rs_0 rs_0n rs_0c x6 x6n x6c x7 x8 J T →
      stream_run_l3 (fun rs_0 rs_0n rs_0c x6 x6n x6c x7 x8 I S => ∃ m', m' < m ∧ Inv m' rs_0 rs_0n rs_0c x6 x6n x6c x7 x8 I S) R rs_0 rs_0n rs_0c x6 x6n x6c x7 x8 J T
def stream_run_b1 (R : Value → IMem → SH → Prop) (rs_0 : Option Addr) (rs_0n : Nat) (rs_0c : Nat) (I : IMem) (S : SH) : Prop :=
  stream_run_b2 R rs_0 rs_0n rs_0c rs_0 rs_0n rs_0c (rs_0n : Int) 0 I S
def stream_run (R : Value → IMem → SH → Prop) (rs_0 : Option Addr) (rs_0n : Nat) (rs_0c : Nat) (I : IMem) (S : SH) : Prop :=
  stream_run_b1 R rs_0 rs_0n rs_0c I S
theorem stream_run_fn (R : Value → IMem → SH → Prop) (rs_0 : Option Addr) (rs_0n : Nat) (rs_0c : Nat) (I : IMem) (S : SH) (h : stream_run R rs_0 rs_0n rs_0c I S) :
    Runs Tryz.prog 87 #[.slice rs_0 rs_0n rs_0c] I S R := by
  refine Runs.of_wp (args := [.slice rs_0 rs_0n rs_0c]) (c := stream_run_code) Tryz.func87 (by kernel_rfl) (by kernel_rfl) ?_
  refine WP.cut 1 (fun l I S => asSl (l 0) fun rs_0 rs_0n rs_0c => stream_run_b1 R rs_0 rs_0n rs_0c I S) (cast (by kernel_rfl) h) ?_
  clear h
  intro l I S _ h
  obtain ⟨rs_0, rs_0n, rs_0c, e0, h⟩ := asSl_e h
  rw [upd_eta e0]
  refine WP.seqY (by kernel_rfl) (fun l I S => asSl (l 0) fun rs_0 rs_0n rs_0c => stream_run_b8 R rs_0 rs_0n rs_0c I S) ?_ ?_
  ·
    refine WP.cut 1 (fun l I S => asSl (l 0) fun rs_0 rs_0n rs_0c => asSl (l 6) fun x6 x6n x6c => asI .i64 (l 7) fun x7 => asI .i64 (l 8) fun x8 => stream_run_b2 R rs_0 rs_0n rs_0c x6 x6n x6c x7 x8 I S) (cast (by kernel_rfl) h) ?_
    clear h
    intro l I S _ h
    obtain ⟨rs_0, rs_0n, rs_0c, e0, h⟩ := asSl_e h
    obtain ⟨x6, x6n, x6c, e6, h⟩ := asSl_e h
    obtain ⟨x7, e7, h⟩ := asI_e h
    obtain ⟨x8, e8, h⟩ := asI_e h
    rw [upd_eta e0, upd_eta e6, upd_eta e7, upd_eta e8]
    refine WP.block' (by kernel_rfl) ?_
    obtain ⟨Inv_again3, m_again3, h0, hr⟩ := h
    refine WP.loop' (by kernel_rfl) (fun m_again3 => fun l I S => asSl (l 0) fun rs_0 rs_0n rs_0c => asSl (l 6) fun x6 x6n x6c => asI .i64 (l 7) fun x7 => asI .i64 (l 8) fun x8 => Inv_again3 m_again3 rs_0 rs_0n rs_0c x6 x6n x6c x7 x8 I S) m_again3 (cast (by kernel_rfl) h0) ?_
    clear h0
    intro m_again3 l I S hle h
    obtain ⟨rs_0, rs_0n, rs_0c, e0, h⟩ := asSl_e h
    obtain ⟨x6, x6n, x6c, e6, h⟩ := asSl_e h
    obtain ⟨x7, e7, h⟩ := asI_e h
    obtain ⟨x8, e8, h⟩ := asI_e h
    rw [upd_eta e0, upd_eta e6, upd_eta e7, upd_eta e8]
    have h := hr m_again3 rs_0 rs_0n rs_0c x6 x6n x6c x7 x8 I S hle h
    clear hr hle
    refine WP.cut 2 (fun l I S => asSl (l 0) fun rs_0 rs_0n rs_0c => asSl (l 6) fun x6 x6n x6c => asI .i64 (l 7) fun x7 => asI .i64 (l 8) fun x8 => stream_run_b4 (fun rs_0 rs_0n rs_0c x6 x6n x6c x7 x8 I S => ∃ m', m' < m_again3 ∧ Inv_again3 m' rs_0 rs_0n rs_0c x6 x6n x6c x7 x8 I S) R rs_0 rs_0n rs_0c x6 x6n x6c x7 x8 I S) (cast (by kernel_rfl) h) ?_
    clear h
    intro l I S _ h
    obtain ⟨rs_0, rs_0n, rs_0c, e0, h⟩ := asSl_e h
    obtain ⟨x6, x6n, x6c, e6, h⟩ := asSl_e h
    obtain ⟨x7, e7, h⟩ := asI_e h
    obtain ⟨x8, e8, h⟩ := asI_e h
    rw [upd_eta e0, upd_eta e6, upd_eta e7, upd_eta e8]
    refine WP.seqY (by kernel_rfl) (fun l I S => asSl (l 0) fun rs_0 rs_0n rs_0c => asSl (l 6) fun x6 x6n x6c => asI .i64 (l 7) fun x7 => asI .i64 (l 8) fun x8 => stream_run_b7 (fun rs_0 rs_0n rs_0c x6 x6n x6c x7 x8 I S => ∃ m', m' < m_again3 ∧ Inv_again3 m' rs_0 rs_0n rs_0c x6 x6n x6c x7 x8 I S) R rs_0 rs_0n rs_0c x6 x6n x6c x7 x8 I S) ?_ ?_
    ·
      refine WP.block' (by kernel_rfl) ?_
      refine WP.cut 2 (fun l I S => asSl (l 0) fun rs_0 rs_0n rs_0c => asI .i64 (l 4) fun k_4 => asSl (l 6) fun x6 x6n x6c => asI .i64 (l 7) fun x7 => asI .i64 (l 8) fun x8 => asB (l 15) fun x15 => stream_run_b5 (fun rs_0 rs_0n rs_0c x6 x6n x6c x7 x8 I S => ∃ m', m' < m_again3 ∧ Inv_again3 m' rs_0 rs_0n rs_0c x6 x6n x6c x7 x8 I S) R rs_0 rs_0n rs_0c k_4 x6 x6n x6c x7 x8 x15 I S) (cast (by kernel_rfl) h) ?_
      clear h
      intro l I S _ h
      obtain ⟨rs_0, rs_0n, rs_0c, e0, h⟩ := asSl_e h
      obtain ⟨k_4, e4, h⟩ := asI_e h
      obtain ⟨x6, x6n, x6c, e6, h⟩ := asSl_e h
      obtain ⟨x7, e7, h⟩ := asI_e h
      obtain ⟨x8, e8, h⟩ := asI_e h
      obtain ⟨x15, e15, h⟩ := asB_e h
      rw [upd_eta e0, upd_eta e4, upd_eta e6, upd_eta e7, upd_eta e8, upd_eta e15]
      refine WP.cond' (by kernel_rfl) (by kernel_rfl) h ?_ ?_
      · clear h
        intro h
        refine WP.seqY (by kernel_rfl) (fun l I S => asSl (l 2) fun x2 x2n x2c => asSl (l 3) fun x3 x3n x3c => stream_run_b6 (fun rs_0 rs_0n rs_0c x6 x6n x6c x7 x8 I S => ∃ m', m' < m_again3 ∧ Inv_again3 m' rs_0 rs_0n rs_0c x6 x6n x6c x7 x8 I S) R x2 x2n x2c x3 x3n x3c I S) ?_ ?_
        ·
          exact WP.draw' (.take 0 (.take 1 (.take 2 (.take 4 (.take 5 (.take 6 (.step 3 (.take 7 (.take 8 .done))))))))) [3] (by kernel_rfl) (by kernel_rfl) (by kernel_rfl) (by kernel_rfl) (by kernel_rfl) (cast (by kernel_rfl) h)
        · clear h
          intro l I S _ h
          obtain ⟨x2, x2n, x2c, e2, h⟩ := asSl_e h
          obtain ⟨x3, x3n, x3c, e3, h⟩ := asSl_e h
          rw [upd_eta e2, upd_eta e3]
          exact Pre.sound _ _ _ _ _ (cast (by kernel_rfl) h)
      · clear h
        intro h
        exact Pre.sound _ _ _ _ _ (cast (by kernel_rfl) h)
    · clear h
      intro l I S _ h
      obtain ⟨rs_0, rs_0n, rs_0c, e0, h⟩ := asSl_e h
      obtain ⟨x6, x6n, x6c, e6, h⟩ := asSl_e h
      obtain ⟨x7, e7, h⟩ := asI_e h
      obtain ⟨x8, e8, h⟩ := asI_e h
      rw [upd_eta e0, upd_eta e6, upd_eta e7, upd_eta e8]
      exact Pre.sound _ _ _ _ _ (cast (by kernel_rfl) h)
  · clear h
    intro l I S _ h
    obtain ⟨rs_0, rs_0n, rs_0c, e0, h⟩ := asSl_e h
    rw [upd_eta e0]
    exact Pre.sound _ _ _ _ _ (cast (by kernel_rfl) h)
/-! ### stream_serial: function 65, bolter/stream.serial -/
noncomputable def stream_serial_code : Code := (Tryz.f65.body).getD .skip
def stream_serial (R : Value → IMem → SH → Prop) (r_0_0 : ByteArray) (r_0_1 : Int) (r_0_2 : Int) (r_0_3 : ByteArray) (I : IMem) (S : SH) : Prop :=
  ∀ b1 : Nat,
  ∃ x6_0, Cell I ((b1, .cells #[.string r_0_0, .int .u16 r_0_1, .int .u32 r_0_2, .string r_0_3] 32 (0, 0)) :: S) ⟨b1, 0, none⟩ (.string x6_0) ∧
  ∃ x6_1, Cell I ((b1, .cells #[.string r_0_0, .int .u16 r_0_1, .int .u32 r_0_2, .string r_0_3] 32 (0, 0)) :: S) ⟨b1, 1, none⟩ (.int .u16 x6_1) ∧
  ∃ x6_2, Cell I ((b1, .cells #[.string r_0_0, .int .u16 r_0_1, .int .u32 r_0_2, .string r_0_3] 32 (0, 0)) :: S) ⟨b1, 2, none⟩ (.int .u32 x6_2) ∧
  ∃ x6_3, Cell I ((b1, .cells #[.string r_0_0, .int .u16 r_0_1, .int .u32 r_0_2, .string r_0_3] 32 (0, 0)) :: S) ⟨b1, 3, none⟩ (.string x6_3) ∧
  Runs Tryz.prog 39 #[.agg #[.string x6_0, .int .u16 x6_1, .int .u32 x6_2, .string x6_3]] I ((b1, .cells #[.string r_0_0, .int .u16 r_0_1, .int .u32 r_0_2, .string r_0_3] 32 (0, 0)) :: S) fun v I1 S1 => ∃ x7_0_0 x7_0_1 x7_0_2 x7_0_3 x7_0_4 x7_0_5 x7_0_6 x7_1, v = .tuple #[.agg #[.string x7_0_0, .string x7_0_1, .int .u32 x7_0_2, .int .u32 x7_0_3, .int .u32 x7_0_4, .int .u32 x7_0_5, .int .u32 x7_0_6], .bool x7_1] ∧
  ∀ b3 : Nat,
  StP ((b3, .cells #[.string ⟨#[]⟩, .string ⟨#[]⟩, .int .u32 0, .int .u32 0, .int .u32 0, .int .u32 0, .int .u32 0] 67 (0, 0)) :: S1) ⟨b3, 0, none⟩ [.string x7_0_0, .string x7_0_1, .int .u32 x7_0_2, .int .u32 x7_0_3, .int .u32 x7_0_4, .int .u32 x7_0_5, .int .u32 x7_0_6] fun S1' =>
  ∃ x11, Cell I1 S1' ⟨b3, 2, none⟩ (.int .u32 x11) ∧
  R (.int .u32 x11) I1 S1'
theorem stream_serial_fn (R : Value → IMem → SH → Prop) (r_0_0 : ByteArray) (r_0_1 : Int) (r_0_2 : Int) (r_0_3 : ByteArray) (I : IMem) (S : SH) (h : stream_serial R r_0_0 r_0_1 r_0_2 r_0_3 I S) :
    Runs Tryz.prog 65 #[.agg #[.string r_0_0, .int .u16 r_0_1, .int .u32 r_0_2, .string r_0_3]] I S R := by
  refine Runs.of_wp (args := [.agg #[.string r_0_0, .int .u16 r_0_1, .int .u32 r_0_2, .string r_0_3]]) (c := stream_serial_code) Tryz.func65 (by kernel_rfl) (by kernel_rfl) ?_
  exact Pre.sound _ _ _ _ _ (cast (by kernel_rfl) h)
/-! ### stream_Part: function 48, bolter/stream.Part -/
noncomputable def stream_Part_code : Code := (Tryz.f48.body).getD .skip
def stream_Part (R : Value → IMem → SH → Prop) (origin_0 : ByteArray) (from_1 : Int) (rs_2 : Option Addr) (rs_2n : Nat) (rs_2c : Nat) (I : IMem) (S : SH) : Prop :=
  ∀ b6 : Nat,
  Runs Tryz.prog 60 #[.string origin_0, .slice rs_2 rs_2n rs_2c] I ((b6, .cells #[.bool false, .slice none 0 0, .slice none 0 0] 100 (0, 0)) :: S) fun v I1 S1 => ∃ x12, v = .bool x12 ∧
  bcase (!x12)
    (StP S1 ⟨b6, 0, none⟩ [.bool false, .slice none 0 0, .slice none 0 0] fun S1' =>
    ∃ r6_0, Cell I1 S1' ⟨b6, 0, none⟩ (.bool r6_0) ∧
    ∃ r6_1 r6_1n r6_1c, Cell I1 S1' ⟨b6, 1, none⟩ (.slice r6_1 r6_1n r6_1c) ∧
    ∃ r6_2 r6_2n r6_2c, Cell I1 S1' ⟨b6, 2, none⟩ (.slice r6_2 r6_2n r6_2c) ∧
    R (.tuple #[.agg #[.bool r6_0, .slice r6_1 r6_1n r6_1c, .slice r6_2 r6_2n r6_2c], (.iface 123 (.int .i64 4))]) I1 S1')
    (bcase ((rs_2n : Int) == (1 : Int))
      (ptrP rs_2 fun x20 => (0 : Int) ≤ (0 : Int) ∧ (0 : Int) < (rs_2n : Int) ∧
      ∃ x21_0, Cell I1 S1 (x20.add ((0 : Int).toNat * 4)) (.string x21_0) ∧
      ∃ x21_1, Cell I1 S1 ((x20.add ((0 : Int).toNat * 4)).add 1) (.int .u16 x21_1) ∧
      ∃ x21_2, Cell I1 S1 ((x20.add ((0 : Int).toNat * 4)).add 2) (.int .u32 x21_2) ∧
      ∃ x21_3, Cell I1 S1 ((x20.add ((0 : Int).toNat * 4)).add 3) (.string x21_3) ∧
      Runs Tryz.prog 65 #[.agg #[.string x21_0, .int .u16 x21_1, .int .u32 x21_2, .string x21_3]] I1 S1 fun v' I1' S1'' => ∃ x22, v' = .int .u32 x22 ∧
      bcase (x22 != from_1)
        (StP S1'' ⟨b6, 0, none⟩ [.bool false, .slice none 0 0, .slice none 0 0] fun S1_r3 =>
        ∃ r6_0', Cell I1' S1_r3 ⟨b6, 0, none⟩ (.bool r6_0') ∧
        ∃ r6_1' r6_1'n r6_1'c, Cell I1' S1_r3 ⟨b6, 1, none⟩ (.slice r6_1' r6_1'n r6_1'c) ∧
        ∃ r6_2' r6_2'n r6_2'c, Cell I1' S1_r3 ⟨b6, 2, none⟩ (.slice r6_2' r6_2'n r6_2'c) ∧
        R (.tuple #[.agg #[.bool r6_0', .slice r6_1' r6_1'n r6_1'c, .slice r6_2' r6_2'n r6_2'c], (.iface 123 (.int .i64 5))]) I1' S1_r3)
        (StP S1'' ⟨b6, 0, none⟩ [.bool true, .slice none 0 0, .slice none 0 0] fun S1_r4 =>
        ∃ r6_0'', Cell I1' S1_r4 ⟨b6, 0, none⟩ (.bool r6_0'') ∧
        ∃ r6_1'' r6_1''n r6_1''c, Cell I1' S1_r4 ⟨b6, 1, none⟩ (.slice r6_1'' r6_1''n r6_1''c) ∧
        ∃ r6_2'' r6_2''n r6_2''c, Cell I1' S1_r4 ⟨b6, 2, none⟩ (.slice r6_2'' r6_2''n r6_2''c) ∧
        R (.tuple #[.agg #[.bool r6_0'', .slice r6_1'' r6_1''n r6_1''c, .slice r6_2'' r6_2''n r6_2''c], .nilIface]) I1' S1_r4))
      (Runs Tryz.prog 46 #[.string origin_0, .slice rs_2 rs_2n rs_2c] I1 S1 fun v'' I1'' S1_r5 => ∃ x31_0 x31_0n x31_0c x31_1, v'' = .tuple #[.slice x31_0 x31_0n x31_0c, x31_1] ∧
      ∃ nl, isNilI x31_1 = some nl ∧
      bcase nl
        (StP S1_r5 ⟨b6, 0, none⟩ [.bool false, .slice x31_0 x31_0n x31_0c, .slice none 0 0] fun S1_r6 =>
        ∃ r6_0_r3, Cell I1'' S1_r6 ⟨b6, 0, none⟩ (.bool r6_0_r3) ∧
        ∃ r6_1_r3 r6_1_r3n r6_1_r3c, Cell I1'' S1_r6 ⟨b6, 1, none⟩ (.slice r6_1_r3 r6_1_r3n r6_1_r3c) ∧
        ∃ r6_2_r3 r6_2_r3n r6_2_r3c, Cell I1'' S1_r6 ⟨b6, 2, none⟩ (.slice r6_2_r3 r6_2_r3n r6_2_r3c) ∧
        R (.tuple #[.agg #[.bool r6_0_r3, .slice r6_1_r3 r6_1_r3n r6_1_r3c, .slice r6_2_r3 r6_2_r3n r6_2_r3c], .nilIface]) I1'' S1_r6)
        (Runs Tryz.prog 66 #[.int .u32 from_1, .slice rs_2 rs_2n rs_2c] I1'' S1_r5 fun v_r3 I1_r3 S1_r7 => ∃ x40_0_0 x40_0_1 x40_0_1n x40_0_1c x40_0_2 x40_0_2n x40_0_2c x40_1, v_r3 = .tuple #[.agg #[.bool x40_0_0, .slice x40_0_1 x40_0_1n x40_0_1c, .slice x40_0_2 x40_0_2n x40_0_2c], x40_1] ∧
        StP S1_r7 ⟨b6, 0, none⟩ [.bool x40_0_0, .slice x40_0_1 x40_0_1n x40_0_1c, .slice x40_0_2 x40_0_2n x40_0_2c] fun S1_r8 =>
        ∃ r6_0_r4, Cell I1_r3 S1_r8 ⟨b6, 0, none⟩ (.bool r6_0_r4) ∧
        ∃ r6_1_r4 r6_1_r4n r6_1_r4c, Cell I1_r3 S1_r8 ⟨b6, 1, none⟩ (.slice r6_1_r4 r6_1_r4n r6_1_r4c) ∧
        ∃ r6_2_r4 r6_2_r4n r6_2_r4c, Cell I1_r3 S1_r8 ⟨b6, 2, none⟩ (.slice r6_2_r4 r6_2_r4n r6_2_r4c) ∧
        R (.tuple #[.agg #[.bool r6_0_r4, .slice r6_1_r4 r6_1_r4n r6_1_r4c, .slice r6_2_r4 r6_2_r4n r6_2_r4c], x40_1]) I1_r3 S1_r8)))
theorem stream_Part_fn (R : Value → IMem → SH → Prop) (origin_0 : ByteArray) (from_1 : Int) (rs_2 : Option Addr) (rs_2n : Nat) (rs_2c : Nat) (I : IMem) (S : SH) (h : stream_Part R origin_0 from_1 rs_2 rs_2n rs_2c I S) :
    Runs Tryz.prog 48 #[.string origin_0, .int .u32 from_1, .slice rs_2 rs_2n rs_2c] I S R := by
  refine Runs.of_wp (args := [.string origin_0, .int .u32 from_1, .slice rs_2 rs_2n rs_2c]) (c := stream_Part_code) Tryz.func48 (by kernel_rfl) (by kernel_rfl) ?_
  exact Pre.sound _ _ _ _ _ (cast (by kernel_rfl) h)
/-! ### stream_deltas: function 66, bolter/stream.deltas -/
noncomputable def stream_deltas_code : Code := (Tryz.f66.body).getD .skip
def stream_deltas_b5 (R : Value → IMem → SH → Prop) (x4 : Addr) (out_8 : Option Addr) (out_8n : Nat) (out_8c : Nat) (I : IMem) (S : SH) : Prop :=
  StP S x4 [.bool false, .slice none 0 0, .slice out_8 out_8n out_8c] fun S1 =>
  ∃ r4_0, Cell I S1 x4 (.bool r4_0) ∧
  ∃ r4_1 r4_1n r4_1c, Cell I S1 (x4.add 1) (.slice r4_1 r4_1n r4_1c) ∧
  ∃ r4_2 r4_2n r4_2c, Cell I S1 (x4.add 2) (.slice r4_2 r4_2n r4_2c) ∧
  R (.tuple #[.agg #[.bool r4_0, .slice r4_1 r4_1n r4_1c, .slice r4_2 r4_2n r4_2c], .nilIface]) I S1
def stream_deltas_b4 (R : Value → IMem → SH → Prop) (x4 : Addr) (out_8 : Option Addr) (out_8n : Nat) (out_8c : Nat) (x91 : Bool) (I : IMem) (S : SH) : Prop :=
  bcase x91
    (StP S x4 [.bool false, .slice none 0 0, .slice none 0 0] fun S1 =>
    ∃ r4_0, Cell I S1 x4 (.bool r4_0) ∧
    ∃ r4_1 r4_1n r4_1c, Cell I S1 (x4.add 1) (.slice r4_1 r4_1n r4_1c) ∧
    ∃ r4_2 r4_2n r4_2c, Cell I S1 (x4.add 2) (.slice r4_2 r4_2n r4_2c) ∧
    R (.tuple #[.agg #[.bool r4_0, .slice r4_1 r4_1n r4_1c, .slice r4_2 r4_2n r4_2c], (.iface 123 (.int .i64 4))]) I S1)
    (stream_deltas_b5 R x4 out_8 out_8n out_8c I S)
def stream_deltas_b3 (R : Value → IMem → SH → Prop) (x4 : Addr) (last_6 : Addr) (rest_7 : Option Addr) (rest_7n : Nat) (rest_7c : Nat) (out_8 : Option Addr) (out_8n : Nat) (out_8c : Nat) (I : IMem) (S : SH) : Prop :=
  bcase ((out_8n : Int) == (0 : Int))
    (stream_deltas_b4 R x4 out_8 out_8n out_8c true I S)
    (bcase ((rest_7n : Int) != (1 : Int))
      (stream_deltas_b4 R x4 out_8 out_8n out_8c true I S)
      (ptrP rest_7 fun x76 => (0 : Int) ≤ (0 : Int) ∧ (0 : Int) < (rest_7n : Int) ∧
      ∃ x77_0, Cell I S (x76.add ((0 : Int).toNat * 4)) (.string x77_0) ∧
      ∃ x77_1, Cell I S ((x76.add ((0 : Int).toNat * 4)).add 1) (.int .u16 x77_1) ∧
      ∃ x77_2, Cell I S ((x76.add ((0 : Int).toNat * 4)).add 2) (.int .u32 x77_2) ∧
      ∃ x77_3, Cell I S ((x76.add ((0 : Int).toNat * 4)).add 3) (.string x77_3) ∧
      ∃ x78_0, Cell I S last_6 (.string x78_0) ∧
      ∃ x78_1, Cell I S (last_6.add 1) (.int .u16 x78_1) ∧
      ∃ x78_2, Cell I S (last_6.add 2) (.int .u32 x78_2) ∧
      ∃ x78_3, Cell I S (last_6.add 3) (.string x78_3) ∧
      bcase (!(((x77_0 : ByteArray) == (x78_0 : ByteArray)) && (((x77_1 : Int) == (x78_1 : Int)) && (((x77_2 : Int) == (x78_2 : Int)) && (((x77_3 : ByteArray) == (x78_3 : ByteArray)) && true)))))
        (stream_deltas_b4 R x4 out_8 out_8n out_8c true I S)
        (ptrP out_8 fun x86 => (0 : Int) ≤ (IntKind.wrap .i64 ((out_8n : Int) - (1 : Int))) ∧ (IntKind.wrap .i64 ((out_8n : Int) - (1 : Int))) < (out_8n : Int) ∧
        ∃ x88_0, Cell I S ((x86.add ((IntKind.wrap .i64 ((out_8n : Int) - (1 : Int))).toNat * 10)).add 4) (.string x88_0) ∧
        ∃ x88_1, Cell I S (((x86.add ((IntKind.wrap .i64 ((out_8n : Int) - (1 : Int))).toNat * 10)).add 4).add 1) (.int .u16 x88_1) ∧
        ∃ x88_2, Cell I S (((x86.add ((IntKind.wrap .i64 ((out_8n : Int) - (1 : Int))).toNat * 10)).add 4).add 2) (.int .u32 x88_2) ∧
        ∃ x88_3, Cell I S (((x86.add ((IntKind.wrap .i64 ((out_8n : Int) - (1 : Int))).toNat * 10)).add 4).add 3) (.string x88_3) ∧
        ∃ x89_0, Cell I S last_6 (.string x89_0) ∧
        ∃ x89_1, Cell I S (last_6.add 1) (.int .u16 x89_1) ∧
        ∃ x89_2, Cell I S (last_6.add 2) (.int .u32 x89_2) ∧
        ∃ x89_3, Cell I S (last_6.add 3) (.string x89_3) ∧
        stream_deltas_b4 R x4 out_8 out_8n out_8c (!(((x88_0 : ByteArray) == (x89_0 : ByteArray)) && (((x88_1 : Int) == (x89_1 : Int)) && (((x88_2 : Int) == (x89_2 : Int)) && (((x88_3 : ByteArray) == (x89_3 : ByteArray)) && true))))) I S)))
def stream_deltas_l2 (again2 : Int → Addr → Addr → Option Addr → Nat → Nat → Option Addr → Nat → Nat → IMem → SH → Prop) (R : Value → IMem → SH → Prop) (from_0 : Int) (x4 : Addr) (last_6 : Addr) (rest_7 : Option Addr) (rest_7n : Nat) (rest_7c : Nat) (out_8 : Option Addr) (out_8n : Nat) (out_8c : Nat) (I : IMem) (S : SH) : Prop :=
  bcase (decide ((rest_7n : Int) > (1 : Int)))
    (ptrP rest_7 fun x19 => (0 : Int) ≤ (0 : Int) ∧ (0 : Int) < (rest_7n : Int) ∧
    ∃ x21, Cell I S ((x19.add ((0 : Int).toNat * 4)).add 1) (.int .u16 x21) ∧
    bcase (x21 != (6 : Int))
      (StP S x4 [.bool false, .slice none 0 0, .slice none 0 0] fun S1 =>
      ∃ r4_0, Cell I S1 x4 (.bool r4_0) ∧
      ∃ r4_1 r4_1n r4_1c, Cell I S1 (x4.add 1) (.slice r4_1 r4_1n r4_1c) ∧
      ∃ r4_2 r4_2n r4_2c, Cell I S1 (x4.add 2) (.slice r4_2 r4_2n r4_2c) ∧
      R (.tuple #[.agg #[.bool r4_0, .slice r4_1 r4_1n r4_1c, .slice r4_2 r4_2n r4_2c], (.iface 123 (.int .i64 4))]) I S1)
      (ptrP rest_7 fun x26 => (0 : Int) ≤ (0 : Int) ∧ (0 : Int) < (rest_7n : Int) ∧
      ∃ x27_0, Cell I S (x26.add ((0 : Int).toNat * 4)) (.string x27_0) ∧
      ∃ x27_1, Cell I S ((x26.add ((0 : Int).toNat * 4)).add 1) (.int .u16 x27_1) ∧
      ∃ x27_2, Cell I S ((x26.add ((0 : Int).toNat * 4)).add 2) (.int .u32 x27_2) ∧
      ∃ x27_3, Cell I S ((x26.add ((0 : Int).toNat * 4)).add 3) (.string x27_3) ∧
      ∀ b9 : Nat,
      StP ((b9, .cells #[.string ⟨#[]⟩, .int .u16 0, .int .u32 0, .string ⟨#[]⟩, .string ⟨#[]⟩, .int .u16 0, .int .u32 0, .string ⟨#[]⟩, .slice none 0 0, .slice none 0 0] 131 (0, 0)) :: S) ⟨b9, 0, none⟩ [.string x27_0, .int .u16 x27_1, .int .u32 x27_2, .string x27_3, .string ⟨#[]⟩, .int .u16 0, .int .u32 0, .string ⟨#[]⟩, .slice none 0 0, .slice none 0 0] fun S1' =>
      ∃ x30_0, Cell I S1' ⟨b9, 0, none⟩ (.string x30_0) ∧
      ∃ x30_1, Cell I S1' ⟨b9, 1, none⟩ (.int .u16 x30_1) ∧
      ∃ x30_2, Cell I S1' ⟨b9, 2, none⟩ (.int .u32 x30_2) ∧
      ∃ x30_3, Cell I S1' ⟨b9, 3, none⟩ (.string x30_3) ∧
      Runs Tryz.prog 65 #[.agg #[.string x30_0, .int .u16 x30_1, .int .u32 x30_2, .string x30_3]] I S1' fun v I1 S1'' => ∃ x31, v = .int .u32 x31 ∧
      bcase (x31 != from_0)
        (StP S1'' x4 [.bool false, .slice none 0 0, .slice none 0 0] fun S1_r3 =>
        ∃ r4_0', Cell I1 S1_r3 x4 (.bool r4_0') ∧
        ∃ r4_1' r4_1'n r4_1'c, Cell I1 S1_r3 (x4.add 1) (.slice r4_1' r4_1'n r4_1'c) ∧
        ∃ r4_2' r4_2'n r4_2'c, Cell I1 S1_r3 (x4.add 2) (.slice r4_2' r4_2'n r4_2'c) ∧
        R (.tuple #[.agg #[.bool r4_0', .slice r4_1' r4_1'n r4_1'c, .slice r4_2' r4_2'n r4_2'c], (.iface 123 (.int .i64 5))]) I1 S1_r3)
        ((0 : Int) ≤ (1 : Int) ∧ (1 : Int) ≤ ((rest_7n : Nat) : Int) ∧
        Runs Tryz.prog 87 #[.slice (slA rest_7 rest_7c ((1 : Int).toNat) 4) (rest_7n - (1 : Int).toNat) (rest_7c - (1 : Int).toNat)] I1 S1'' fun v' I1' S1_r4 => ∃ x39_0 x39_0n x39_0c x39_1 x39_1n x39_1c, v' = .tuple #[.slice x39_0 x39_0n x39_0c, .slice x39_1 x39_1n x39_1c] ∧
        StP S1_r4 ⟨b9, 8, none⟩ [.slice x39_0 x39_0n x39_0c] fun S1_r5 =>
        bcase ((x39_1n : Int) == (0 : Int))
          (StP S1_r5 x4 [.bool false, .slice none 0 0, .slice none 0 0] fun S1_r6 =>
          ∃ r4_0'', Cell I1' S1_r6 x4 (.bool r4_0'') ∧
          ∃ r4_1'' r4_1''n r4_1''c, Cell I1' S1_r6 (x4.add 1) (.slice r4_1'' r4_1''n r4_1''c) ∧
          ∃ r4_2'' r4_2''n r4_2''c, Cell I1' S1_r6 (x4.add 2) (.slice r4_2'' r4_2''n r4_2''c) ∧
          R (.tuple #[.agg #[.bool r4_0'', .slice r4_1'' r4_1''n r4_1''c, .slice r4_2'' r4_2''n r4_2''c], (.iface 123 (.int .i64 4))]) I1' S1_r6)
          (ptrP x39_1 fun x49 => (0 : Int) ≤ (0 : Int) ∧ (0 : Int) < (x39_1n : Int) ∧
          ∃ x50_0, Cell I1' S1_r5 (x49.add ((0 : Int).toNat * 4)) (.string x50_0) ∧
          ∃ x50_1, Cell I1' S1_r5 ((x49.add ((0 : Int).toNat * 4)).add 1) (.int .u16 x50_1) ∧
          ∃ x50_2, Cell I1' S1_r5 ((x49.add ((0 : Int).toNat * 4)).add 2) (.int .u32 x50_2) ∧
          ∃ x50_3, Cell I1' S1_r5 ((x49.add ((0 : Int).toNat * 4)).add 3) (.string x50_3) ∧
          StP S1_r5 ⟨b9, 4, none⟩ [.string x50_0, .int .u16 x50_1, .int .u32 x50_2, .string x50_3] fun S1_r7 =>
          (0 : Int) ≤ (1 : Int) ∧ (1 : Int) ≤ ((x39_1n : Nat) : Int) ∧
          Runs Tryz.prog 87 #[.slice (slA x39_1 x39_1c ((1 : Int).toNat) 4) (x39_1n - (1 : Int).toNat) (x39_1c - (1 : Int).toNat)] I1' S1_r7 fun v'' I1'' S1_r8 => ∃ x55_0 x55_0n x55_0c x55_1 x55_1n x55_1c, v'' = .tuple #[.slice x55_0 x55_0n x55_0c, .slice x55_1 x55_1n x55_1c] ∧
          StP S1_r8 ⟨b9, 9, none⟩ [.slice x55_0 x55_0n x55_0c] fun S1_r9 =>
          ∃ x60_0, Cell I1'' S1_r9 ⟨b9, 4, none⟩ (.string x60_0) ∧
          ∃ x60_1, Cell I1'' S1_r9 ⟨b9, 5, none⟩ (.int .u16 x60_1) ∧
          ∃ x60_2, Cell I1'' S1_r9 ⟨b9, 6, none⟩ (.int .u32 x60_2) ∧
          ∃ x60_3, Cell I1'' S1_r9 ⟨b9, 7, none⟩ (.string x60_3) ∧
          Runs Tryz.prog 65 #[.agg #[.string x60_0, .int .u16 x60_1, .int .u32 x60_2, .string x60_3]] I1'' S1_r9 fun v_r3 I1_r3 S1_r10 => ∃ x61, v_r3 = .int .u32 x61 ∧
          ∃ x63_0, Cell I1_r3 S1_r10 ⟨b9, 0, none⟩ (.string x63_0) ∧
          ∃ x63_1, Cell I1_r3 S1_r10 ⟨b9, 1, none⟩ (.int .u16 x63_1) ∧
          ∃ x63_2, Cell I1_r3 S1_r10 ⟨b9, 2, none⟩ (.int .u32 x63_2) ∧
          ∃ x63_3, Cell I1_r3 S1_r10 ⟨b9, 3, none⟩ (.string x63_3) ∧
          ∃ x63_4, Cell I1_r3 S1_r10 ⟨b9, 4, none⟩ (.string x63_4) ∧
          ∃ x63_5, Cell I1_r3 S1_r10 ⟨b9, 5, none⟩ (.int .u16 x63_5) ∧
          ∃ x63_6, Cell I1_r3 S1_r10 ⟨b9, 6, none⟩ (.int .u32 x63_6) ∧
          ∃ x63_7, Cell I1_r3 S1_r10 ⟨b9, 7, none⟩ (.string x63_7) ∧
          ∃ x63_8 x63_8n x63_8c, Cell I1_r3 S1_r10 ⟨b9, 8, none⟩ (.slice x63_8 x63_8n x63_8c) ∧
          ∃ x63_9 x63_9n x63_9c, Cell I1_r3 S1_r10 ⟨b9, 9, none⟩ (.slice x63_9 x63_9n x63_9c) ∧
          ∀ b64 : Nat,
          AppG 131 10 128 [.string ⟨#[]⟩, .int .u16 0, .int .u32 0, .string ⟨#[]⟩, .string ⟨#[]⟩, .int .u16 0, .int .u32 0, .string ⟨#[]⟩, .slice none 0 0, .slice none 0 0] (some (.slice 131)) I1_r3 ((b64, .cells #[.string x63_0, .int .u16 x63_1, .int .u32 x63_2, .string x63_3, .string x63_4, .int .u16 x63_5, .int .u32 x63_6, .string x63_7, .slice x63_8 x63_8n x63_8c, .slice x63_9 x63_9n x63_9c] 131 (0, 0)) :: S1_r10) (.slice out_8 out_8n out_8c) (.slice (some ⟨b64, 0, none⟩) 1 1) fun x65 x65n x65c S1_r11 =>
          again2 x61 x4 last_6 x55_1 x55_1n x55_1c x65 x65n x65c I1_r3 S1_r11))))
    (stream_deltas_b3 R x4 last_6 rest_7 rest_7n rest_7c out_8 out_8n out_8c I S)
def stream_deltas_b1 (R : Value → IMem → SH → Prop) (from_0 : Int) (x4 : Addr) (last_6 : Addr) (rest_7 : Option Addr) (rest_7n : Nat) (rest_7c : Nat) (out_8 : Option Addr) (out_8n : Nat) (out_8c : Nat) (I : IMem) (S : SH) : Prop :=
  ∃ (Inv : Nat → Int → Addr → Addr → Option Addr → Nat → Nat → Option Addr → Nat → Nat → IMem → SH → Prop) (m : Nat), Inv m from_0 x4 last_6 rest_7 rest_7n rest_7c out_8 out_8n out_8c I S ∧
    ∀ (m : Nat) (from_0 : Int) (x4 : Addr) (last_6 : Addr) (rest_7 : Option Addr) (rest_7n : Nat) (rest_7c : Nat) (out_8 : Option Addr) (out_8n : Nat) (out_8c : Nat) (J : IMem) (T : SH), I.le J → Inv m from_0 x4 last_6 rest_7 rest_7n rest_7c out_8 out_8n out_8c J T →
      stream_deltas_l2 (fun from_0 x4 last_6 rest_7 rest_7n rest_7c out_8 out_8n out_8c I S => ∃ m', m' < m ∧ Inv m' from_0 x4 last_6 rest_7 rest_7n rest_7c out_8 out_8n out_8c I S) R from_0 x4 last_6 rest_7 rest_7n rest_7c out_8 out_8n out_8c J T
def stream_deltas (R : Value → IMem → SH → Prop) (from_0 : Int) (rs_1 : Option Addr) (rs_1n : Nat) (rs_1c : Nat) (I : IMem) (S : SH) : Prop :=
  ∀ b4 : Nat,
  ptrP rs_1 fun x11 => (0 : Int) ≤ (0 : Int) ∧ (0 : Int) < (rs_1n : Int) ∧
  ∃ x12_0, Cell I ((b4, .cells #[.bool false, .slice none 0 0, .slice none 0 0] 100 (0, 0)) :: S) (x11.add ((0 : Int).toNat * 4)) (.string x12_0) ∧
  ∃ x12_1, Cell I ((b4, .cells #[.bool false, .slice none 0 0, .slice none 0 0] 100 (0, 0)) :: S) ((x11.add ((0 : Int).toNat * 4)).add 1) (.int .u16 x12_1) ∧
  ∃ x12_2, Cell I ((b4, .cells #[.bool false, .slice none 0 0, .slice none 0 0] 100 (0, 0)) :: S) ((x11.add ((0 : Int).toNat * 4)).add 2) (.int .u32 x12_2) ∧
  ∃ x12_3, Cell I ((b4, .cells #[.bool false, .slice none 0 0, .slice none 0 0] 100 (0, 0)) :: S) ((x11.add ((0 : Int).toNat * 4)).add 3) (.string x12_3) ∧
  ∀ b6 : Nat,
  StP ((b6, .cells #[.string ⟨#[]⟩, .int .u16 0, .int .u32 0, .string ⟨#[]⟩] 32 (0, 0)) :: ((b4, .cells #[.bool false, .slice none 0 0, .slice none 0 0] 100 (0, 0)) :: S)) ⟨b6, 0, none⟩ [.string x12_0, .int .u16 x12_1, .int .u32 x12_2, .string x12_3] fun S1 =>
  (0 : Int) ≤ (1 : Int) ∧ (1 : Int) ≤ ((rs_1n : Nat) : Int) ∧
  stream_deltas_b1 R from_0 ⟨b4, 0, none⟩ ⟨b6, 0, none⟩ (slA rs_1 rs_1c ((1 : Int).toNat) 4) (rs_1n - (1 : Int).toNat) (rs_1c - (1 : Int).toNat) none 0 0 I S1
theorem stream_deltas_fn (R : Value → IMem → SH → Prop) (from_0 : Int) (rs_1 : Option Addr) (rs_1n : Nat) (rs_1c : Nat) (I : IMem) (S : SH) (h : stream_deltas R from_0 rs_1 rs_1n rs_1c I S) :
    Runs Tryz.prog 66 #[.int .u32 from_0, .slice rs_1 rs_1n rs_1c] I S R := by
  refine Runs.of_wp (args := [.int .u32 from_0, .slice rs_1 rs_1n rs_1c]) (c := stream_deltas_code) Tryz.func66 (by kernel_rfl) (by kernel_rfl) ?_
  refine WP.cut 4 (fun l I S => asI .u32 (l 0) fun from_0 => asAdr (l 4) fun x4 => asAdr (l 6) fun last_6 => asSl (l 7) fun rest_7 rest_7n rest_7c => asSl (l 8) fun out_8 out_8n out_8c => stream_deltas_b1 R from_0 x4 last_6 rest_7 rest_7n rest_7c out_8 out_8n out_8c I S) (cast (by kernel_rfl) h) ?_
  clear h
  intro l I S _ h
  obtain ⟨from_0, e0, h⟩ := asI_e h
  obtain ⟨x4, e4, h⟩ := asAdr_e h
  obtain ⟨last_6, e6, h⟩ := asAdr_e h
  obtain ⟨rest_7, rest_7n, rest_7c, e7, h⟩ := asSl_e h
  obtain ⟨out_8, out_8n, out_8c, e8, h⟩ := asSl_e h
  rw [upd_eta e0, upd_eta e4, upd_eta e6, upd_eta e7, upd_eta e8]
  refine WP.seqY (by kernel_rfl) (fun l I S => asAdr (l 4) fun x4 => asAdr (l 6) fun last_6 => asSl (l 7) fun rest_7 rest_7n rest_7c => asSl (l 8) fun out_8 out_8n out_8c => stream_deltas_b3 R x4 last_6 rest_7 rest_7n rest_7c out_8 out_8n out_8c I S) ?_ ?_
  ·
    refine WP.block' (by kernel_rfl) ?_
    obtain ⟨Inv_again2, m_again2, h0, hr⟩ := h
    refine WP.loop' (by kernel_rfl) (fun m_again2 => fun l I S => asI .u32 (l 0) fun from_0 => asAdr (l 4) fun x4 => asAdr (l 6) fun last_6 => asSl (l 7) fun rest_7 rest_7n rest_7c => asSl (l 8) fun out_8 out_8n out_8c => Inv_again2 m_again2 from_0 x4 last_6 rest_7 rest_7n rest_7c out_8 out_8n out_8c I S) m_again2 (cast (by kernel_rfl) h0) ?_
    clear h0
    intro m_again2 l I S hle h
    obtain ⟨from_0, e0, h⟩ := asI_e h
    obtain ⟨x4, e4, h⟩ := asAdr_e h
    obtain ⟨last_6, e6, h⟩ := asAdr_e h
    obtain ⟨rest_7, rest_7n, rest_7c, e7, h⟩ := asSl_e h
    obtain ⟨out_8, out_8n, out_8c, e8, h⟩ := asSl_e h
    rw [upd_eta e0, upd_eta e4, upd_eta e6, upd_eta e7, upd_eta e8]
    have h := hr m_again2 from_0 x4 last_6 rest_7 rest_7n rest_7c out_8 out_8n out_8c I S hle h
    clear hr hle
    exact Pre.sound _ _ _ _ _ (cast (by kernel_rfl) h)
  · clear h
    intro l I S _ h
    obtain ⟨x4, e4, h⟩ := asAdr_e h
    obtain ⟨last_6, e6, h⟩ := asAdr_e h
    obtain ⟨rest_7, rest_7n, rest_7c, e7, h⟩ := asSl_e h
    obtain ⟨out_8, out_8n, out_8c, e8, h⟩ := asSl_e h
    rw [upd_eta e4, upd_eta e6, upd_eta e7, upd_eta e8]
    refine WP.seqY (by kernel_rfl) (fun l I S => asAdr (l 4) fun x4 => asSl (l 8) fun out_8 out_8n out_8c => stream_deltas_b5 R x4 out_8 out_8n out_8c I S) ?_ ?_
    ·
      refine WP.seqY (by kernel_rfl) (fun l I S => asAdr (l 4) fun x4 => asSl (l 8) fun out_8 out_8n out_8c => asB (l 91) fun x91 => stream_deltas_b4 R x4 out_8 out_8n out_8c x91 I S) ?_ ?_
      ·
        exact WP.quiet' (by kernel_rfl) (by kernel_rfl) (by kernel_rfl) (cast (by kernel_rfl) h)
      · clear h
        intro l I S _ h
        obtain ⟨x4, e4, h⟩ := asAdr_e h
        obtain ⟨out_8, out_8n, out_8c, e8, h⟩ := asSl_e h
        obtain ⟨x91, e91, h⟩ := asB_e h
        rw [upd_eta e4, upd_eta e8, upd_eta e91]
        exact Pre.sound _ _ _ _ _ (cast (by kernel_rfl) h)
    · clear h
      intro l I S _ h
      obtain ⟨x4, e4, h⟩ := asAdr_e h
      obtain ⟨out_8, out_8n, out_8c, e8, h⟩ := asSl_e h
      rw [upd_eta e4, upd_eta e8]
      exact Pre.sound _ _ _ _ _ (cast (by kernel_rfl) h)
/-! ### stream_Done: function 32, bolter/stream.Done -/
noncomputable def stream_Done_code : Code := (Tryz.f32.body).getD .skip
def stream_Done_b9 (again5 : Option Addr → Nat → Nat → Int → Int → Option Addr → Nat → Nat → Int → Int → IMem → SH → Prop) (R : Value → IMem → SH → Prop) (rs_0 : Option Addr) (rs_0n : Nat) (rs_0c : Nat) (want_3 : Int) (n_4 : Int) (x27 : Option Addr) (x27n : Nat) (x27c : Nat) (x28 : Int) (x29 : Int) (I : IMem) (S : SH) : Prop :=
  again5 rs_0 rs_0n rs_0c want_3 n_4 x27 x27n x27c x28 (IntKind.wrap .i64 (x29 + (1 : Int))) I S
def stream_Done_b8 (again5 : Option Addr → Nat → Nat → Int → Int → Option Addr → Nat → Nat → Int → Int → IMem → SH → Prop) (R : Value → IMem → SH → Prop) (rs_0 : Option Addr) (rs_0n : Nat) (rs_0c : Nat) (want_3 : Int) (n_4 : Int) (x27 : Option Addr) (x27n : Nat) (x27c : Nat) (x28 : Int) (x29 : Int) (x37 : Bool) (I : IMem) (S : SH) : Prop :=
  bcase x37
    (stream_Done_b9 again5 R rs_0 rs_0n rs_0c want_3 (IntKind.wrap .i64 (n_4 + (1 : Int))) x27 x27n x27c x28 x29 I S)
    (stream_Done_b9 again5 R rs_0 rs_0n rs_0c want_3 n_4 x27 x27n x27c x28 x29 I S)
def stream_Done_b7 (again5 : Option Addr → Nat → Nat → Int → Int → Option Addr → Nat → Nat → Int → Int → IMem → SH → Prop) (R : Value → IMem → SH → Prop) (rs_0 : Option Addr) (rs_0n : Nat) (rs_0c : Nat) (want_3 : Int) (n_4 : Int) (r_6 : Addr) (x27 : Option Addr) (x27n : Nat) (x27c : Nat) (x28 : Int) (x29 : Int) (I : IMem) (S : SH) : Prop :=
  ∃ x33_0, Cell I S r_6 (.string x33_0) ∧
  ∃ x33_1, Cell I S (r_6.add 1) (.int .u16 x33_1) ∧
  ∃ x33_2, Cell I S (r_6.add 2) (.int .u32 x33_2) ∧
  ∃ x33_3, Cell I S (r_6.add 3) (.string x33_3) ∧
  ptrP rs_0 fun x35 => (0 : Int) ≤ (0 : Int) ∧ (0 : Int) < (rs_0n : Int) ∧
  ∃ x36_0, Cell I S (x35.add ((0 : Int).toNat * 4)) (.string x36_0) ∧
  ∃ x36_1, Cell I S ((x35.add ((0 : Int).toNat * 4)).add 1) (.int .u16 x36_1) ∧
  ∃ x36_2, Cell I S ((x35.add ((0 : Int).toNat * 4)).add 2) (.int .u32 x36_2) ∧
  ∃ x36_3, Cell I S ((x35.add ((0 : Int).toNat * 4)).add 3) (.string x36_3) ∧
  stream_Done_b8 again5 R rs_0 rs_0n rs_0c want_3 n_4 x27 x27n x27c x28 x29 (((x33_0 : ByteArray) == (x36_0 : ByteArray)) && (((x33_1 : Int) == (x36_1 : Int)) && (((x33_2 : Int) == (x36_2 : Int)) && (((x33_3 : ByteArray) == (x36_3 : ByteArray)) && true)))) I S
def stream_Done_b6 (again5 : Option Addr → Nat → Nat → Int → Int → Option Addr → Nat → Nat → Int → Int → IMem → SH → Prop) (R : Value → IMem → SH → Prop) (rs_0 : Option Addr) (rs_0n : Nat) (rs_0c : Nat) (want_3 : Int) (n_4 : Int) (x27 : Option Addr) (x27n : Nat) (x27c : Nat) (x28 : Int) (x29 : Int) (I : IMem) (S : SH) : Prop :=
  ptrP x27 fun x31 => (0 : Int) ≤ x29 ∧ x29 < (x27n : Int) ∧
  ∃ x32_0, Cell I S (x31.add (x29.toNat * 4)) (.string x32_0) ∧
  ∃ x32_1, Cell I S ((x31.add (x29.toNat * 4)).add 1) (.int .u16 x32_1) ∧
  ∃ x32_2, Cell I S ((x31.add (x29.toNat * 4)).add 2) (.int .u32 x32_2) ∧
  ∃ x32_3, Cell I S ((x31.add (x29.toNat * 4)).add 3) (.string x32_3) ∧
  ∀ b6 : Nat,
  StP ((b6, .cells #[.string ⟨#[]⟩, .int .u16 0, .int .u32 0, .string ⟨#[]⟩] 32 (0, 0)) :: S) ⟨b6, 0, none⟩ [.string x32_0, .int .u16 x32_1, .int .u32 x32_2, .string x32_3] fun S1 =>
  stream_Done_b7 again5 R rs_0 rs_0n rs_0c want_3 n_4 ⟨b6, 0, none⟩ x27 x27n x27c x28 x29 I S1
def stream_Done_b10 (R : Value → IMem → SH → Prop) (want_3 : Int) (n_4 : Int) (I : IMem) (S : SH) : Prop :=
  R (.bool (decide (n_4 ≥ want_3))) I S
def stream_Done_l5 (again5 : Option Addr → Nat → Nat → Int → Int → Option Addr → Nat → Nat → Int → Int → IMem → SH → Prop) (R : Value → IMem → SH → Prop) (rs_0 : Option Addr) (rs_0n : Nat) (rs_0c : Nat) (want_3 : Int) (n_4 : Int) (x27 : Option Addr) (x27n : Nat) (x27c : Nat) (x28 : Int) (x29 : Int) (I : IMem) (S : SH) : Prop :=
  bcase (decide (x29 < x28))
    (stream_Done_b6 again5 R rs_0 rs_0n rs_0c want_3 n_4 x27 x27n x27c x28 x29 I S)
    (stream_Done_b10 R want_3 n_4 I S)
def stream_Done_b4 (R : Value → IMem → SH → Prop) (rs_0 : Option Addr) (rs_0n : Nat) (rs_0c : Nat) (want_3 : Int) (n_4 : Int) (x27 : Option Addr) (x27n : Nat) (x27c : Nat) (x28 : Int) (x29 : Int) (I : IMem) (S : SH) : Prop :=
  ∃ (Inv : Nat → Option Addr → Nat → Nat → Int → Int → Option Addr → Nat → Nat → Int → Int → IMem → SH → Prop) (m : Nat), Inv m rs_0 rs_0n rs_0c want_3 n_4 x27 x27n x27c x28 x29 I S ∧
    ∀ (m : Nat) (rs_0 : Option Addr) (rs_0n : Nat) (rs_0c : Nat) (want_3 : Int) (n_4 : Int) (x27 : Option Addr) (x27n : Nat) (x27c : Nat) (x28 : Int) (x29 : Int) (J : IMem) (T : SH), I.le J → Inv m rs_0 rs_0n rs_0c want_3 n_4 x27 x27n x27c x28 x29 J T →
      stream_Done_l5 (fun rs_0 rs_0n rs_0c want_3 n_4 x27 x27n x27c x28 x29 I S => ∃ m', m' < m ∧ Inv m' rs_0 rs_0n rs_0c want_3 n_4 x27 x27n x27c x28 x29 I S) R rs_0 rs_0n rs_0c want_3 n_4 x27 x27n x27c x28 x29 J T
def stream_Done_b3 (R : Value → IMem → SH → Prop) (rs_0 : Option Addr) (rs_0n : Nat) (rs_0c : Nat) (want_3 : Int) (n_4 : Int) (I : IMem) (S : SH) : Prop :=
  stream_Done_b4 R rs_0 rs_0n rs_0c want_3 n_4 rs_0 rs_0n rs_0c (rs_0n : Int) 0 I S
def stream_Done_b2 (R : Value → IMem → SH → Prop) (rs_0 : Option Addr) (rs_0n : Nat) (rs_0c : Nat) (want_3 : Int) (n_4 : Int) (x26 : Bool) (I : IMem) (S : SH) : Prop :=
  bcase x26
    (stream_Done_b3 R rs_0 rs_0n rs_0c 3 n_4 I S)
    (stream_Done_b3 R rs_0 rs_0n rs_0c want_3 n_4 I S)
def stream_Done_b1 (R : Value → IMem → SH → Prop) (rs_0 : Option Addr) (rs_0n : Nat) (rs_0c : Nat) (want_3 : Int) (n_4 : Int) (I : IMem) (S : SH) : Prop :=
  ptrP rs_0 fun x14 => (0 : Int) ≤ (1 : Int) ∧ (1 : Int) < (rs_0n : Int) ∧
  ∃ x16, Cell I S ((x14.add ((1 : Int).toNat * 4)).add 1) (.int .u16 x16) ∧
  bcase (x16 == (6 : Int))
    (ptrP rs_0 fun x20 => (0 : Int) ≤ (1 : Int) ∧ (1 : Int) < (rs_0n : Int) ∧
    ∃ x21_0, Cell I S (x20.add ((1 : Int).toNat * 4)) (.string x21_0) ∧
    ∃ x21_1, Cell I S ((x20.add ((1 : Int).toNat * 4)).add 1) (.int .u16 x21_1) ∧
    ∃ x21_2, Cell I S ((x20.add ((1 : Int).toNat * 4)).add 2) (.int .u32 x21_2) ∧
    ∃ x21_3, Cell I S ((x20.add ((1 : Int).toNat * 4)).add 3) (.string x21_3) ∧
    ptrP rs_0 fun x23 => (0 : Int) ≤ (0 : Int) ∧ (0 : Int) < (rs_0n : Int) ∧
    ∃ x24_0, Cell I S (x23.add ((0 : Int).toNat * 4)) (.string x24_0) ∧
    ∃ x24_1, Cell I S ((x23.add ((0 : Int).toNat * 4)).add 1) (.int .u16 x24_1) ∧
    ∃ x24_2, Cell I S ((x23.add ((0 : Int).toNat * 4)).add 2) (.int .u32 x24_2) ∧
    ∃ x24_3, Cell I S ((x23.add ((0 : Int).toNat * 4)).add 3) (.string x24_3) ∧
    stream_Done_b2 R rs_0 rs_0n rs_0c want_3 n_4 (!(((x21_0 : ByteArray) == (x24_0 : ByteArray)) && (((x21_1 : Int) == (x24_1 : Int)) && (((x21_2 : Int) == (x24_2 : Int)) && (((x21_3 : ByteArray) == (x24_3 : ByteArray)) && true))))) I S)
    (stream_Done_b2 R rs_0 rs_0n rs_0c want_3 n_4 false I S)
def stream_Done (R : Value → IMem → SH → Prop) (rs_0 : Option Addr) (rs_0n : Nat) (rs_0c : Nat) (I : IMem) (S : SH) : Prop :=
  bcase (decide ((rs_0n : Int) < (2 : Int)))
    (R (.bool ((rs_0n : Int) == (1 : Int))) I S)
    (stream_Done_b1 R rs_0 rs_0n rs_0c 2 0 I S)
theorem stream_Done_fn (R : Value → IMem → SH → Prop) (rs_0 : Option Addr) (rs_0n : Nat) (rs_0c : Nat) (I : IMem) (S : SH) (h : stream_Done R rs_0 rs_0n rs_0c I S) :
    Runs Tryz.prog 32 #[.slice rs_0 rs_0n rs_0c] I S R := by
  refine Runs.of_wp (args := [.slice rs_0 rs_0n rs_0c]) (c := stream_Done_code) Tryz.func32 (by kernel_rfl) (by kernel_rfl) ?_
  refine WP.cut 3 (fun l I S => asSl (l 0) fun rs_0 rs_0n rs_0c => asI .i64 (l 3) fun want_3 => asI .i64 (l 4) fun n_4 => stream_Done_b1 R rs_0 rs_0n rs_0c want_3 n_4 I S) (cast (by kernel_rfl) h) ?_
  clear h
  intro l I S _ h
  obtain ⟨rs_0, rs_0n, rs_0c, e0, h⟩ := asSl_e h
  obtain ⟨want_3, e3, h⟩ := asI_e h
  obtain ⟨n_4, e4, h⟩ := asI_e h
  rw [upd_eta e0, upd_eta e3, upd_eta e4]
  refine WP.seqY (by kernel_rfl) (fun l I S => asSl (l 0) fun rs_0 rs_0n rs_0c => asI .i64 (l 3) fun want_3 => asI .i64 (l 4) fun n_4 => stream_Done_b3 R rs_0 rs_0n rs_0c want_3 n_4 I S) ?_ ?_
  ·
    refine WP.seqY (by kernel_rfl) (fun l I S => asSl (l 0) fun rs_0 rs_0n rs_0c => asI .i64 (l 3) fun want_3 => asI .i64 (l 4) fun n_4 => asB (l 26) fun x26 => stream_Done_b2 R rs_0 rs_0n rs_0c want_3 n_4 x26 I S) ?_ ?_
    ·
      exact WP.quiet' (by kernel_rfl) (by kernel_rfl) (by kernel_rfl) (cast (by kernel_rfl) h)
    · clear h
      intro l I S _ h
      obtain ⟨rs_0, rs_0n, rs_0c, e0, h⟩ := asSl_e h
      obtain ⟨want_3, e3, h⟩ := asI_e h
      obtain ⟨n_4, e4, h⟩ := asI_e h
      obtain ⟨x26, e26, h⟩ := asB_e h
      rw [upd_eta e0, upd_eta e3, upd_eta e4, upd_eta e26]
      exact Pre.sound _ _ _ _ _ (cast (by kernel_rfl) h)
  · clear h
    intro l I S _ h
    obtain ⟨rs_0, rs_0n, rs_0c, e0, h⟩ := asSl_e h
    obtain ⟨want_3, e3, h⟩ := asI_e h
    obtain ⟨n_4, e4, h⟩ := asI_e h
    rw [upd_eta e0, upd_eta e3, upd_eta e4]
    refine WP.seqY (by kernel_rfl) (fun l I S => asI .i64 (l 3) fun want_3 => asI .i64 (l 4) fun n_4 => stream_Done_b10 R want_3 n_4 I S) ?_ ?_
    ·
      refine WP.cut 1 (fun l I S => asSl (l 0) fun rs_0 rs_0n rs_0c => asI .i64 (l 3) fun want_3 => asI .i64 (l 4) fun n_4 => asSl (l 27) fun x27 x27n x27c => asI .i64 (l 28) fun x28 => asI .i64 (l 29) fun x29 => stream_Done_b4 R rs_0 rs_0n rs_0c want_3 n_4 x27 x27n x27c x28 x29 I S) (cast (by kernel_rfl) h) ?_
      clear h
      intro l I S _ h
      obtain ⟨rs_0, rs_0n, rs_0c, e0, h⟩ := asSl_e h
      obtain ⟨want_3, e3, h⟩ := asI_e h
      obtain ⟨n_4, e4, h⟩ := asI_e h
      obtain ⟨x27, x27n, x27c, e27, h⟩ := asSl_e h
      obtain ⟨x28, e28, h⟩ := asI_e h
      obtain ⟨x29, e29, h⟩ := asI_e h
      rw [upd_eta e0, upd_eta e3, upd_eta e4, upd_eta e27, upd_eta e28, upd_eta e29]
      refine WP.block' (by kernel_rfl) ?_
      obtain ⟨Inv_again5, m_again5, h0, hr⟩ := h
      refine WP.loop' (by kernel_rfl) (fun m_again5 => fun l I S => asSl (l 0) fun rs_0 rs_0n rs_0c => asI .i64 (l 3) fun want_3 => asI .i64 (l 4) fun n_4 => asSl (l 27) fun x27 x27n x27c => asI .i64 (l 28) fun x28 => asI .i64 (l 29) fun x29 => Inv_again5 m_again5 rs_0 rs_0n rs_0c want_3 n_4 x27 x27n x27c x28 x29 I S) m_again5 (cast (by kernel_rfl) h0) ?_
      clear h0
      intro m_again5 l I S hle h
      obtain ⟨rs_0, rs_0n, rs_0c, e0, h⟩ := asSl_e h
      obtain ⟨want_3, e3, h⟩ := asI_e h
      obtain ⟨n_4, e4, h⟩ := asI_e h
      obtain ⟨x27, x27n, x27c, e27, h⟩ := asSl_e h
      obtain ⟨x28, e28, h⟩ := asI_e h
      obtain ⟨x29, e29, h⟩ := asI_e h
      rw [upd_eta e0, upd_eta e3, upd_eta e4, upd_eta e27, upd_eta e28, upd_eta e29]
      have h := hr m_again5 rs_0 rs_0n rs_0c want_3 n_4 x27 x27n x27c x28 x29 I S hle h
      clear hr hle
      refine WP.cut 2 (fun l I S => asSl (l 0) fun rs_0 rs_0n rs_0c => asI .i64 (l 3) fun want_3 => asI .i64 (l 4) fun n_4 => asSl (l 27) fun x27 x27n x27c => asI .i64 (l 28) fun x28 => asI .i64 (l 29) fun x29 => stream_Done_b6 (fun rs_0 rs_0n rs_0c want_3 n_4 x27 x27n x27c x28 x29 I S => ∃ m', m' < m_again5 ∧ Inv_again5 m' rs_0 rs_0n rs_0c want_3 n_4 x27 x27n x27c x28 x29 I S) R rs_0 rs_0n rs_0c want_3 n_4 x27 x27n x27c x28 x29 I S) (cast (by kernel_rfl) h) ?_
      clear h
      intro l I S _ h
      obtain ⟨rs_0, rs_0n, rs_0c, e0, h⟩ := asSl_e h
      obtain ⟨want_3, e3, h⟩ := asI_e h
      obtain ⟨n_4, e4, h⟩ := asI_e h
      obtain ⟨x27, x27n, x27c, e27, h⟩ := asSl_e h
      obtain ⟨x28, e28, h⟩ := asI_e h
      obtain ⟨x29, e29, h⟩ := asI_e h
      rw [upd_eta e0, upd_eta e3, upd_eta e4, upd_eta e27, upd_eta e28, upd_eta e29]
      refine WP.seqY (by kernel_rfl) (fun l I S => asSl (l 0) fun rs_0 rs_0n rs_0c => asI .i64 (l 3) fun want_3 => asI .i64 (l 4) fun n_4 => asSl (l 27) fun x27 x27n x27c => asI .i64 (l 28) fun x28 => asI .i64 (l 29) fun x29 => stream_Done_b9 (fun rs_0 rs_0n rs_0c want_3 n_4 x27 x27n x27c x28 x29 I S => ∃ m', m' < m_again5 ∧ Inv_again5 m' rs_0 rs_0n rs_0c want_3 n_4 x27 x27n x27c x28 x29 I S) R rs_0 rs_0n rs_0c want_3 n_4 x27 x27n x27c x28 x29 I S) ?_ ?_
      ·
        refine WP.block' (by kernel_rfl) ?_
        refine WP.cut 1 (fun l I S => asSl (l 0) fun rs_0 rs_0n rs_0c => asI .i64 (l 3) fun want_3 => asI .i64 (l 4) fun n_4 => asAdr (l 6) fun r_6 => asSl (l 27) fun x27 x27n x27c => asI .i64 (l 28) fun x28 => asI .i64 (l 29) fun x29 => stream_Done_b7 (fun rs_0 rs_0n rs_0c want_3 n_4 x27 x27n x27c x28 x29 I S => ∃ m', m' < m_again5 ∧ Inv_again5 m' rs_0 rs_0n rs_0c want_3 n_4 x27 x27n x27c x28 x29 I S) R rs_0 rs_0n rs_0c want_3 n_4 r_6 x27 x27n x27c x28 x29 I S) (cast (by kernel_rfl) h) ?_
        clear h
        intro l I S _ h
        obtain ⟨rs_0, rs_0n, rs_0c, e0, h⟩ := asSl_e h
        obtain ⟨want_3, e3, h⟩ := asI_e h
        obtain ⟨n_4, e4, h⟩ := asI_e h
        obtain ⟨r_6, e6, h⟩ := asAdr_e h
        obtain ⟨x27, x27n, x27c, e27, h⟩ := asSl_e h
        obtain ⟨x28, e28, h⟩ := asI_e h
        obtain ⟨x29, e29, h⟩ := asI_e h
        rw [upd_eta e0, upd_eta e3, upd_eta e4, upd_eta e6, upd_eta e27, upd_eta e28, upd_eta e29]
        refine WP.seqY (by kernel_rfl) (fun l I S => asSl (l 0) fun rs_0 rs_0n rs_0c => asI .i64 (l 3) fun want_3 => asI .i64 (l 4) fun n_4 => asSl (l 27) fun x27 x27n x27c => asI .i64 (l 28) fun x28 => asI .i64 (l 29) fun x29 => asB (l 37) fun x37 => stream_Done_b8 (fun rs_0 rs_0n rs_0c want_3 n_4 x27 x27n x27c x28 x29 I S => ∃ m', m' < m_again5 ∧ Inv_again5 m' rs_0 rs_0n rs_0c want_3 n_4 x27 x27n x27c x28 x29 I S) R rs_0 rs_0n rs_0c want_3 n_4 x27 x27n x27c x28 x29 x37 I S) ?_ ?_
        ·
          exact WP.quiet' (by kernel_rfl) (by kernel_rfl) (by kernel_rfl) (cast (by kernel_rfl) h)
        · clear h
          intro l I S _ h
          obtain ⟨rs_0, rs_0n, rs_0c, e0, h⟩ := asSl_e h
          obtain ⟨want_3, e3, h⟩ := asI_e h
          obtain ⟨n_4, e4, h⟩ := asI_e h
          obtain ⟨x27, x27n, x27c, e27, h⟩ := asSl_e h
          obtain ⟨x28, e28, h⟩ := asI_e h
          obtain ⟨x29, e29, h⟩ := asI_e h
          obtain ⟨x37, e37, h⟩ := asB_e h
          rw [upd_eta e0, upd_eta e3, upd_eta e4, upd_eta e27, upd_eta e28, upd_eta e29, upd_eta e37]
          exact Pre.sound _ _ _ _ _ (cast (by kernel_rfl) h)
      · clear h
        intro l I S _ h
        obtain ⟨rs_0, rs_0n, rs_0c, e0, h⟩ := asSl_e h
        obtain ⟨want_3, e3, h⟩ := asI_e h
        obtain ⟨n_4, e4, h⟩ := asI_e h
        obtain ⟨x27, x27n, x27c, e27, h⟩ := asSl_e h
        obtain ⟨x28, e28, h⟩ := asI_e h
        obtain ⟨x29, e29, h⟩ := asI_e h
        rw [upd_eta e0, upd_eta e3, upd_eta e4, upd_eta e27, upd_eta e28, upd_eta e29]
        exact Pre.sound _ _ _ _ _ (cast (by kernel_rfl) h)
    · clear h
      intro l I S _ h
      obtain ⟨want_3, e3, h⟩ := asI_e h
      obtain ⟨n_4, e4, h⟩ := asI_e h
      rw [upd_eta e3, upd_eta e4]
      exact Pre.sound _ _ _ _ _ (cast (by kernel_rfl) h)
end Go.Proofs.YthlkeokfmedjhaaGreat
/- Numbers of two and four bytes, read of a string. -/
namespace Go.Proofs.YthlkeokfmedjhaaGreat
open Go.Px
set_option linter.unusedVariables false
set_option linter.unusedSimpArgs false
set_option maxRecDepth 8000

def bat (s : ByteArray) (k : Nat) : Nat := match s[k]? with
  | some c => c.toNat
  | none => 0
theorem bat_lt (s : ByteArray) (k : Nat) : bat s k < 256 := by
  unfold bat
  split
  · exact u8_lt _
  · decide
theorem bat_of {s : ByteArray} {k : Nat} {c : UInt8} (h : s[k]? = some c) : bat s k = c.toNat := by unfold bat; rw [h]
/-- two bytes of a string as a number -/
def g16 (s : ByteArray) (k : Nat) : Nat := bat s k * 256 + bat s (k + 1)
theorem iorS {k : IntKind} {n s x y : Nat} (hb : IntKind.bits k = n) (hx : x * 2 ^ s + y < 2 ^ n) (hy : y < 2 ^ s) : ((BitVec.ofInt (IntKind.bits k) ((x * 2 ^ s : Nat) : Int) ||| BitVec.ofInt (IntKind.bits k) (y : Int)).toNat : Nat) = x * 2 ^ s + y := by
  subst hb
  rw [BitVec.toNat_or, BitVec.ofInt_natCast, BitVec.ofInt_natCast, BitVec.toNat_ofNat, BitVec.toNat_ofNat, Nat.mod_eq_of_lt (by omega), Nat.mod_eq_of_lt (by omega), Nat.mul_comm x]
  exact (Nat.two_pow_add_eq_or_of_lt hy x).symm
theorem wrap_u16' {x : Int} (h : 0 ≤ x) (h2 : x < 65536) : IntKind.wrap .u16 x = x := by
  simp only [IntKind.wrap, IntKind.bits, IntKind.signed, Bool.false_and, Bool.false_eq_true, if_false]
  omega
theorem wrap_u32' {x : Int} (h : 0 ≤ x) (h2 : x < 4294967296) : IntKind.wrap .u32 x = x := by
  simp only [IntKind.wrap, IntKind.bits, IntKind.signed, Bool.false_and, Bool.false_eq_true, if_false]
  omega
theorem Get16_runs (s : ByteArray) (k : Nat) (hk : k ≤ 1000) (hs : s.size ≤ 9223372036854775807) (I : IMem) (S : SH) : Runs Tryz.prog 91 #[.string s, .int .i64 (k : Int)] I S fun v _ T =>
    v = (if k + 2 ≤ s.size then .tuple #[.int .u16 (g16 s k : Int), .bool true] else .tuple #[.int .u16 0, .bool false]) ∧ T = S := by
  refine num_Get16_fn _ _ _ _ _ ?_
  unfold num_Get16 num_Get16_b1
  refine bcase_f (decide_eq_false (by omega)) ?_
  unfold num_Get16_b2
  have ew : IntKind.wrap .i64 ((s.size : Int) - 2) = (s.size : Int) - 2 := wrap_i64 (by omega) (by omega)
  rw [ew]
  refine bcase_dec (fun h => ?_) (fun h => ?_)
  · rw [if_neg (by omega)]; exact ⟨rfl, rfl⟩
  · rw [if_pos (by omega)]
    unfold num_Get16_b3
    obtain ⟨c, hc⟩ := at_ok (s := s) (k := k) (by omega)
    obtain ⟨d, hd⟩ := at_ok (s := s) (k := k + 1) (by omega)
    have e1 : IntKind.wrap .i64 ((k : Int) + 1) = ((k + 1 : Nat) : Int) := by rw [wrap_i64 (by omega) (by omega)]; rfl
    rw [e1, Int.toNat_natCast, Int.toNat_natCast]
    refine ⟨c, by omega, hc, d, by omega, hd, ?_⟩
    unfold num_Get16_b4
    have hc2 := c.toNat_lt; have hd2 := d.toNat_lt
    have e2 : (2 : Int) ^ (min (8 : Int).toNat (IntKind.bits .u16)) = 2 ^ 8 := by decide
    have e3 : ior .u16 (IntKind.wrap .u16 ((IntKind.wrap .u16 (c.toNat : Int)) * 2 ^ (min (8 : Int).toNat (IntKind.bits .u16)))) (IntKind.wrap .u16 (d.toNat : Int)) = ((c.toNat * 256 + d.toNat : Nat) : Int) := by
      rw [e2, wrap_u16' (x := (c.toNat : Int)) (by omega) (by omega), wrap_u16' (x := (d.toNat : Int)) (by omega) (by omega), wrap_u16' (by omega) (by omega)]
      have := iorS (k := .u16) (n := 16) (s := 8) (x := c.toNat) (y := d.toNat) rfl (by omega) (by omega)
      unfold ior
      rw [show ((c.toNat : Int) * 2 ^ 8) = ((c.toNat * 2 ^ 8 : Nat) : Int) by omega, this]
      exact wrap_u16' (by omega) (by omega)
    rw [e3, g16, bat_of hc, bat_of hd]
    exact ⟨rfl, rfl⟩
theorem g16_lt (s : ByteArray) (k : Nat) : g16 s k < 65536 := by
  have := bat_lt s k; have := bat_lt s (k + 1)
  rw [g16]; omega
theorem Get32_runs (s : ByteArray) (k : Nat) (hk : k ≤ 900) (hs : s.size ≤ 9223372036854775807) (I : IMem) (S : SH) : Runs Tryz.prog 73 #[.string s, .int .i64 (k : Int)] I S fun v _ T =>
    v = (if k + 4 ≤ s.size then .tuple #[.int .u32 ((g16 s k * 65536 + g16 s (k + 2) : Nat) : Int), .bool true] else .tuple #[.int .u32 0, .bool false]) ∧ T = S := by
  refine num_Get32_fn _ _ _ _ _ ?_
  unfold num_Get32
  refine (Get16_runs s k (by omega) hs I S).mono ?_
  rintro v J T hle ⟨rfl, rfl⟩
  have fin : ∀ (x y : Int) (a b : Bool), (a = false ∨ b = false) → num_Get32_b1 (fun v _ T' => v = .tuple #[.int .u32 0, .bool false] ∧ T' = T) x a y b J T := by
    intro x y a b hab
    unfold num_Get32_b1 num_Get32_b2
    rcases hab with rfl | rfl
    · exact bcase_t rfl ⟨rfl, rfl⟩
    · exact bcase_of (fun _ => ⟨rfl, rfl⟩) (fun _ => ⟨rfl, rfl⟩)
  have e2 : IntKind.wrap .i64 ((k : Int) + 2) = ((k + 2 : Nat) : Int) := by rw [wrap_i64 (by omega) (by omega)]; rfl
  by_cases h4 : k + 4 ≤ s.size
  · rw [if_pos (by omega), if_pos h4]
    refine ⟨_, _, rfl, ?_⟩
    rw [e2]
    refine (Get16_runs s (k + 2) (by omega) hs J T).mono ?_
    rintro v J2 T2 hle2 ⟨rfl, rfl⟩
    rw [if_pos (by omega)]
    refine ⟨_, _, rfl, ?_⟩
    unfold num_Get32_b1 num_Get32_b2 num_Get32_b3
    have h0 := g16_lt s k; have h2 := g16_lt s (k + 2)
    have e3 : ior .u32 (IntKind.wrap .u32 ((IntKind.wrap .u32 (g16 s k : Int)) * 2 ^ (min (16 : Int).toNat (IntKind.bits .u32)))) (IntKind.wrap .u32 (g16 s (k + 2) : Int)) = ((g16 s k * 65536 + g16 s (k + 2) : Nat) : Int) := by
      have e2 : (2 : Int) ^ (min (16 : Int).toNat (IntKind.bits .u32)) = 2 ^ 16 := by decide
      rw [e2, wrap_u32' (x := (g16 s k : Int)) (by omega) (by omega), wrap_u32' (x := (g16 s (k + 2) : Int)) (by omega) (by omega), wrap_u32' (by omega) (by omega)]
      have := iorS (k := .u32) (n := 32) (s := 16) (x := g16 s k) (y := g16 s (k + 2)) rfl (by omega) (by omega)
      unfold ior
      rw [show ((g16 s k : Int) * 2 ^ 16) = ((g16 s k * 2 ^ 16 : Nat) : Int) by omega, this]
      exact wrap_u32' (by omega) (by omega)
    rw [e3]
    exact bcase_f rfl (bcase_f rfl ⟨rfl, rfl⟩)
  · rw [if_neg h4]
    obtain ⟨x, a, hx⟩ : ∃ (x : Int) (a : Bool), (if k + 2 ≤ s.size then (.tuple #[.int .u16 (g16 s k : Int), .bool true] : Value) else .tuple #[.int .u16 0, .bool false]) = .tuple #[.int .u16 x, .bool a] := by
      split
      · exact ⟨_, _, rfl⟩
      · exact ⟨_, _, rfl⟩
    refine ⟨x, a, hx, ?_⟩
    rw [e2]
    refine (Get16_runs s (k + 2) (by omega) hs J T).mono ?_
    rintro v J2 T2 hle2 ⟨rfl, rfl⟩
    rw [if_neg (by omega)]
    refine ⟨_, _, rfl, ?_⟩
    unfold num_Get32_b1 num_Get32_b2
    exact bcase_of (fun _ => bcase_t rfl ⟨rfl, rfl⟩) (fun _ => bcase_t rfl ⟨rfl, rfl⟩)
end Go.Proofs.YthlkeokfmedjhaaGreat
/- Which blocks lie in a heap, by counting. -/
namespace Go.Px
set_option linter.unusedVariables false

open Classical in
/-- a block is this one -/
noncomputable def iv (a x : Nat × Obj) : Nat := if x = a then 1 else 0
noncomputable def cnt (a : Nat × Obj) : SH → Nat
  | [] => 0
  | x :: L => iv a x + cnt a L
theorem cnt_nil (a : Nat × Obj) : cnt a [] = 0 := rfl
theorem cnt_cons (a x : Nat × Obj) (L : SH) : cnt a (x :: L) = iv a x + cnt a L := rfl
theorem cnt_app (a : Nat × Obj) : ∀ (L M : SH), cnt a (L ++ M) = cnt a L + cnt a M
  | [], M => by rw [List.nil_append, cnt_nil, Nat.zero_add]
  | x :: L, M => by rw [List.cons_append, cnt_cons, cnt_cons, cnt_app a L M, Nat.add_assoc]
theorem cnt_perm {a : Nat × Obj} {L M : SH} (h : L.Perm M) : cnt a L = cnt a M := by
  induction h with
  | nil => rfl
  | cons x _ ih => rw [cnt_cons, cnt_cons, ih]
  | swap x y l => rw [cnt_cons, cnt_cons, cnt_cons, cnt_cons]; omega
  | trans _ _ ih1 ih2 => rw [ih1, ih2]
theorem iv_self (x : Nat × Obj) : iv x x = 1 := by unfold iv; rw [if_pos rfl]
theorem cnt_pos {a : Nat × Obj} : ∀ {T : SH}, 0 < cnt a T → ∃ A B, T = A ++ a :: B
  | [], h => by rw [cnt_nil] at h; omega
  | x :: T, h => by
    by_cases e : x = a
    · exact ⟨[], T, by rw [e]; rfl⟩
    · have : iv a x = 0 := by unfold iv; rw [if_neg e]
      rw [cnt_cons, this, Nat.zero_add] at h
      obtain ⟨A, B, rfl⟩ := cnt_pos h
      exact ⟨x :: A, B, rfl⟩
theorem Sub.cnt {L T : SH} (h : Sub L T) (a : Nat × Obj) : cnt a L ≤ cnt a T := by
  obtain ⟨G, hp⟩ := h
  rw [cnt_perm hp, cnt_app]; omega
theorem sub_of : ∀ {L T : SH}, (∀ a, Go.Px.cnt a L ≤ Go.Px.cnt a T) → Sub L T
  | [], T, _ => ⟨T, by simp⟩
  | x :: L, T, h => by
    have hx := h x
    rw [cnt_cons, iv_self] at hx
    obtain ⟨A, B, rfl⟩ := cnt_pos (show 0 < Go.Px.cnt x T by omega)
    have h2 : Sub L (A ++ B) := sub_of fun a => by
      have := h a
      rw [cnt_cons, cnt_app, cnt_cons] at this
      rw [cnt_app]; omega
    obtain ⟨G, hG⟩ := h2
    exact ⟨G, List.perm_middle.trans (hG.cons x)⟩
/-- from one heap to another one -/
theorem Sub.re {L M T : SH} (h : Sub M T) (g : ∀ a, Go.Px.cnt a L ≤ Go.Px.cnt a M) : Sub L T := (sub_of g).trans h
end Go.Px
/- Stores into a block whose cells are written out; a pointer that is not nil. -/
namespace Go.Px
set_option linter.unusedVariables false
theorem StP.cells {S : SH} {g o : Nat} {L L' : List Value} {e : TypeId} {vs : List Value} {K : SH → Prop} (hl : o + vs.length ≤ L.length) (ho : vs.all one = true) (he : L.take o ++ vs ++ L.drop (o + vs.length) = L') (h : K ((g, .cells L'.toArray e (0, 0)) :: S)) :
    StP ((g, .cells L.toArray e (0, 0)) :: S) ⟨g, o, none⟩ vs K := StP.list hl ho (he ▸ h)
theorem StP.all {S : SH} {b : Nat} {cs vs : List Value} {e : TypeId} {K : SH → Prop} (hc : vs.length = cs.length) (ho : vs.all one = true) (h : K ((b, .cells vs.toArray e (0, 0)) :: S)) : StP ((b, .cells cs.toArray e (0, 0)) :: S) ⟨b, 0, none⟩ vs K := by
  refine StP.list (by omega) ho ?_
  rw [List.take_zero, List.drop_of_length_le (by omega), List.append_nil, List.nil_append]
  exact h
/-- a store into a block that is owned among others -/
theorem StP.among {T F : SH} {g o : Nat} {L L' : List Value} {e : TypeId} {vs : List Value} {K : SH → Prop} (hs : Sub ((g, .cells L.toArray e (0, 0)) :: F) T) (hl : o + vs.length ≤ L.length) (ho : vs.all one = true) (he : L.take o ++ vs ++ L.drop (o + vs.length) = L')
    (h : ∀ T', Sub ((g, .cells L'.toArray e (0, 0)) :: F) T' → K T') : StP T ⟨g, o, none⟩ vs K := StP.of_sub hs (StP.cells hl ho he h)
theorem Cell.among {I : IMem} {T F : SH} {g o : Nat} {cs : Array Value} {e : TypeId} {fz : Nat × Nat} {v : Value} (hs : Sub ((g, .cells cs e fz) :: F) T) (h : cs[o]? = some v) : Cell I T ⟨g, o, none⟩ v := hs.cell' (Cell.at0 h)
theorem StP.at_ {T : SH} {a a' : Addr} {vs : List Value} {K : SH → Prop} (e : a = a') (h : StP T a' vs K) : StP T a vs K := e ▸ h
theorem Cell.at_ {I : IMem} {T : SH} {a a' : Addr} {v : Value} (e : a = a') (h : Cell I T a' v) : Cell I T a v := e ▸ h
theorem Sub.both {A B C D : SH} (h : Sub A B) (g : Sub C D) : Sub (A ++ C) (B ++ D) := by
  refine sub_of fun a => ?_
  have := h.cnt a
  have := g.cnt a
  rw [cnt_app, cnt_app]
  omega
end Go.Px
/- Names are labels, each with its length ahead. -/
namespace Go.Proofs.YthlkeokfmedjhaaGreat
open Go.Px
set_option linter.unusedVariables false
set_option linter.unusedSimpArgs false

def wl (l : ByteArray) : List UInt8 := UInt8.ofNat l.size :: l.data.toList
def wire (ls : List ByteArray) : List UInt8 := ls.flatMap wl
def nm (ls : List ByteArray) : ByteArray := ⟨(wire ls).toArray⟩
structure IsLab (l : ByteArray) : Prop where
  lo : 1 ≤ l.size
  hi : l.size ≤ 63
  low : foldB l = l
theorem dlen (l : ByteArray) : l.data.toList.length = l.size := Array.length_toList
theorem nm_size (ls : List ByteArray) : (nm ls).size = (wire ls).length := by simp [nm, ByteArray.size]
theorem wire_cons (l : ByteArray) (ls : List ByteArray) : wire (l :: ls) = UInt8.ofNat l.size :: (l.data.toList ++ wire ls) := rfl
theorem wire_app (a b : List ByteArray) : wire (a ++ b) = wire a ++ wire b := List.flatMap_append
theorem nm_app (a b : List ByteArray) : nm a ++ nm b = nm (a ++ b) := by
  apply ByteArray.ext
  rw [ByteArray.data_append]
  simp [nm, wire_app]
theorem ext_list {a b : ByteArray} (h : a.data.toList = b.data.toList) : a = b := ByteArray.ext (Array.toList_inj.1 h)
theorem ex_list (s : ByteArray) (a b : Nat) : (s.extract a b).data.toList = (s.data.toList.drop a).take (b - a) := by
  rw [ByteArray.data_extract, Array.toList_extract]

theorem nm_list (ls : List ByteArray) : (nm ls).data.toList = wire ls := by simp [nm]
theorem nm_first (l : ByteArray) (ls : List ByteArray) : (nm (l :: ls))[0]? = some (UInt8.ofNat l.size) := by
  have h : 0 < (nm (l :: ls)).size := by rw [nm_size, wire_cons]; simp
  rw [getElem?_pos _ 0 h]
  congr 1
theorem nm_rest (l : ByteArray) (ls : List ByteArray) : (nm (l :: ls)).extract (1 + l.size) (nm (l :: ls)).size = nm ls := by
  apply ext_list
  rw [ex_list, nm_list, nm_list, nm_size, wire_cons, Nat.add_comm 1, List.drop_succ_cons, drop_at (dlen l)]
  rw [List.take_of_length_le]
  simp only [List.length_cons, List.length_append, dlen]; omega
theorem nm_lab (l : ByteArray) (ls : List ByteArray) : (nm (l :: ls)).extract 1 (1 + l.size) = l := by
  apply ext_list
  rw [ex_list, nm_list, wire_cons, List.drop_succ_cons, List.drop_zero, Nat.add_sub_cancel_left, take_at (dlen l)]
theorem nm_cons_size (l : ByteArray) (ls : List ByteArray) : (nm (l :: ls)).size = 1 + l.size + (nm ls).size := by
  rw [nm_size, nm_size, wire_cons]
  simp only [List.length_cons, List.length_append, dlen]; omega
theorem nm_nil : nm [] = ⟨#[]⟩ := rfl
theorem splitN_nm : ∀ (ls : List ByteArray) (f : Nat), (nm ls).size ≤ f → (∀ l ∈ ls, 1 ≤ l.size ∧ l.size ≤ 63) → splitN f (nm ls) = some ls
  | [], f, _, _ => by
    cases f with
    | zero => rfl
    | succ f => rw [splitN, at_none (by rw [nm_nil]; exact Nat.le_refl _)]
  | l :: ls, f, hf, hl => by
    have hs := nm_cons_size l ls
    obtain ⟨h1, h2⟩ := hl l (List.mem_cons_self ..)
    obtain ⟨f, rfl⟩ : ∃ g, f = g + 1 := ⟨f - 1, by omega⟩
    rw [splitN, nm_first]
    have hc : (UInt8.ofNat l.size).toNat = l.size := ofNatU (by omega)
    simp only [hc]
    rw [if_neg (by omega), nm_rest, nm_lab, splitN_nm ls f (by omega) fun x hx => hl x (List.mem_cons_of_mem _ hx)]
    rfl
theorem fold_list (s : ByteArray) : (foldB s).data.toList = s.data.toList.map foldU := by simp [foldB]
theorem foldU_small {n : Nat} (h : n ≤ 63) : foldU (UInt8.ofNat n) = UInt8.ofNat n := by
  have : (UInt8.ofNat n).toNat = n := ofNatU (by omega)
  rw [foldU, if_neg (by omega)]
theorem fold_nm : ∀ (ls : List ByteArray), (∀ l ∈ ls, l.size ≤ 63) → foldB (nm ls) = nm (ls.map foldB)
  | [], _ => rfl
  | l :: ls, h => by
    apply ext_list
    have ih := congrArg (fun s : ByteArray => s.data.toList) (fold_nm ls fun x hx => h x (List.mem_cons_of_mem _ hx))
    rw [fold_list, nm_list, nm_list] at ih
    rw [fold_list, nm_list, nm_list, wire_cons, List.map_cons, List.map_cons, wire_cons, List.map_append, ih, foldU_small (h l (List.mem_cons_self ..)), foldB_size, fold_list]
theorem labN_nm {ls : List ByteArray} (h : ∀ l ∈ ls, IsLab l) (hs : (nm ls).size ≤ 254) : labN (nm ls) = some ls := by
  have hf : foldB (nm ls) = nm ls := by
    rw [fold_nm ls fun l hl => (h l hl).hi]
    congr 1
    have : ls.map foldB = ls.map id := List.map_congr_left fun l hl => (h l hl).low
    rw [this, List.map_id]
  rw [labN, if_neg (by
    rw [hf]
    rintro (h | h)
    · omega
    · exact h rfl)]
  exact splitN_nm ls _ (Nat.le_refl _) fun l hl => ⟨(h l hl).lo, (h l hl).hi⟩
theorem splitN_some : ∀ (f : Nat) (s : ByteArray) (ls : List ByteArray), s.size ≤ f → splitN f s = some ls → s = nm ls ∧ ∀ l ∈ ls, 1 ≤ l.size ∧ l.size ≤ 63
  | 0, s, ls, hf, h => by
    rw [splitN, if_pos (by omega)] at h
    injection h with h; subst h
    refine ⟨ext_list ?_, fun l h => by cases h⟩
    rw [nm_list]
    exact List.eq_nil_of_length_eq_zero (by rw [dlen]; omega)
  | f + 1, s, ls, hf, h => by
    rw [splitN] at h
    cases hc : s[0]? with
    | none =>
      rw [hc] at h
      injection h with h; subst h
      refine ⟨ext_list ?_, fun l h => by cases h⟩
      rw [nm_list]
      refine List.eq_nil_of_length_eq_zero ?_
      rw [dlen]
      rcases Nat.eq_zero_or_pos s.size with e | e
      · exact e
      · rw [getElem?_pos s 0 e] at hc; cases hc
    | some c =>
      rw [hc] at h
      dsimp only at h
      split at h
      · cases h
      · rename_i hg
        have hsz : c.toNat < s.size := by omega
        cases hr : splitN f (s.extract (1 + c.toNat) s.size) with
        | none => rw [hr] at h; cases h
        | some ms =>
          rw [hr] at h
          injection h with h; subst h
          obtain ⟨h1, h2⟩ := splitN_some f _ ms (by rw [ex_size]; omega) hr
          have hl : (s.extract 1 (1 + c.toNat)).size = c.toNat := by rw [ex_size]; omega
          refine ⟨ext_list ?_, fun l hm => ?_⟩
          · have h3 : (s.extract (1 + c.toNat) s.size).data.toList = wire ms := by rw [h1, nm_list]
            rw [ex_list, List.take_of_length_le (by rw [List.length_drop, dlen]; omega)] at h3
            have hpos : 0 < s.data.toList.length := by rw [dlen]; omega
            have h0 : s.data.toList = c :: s.data.toList.drop 1 := by
              have e : s.data.toList[0]? = some c := by
                rw [getElem?_pos s 0 (by omega)] at hc
                rw [List.getElem?_eq_getElem hpos]
                exact hc
              rw [List.getElem?_eq_getElem hpos] at e
              injection e with e
              conv => lhs; rw [← List.drop_zero (l := s.data.toList), List.drop_eq_getElem_cons hpos]
              rw [e]
            have hcc : UInt8.ofNat c.toNat = c := by simp
            rw [nm_list, wire_cons, hl, hcc, ← h3, ex_list, Nat.add_sub_cancel_left, ← List.drop_drop, List.take_append_drop]
            exact h0
          · rcases List.mem_cons.1 hm with rfl | hm
            · rw [hl]; omega
            · exact h2 l hm
theorem map_fix {f : UInt8 → UInt8} : ∀ {l : List UInt8}, l.map f = l → ∀ x ∈ l, f x = x
  | [], _, x, h => by cases h
  | y :: l, h, x, hx => by
    rw [List.map_cons] at h
    injection h with h1 h2
    rcases List.mem_cons.1 hx with rfl | hx
    · exact h1
    · exact map_fix h2 x hx
theorem labN_some {s : ByteArray} {ls : List ByteArray} (h : labN s = some ls) : s = nm ls ∧ (∀ l ∈ ls, IsLab l) ∧ s.size ≤ 254 := by
  unfold labN at h
  split at h
  · cases h
  · rename_i hg
    obtain ⟨h1, h2⟩ := splitN_some _ _ _ (Nat.le_refl _) h
    have hf : foldB s = s := Classical.byContradiction fun e => hg (.inr fun e' => e (toList_inj e').symm)
    refine ⟨h1, fun l hl => ⟨(h2 l hl).1, (h2 l hl).2, ext_list ?_⟩, by omega⟩
    have hb : ∀ b ∈ wire ls, foldU b = b := map_fix (by rw [← nm_list, ← fold_list, ← h1, hf])
    rw [fold_list]
    have : l.data.toList.map foldU = l.data.toList.map id := List.map_congr_left fun b hbm => hb b (List.mem_flatMap.2 ⟨l, hl, List.mem_cons_of_mem _ hbm⟩)
    rw [this, List.map_id]
theorem foldU_idem (u : UInt8) : foldU (foldU u) = foldU u := by
  have hu := u.toNat_lt
  by_cases h : 65 ≤ u.toNat ∧ u.toNat ≤ 90
  · have e : foldU u = UInt8.ofNat (u.toNat + 32) := by rw [foldU, if_pos h]
    have : (UInt8.ofNat (u.toNat + 32)).toNat = u.toNat + 32 := ofNatU (by omega)
    rw [e, foldU, if_neg (by omega)]
  · have e : foldU u = u := by rw [foldU, if_neg h]
    rw [e, e]
theorem foldB_idem (s : ByteArray) : foldB (foldB s) = foldB s := by
  apply ext_list
  rw [fold_list, fold_list, List.map_map]
  exact List.map_congr_left fun u _ => foldU_idem u
theorem makeN_nm : ∀ {ls : List ByteArray} {acc n : ByteArray}, makeN ls acc = some n → n = acc ++ nm (ls.map foldB) ∧ ∀ l ∈ ls, IsLab (foldB l)
  | [], acc, n, h => by
    simp [makeN] at h; subst h
    refine ⟨?_, fun l h => by cases h⟩
    apply ext_list
    rw [ByteArray.data_append]; simp [nm, wire]
  | l :: ls, acc, n, h => by
    unfold makeN at h
    split at h
    · cases h
    · rename_i hg
      obtain ⟨h1, h2⟩ := makeN_nm h
      refine ⟨?_, fun x hx => ?_⟩
      · rw [h1]
        apply ext_list
        simp [ByteArray.data_append, nm, wire_cons, ByteArray.data_push, foldB_size]
      · rcases List.mem_cons.1 hx with rfl | hx
        · exact ⟨by rw [foldB_size]; omega, by rw [foldB_size]; omega, foldB_idem _⟩
        · exact h2 x hx
/-- a name -/
def IsName (s : ByteArray) : Prop := ∃ ls, s = nm ls ∧ (∀ l ∈ ls, IsLab l) ∧ s.size ≤ 254
theorem isName_iff {s : ByteArray} : IsName s ↔ (labN s).isSome = true := by
  constructor
  · rintro ⟨ls, rfl, h1, h2⟩
    rw [labN_nm h1 h2]; rfl
  · intro h
    obtain ⟨ls, h⟩ := Option.isSome_iff_exists.1 h
    exact ⟨ls, labN_some h⟩
theorem isName_nil : IsName ⟨#[]⟩ := ⟨[], rfl, fun l h => (by cases h), by decide⟩
theorem nameW_name (xs : List Int) : IsName (nameW xs) := by
  have hs := nameW_size xs
  unfold nameW at hs ⊢
  cases h : makeN ((xs.take 12).map wd) ByteArray.empty with
  | none => exact isName_nil
  | some n =>
    obtain ⟨h1, h2⟩ := makeN_nm h
    rw [h] at hs
    refine ⟨((xs.take 12).map wd).map foldB, ?_, ?_, hs⟩
    · show n = _
      rw [h1]
      exact ByteArray.empty_append
    · intro l hl
      obtain ⟨y, hy, rfl⟩ := List.mem_map.1 hl
      exact h2 y hy
/-- a name below another one -/
theorem parN_nm {l : ByteArray} {ls : List ByteArray} (h : ∀ x ∈ l :: ls, IsLab x) (hs : (nm (l :: ls)).size ≤ 254) : parN (nm (l :: ls)) = (nm ls, true) := by
  have hl := h l (List.mem_cons_self ..)
  have hh := hl.hi
  have hc : (UInt8.ofNat l.size).toNat = l.size := ofNatU (by omega)
  unfold parN
  rw [nm_first]
  simp only [labN_nm h hs, Option.isSome_some, if_true, hc, nm_rest]
theorem goB_nm : ∀ (a b : List ByteArray) (f : Nat), a.length < f → (∀ l ∈ a ++ b, IsLab l) → (nm (a ++ b)).size ≤ 254 → goB f (nm (a ++ b)) (nm b) true = true
  | [], b, f, hf, hl, hs => by
    obtain ⟨f, rfl⟩ : ∃ g, f = g + 1 := ⟨f - 1, by omega⟩
    rw [List.nil_append, goB, if_pos rfl, if_pos (by simp)]
  | l :: a, b, f, hf, hl, hs => by
    obtain ⟨f, rfl⟩ : ∃ g, f = g + 1 := ⟨f - 1, by omega⟩
    rw [goB, if_pos rfl]
    split
    · rfl
    · have hp := parN_nm (l := l) (ls := a ++ b) hl hs
      have hz := nm_cons_size l (a ++ b)
      rw [List.cons_append, hp]
      exact goB_nm a b f (by simpa using hf) (fun x hx => hl x (List.mem_cons_of_mem _ hx)) (by rw [List.cons_append] at hs; omega)
theorem wire_len : ∀ ls : List ByteArray, ls.length ≤ (wire ls).length
  | [] => Nat.le_refl _
  | l :: ls => by
    have := wire_len ls
    rw [wire_cons]
    simp only [List.length_cons, List.length_append]; omega
theorem belowB_nm {a b : List ByteArray} (h : ∀ l ∈ a ++ b, IsLab l) (hs : (nm (a ++ b)).size ≤ 254) : belowB (nm (a ++ b)) (nm b) = true := by
  have hb : (nm b).size ≤ 254 := by
    rw [nm_size, wire_app, List.length_append] at hs
    rw [nm_size]; omega
  unfold belowB
  rw [labN_nm h hs, labN_nm (fun l hl => h l (List.mem_append_right _ hl)) hb]
  refine goB_nm a b _ ?_ h hs
  have h1 := wire_len (a ++ b)
  rw [nm_size]
  rw [List.length_append] at h1; omega
theorem below_app {x o : ByteArray} (hx : IsName x) (ho : IsName o) (hs : x.size + o.size ≤ 254) : IsName (x ++ o) ∧ belowB (x ++ o) o = true := by
  obtain ⟨a, rfl, ha, _⟩ := hx
  obtain ⟨b, rfl, hb, _⟩ := ho
  have hl : ∀ l ∈ a ++ b, IsLab l := fun l h => (List.mem_append.1 h).elim (ha l) (hb l)
  have hz : (nm (a ++ b)).size ≤ 254 := by rw [← nm_app, app_size]; exact hs
  rw [nm_app]
  exact ⟨⟨_, rfl, hl, hz⟩, belowB_nm hl hz⟩
theorem below_self {o : ByteArray} (ho : IsName o) : belowB o o = true := by
  obtain ⟨b, rfl, hb, hs⟩ := ho
  exact belowB_nm (a := []) hb hs
end Go.Proofs.YthlkeokfmedjhaaGreat
set_option linter.unusedVariables false
set_option maxRecDepth 8000
set_option maxHeartbeats 2000000
namespace Go.Proofs.YthlkeokfmedjhaaGreat
open Go.Px
/-! ### bolterlaw09_Origin: function 8, bolter/bolterlaw09.Origin -/
noncomputable def bolterlaw09_Origin_code : Code := (Tryz.f8.body).getD .skip
def bolterlaw09_Origin (R : Value → IMem → SH → Prop) (n_0 : Int) (I : IMem) (S : SH) : Prop :=
  ∀ b5 : Nat,
  Runs Tryz.prog 25 #[.slice (some ⟨b5, 0, none⟩) 1 1] I ((b5, .cells #[.int .u8 (n_0.tmod (6 : Int))] 5 (0, 0)) :: S) fun v I1 S1 => ∃ x6, v = .string x6 ∧
  R (.string x6) I1 S1
theorem bolterlaw09_Origin_fn (R : Value → IMem → SH → Prop) (n_0 : Int) (I : IMem) (S : SH) (h : bolterlaw09_Origin R n_0 I S) :
    Runs Tryz.prog 8 #[.int .u8 n_0] I S R := by
  refine Runs.of_wp (args := [.int .u8 n_0]) (c := bolterlaw09_Origin_code) Tryz.func8 (by kernel_rfl) (by kernel_rfl) ?_
  exact Pre.sound _ _ _ _ _ (cast (by kernel_rfl) h)
/-! ### bolterlaw10_Zone: function 14, bolter/bolterlaw10.Zone -/
noncomputable def bolterlaw10_Zone_code : Code := (Tryz.f14.body).getD .skip
def bolterlaw10_Zone (R : Value → IMem → SH → Prop) (origin_0 : ByteArray) (n_1 : Int) (as_2 : Option Addr) (as_2n : Nat) (as_2c : Nat) (most_3 : Int) (I : IMem) (S : SH) : Prop :=
  Runs Tryz.prog 36 #[.string origin_0, .slice as_2 as_2n as_2c, .int .i64 most_3, .bool false] I S fun v I1 S1 => ∃ x12 x12n x12c, v = .slice x12 x12n x12c ∧
  Runs Tryz.prog 11 #[.string origin_0, .int .u32 n_1] I1 S1 fun v' I1' S1' => ∃ x15_0 x15_1 x15_2 x15_3, v' = .agg #[.string x15_0, .int .u16 x15_1, .int .u32 x15_2, .string x15_3] ∧
  ∀ b16 : Nat,
  AppG 32 4 40 [.string ⟨#[]⟩, .int .u16 0, .int .u32 0, .string ⟨#[]⟩] (some (.slice 32)) I1' ((b16, .cells #[.string x15_0, .int .u16 x15_1, .int .u32 x15_2, .string x15_3] 32 (0, 0)) :: S1') (.slice x12 x12n x12c) (.slice (some ⟨b16, 0, none⟩) 1 1) fun x17 x17n x17c S1'' =>
  Runs Tryz.prog 35 #[.slice x17 x17n x17c] I1' S1'' fun v'' I1'' S1_r3 => ∃ x18 x18n x18c, v'' = .slice x18 x18n x18c ∧
  R (.slice x18 x18n x18c) I1'' S1_r3
theorem bolterlaw10_Zone_fn (R : Value → IMem → SH → Prop) (origin_0 : ByteArray) (n_1 : Int) (as_2 : Option Addr) (as_2n : Nat) (as_2c : Nat) (most_3 : Int) (I : IMem) (S : SH) (h : bolterlaw10_Zone R origin_0 n_1 as_2 as_2n as_2c most_3 I S) :
    Runs Tryz.prog 14 #[.string origin_0, .int .u32 n_1, .slice as_2 as_2n as_2c, .int .i64 most_3] I S R := by
  refine Runs.of_wp (args := [.string origin_0, .int .u32 n_1, .slice as_2 as_2n as_2c, .int .i64 most_3]) (c := bolterlaw10_Zone_code) Tryz.func14 (by kernel_rfl) (by kernel_rfl) ?_
  exact Pre.sound _ _ _ _ _ (cast (by kernel_rfl) h)
/-! ### bolterlaw09_Soa: function 11, bolter/bolterlaw09.Soa -/
noncomputable def bolterlaw09_Soa_code : Code := (Tryz.f11.body).getD .skip
def bolterlaw09_Soa (R : Value → IMem → SH → Prop) (origin_0 : ByteArray) (n_1 : Int) (I : IMem) (S : SH) : Prop :=
  ∀ b4 : Nat,
  Runs Tryz.prog 29 #[.slice none 0 0, .int .u32 n_1, .int .u8 10, .int .u8 3, .int .u8 40] I ((b4, .cells #[.string ⟨#[]⟩, .int .u16 0, .int .u32 0, .string ⟨#[]⟩] 32 (0, 0)) :: S) fun v I1 S1 => ∃ x7, v = .string x7 ∧
  StP S1 ⟨b4, 0, none⟩ [.string origin_0, .int .u16 6, .int .u32 9, .string x7] fun S1' =>
  ∃ r4_0, Cell I1 S1' ⟨b4, 0, none⟩ (.string r4_0) ∧
  ∃ r4_1, Cell I1 S1' ⟨b4, 1, none⟩ (.int .u16 r4_1) ∧
  ∃ r4_2, Cell I1 S1' ⟨b4, 2, none⟩ (.int .u32 r4_2) ∧
  ∃ r4_3, Cell I1 S1' ⟨b4, 3, none⟩ (.string r4_3) ∧
  R (.agg #[.string r4_0, .int .u16 r4_1, .int .u32 r4_2, .string r4_3]) I1 S1'
theorem bolterlaw09_Soa_fn (R : Value → IMem → SH → Prop) (origin_0 : ByteArray) (n_1 : Int) (I : IMem) (S : SH) (h : bolterlaw09_Soa R origin_0 n_1 I S) :
    Runs Tryz.prog 11 #[.string origin_0, .int .u32 n_1] I S R := by
  refine Runs.of_wp (args := [.string origin_0, .int .u32 n_1]) (c := bolterlaw09_Soa_code) Tryz.func11 (by kernel_rfl) (by kernel_rfl) ?_
  exact Pre.sound _ _ _ _ _ (cast (by kernel_rfl) h)
/-! ### bolterlaw09_Under: function 36, bolter/bolterlaw09.Under -/
noncomputable def bolterlaw09_Under_code : Code := (Tryz.f36.body).getD .skip
def bolterlaw09_Under_b5 (R : Value → IMem → SH → Prop) (out_9 : Option Addr) (out_9n : Nat) (out_9c : Nat) (I : IMem) (S : SH) : Prop :=
  R (.slice out_9 out_9n out_9c) I S
def bolterlaw09_Under_b8 (again3 : ByteArray → Int → Bool → Option Addr → Nat → Nat → Option Addr → Nat → Nat → Int → Int → IMem → SH → Prop) (R : Value → IMem → SH → Prop) (origin_0 : ByteArray) (most_2 : Int) (soas_3 : Bool) (out_9 : Option Addr) (out_9n : Nat) (out_9c : Nat) (x15 : Option Addr) (x15n : Nat) (x15c : Nat) (x16 : Int) (x17 : Int) (I : IMem) (S : SH) : Prop :=
  again3 origin_0 most_2 soas_3 out_9 out_9n out_9c x15 x15n x15c x16 (IntKind.wrap .i64 (x17 + (1 : Int))) I S
def bolterlaw09_Under_b7 (again3 : ByteArray → Int → Bool → Option Addr → Nat → Nat → Option Addr → Nat → Nat → Int → Int → IMem → SH → Prop) (R : Value → IMem → SH → Prop) (origin_0 : ByteArray) (most_2 : Int) (soas_3 : Bool) (out_9 : Option Addr) (out_9n : Nat) (out_9c : Nat) (r_12 : Addr) (x15 : Option Addr) (x15n : Nat) (x15c : Nat) (x16 : Int) (x17 : Int) (I : IMem) (S : SH) : Prop :=
  ∃ x54_0, Cell I S r_12 (.string x54_0) ∧
  ∃ x54_1, Cell I S (r_12.add 1) (.int .u16 x54_1) ∧
  ∃ x54_2, Cell I S (r_12.add 2) (.int .u32 x54_2) ∧
  ∃ x54_3, Cell I S (r_12.add 3) (.string x54_3) ∧
  ∀ b55 : Nat,
  AppG 32 4 40 [.string ⟨#[]⟩, .int .u16 0, .int .u32 0, .string ⟨#[]⟩] (some (.slice 32)) I ((b55, .cells #[.string x54_0, .int .u16 x54_1, .int .u32 x54_2, .string x54_3] 32 (0, 0)) :: S) (.slice out_9 out_9n out_9c) (.slice (some ⟨b55, 0, none⟩) 1 1) fun x56 x56n x56c S1 =>
  bolterlaw09_Under_b8 again3 R origin_0 most_2 soas_3 x56 x56n x56c x15 x15n x15c x16 x17 I S1
def bolterlaw09_Under_b6 (again3 : ByteArray → Int → Bool → Option Addr → Nat → Nat → Option Addr → Nat → Nat → Int → Int → IMem → SH → Prop) (R : Value → IMem → SH → Prop) (origin_0 : ByteArray) (most_2 : Int) (soas_3 : Bool) (out_9 : Option Addr) (out_9n : Nat) (out_9c : Nat) (a_11 : Addr) (r_12 : Addr) (n_13 : ByteArray) (x15 : Option Addr) (x15n : Nat) (x15c : Nat) (x16 : Int) (x17 : Int) (I : IMem) (S : SH) : Prop :=
  StP S r_12 [.string n_13] fun S1 =>
  ∃ x40, Cell I S1 (r_12.add 1) (.int .u16 x40) ∧
  bcase (x40 == (6 : Int))
    (∃ x44, Cell I S1 (a_11.add 2) (.int .u32 x44) ∧
    Runs Tryz.prog 11 #[.string origin_0, .int .u32 (x44.tmod (6 : Int))] I S1 fun v I1 S1' => ∃ x46_0 x46_1 x46_2 x46_3, v = .agg #[.string x46_0, .int .u16 x46_1, .int .u32 x46_2, .string x46_3] ∧
    StP S1' r_12 [.string x46_0, .int .u16 x46_1, .int .u32 x46_2, .string x46_3] fun S1'' =>
    bcase (!soas_3)
      (∃ x51, Cell I1 S1'' (a_11.add 2) (.int .u32 x51) ∧
      StP S1'' r_12 [.string origin_0, .int .u16 16, .int .u32 x51, .string ⟨#[1, 120]⟩] fun S1_r3 =>
      bolterlaw09_Under_b7 again3 R origin_0 most_2 soas_3 out_9 out_9n out_9c r_12 x15 x15n x15c x16 x17 I1 S1_r3)
      (bolterlaw09_Under_b7 again3 R origin_0 most_2 soas_3 out_9 out_9n out_9c r_12 x15 x15n x15c x16 x17 I1 S1''))
    (bolterlaw09_Under_b7 again3 R origin_0 most_2 soas_3 out_9 out_9n out_9c r_12 x15 x15n x15c x16 x17 I S1)
def bolterlaw09_Under_b4 (again3 : ByteArray → Int → Bool → Option Addr → Nat → Nat → Option Addr → Nat → Nat → Int → Int → IMem → SH → Prop) (R : Value → IMem → SH → Prop) (origin_0 : ByteArray) (most_2 : Int) (soas_3 : Bool) (out_9 : Option Addr) (out_9n : Nat) (out_9c : Nat) (x15 : Option Addr) (x15n : Nat) (x15c : Nat) (x16 : Int) (x17 : Int) (I : IMem) (S : SH) : Prop :=
  ptrP x15 fun x20 => (0 : Int) ≤ x17 ∧ x17 < (x15n : Int) ∧
  ∃ x21_0 x21_0n x21_0c, Cell I S (x20.add (x17.toNat * 5)) (.slice x21_0 x21_0n x21_0c) ∧
  ∃ x21_1, Cell I S ((x20.add (x17.toNat * 5)).add 1) (.int .u8 x21_1) ∧
  ∃ x21_2, Cell I S ((x20.add (x17.toNat * 5)).add 2) (.int .u32 x21_2) ∧
  ∃ x21_3 x21_3n x21_3c, Cell I S ((x20.add (x17.toNat * 5)).add 3) (.slice x21_3 x21_3n x21_3c) ∧
  ∃ x21_4, Cell I S ((x20.add (x17.toNat * 5)).add 4) (.string x21_4) ∧
  ∀ b11 : Nat,
  StP ((b11, .cells #[.slice none 0 0, .int .u8 0, .int .u32 0, .slice none 0 0, .string ⟨#[]⟩] 107 (0, 0)) :: S) ⟨b11, 0, none⟩ [.slice x21_0 x21_0n x21_0c, .int .u8 x21_1, .int .u32 x21_2, .slice x21_3 x21_3n x21_3c, .string x21_4] fun S1 =>
  bcase (x17 == most_2)
    (bolterlaw09_Under_b5 R out_9 out_9n out_9c I S1)
    (∃ x25_0 x25_0n x25_0c, Cell I S1 ⟨b11, 0, none⟩ (.slice x25_0 x25_0n x25_0c) ∧
    ∃ x25_1, Cell I S1 ⟨b11, 1, none⟩ (.int .u8 x25_1) ∧
    ∃ x25_2, Cell I S1 ⟨b11, 2, none⟩ (.int .u32 x25_2) ∧
    ∃ x25_3 x25_3n x25_3c, Cell I S1 ⟨b11, 3, none⟩ (.slice x25_3 x25_3n x25_3c) ∧
    ∃ x25_4, Cell I S1 ⟨b11, 4, none⟩ (.string x25_4) ∧
    Runs Tryz.prog 52 #[.agg #[.slice x25_0 x25_0n x25_0c, .int .u8 x25_1, .int .u32 x25_2, .slice x25_3 x25_3n x25_3c, .string x25_4]] I S1 fun v I1 S1' => ∃ x26_0 x26_1 x26_2 x26_3, v = .agg #[.string x26_0, .int .u16 x26_1, .int .u32 x26_2, .string x26_3] ∧
    ∀ b12 : Nat,
    StP ((b12, .cells #[.string ⟨#[]⟩, .int .u16 0, .int .u32 0, .string ⟨#[]⟩] 32 (0, 0)) :: S1') ⟨b12, 0, none⟩ [.string x26_0, .int .u16 x26_1, .int .u32 x26_2, .string x26_3] fun S1'' =>
    ∃ x29, Cell I1 S1'' ⟨b12, 0, none⟩ (.string x29) ∧
    Runs Tryz.prog 53 #[.string x29, .string origin_0] I1 S1'' fun v' I1' S1_r3 => ∃ x31_0 x31_1, v' = .tuple #[.string x31_0, .bool x31_1] ∧
    bcase (!x31_1)
      (bolterlaw09_Under_b6 again3 R origin_0 most_2 soas_3 out_9 out_9n out_9c ⟨b11, 0, none⟩ ⟨b12, 0, none⟩ origin_0 x15 x15n x15c x16 x17 I1' S1_r3)
      (bolterlaw09_Under_b6 again3 R origin_0 most_2 soas_3 out_9 out_9n out_9c ⟨b11, 0, none⟩ ⟨b12, 0, none⟩ x31_0 x15 x15n x15c x16 x17 I1' S1_r3))
def bolterlaw09_Under_l3 (again3 : ByteArray → Int → Bool → Option Addr → Nat → Nat → Option Addr → Nat → Nat → Int → Int → IMem → SH → Prop) (R : Value → IMem → SH → Prop) (origin_0 : ByteArray) (most_2 : Int) (soas_3 : Bool) (out_9 : Option Addr) (out_9n : Nat) (out_9c : Nat) (x15 : Option Addr) (x15n : Nat) (x15c : Nat) (x16 : Int) (x17 : Int) (I : IMem) (S : SH) : Prop :=
  bcase (decide (x17 < x16))
    (bolterlaw09_Under_b4 again3 R origin_0 most_2 soas_3 out_9 out_9n out_9c x15 x15n x15c x16 x17 I S)
    (bolterlaw09_Under_b5 R out_9 out_9n out_9c I S)
def bolterlaw09_Under_b2 (R : Value → IMem → SH → Prop) (origin_0 : ByteArray) (most_2 : Int) (soas_3 : Bool) (out_9 : Option Addr) (out_9n : Nat) (out_9c : Nat) (x15 : Option Addr) (x15n : Nat) (x15c : Nat) (x16 : Int) (x17 : Int) (I : IMem) (S : SH) : Prop :=
  ∃ (Inv : Nat → ByteArray → Int → Bool → Option Addr → Nat → Nat → Option Addr → Nat → Nat → Int → Int → IMem → SH → Prop) (m : Nat), Inv m origin_0 most_2 soas_3 out_9 out_9n out_9c x15 x15n x15c x16 x17 I S ∧
    ∀ (m : Nat) (origin_0 : ByteArray) (most_2 : Int) (soas_3 : Bool) (out_9 : Option Addr) (out_9n : Nat) (out_9c : Nat) (x15 : Option Addr) (x15n : Nat) (x15c : Nat) (x16 : Int) (x17 : Int) (J : IMem) (T : SH), I.le J → Inv m origin_0 most_2 soas_3 out_9 out_9n out_9c x15 x15n x15c x16 x17 J T →
      bolterlaw09_Under_l3 (fun origin_0 most_2 soas_3 out_9 out_9n out_9c x15 x15n x15c x16 x17 I S => ∃ m', m' < m ∧ Inv m' origin_0 most_2 soas_3 out_9 out_9n out_9c x15 x15n x15c x16 x17 I S) R origin_0 most_2 soas_3 out_9 out_9n out_9c x15 x15n x15c x16 x17 J T
def bolterlaw09_Under_b1 (R : Value → IMem → SH → Prop) (origin_0 : ByteArray) (as_1 : Option Addr) (as_1n : Nat) (as_1c : Nat) (most_2 : Int) (soas_3 : Bool) (out_9 : Option Addr) (out_9n : Nat) (out_9c : Nat) (I : IMem) (S : SH) : Prop :=
  bolterlaw09_Under_b2 R origin_0 most_2 soas_3 out_9 out_9n out_9c as_1 as_1n as_1c (as_1n : Int) 0 I S
def bolterlaw09_Under (R : Value → IMem → SH → Prop) (origin_0 : ByteArray) (as_1 : Option Addr) (as_1n : Nat) (as_1c : Nat) (most_2 : Int) (soas_3 : Bool) (I : IMem) (S : SH) : Prop :=
  bolterlaw09_Under_b1 R origin_0 as_1 as_1n as_1c most_2 soas_3 none 0 0 I S
theorem bolterlaw09_Under_fn (R : Value → IMem → SH → Prop) (origin_0 : ByteArray) (as_1 : Option Addr) (as_1n : Nat) (as_1c : Nat) (most_2 : Int) (soas_3 : Bool) (I : IMem) (S : SH) (h : bolterlaw09_Under R origin_0 as_1 as_1n as_1c most_2 soas_3 I S) :
    Runs Tryz.prog 36 #[.string origin_0, .slice as_1 as_1n as_1c, .int .i64 most_2, .bool soas_3] I S R := by
  refine Runs.of_wp (args := [.string origin_0, .slice as_1 as_1n as_1c, .int .i64 most_2, .bool soas_3]) (c := bolterlaw09_Under_code) Tryz.func36 (by kernel_rfl) (by kernel_rfl) ?_
  refine WP.cut 2 (fun l I S => asStr (l 0) fun origin_0 => asSl (l 1) fun as_1 as_1n as_1c => asI .i64 (l 2) fun most_2 => asB (l 3) fun soas_3 => asSl (l 9) fun out_9 out_9n out_9c => bolterlaw09_Under_b1 R origin_0 as_1 as_1n as_1c most_2 soas_3 out_9 out_9n out_9c I S) (cast (by kernel_rfl) h) ?_
  clear h
  intro l I S _ h
  obtain ⟨origin_0, e0, h⟩ := asStr_e h
  obtain ⟨as_1, as_1n, as_1c, e1, h⟩ := asSl_e h
  obtain ⟨most_2, e2, h⟩ := asI_e h
  obtain ⟨soas_3, e3, h⟩ := asB_e h
  obtain ⟨out_9, out_9n, out_9c, e9, h⟩ := asSl_e h
  rw [upd_eta e0, upd_eta e1, upd_eta e2, upd_eta e3, upd_eta e9]
  refine WP.seqY (by kernel_rfl) (fun l I S => asSl (l 9) fun out_9 out_9n out_9c => bolterlaw09_Under_b5 R out_9 out_9n out_9c I S) ?_ ?_
  ·
    refine WP.cut 1 (fun l I S => asStr (l 0) fun origin_0 => asI .i64 (l 2) fun most_2 => asB (l 3) fun soas_3 => asSl (l 9) fun out_9 out_9n out_9c => asSl (l 15) fun x15 x15n x15c => asI .i64 (l 16) fun x16 => asI .i64 (l 17) fun x17 => bolterlaw09_Under_b2 R origin_0 most_2 soas_3 out_9 out_9n out_9c x15 x15n x15c x16 x17 I S) (cast (by kernel_rfl) h) ?_
    clear h
    intro l I S _ h
    obtain ⟨origin_0, e0, h⟩ := asStr_e h
    obtain ⟨most_2, e2, h⟩ := asI_e h
    obtain ⟨soas_3, e3, h⟩ := asB_e h
    obtain ⟨out_9, out_9n, out_9c, e9, h⟩ := asSl_e h
    obtain ⟨x15, x15n, x15c, e15, h⟩ := asSl_e h
    obtain ⟨x16, e16, h⟩ := asI_e h
    obtain ⟨x17, e17, h⟩ := asI_e h
    rw [upd_eta e0, upd_eta e2, upd_eta e3, upd_eta e9, upd_eta e15, upd_eta e16, upd_eta e17]
    refine WP.block' (by kernel_rfl) ?_
    obtain ⟨Inv_again3, m_again3, h0, hr⟩ := h
    refine WP.loop' (by kernel_rfl) (fun m_again3 => fun l I S => asStr (l 0) fun origin_0 => asI .i64 (l 2) fun most_2 => asB (l 3) fun soas_3 => asSl (l 9) fun out_9 out_9n out_9c => asSl (l 15) fun x15 x15n x15c => asI .i64 (l 16) fun x16 => asI .i64 (l 17) fun x17 => Inv_again3 m_again3 origin_0 most_2 soas_3 out_9 out_9n out_9c x15 x15n x15c x16 x17 I S) m_again3 (cast (by kernel_rfl) h0) ?_
    clear h0
    intro m_again3 l I S hle h
    obtain ⟨origin_0, e0, h⟩ := asStr_e h
    obtain ⟨most_2, e2, h⟩ := asI_e h
    obtain ⟨soas_3, e3, h⟩ := asB_e h
    obtain ⟨out_9, out_9n, out_9c, e9, h⟩ := asSl_e h
    obtain ⟨x15, x15n, x15c, e15, h⟩ := asSl_e h
    obtain ⟨x16, e16, h⟩ := asI_e h
    obtain ⟨x17, e17, h⟩ := asI_e h
    rw [upd_eta e0, upd_eta e2, upd_eta e3, upd_eta e9, upd_eta e15, upd_eta e16, upd_eta e17]
    have h := hr m_again3 origin_0 most_2 soas_3 out_9 out_9n out_9c x15 x15n x15c x16 x17 I S hle h
    clear hr hle
    refine WP.cut 2 (fun l I S => asStr (l 0) fun origin_0 => asI .i64 (l 2) fun most_2 => asB (l 3) fun soas_3 => asSl (l 9) fun out_9 out_9n out_9c => asSl (l 15) fun x15 x15n x15c => asI .i64 (l 16) fun x16 => asI .i64 (l 17) fun x17 => bolterlaw09_Under_b4 (fun origin_0 most_2 soas_3 out_9 out_9n out_9c x15 x15n x15c x16 x17 I S => ∃ m', m' < m_again3 ∧ Inv_again3 m' origin_0 most_2 soas_3 out_9 out_9n out_9c x15 x15n x15c x16 x17 I S) R origin_0 most_2 soas_3 out_9 out_9n out_9c x15 x15n x15c x16 x17 I S) (cast (by kernel_rfl) h) ?_
    clear h
    intro l I S _ h
    obtain ⟨origin_0, e0, h⟩ := asStr_e h
    obtain ⟨most_2, e2, h⟩ := asI_e h
    obtain ⟨soas_3, e3, h⟩ := asB_e h
    obtain ⟨out_9, out_9n, out_9c, e9, h⟩ := asSl_e h
    obtain ⟨x15, x15n, x15c, e15, h⟩ := asSl_e h
    obtain ⟨x16, e16, h⟩ := asI_e h
    obtain ⟨x17, e17, h⟩ := asI_e h
    rw [upd_eta e0, upd_eta e2, upd_eta e3, upd_eta e9, upd_eta e15, upd_eta e16, upd_eta e17]
    refine WP.seqY (by kernel_rfl) (fun l I S => asStr (l 0) fun origin_0 => asI .i64 (l 2) fun most_2 => asB (l 3) fun soas_3 => asSl (l 9) fun out_9 out_9n out_9c => asSl (l 15) fun x15 x15n x15c => asI .i64 (l 16) fun x16 => asI .i64 (l 17) fun x17 => bolterlaw09_Under_b8 (fun origin_0 most_2 soas_3 out_9 out_9n out_9c x15 x15n x15c x16 x17 I S => ∃ m', m' < m_again3 ∧ Inv_again3 m' origin_0 most_2 soas_3 out_9 out_9n out_9c x15 x15n x15c x16 x17 I S) R origin_0 most_2 soas_3 out_9 out_9n out_9c x15 x15n x15c x16 x17 I S) ?_ ?_
    ·
      refine WP.block' (by kernel_rfl) ?_
      refine WP.cut 5 (fun l I S => asStr (l 0) fun origin_0 => asI .i64 (l 2) fun most_2 => asB (l 3) fun soas_3 => asSl (l 9) fun out_9 out_9n out_9c => asAdr (l 11) fun a_11 => asAdr (l 12) fun r_12 => asStr (l 13) fun n_13 => asSl (l 15) fun x15 x15n x15c => asI .i64 (l 16) fun x16 => asI .i64 (l 17) fun x17 => bolterlaw09_Under_b6 (fun origin_0 most_2 soas_3 out_9 out_9n out_9c x15 x15n x15c x16 x17 I S => ∃ m', m' < m_again3 ∧ Inv_again3 m' origin_0 most_2 soas_3 out_9 out_9n out_9c x15 x15n x15c x16 x17 I S) R origin_0 most_2 soas_3 out_9 out_9n out_9c a_11 r_12 n_13 x15 x15n x15c x16 x17 I S) (cast (by kernel_rfl) h) ?_
      clear h
      intro l I S _ h
      obtain ⟨origin_0, e0, h⟩ := asStr_e h
      obtain ⟨most_2, e2, h⟩ := asI_e h
      obtain ⟨soas_3, e3, h⟩ := asB_e h
      obtain ⟨out_9, out_9n, out_9c, e9, h⟩ := asSl_e h
      obtain ⟨a_11, e11, h⟩ := asAdr_e h
      obtain ⟨r_12, e12, h⟩ := asAdr_e h
      obtain ⟨n_13, e13, h⟩ := asStr_e h
      obtain ⟨x15, x15n, x15c, e15, h⟩ := asSl_e h
      obtain ⟨x16, e16, h⟩ := asI_e h
      obtain ⟨x17, e17, h⟩ := asI_e h
      rw [upd_eta e0, upd_eta e2, upd_eta e3, upd_eta e9, upd_eta e11, upd_eta e12, upd_eta e13, upd_eta e15, upd_eta e16, upd_eta e17]
      refine WP.cut 2 (fun l I S => asStr (l 0) fun origin_0 => asI .i64 (l 2) fun most_2 => asB (l 3) fun soas_3 => asSl (l 9) fun out_9 out_9n out_9c => asAdr (l 12) fun r_12 => asSl (l 15) fun x15 x15n x15c => asI .i64 (l 16) fun x16 => asI .i64 (l 17) fun x17 => bolterlaw09_Under_b7 (fun origin_0 most_2 soas_3 out_9 out_9n out_9c x15 x15n x15c x16 x17 I S => ∃ m', m' < m_again3 ∧ Inv_again3 m' origin_0 most_2 soas_3 out_9 out_9n out_9c x15 x15n x15c x16 x17 I S) R origin_0 most_2 soas_3 out_9 out_9n out_9c r_12 x15 x15n x15c x16 x17 I S) (cast (by kernel_rfl) h) ?_
      clear h
      intro l I S _ h
      obtain ⟨origin_0, e0, h⟩ := asStr_e h
      obtain ⟨most_2, e2, h⟩ := asI_e h
      obtain ⟨soas_3, e3, h⟩ := asB_e h
      obtain ⟨out_9, out_9n, out_9c, e9, h⟩ := asSl_e h
      obtain ⟨r_12, e12, h⟩ := asAdr_e h
      obtain ⟨x15, x15n, x15c, e15, h⟩ := asSl_e h
      obtain ⟨x16, e16, h⟩ := asI_e h
      obtain ⟨x17, e17, h⟩ := asI_e h
      rw [upd_eta e0, upd_eta e2, upd_eta e3, upd_eta e9, upd_eta e12, upd_eta e15, upd_eta e16, upd_eta e17]
      exact Pre.sound _ _ _ _ _ (cast (by kernel_rfl) h)
    · clear h
      intro l I S _ h
      obtain ⟨origin_0, e0, h⟩ := asStr_e h
      obtain ⟨most_2, e2, h⟩ := asI_e h
      obtain ⟨soas_3, e3, h⟩ := asB_e h
      obtain ⟨out_9, out_9n, out_9c, e9, h⟩ := asSl_e h
      obtain ⟨x15, x15n, x15c, e15, h⟩ := asSl_e h
      obtain ⟨x16, e16, h⟩ := asI_e h
      obtain ⟨x17, e17, h⟩ := asI_e h
      rw [upd_eta e0, upd_eta e2, upd_eta e3, upd_eta e9, upd_eta e15, upd_eta e16, upd_eta e17]
      exact Pre.sound _ _ _ _ _ (cast (by kernel_rfl) h)
  · clear h
    intro l I S _ h
    obtain ⟨out_9, out_9n, out_9c, e9, h⟩ := asSl_e h
    rw [upd_eta e9]
    exact Pre.sound _ _ _ _ _ (cast (by kernel_rfl) h)
/-! ### apply_Delta: function 68, bolter/apply.Delta -/
noncomputable def apply_Delta_code : Code := (Tryz.f68.body).getD .skip
def apply_Delta_b10 (R : Value → IMem → SH → Prop) (out_8 : Option Addr) (out_8n : Nat) (out_8c : Nat) (e_9 : Value) (I : IMem) (S : SH) : Prop :=
  ∃ nl, isNilI e_9 = some nl ∧
  bcase (!nl)
    (R (.tuple #[.slice none 0 0, e_9]) I S)
    (R (.tuple #[.slice out_8 out_8n out_8c, .nilIface]) I S)
def apply_Delta_l9 (again9 : Option Addr → Nat → Nat → Value → Option Addr → Nat → Nat → Int → Int → IMem → SH → Prop) (R : Value → IMem → SH → Prop) (out_8 : Option Addr) (out_8n : Nat) (out_8c : Nat) (e_9 : Value) (x58 : Option Addr) (x58n : Nat) (x58c : Nat) (x59 : Int) (x60 : Int) (I : IMem) (S : SH) : Prop :=
  bcase (decide (x60 < x59))
    (ptrP x58 fun x62 => (0 : Int) ≤ x60 ∧ x60 < (x58n : Int) ∧
    ∃ x63_0, Cell I S (x62.add (x60.toNat * 4)) (.string x63_0) ∧
    ∃ x63_1, Cell I S ((x62.add (x60.toNat * 4)).add 1) (.int .u16 x63_1) ∧
    ∃ x63_2, Cell I S ((x62.add (x60.toNat * 4)).add 2) (.int .u32 x63_2) ∧
    ∃ x63_3, Cell I S ((x62.add (x60.toNat * 4)).add 3) (.string x63_3) ∧
    ∀ b13 : Nat,
    StP ((b13, .cells #[.string ⟨#[]⟩, .int .u16 0, .int .u32 0, .string ⟨#[]⟩] 32 (0, 0)) :: S) ⟨b13, 0, none⟩ [.string x63_0, .int .u16 x63_1, .int .u32 x63_2, .string x63_3] fun S1 =>
    ∃ nl, isNilI e_9 = some nl ∧
    bcase (!nl)
      (R (.tuple #[.slice none 0 0, e_9]) I S1)
      (∃ x69_0, Cell I S1 ⟨b13, 0, none⟩ (.string x69_0) ∧
      ∃ x69_1, Cell I S1 ⟨b13, 1, none⟩ (.int .u16 x69_1) ∧
      ∃ x69_2, Cell I S1 ⟨b13, 2, none⟩ (.int .u32 x69_2) ∧
      ∃ x69_3, Cell I S1 ⟨b13, 3, none⟩ (.string x69_3) ∧
      Runs Tryz.prog 89 #[.slice out_8 out_8n out_8c, .agg #[.string x69_0, .int .u16 x69_1, .int .u32 x69_2, .string x69_3]] I S1 fun v I1 S1' => ∃ x70_0 x70_0n x70_0c x70_1, v = .tuple #[.slice x70_0 x70_0n x70_0c, x70_1] ∧
      again9 x70_0 x70_0n x70_0c x70_1 x58 x58n x58c x59 (IntKind.wrap .i64 (x60 + (1 : Int))) I1 S1'))
    (apply_Delta_b10 R out_8 out_8n out_8c e_9 I S)
def apply_Delta_b8 (R : Value → IMem → SH → Prop) (out_8 : Option Addr) (out_8n : Nat) (out_8c : Nat) (e_9 : Value) (x58 : Option Addr) (x58n : Nat) (x58c : Nat) (x59 : Int) (x60 : Int) (I : IMem) (S : SH) : Prop :=
  ∃ (Inv : Nat → Option Addr → Nat → Nat → Value → Option Addr → Nat → Nat → Int → Int → IMem → SH → Prop) (m : Nat), Inv m out_8 out_8n out_8c e_9 x58 x58n x58c x59 x60 I S ∧
    ∀ (m : Nat) (out_8 : Option Addr) (out_8n : Nat) (out_8c : Nat) (e_9 : Value) (x58 : Option Addr) (x58n : Nat) (x58c : Nat) (x59 : Int) (x60 : Int) (J : IMem) (T : SH), I.le J → Inv m out_8 out_8n out_8c e_9 x58 x58n x58c x59 x60 J T →
      apply_Delta_l9 (fun out_8 out_8n out_8c e_9 x58 x58n x58c x59 x60 I S => ∃ m', m' < m ∧ Inv m' out_8 out_8n out_8c e_9 x58 x58n x58c x59 x60 I S) R out_8 out_8n out_8c e_9 x58 x58n x58c x59 x60 J T
def apply_Delta_b7 (R : Value → IMem → SH → Prop) (d_3 : Addr) (out_8 : Option Addr) (out_8n : Nat) (out_8c : Nat) (e_9 : Value) (I : IMem) (S : SH) : Prop :=
  ∃ x53 x53n x53c, Cell I S (d_3.add 9) (.slice x53 x53n x53c) ∧
  ∃ x56_0, Cell I S (d_3.add 4) (.string x56_0) ∧
  ∃ x56_1, Cell I S ((d_3.add 4).add 1) (.int .u16 x56_1) ∧
  ∃ x56_2, Cell I S ((d_3.add 4).add 2) (.int .u32 x56_2) ∧
  ∃ x56_3, Cell I S ((d_3.add 4).add 3) (.string x56_3) ∧
  (Runs Tryz.prog 61 #[.slice x53 x53n x53c] I S fun v I1 S1 => ∃ x54 x54n x54c, v = .slice x54 x54n x54c ∧
  Keep I S I1 S1 ∧
  ∀ b57 : Nat,
  Keep I S I1 ((b57, .cells #[.string x56_0, .int .u16 x56_1, .int .u32 x56_2, .string x56_3] 32 (0, 0)) :: S1) ∧
  AppG 32 4 40 [.string ⟨#[]⟩, .int .u16 0, .int .u32 0, .string ⟨#[]⟩] (some (.slice 32)) I1 ((b57, .cells #[.string x56_0, .int .u16 x56_1, .int .u32 x56_2, .string x56_3] 32 (0, 0)) :: S1) (.slice x54 x54n x54c) (.slice (some ⟨b57, 0, none⟩) 1 1) fun x58 x58n x58c S1' =>
  apply_Delta_b8 R out_8 out_8n out_8c e_9 x58 x58n x58c (x58n : Int) 0 I1 S1') ∧
  (∀ b57' : Nat,
  Keep I S I ((b57', .cells #[.string x56_0, .int .u16 x56_1, .int .u32 x56_2, .string x56_3] 32 (0, 0)) :: S) ∧
  Runs Tryz.prog 61 #[.slice x53 x53n x53c] I ((b57', .cells #[.string x56_0, .int .u16 x56_1, .int .u32 x56_2, .string x56_3] 32 (0, 0)) :: S) fun v' I1' S1'' => ∃ x54' x54'n x54'c, v' = .slice x54' x54'n x54'c ∧
  Keep I S I1' S1'' ∧
  AppG 32 4 40 [.string ⟨#[]⟩, .int .u16 0, .int .u32 0, .string ⟨#[]⟩] (some (.slice 32)) I1' S1'' (.slice x54' x54'n x54'c) (.slice (some ⟨b57', 0, none⟩) 1 1) fun x58' x58'n x58'c S1_r3 =>
  apply_Delta_b8 R out_8 out_8n out_8c e_9 x58' x58'n x58'c (x58'n : Int) 0 I1' S1_r3)
def apply_Delta_l6 (again6 : Addr → Option Addr → Nat → Nat → Value → Option Addr → Nat → Nat → Int → Int → IMem → SH → Prop) (R : Value → IMem → SH → Prop) (d_3 : Addr) (out_8 : Option Addr) (out_8n : Nat) (out_8c : Nat) (e_9 : Value) (x36 : Option Addr) (x36n : Nat) (x36c : Nat) (x37 : Int) (x38 : Int) (I : IMem) (S : SH) : Prop :=
  bcase (decide (x38 < x37))
    (ptrP x36 fun x40 => (0 : Int) ≤ x38 ∧ x38 < (x36n : Int) ∧
    ∃ x41_0, Cell I S (x40.add (x38.toNat * 4)) (.string x41_0) ∧
    ∃ x41_1, Cell I S ((x40.add (x38.toNat * 4)).add 1) (.int .u16 x41_1) ∧
    ∃ x41_2, Cell I S ((x40.add (x38.toNat * 4)).add 2) (.int .u32 x41_2) ∧
    ∃ x41_3, Cell I S ((x40.add (x38.toNat * 4)).add 3) (.string x41_3) ∧
    ∀ b11 : Nat,
    StP ((b11, .cells #[.string ⟨#[]⟩, .int .u16 0, .int .u32 0, .string ⟨#[]⟩] 32 (0, 0)) :: S) ⟨b11, 0, none⟩ [.string x41_0, .int .u16 x41_1, .int .u32 x41_2, .string x41_3] fun S1 =>
    ∃ nl, isNilI e_9 = some nl ∧
    bcase (!nl)
      (R (.tuple #[.slice none 0 0, e_9]) I S1)
      (∃ x47_0, Cell I S1 ⟨b11, 0, none⟩ (.string x47_0) ∧
      ∃ x47_1, Cell I S1 ⟨b11, 1, none⟩ (.int .u16 x47_1) ∧
      ∃ x47_2, Cell I S1 ⟨b11, 2, none⟩ (.int .u32 x47_2) ∧
      ∃ x47_3, Cell I S1 ⟨b11, 3, none⟩ (.string x47_3) ∧
      Runs Tryz.prog 88 #[.slice out_8 out_8n out_8c, .agg #[.string x47_0, .int .u16 x47_1, .int .u32 x47_2, .string x47_3]] I S1 fun v I1 S1' => ∃ x48_0 x48_0n x48_0c x48_1, v = .tuple #[.slice x48_0 x48_0n x48_0c, x48_1] ∧
      again6 d_3 x48_0 x48_0n x48_0c x48_1 x36 x36n x36c x37 (IntKind.wrap .i64 (x38 + (1 : Int))) I1 S1'))
    (apply_Delta_b7 R d_3 out_8 out_8n out_8c e_9 I S)
def apply_Delta_b5 (R : Value → IMem → SH → Prop) (d_3 : Addr) (out_8 : Option Addr) (out_8n : Nat) (out_8c : Nat) (e_9 : Value) (x36 : Option Addr) (x36n : Nat) (x36c : Nat) (x37 : Int) (x38 : Int) (I : IMem) (S : SH) : Prop :=
  ∃ (Inv : Nat → Addr → Option Addr → Nat → Nat → Value → Option Addr → Nat → Nat → Int → Int → IMem → SH → Prop) (m : Nat), Inv m d_3 out_8 out_8n out_8c e_9 x36 x36n x36c x37 x38 I S ∧
    ∀ (m : Nat) (d_3 : Addr) (out_8 : Option Addr) (out_8n : Nat) (out_8c : Nat) (e_9 : Value) (x36 : Option Addr) (x36n : Nat) (x36c : Nat) (x37 : Int) (x38 : Int) (J : IMem) (T : SH), I.le J → Inv m d_3 out_8 out_8n out_8c e_9 x36 x36n x36c x37 x38 J T →
      apply_Delta_l6 (fun d_3 out_8 out_8n out_8c e_9 x36 x36n x36c x37 x38 I S => ∃ m', m' < m ∧ Inv m' d_3 out_8 out_8n out_8c e_9 x36 x36n x36c x37 x38 I S) R d_3 out_8 out_8n out_8c e_9 x36 x36n x36c x37 x38 J T
def apply_Delta_b4 (R : Value → IMem → SH → Prop) (d_3 : Addr) (out_8 : Option Addr) (out_8n : Nat) (out_8c : Nat) (e_9 : Value) (I : IMem) (S : SH) : Prop :=
  ∃ x36 x36n x36c, Cell I S (d_3.add 8) (.slice x36 x36n x36c) ∧
  apply_Delta_b5 R d_3 out_8 out_8n out_8c e_9 x36 x36n x36c (x36n : Int) 0 I S
def apply_Delta_b3 (R : Value → IMem → SH → Prop) (z_0 : Option Addr) (z_0n : Nat) (z_0c : Nat) (d_3 : Addr) (I : IMem) (S : SH) : Prop :=
  ∃ x31_0, Cell I S d_3 (.string x31_0) ∧
  ∃ x31_1, Cell I S (d_3.add 1) (.int .u16 x31_1) ∧
  ∃ x31_2, Cell I S (d_3.add 2) (.int .u32 x31_2) ∧
  ∃ x31_3, Cell I S (d_3.add 3) (.string x31_3) ∧
  Runs Tryz.prog 88 #[.slice z_0 z_0n z_0c, .agg #[.string x31_0, .int .u16 x31_1, .int .u32 x31_2, .string x31_3]] I S fun v I1 S1 => ∃ x32_0 x32_0n x32_0c x32_1, v = .tuple #[.slice x32_0 x32_0n x32_0c, x32_1] ∧
  apply_Delta_b4 R d_3 x32_0 x32_0n x32_0c x32_1 I1 S1
def apply_Delta_b2 (R : Value → IMem → SH → Prop) (z_0 : Option Addr) (z_0n : Nat) (z_0c : Nat) (d_3 : Addr) (x26 : Bool) (I : IMem) (S : SH) : Prop :=
  bcase x26
    (R (.tuple #[.slice none 0 0, (.iface 123 (.int .i64 5))]) I S)
    (apply_Delta_b3 R z_0 z_0n z_0c d_3 I S)
def apply_Delta_b1 (R : Value → IMem → SH → Prop) (z_0 : Option Addr) (z_0n : Nat) (z_0c : Nat) (d_3 : Addr) (I : IMem) (S : SH) : Prop :=
  Runs Tryz.prog 40 #[.slice z_0 z_0n z_0c] I S fun v I1 S1 => ∃ x16_0_0 x16_0_1 x16_0_2 x16_0_3 x16_1, v = .tuple #[.agg #[.string x16_0_0, .int .u16 x16_0_1, .int .u32 x16_0_2, .string x16_0_3], .bool x16_1] ∧
  ∀ b6 : Nat,
  StP ((b6, .cells #[.string ⟨#[]⟩, .int .u16 0, .int .u32 0, .string ⟨#[]⟩] 32 (0, 0)) :: S1) ⟨b6, 0, none⟩ [.string x16_0_0, .int .u16 x16_0_1, .int .u32 x16_0_2, .string x16_0_3] fun S1' =>
  bcase (!x16_1)
    (apply_Delta_b2 R z_0 z_0n z_0c d_3 true I1 S1')
    (∃ x22_0, Cell I1 S1' ⟨b6, 0, none⟩ (.string x22_0) ∧
    ∃ x22_1, Cell I1 S1' ⟨b6, 1, none⟩ (.int .u16 x22_1) ∧
    ∃ x22_2, Cell I1 S1' ⟨b6, 2, none⟩ (.int .u32 x22_2) ∧
    ∃ x22_3, Cell I1 S1' ⟨b6, 3, none⟩ (.string x22_3) ∧
    ∃ x24_0, Cell I1 S1' d_3 (.string x24_0) ∧
    ∃ x24_1, Cell I1 S1' (d_3.add 1) (.int .u16 x24_1) ∧
    ∃ x24_2, Cell I1 S1' (d_3.add 2) (.int .u32 x24_2) ∧
    ∃ x24_3, Cell I1 S1' (d_3.add 3) (.string x24_3) ∧
    apply_Delta_b2 R z_0 z_0n z_0c d_3 (!(((x22_0 : ByteArray) == (x24_0 : ByteArray)) && (((x22_1 : Int) == (x24_1 : Int)) && (((x22_2 : Int) == (x24_2 : Int)) && (((x22_3 : ByteArray) == (x24_3 : ByteArray)) && true))))) I1 S1')
def apply_Delta (R : Value → IMem → SH → Prop) (z_0 : Option Addr) (z_0n : Nat) (z_0c : Nat) (d_1_0 : ByteArray) (d_1_1 : Int) (d_1_2 : Int) (d_1_3 : ByteArray) (d_1_4 : ByteArray) (d_1_5 : Int) (d_1_6 : Int) (d_1_7 : ByteArray) (d_1_8 : Option Addr) (d_1_8n : Nat) (d_1_8c : Nat) (d_1_9 : Option Addr) (d_1_9n : Nat) (d_1_9c : Nat) (I : IMem) (S : SH) : Prop :=
  ∀ b3 : Nat,
  apply_Delta_b1 R z_0 z_0n z_0c ⟨b3, 0, none⟩ I ((b3, .cells #[.string d_1_0, .int .u16 d_1_1, .int .u32 d_1_2, .string d_1_3, .string d_1_4, .int .u16 d_1_5, .int .u32 d_1_6, .string d_1_7, .slice d_1_8 d_1_8n d_1_8c, .slice d_1_9 d_1_9n d_1_9c] 131 (0, 0)) :: S)
theorem apply_Delta_fn (R : Value → IMem → SH → Prop) (z_0 : Option Addr) (z_0n : Nat) (z_0c : Nat) (d_1_0 : ByteArray) (d_1_1 : Int) (d_1_2 : Int) (d_1_3 : ByteArray) (d_1_4 : ByteArray) (d_1_5 : Int) (d_1_6 : Int) (d_1_7 : ByteArray) (d_1_8 : Option Addr) (d_1_8n : Nat) (d_1_8c : Nat) (d_1_9 : Option Addr) (d_1_9n : Nat) (d_1_9c : Nat) (I : IMem) (S : SH) (h : apply_Delta R z_0 z_0n z_0c d_1_0 d_1_1 d_1_2 d_1_3 d_1_4 d_1_5 d_1_6 d_1_7 d_1_8 d_1_8n d_1_8c d_1_9 d_1_9n d_1_9c I S) :
    Runs Tryz.prog 68 #[.slice z_0 z_0n z_0c, .agg #[.string d_1_0, .int .u16 d_1_1, .int .u32 d_1_2, .string d_1_3, .string d_1_4, .int .u16 d_1_5, .int .u32 d_1_6, .string d_1_7, .slice d_1_8 d_1_8n d_1_8c, .slice d_1_9 d_1_9n d_1_9c]] I S R := by
  refine Runs.of_wp (args := [.slice z_0 z_0n z_0c, .agg #[.string d_1_0, .int .u16 d_1_1, .int .u32 d_1_2, .string d_1_3, .string d_1_4, .int .u16 d_1_5, .int .u32 d_1_6, .string d_1_7, .slice d_1_8 d_1_8n d_1_8c, .slice d_1_9 d_1_9n d_1_9c]]) (c := apply_Delta_code) Tryz.func68 (by kernel_rfl) (by kernel_rfl) ?_
  refine WP.cut 1 (fun l I S => asSl (l 0) fun z_0 z_0n z_0c => asAdr (l 3) fun d_3 => apply_Delta_b1 R z_0 z_0n z_0c d_3 I S) (cast (by kernel_rfl) h) ?_
  clear h
  intro l I S _ h
  obtain ⟨z_0, z_0n, z_0c, e0, h⟩ := asSl_e h
  obtain ⟨d_3, e3, h⟩ := asAdr_e h
  rw [upd_eta e0, upd_eta e3]
  refine WP.seqY (by kernel_rfl) (fun l I S => asSl (l 0) fun z_0 z_0n z_0c => asAdr (l 3) fun d_3 => apply_Delta_b3 R z_0 z_0n z_0c d_3 I S) ?_ ?_
  ·
    refine WP.cut 2 (fun l I S => asSl (l 0) fun z_0 z_0n z_0c => asAdr (l 3) fun d_3 => asB (l 26) fun x26 => apply_Delta_b2 R z_0 z_0n z_0c d_3 x26 I S) (cast (by kernel_rfl) h) ?_
    clear h
    intro l I S _ h
    obtain ⟨z_0, z_0n, z_0c, e0, h⟩ := asSl_e h
    obtain ⟨d_3, e3, h⟩ := asAdr_e h
    obtain ⟨x26, e26, h⟩ := asB_e h
    rw [upd_eta e0, upd_eta e3, upd_eta e26]
    exact Pre.sound _ _ _ _ _ (cast (by kernel_rfl) h)
  · clear h
    intro l I S _ h
    obtain ⟨z_0, z_0n, z_0c, e0, h⟩ := asSl_e h
    obtain ⟨d_3, e3, h⟩ := asAdr_e h
    rw [upd_eta e0, upd_eta e3]
    refine WP.cut 1 (fun l I S => asAdr (l 3) fun d_3 => asSl (l 8) fun out_8 out_8n out_8c => asV (l 9) fun e_9 => apply_Delta_b4 R d_3 out_8 out_8n out_8c e_9 I S) (cast (by kernel_rfl) h) ?_
    clear h
    intro l I S _ h
    obtain ⟨d_3, e3, h⟩ := asAdr_e h
    obtain ⟨out_8, out_8n, out_8c, e8, h⟩ := asSl_e h
    obtain ⟨e_9, e9, h⟩ := asV_e h
    rw [upd_eta e3, upd_eta e8, upd_eta e9]
    refine WP.seqY (by kernel_rfl) (fun l I S => asAdr (l 3) fun d_3 => asSl (l 8) fun out_8 out_8n out_8c => asV (l 9) fun e_9 => apply_Delta_b7 R d_3 out_8 out_8n out_8c e_9 I S) ?_ ?_
    ·
      refine WP.cut 1 (fun l I S => asAdr (l 3) fun d_3 => asSl (l 8) fun out_8 out_8n out_8c => asV (l 9) fun e_9 => asSl (l 36) fun x36 x36n x36c => asI .i64 (l 37) fun x37 => asI .i64 (l 38) fun x38 => apply_Delta_b5 R d_3 out_8 out_8n out_8c e_9 x36 x36n x36c x37 x38 I S) (cast (by kernel_rfl) h) ?_
      clear h
      intro l I S _ h
      obtain ⟨d_3, e3, h⟩ := asAdr_e h
      obtain ⟨out_8, out_8n, out_8c, e8, h⟩ := asSl_e h
      obtain ⟨e_9, e9, h⟩ := asV_e h
      obtain ⟨x36, x36n, x36c, e36, h⟩ := asSl_e h
      obtain ⟨x37, e37, h⟩ := asI_e h
      obtain ⟨x38, e38, h⟩ := asI_e h
      rw [upd_eta e3, upd_eta e8, upd_eta e9, upd_eta e36, upd_eta e37, upd_eta e38]
      refine WP.block' (by kernel_rfl) ?_
      obtain ⟨Inv_again6, m_again6, h0, hr⟩ := h
      refine WP.loop' (by kernel_rfl) (fun m_again6 => fun l I S => asAdr (l 3) fun d_3 => asSl (l 8) fun out_8 out_8n out_8c => asV (l 9) fun e_9 => asSl (l 36) fun x36 x36n x36c => asI .i64 (l 37) fun x37 => asI .i64 (l 38) fun x38 => Inv_again6 m_again6 d_3 out_8 out_8n out_8c e_9 x36 x36n x36c x37 x38 I S) m_again6 (cast (by kernel_rfl) h0) ?_
      clear h0
      intro m_again6 l I S hle h
      obtain ⟨d_3, e3, h⟩ := asAdr_e h
      obtain ⟨out_8, out_8n, out_8c, e8, h⟩ := asSl_e h
      obtain ⟨e_9, e9, h⟩ := asV_e h
      obtain ⟨x36, x36n, x36c, e36, h⟩ := asSl_e h
      obtain ⟨x37, e37, h⟩ := asI_e h
      obtain ⟨x38, e38, h⟩ := asI_e h
      rw [upd_eta e3, upd_eta e8, upd_eta e9, upd_eta e36, upd_eta e37, upd_eta e38]
      have h := hr m_again6 d_3 out_8 out_8n out_8c e_9 x36 x36n x36c x37 x38 I S hle h
      clear hr hle
      exact Pre.sound _ _ _ _ _ (cast (by kernel_rfl) h)
    · clear h
      intro l I S _ h
      obtain ⟨d_3, e3, h⟩ := asAdr_e h
      obtain ⟨out_8, out_8n, out_8c, e8, h⟩ := asSl_e h
      obtain ⟨e_9, e9, h⟩ := asV_e h
      rw [upd_eta e3, upd_eta e8, upd_eta e9]
      refine WP.seqY (by kernel_rfl) (fun l I S => asSl (l 8) fun out_8 out_8n out_8c => asV (l 9) fun e_9 => apply_Delta_b10 R out_8 out_8n out_8c e_9 I S) ?_ ?_
      ·
        refine WP.seqY (by kernel_rfl) (fun l I S => asSl (l 8) fun out_8 out_8n out_8c => asV (l 9) fun e_9 => asSl (l 58) fun x58 x58n x58c => asI .i64 (l 59) fun x59 => asI .i64 (l 60) fun x60 => apply_Delta_b8 R out_8 out_8n out_8c e_9 x58 x58n x58c x59 x60 I S) ?_ ?_
        ·
          exact WP.draw' (.take 0 (.take 1 (.take 3 (.take 4 (.take 8 (.fork 2 (.step 5 (.step 6 (.take 7 .done))) 5 (.step 2 (.step 6 (.take 7 .done))))))))) [2, 5, 6] (by kernel_rfl) (by kernel_rfl) (by kernel_rfl) (by kernel_rfl) (by kernel_rfl) (cast (by kernel_rfl) h)
        · clear h
          intro l I S _ h
          obtain ⟨out_8, out_8n, out_8c, e8, h⟩ := asSl_e h
          obtain ⟨e_9, e9, h⟩ := asV_e h
          obtain ⟨x58, x58n, x58c, e58, h⟩ := asSl_e h
          obtain ⟨x59, e59, h⟩ := asI_e h
          obtain ⟨x60, e60, h⟩ := asI_e h
          rw [upd_eta e8, upd_eta e9, upd_eta e58, upd_eta e59, upd_eta e60]
          refine WP.block' (by kernel_rfl) ?_
          obtain ⟨Inv_again9, m_again9, h0, hr⟩ := h
          refine WP.loop' (by kernel_rfl) (fun m_again9 => fun l I S => asSl (l 8) fun out_8 out_8n out_8c => asV (l 9) fun e_9 => asSl (l 58) fun x58 x58n x58c => asI .i64 (l 59) fun x59 => asI .i64 (l 60) fun x60 => Inv_again9 m_again9 out_8 out_8n out_8c e_9 x58 x58n x58c x59 x60 I S) m_again9 (cast (by kernel_rfl) h0) ?_
          clear h0
          intro m_again9 l I S hle h
          obtain ⟨out_8, out_8n, out_8c, e8, h⟩ := asSl_e h
          obtain ⟨e_9, e9, h⟩ := asV_e h
          obtain ⟨x58, x58n, x58c, e58, h⟩ := asSl_e h
          obtain ⟨x59, e59, h⟩ := asI_e h
          obtain ⟨x60, e60, h⟩ := asI_e h
          rw [upd_eta e8, upd_eta e9, upd_eta e58, upd_eta e59, upd_eta e60]
          have h := hr m_again9 out_8 out_8n out_8c e_9 x58 x58n x58c x59 x60 I S hle h
          clear hr hle
          exact Pre.sound _ _ _ _ _ (cast (by kernel_rfl) h)
      · clear h
        intro l I S _ h
        obtain ⟨out_8, out_8n, out_8c, e8, h⟩ := asSl_e h
        obtain ⟨e_9, e9, h⟩ := asV_e h
        rw [upd_eta e8, upd_eta e9]
        exact Pre.sound _ _ _ _ _ (cast (by kernel_rfl) h)
/-! ### apply_Replace: function 47, bolter/apply.Replace -/
noncomputable def apply_Replace_code : Code := (Tryz.f47.body).getD .skip
def apply_Replace_b6 (again3 : ByteArray → Option Addr → Nat → Nat → Int → IMem → SH → Prop) (R : Value → IMem → SH → Prop) (origin_0 : ByteArray) (z_6 : Option Addr) (z_6n : Nat) (z_6c : Nat) (k_7 : Int) (I : IMem) (S : SH) : Prop :=
  again3 origin_0 z_6 z_6n z_6c (IntKind.wrap .i64 (k_7 + (1 : Int))) I S
def apply_Replace_b5 (again3 : ByteArray → Option Addr → Nat → Nat → Int → IMem → SH → Prop) (R : Value → IMem → SH → Prop) (origin_0 : ByteArray) (z_6 : Option Addr) (z_6n : Nat) (z_6c : Nat) (k_7 : Int) (x27 : Bool) (I : IMem) (S : SH) : Prop :=
  bcase x27
    (R (.tuple #[.slice none 0 0, (.iface 123 (.int .i64 7))]) I S)
    (apply_Replace_b6 again3 R origin_0 z_6 z_6n z_6c k_7 I S)
def apply_Replace_b4 (again3 : ByteArray → Option Addr → Nat → Nat → Int → IMem → SH → Prop) (R : Value → IMem → SH → Prop) (origin_0 : ByteArray) (z_6 : Option Addr) (z_6n : Nat) (z_6c : Nat) (k_7 : Int) (I : IMem) (S : SH) : Prop :=
  ptrP z_6 fun x20 => (0 : Int) ≤ k_7 ∧ k_7 < (z_6n : Int) ∧
  ∃ x21_0, Cell I S (x20.add (k_7.toNat * 4)) (.string x21_0) ∧
  ∃ x21_1, Cell I S ((x20.add (k_7.toNat * 4)).add 1) (.int .u16 x21_1) ∧
  ∃ x21_2, Cell I S ((x20.add (k_7.toNat * 4)).add 2) (.int .u32 x21_2) ∧
  ∃ x21_3, Cell I S ((x20.add (k_7.toNat * 4)).add 3) (.string x21_3) ∧
  ptrP z_6 fun x25 => (0 : Int) ≤ (IntKind.wrap .i64 (k_7 - (1 : Int))) ∧ (IntKind.wrap .i64 (k_7 - (1 : Int))) < (z_6n : Int) ∧
  ∃ x26_0, Cell I S (x25.add ((IntKind.wrap .i64 (k_7 - (1 : Int))).toNat * 4)) (.string x26_0) ∧
  ∃ x26_1, Cell I S ((x25.add ((IntKind.wrap .i64 (k_7 - (1 : Int))).toNat * 4)).add 1) (.int .u16 x26_1) ∧
  ∃ x26_2, Cell I S ((x25.add ((IntKind.wrap .i64 (k_7 - (1 : Int))).toNat * 4)).add 2) (.int .u32 x26_2) ∧
  ∃ x26_3, Cell I S ((x25.add ((IntKind.wrap .i64 (k_7 - (1 : Int))).toNat * 4)).add 3) (.string x26_3) ∧
  apply_Replace_b5 again3 R origin_0 z_6 z_6n z_6c k_7 (((x21_0 : ByteArray) == (x26_0 : ByteArray)) && (((x21_1 : Int) == (x26_1 : Int)) && (((x21_2 : Int) == (x26_2 : Int)) && (((x21_3 : ByteArray) == (x26_3 : ByteArray)) && true)))) I S
def apply_Replace_b7 (R : Value → IMem → SH → Prop) (origin_0 : ByteArray) (z_6 : Option Addr) (z_6n : Nat) (z_6c : Nat) (I : IMem) (S : SH) : Prop :=
  Runs Tryz.prog 64 #[.string origin_0, .slice z_6 z_6n z_6c] I S fun v I1 S1 => ∃ x31_0 x31_0n x31_0c x31_1, v = .tuple #[.slice x31_0 x31_0n x31_0c, x31_1] ∧
  R (.tuple #[.slice x31_0 x31_0n x31_0c, x31_1]) I1 S1
def apply_Replace_l3 (again3 : ByteArray → Option Addr → Nat → Nat → Int → IMem → SH → Prop) (R : Value → IMem → SH → Prop) (origin_0 : ByteArray) (z_6 : Option Addr) (z_6n : Nat) (z_6c : Nat) (k_7 : Int) (I : IMem) (S : SH) : Prop :=
  bcase (decide (k_7 < (z_6n : Int)))
    (apply_Replace_b4 again3 R origin_0 z_6 z_6n z_6c k_7 I S)
    (apply_Replace_b7 R origin_0 z_6 z_6n z_6c I S)
def apply_Replace_b2 (R : Value → IMem → SH → Prop) (origin_0 : ByteArray) (z_6 : Option Addr) (z_6n : Nat) (z_6c : Nat) (k_7 : Int) (I : IMem) (S : SH) : Prop :=
  ∃ (Inv : Nat → ByteArray → Option Addr → Nat → Nat → Int → IMem → SH → Prop) (m : Nat), Inv m origin_0 z_6 z_6n z_6c k_7 I S ∧
    ∀ (m : Nat) (origin_0 : ByteArray) (z_6 : Option Addr) (z_6n : Nat) (z_6c : Nat) (k_7 : Int) (J : IMem) (T : SH), I.le J → Inv m origin_0 z_6 z_6n z_6c k_7 J T →
      apply_Replace_l3 (fun origin_0 z_6 z_6n z_6c k_7 I S => ∃ m', m' < m ∧ Inv m' origin_0 z_6 z_6n z_6c k_7 I S) R origin_0 z_6 z_6n z_6c k_7 J T
def apply_Replace_b1 (R : Value → IMem → SH → Prop) (origin_0 : ByteArray) (z_6 : Option Addr) (z_6n : Nat) (z_6c : Nat) (I : IMem) (S : SH) : Prop :=
  apply_Replace_b2 R origin_0 z_6 z_6n z_6c 1 I S
def apply_Replace (R : Value → IMem → SH → Prop) (origin_0 : ByteArray) (rs_1 : Option Addr) (rs_1n : Nat) (rs_1c : Nat) (I : IMem) (S : SH) : Prop :=
  Runs Tryz.prog 61 #[.slice rs_1 rs_1n rs_1c] I S fun v I1 S1 => ∃ x9 x9n x9c, v = .slice x9 x9n x9c ∧
  Runs Tryz.prog 62 #[.slice x9 x9n x9c, .func (.func 63) #[] #[]] I1 S1 fun v' I1' S1' => v' = .tuple #[] ∧
  apply_Replace_b1 R origin_0 x9 x9n x9c I1' S1'
theorem apply_Replace_fn (R : Value → IMem → SH → Prop) (origin_0 : ByteArray) (rs_1 : Option Addr) (rs_1n : Nat) (rs_1c : Nat) (I : IMem) (S : SH) (h : apply_Replace R origin_0 rs_1 rs_1n rs_1c I S) :
    Runs Tryz.prog 47 #[.string origin_0, .slice rs_1 rs_1n rs_1c] I S R := by
  refine Runs.of_wp (args := [.string origin_0, .slice rs_1 rs_1n rs_1c]) (c := apply_Replace_code) Tryz.func47 (by kernel_rfl) (by kernel_rfl) ?_
  refine WP.cut 3 (fun l I S => asStr (l 0) fun origin_0 => asSl (l 6) fun z_6 z_6n z_6c => apply_Replace_b1 R origin_0 z_6 z_6n z_6c I S) (cast (by kernel_rfl) h) ?_
  clear h
  intro l I S _ h
  obtain ⟨origin_0, e0, h⟩ := asStr_e h
  obtain ⟨z_6, z_6n, z_6c, e6, h⟩ := asSl_e h
  rw [upd_eta e0, upd_eta e6]
  refine WP.seqY (by kernel_rfl) (fun l I S => asStr (l 0) fun origin_0 => asSl (l 6) fun z_6 z_6n z_6c => apply_Replace_b7 R origin_0 z_6 z_6n z_6c I S) ?_ ?_
  ·
    refine WP.cut 1 (fun l I S => asStr (l 0) fun origin_0 => asSl (l 6) fun z_6 z_6n z_6c => asI .i64 (l 7) fun k_7 => apply_Replace_b2 R origin_0 z_6 z_6n z_6c k_7 I S) (cast (by kernel_rfl) h) ?_
    clear h
    intro l I S _ h
    obtain ⟨origin_0, e0, h⟩ := asStr_e h
    obtain ⟨z_6, z_6n, z_6c, e6, h⟩ := asSl_e h
    obtain ⟨k_7, e7, h⟩ := asI_e h
    rw [upd_eta e0, upd_eta e6, upd_eta e7]
    refine WP.block' (by kernel_rfl) ?_
    obtain ⟨Inv_again3, m_again3, h0, hr⟩ := h
    refine WP.loop' (by kernel_rfl) (fun m_again3 => fun l I S => asStr (l 0) fun origin_0 => asSl (l 6) fun z_6 z_6n z_6c => asI .i64 (l 7) fun k_7 => Inv_again3 m_again3 origin_0 z_6 z_6n z_6c k_7 I S) m_again3 (cast (by kernel_rfl) h0) ?_
    clear h0
    intro m_again3 l I S hle h
    obtain ⟨origin_0, e0, h⟩ := asStr_e h
    obtain ⟨z_6, z_6n, z_6c, e6, h⟩ := asSl_e h
    obtain ⟨k_7, e7, h⟩ := asI_e h
    rw [upd_eta e0, upd_eta e6, upd_eta e7]
    have h := hr m_again3 origin_0 z_6 z_6n z_6c k_7 I S hle h
    clear hr hle
    refine WP.cut 1 (fun l I S => asStr (l 0) fun origin_0 => asSl (l 6) fun z_6 z_6n z_6c => asI .i64 (l 7) fun k_7 => apply_Replace_b4 (fun origin_0 z_6 z_6n z_6c k_7 I S => ∃ m', m' < m_again3 ∧ Inv_again3 m' origin_0 z_6 z_6n z_6c k_7 I S) R origin_0 z_6 z_6n z_6c k_7 I S) (cast (by kernel_rfl) h) ?_
    clear h
    intro l I S _ h
    obtain ⟨origin_0, e0, h⟩ := asStr_e h
    obtain ⟨z_6, z_6n, z_6c, e6, h⟩ := asSl_e h
    obtain ⟨k_7, e7, h⟩ := asI_e h
    rw [upd_eta e0, upd_eta e6, upd_eta e7]
    refine WP.seqY (by kernel_rfl) (fun l I S => asStr (l 0) fun origin_0 => asSl (l 6) fun z_6 z_6n z_6c => asI .i64 (l 7) fun k_7 => apply_Replace_b6 (fun origin_0 z_6 z_6n z_6c k_7 I S => ∃ m', m' < m_again3 ∧ Inv_again3 m' origin_0 z_6 z_6n z_6c k_7 I S) R origin_0 z_6 z_6n z_6c k_7 I S) ?_ ?_
    ·
      refine WP.block' (by kernel_rfl) ?_
      refine WP.seqY (by kernel_rfl) (fun l I S => asStr (l 0) fun origin_0 => asSl (l 6) fun z_6 z_6n z_6c => asI .i64 (l 7) fun k_7 => asB (l 27) fun x27 => apply_Replace_b5 (fun origin_0 z_6 z_6n z_6c k_7 I S => ∃ m', m' < m_again3 ∧ Inv_again3 m' origin_0 z_6 z_6n z_6c k_7 I S) R origin_0 z_6 z_6n z_6c k_7 x27 I S) ?_ ?_
      ·
        exact WP.quiet' (by kernel_rfl) (by kernel_rfl) (by kernel_rfl) (cast (by kernel_rfl) h)
      · clear h
        intro l I S _ h
        obtain ⟨origin_0, e0, h⟩ := asStr_e h
        obtain ⟨z_6, z_6n, z_6c, e6, h⟩ := asSl_e h
        obtain ⟨k_7, e7, h⟩ := asI_e h
        obtain ⟨x27, e27, h⟩ := asB_e h
        rw [upd_eta e0, upd_eta e6, upd_eta e7, upd_eta e27]
        exact Pre.sound _ _ _ _ _ (cast (by kernel_rfl) h)
    · clear h
      intro l I S _ h
      obtain ⟨origin_0, e0, h⟩ := asStr_e h
      obtain ⟨z_6, z_6n, z_6c, e6, h⟩ := asSl_e h
      obtain ⟨k_7, e7, h⟩ := asI_e h
      rw [upd_eta e0, upd_eta e6, upd_eta e7]
      exact Pre.sound _ _ _ _ _ (cast (by kernel_rfl) h)
  · clear h
    intro l I S _ h
    obtain ⟨origin_0, e0, h⟩ := asStr_e h
    obtain ⟨z_6, z_6n, z_6c, e6, h⟩ := asSl_e h
    rw [upd_eta e0, upd_eta e6]
    exact Pre.sound _ _ _ _ _ (cast (by kernel_rfl) h)
/-! ### apply_checked: function 64, bolter/apply.checked -/
noncomputable def apply_checked_code : Code := (Tryz.f64.body).getD .skip
def apply_checked (R : Value → IMem → SH → Prop) (origin_0 : ByteArray) (z_1 : Option Addr) (z_1n : Nat) (z_1c : Nat) (I : IMem) (S : SH) : Prop :=
  Runs Tryz.prog 85 #[.slice z_1 z_1n z_1c] I S fun v I1 S1 => ∃ x8, v = .bool x8 ∧
  bcase (!x8)
    (R (.tuple #[.slice none 0 0, (.iface 123 (.int .i64 8))]) I1 S1)
    (Runs Tryz.prog 86 #[.slice z_1 z_1n z_1c, .string origin_0] I1 S1 fun v' I1' S1' => ∃ x14, v' = .bool x14 ∧
    bcase (!x14)
      (R (.tuple #[.slice none 0 0, (.iface 123 (.int .i64 4))]) I1' S1')
      (R (.tuple #[.slice z_1 z_1n z_1c, .nilIface]) I1' S1'))
theorem apply_checked_fn (R : Value → IMem → SH → Prop) (origin_0 : ByteArray) (z_1 : Option Addr) (z_1n : Nat) (z_1c : Nat) (I : IMem) (S : SH) (h : apply_checked R origin_0 z_1 z_1n z_1c I S) :
    Runs Tryz.prog 64 #[.string origin_0, .slice z_1 z_1n z_1c] I S R := by
  refine Runs.of_wp (args := [.string origin_0, .slice z_1 z_1n z_1c]) (c := apply_checked_code) Tryz.func64 (by kernel_rfl) (by kernel_rfl) ?_
  exact Pre.sound _ _ _ _ _ (cast (by kernel_rfl) h)
/-! ### apply_Between: function 34, bolter/apply.Between -/
noncomputable def apply_Between_code : Code := (Tryz.f34.body).getD .skip
def apply_Between_b4 (again3 : Option Addr → Nat → Nat → Option Addr → Nat → Nat → Option Addr → Nat → Nat → Option Addr → Nat → Nat → Option Addr → Nat → Nat → Int → Int → IMem → SH → Prop) (R : Value → IMem → SH → Prop) (a_0 : Option Addr) (a_0n : Nat) (a_0c : Nat) (b_1 : Option Addr) (b_1n : Nat) (b_1c : Nat) (gone_6 : Option Addr) (gone_6n : Nat) (gone_6c : Nat) (fresh_7 : Option Addr) (fresh_7n : Nat) (fresh_7c : Nat) (x12 : Option Addr) (x12n : Nat) (x12c : Nat) (x13 : Int) (x14 : Int) (I : IMem) (S : SH) : Prop :=
  again3 a_0 a_0n a_0c b_1 b_1n b_1c gone_6 gone_6n gone_6c fresh_7 fresh_7n fresh_7c x12 x12n x12c x13 (IntKind.wrap .i64 (x14 + (1 : Int))) I S
def apply_Between_b8 (again7 : Option Addr → Nat → Nat → Option Addr → Nat → Nat → Option Addr → Nat → Nat → Option Addr → Nat → Nat → Int → Int → IMem → SH → Prop) (R : Value → IMem → SH → Prop) (a_0 : Option Addr) (a_0n : Nat) (a_0c : Nat) (gone_6 : Option Addr) (gone_6n : Nat) (gone_6c : Nat) (fresh_7 : Option Addr) (fresh_7n : Nat) (fresh_7c : Nat) (x27 : Option Addr) (x27n : Nat) (x27c : Nat) (x28 : Int) (x29 : Int) (I : IMem) (S : SH) : Prop :=
  again7 a_0 a_0n a_0c gone_6 gone_6n gone_6c fresh_7 fresh_7n fresh_7c x27 x27n x27c x28 (IntKind.wrap .i64 (x29 + (1 : Int))) I S
def apply_Between_b9 (R : Value → IMem → SH → Prop) (gone_6 : Option Addr) (gone_6n : Nat) (gone_6c : Nat) (fresh_7 : Option Addr) (fresh_7n : Nat) (fresh_7c : Nat) (I : IMem) (S : SH) : Prop :=
  R (.tuple #[.slice gone_6 gone_6n gone_6c, .slice fresh_7 fresh_7n fresh_7c]) I S
def apply_Between_l7 (again7 : Option Addr → Nat → Nat → Option Addr → Nat → Nat → Option Addr → Nat → Nat → Option Addr → Nat → Nat → Int → Int → IMem → SH → Prop) (R : Value → IMem → SH → Prop) (a_0 : Option Addr) (a_0n : Nat) (a_0c : Nat) (gone_6 : Option Addr) (gone_6n : Nat) (gone_6c : Nat) (fresh_7 : Option Addr) (fresh_7n : Nat) (fresh_7c : Nat) (x27 : Option Addr) (x27n : Nat) (x27c : Nat) (x28 : Int) (x29 : Int) (I : IMem) (S : SH) : Prop :=
  bcase (decide (x29 < x28))
    (ptrP x27 fun x31 => (0 : Int) ≤ x29 ∧ x29 < (x27n : Int) ∧
    ∃ x32_0, Cell I S (x31.add (x29.toNat * 4)) (.string x32_0) ∧
    ∃ x32_1, Cell I S ((x31.add (x29.toNat * 4)).add 1) (.int .u16 x32_1) ∧
    ∃ x32_2, Cell I S ((x31.add (x29.toNat * 4)).add 2) (.int .u32 x32_2) ∧
    ∃ x32_3, Cell I S ((x31.add (x29.toNat * 4)).add 3) (.string x32_3) ∧
    ∀ b11 : Nat,
    StP ((b11, .cells #[.string ⟨#[]⟩, .int .u16 0, .int .u32 0, .string ⟨#[]⟩] 32 (0, 0)) :: S) ⟨b11, 0, none⟩ [.string x32_0, .int .u16 x32_1, .int .u32 x32_2, .string x32_3] fun S1 =>
    ∃ x34_0, Cell I S1 ⟨b11, 0, none⟩ (.string x34_0) ∧
    ∃ x34_1, Cell I S1 ⟨b11, 1, none⟩ (.int .u16 x34_1) ∧
    ∃ x34_2, Cell I S1 ⟨b11, 2, none⟩ (.int .u32 x34_2) ∧
    ∃ x34_3, Cell I S1 ⟨b11, 3, none⟩ (.string x34_3) ∧
    Runs Tryz.prog 50 #[.slice a_0 a_0n a_0c, .agg #[.string x34_0, .int .u16 x34_1, .int .u32 x34_2, .string x34_3]] I S1 fun v I1 S1' => ∃ x35, v = .bool x35 ∧
    bcase (!x35)
      (∃ x38_0, Cell I1 S1' ⟨b11, 0, none⟩ (.string x38_0) ∧
      ∃ x38_1, Cell I1 S1' ⟨b11, 1, none⟩ (.int .u16 x38_1) ∧
      ∃ x38_2, Cell I1 S1' ⟨b11, 2, none⟩ (.int .u32 x38_2) ∧
      ∃ x38_3, Cell I1 S1' ⟨b11, 3, none⟩ (.string x38_3) ∧
      ∀ b39 : Nat,
      AppG 32 4 40 [.string ⟨#[]⟩, .int .u16 0, .int .u32 0, .string ⟨#[]⟩] (some (.slice 32)) I1 ((b39, .cells #[.string x38_0, .int .u16 x38_1, .int .u32 x38_2, .string x38_3] 32 (0, 0)) :: S1') (.slice fresh_7 fresh_7n fresh_7c) (.slice (some ⟨b39, 0, none⟩) 1 1) fun x40 x40n x40c S1'' =>
      apply_Between_b8 again7 R a_0 a_0n a_0c gone_6 gone_6n gone_6c x40 x40n x40c x27 x27n x27c x28 x29 I1 S1'')
      (apply_Between_b8 again7 R a_0 a_0n a_0c gone_6 gone_6n gone_6c fresh_7 fresh_7n fresh_7c x27 x27n x27c x28 x29 I1 S1'))
    (apply_Between_b9 R gone_6 gone_6n gone_6c fresh_7 fresh_7n fresh_7c I S)
def apply_Between_b6 (R : Value → IMem → SH → Prop) (a_0 : Option Addr) (a_0n : Nat) (a_0c : Nat) (gone_6 : Option Addr) (gone_6n : Nat) (gone_6c : Nat) (fresh_7 : Option Addr) (fresh_7n : Nat) (fresh_7c : Nat) (x27 : Option Addr) (x27n : Nat) (x27c : Nat) (x28 : Int) (x29 : Int) (I : IMem) (S : SH) : Prop :=
  ∃ (Inv : Nat → Option Addr → Nat → Nat → Option Addr → Nat → Nat → Option Addr → Nat → Nat → Option Addr → Nat → Nat → Int → Int → IMem → SH → Prop) (m : Nat), Inv m a_0 a_0n a_0c gone_6 gone_6n gone_6c fresh_7 fresh_7n fresh_7c x27 x27n x27c x28 x29 I S ∧
    ∀ (m : Nat) (a_0 : Option Addr) (a_0n : Nat) (a_0c : Nat) (gone_6 : Option Addr) (gone_6n : Nat) (gone_6c : Nat) (fresh_7 : Option Addr) (fresh_7n : Nat) (fresh_7c : Nat) (x27 : Option Addr) (x27n : Nat) (x27c : Nat) (x28 : Int) (x29 : Int) (J : IMem) (T : SH), I.le J → Inv m a_0 a_0n a_0c gone_6 gone_6n gone_6c fresh_7 fresh_7n fresh_7c x27 x27n x27c x28 x29 J T →
      apply_Between_l7 (fun a_0 a_0n a_0c gone_6 gone_6n gone_6c fresh_7 fresh_7n fresh_7c x27 x27n x27c x28 x29 I S => ∃ m', m' < m ∧ Inv m' a_0 a_0n a_0c gone_6 gone_6n gone_6c fresh_7 fresh_7n fresh_7c x27 x27n x27c x28 x29 I S) R a_0 a_0n a_0c gone_6 gone_6n gone_6c fresh_7 fresh_7n fresh_7c x27 x27n x27c x28 x29 J T
def apply_Between_b5 (R : Value → IMem → SH → Prop) (a_0 : Option Addr) (a_0n : Nat) (a_0c : Nat) (b_1 : Option Addr) (b_1n : Nat) (b_1c : Nat) (gone_6 : Option Addr) (gone_6n : Nat) (gone_6c : Nat) (fresh_7 : Option Addr) (fresh_7n : Nat) (fresh_7c : Nat) (I : IMem) (S : SH) : Prop :=
  apply_Between_b6 R a_0 a_0n a_0c gone_6 gone_6n gone_6c fresh_7 fresh_7n fresh_7c b_1 b_1n b_1c (b_1n : Int) 0 I S
def apply_Between_l3 (again3 : Option Addr → Nat → Nat → Option Addr → Nat → Nat → Option Addr → Nat → Nat → Option Addr → Nat → Nat → Option Addr → Nat → Nat → Int → Int → IMem → SH → Prop) (R : Value → IMem → SH → Prop) (a_0 : Option Addr) (a_0n : Nat) (a_0c : Nat) (b_1 : Option Addr) (b_1n : Nat) (b_1c : Nat) (gone_6 : Option Addr) (gone_6n : Nat) (gone_6c : Nat) (fresh_7 : Option Addr) (fresh_7n : Nat) (fresh_7c : Nat) (x12 : Option Addr) (x12n : Nat) (x12c : Nat) (x13 : Int) (x14 : Int) (I : IMem) (S : SH) : Prop :=
  bcase (decide (x14 < x13))
    (ptrP x12 fun x16 => (0 : Int) ≤ x14 ∧ x14 < (x12n : Int) ∧
    ∃ x17_0, Cell I S (x16.add (x14.toNat * 4)) (.string x17_0) ∧
    ∃ x17_1, Cell I S ((x16.add (x14.toNat * 4)).add 1) (.int .u16 x17_1) ∧
    ∃ x17_2, Cell I S ((x16.add (x14.toNat * 4)).add 2) (.int .u32 x17_2) ∧
    ∃ x17_3, Cell I S ((x16.add (x14.toNat * 4)).add 3) (.string x17_3) ∧
    ∀ b9 : Nat,
    StP ((b9, .cells #[.string ⟨#[]⟩, .int .u16 0, .int .u32 0, .string ⟨#[]⟩] 32 (0, 0)) :: S) ⟨b9, 0, none⟩ [.string x17_0, .int .u16 x17_1, .int .u32 x17_2, .string x17_3] fun S1 =>
    ∃ x19_0, Cell I S1 ⟨b9, 0, none⟩ (.string x19_0) ∧
    ∃ x19_1, Cell I S1 ⟨b9, 1, none⟩ (.int .u16 x19_1) ∧
    ∃ x19_2, Cell I S1 ⟨b9, 2, none⟩ (.int .u32 x19_2) ∧
    ∃ x19_3, Cell I S1 ⟨b9, 3, none⟩ (.string x19_3) ∧
    Runs Tryz.prog 50 #[.slice b_1 b_1n b_1c, .agg #[.string x19_0, .int .u16 x19_1, .int .u32 x19_2, .string x19_3]] I S1 fun v I1 S1' => ∃ x20, v = .bool x20 ∧
    bcase (!x20)
      (∃ x23_0, Cell I1 S1' ⟨b9, 0, none⟩ (.string x23_0) ∧
      ∃ x23_1, Cell I1 S1' ⟨b9, 1, none⟩ (.int .u16 x23_1) ∧
      ∃ x23_2, Cell I1 S1' ⟨b9, 2, none⟩ (.int .u32 x23_2) ∧
      ∃ x23_3, Cell I1 S1' ⟨b9, 3, none⟩ (.string x23_3) ∧
      ∀ b24 : Nat,
      AppG 32 4 40 [.string ⟨#[]⟩, .int .u16 0, .int .u32 0, .string ⟨#[]⟩] (some (.slice 32)) I1 ((b24, .cells #[.string x23_0, .int .u16 x23_1, .int .u32 x23_2, .string x23_3] 32 (0, 0)) :: S1') (.slice gone_6 gone_6n gone_6c) (.slice (some ⟨b24, 0, none⟩) 1 1) fun x25 x25n x25c S1'' =>
      apply_Between_b4 again3 R a_0 a_0n a_0c b_1 b_1n b_1c x25 x25n x25c fresh_7 fresh_7n fresh_7c x12 x12n x12c x13 x14 I1 S1'')
      (apply_Between_b4 again3 R a_0 a_0n a_0c b_1 b_1n b_1c gone_6 gone_6n gone_6c fresh_7 fresh_7n fresh_7c x12 x12n x12c x13 x14 I1 S1'))
    (apply_Between_b5 R a_0 a_0n a_0c b_1 b_1n b_1c gone_6 gone_6n gone_6c fresh_7 fresh_7n fresh_7c I S)
def apply_Between_b2 (R : Value → IMem → SH → Prop) (a_0 : Option Addr) (a_0n : Nat) (a_0c : Nat) (b_1 : Option Addr) (b_1n : Nat) (b_1c : Nat) (gone_6 : Option Addr) (gone_6n : Nat) (gone_6c : Nat) (fresh_7 : Option Addr) (fresh_7n : Nat) (fresh_7c : Nat) (x12 : Option Addr) (x12n : Nat) (x12c : Nat) (x13 : Int) (x14 : Int) (I : IMem) (S : SH) : Prop :=
  ∃ (Inv : Nat → Option Addr → Nat → Nat → Option Addr → Nat → Nat → Option Addr → Nat → Nat → Option Addr → Nat → Nat → Option Addr → Nat → Nat → Int → Int → IMem → SH → Prop) (m : Nat), Inv m a_0 a_0n a_0c b_1 b_1n b_1c gone_6 gone_6n gone_6c fresh_7 fresh_7n fresh_7c x12 x12n x12c x13 x14 I S ∧
    ∀ (m : Nat) (a_0 : Option Addr) (a_0n : Nat) (a_0c : Nat) (b_1 : Option Addr) (b_1n : Nat) (b_1c : Nat) (gone_6 : Option Addr) (gone_6n : Nat) (gone_6c : Nat) (fresh_7 : Option Addr) (fresh_7n : Nat) (fresh_7c : Nat) (x12 : Option Addr) (x12n : Nat) (x12c : Nat) (x13 : Int) (x14 : Int) (J : IMem) (T : SH), I.le J → Inv m a_0 a_0n a_0c b_1 b_1n b_1c gone_6 gone_6n gone_6c fresh_7 fresh_7n fresh_7c x12 x12n x12c x13 x14 J T →
      apply_Between_l3 (fun a_0 a_0n a_0c b_1 b_1n b_1c gone_6 gone_6n gone_6c fresh_7 fresh_7n fresh_7c x12 x12n x12c x13 x14 I S => ∃ m', m' < m ∧ Inv m' a_0 a_0n a_0c b_1 b_1n b_1c gone_6 gone_6n gone_6c fresh_7 fresh_7n fresh_7c x12 x12n x12c x13 x14 I S) R a_0 a_0n a_0c b_1 b_1n b_1c gone_6 gone_6n gone_6c fresh_7 fresh_7n fresh_7c x12 x12n x12c x13 x14 J T
def apply_Between_b1 (R : Value → IMem → SH → Prop) (a_0 : Option Addr) (a_0n : Nat) (a_0c : Nat) (b_1 : Option Addr) (b_1n : Nat) (b_1c : Nat) (gone_6 : Option Addr) (gone_6n : Nat) (gone_6c : Nat) (fresh_7 : Option Addr) (fresh_7n : Nat) (fresh_7c : Nat) (I : IMem) (S : SH) : Prop :=
  apply_Between_b2 R a_0 a_0n a_0c b_1 b_1n b_1c gone_6 gone_6n gone_6c fresh_7 fresh_7n fresh_7c a_0 a_0n a_0c (a_0n : Int) 0 I S
def apply_Between (R : Value → IMem → SH → Prop) (a_0 : Option Addr) (a_0n : Nat) (a_0c : Nat) (b_1 : Option Addr) (b_1n : Nat) (b_1c : Nat) (I : IMem) (S : SH) : Prop :=
  apply_Between_b1 R a_0 a_0n a_0c b_1 b_1n b_1c none 0 0 none 0 0 I S
theorem apply_Between_fn (R : Value → IMem → SH → Prop) (a_0 : Option Addr) (a_0n : Nat) (a_0c : Nat) (b_1 : Option Addr) (b_1n : Nat) (b_1c : Nat) (I : IMem) (S : SH) (h : apply_Between R a_0 a_0n a_0c b_1 b_1n b_1c I S) :
    Runs Tryz.prog 34 #[.slice a_0 a_0n a_0c, .slice b_1 b_1n b_1c] I S R := by
  refine Runs.of_wp (args := [.slice a_0 a_0n a_0c, .slice b_1 b_1n b_1c]) (c := apply_Between_code) Tryz.func34 (by kernel_rfl) (by kernel_rfl) ?_
  refine WP.cut 2 (fun l I S => asSl (l 0) fun a_0 a_0n a_0c => asSl (l 1) fun b_1 b_1n b_1c => asSl (l 6) fun gone_6 gone_6n gone_6c => asSl (l 7) fun fresh_7 fresh_7n fresh_7c => apply_Between_b1 R a_0 a_0n a_0c b_1 b_1n b_1c gone_6 gone_6n gone_6c fresh_7 fresh_7n fresh_7c I S) (cast (by kernel_rfl) h) ?_
  clear h
  intro l I S _ h
  obtain ⟨a_0, a_0n, a_0c, e0, h⟩ := asSl_e h
  obtain ⟨b_1, b_1n, b_1c, e1, h⟩ := asSl_e h
  obtain ⟨gone_6, gone_6n, gone_6c, e6, h⟩ := asSl_e h
  obtain ⟨fresh_7, fresh_7n, fresh_7c, e7, h⟩ := asSl_e h
  rw [upd_eta e0, upd_eta e1, upd_eta e6, upd_eta e7]
  refine WP.seqY (by kernel_rfl) (fun l I S => asSl (l 0) fun a_0 a_0n a_0c => asSl (l 1) fun b_1 b_1n b_1c => asSl (l 6) fun gone_6 gone_6n gone_6c => asSl (l 7) fun fresh_7 fresh_7n fresh_7c => apply_Between_b5 R a_0 a_0n a_0c b_1 b_1n b_1c gone_6 gone_6n gone_6c fresh_7 fresh_7n fresh_7c I S) ?_ ?_
  ·
    refine WP.cut 1 (fun l I S => asSl (l 0) fun a_0 a_0n a_0c => asSl (l 1) fun b_1 b_1n b_1c => asSl (l 6) fun gone_6 gone_6n gone_6c => asSl (l 7) fun fresh_7 fresh_7n fresh_7c => asSl (l 12) fun x12 x12n x12c => asI .i64 (l 13) fun x13 => asI .i64 (l 14) fun x14 => apply_Between_b2 R a_0 a_0n a_0c b_1 b_1n b_1c gone_6 gone_6n gone_6c fresh_7 fresh_7n fresh_7c x12 x12n x12c x13 x14 I S) (cast (by kernel_rfl) h) ?_
    clear h
    intro l I S _ h
    obtain ⟨a_0, a_0n, a_0c, e0, h⟩ := asSl_e h
    obtain ⟨b_1, b_1n, b_1c, e1, h⟩ := asSl_e h
    obtain ⟨gone_6, gone_6n, gone_6c, e6, h⟩ := asSl_e h
    obtain ⟨fresh_7, fresh_7n, fresh_7c, e7, h⟩ := asSl_e h
    obtain ⟨x12, x12n, x12c, e12, h⟩ := asSl_e h
    obtain ⟨x13, e13, h⟩ := asI_e h
    obtain ⟨x14, e14, h⟩ := asI_e h
    rw [upd_eta e0, upd_eta e1, upd_eta e6, upd_eta e7, upd_eta e12, upd_eta e13, upd_eta e14]
    refine WP.block' (by kernel_rfl) ?_
    obtain ⟨Inv_again3, m_again3, h0, hr⟩ := h
    refine WP.loop' (by kernel_rfl) (fun m_again3 => fun l I S => asSl (l 0) fun a_0 a_0n a_0c => asSl (l 1) fun b_1 b_1n b_1c => asSl (l 6) fun gone_6 gone_6n gone_6c => asSl (l 7) fun fresh_7 fresh_7n fresh_7c => asSl (l 12) fun x12 x12n x12c => asI .i64 (l 13) fun x13 => asI .i64 (l 14) fun x14 => Inv_again3 m_again3 a_0 a_0n a_0c b_1 b_1n b_1c gone_6 gone_6n gone_6c fresh_7 fresh_7n fresh_7c x12 x12n x12c x13 x14 I S) m_again3 (cast (by kernel_rfl) h0) ?_
    clear h0
    intro m_again3 l I S hle h
    obtain ⟨a_0, a_0n, a_0c, e0, h⟩ := asSl_e h
    obtain ⟨b_1, b_1n, b_1c, e1, h⟩ := asSl_e h
    obtain ⟨gone_6, gone_6n, gone_6c, e6, h⟩ := asSl_e h
    obtain ⟨fresh_7, fresh_7n, fresh_7c, e7, h⟩ := asSl_e h
    obtain ⟨x12, x12n, x12c, e12, h⟩ := asSl_e h
    obtain ⟨x13, e13, h⟩ := asI_e h
    obtain ⟨x14, e14, h⟩ := asI_e h
    rw [upd_eta e0, upd_eta e1, upd_eta e6, upd_eta e7, upd_eta e12, upd_eta e13, upd_eta e14]
    have h := hr m_again3 a_0 a_0n a_0c b_1 b_1n b_1c gone_6 gone_6n gone_6c fresh_7 fresh_7n fresh_7c x12 x12n x12c x13 x14 I S hle h
    clear hr hle
    refine WP.cut 3 (fun l I S => asSl (l 0) fun a_0 a_0n a_0c => asSl (l 1) fun b_1 b_1n b_1c => asSl (l 6) fun gone_6 gone_6n gone_6c => asSl (l 7) fun fresh_7 fresh_7n fresh_7c => asSl (l 12) fun x12 x12n x12c => asI .i64 (l 13) fun x13 => asI .i64 (l 14) fun x14 => apply_Between_b4 (fun a_0 a_0n a_0c b_1 b_1n b_1c gone_6 gone_6n gone_6c fresh_7 fresh_7n fresh_7c x12 x12n x12c x13 x14 I S => ∃ m', m' < m_again3 ∧ Inv_again3 m' a_0 a_0n a_0c b_1 b_1n b_1c gone_6 gone_6n gone_6c fresh_7 fresh_7n fresh_7c x12 x12n x12c x13 x14 I S) R a_0 a_0n a_0c b_1 b_1n b_1c gone_6 gone_6n gone_6c fresh_7 fresh_7n fresh_7c x12 x12n x12c x13 x14 I S) (cast (by kernel_rfl) h) ?_
    clear h
    intro l I S _ h
    obtain ⟨a_0, a_0n, a_0c, e0, h⟩ := asSl_e h
    obtain ⟨b_1, b_1n, b_1c, e1, h⟩ := asSl_e h
    obtain ⟨gone_6, gone_6n, gone_6c, e6, h⟩ := asSl_e h
    obtain ⟨fresh_7, fresh_7n, fresh_7c, e7, h⟩ := asSl_e h
    obtain ⟨x12, x12n, x12c, e12, h⟩ := asSl_e h
    obtain ⟨x13, e13, h⟩ := asI_e h
    obtain ⟨x14, e14, h⟩ := asI_e h
    rw [upd_eta e0, upd_eta e1, upd_eta e6, upd_eta e7, upd_eta e12, upd_eta e13, upd_eta e14]
    exact Pre.sound _ _ _ _ _ (cast (by kernel_rfl) h)
  · clear h
    intro l I S _ h
    obtain ⟨a_0, a_0n, a_0c, e0, h⟩ := asSl_e h
    obtain ⟨b_1, b_1n, b_1c, e1, h⟩ := asSl_e h
    obtain ⟨gone_6, gone_6n, gone_6c, e6, h⟩ := asSl_e h
    obtain ⟨fresh_7, fresh_7n, fresh_7c, e7, h⟩ := asSl_e h
    rw [upd_eta e0, upd_eta e1, upd_eta e6, upd_eta e7]
    refine WP.seqY (by kernel_rfl) (fun l I S => asSl (l 6) fun gone_6 gone_6n gone_6c => asSl (l 7) fun fresh_7 fresh_7n fresh_7c => apply_Between_b9 R gone_6 gone_6n gone_6c fresh_7 fresh_7n fresh_7c I S) ?_ ?_
    ·
      refine WP.cut 1 (fun l I S => asSl (l 0) fun a_0 a_0n a_0c => asSl (l 6) fun gone_6 gone_6n gone_6c => asSl (l 7) fun fresh_7 fresh_7n fresh_7c => asSl (l 27) fun x27 x27n x27c => asI .i64 (l 28) fun x28 => asI .i64 (l 29) fun x29 => apply_Between_b6 R a_0 a_0n a_0c gone_6 gone_6n gone_6c fresh_7 fresh_7n fresh_7c x27 x27n x27c x28 x29 I S) (cast (by kernel_rfl) h) ?_
      clear h
      intro l I S _ h
      obtain ⟨a_0, a_0n, a_0c, e0, h⟩ := asSl_e h
      obtain ⟨gone_6, gone_6n, gone_6c, e6, h⟩ := asSl_e h
      obtain ⟨fresh_7, fresh_7n, fresh_7c, e7, h⟩ := asSl_e h
      obtain ⟨x27, x27n, x27c, e27, h⟩ := asSl_e h
      obtain ⟨x28, e28, h⟩ := asI_e h
      obtain ⟨x29, e29, h⟩ := asI_e h
      rw [upd_eta e0, upd_eta e6, upd_eta e7, upd_eta e27, upd_eta e28, upd_eta e29]
      refine WP.block' (by kernel_rfl) ?_
      obtain ⟨Inv_again7, m_again7, h0, hr⟩ := h
      refine WP.loop' (by kernel_rfl) (fun m_again7 => fun l I S => asSl (l 0) fun a_0 a_0n a_0c => asSl (l 6) fun gone_6 gone_6n gone_6c => asSl (l 7) fun fresh_7 fresh_7n fresh_7c => asSl (l 27) fun x27 x27n x27c => asI .i64 (l 28) fun x28 => asI .i64 (l 29) fun x29 => Inv_again7 m_again7 a_0 a_0n a_0c gone_6 gone_6n gone_6c fresh_7 fresh_7n fresh_7c x27 x27n x27c x28 x29 I S) m_again7 (cast (by kernel_rfl) h0) ?_
      clear h0
      intro m_again7 l I S hle h
      obtain ⟨a_0, a_0n, a_0c, e0, h⟩ := asSl_e h
      obtain ⟨gone_6, gone_6n, gone_6c, e6, h⟩ := asSl_e h
      obtain ⟨fresh_7, fresh_7n, fresh_7c, e7, h⟩ := asSl_e h
      obtain ⟨x27, x27n, x27c, e27, h⟩ := asSl_e h
      obtain ⟨x28, e28, h⟩ := asI_e h
      obtain ⟨x29, e29, h⟩ := asI_e h
      rw [upd_eta e0, upd_eta e6, upd_eta e7, upd_eta e27, upd_eta e28, upd_eta e29]
      have h := hr m_again7 a_0 a_0n a_0c gone_6 gone_6n gone_6c fresh_7 fresh_7n fresh_7c x27 x27n x27c x28 x29 I S hle h
      clear hr hle
      refine WP.cut 3 (fun l I S => asSl (l 0) fun a_0 a_0n a_0c => asSl (l 6) fun gone_6 gone_6n gone_6c => asSl (l 7) fun fresh_7 fresh_7n fresh_7c => asSl (l 27) fun x27 x27n x27c => asI .i64 (l 28) fun x28 => asI .i64 (l 29) fun x29 => apply_Between_b8 (fun a_0 a_0n a_0c gone_6 gone_6n gone_6c fresh_7 fresh_7n fresh_7c x27 x27n x27c x28 x29 I S => ∃ m', m' < m_again7 ∧ Inv_again7 m' a_0 a_0n a_0c gone_6 gone_6n gone_6c fresh_7 fresh_7n fresh_7c x27 x27n x27c x28 x29 I S) R a_0 a_0n a_0c gone_6 gone_6n gone_6c fresh_7 fresh_7n fresh_7c x27 x27n x27c x28 x29 I S) (cast (by kernel_rfl) h) ?_
      clear h
      intro l I S _ h
      obtain ⟨a_0, a_0n, a_0c, e0, h⟩ := asSl_e h
      obtain ⟨gone_6, gone_6n, gone_6c, e6, h⟩ := asSl_e h
      obtain ⟨fresh_7, fresh_7n, fresh_7c, e7, h⟩ := asSl_e h
      obtain ⟨x27, x27n, x27c, e27, h⟩ := asSl_e h
      obtain ⟨x28, e28, h⟩ := asI_e h
      obtain ⟨x29, e29, h⟩ := asI_e h
      rw [upd_eta e0, upd_eta e6, upd_eta e7, upd_eta e27, upd_eta e28, upd_eta e29]
      exact Pre.sound _ _ _ _ _ (cast (by kernel_rfl) h)
    · clear h
      intro l I S _ h
      obtain ⟨gone_6, gone_6n, gone_6c, e6, h⟩ := asSl_e h
      obtain ⟨fresh_7, fresh_7n, fresh_7c, e7, h⟩ := asSl_e h
      rw [upd_eta e6, upd_eta e7]
      exact Pre.sound _ _ _ _ _ (cast (by kernel_rfl) h)
/-! ### bolterlaw07_Make: function 29, bolter/bolterlaw07.Make -/
noncomputable def bolterlaw07_Make_code : Code := (Tryz.f29.body).getD .skip
def bolterlaw07_Make (R : Value → IMem → SH → Prop) (ns_0 : Option Addr) (ns_0n : Nat) (ns_0c : Nat) (serial_1 : Int) (refresh_2 : Int) (retry_3 : Int) (expire_4 : Int) (I : IMem) (S : SH) : Prop :=
  Runs Tryz.prog 25 #[.slice ns_0 ns_0n ns_0c] I S fun v I1 S1 => ∃ x13, v = .string x13 ∧
  ((x13.size + (⟨#[0]⟩ : ByteArray).size : Nat) : Int) ≤ 9223372036854775807 ∧
  (((x13 ++ (⟨#[0]⟩ : ByteArray)).size + x13.size : Nat) : Int) ≤ 9223372036854775807 ∧
  ((((x13 ++ (⟨#[0]⟩ : ByteArray)) ++ x13).size + (⟨#[0]⟩ : ByteArray).size : Nat) : Int) ≤ 9223372036854775807 ∧
  ∀ b26 : Nat,
  Runs Tryz.prog 45 #[.slice none 0 0, .slice (some ⟨b26, 0, none⟩) 5 5] I1 ((b26, .cells #[.int .u32 serial_1, .int .u32 (IntKind.wrap .u32 refresh_2), .int .u32 (IntKind.wrap .u32 retry_3), .int .u32 (IntKind.wrap .u32 expire_4), .int .u32 1] 30 (0, 0)) :: S1) fun v' I1' S1' => ∃ x27 x27n x27c, v' = .slice x27 x27n x27c ∧
  ∃ x28 : ByteArray, BytesAt I1' S1' x27 x27n x28 ∧
  (((((x13 ++ (⟨#[0]⟩ : ByteArray)) ++ x13) ++ (⟨#[0]⟩ : ByteArray)).size + x28.size : Nat) : Int) ≤ 9223372036854775807 ∧
  R (.string ((((x13 ++ (⟨#[0]⟩ : ByteArray)) ++ x13) ++ (⟨#[0]⟩ : ByteArray)) ++ x28)) I1' S1'
theorem bolterlaw07_Make_fn (R : Value → IMem → SH → Prop) (ns_0 : Option Addr) (ns_0n : Nat) (ns_0c : Nat) (serial_1 : Int) (refresh_2 : Int) (retry_3 : Int) (expire_4 : Int) (I : IMem) (S : SH) (h : bolterlaw07_Make R ns_0 ns_0n ns_0c serial_1 refresh_2 retry_3 expire_4 I S) :
    Runs Tryz.prog 29 #[.slice ns_0 ns_0n ns_0c, .int .u32 serial_1, .int .u8 refresh_2, .int .u8 retry_3, .int .u8 expire_4] I S R := by
  refine Runs.of_wp (args := [.slice ns_0 ns_0n ns_0c, .int .u32 serial_1, .int .u8 refresh_2, .int .u8 retry_3, .int .u8 expire_4]) (c := bolterlaw07_Make_code) Tryz.func29 (by kernel_rfl) (by kernel_rfl) ?_
  exact Pre.sound _ _ _ _ _ (cast (by kernel_rfl) h)
/-! ### name_Join: function 53, bolter/name.Join -/
noncomputable def name_Join_code : Code := (Tryz.f53.body).getD .skip
def name_Join_b3 (R : Value → IMem → SH → Prop) (n_0 : ByteArray) (on_1 : ByteArray) (I : IMem) (S : SH) : Prop :=
  ((n_0.size + on_1.size : Nat) : Int) ≤ 9223372036854775807 ∧
  R (.tuple #[.string (n_0 ++ on_1), .bool true]) I S
def name_Join_b2 (R : Value → IMem → SH → Prop) (n_0 : ByteArray) (on_1 : ByteArray) (x21 : Bool) (I : IMem) (S : SH) : Prop :=
  bcase x21
    (R (.tuple #[.string ⟨#[]⟩, .bool false]) I S)
    (name_Join_b3 R n_0 on_1 I S)
def name_Join_b1 (R : Value → IMem → SH → Prop) (n_0 : ByteArray) (on_1 : ByteArray) (I : IMem) (S : SH) : Prop :=
  Runs Tryz.prog 71 #[.string n_0] I S fun v I1 S1 => ∃ x7, v = .bool x7 ∧
  bcase (!x7)
    (name_Join_b2 R n_0 on_1 true I1 S1)
    (Runs Tryz.prog 71 #[.string on_1] I1 S1 fun v' I1' S1' => ∃ x11, v' = .bool x11 ∧
    bcase (!x11)
      (name_Join_b2 R n_0 on_1 true I1' S1')
      (name_Join_b2 R n_0 on_1 (decide ((IntKind.wrap .i64 ((n_0.size : Int) + (on_1.size : Int))) > (254 : Int))) I1' S1'))
def name_Join (R : Value → IMem → SH → Prop) (n_0 : ByteArray) (on_1 : ByteArray) (I : IMem) (S : SH) : Prop :=
  name_Join_b1 R n_0 on_1 I S
theorem name_Join_fn (R : Value → IMem → SH → Prop) (n_0 : ByteArray) (on_1 : ByteArray) (I : IMem) (S : SH) (h : name_Join R n_0 on_1 I S) :
    Runs Tryz.prog 53 #[.string n_0, .string on_1] I S R := by
  refine Runs.of_wp (args := [.string n_0, .string on_1]) (c := name_Join_code) Tryz.func53 (by kernel_rfl) (by kernel_rfl) ?_
  refine WP.cut 1 (fun l I S => asStr (l 0) fun n_0 => asStr (l 1) fun on_1 => name_Join_b1 R n_0 on_1 I S) (cast (by kernel_rfl) h) ?_
  clear h
  intro l I S _ h
  obtain ⟨n_0, e0, h⟩ := asStr_e h
  obtain ⟨on_1, e1, h⟩ := asStr_e h
  rw [upd_eta e0, upd_eta e1]
  refine WP.seqY (by kernel_rfl) (fun l I S => asStr (l 0) fun n_0 => asStr (l 1) fun on_1 => name_Join_b3 R n_0 on_1 I S) ?_ ?_
  ·
    refine WP.cut 1 (fun l I S => asStr (l 0) fun n_0 => asStr (l 1) fun on_1 => asB (l 21) fun x21 => name_Join_b2 R n_0 on_1 x21 I S) (cast (by kernel_rfl) h) ?_
    clear h
    intro l I S _ h
    obtain ⟨n_0, e0, h⟩ := asStr_e h
    obtain ⟨on_1, e1, h⟩ := asStr_e h
    obtain ⟨x21, e21, h⟩ := asB_e h
    rw [upd_eta e0, upd_eta e1, upd_eta e21]
    exact Pre.sound _ _ _ _ _ (cast (by kernel_rfl) h)
  · clear h
    intro l I S _ h
    obtain ⟨n_0, e0, h⟩ := asStr_e h
    obtain ⟨on_1, e1, h⟩ := asStr_e h
    rw [upd_eta e0, upd_eta e1]
    exact Pre.sound _ _ _ _ _ (cast (by kernel_rfl) h)
/-! ### num_Put32: function 45, bolter/num.Put32 -/
noncomputable def num_Put32_code : Code := (Tryz.f45.body).getD .skip
def num_Put32_b4 (R : Value → IMem → SH → Prop) (out_5 : Option Addr) (out_5n : Nat) (out_5c : Nat) (I : IMem) (S : SH) : Prop :=
  R (.slice out_5 out_5n out_5c) I S
def num_Put32_l3 (again3 : Option Addr → Nat → Nat → Option Addr → Nat → Nat → Int → Int → IMem → SH → Prop) (R : Value → IMem → SH → Prop) (out_5 : Option Addr) (out_5n : Nat) (out_5c : Nat) (x10 : Option Addr) (x10n : Nat) (x10c : Nat) (x11 : Int) (x12 : Int) (I : IMem) (S : SH) : Prop :=
  bcase (decide (x12 < x11))
    (ptrP x10 fun x14 => (0 : Int) ≤ x12 ∧ x12 < (x10n : Int) ∧
    ∃ x15, Cell I S (x14.add (x12.toNat * 1)) (.int .u32 x15) ∧
    ∀ b28 : Nat,
    AppG 5 1 1 [.int .u8 0] (some (.slice 5)) I ((b28, .cells #[.int .u8 (IntKind.wrap .u8 (x15.fdiv (2 ^ (min (24 : Int).toNat (IntKind.bits .u32))))), .int .u8 (IntKind.wrap .u8 (x15.fdiv (2 ^ (min (16 : Int).toNat (IntKind.bits .u32))))), .int .u8 (IntKind.wrap .u8 (x15.fdiv (2 ^ (min (8 : Int).toNat (IntKind.bits .u32))))), .int .u8 (IntKind.wrap .u8 x15)] 5 (0, 0)) :: S) (.slice out_5 out_5n out_5c) (.slice (some ⟨b28, 0, none⟩) 4 4) fun x29 x29n x29c S1 =>
    again3 x29 x29n x29c x10 x10n x10c x11 (IntKind.wrap .i64 (x12 + (1 : Int))) I S1)
    (num_Put32_b4 R out_5 out_5n out_5c I S)
def num_Put32_b2 (R : Value → IMem → SH → Prop) (out_5 : Option Addr) (out_5n : Nat) (out_5c : Nat) (x10 : Option Addr) (x10n : Nat) (x10c : Nat) (x11 : Int) (x12 : Int) (I : IMem) (S : SH) : Prop :=
  ∃ (Inv : Nat → Option Addr → Nat → Nat → Option Addr → Nat → Nat → Int → Int → IMem → SH → Prop) (m : Nat), Inv m out_5 out_5n out_5c x10 x10n x10c x11 x12 I S ∧
    ∀ (m : Nat) (out_5 : Option Addr) (out_5n : Nat) (out_5c : Nat) (x10 : Option Addr) (x10n : Nat) (x10c : Nat) (x11 : Int) (x12 : Int) (J : IMem) (T : SH), I.le J → Inv m out_5 out_5n out_5c x10 x10n x10c x11 x12 J T →
      num_Put32_l3 (fun out_5 out_5n out_5c x10 x10n x10c x11 x12 I S => ∃ m', m' < m ∧ Inv m' out_5 out_5n out_5c x10 x10n x10c x11 x12 I S) R out_5 out_5n out_5c x10 x10n x10c x11 x12 J T
def num_Put32_b1 (R : Value → IMem → SH → Prop) (ns_1 : Option Addr) (ns_1n : Nat) (ns_1c : Nat) (out_5 : Option Addr) (out_5n : Nat) (out_5c : Nat) (I : IMem) (S : SH) : Prop :=
  num_Put32_b2 R out_5 out_5n out_5c ns_1 ns_1n ns_1c (ns_1n : Int) 0 I S
def num_Put32 (R : Value → IMem → SH → Prop) (b_0 : Option Addr) (b_0n : Nat) (b_0c : Nat) (ns_1 : Option Addr) (ns_1n : Nat) (ns_1c : Nat) (I : IMem) (S : SH) : Prop :=
  AppG 5 1 1 [.int .u8 0] (some (.slice 5)) I S (.slice none 0 0) (.slice b_0 b_0n b_0c) fun x9 x9n x9c S1 =>
  num_Put32_b1 R ns_1 ns_1n ns_1c x9 x9n x9c I S1
theorem num_Put32_fn (R : Value → IMem → SH → Prop) (b_0 : Option Addr) (b_0n : Nat) (b_0c : Nat) (ns_1 : Option Addr) (ns_1n : Nat) (ns_1c : Nat) (I : IMem) (S : SH) (h : num_Put32 R b_0 b_0n b_0c ns_1 ns_1n ns_1c I S) :
    Runs Tryz.prog 45 #[.slice b_0 b_0n b_0c, .slice ns_1 ns_1n ns_1c] I S R := by
  refine Runs.of_wp (args := [.slice b_0 b_0n b_0c, .slice ns_1 ns_1n ns_1c]) (c := num_Put32_code) Tryz.func45 (by kernel_rfl) (by kernel_rfl) ?_
  refine WP.cut 2 (fun l I S => asSl (l 1) fun ns_1 ns_1n ns_1c => asSl (l 5) fun out_5 out_5n out_5c => num_Put32_b1 R ns_1 ns_1n ns_1c out_5 out_5n out_5c I S) (cast (by kernel_rfl) h) ?_
  clear h
  intro l I S _ h
  obtain ⟨ns_1, ns_1n, ns_1c, e1, h⟩ := asSl_e h
  obtain ⟨out_5, out_5n, out_5c, e5, h⟩ := asSl_e h
  rw [upd_eta e1, upd_eta e5]
  refine WP.seqY (by kernel_rfl) (fun l I S => asSl (l 5) fun out_5 out_5n out_5c => num_Put32_b4 R out_5 out_5n out_5c I S) ?_ ?_
  ·
    refine WP.cut 1 (fun l I S => asSl (l 5) fun out_5 out_5n out_5c => asSl (l 10) fun x10 x10n x10c => asI .i64 (l 11) fun x11 => asI .i64 (l 12) fun x12 => num_Put32_b2 R out_5 out_5n out_5c x10 x10n x10c x11 x12 I S) (cast (by kernel_rfl) h) ?_
    clear h
    intro l I S _ h
    obtain ⟨out_5, out_5n, out_5c, e5, h⟩ := asSl_e h
    obtain ⟨x10, x10n, x10c, e10, h⟩ := asSl_e h
    obtain ⟨x11, e11, h⟩ := asI_e h
    obtain ⟨x12, e12, h⟩ := asI_e h
    rw [upd_eta e5, upd_eta e10, upd_eta e11, upd_eta e12]
    refine WP.block' (by kernel_rfl) ?_
    obtain ⟨Inv_again3, m_again3, h0, hr⟩ := h
    refine WP.loop' (by kernel_rfl) (fun m_again3 => fun l I S => asSl (l 5) fun out_5 out_5n out_5c => asSl (l 10) fun x10 x10n x10c => asI .i64 (l 11) fun x11 => asI .i64 (l 12) fun x12 => Inv_again3 m_again3 out_5 out_5n out_5c x10 x10n x10c x11 x12 I S) m_again3 (cast (by kernel_rfl) h0) ?_
    clear h0
    intro m_again3 l I S hle h
    obtain ⟨out_5, out_5n, out_5c, e5, h⟩ := asSl_e h
    obtain ⟨x10, x10n, x10c, e10, h⟩ := asSl_e h
    obtain ⟨x11, e11, h⟩ := asI_e h
    obtain ⟨x12, e12, h⟩ := asI_e h
    rw [upd_eta e5, upd_eta e10, upd_eta e11, upd_eta e12]
    have h := hr m_again3 out_5 out_5n out_5c x10 x10n x10c x11 x12 I S hle h
    clear hr hle
    exact Pre.sound _ _ _ _ _ (cast (by kernel_rfl) h)
  · clear h
    intro l I S _ h
    obtain ⟨out_5, out_5n, out_5c, e5, h⟩ := asSl_e h
    rw [upd_eta e5]
    exact Pre.sound _ _ _ _ _ (cast (by kernel_rfl) h)
/-! ### slices_Clone_api_Record_2: function 61, slices.Clone[[]bolter/api.Record,bolter/api.Record] -/
noncomputable def slices_Clone_api_Record_2_code : Code := (Tryz.f61.body).getD .skip
def slices_Clone_api_Record_2 (R : Value → IMem → SH → Prop) (s_0 : Option Addr) (s_0n : Nat) (s_0c : Nat) (I : IMem) (S : SH) : Prop :=
  bcase ((s_0 : Option Addr).isNone)
    (R (.slice none 0 0) I S)
    (∀ b5 : Nat,
    AppG 32 4 40 [.string ⟨#[]⟩, .int .u16 0, .int .u32 0, .string ⟨#[]⟩] (some (.slice 32)) I ((b5, .cells #[] 32 (0, 0)) :: S) (.slice (some ⟨b5, 0, none⟩) 0 0) (.slice s_0 s_0n s_0c) fun x7 x7n x7c S1 =>
    R (.slice x7 x7n x7c) I S1)
theorem slices_Clone_api_Record_2_fn (R : Value → IMem → SH → Prop) (s_0 : Option Addr) (s_0n : Nat) (s_0c : Nat) (I : IMem) (S : SH) (h : slices_Clone_api_Record_2 R s_0 s_0n s_0c I S) :
    Runs Tryz.prog 61 #[.slice s_0 s_0n s_0c] I S R := by
  refine Runs.of_wp (args := [.slice s_0 s_0n s_0c]) (c := slices_Clone_api_Record_2_code) Tryz.func61 (by kernel_rfl) (by kernel_rfl) ?_
  exact Pre.sound _ _ _ _ _ (cast (by kernel_rfl) h)
/-! ### slices_SortFunc_api_Record: function 62, slices.SortFunc[bolter/zone.Zone,bolter/api.Record] -/
noncomputable def slices_SortFunc_api_Record_code : Code := (Tryz.f62.body).getD .skip
def slices_SortFunc_api_Record (R : Value → IMem → SH → Prop) (x_0 : Option Addr) (x_0n : Nat) (x_0c : Nat) (I : IMem) (S : SH) : Prop :=
  Runs Tryz.prog 79 #[.int .u64 (IntKind.wrap .u64 (x_0n : Int))] I S fun v I1 S1 => ∃ x11, v = .int .i64 x11 ∧
  Runs Tryz.prog 78 #[.slice x_0 x_0n x_0c, .int .i64 0, .int .i64 (x_0n : Int), .int .i64 x11, .func (.func 63) #[] #[]] I1 S1 fun v' I1' S1' => v' = .tuple #[] ∧
  R (.tuple #[]) I1' S1'
theorem slices_SortFunc_api_Record_fn (R : Value → IMem → SH → Prop) (x_0 : Option Addr) (x_0n : Nat) (x_0c : Nat) (I : IMem) (S : SH) (h : slices_SortFunc_api_Record R x_0 x_0n x_0c I S) :
    Runs Tryz.prog 62 #[.slice x_0 x_0n x_0c, .func (.func 63) #[] #[]] I S R := by
  refine Runs.of_wp (args := [.slice x_0 x_0n x_0c, .func (.func 63) #[] #[]]) (c := slices_SortFunc_api_Record_code) Tryz.func62 (by kernel_rfl) (by kernel_rfl) ?_
  exact Pre.sound _ _ _ _ _ (cast (by kernel_rfl) h)
/-! ### bits_Len: function 79, math/bits.Len -/
def bits_Len (R : Value → IMem → SH → Prop) (x_0 : Int) (I : IMem) (S : SH) : Prop :=
  Runs Tryz.prog 104 #[.int .u64 x_0] I S fun v I1 S1 => ∃ x7, v = .int .i64 x7 ∧
  R (.int .i64 x7) I1 S1
end Go.Proofs.YthlkeokfmedjhaaGreat
/- The law's arguments: acts as they come; the zone's SOA. -/
namespace Go.Proofs.YthlkeokfmedjhaaGreat
open Go.Px
set_option linter.unusedVariables false

abbrev SlW (W : World) (x : Sl) : Prop := x.2.1 ≤ x.2.2 ∧ x.2.2 ≤ maxLen ∧ ∃ ys : List Int, SlIn (imW W) x.1 x.2.1 1 (fun x => [.int .u8 x]) ys ∧ ∀ y ∈ ys, (fun x => (Lit.int .u8 x).wf = true) y
abbrev AcW (W : World) (x : Ac) : Prop := SlW W x.1 ∧ (Lit.int .u8 x.2.1).wf = true ∧ (Lit.int .u32 x.2.2.1).wf = true ∧ SlW W x.2.2.2.1 ∧ x.2.2.2.2.size ≤ maxLen
abbrev ActsW (W : World) (a : Option Addr) (len cap : Nat) : Prop := len ≤ cap ∧ cap ≤ maxLen ∧ ∃ xs : List Ac, SlIn (imW W) a len 5 (fun x => [.slice x.1.1 x.1.2.1 x.1.2.2, .int .u8 x.2.1, .int .u32 x.2.2.1, .slice x.2.2.2.1.1 x.2.2.2.1.2.1 x.2.2.2.1.2.2, .string x.2.2.2.2]) xs ∧ ∀ x ∈ xs, AcW W x
theorem slb_of {W : World} {x : Sl} (h : SlW W x) : ∃ xs, Slb (imW W) [] x xs := by
  obtain ⟨h1, h2, ys, h3, h4⟩ := h
  have hl := h3.1
  refine ⟨ys, RowIn.of_slin (el := elI8) (fun _ => Nat.zero_lt_one) h3, hl.symm, ?_, fun y hy => ?_⟩
  · simp only [maxLen] at h2; omega
  · have := h4 y hy
    simp only [Lit.wf, IntKind.min, IntKind.max, IntKind.bits, IntKind.signed] at this
    simp at this; omega
theorem acts_of {W : World} {a : Option Addr} {len cap : Nat} (h : ActsW W a len cap) : ∃ xs : List Ac, len = xs.length ∧ RowIn (imW W) [] a xs.length 5 encA xs ∧ xs.length ≤ 9223372036854775807 ∧ ∀ x ∈ xs, AcOK (imW W) [] x := by
  obtain ⟨h1, h2, xs, h3, h4⟩ := h
  have hl := h3.1
  refine ⟨xs, hl.symm, RowIn.of_slin (el := encA) (fun _ => by simp [encA]) h3, ?_, fun x hx => ?_⟩
  · simp only [maxLen] at h2; omega
  · obtain ⟨g1, _, _, g2, g3⟩ := h4 x hx
    exact ⟨slb_of g1, slb_of g2, g3⟩

def zR0 : Rc := (⟨#[]⟩, 0, 0, ⟨#[]⟩)
def isSoa (r : Rc) : Bool := r.2.1 == 6
theorem find_snoc {xs : List Rc} {k : Nat} {x : Rc} (h : xs[k]? = some x) : (xs.take (k + 1)).find? isSoa = ((xs.take k).find? isSoa).or (if isSoa x then some x else none) := by
  rw [take_snoc h, List.find?_append]
  congr 1
  simp only [List.find?]
  cases isSoa x <;> rfl
theorem Soa_runs {xs : List Rc} {a : Option Addr} {c : Nat} {I : IMem} {S : SH} (hx : RowIn I S a xs.length 4 encR xs) (hl : xs.length ≤ 4611686018427387904) :
    Runs Tryz.prog 40 #[.slice a xs.length c] I S fun v _ T => v = .tuple #[vR ((xs.find? isSoa).getD zR0), .bool (xs.find? isSoa).isSome] ∧ T = S := by
  refine Runs.drop (zone_Soa_fn _ _ _ _ _ _ ?_)
  unfold zone_Soa zone_Soa_b1 zone_Soa_b2
  intro b2
  refine ⟨fun m o x xn xc q i J T => o = ⟨b2, 0, none⟩ ∧ x = a ∧ xn = xs.length ∧ q = (xs.length : Int) ∧ I.le J ∧ Sub ((b2, Obj.cells (encR zR0).toArray 32 (0, 0)) :: S) T ∧ ∃ k : Nat, i = (k : Int) ∧ k ≤ xs.length ∧ m = xs.length - k ∧ (xs.take k).find? isSoa = none,
    xs.length, ⟨rfl, rfl, rfl, rfl, IMem.le.refl I, Sub.refl _, 0, rfl, Nat.zero_le _, rfl, rfl⟩, ?_⟩
  rintro m o x xn xc q i J T - ⟨rfl, rfl, rfl, rfl, hle, hT, k, rfl, hk, rfl, hf⟩
  unfold zone_Soa_l3 zone_Soa_b4
  refine bcase_dec (fun h => ?_) (fun h => ?_)
  · obtain ⟨x, hxk⟩ := get_lt (xs := xs) (k := k) (by omega)
    obtain ⟨a', rfl, hc⟩ := ((hx.sub hT.drop).le hle).cell hxk
    obtain ⟨c0, c1, c2, c3⟩ := CellsR hc
    have hs := find_snoc hxk
    rw [hf, Option.none_or] at hs
    refine ⟨by omega, by omega, _, c0, _, c1, _, c2, _, c3, fun b5 => StP.rec ⟨_, Cell.at0 rfl, bcase_beq (fun h6 => ?_) (fun h6 => ?_)⟩⟩
    · have hso : isSoa x = true := beq_iff_eq.2 h6
      rw [hso, if_pos rfl] at hs
      have hall : xs.find? isSoa = some x := by
        rw [← List.take_append_drop (k + 1) xs, List.find?_append, hs]; rfl
      refine ⟨_, Cell.at0 rfl, _, Cell.at0 rfl, _, Cell.at0 rfl, _, Cell.at0 rfl, StP.of_sub (hT.skip _) (StP.at0 (o := 0) (vs := encR x) (Nat.le_refl 4) rfl ?_)⟩
      intro T' hT'
      have hcell : ∀ {o : Nat} {v : Value}, (encR x)[o]? = some v → Cell J T' ⟨b2, o, none⟩ v := fun h => Sub.cell hT' (IMem.le.refl _) (Cell.at0 (by rw [show setR _ 0 (encR x) = (encR x).toArray from rfl, List.getElem?_toArray]; exact h))
      refine ⟨_, hcell rfl, _, hcell rfl, _, hcell rfl, _, hcell rfl, S, hT'.drop, by rw [hall]; rfl, rfl⟩
    · have hso : isSoa x = false := beq_eq_false_iff_ne.2 h6
      rw [hso] at hs
      refine ⟨xs.length - (k + 1), by omega, rfl, rfl, rfl, rfl, hle, hT.skip _, k + 1, ?_, by omega, rfl, hs⟩
      rw [wrap_i64 (by omega) (by omega)]; rfl
  · have : k = xs.length := by omega
    subst this
    rw [List.take_length] at hf
    refine StP.of_sub hT (StP.at0 (o := 0) (vs := encR zR0) (Nat.le_refl 4) rfl ?_)
    intro T' hT'
    have hcell : ∀ {o : Nat} {v : Value}, (encR zR0)[o]? = some v → Cell J T' ⟨b2, o, none⟩ v := fun h => Sub.cell hT' (IMem.le.refl _) (Cell.at0 (by rw [show setR _ 0 (encR zR0) = (encR zR0).toArray from rfl, List.getElem?_toArray]; exact h))
    refine ⟨_, hcell rfl, _, hcell rfl, _, hcell rfl, _, hcell rfl, S, hT'.drop, by rw [hf]; rfl, rfl⟩

end Go.Proofs.YthlkeokfmedjhaaGreat
set_option linter.unusedVariables false
set_option maxRecDepth 8000
set_option maxHeartbeats 2000000
namespace Go.Proofs.YthlkeokfmedjhaaGreat
open Go.Px
/-! ### zone_Delete: function 88, bolter/zone.Delete -/
noncomputable def zone_Delete_code : Code := (Tryz.f88.body).getD .skip
def zone_Delete (R : Value → IMem → SH → Prop) (z_0 : Option Addr) (z_0n : Nat) (z_0c : Nat) (r_1_0 : ByteArray) (r_1_1 : Int) (r_1_2 : Int) (r_1_3 : ByteArray) (I : IMem) (S : SH) : Prop :=
  ∀ b3 : Nat,
  ∃ x10_0, Cell I ((b3, .cells #[.string r_1_0, .int .u16 r_1_1, .int .u32 r_1_2, .string r_1_3] 32 (0, 0)) :: S) ⟨b3, 0, none⟩ (.string x10_0) ∧
  ∃ x10_1, Cell I ((b3, .cells #[.string r_1_0, .int .u16 r_1_1, .int .u32 r_1_2, .string r_1_3] 32 (0, 0)) :: S) ⟨b3, 1, none⟩ (.int .u16 x10_1) ∧
  ∃ x10_2, Cell I ((b3, .cells #[.string r_1_0, .int .u16 r_1_1, .int .u32 r_1_2, .string r_1_3] 32 (0, 0)) :: S) ⟨b3, 2, none⟩ (.int .u32 x10_2) ∧
  ∃ x10_3, Cell I ((b3, .cells #[.string r_1_0, .int .u16 r_1_1, .int .u32 r_1_2, .string r_1_3] 32 (0, 0)) :: S) ⟨b3, 3, none⟩ (.string x10_3) ∧
  Runs Tryz.prog 69 #[.slice z_0 z_0n z_0c, .agg #[.string x10_0, .int .u16 x10_1, .int .u32 x10_2, .string x10_3], .func (.func 63) #[] #[]] I ((b3, .cells #[.string r_1_0, .int .u16 r_1_1, .int .u32 r_1_2, .string r_1_3] 32 (0, 0)) :: S) fun v I1 S1 => ∃ x11_0 x11_1, v = .tuple #[.int .i64 x11_0, .bool x11_1] ∧
  bcase (!x11_1)
    (R (.tuple #[.slice none 0 0, (.iface 123 (.int .i64 6))]) I1 S1)
    (Runs Tryz.prog 67 #[.slice z_0 z_0n z_0c] I1 S1 fun v' I1' S1' => ∃ x18 x18n x18c, v' = .slice x18 x18n x18c ∧
    Runs Tryz.prog 110 #[.slice x18 x18n x18c, .int .i64 x11_0, .int .i64 (IntKind.wrap .i64 (x11_0 + (1 : Int)))] I1' S1' fun v'' I1'' S1'' => ∃ x22 x22n x22c, v'' = .slice x22 x22n x22c ∧
    R (.tuple #[.slice x22 x22n x22c, .nilIface]) I1'' S1'')
theorem zone_Delete_fn (R : Value → IMem → SH → Prop) (z_0 : Option Addr) (z_0n : Nat) (z_0c : Nat) (r_1_0 : ByteArray) (r_1_1 : Int) (r_1_2 : Int) (r_1_3 : ByteArray) (I : IMem) (S : SH) (h : zone_Delete R z_0 z_0n z_0c r_1_0 r_1_1 r_1_2 r_1_3 I S) :
    Runs Tryz.prog 88 #[.slice z_0 z_0n z_0c, .agg #[.string r_1_0, .int .u16 r_1_1, .int .u32 r_1_2, .string r_1_3]] I S R := by
  refine Runs.of_wp (args := [.slice z_0 z_0n z_0c, .agg #[.string r_1_0, .int .u16 r_1_1, .int .u32 r_1_2, .string r_1_3]]) (c := zone_Delete_code) Tryz.func88 (by kernel_rfl) (by kernel_rfl) ?_
  exact Pre.sound _ _ _ _ _ (cast (by kernel_rfl) h)
/-! ### slices_Delete_api_Record: function 110, slices.Delete[bolter/zone.Zone,bolter/api.Record] -/
noncomputable def slices_Delete_api_Record_code : Code := (Tryz.f110.body).getD .skip
def slices_Delete_api_Record_b2 (R : Value → IMem → SH → Prop) (s_0 : Option Addr) (s_0n : Nat) (s_0c : Nat) (oldlen_7 : Int) (I : IMem) (S : SH) : Prop :=
  (0 : Int) ≤ oldlen_7 ∧ oldlen_7 ≤ ((s_0c : Nat) : Int) ∧
  (0 : Int) ≤ (s_0n : Int) ∧ (s_0n : Int) ≤ ((oldlen_7.toNat : Nat) : Int) ∧
  ClrP [.string ⟨#[]⟩, .int .u16 0, .int .u32 0, .string ⟨#[]⟩] S (slA s_0 s_0c ((s_0n : Int).toNat) 4) (oldlen_7.toNat - (s_0n : Int).toNat) fun S1 =>
  R (.slice s_0 s_0n s_0c) I S1
def slices_Delete_api_Record_b1 (R : Value → IMem → SH → Prop) (s_0 : Option Addr) (s_0n : Nat) (s_0c : Nat) (i_1 : Int) (j_2 : Int) (oldlen_7 : Int) (I : IMem) (S : SH) : Prop :=
  (0 : Int) ≤ i_1 ∧ i_1 ≤ ((s_0c : Nat) : Int) ∧
  (0 : Int) ≤ j_2 ∧ j_2 ≤ ((s_0n : Nat) : Int) ∧
  AppG 32 4 40 [.string ⟨#[]⟩, .int .u16 0, .int .u32 0, .string ⟨#[]⟩] (some (.slice 32)) I S (.slice (slA s_0 s_0c 0 4) (i_1.toNat - 0) (s_0c - 0)) (.slice (slA s_0 s_0c j_2.toNat 4) (s_0n - j_2.toNat) (s_0c - j_2.toNat)) fun x26 x26n x26c S1 =>
  slices_Delete_api_Record_b2 R x26 x26n x26c oldlen_7 I S1
def slices_Delete_api_Record (R : Value → IMem → SH → Prop) (s_0 : Option Addr) (s_0n : Nat) (s_0c : Nat) (i_1 : Int) (j_2 : Int) (I : IMem) (S : SH) : Prop :=
  (0 : Int) ≤ (s_0n : Int) ∧ (s_0n : Int) ≤ ((s_0c : Nat) : Int) ∧
  (0 : Int) ≤ j_2 ∧ j_2 ≤ (((s_0n : Int).toNat : Nat) : Int) ∧
  (0 : Int) ≤ i_1 ∧ i_1 ≤ ((j_2.toNat : Nat) : Int) ∧
  bcase (i_1 == j_2)
    (R (.slice s_0 s_0n s_0c) I S)
    (slices_Delete_api_Record_b1 R s_0 s_0n s_0c i_1 j_2 (s_0n : Int) I S)
theorem slices_Delete_api_Record_fn (R : Value → IMem → SH → Prop) (s_0 : Option Addr) (s_0n : Nat) (s_0c : Nat) (i_1 : Int) (j_2 : Int) (I : IMem) (S : SH) (h : slices_Delete_api_Record R s_0 s_0n s_0c i_1 j_2 I S) :
    Runs Tryz.prog 110 #[.slice s_0 s_0n s_0c, .int .i64 i_1, .int .i64 j_2] I S R := by
  refine Runs.of_wp (args := [.slice s_0 s_0n s_0c, .int .i64 i_1, .int .i64 j_2]) (c := slices_Delete_api_Record_code) Tryz.func110 (by kernel_rfl) (by kernel_rfl) ?_
  refine WP.cut 4 (fun l I S => asSl (l 0) fun s_0 s_0n s_0c => asI .i64 (l 1) fun i_1 => asI .i64 (l 2) fun j_2 => asI .i64 (l 7) fun oldlen_7 => slices_Delete_api_Record_b1 R s_0 s_0n s_0c i_1 j_2 oldlen_7 I S) (cast (by kernel_rfl) h) ?_
  clear h
  intro l I S _ h
  obtain ⟨s_0, s_0n, s_0c, e0, h⟩ := asSl_e h
  obtain ⟨i_1, e1, h⟩ := asI_e h
  obtain ⟨j_2, e2, h⟩ := asI_e h
  obtain ⟨oldlen_7, e7, h⟩ := asI_e h
  rw [upd_eta e0, upd_eta e1, upd_eta e2, upd_eta e7]
  refine WP.seqY (by kernel_rfl) (fun l I S => asSl (l 0) fun s_0 s_0n s_0c => asI .i64 (l 7) fun oldlen_7 => slices_Delete_api_Record_b2 R s_0 s_0n s_0c oldlen_7 I S) ?_ ?_
  ·
    exact WP.draw' (.take 0 (.take 1 (.take 2 (.take 3 (.take 4 (.take 5 (.step 6 (.take 7 .done)))))))) [6] (by kernel_rfl) (by kernel_rfl) (by kernel_rfl) (by kernel_rfl) (by kernel_rfl) (cast (by kernel_rfl) h)
  · clear h
    intro l I S _ h
    obtain ⟨s_0, s_0n, s_0c, e0, h⟩ := asSl_e h
    obtain ⟨oldlen_7, e7, h⟩ := asI_e h
    rw [upd_eta e0, upd_eta e7]
    exact Pre.sound _ _ _ _ _ (cast (by kernel_rfl) h)
end Go.Proofs.YthlkeokfmedjhaaGreat
/- Records in order; the records of a name; the same records; ZoneAt. -/
namespace Go.Proofs.YthlkeokfmedjhaaGreat
open Go.Px
set_option linter.unusedVariables false

theorem OwnR.cap {α : Type} {el : α → List Value} {sz : Nat} (hsz : 0 < sz) {e : TypeId} {A : Option Addr} {n c : Nat} {xs : List α} {own : SH} (h : OwnR e sz el (.slice A n c) xs own) : xs.length ≤ c := by
  rcases h with ⟨hv, rfl, _⟩ | ⟨g, cap, rest, hv, _, hcap, _⟩
  · exact Nat.zero_le _
  · injection hv with h1 h2 h3
    subst h3
    have : xs.length * sz ≤ c * sz := by omega
    exact Nat.le_of_mul_le_mul_right this hsz
abbrev ltR (r x : Rc) : Bool := decide (cmpR x r < 0)
def hasR (out : List Rc) (k : Nat) (r : Rc) : Bool := match out[k]? with
  | some x => ((x.1 : ByteArray) == (r.1 : ByteArray)) && (((x.2.1 : Int) == (r.2.1 : Int)) && (((x.2.2.1 : Int) == (r.2.2.1 : Int)) && (((x.2.2.2 : ByteArray) == (r.2.2.2 : ByteArray)) && true)))
  | none => false
theorem hasR_iff {out : List Rc} {k : Nat} {r : Rc} : hasR out k r = true ↔ out[k]? = some r := by
  unfold hasR
  split
  · rename_i x hx
    rw [hx, recEq]; simp
  · rename_i hx; rw [hx]; simp
def atR (out : List Rc) (r : Rc) : Nat := (out.takeWhile (ltR r)).length
def insR (out : List Rc) (r : Rc) : List Rc := if hasR out (atR out r) r then out else out.take (atR out r) ++ r :: out.drop (atR out r)
def sortR (rs : List Rc) : List Rc := rs.foldl insR []
theorem atR_le (out : List Rc) (r : Rc) : atR out r ≤ out.length := (List.takeWhile_prefix _).length_le
theorem tw_lt {out : List Rc} {r x : Rc} {p : Rc → Bool} : ∀ {out : List Rc} {j : Nat}, j < (out.takeWhile p).length → out[j]? = some x → p x = true
  | [], j, h, _ => by simp at h
  | y :: out, j, h, hx => by
    rw [List.takeWhile_cons] at h
    split at h
    · rename_i hy
      cases j with
      | zero => simp at hx; rw [← hx]; exact hy
      | succ j => exact tw_lt (out := out) (j := j) (r := r) (by simpa using h) (by simpa using hx)
    · simp at h
theorem tw_at {p : Rc → Bool} : ∀ {out : List Rc} {x : Rc}, out[(out.takeWhile p).length]? = some x → p x = false
  | [], x, h => by simp at h
  | y :: out, x, h => by
    rw [List.takeWhile_cons] at h
    split at h
    · exact tw_at (by simpa using h)
    · rename_i hy
      simp at h; rw [← h]; simpa using hy
theorem insR_length (out : List Rc) (r : Rc) : (insR out r).length ≤ out.length + 1 := by
  unfold insR
  split
  · omega
  · have := atR_le out r
    rw [List.length_append, List.length_take, List.length_cons, List.length_drop]; omega
theorem insR_mem {out : List Rc} {r x : Rc} (h : x ∈ insR out r) : x ∈ out ∨ x = r := by
  unfold insR at h
  split at h
  · exact .inl h
  · rcases List.mem_append.1 h with h | h
    · exact .inl (List.mem_of_mem_take h)
    · rcases List.mem_cons.1 h with h | h
      · exact .inr h
      · exact .inl (List.mem_of_mem_drop h)
theorem sort_snoc {rs : List Rc} {k : Nat} {r : Rc} (h : rs[k]? = some r) : (rs.take (k + 1)).foldl insR [] = insR ((rs.take k).foldl insR []) r := by
  rw [take_snoc h, List.foldl_append]; rfl
theorem foldl_len : ∀ (rs out : List Rc), (rs.foldl insR out).length ≤ out.length + rs.length
  | [], out => by simp
  | r :: rs, out => by
    have h1 := foldl_len rs (insR out r)
    have h2 := insR_length out r
    simp only [List.foldl_cons, List.length_cons]; omega
theorem sortR_len (rs : List Rc) : (sortR rs).length ≤ rs.length := by have := foldl_len rs []; simpa [sortR] using this
theorem Sorted_runs {rs : List Rc} {a : Option Addr} {c : Nat} {I : IMem} {S : SH} (hx : RowIn I S a rs.length 4 encR rs) (hl : rs.length ≤ 1000000) :
    Runs Tryz.prog 35 #[.slice a rs.length c] I S fun v _ T => ∃ own, OwnZ v (sortR rs) own ∧ Sub (own ++ S) T := by
  refine bolterlaw08_Sorted_fn _ _ _ _ _ _ ?_
  unfold bolterlaw08_Sorted bolterlaw08_Sorted_b1 bolterlaw08_Sorted_b2
  refine ⟨fun m o on oc x xn xc q i J T => x = a ∧ xn = rs.length ∧ q = (rs.length : Int) ∧ I.le J ∧ ∃ (k : Nat) (own : SH), i = (k : Int) ∧ k ≤ rs.length ∧ m = rs.length - k ∧ OwnZ (.slice o on oc) ((rs.take k).foldl insR []) own ∧ Sub (own ++ S) T,
    rs.length, ⟨rfl, rfl, rfl, IMem.le.refl I, 0, [], rfl, Nat.zero_le _, rfl, OwnR.nil, Sub.refl _⟩, ?_⟩
  rintro m o on oc x xn xc q i J T - ⟨rfl, rfl, rfl, hle, k, own, rfl, hk, rfl, ho, hs⟩
  unfold bolterlaw08_Sorted_l3 bolterlaw08_Sorted_b4 bolterlaw08_Sorted_b5 bolterlaw08_Sorted_b14
  refine bcase_dec (fun h => ?_) (fun h => ?_)
  · obtain ⟨r, hrk⟩ := get_lt (xs := rs) (k := k) (by omega)
    obtain ⟨a', rfl, hc⟩ := ((hx.sub hs.right).le hle).cell hrk
    obtain ⟨c0, c1, c2, c3⟩ := CellsR hc
    have hsn := sort_snoc hrk
    have hzl : ((rs.take k).foldl insR []).length ≤ k := by
      have := foldl_len (rs.take k) []
      rw [List.length_take] at this
      simp only [List.length_nil] at this; omega
    generalize (rs.take k).foldl insR [] = zs at ho hsn hzl
    have hon := ho.len
    subst hon
    have hcap := OwnR.cap (by omega) ho
    refine ⟨by omega, by omega, _, c0, _, c1, _, c2, _, c3, fun b5 => StP.rec ?_⟩
    have hs5 : Sub (own ++ S) ((b5, Obj.cells (encR r).toArray 32 (0, 0)) :: T) := hs.skip _
    generalize hT5 : ((b5, Obj.cells (encR r).toArray 32 (0, 0)) :: T) = T5 at hs5
    have hcr : ∀ (J' : IMem) {j : Nat} {v : Value}, (encR r)[j]? = some v → Cell J' T5 ⟨b5, j, none⟩ v := fun J' j v hj => by
      rw [← hT5]; exact Cell.at0 (by rw [List.getElem?_toArray]; exact hj)
    have hzr : ∀ J', RowIn J' T5 o zs.length 4 encR zs := fun J' => (ho.row encR_len (I := J')).sub hs5.left
    have hle5 : I.le J := hle
    refine ⟨fun m o' on' oc' r' at_ x' xn' xc' q' i' J' T' => o' = o ∧ on' = zs.length ∧ oc' = oc ∧ r' = ⟨b5, 0, none⟩ ∧ x' = some a' ∧ xn' = rs.length ∧ q' = (rs.length : Int) ∧ i' = (k : Int) ∧ J.le J' ∧ T' = T5 ∧ ∃ j : Nat, at_ = (j : Int) ∧ j ≤ atR zs r ∧ m = zs.length - j,
      zs.length, ⟨rfl, rfl, rfl, rfl, rfl, rfl, rfl, rfl, IMem.le.refl J, rfl, 0, rfl, Nat.zero_le _, rfl⟩, ?_⟩
    rintro m o' on' oc' r' at_ x' xn' xc' q' i' J' T' - ⟨rfl, rfl, rfl, rfl, rfl, rfl, rfl, rfl, hle', rfl, j, rfl, hj, rfl⟩
    unfold bolterlaw08_Sorted_l6 bolterlaw08_Sorted_b7 bolterlaw08_Sorted_b8
    have hle2 := atR_le zs r
    have stop : j = atR zs r → bolterlaw08_Sorted_b9 (fun out_3 out_3n out_3c x9 x9n x9c x10 x11 I_1 S_1 => ∃ m', m' < rs.length - k ∧ (x9 = some a' ∧ x9n = rs.length ∧ x10 = (rs.length : Int) ∧ I.le I_1 ∧ ∃ (k : Nat) (own : SH), x11 = (k : Int) ∧ k ≤ rs.length ∧ m' = rs.length - k ∧ OwnZ (.slice out_3 out_3n out_3c) ((rs.take k).foldl insR []) own ∧ Sub (own ++ S) S_1))
        (fun v _ T => ∃ own, OwnZ v (sortR rs) own ∧ Sub (own ++ S) T) o' zs.length oc' ⟨b5, 0, none⟩ (j : Int) (some a') rs.length xc' (rs.length : Int) (k : Int) J' T' := by
      intro hjk
      have hnext : IntKind.wrap .i64 ((k : Int) + 1) = ((k + 1 : Nat) : Int) := by rw [wrap_i64 (by omega) (by omega)]; rfl
      have key : ∀ is : Bool, is = hasR zs j r → bolterlaw08_Sorted_b10 (fun out_3 out_3n out_3c x9 x9n x9c x10 x11 I_1 S_1 => ∃ m', m' < rs.length - k ∧ (x9 = some a' ∧ x9n = rs.length ∧ x10 = (rs.length : Int) ∧ I.le I_1 ∧ ∃ (k : Nat) (own : SH), x11 = (k : Int) ∧ k ≤ rs.length ∧ m' = rs.length - k ∧ OwnZ (.slice out_3 out_3n out_3c) ((rs.take k).foldl insR []) own ∧ Sub (own ++ S) S_1))
          (fun v _ T => ∃ own, OwnZ v (sortR rs) own ∧ Sub (own ++ S) T) o' zs.length oc' ⟨b5, 0, none⟩ (j : Int) is (some a') rs.length xc' (rs.length : Int) (k : Int) J' T' := by
        intro is his
        unfold bolterlaw08_Sorted_b10 bolterlaw08_Sorted_b11 bolterlaw08_Sorted_b12 bolterlaw08_Sorted_b13
        simp only [slA_zero, Nat.sub_zero, Int.toNat_natCast]
        refine bcase_of (fun hn => ?_) (fun hn => ?_)
        · have hnot : hasR zs (atR zs r) r = false := by rw [← hjk, ← his]; simpa using hn
          have hins : insR zs r = zs.take j ++ r :: zs.drop j := by rw [insR, hnot, hjk]; rfl
          refine ⟨by omega, by omega, ?_⟩
          have htl : (zs.take j).length = j := by rw [List.length_take]; omega
          have hdl : (zs.drop j).length = zs.length - j := List.length_drop
          refine AppG.own (xs := ([] : List Rc)) (ys := zs.take j) (el := encR) (own := []) (F := T') encR_len encR_one rfl (List.Perm.refl _) OwnR.nil ⟨?_, flatMap_one encR_one _⟩ ?_ ?_ ?_
          · rw [htl]; exact RowIn.rd encR_len (by omega) ((hzr J').take (by omega))
          · rw [htl]; simp only [List.length_nil, maxLen]; omega
          · rw [htl]; simp only [List.length_nil]; omega
          · intro p1 n1 d1 own1 ho1
            rw [List.nil_append] at ho1
            have hcr1 : ∀ {o : Nat} {v : Value}, (encR r)[o]? = some v → Cell J' (own1 ++ T') ⟨b5, o, none⟩ v := fun hj => Sub.cell (Sub.right (Sub.refl (own1 ++ T'))) (IMem.le.refl _) (hcr J' hj)
            refine ⟨_, hcr1 rfl, _, hcr1 rfl, _, hcr1 rfl, _, hcr1 rfl, by omega, by omega, fun b50 => ?_⟩
            refine AppG.own (xs := zs.take j) (ys := [r]) (el := encR) (own := own1) (F := (b50, .cells (encR r).toArray 32 (0, 0)) :: T') encR_len encR_one rfl perm_mid1 ho1 ⟨?_, rfl⟩ ?_ ?_ ?_
            · exact Rd.list (L := encR r) rfl (by simp [encR_len])
            · rw [htl]; simp only [List.length_singleton, maxLen]; omega
            · rw [htl]; simp only [List.length_singleton]; omega
            · intro p2 n2 d2 own2 ho2
              refine AppG.own (xs := zs.take j ++ [r]) (ys := zs.drop j) (el := encR) (own := own2) (F := (b50, .cells (encR r).toArray 32 (0, 0)) :: T') encR_len encR_one rfl (List.Perm.refl _) ho2 ⟨?_, flatMap_one encR_one _⟩ ?_ ?_ ?_
              · rw [hdl]
                exact RowIn.rd encR_len (by omega) (((hzr J').drop (by omega) hcap).sub (((Sub.refl T').skip _).trans (Sub.right (Sub.refl _))))
              · rw [List.length_append, htl, hdl]; simp only [List.length_singleton, maxLen]; omega
              · rw [List.length_append, htl, hdl]; simp only [List.length_singleton]; omega
              · intro p3 n3 d3 own3 ho3
                refine ⟨rs.length - (k + 1), by omega, (by first | rfl | trivial), (by first | rfl | trivial), (by first | rfl | trivial), hle.trans hle', k + 1, own3, hnext, by omega, rfl, ?_, ?_⟩
                · rw [hsn, hins]
                  simpa using ho3
                · obtain ⟨G, hG⟩ := hs5.right
                  exact ⟨(b50, Obj.cells (encR r).toArray 32 (0, 0)) :: G, by
                    rw [List.append_assoc]
                    refine List.Perm.append_left own3 ?_
                    exact (hG.cons _).trans perm_mid1⟩
        · have hyes : hasR zs (atR zs r) r = true := by rw [← hjk, ← his]; simpa using hn
          have hins : insR zs r = zs := by rw [insR, hyes]; rfl
          refine ⟨rs.length - (k + 1), by omega, (by first | rfl | trivial), (by first | rfl | trivial), (by first | rfl | trivial), hle.trans hle', k + 1, own, hnext, by omega, rfl, ?_, hs5⟩
          rw [hsn, hins]; exact ho
      unfold bolterlaw08_Sorted_b9
      refine bcase_dec (fun hjl => ?_) (fun hjl => ?_)
      · obtain ⟨y, hy⟩ := get_lt (xs := zs) (k := j) (by omega)
        obtain ⟨a2, rfl, hc2⟩ := (hzr J').cell hy
        obtain ⟨e0, e1, e2, e3⟩ := CellsR hc2
        refine ⟨by omega, by omega, _, e0, _, e1, _, e2, _, e3, _, hcr J' rfl, _, hcr J' rfl, _, hcr J' rfl, _, hcr J' rfl, key _ ?_⟩
        unfold hasR; rw [hy]
      · refine key _ ?_
        unfold hasR; rw [List.getElem?_eq_none (by omega)]
    refine bcase_dec (fun hjl => ?_) (fun hjl => ?_)
    · obtain ⟨y, hy⟩ := get_lt (xs := zs) (k := j) (by omega)
      obtain ⟨a2, rfl, hc2⟩ := (hzr J').cell hy
      obtain ⟨e0, e1, e2, e3⟩ := CellsR hc2
      refine ⟨by omega, by omega, _, e0, _, e1, _, e2, _, e3, _, hcr J' rfl, _, hcr J' rfl, _, hcr J' rfl, _, hcr J' rfl, _, compare_runs y r _ _, ?_⟩
      refine bcase_dec (fun hlt => ?_) (fun hlt => ?_)
      · have hja : j < atR zs r := by
          rcases Nat.lt_or_ge j (atR zs r) with g | g
          · exact g
          · have hje : j = atR zs r := by omega
            rw [hje] at hy
            have := tw_at (p := ltR r) hy
            rw [ltR, decide_eq_false_iff_not] at this
            exact absurd hlt this
        refine ⟨zs.length - (j + 1), by omega, rfl, rfl, rfl, rfl, rfl, rfl, rfl, rfl, hle', rfl, j + 1, ?_, by omega, rfl⟩
        rw [wrap_i64 (by omega) (by omega)]; rfl
      · refine stop ?_
        rcases Nat.lt_or_ge j (atR zs r) with g | g
        · have := tw_lt (r := r) (out := zs) g hy
          rw [ltR, decide_eq_true_eq] at this
          exact absurd this hlt
        · omega
    · exact bcase_f rfl (stop (by omega))
  · have : k = rs.length := by omega
    subst this
    rw [List.take_length] at ho
    exact ⟨own, ho, hs⟩

theorem Same_runs {xs ys : List Rc} {a b : Option Addr} {ca cb : Nat} {I : IMem} {S : SH} (hx : RowIn I S a xs.length 4 encR xs) (hy : RowIn I S b ys.length 4 encR ys) (hl : xs.length ≤ 9223372036854775807) :
    Runs Tryz.prog 15 #[.slice a xs.length ca, .slice b ys.length cb] I S fun v _ T => (∃ f : Bool, v = .bool f ∧ (f = true ↔ xs = ys)) ∧ T = S := by
  refine bolterlaw05_SameRecords_fn _ _ _ _ _ _ _ _ _ ?_
  unfold bolterlaw05_SameRecords bolterlaw05_SameRecords_b1 bolterlaw05_SameRecords_b2
  refine bcase_bne (fun h => ⟨⟨false, rfl, ?_⟩, rfl⟩) (fun h => ?_)
  · constructor
    · intro e; cases e
    · intro e; rw [e] at h; exact absurd rfl h
  · have hlen : xs.length = ys.length := by omega
    refine ⟨fun m a' an ac b' bn bc q i J T => a' = a ∧ an = xs.length ∧ b' = b ∧ bn = ys.length ∧ q = (xs.length : Int) ∧ I.le J ∧ T = S ∧ ∃ k : Nat, i = (k : Int) ∧ k ≤ xs.length ∧ m = xs.length - k ∧ xs.take k = ys.take k,
      xs.length, ⟨rfl, rfl, rfl, rfl, rfl, IMem.le.refl I, rfl, 0, rfl, Nat.zero_le _, rfl, rfl⟩, ?_⟩
    rintro m a' an ac b' bn bc q i J T - ⟨rfl, rfl, rfl, rfl, rfl, hle, rfl, k, rfl, hk, rfl, ht⟩
    unfold bolterlaw05_SameRecords_l3 bolterlaw05_SameRecords_b4 bolterlaw05_SameRecords_b5 bolterlaw05_SameRecords_b6 bolterlaw05_SameRecords_b7 bolterlaw05_SameRecords_b8
    refine bcase_dec (fun h => ?_) (fun h => ⟨⟨true, rfl, ?_⟩, rfl⟩)
    · obtain ⟨x, hxk⟩ := get_lt (xs := xs) (k := k) (by omega)
      obtain ⟨y, hyk⟩ := get_lt (xs := ys) (k := k) (by omega)
      obtain ⟨a1, rfl, hc⟩ := (hx.le hle).cell hxk
      obtain ⟨a2, rfl, hd⟩ := (hy.le hle).cell hyk
      obtain ⟨c0, c1, c2, c3⟩ := CellsR hc
      obtain ⟨d0, d1, d2, d3⟩ := CellsR hd
      refine ⟨by omega, by omega, _, c0, _, c1, _, c2, _, c3, by omega, by omega, _, d0, _, d1, _, d2, _, d3, bcase_not (bcase_of (fun g => ?_) (fun g => ⟨⟨false, rfl, ?_⟩, rfl⟩))⟩
      · have := recEq.1 g
        subst this
        refine ⟨xs.length - (k + 1), by omega, rfl, rfl, rfl, rfl, rfl, hle, rfl, k + 1, ?_, by omega, rfl, ?_⟩
        · rw [wrap_i64 (by omega) (by omega)]; rfl
        · rw [take_snoc hxk, take_snoc hyk, ht]
      · constructor
        · intro e; cases e
        · intro e
          rw [e, hyk] at hxk
          injection hxk with hxk
          rw [recEq.2 hxk.symm] at g; cases g
    · have : k = xs.length := by omega
      subst this
      rw [List.take_length, hlen, List.take_length] at ht
      exact ⟨fun _ => ht, fun _ => rfl⟩

theorem filter_snoc {xs : List Rc} {k : Nat} {x : Rc} (p : Rc → Bool) (h : xs[k]? = some x) : (xs.take (k + 1)).filter p = (xs.take k).filter p ++ (if p x then [x] else []) := by
  rw [take_snoc h, List.filter_append]
  congr 1
  cases hp : p x <;> simp [List.filter, hp]
theorem sizeR_small : ∀ {xs : List Rc}, (∀ r ∈ xs, SmallR r) → sizeR xs ≤ xs.length * 900
  | [], _ => by simp [sizeR]
  | x :: xs, h => by
    have h1 := sizeR_small (xs := xs) (fun r hr => h r (List.mem_cons_of_mem _ hr))
    have h2 := h x (List.mem_cons_self ..)
    have h3 : sizeR (x :: xs) = szR x + sizeR xs := by simp [sizeR]
    have h4 : szR x = 10 + x.1.size + x.2.2.2.size := rfl
    have := h2.nm; have := h2.dt
    rw [h3, List.length_cons, Nat.succ_mul]; omega
end Go.Proofs.YthlkeokfmedjhaaGreat
/- Whether records are a zone of a name; ZoneRight. -/
namespace Go.Proofs.YthlkeokfmedjhaaGreat
open Go.Px
set_option linter.unusedVariables false

structure OkAt (xs : List Rc) (o : ByteArray) (k : Nat) (r : Rc) : Prop where
  may : mayR r = true
  below : belowB r.1 o = true
  up : 0 < k → ∀ x, xs[k - 1]? = some x → cmpR x r < 0
  own : r.2.1 = 6 → r.1 = o
def cntS (xs : List Rc) : Nat := (xs.filter isSoa).length
theorem cnt_snoc {xs : List Rc} {k : Nat} {x : Rc} (h : xs[k]? = some x) : cntS (xs.take (k + 1)) = cntS (xs.take k) + (if isSoa x then 1 else 0) := by
  unfold cntS
  rw [filter_snoc isSoa h, List.length_append]
  cases isSoa x <;> rfl
structure RightP (xs : List Rc) (o : ByteArray) : Prop where
  each : ∀ (k : Nat) (r : Rc), xs[k]? = some r → OkAt xs o k r
  one : cntS xs = 1
  many : xs.length ≤ 256
  size : sizeR xs ≤ 16384
theorem Right_runs {xs : List Rc} {a : Option Addr} {c : Nat} {o : ByteArray} {I : IMem} {S : SH} (hx : RowIn I S a xs.length 4 encR xs) (hl : xs.length ≤ 1000000) (hsm : ∀ r ∈ xs, SmallR r) :
    Runs Tryz.prog 86 #[.slice a xs.length c, .string o] I S fun v _ T => (∃ f : Bool, v = .bool f ∧ (f = true ↔ RightP xs o)) ∧ T = S := by
  refine Runs.drop (zone_Right_fn _ _ _ _ _ _ _ ?_)
  unfold zone_Right zone_Right_b1 zone_Right_b2
  have hsz := sizeR_small hsm
  refine ⟨fun m z zn zc o' so x xn xc q i J T => z = a ∧ zn = xs.length ∧ o' = o ∧ x = a ∧ xn = xs.length ∧ q = (xs.length : Int) ∧ Sub S T ∧ I.le J ∧ ∃ k : Nat, i = (k : Int) ∧ k ≤ xs.length ∧ m = xs.length - k ∧ so = (cntS (xs.take k) : Int) ∧ (∀ (j : Nat) (r : Rc), j < k → xs[j]? = some r → OkAt xs o j r),
    xs.length, ⟨rfl, rfl, rfl, rfl, rfl, rfl, Sub.refl S, IMem.le.refl I, 0, rfl, Nat.zero_le _, rfl, rfl, fun j r h => by omega⟩, ?_⟩
  rintro m z zn zc o' so x xn xc q i J T - ⟨rfl, rfl, rfl, rfl, rfl, rfl, hT, hle, k, rfl, hk, rfl, rfl, hall⟩
  have hrow := (hx.sub hT).le hle
  have bad : ∀ (L : SH) (r : Rc), Sub S L → xs[k]? = some r → ¬ OkAt xs o' k r → ∃ L', Sub L' L ∧ (∃ f : Bool, Value.bool false = .bool f ∧ (f = true ↔ RightP xs o')) ∧ L' = S := fun L r h1 h2 h3 =>
    ⟨S, h1, ⟨false, rfl, ⟨fun e => (by cases e), fun e => absurd (e.each k r h2) h3⟩⟩, rfl⟩
  unfold zone_Right_l3 zone_Right_b4 zone_Right_b5 zone_Right_b6 zone_Right_b7 zone_Right_b8 zone_Right_b9 zone_Right_b10
  refine bcase_dec (fun h => ?_) (fun h => ?_)
  · obtain ⟨r, hrk⟩ := get_lt (xs := xs) (k := k) (by omega)
    obtain ⟨a', rfl, hc⟩ := hrow.cell hrk
    obtain ⟨c0, c1, c2, c3⟩ := CellsR hc
    have hr := hsm r (List.mem_of_getElem? hrk)
    have hdt := hr.dt
    have hcs := cnt_snoc hrk
    have hcl : cntS (xs.take k) ≤ k := by
      have := List.length_filter_le isSoa (xs.take k)
      rw [List.length_take] at this
      unfold cntS; omega
    have hnext : IntKind.wrap .i64 ((k : Int) + 1) = ((k + 1 : Nat) : Int) := by rw [wrap_i64 (by omega) (by omega)]; rfl
    refine ⟨by omega, by omega, _, c0, _, c1, _, c2, _, c3, fun b7 => StP.rec ?_⟩
    have hT7 : Sub S ((b7, Obj.cells (encR r).toArray 32 (0, 0)) :: T) := hT.skip _
    have hrow7 := hrow.sub ((Sub.refl T).skip (b7, Obj.cells (encR r).toArray 32 (0, 0)))
    refine ⟨_, Cell.at0 rfl, _, Cell.at0 rfl, _, Cell.at0 rfl, _, Cell.at0 rfl, _, MayRecord_runs r (by omega) _ _, ?_⟩
    refine bcase_not (bcase_of (fun hmay => ?_) (fun hmay => bcase_t rfl (bad _ r hT7 hrk (fun e => by rw [e.may] at hmay; cases hmay))))
    refine ⟨_, Cell.at0 rfl, _, Below_runs _ _ _ _, bcase_not (bcase_of (fun hbel => ?_) (fun hbel => bcase_t rfl (bad _ r hT7 hrk (fun e => by rw [e.below] at hbel; cases hbel))))⟩
    -- what is left, once the order is known to rise
    have rest : (0 < k → ∀ x, xs[k - 1]? = some x → cmpR x r < 0) → ∃ x40, Cell J ((b7, Obj.cells (encR r).toArray 32 (0, 0)) :: T) ((⟨b7, 0, none⟩ : Addr).add 1) (.int .u16 x40) ∧ bcase (x40 == (6 : Int))
        (∃ x45, Cell J ((b7, Obj.cells (encR r).toArray 32 (0, 0)) :: T) ⟨b7, 0, none⟩ (.string x45) ∧ bcase (!(x45.toList == o'.toList))
          (∃ L, Sub L ((b7, Obj.cells (encR r).toArray 32 (0, 0)) :: T) ∧ (∃ f : Bool, Value.bool false = .bool f ∧ (f = true ↔ RightP xs o')) ∧ L = S)
          (∃ m', m' < xs.length - k ∧ (some a' = some a' ∧ xs.length = xs.length ∧ o' = o' ∧ some a' = some a' ∧ xs.length = xs.length ∧ (xs.length : Int) = (xs.length : Int) ∧ Sub S ((b7, Obj.cells (encR r).toArray 32 (0, 0)) :: T) ∧ I.le J ∧ ∃ k' : Nat, IntKind.wrap .i64 ((k : Int) + 1) = (k' : Int) ∧ k' ≤ xs.length ∧ m' = xs.length - k' ∧ IntKind.wrap .i64 ((cntS (xs.take k) : Int) + 1) = (cntS (xs.take k') : Int) ∧ (∀ (j : Nat) (r : Rc), j < k' → xs[j]? = some r → OkAt xs o' j r))))
        (∃ m', m' < xs.length - k ∧ (some a' = some a' ∧ xs.length = xs.length ∧ o' = o' ∧ some a' = some a' ∧ xs.length = xs.length ∧ (xs.length : Int) = (xs.length : Int) ∧ Sub S ((b7, Obj.cells (encR r).toArray 32 (0, 0)) :: T) ∧ I.le J ∧ ∃ k' : Nat, IntKind.wrap .i64 ((k : Int) + 1) = (k' : Int) ∧ k' ≤ xs.length ∧ m' = xs.length - k' ∧ (cntS (xs.take k) : Int) = (cntS (xs.take k') : Int) ∧ (∀ (j : Nat) (r : Rc), j < k' → xs[j]? = some r → OkAt xs o' j r))) := by
      intro hup
      have step : (r.2.1 = 6 → r.1 = o') → ∀ (j : Nat) (r : Rc), j < k + 1 → xs[j]? = some r → OkAt xs o' j r := by
        intro hown j r' hj hr'
        rcases Nat.lt_or_ge j k with g | g
        · exact hall j r' g hr'
        · have : j = k := by omega
          subst this
          rw [hrk] at hr'; injection hr' with hr'; subst hr'
          exact ⟨hmay, hbel, hup, hown⟩
      refine ⟨_, Cell.at0 rfl, bcase_beq (fun h6 => ⟨_, Cell.at0 rfl, bcase_of (fun g => bad _ r hT7 hrk (fun e => (strNe.1 g) (e.own h6))) (fun g => ?_)⟩) (fun h6 => ?_)⟩
      · have hso : isSoa r = true := beq_iff_eq.2 h6
        rw [hso] at hcs
        refine ⟨xs.length - (k + 1), by omega, rfl, rfl, rfl, rfl, rfl, rfl, hT7, hle, k + 1, hnext, by omega, rfl, ?_, step (fun _ => strNe'.1 g)⟩
        rw [hcs, wrap_i64 (by omega) (by omega)]; rfl
      · have hso : isSoa r = false := beq_eq_false_iff_ne.2 h6
        rw [hso] at hcs
        exact ⟨xs.length - (k + 1), by omega, rfl, rfl, rfl, rfl, rfl, rfl, hT7, hle, k + 1, hnext, by omega, rfl, by rw [hcs]; rfl, step (fun e => absurd e h6)⟩
    refine bcase_dec (fun hk0 => ?_) (fun hk0 => bcase_f rfl (rest (fun g => by omega)))
    obtain ⟨x, hxk⟩ := get_lt (xs := xs) (k := k - 1) (by omega)
    have hw1 : IntKind.wrap .i64 ((k : Int) - 1) = ((k - 1 : Nat) : Int) := by rw [wrap_i64 (by omega) (by omega)]; omega
    obtain ⟨a2, ha2, hc2⟩ := hrow7.cell hxk
    injection ha2 with ha2
    subst ha2
    obtain ⟨d0, d1, d2, d3⟩ := CellsR hc2
    rw [hw1]
    refine ⟨by omega, by omega, _, d0, _, d1, _, d2, _, d3, _, Cell.at0 rfl, _, Cell.at0 rfl, _, Cell.at0 rfl, _, Cell.at0 rfl, _, Compare_runs x r _ _, ?_⟩
    refine bcase_dec (fun g => bad _ r hT7 hrk (fun e => by have := e.up (by omega) x hxk; omega)) (fun g => rest (fun _ y hy => ?_))
    rw [hxk] at hy; injection hy with hy; subst hy; omega
  · have : k = xs.length := by omega
    subst this
    rw [List.take_length]
    refine bcase_beq (fun h1 => ?_) (fun h1 => ⟨S, hT, ⟨false, rfl, ⟨fun e => (by cases e), fun e => ?_⟩⟩, rfl⟩)
    · refine (Fits_runs hrow (by omega) (by omega)).mono ?_
      rintro v J' T' hle' ⟨rfl, rfl⟩
      refine ⟨_, rfl, S, hT, ⟨_, rfl, ?_⟩, rfl⟩
      rw [decide_eq_true_eq]
      exact ⟨fun e => ⟨fun j r hj => hall j r (lt_get hj) hj, by omega, e.1, e.2⟩, fun e => ⟨e.many, e.size⟩⟩
    · have := e.one; omega
end Go.Proofs.YthlkeokfmedjhaaGreat
