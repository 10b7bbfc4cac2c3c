import Derived.Test.YtdajglfbbcbgpaaProg
import Derived.Test.YtdajglfbbcbgpaaPx6
set_option linter.unusedVariables false
set_option maxRecDepth 8000
namespace Go.Proofs.Ytdajglfbbcbgpaa
open Go.Px
/-! ### bolterlaw08_ZoneAt: function 6, bolter/bolterlaw08.ZoneAt -/
noncomputable def bolterlaw08_ZoneAt_code : Code := (Try.f6.body).getD .skip
def bolterlaw08_ZoneAt_b6 (again3 : Option Addr → Nat → Nat → ByteArray → Option Addr → Nat → Nat → Int → Option Addr → Nat → Nat → Int → Int → IMem → SH → Prop) (R : Value → IMem → SH → Prop) (z_5 : Option Addr) (z_5n : Nat) (z_5c : Nat) (n_6 : ByteArray) (want_7 : Option Addr) (want_7n : Nat) (want_7c : Nat) (size_8 : Int) (x20 : Option Addr) (x20n : Nat) (x20c : Nat) (x21 : Int) (x22 : Int) (I : IMem) (S : SH) : Prop :=
  again3 z_5 z_5n z_5c n_6 want_7 want_7n want_7c size_8 x20 x20n x20c x21 (IntKind.wrap .i64 (x22 + (1 : Int))) I S
def bolterlaw08_ZoneAt_b5 (again3 : Option Addr → Nat → Nat → ByteArray → Option Addr → Nat → Nat → Int → Option Addr → Nat → Nat → Int → Int → IMem → SH → Prop) (R : Value → IMem → SH → Prop) (z_5 : Option Addr) (z_5n : Nat) (z_5c : Nat) (n_6 : ByteArray) (want_7 : Option Addr) (want_7n : Nat) (want_7c : Nat) (size_8 : Int) (r_10 : Addr) (x20 : Option Addr) (x20n : Nat) (x20c : Nat) (x21 : Int) (x22 : Int) (I : IMem) (S : SH) : Prop :=
  ∃ x36, Cell I S r_10 (.string x36) ∧
  ∃ x40, Cell I S (r_10.add 3) (.string x40) ∧
  bolterlaw08_ZoneAt_b6 again3 R z_5 z_5n z_5c n_6 want_7 want_7n want_7c (IntKind.wrap .i64 (size_8 + (IntKind.wrap .i64 ((IntKind.wrap .i64 ((10 : Int) + (x36.size : Int))) + (x40.size : Int))))) x20 x20n x20c x21 x22 I S
def bolterlaw08_ZoneAt_b4 (again3 : Option Addr → Nat → Nat → ByteArray → Option Addr → Nat → Nat → Int → Option Addr → Nat → Nat → Int → Int → IMem → SH → Prop) (R : Value → IMem → SH → Prop) (z_5 : Option Addr) (z_5n : Nat) (z_5c : Nat) (n_6 : ByteArray) (want_7 : Option Addr) (want_7n : Nat) (want_7c : Nat) (size_8 : Int) (x20 : Option Addr) (x20n : Nat) (x20c : Nat) (x21 : Int) (x22 : Int) (I : IMem) (S : SH) : Prop :=
  ptrP x20 fun x24 => (0 : Int) ≤ x22 ∧ x22 < (x20n : Int) ∧
  ∃ x25_0, Cell I S (x24.add (x22.toNat * 4)) (.string x25_0) ∧
  ∃ x25_1, Cell I S ((x24.add (x22.toNat * 4)).add 1) (.int .u16 x25_1) ∧
  ∃ x25_2, Cell I S ((x24.add (x22.toNat * 4)).add 2) (.int .u32 x25_2) ∧
  ∃ x25_3, Cell I S ((x24.add (x22.toNat * 4)).add 3) (.string x25_3) ∧
  ∀ b10 : Nat,
  StP ((b10, .cells #[.string ⟨#[]⟩, .int .u16 0, .int .u32 0, .string ⟨#[]⟩] 27 (0, 0)) :: S) ⟨b10, 0, none⟩ [.string x25_0, .int .u16 x25_1, .int .u32 x25_2, .string x25_3] fun S1 =>
  ∃ x27, Cell I S1 ⟨b10, 0, none⟩ (.string x27) ∧
  bcase (x27.toList == n_6.toList)
    (∃ x31_0, Cell I S1 ⟨b10, 0, none⟩ (.string x31_0) ∧
    ∃ x31_1, Cell I S1 ⟨b10, 1, none⟩ (.int .u16 x31_1) ∧
    ∃ x31_2, Cell I S1 ⟨b10, 2, none⟩ (.int .u32 x31_2) ∧
    ∃ x31_3, Cell I S1 ⟨b10, 3, none⟩ (.string x31_3) ∧
    ∀ b32 : Nat,
    AppG 27 4 40 [.string ⟨#[]⟩, .int .u16 0, .int .u32 0, .string ⟨#[]⟩] (some (.slice 27)) I ((b32, .cells #[.string x31_0, .int .u16 x31_1, .int .u32 x31_2, .string x31_3] 27 (0, 0)) :: S1) (.slice want_7 want_7n want_7c) (.slice (some ⟨b32, 0, none⟩) 1 1) fun x33 x33n x33c S1' =>
    bolterlaw08_ZoneAt_b5 again3 R z_5 z_5n z_5c n_6 x33 x33n x33c size_8 ⟨b10, 0, none⟩ x20 x20n x20c x21 x22 I S1')
    (bolterlaw08_ZoneAt_b5 again3 R z_5 z_5n z_5c n_6 want_7 want_7n want_7c size_8 ⟨b10, 0, none⟩ x20 x20n x20c x21 x22 I S1)
def bolterlaw08_ZoneAt_b8 (R : Value → IMem → SH → Prop) (x4 : Bool) (I : IMem) (S : SH) : Prop :=
  R (.bool x4) I S
def bolterlaw08_ZoneAt_b7 (R : Value → IMem → SH → Prop) (z_5 : Option Addr) (z_5n : Nat) (z_5c : Nat) (n_6 : ByteArray) (want_7 : Option Addr) (want_7n : Nat) (want_7c : Nat) (size_8 : Int) (I : IMem) (S : SH) : Prop :=
  Runs Try.prog 18 #[.slice z_5 z_5n z_5c, .string n_6] I S fun v I1 S1 => ∃ x47 x47n x47c, v = .slice x47 x47n x47c ∧
  Runs Try.prog 17 #[.slice x47 x47n x47c, .slice want_7 want_7n want_7c] I1 S1 fun v' I1' S1' => ∃ x49, v' = .bool x49 ∧
  bcase x49
    (Runs Try.prog 11 #[.slice z_5 z_5n z_5c] I1' S1' fun v'' I1'' S1'' => ∃ x52, v'' = .int .i64 x52 ∧
    bolterlaw08_ZoneAt_b8 R (x52 == size_8) I1'' S1'')
    (bolterlaw08_ZoneAt_b8 R false I1' S1')
def bolterlaw08_ZoneAt_l3 (again3 : Option Addr → Nat → Nat → ByteArray → Option Addr → Nat → Nat → Int → Option Addr → Nat → Nat → Int → Int → IMem → SH → Prop) (R : Value → IMem → SH → Prop) (z_5 : Option Addr) (z_5n : Nat) (z_5c : Nat) (n_6 : ByteArray) (want_7 : Option Addr) (want_7n : Nat) (want_7c : Nat) (size_8 : Int) (x20 : Option Addr) (x20n : Nat) (x20c : Nat) (x21 : Int) (x22 : Int) (I : IMem) (S : SH) : Prop :=
  bcase (decide (x22 < x21))
    (bolterlaw08_ZoneAt_b4 again3 R z_5 z_5n z_5c n_6 want_7 want_7n want_7c size_8 x20 x20n x20c x21 x22 I S)
    (bolterlaw08_ZoneAt_b7 R z_5 z_5n z_5c n_6 want_7 want_7n want_7c size_8 I S)
def bolterlaw08_ZoneAt_b2 (R : Value → IMem → SH → Prop) (z_5 : Option Addr) (z_5n : Nat) (z_5c : Nat) (n_6 : ByteArray) (want_7 : Option Addr) (want_7n : Nat) (want_7c : Nat) (size_8 : Int) (x20 : Option Addr) (x20n : Nat) (x20c : Nat) (x21 : Int) (x22 : Int) (I : IMem) (S : SH) : Prop :=
  ∃ (Inv : Nat → Option Addr → Nat → Nat → ByteArray → Option Addr → Nat → Nat → Int → Option Addr → Nat → Nat → Int → Int → IMem → SH → Prop) (m : Nat), Inv m z_5 z_5n z_5c n_6 want_7 want_7n want_7c size_8 x20 x20n x20c x21 x22 I S ∧
    ∀ (m : Nat) (z_5 : Option Addr) (z_5n : Nat) (z_5c : Nat) (n_6 : ByteArray) (want_7 : Option Addr) (want_7n : Nat) (want_7c : Nat) (size_8 : Int) (x20 : Option Addr) (x20n : Nat) (x20c : Nat) (x21 : Int) (x22 : Int) (J : IMem) (T : SH), I.le J → Inv m z_5 z_5n z_5c n_6 want_7 want_7n want_7c size_8 x20 x20n x20c x21 x22 J T →
      bolterlaw08_ZoneAt_l3 (fun z_5 z_5n z_5c n_6 want_7 want_7n want_7c size_8 x20 x20n x20c x21 x22 I S => ∃ m', m' < m ∧ Inv m' z_5 z_5n z_5c n_6 want_7 want_7n want_7c size_8 x20 x20n x20c x21 x22 I S) R z_5 z_5n z_5c n_6 want_7 want_7n want_7c size_8 x20 x20n x20c x21 x22 J T
def bolterlaw08_ZoneAt_b1 (R : Value → IMem → SH → Prop) (z_5 : Option Addr) (z_5n : Nat) (z_5c : Nat) (n_6 : ByteArray) (want_7 : Option Addr) (want_7n : Nat) (want_7c : Nat) (size_8 : Int) (I : IMem) (S : SH) : Prop :=
  bolterlaw08_ZoneAt_b2 R z_5 z_5n z_5c n_6 want_7 want_7n want_7c size_8 z_5 z_5n z_5c (z_5n : Int) 0 I S
def bolterlaw08_ZoneAt (R : Value → IMem → SH → Prop) (as_0 : Option Addr) (as_0n : Nat) (as_0c : Nat) (ns_1 : Option Addr) (ns_1n : Nat) (ns_1c : Nat) (I : IMem) (S : SH) : Prop :=
  Runs Try.prog 8 #[] I S fun v I1 S1 => ∃ x11, v = .bool x11 ∧
  bcase (!x11)
    (R (.bool false) I1 S1)
    (Runs Try.prog 13 #[.slice as_0 as_0n as_0c, .int .i64 40] I1 S1 fun v' I1' S1' => ∃ x14 x14n x14c, v' = .slice x14 x14n x14c ∧
    Runs Try.prog 15 #[.slice x14 x14n x14c] I1' S1' fun v'' I1'' S1'' => ∃ x15 x15n x15c, v'' = .slice x15 x15n x15c ∧
    Runs Try.prog 16 #[.agg #[.slice ns_1 ns_1n ns_1c, .int .u8 0, .int .u32 0, .slice none 0 0, .string ⟨#[]⟩]] I1'' S1'' fun v_r3 I1_r3 S1_r3 => ∃ x18_0 x18_1 x18_2 x18_3, v_r3 = .agg #[.string x18_0, .int .u16 x18_1, .int .u32 x18_2, .string x18_3] ∧
    bolterlaw08_ZoneAt_b1 R x15 x15n x15c x18_0 none 0 0 0 I1_r3 S1_r3)
theorem bolterlaw08_ZoneAt_fn (R : Value → IMem → SH → Prop) (as_0 : Option Addr) (as_0n : Nat) (as_0c : Nat) (ns_1 : Option Addr) (ns_1n : Nat) (ns_1c : Nat) (I : IMem) (S : SH) (h : bolterlaw08_ZoneAt R as_0 as_0n as_0c ns_1 ns_1n ns_1c I S) :
    Runs Try.prog 6 #[.slice as_0 as_0n as_0c, .slice ns_1 ns_1n ns_1c] I S R := by
  refine Runs.of_wp (args := [.slice as_0 as_0n as_0c, .slice ns_1 ns_1n ns_1c]) (c := bolterlaw08_ZoneAt_code) Try.func6 (by kernel_rfl) (by kernel_rfl) ?_
  refine WP.cut 6 (fun l I S => asSl (l 5) fun z_5 z_5n z_5c => asStr (l 6) fun n_6 => asSl (l 7) fun want_7 want_7n want_7c => asI .i64 (l 8) fun size_8 => bolterlaw08_ZoneAt_b1 R z_5 z_5n z_5c n_6 want_7 want_7n want_7c size_8 I S) (cast (by kernel_rfl) h) ?_
  clear h
  intro l I S _ h
  obtain ⟨z_5, z_5n, z_5c, e5, h⟩ := asSl_e h
  obtain ⟨n_6, e6, h⟩ := asStr_e h
  obtain ⟨want_7, want_7n, want_7c, e7, h⟩ := asSl_e h
  obtain ⟨size_8, e8, h⟩ := asI_e h
  rw [upd_eta e5, upd_eta e6, upd_eta e7, upd_eta e8]
  refine WP.seqY (by kernel_rfl) (fun l I S => asSl (l 5) fun z_5 z_5n z_5c => asStr (l 6) fun n_6 => asSl (l 7) fun want_7 want_7n want_7c => asI .i64 (l 8) fun size_8 => bolterlaw08_ZoneAt_b7 R z_5 z_5n z_5c n_6 want_7 want_7n want_7c size_8 I S) ?_ ?_
  ·
    refine WP.cut 1 (fun l I S => asSl (l 5) fun z_5 z_5n z_5c => asStr (l 6) fun n_6 => asSl (l 7) fun want_7 want_7n want_7c => asI .i64 (l 8) fun size_8 => asSl (l 20) fun x20 x20n x20c => asI .i64 (l 21) fun x21 => asI .i64 (l 22) fun x22 => bolterlaw08_ZoneAt_b2 R z_5 z_5n z_5c n_6 want_7 want_7n want_7c size_8 x20 x20n x20c x21 x22 I S) (cast (by kernel_rfl) h) ?_
    clear h
    intro l I S _ h
    obtain ⟨z_5, z_5n, z_5c, e5, h⟩ := asSl_e h
    obtain ⟨n_6, e6, h⟩ := asStr_e h
    obtain ⟨want_7, want_7n, want_7c, e7, h⟩ := asSl_e h
    obtain ⟨size_8, e8, h⟩ := asI_e h
    obtain ⟨x20, x20n, x20c, e20, h⟩ := asSl_e h
    obtain ⟨x21, e21, h⟩ := asI_e h
    obtain ⟨x22, e22, h⟩ := asI_e h
    rw [upd_eta e5, upd_eta e6, upd_eta e7, upd_eta e8, upd_eta e20, upd_eta e21, upd_eta e22]
    refine WP.block' (by kernel_rfl) ?_
    obtain ⟨Inv_again3, m_again3, h0, hr⟩ := h
    refine WP.loop' (by kernel_rfl) (fun m_again3 => fun l I S => asSl (l 5) fun z_5 z_5n z_5c => asStr (l 6) fun n_6 => asSl (l 7) fun want_7 want_7n want_7c => asI .i64 (l 8) fun size_8 => asSl (l 20) fun x20 x20n x20c => asI .i64 (l 21) fun x21 => asI .i64 (l 22) fun x22 => Inv_again3 m_again3 z_5 z_5n z_5c n_6 want_7 want_7n want_7c size_8 x20 x20n x20c x21 x22 I S) m_again3 (cast (by kernel_rfl) h0) ?_
    clear h0
    intro m_again3 l I S hle h
    obtain ⟨z_5, z_5n, z_5c, e5, h⟩ := asSl_e h
    obtain ⟨n_6, e6, h⟩ := asStr_e h
    obtain ⟨want_7, want_7n, want_7c, e7, h⟩ := asSl_e h
    obtain ⟨size_8, e8, h⟩ := asI_e h
    obtain ⟨x20, x20n, x20c, e20, h⟩ := asSl_e h
    obtain ⟨x21, e21, h⟩ := asI_e h
    obtain ⟨x22, e22, h⟩ := asI_e h
    rw [upd_eta e5, upd_eta e6, upd_eta e7, upd_eta e8, upd_eta e20, upd_eta e21, upd_eta e22]
    have h := hr m_again3 z_5 z_5n z_5c n_6 want_7 want_7n want_7c size_8 x20 x20n x20c x21 x22 I S hle h
    clear hr hle
    refine WP.cut 2 (fun l I S => asSl (l 5) fun z_5 z_5n z_5c => asStr (l 6) fun n_6 => asSl (l 7) fun want_7 want_7n want_7c => asI .i64 (l 8) fun size_8 => asSl (l 20) fun x20 x20n x20c => asI .i64 (l 21) fun x21 => asI .i64 (l 22) fun x22 => bolterlaw08_ZoneAt_b4 (fun z_5 z_5n z_5c n_6 want_7 want_7n want_7c size_8 x20 x20n x20c x21 x22 I S => ∃ m', m' < m_again3 ∧ Inv_again3 m' z_5 z_5n z_5c n_6 want_7 want_7n want_7c size_8 x20 x20n x20c x21 x22 I S) R z_5 z_5n z_5c n_6 want_7 want_7n want_7c size_8 x20 x20n x20c x21 x22 I S) (cast (by kernel_rfl) h) ?_
    clear h
    intro l I S _ h
    obtain ⟨z_5, z_5n, z_5c, e5, h⟩ := asSl_e h
    obtain ⟨n_6, e6, h⟩ := asStr_e h
    obtain ⟨want_7, want_7n, want_7c, e7, h⟩ := asSl_e h
    obtain ⟨size_8, e8, h⟩ := asI_e h
    obtain ⟨x20, x20n, x20c, e20, h⟩ := asSl_e h
    obtain ⟨x21, e21, h⟩ := asI_e h
    obtain ⟨x22, e22, h⟩ := asI_e h
    rw [upd_eta e5, upd_eta e6, upd_eta e7, upd_eta e8, upd_eta e20, upd_eta e21, upd_eta e22]
    refine WP.seqY (by kernel_rfl) (fun l I S => asSl (l 5) fun z_5 z_5n z_5c => asStr (l 6) fun n_6 => asSl (l 7) fun want_7 want_7n want_7c => asI .i64 (l 8) fun size_8 => asSl (l 20) fun x20 x20n x20c => asI .i64 (l 21) fun x21 => asI .i64 (l 22) fun x22 => bolterlaw08_ZoneAt_b6 (fun z_5 z_5n z_5c n_6 want_7 want_7n want_7c size_8 x20 x20n x20c x21 x22 I S => ∃ m', m' < m_again3 ∧ Inv_again3 m' z_5 z_5n z_5c n_6 want_7 want_7n want_7c size_8 x20 x20n x20c x21 x22 I S) R z_5 z_5n z_5c n_6 want_7 want_7n want_7c size_8 x20 x20n x20c x21 x22 I S) ?_ ?_
    ·
      refine WP.block' (by kernel_rfl) ?_
      refine WP.cut 2 (fun l I S => asSl (l 5) fun z_5 z_5n z_5c => asStr (l 6) fun n_6 => asSl (l 7) fun want_7 want_7n want_7c => asI .i64 (l 8) fun size_8 => asAdr (l 10) fun r_10 => asSl (l 20) fun x20 x20n x20c => asI .i64 (l 21) fun x21 => asI .i64 (l 22) fun x22 => bolterlaw08_ZoneAt_b5 (fun z_5 z_5n z_5c n_6 want_7 want_7n want_7c size_8 x20 x20n x20c x21 x22 I S => ∃ m', m' < m_again3 ∧ Inv_again3 m' z_5 z_5n z_5c n_6 want_7 want_7n want_7c size_8 x20 x20n x20c x21 x22 I S) R z_5 z_5n z_5c n_6 want_7 want_7n want_7c size_8 r_10 x20 x20n x20c x21 x22 I S) (cast (by kernel_rfl) h) ?_
      clear h
      intro l I S _ h
      obtain ⟨z_5, z_5n, z_5c, e5, h⟩ := asSl_e h
      obtain ⟨n_6, e6, h⟩ := asStr_e h
      obtain ⟨want_7, want_7n, want_7c, e7, h⟩ := asSl_e h
      obtain ⟨size_8, e8, h⟩ := asI_e h
      obtain ⟨r_10, e10, h⟩ := asAdr_e h
      obtain ⟨x20, x20n, x20c, e20, h⟩ := asSl_e h
      obtain ⟨x21, e21, h⟩ := asI_e h
      obtain ⟨x22, e22, h⟩ := asI_e h
      rw [upd_eta e5, upd_eta e6, upd_eta e7, upd_eta e8, upd_eta e10, upd_eta e20, upd_eta e21, upd_eta e22]
      exact Pre.sound _ _ _ _ _ (cast (by kernel_rfl) h)
    · clear h
      intro l I S _ h
      obtain ⟨z_5, z_5n, z_5c, e5, h⟩ := asSl_e h
      obtain ⟨n_6, e6, h⟩ := asStr_e h
      obtain ⟨want_7, want_7n, want_7c, e7, h⟩ := asSl_e h
      obtain ⟨size_8, e8, h⟩ := asI_e h
      obtain ⟨x20, x20n, x20c, e20, h⟩ := asSl_e h
      obtain ⟨x21, e21, h⟩ := asI_e h
      obtain ⟨x22, e22, h⟩ := asI_e h
      rw [upd_eta e5, upd_eta e6, upd_eta e7, upd_eta e8, upd_eta e20, upd_eta e21, upd_eta e22]
      exact Pre.sound _ _ _ _ _ (cast (by kernel_rfl) h)
  · clear h
    intro l I S _ h
    obtain ⟨z_5, z_5n, z_5c, e5, h⟩ := asSl_e h
    obtain ⟨n_6, e6, h⟩ := asStr_e h
    obtain ⟨want_7, want_7n, want_7c, e7, h⟩ := asSl_e h
    obtain ⟨size_8, e8, h⟩ := asI_e h
    rw [upd_eta e5, upd_eta e6, upd_eta e7, upd_eta e8]
    refine WP.cut 1 (fun l I S => asB (l 4) fun x4 => bolterlaw08_ZoneAt_b8 R x4 I S) (cast (by kernel_rfl) h) ?_
    clear h
    intro l I S _ h
    obtain ⟨x4, e4, h⟩ := asB_e h
    rw [upd_eta e4]
    exact Pre.sound _ _ _ _ _ (cast (by kernel_rfl) h)
/-! ### bolterlaw08_ZoneRight: function 7, bolter/bolterlaw08.ZoneRight -/
noncomputable def bolterlaw08_ZoneRight_code : Code := (Try.f7.body).getD .skip
def bolterlaw08_ZoneRight_b1 (R : Value → IMem → SH → Prop) (ns_1 : Option Addr) (ns_1n : Nat) (ns_1c : Nat) (z_7 : Option Addr) (z_7n : Nat) (z_7c : Nat) (I : IMem) (S : SH) : Prop :=
  Runs Try.prog 16 #[.agg #[.slice ns_1 ns_1n ns_1c, .int .u8 0, .int .u32 0, .slice none 0 0, .string ⟨#[]⟩]] I S fun v I1 S1 => ∃ x18_0 x18_1 x18_2 x18_3, v = .agg #[.string x18_0, .int .u16 x18_1, .int .u32 x18_2, .string x18_3] ∧
  Runs Try.prog 19 #[.slice z_7 z_7n z_7c, .string x18_0] I1 S1 fun v' I1' S1' => ∃ x22, v' = .bool x22 ∧
  Runs Try.prog 20 #[.slice z_7 z_7n z_7c, .string x18_0] I1' S1' fun v'' I1'' S1'' => ∃ x25, v'' = .bool x25 ∧
  R (.bool (x22 == x25)) I1'' S1''
def bolterlaw08_ZoneRight (R : Value → IMem → SH → Prop) (as_0 : Option Addr) (as_0n : Nat) (as_0c : Nat) (ns_1 : Option Addr) (ns_1n : Nat) (ns_1c : Nat) (sorted_2 : Bool) (I : IMem) (S : SH) : Prop :=
  Runs Try.prog 8 #[] I S fun v I1 S1 => ∃ x9, v = .bool x9 ∧
  bcase (!x9)
    (R (.bool false) I1 S1)
    (Runs Try.prog 13 #[.slice as_0 as_0n as_0c, .int .i64 40] I1 S1 fun v' I1' S1' => ∃ x12 x12n x12c, v' = .slice x12 x12n x12c ∧
    bcase sorted_2
      (Runs Try.prog 15 #[.slice x12 x12n x12c] I1' S1' fun v'' I1'' S1'' => ∃ x15 x15n x15c, v'' = .slice x15 x15n x15c ∧
      bolterlaw08_ZoneRight_b1 R ns_1 ns_1n ns_1c x15 x15n x15c I1'' S1'')
      (bolterlaw08_ZoneRight_b1 R ns_1 ns_1n ns_1c x12 x12n x12c I1' S1'))
theorem bolterlaw08_ZoneRight_fn (R : Value → IMem → SH → Prop) (as_0 : Option Addr) (as_0n : Nat) (as_0c : Nat) (ns_1 : Option Addr) (ns_1n : Nat) (ns_1c : Nat) (sorted_2 : Bool) (I : IMem) (S : SH) (h : bolterlaw08_ZoneRight R as_0 as_0n as_0c ns_1 ns_1n ns_1c sorted_2 I S) :
    Runs Try.prog 7 #[.slice as_0 as_0n as_0c, .slice ns_1 ns_1n ns_1c, .bool sorted_2] I S R := by
  refine Runs.of_wp (args := [.slice as_0 as_0n as_0c, .slice ns_1 ns_1n ns_1c, .bool sorted_2]) (c := bolterlaw08_ZoneRight_code) Try.func7 (by kernel_rfl) (by kernel_rfl) ?_
  refine WP.cut 4 (fun l I S => asSl (l 1) fun ns_1 ns_1n ns_1c => asSl (l 7) fun z_7 z_7n z_7c => bolterlaw08_ZoneRight_b1 R ns_1 ns_1n ns_1c z_7 z_7n z_7c I S) (cast (by kernel_rfl) h) ?_
  clear h
  intro l I S _ h
  obtain ⟨ns_1, ns_1n, ns_1c, e1, h⟩ := asSl_e h
  obtain ⟨z_7, z_7n, z_7c, e7, h⟩ := asSl_e h
  rw [upd_eta e1, upd_eta e7]
  exact Pre.sound _ _ _ _ _ (cast (by kernel_rfl) h)
end Go.Proofs.Ytdajglfbbcbgpaa
