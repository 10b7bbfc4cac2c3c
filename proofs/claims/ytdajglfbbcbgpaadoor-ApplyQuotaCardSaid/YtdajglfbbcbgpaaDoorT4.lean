import Derived.Test.YtdajglfbbcbgpaaDoorProg
import Derived.Test.YtdajglfbbcbgpaaDoorPx6
set_option linter.unusedVariables false
set_option maxRecDepth 8000
set_option maxHeartbeats 2000000
namespace Go.Proofs.YtdajglfbbcbgpaaDoor
open Go.Px
/-! ### bolterlaw10_ApplyQuota: function 8, bolter/bolterlaw10.ApplyQuota -/
noncomputable def bolterlaw10_ApplyQuota_code : Code := (Tryd.f8.body).getD .skip
def bolterlaw10_ApplyQuota_b7 (R : Value → IMem → SH → Prop) (x4 : Bool) (I : IMem) (S : SH) : Prop :=
  R (.bool x4) I S
def bolterlaw10_ApplyQuota_b9 (R : Value → IMem → SH → Prop) (x4 : Bool) (I : IMem) (S : SH) : Prop :=
  R (.bool x4) I S
def bolterlaw10_ApplyQuota_b8 (R : Value → IMem → SH → Prop) (rs_7 : Option Addr) (rs_7n : Nat) (rs_7c : Nat) (z_9 : Option Addr) (z_9n : Nat) (z_9c : Nat) (e_10 : Value) (I : IMem) (S : SH) : Prop :=
  ∃ nl, isNilI e_10 = some nl ∧
  bcase nl
    (bolterlaw10_ApplyQuota_b9 R ((z_9n : Int) == (rs_7n : Int)) I S)
    (bolterlaw10_ApplyQuota_b9 R false I S)
def bolterlaw10_ApplyQuota_b6 (R : Value → IMem → SH → Prop) (rs_7 : Option Addr) (rs_7n : Nat) (rs_7c : Nat) (z_9 : Option Addr) (z_9n : Nat) (z_9c : Nat) (e_10 : Value) (x48 : Bool) (I : IMem) (S : SH) : Prop :=
  bcase x48
    (bcase ((z_9n : Int) == (0 : Int))
      (Runs Tryd.prog 15 #[e_10] I S fun v I1 S1 => ∃ x54, v = .int .i64 x54 ∧
      bolterlaw10_ApplyQuota_b7 R (x54 == (8 : Int)) I1 S1)
      (bolterlaw10_ApplyQuota_b7 R false I S))
    (bolterlaw10_ApplyQuota_b8 R rs_7 rs_7n rs_7c z_9 z_9n z_9c e_10 I S)
def bolterlaw10_ApplyQuota_b5 (R : Value → IMem → SH → Prop) (rs_7 : Option Addr) (rs_7n : Nat) (rs_7c : Nat) (z_9 : Option Addr) (z_9n : Nat) (z_9c : Nat) (e_10 : Value) (I : IMem) (S : SH) : Prop :=
  bcase (decide ((rs_7n : Int) > (256 : Int)))
    (bolterlaw10_ApplyQuota_b6 R rs_7 rs_7n rs_7c z_9 z_9n z_9c e_10 true I S)
    (Runs Tryd.prog 11 #[.slice rs_7 rs_7n rs_7c] I S fun v I1 S1 => ∃ x45 x45n x45c, v = .slice x45 x45n x45c ∧
    Runs Tryd.prog 29 #[.slice x45 x45n x45c] I1 S1 fun v' I1' S1' => ∃ x46, v' = .int .i64 x46 ∧
    bolterlaw10_ApplyQuota_b6 R rs_7 rs_7n rs_7c z_9 z_9n z_9c e_10 (decide (x46 > (16384 : Int))) I1' S1')
def bolterlaw10_ApplyQuota_b4 (R : Value → IMem → SH → Prop) (rs_7 : Option Addr) (rs_7n : Nat) (rs_7c : Nat) (I : IMem) (S : SH) : Prop :=
  Runs Tryd.prog 28 #[.string ⟨#[]⟩, .slice rs_7 rs_7n rs_7c] I S fun v I1 S1 => ∃ x37_0 x37_0n x37_0c x37_1, v = .tuple #[.slice x37_0 x37_0n x37_0c, x37_1] ∧
  bolterlaw10_ApplyQuota_b5 R rs_7 rs_7n rs_7c x37_0 x37_0n x37_0c x37_1 I1 S1
def bolterlaw10_ApplyQuota_l3 (again3 : Int → Int → Option Addr → Nat → Nat → Int → IMem → SH → Prop) (R : Value → IMem → SH → Prop) (k_5 : Int) (d_6 : Int) (rs_7 : Option Addr) (rs_7n : Nat) (rs_7c : Nat) (i_8 : Int) (I : IMem) (S : SH) : Prop :=
  bcase (decide (i_8 < k_5))
    ((0 : Int) ≤ d_6 ∧ d_6 ≤ d_6 ∧ d_6 ≤ 9223372036854775807 ∧ (1 : Int) * d_6 ≤ 281474976710656 ∧ ∀ b30 : Nat,
    ∃ x31 : ByteArray, BytesAt I ((b30, .cells (repV d_6.toNat [.int .u8 0]).toArray 5 (0, 0)) :: S) (some ⟨b30, 0, none⟩) d_6.toNat x31 ∧
    ∀ b33 : Nat,
    AppG 36 4 40 [.string ⟨#[]⟩, .int .u16 0, .int .u32 0, .string ⟨#[]⟩] (some (.slice 36)) I ((b33, .cells #[.string ⟨#[]⟩, .int .u16 99, .int .u32 (IntKind.wrap .u32 i_8), .string x31] 36 (0, 0)) :: ((b30, .cells (repV d_6.toNat [.int .u8 0]).toArray 5 (0, 0)) :: S)) (.slice rs_7 rs_7n rs_7c) (.slice (some ⟨b33, 0, none⟩) 1 1) fun x34 x34n x34c S1 =>
    again3 k_5 d_6 x34 x34n x34c (IntKind.wrap .i64 (i_8 + (1 : Int))) I S1)
    (bolterlaw10_ApplyQuota_b4 R rs_7 rs_7n rs_7c I S)
def bolterlaw10_ApplyQuota_b2 (R : Value → IMem → SH → Prop) (k_5 : Int) (d_6 : Int) (rs_7 : Option Addr) (rs_7n : Nat) (rs_7c : Nat) (i_8 : Int) (I : IMem) (S : SH) : Prop :=
  ∃ (Inv : Nat → Int → Int → Option Addr → Nat → Nat → Int → IMem → SH → Prop) (m : Nat), Inv m k_5 d_6 rs_7 rs_7n rs_7c i_8 I S ∧
    ∀ (m : Nat) (k_5 : Int) (d_6 : Int) (rs_7 : Option Addr) (rs_7n : Nat) (rs_7c : Nat) (i_8 : Int) (J : IMem) (T : SH), I.le J → Inv m k_5 d_6 rs_7 rs_7n rs_7c i_8 J T →
      bolterlaw10_ApplyQuota_l3 (fun k_5 d_6 rs_7 rs_7n rs_7c i_8 I S => ∃ m', m' < m ∧ Inv m' k_5 d_6 rs_7 rs_7n rs_7c i_8 I S) R k_5 d_6 rs_7 rs_7n rs_7c i_8 J T
def bolterlaw10_ApplyQuota_b1 (R : Value → IMem → SH → Prop) (k_5 : Int) (d_6 : Int) (rs_7 : Option Addr) (rs_7n : Nat) (rs_7c : Nat) (I : IMem) (S : SH) : Prop :=
  bolterlaw10_ApplyQuota_b2 R k_5 d_6 rs_7 rs_7n rs_7c 0 I S
def bolterlaw10_ApplyQuota (R : Value → IMem → SH → Prop) (n_0 : Int) (size_1 : Int) (I : IMem) (S : SH) : Prop :=
  Runs Tryd.prog 18 #[] I S fun v I1 S1 => ∃ x11, v = .bool x11 ∧
  bcase (!x11)
    (R (.bool false) I1 S1)
    (Runs Tryd.prog 21 #[.string ⟨#[]⟩, .int .u32 1] I1 S1 fun v' I1' S1' => ∃ x19_0 x19_1 x19_2 x19_3, v' = .agg #[.string x19_0, .int .u16 x19_1, .int .u32 x19_2, .string x19_3] ∧
    ∀ b20 : Nat,
    bolterlaw10_ApplyQuota_b1 R (IntKind.wrap .i64 (n_0.tmod (300 : Int))) (IntKind.wrap .i64 ((1 : Int) + (IntKind.wrap .i64 size_1))) (some ⟨b20, 0, none⟩) 1 1 I1' ((b20, .cells #[.string x19_0, .int .u16 x19_1, .int .u32 x19_2, .string x19_3] 36 (0, 0)) :: S1'))
theorem bolterlaw10_ApplyQuota_fn (R : Value → IMem → SH → Prop) (n_0 : Int) (size_1 : Int) (I : IMem) (S : SH) (h : bolterlaw10_ApplyQuota R n_0 size_1 I S) :
    Runs Tryd.prog 8 #[.int .u16 n_0, .int .u8 size_1] I S R := by
  refine Runs.of_wp (args := [.int .u16 n_0, .int .u8 size_1]) (c := bolterlaw10_ApplyQuota_code) Tryd.func8 (by kernel_rfl) (by kernel_rfl) ?_
  refine WP.cut 4 (fun l I S => asI .i64 (l 5) fun k_5 => asI .i64 (l 6) fun d_6 => asSl (l 7) fun rs_7 rs_7n rs_7c => bolterlaw10_ApplyQuota_b1 R k_5 d_6 rs_7 rs_7n rs_7c I S) (cast (by kernel_rfl) h) ?_
  clear h
  intro l I S _ h
  obtain ⟨k_5, e5, h⟩ := asI_e h
  obtain ⟨d_6, e6, h⟩ := asI_e h
  obtain ⟨rs_7, rs_7n, rs_7c, e7, h⟩ := asSl_e h
  rw [upd_eta e5, upd_eta e6, upd_eta e7]
  refine WP.seqY (by kernel_rfl) (fun l I S => asSl (l 7) fun rs_7 rs_7n rs_7c => bolterlaw10_ApplyQuota_b4 R rs_7 rs_7n rs_7c I S) ?_ ?_
  ·
    refine WP.cut 1 (fun l I S => asI .i64 (l 5) fun k_5 => asI .i64 (l 6) fun d_6 => asSl (l 7) fun rs_7 rs_7n rs_7c => asI .i64 (l 8) fun i_8 => bolterlaw10_ApplyQuota_b2 R k_5 d_6 rs_7 rs_7n rs_7c i_8 I S) (cast (by kernel_rfl) h) ?_
    clear h
    intro l I S _ h
    obtain ⟨k_5, e5, h⟩ := asI_e h
    obtain ⟨d_6, e6, h⟩ := asI_e h
    obtain ⟨rs_7, rs_7n, rs_7c, e7, h⟩ := asSl_e h
    obtain ⟨i_8, e8, h⟩ := asI_e h
    rw [upd_eta e5, upd_eta e6, upd_eta e7, upd_eta e8]
    refine WP.block' (by kernel_rfl) ?_
    obtain ⟨Inv_again3, m_again3, h0, hr⟩ := h
    refine WP.loop' (by kernel_rfl) (fun m_again3 => fun l I S => asI .i64 (l 5) fun k_5 => asI .i64 (l 6) fun d_6 => asSl (l 7) fun rs_7 rs_7n rs_7c => asI .i64 (l 8) fun i_8 => Inv_again3 m_again3 k_5 d_6 rs_7 rs_7n rs_7c i_8 I S) m_again3 (cast (by kernel_rfl) h0) ?_
    clear h0
    intro m_again3 l I S hle h
    obtain ⟨k_5, e5, h⟩ := asI_e h
    obtain ⟨d_6, e6, h⟩ := asI_e h
    obtain ⟨rs_7, rs_7n, rs_7c, e7, h⟩ := asSl_e h
    obtain ⟨i_8, e8, h⟩ := asI_e h
    rw [upd_eta e5, upd_eta e6, upd_eta e7, upd_eta e8]
    have h := hr m_again3 k_5 d_6 rs_7 rs_7n rs_7c i_8 I S hle h
    clear hr hle
    exact Pre.sound _ _ _ _ _ (cast (by kernel_rfl) h)
  · clear h
    intro l I S _ h
    obtain ⟨rs_7, rs_7n, rs_7c, e7, h⟩ := asSl_e h
    rw [upd_eta e7]
    refine WP.cut 1 (fun l I S => asSl (l 7) fun rs_7 rs_7n rs_7c => asSl (l 9) fun z_9 z_9n z_9c => asV (l 10) fun e_10 => bolterlaw10_ApplyQuota_b5 R rs_7 rs_7n rs_7c z_9 z_9n z_9c e_10 I S) (cast (by kernel_rfl) h) ?_
    clear h
    intro l I S _ h
    obtain ⟨rs_7, rs_7n, rs_7c, e7, h⟩ := asSl_e h
    obtain ⟨z_9, z_9n, z_9c, e9, h⟩ := asSl_e h
    obtain ⟨e_10, e10, h⟩ := asV_e h
    rw [upd_eta e7, upd_eta e9, upd_eta e10]
    refine WP.seqY (by kernel_rfl) (fun l I S => asSl (l 7) fun rs_7 rs_7n rs_7c => asSl (l 9) fun z_9 z_9n z_9c => asV (l 10) fun e_10 => bolterlaw10_ApplyQuota_b8 R rs_7 rs_7n rs_7c z_9 z_9n z_9c e_10 I S) ?_ ?_
    ·
      refine WP.cut 1 (fun l I S => asSl (l 7) fun rs_7 rs_7n rs_7c => asSl (l 9) fun z_9 z_9n z_9c => asV (l 10) fun e_10 => asB (l 48) fun x48 => bolterlaw10_ApplyQuota_b6 R rs_7 rs_7n rs_7c z_9 z_9n z_9c e_10 x48 I S) (cast (by kernel_rfl) h) ?_
      clear h
      intro l I S _ h
      obtain ⟨rs_7, rs_7n, rs_7c, e7, h⟩ := asSl_e h
      obtain ⟨z_9, z_9n, z_9c, e9, h⟩ := asSl_e h
      obtain ⟨e_10, e10, h⟩ := asV_e h
      obtain ⟨x48, e48, h⟩ := asB_e h
      rw [upd_eta e7, upd_eta e9, upd_eta e10, upd_eta e48]
      refine WP.cond' (by kernel_rfl) (by kernel_rfl) h ?_ ?_
      · clear h
        intro h
        refine WP.cut 1 (fun l I S => asB (l 4) fun x4 => bolterlaw10_ApplyQuota_b7 R x4 I S) (cast (by kernel_rfl) h) ?_
        clear h
        intro l I S _ h
        obtain ⟨x4, e4, h⟩ := asB_e h
        rw [upd_eta e4]
        exact Pre.sound _ _ _ _ _ (cast (by kernel_rfl) h)
      · clear h
        intro h
        exact Pre.sound _ _ _ _ _ (cast (by kernel_rfl) h)
    · clear h
      intro l I S _ h
      obtain ⟨rs_7, rs_7n, rs_7c, e7, h⟩ := asSl_e h
      obtain ⟨z_9, z_9n, z_9c, e9, h⟩ := asSl_e h
      obtain ⟨e_10, e10, h⟩ := asV_e h
      rw [upd_eta e7, upd_eta e9, upd_eta e10]
      refine WP.cut 1 (fun l I S => asB (l 4) fun x4 => bolterlaw10_ApplyQuota_b9 R x4 I S) (cast (by kernel_rfl) h) ?_
      clear h
      intro l I S _ h
      obtain ⟨x4, e4, h⟩ := asB_e h
      rw [upd_eta e4]
      exact Pre.sound _ _ _ _ _ (cast (by kernel_rfl) h)
/-! ### bolterlaw10_awake: function 18, bolter/bolterlaw10.awake -/
noncomputable def bolterlaw10_awake_code : Code := (Tryd.f18.body).getD .skip
def bolterlaw10_awake_b4 (R : Value → IMem → SH → Prop) (x0 : Bool) (I : IMem) (S : SH) : Prop :=
  R (.bool x0) I S
def bolterlaw10_awake_b3 (R : Value → IMem → SH → Prop) (e_3 : Value) (x_4 : Option Addr) (x_4n : Nat) (x_4c : Nat) (f_5 : Value) (I : IMem) (S : SH) : Prop :=
  ∃ x31, Runs Tryd.prog 15 #[e_3] I S (fun v' _ T => v' = .int .i64 x31 ∧ T = S) ∧
  bcase (x31 == (6 : Int))
    (∃ nl, isNilI f_5 = some nl ∧
    bcase nl
      (bcase ((x_4n : Int) == (1 : Int))
        (ptrP x_4 fun x44 => (0 : Int) ≤ (0 : Int) ∧ (0 : Int) < (x_4n : Int) ∧
        ∃ x45_0, Cell I S (x44.add ((0 : Int).toNat * 4)) (.string x45_0) ∧
        ∃ x45_1, Cell I S ((x44.add ((0 : Int).toNat * 4)).add 1) (.int .u16 x45_1) ∧
        ∃ x45_2, Cell I S ((x44.add ((0 : Int).toNat * 4)).add 2) (.int .u32 x45_2) ∧
        ∃ x45_3, Cell I S ((x44.add ((0 : Int).toNat * 4)).add 3) (.string x45_3) ∧
        ∃ x46_0 x46_1 x46_2 x46_3, Runs Tryd.prog 21 #[.string ⟨#[]⟩, .int .u32 2] I S (fun v' _ T => v' = .agg #[.string x46_0, .int .u16 x46_1, .int .u32 x46_2, .string x46_3] ∧ T = S) ∧
        bolterlaw10_awake_b4 R (((x45_0 : ByteArray) == (x46_0 : ByteArray)) && (((x45_1 : Int) == (x46_1 : Int)) && (((x45_2 : Int) == (x46_2 : Int)) && (((x45_3 : ByteArray) == (x46_3 : ByteArray)) && true)))) I S)
        (bolterlaw10_awake_b4 R false I S))
      (bolterlaw10_awake_b4 R false I S))
    (bolterlaw10_awake_b4 R false I S)
def bolterlaw10_awake_b2 (R : Value → IMem → SH → Prop) (z_1 : Option Addr) (z_1n : Nat) (z_1c : Nat) (e_3 : Value) (I : IMem) (S : SH) : Prop :=
  ptrP z_1 fun x23 => (0 : Int) ≤ (0 : Int) ∧ (0 : Int) < (z_1n : Int) ∧
  ∃ x24_0, Cell I S (x23.add ((0 : Int).toNat * 4)) (.string x24_0) ∧
  ∃ x24_1, Cell I S ((x23.add ((0 : Int).toNat * 4)).add 1) (.int .u16 x24_1) ∧
  ∃ x24_2, Cell I S ((x23.add ((0 : Int).toNat * 4)).add 2) (.int .u32 x24_2) ∧
  ∃ x24_3, Cell I S ((x23.add ((0 : Int).toNat * 4)).add 3) (.string x24_3) ∧
  ∃ x25_0 x25_1 x25_2 x25_3, (∀ J T, I.le J → Runs Tryd.prog 21 #[.string ⟨#[]⟩, .int .u32 2] J (T ++ S) (fun v' _ T' => v' = .agg #[.string x25_0, .int .u16 x25_1, .int .u32 x25_2, .string x25_3] ∧ T' = T ++ S)) ∧
  Runs Tryd.prog 23 #[.slice z_1 z_1n z_1c, .agg #[.string x24_0, .int .u16 x24_1, .int .u32 x24_2, .string x24_3, .string x25_0, .int .u16 x25_1, .int .u32 x25_2, .string x25_3, .slice none 0 0, .slice none 0 0]] I S fun v I1 S1 => ∃ x27_0 x27_0n x27_0c x27_1, v = .tuple #[.slice x27_0 x27_0n x27_0c, x27_1] ∧
  bolterlaw10_awake_b3 R e_3 x27_0 x27_0n x27_0c x27_1 I1 S1
def bolterlaw10_awake_b1 (R : Value → IMem → SH → Prop) (z_1 : Option Addr) (z_1n : Nat) (z_1c : Nat) (I : IMem) (S : SH) : Prop :=
  ptrP z_1 fun x11 => (0 : Int) ≤ (0 : Int) ∧ (0 : Int) < (z_1n : Int) ∧
  ∃ x12_0, Cell I S (x11.add ((0 : Int).toNat * 4)) (.string x12_0) ∧
  ∃ x12_1, Cell I S ((x11.add ((0 : Int).toNat * 4)).add 1) (.int .u16 x12_1) ∧
  ∃ x12_2, Cell I S ((x11.add ((0 : Int).toNat * 4)).add 2) (.int .u32 x12_2) ∧
  ∃ x12_3, Cell I S ((x11.add ((0 : Int).toNat * 4)).add 3) (.string x12_3) ∧
  ∃ x13_0 x13_1 x13_2 x13_3, (∀ J T, I.le J → Runs Tryd.prog 21 #[.string ⟨#[]⟩, .int .u32 2] J (T ++ S) (fun v' _ T' => v' = .agg #[.string x13_0, .int .u16 x13_1, .int .u32 x13_2, .string x13_3] ∧ T' = T ++ S)) ∧
  ∀ b15 : Nat,
  Keep I S I ((b15, .cells #[.string ⟨#[]⟩, .int .u16 16, .int .u32 0, .string ⟨#[1, 120]⟩] 36 (0, 0)) :: S) ∧
  Runs Tryd.prog 23 #[.slice z_1 z_1n z_1c, .agg #[.string x12_0, .int .u16 x12_1, .int .u32 x12_2, .string x12_3, .string x13_0, .int .u16 x13_1, .int .u32 x13_2, .string x13_3, .slice (some ⟨b15, 0, none⟩) 1 1, .slice none 0 0]] I ((b15, .cells #[.string ⟨#[]⟩, .int .u16 16, .int .u32 0, .string ⟨#[1, 120]⟩] 36 (0, 0)) :: S) fun v I1 S1 => ∃ x17_0 x17_0n x17_0c x17_1, v = .tuple #[.slice x17_0 x17_0n x17_0c, x17_1] ∧
  bolterlaw10_awake_b2 R z_1 z_1n z_1c x17_1 I1 S1
def bolterlaw10_awake (R : Value → IMem → SH → Prop) (I : IMem) (S : SH) : Prop :=
  Runs Tryd.prog 21 #[.string ⟨#[]⟩, .int .u32 1] I S fun v I1 S1 => ∃ x6_0 x6_1 x6_2 x6_3, v = .agg #[.string x6_0, .int .u16 x6_1, .int .u32 x6_2, .string x6_3] ∧
  ∀ b7 : Nat,
  bolterlaw10_awake_b1 R (some ⟨b7, 0, none⟩) 1 1 I1 ((b7, .cells #[.string x6_0, .int .u16 x6_1, .int .u32 x6_2, .string x6_3] 36 (0, 0)) :: S1)
theorem bolterlaw10_awake_fn (R : Value → IMem → SH → Prop) (I : IMem) (S : SH) (h : bolterlaw10_awake R I S) :
    Runs Tryd.prog 18 #[] I S R := by
  refine Runs.of_wp (args := []) (c := bolterlaw10_awake_code) Tryd.func18 (by kernel_rfl) (by kernel_rfl) ?_
  refine WP.cut 2 (fun l I S => asSl (l 1) fun z_1 z_1n z_1c => bolterlaw10_awake_b1 R z_1 z_1n z_1c I S) (cast (by kernel_rfl) h) ?_
  clear h
  intro l I S _ h
  obtain ⟨z_1, z_1n, z_1c, e1, h⟩ := asSl_e h
  rw [upd_eta e1]
  refine WP.seqY (by kernel_rfl) (fun l I S => asSl (l 1) fun z_1 z_1n z_1c => asV (l 3) fun e_3 => bolterlaw10_awake_b2 R z_1 z_1n z_1c e_3 I S) ?_ ?_
  ·
    exact WP.draw' (.take 0 (.take 1 (.take 2 (.take 3 (.take 4 (.take 5 (.step 6 (.take 7 (.step 8 (.take 9 (.take 10 (.take 11 (.take 12 (.take 13 .done)))))))))))))) [6, 8] (by kernel_rfl) (by kernel_rfl) (by kernel_rfl) (by kernel_rfl) (by kernel_rfl) (cast (by kernel_rfl) h)
  · clear h
    intro l I S _ h
    obtain ⟨z_1, z_1n, z_1c, e1, h⟩ := asSl_e h
    obtain ⟨e_3, e3, h⟩ := asV_e h
    rw [upd_eta e1, upd_eta e3]
    refine WP.seqY (by kernel_rfl) (fun l I S => asV (l 3) fun e_3 => asSl (l 4) fun x_4 x_4n x_4c => asV (l 5) fun f_5 => bolterlaw10_awake_b3 R e_3 x_4 x_4n x_4c f_5 I S) ?_ ?_
    ·
      exact WP.draw' (.take 0 (.take 1 (.take 2 (.take 3 (.take 4 (.take 5 (.step 6 (.take 7 (.take 8 (.take 9 (.take 10 (.take 11 .done)))))))))))) [6] (by kernel_rfl) (by kernel_rfl) (by kernel_rfl) (by kernel_rfl) (by kernel_rfl) (cast (by kernel_rfl) h)
    · clear h
      intro l I S _ h
      obtain ⟨e_3, e3, h⟩ := asV_e h
      obtain ⟨x_4, x_4n, x_4c, e4, h⟩ := asSl_e h
      obtain ⟨f_5, e5, h⟩ := asV_e h
      rw [upd_eta e3, upd_eta e4, upd_eta e5]
      refine WP.seqY (by kernel_rfl) (fun l I S => asB (l 0) fun x0 => bolterlaw10_awake_b4 R x0 I S) ?_ ?_
      ·
        exact WP.quiet' (by kernel_rfl) (by kernel_rfl) (by kernel_rfl) (cast (by kernel_rfl) h)
      · clear h
        intro l I S _ h
        obtain ⟨x0, e0, h⟩ := asB_e h
        rw [upd_eta e0]
        exact Pre.sound _ _ _ _ _ (cast (by kernel_rfl) h)
/-! ### bolterlaw09_Origin: function 19, bolter/bolterlaw09.Origin -/
noncomputable def bolterlaw09_Origin_code : Code := (Tryd.f19.body).getD .skip
def bolterlaw09_Origin (R : Value → IMem → SH → Prop) (n_0 : Int) (I : IMem) (S : SH) : Prop :=
  ∀ b5 : Nat,
  Runs Tryd.prog 32 #[.slice (some ⟨b5, 0, none⟩) 1 1] I ((b5, .cells #[.int .u8 (n_0.tmod (6 : Int))] 5 (0, 0)) :: S) fun v I1 S1 => ∃ x6, v = .string x6 ∧
  R (.string x6) I1 S1
theorem bolterlaw09_Origin_fn (R : Value → IMem → SH → Prop) (n_0 : Int) (I : IMem) (S : SH) (h : bolterlaw09_Origin R n_0 I S) :
    Runs Tryd.prog 19 #[.int .u8 n_0] I S R := by
  refine Runs.of_wp (args := [.int .u8 n_0]) (c := bolterlaw09_Origin_code) Tryd.func19 (by kernel_rfl) (by kernel_rfl) ?_
  exact Pre.sound _ _ _ _ _ (cast (by kernel_rfl) h)
/-! ### bolterlaw09_Soa: function 21, bolter/bolterlaw09.Soa -/
noncomputable def bolterlaw09_Soa_code : Code := (Tryd.f21.body).getD .skip
def bolterlaw09_Soa (R : Value → IMem → SH → Prop) (origin_0 : ByteArray) (n_1 : Int) (I : IMem) (S : SH) : Prop :=
  ∀ b4 : Nat,
  Runs Tryd.prog 38 #[.slice none 0 0, .int .u32 n_1, .int .u8 10, .int .u8 3, .int .u8 40] I ((b4, .cells #[.string ⟨#[]⟩, .int .u16 0, .int .u32 0, .string ⟨#[]⟩] 36 (0, 0)) :: S) fun v I1 S1 => ∃ x7, v = .string x7 ∧
  StP S1 ⟨b4, 0, none⟩ [.string origin_0, .int .u16 6, .int .u32 9, .string x7] fun S1' =>
  ∃ r4_0, Cell I1 S1' ⟨b4, 0, none⟩ (.string r4_0) ∧
  ∃ r4_1, Cell I1 S1' ⟨b4, 1, none⟩ (.int .u16 r4_1) ∧
  ∃ r4_2, Cell I1 S1' ⟨b4, 2, none⟩ (.int .u32 r4_2) ∧
  ∃ r4_3, Cell I1 S1' ⟨b4, 3, none⟩ (.string r4_3) ∧
  R (.agg #[.string r4_0, .int .u16 r4_1, .int .u32 r4_2, .string r4_3]) I1 S1'
theorem bolterlaw09_Soa_fn (R : Value → IMem → SH → Prop) (origin_0 : ByteArray) (n_1 : Int) (I : IMem) (S : SH) (h : bolterlaw09_Soa R origin_0 n_1 I S) :
    Runs Tryd.prog 21 #[.string origin_0, .int .u32 n_1] I S R := by
  refine Runs.of_wp (args := [.string origin_0, .int .u32 n_1]) (c := bolterlaw09_Soa_code) Tryd.func21 (by kernel_rfl) (by kernel_rfl) ?_
  exact Pre.sound _ _ _ _ _ (cast (by kernel_rfl) h)
/-! ### bolterlaw09_Under: function 22, bolter/bolterlaw09.Under -/
noncomputable def bolterlaw09_Under_code : Code := (Tryd.f22.body).getD .skip
def bolterlaw09_Under_b5 (R : Value → IMem → SH → Prop) (out_9 : Option Addr) (out_9n : Nat) (out_9c : Nat) (I : IMem) (S : SH) : Prop :=
  R (.slice out_9 out_9n out_9c) I S
def bolterlaw09_Under_b8 (again3 : ByteArray → Int → Bool → Option Addr → Nat → Nat → Option Addr → Nat → Nat → Int → Int → IMem → SH → Prop) (R : Value → IMem → SH → Prop) (origin_0 : ByteArray) (most_2 : Int) (soas_3 : Bool) (out_9 : Option Addr) (out_9n : Nat) (out_9c : Nat) (x15 : Option Addr) (x15n : Nat) (x15c : Nat) (x16 : Int) (x17 : Int) (I : IMem) (S : SH) : Prop :=
  again3 origin_0 most_2 soas_3 out_9 out_9n out_9c x15 x15n x15c x16 (IntKind.wrap .i64 (x17 + (1 : Int))) I S
def bolterlaw09_Under_b7 (again3 : ByteArray → Int → Bool → Option Addr → Nat → Nat → Option Addr → Nat → Nat → Int → Int → IMem → SH → Prop) (R : Value → IMem → SH → Prop) (origin_0 : ByteArray) (most_2 : Int) (soas_3 : Bool) (out_9 : Option Addr) (out_9n : Nat) (out_9c : Nat) (r_12 : Addr) (x15 : Option Addr) (x15n : Nat) (x15c : Nat) (x16 : Int) (x17 : Int) (I : IMem) (S : SH) : Prop :=
  ∃ x54_0, Cell I S r_12 (.string x54_0) ∧
  ∃ x54_1, Cell I S (r_12.add 1) (.int .u16 x54_1) ∧
  ∃ x54_2, Cell I S (r_12.add 2) (.int .u32 x54_2) ∧
  ∃ x54_3, Cell I S (r_12.add 3) (.string x54_3) ∧
  ∀ b55 : Nat,
  AppG 36 4 40 [.string ⟨#[]⟩, .int .u16 0, .int .u32 0, .string ⟨#[]⟩] (some (.slice 36)) I ((b55, .cells #[.string x54_0, .int .u16 x54_1, .int .u32 x54_2, .string x54_3] 36 (0, 0)) :: S) (.slice out_9 out_9n out_9c) (.slice (some ⟨b55, 0, none⟩) 1 1) fun x56 x56n x56c S1 =>
  bolterlaw09_Under_b8 again3 R origin_0 most_2 soas_3 x56 x56n x56c x15 x15n x15c x16 x17 I S1
def bolterlaw09_Under_b6 (again3 : ByteArray → Int → Bool → Option Addr → Nat → Nat → Option Addr → Nat → Nat → Int → Int → IMem → SH → Prop) (R : Value → IMem → SH → Prop) (origin_0 : ByteArray) (most_2 : Int) (soas_3 : Bool) (out_9 : Option Addr) (out_9n : Nat) (out_9c : Nat) (a_11 : Addr) (r_12 : Addr) (n_13 : ByteArray) (x15 : Option Addr) (x15n : Nat) (x15c : Nat) (x16 : Int) (x17 : Int) (I : IMem) (S : SH) : Prop :=
  StP S r_12 [.string n_13] fun S1 =>
  ∃ x40, Cell I S1 (r_12.add 1) (.int .u16 x40) ∧
  bcase (x40 == (6 : Int))
    (∃ x44, Cell I S1 (a_11.add 2) (.int .u32 x44) ∧
    Runs Tryd.prog 21 #[.string origin_0, .int .u32 (x44.tmod (6 : Int))] I S1 fun v I1 S1' => ∃ x46_0 x46_1 x46_2 x46_3, v = .agg #[.string x46_0, .int .u16 x46_1, .int .u32 x46_2, .string x46_3] ∧
    StP S1' r_12 [.string x46_0, .int .u16 x46_1, .int .u32 x46_2, .string x46_3] fun S1'' =>
    bcase (!soas_3)
      (∃ x51, Cell I1 S1'' (a_11.add 2) (.int .u32 x51) ∧
      StP S1'' r_12 [.string origin_0, .int .u16 16, .int .u32 x51, .string ⟨#[1, 120]⟩] fun S1_r3 =>
      bolterlaw09_Under_b7 again3 R origin_0 most_2 soas_3 out_9 out_9n out_9c r_12 x15 x15n x15c x16 x17 I1 S1_r3)
      (bolterlaw09_Under_b7 again3 R origin_0 most_2 soas_3 out_9 out_9n out_9c r_12 x15 x15n x15c x16 x17 I1 S1''))
    (bolterlaw09_Under_b7 again3 R origin_0 most_2 soas_3 out_9 out_9n out_9c r_12 x15 x15n x15c x16 x17 I S1)
def bolterlaw09_Under_b4 (again3 : ByteArray → Int → Bool → Option Addr → Nat → Nat → Option Addr → Nat → Nat → Int → Int → IMem → SH → Prop) (R : Value → IMem → SH → Prop) (origin_0 : ByteArray) (most_2 : Int) (soas_3 : Bool) (out_9 : Option Addr) (out_9n : Nat) (out_9c : Nat) (x15 : Option Addr) (x15n : Nat) (x15c : Nat) (x16 : Int) (x17 : Int) (I : IMem) (S : SH) : Prop :=
  ptrP x15 fun x20 => (0 : Int) ≤ x17 ∧ x17 < (x15n : Int) ∧
  ∃ x21_0 x21_0n x21_0c, Cell I S (x20.add (x17.toNat * 5)) (.slice x21_0 x21_0n x21_0c) ∧
  ∃ x21_1, Cell I S ((x20.add (x17.toNat * 5)).add 1) (.int .u8 x21_1) ∧
  ∃ x21_2, Cell I S ((x20.add (x17.toNat * 5)).add 2) (.int .u32 x21_2) ∧
  ∃ x21_3 x21_3n x21_3c, Cell I S ((x20.add (x17.toNat * 5)).add 3) (.slice x21_3 x21_3n x21_3c) ∧
  ∃ x21_4, Cell I S ((x20.add (x17.toNat * 5)).add 4) (.string x21_4) ∧
  ∀ b11 : Nat,
  StP ((b11, .cells #[.slice none 0 0, .int .u8 0, .int .u32 0, .slice none 0 0, .string ⟨#[]⟩] 26 (0, 0)) :: S) ⟨b11, 0, none⟩ [.slice x21_0 x21_0n x21_0c, .int .u8 x21_1, .int .u32 x21_2, .slice x21_3 x21_3n x21_3c, .string x21_4] fun S1 =>
  bcase (x17 == most_2)
    (bolterlaw09_Under_b5 R out_9 out_9n out_9c I S1)
    (∃ x25_0 x25_0n x25_0c, Cell I S1 ⟨b11, 0, none⟩ (.slice x25_0 x25_0n x25_0c) ∧
    ∃ x25_1, Cell I S1 ⟨b11, 1, none⟩ (.int .u8 x25_1) ∧
    ∃ x25_2, Cell I S1 ⟨b11, 2, none⟩ (.int .u32 x25_2) ∧
    ∃ x25_3 x25_3n x25_3c, Cell I S1 ⟨b11, 3, none⟩ (.slice x25_3 x25_3n x25_3c) ∧
    ∃ x25_4, Cell I S1 ⟨b11, 4, none⟩ (.string x25_4) ∧
    Runs Tryd.prog 12 #[.agg #[.slice x25_0 x25_0n x25_0c, .int .u8 x25_1, .int .u32 x25_2, .slice x25_3 x25_3n x25_3c, .string x25_4]] I S1 fun v I1 S1' => ∃ x26_0 x26_1 x26_2 x26_3, v = .agg #[.string x26_0, .int .u16 x26_1, .int .u32 x26_2, .string x26_3] ∧
    ∀ b12 : Nat,
    StP ((b12, .cells #[.string ⟨#[]⟩, .int .u16 0, .int .u32 0, .string ⟨#[]⟩] 36 (0, 0)) :: S1') ⟨b12, 0, none⟩ [.string x26_0, .int .u16 x26_1, .int .u32 x26_2, .string x26_3] fun S1'' =>
    ∃ x29, Cell I1 S1'' ⟨b12, 0, none⟩ (.string x29) ∧
    Runs Tryd.prog 39 #[.string x29, .string origin_0] I1 S1'' fun v' I1' S1_r3 => ∃ x31_0 x31_1, v' = .tuple #[.string x31_0, .bool x31_1] ∧
    bcase (!x31_1)
      (bolterlaw09_Under_b6 again3 R origin_0 most_2 soas_3 out_9 out_9n out_9c ⟨b11, 0, none⟩ ⟨b12, 0, none⟩ origin_0 x15 x15n x15c x16 x17 I1' S1_r3)
      (bolterlaw09_Under_b6 again3 R origin_0 most_2 soas_3 out_9 out_9n out_9c ⟨b11, 0, none⟩ ⟨b12, 0, none⟩ x31_0 x15 x15n x15c x16 x17 I1' S1_r3))
def bolterlaw09_Under_l3 (again3 : ByteArray → Int → Bool → Option Addr → Nat → Nat → Option Addr → Nat → Nat → Int → Int → IMem → SH → Prop) (R : Value → IMem → SH → Prop) (origin_0 : ByteArray) (most_2 : Int) (soas_3 : Bool) (out_9 : Option Addr) (out_9n : Nat) (out_9c : Nat) (x15 : Option Addr) (x15n : Nat) (x15c : Nat) (x16 : Int) (x17 : Int) (I : IMem) (S : SH) : Prop :=
  bcase (decide (x17 < x16))
    (bolterlaw09_Under_b4 again3 R origin_0 most_2 soas_3 out_9 out_9n out_9c x15 x15n x15c x16 x17 I S)
    (bolterlaw09_Under_b5 R out_9 out_9n out_9c I S)
def bolterlaw09_Under_b2 (R : Value → IMem → SH → Prop) (origin_0 : ByteArray) (most_2 : Int) (soas_3 : Bool) (out_9 : Option Addr) (out_9n : Nat) (out_9c : Nat) (x15 : Option Addr) (x15n : Nat) (x15c : Nat) (x16 : Int) (x17 : Int) (I : IMem) (S : SH) : Prop :=
  ∃ (Inv : Nat → ByteArray → Int → Bool → Option Addr → Nat → Nat → Option Addr → Nat → Nat → Int → Int → IMem → SH → Prop) (m : Nat), Inv m origin_0 most_2 soas_3 out_9 out_9n out_9c x15 x15n x15c x16 x17 I S ∧
    ∀ (m : Nat) (origin_0 : ByteArray) (most_2 : Int) (soas_3 : Bool) (out_9 : Option Addr) (out_9n : Nat) (out_9c : Nat) (x15 : Option Addr) (x15n : Nat) (x15c : Nat) (x16 : Int) (x17 : Int) (J : IMem) (T : SH), I.le J → Inv m origin_0 most_2 soas_3 out_9 out_9n out_9c x15 x15n x15c x16 x17 J T →
      bolterlaw09_Under_l3 (fun origin_0 most_2 soas_3 out_9 out_9n out_9c x15 x15n x15c x16 x17 I S => ∃ m', m' < m ∧ Inv m' origin_0 most_2 soas_3 out_9 out_9n out_9c x15 x15n x15c x16 x17 I S) R origin_0 most_2 soas_3 out_9 out_9n out_9c x15 x15n x15c x16 x17 J T
def bolterlaw09_Under_b1 (R : Value → IMem → SH → Prop) (origin_0 : ByteArray) (as_1 : Option Addr) (as_1n : Nat) (as_1c : Nat) (most_2 : Int) (soas_3 : Bool) (out_9 : Option Addr) (out_9n : Nat) (out_9c : Nat) (I : IMem) (S : SH) : Prop :=
  bolterlaw09_Under_b2 R origin_0 most_2 soas_3 out_9 out_9n out_9c as_1 as_1n as_1c (as_1n : Int) 0 I S
def bolterlaw09_Under (R : Value → IMem → SH → Prop) (origin_0 : ByteArray) (as_1 : Option Addr) (as_1n : Nat) (as_1c : Nat) (most_2 : Int) (soas_3 : Bool) (I : IMem) (S : SH) : Prop :=
  bolterlaw09_Under_b1 R origin_0 as_1 as_1n as_1c most_2 soas_3 none 0 0 I S
theorem bolterlaw09_Under_fn (R : Value → IMem → SH → Prop) (origin_0 : ByteArray) (as_1 : Option Addr) (as_1n : Nat) (as_1c : Nat) (most_2 : Int) (soas_3 : Bool) (I : IMem) (S : SH) (h : bolterlaw09_Under R origin_0 as_1 as_1n as_1c most_2 soas_3 I S) :
    Runs Tryd.prog 22 #[.string origin_0, .slice as_1 as_1n as_1c, .int .i64 most_2, .bool soas_3] I S R := by
  refine Runs.of_wp (args := [.string origin_0, .slice as_1 as_1n as_1c, .int .i64 most_2, .bool soas_3]) (c := bolterlaw09_Under_code) Tryd.func22 (by kernel_rfl) (by kernel_rfl) ?_
  refine WP.cut 2 (fun l I S => asStr (l 0) fun origin_0 => asSl (l 1) fun as_1 as_1n as_1c => asI .i64 (l 2) fun most_2 => asB (l 3) fun soas_3 => asSl (l 9) fun out_9 out_9n out_9c => bolterlaw09_Under_b1 R origin_0 as_1 as_1n as_1c most_2 soas_3 out_9 out_9n out_9c I S) (cast (by kernel_rfl) h) ?_
  clear h
  intro l I S _ h
  obtain ⟨origin_0, e0, h⟩ := asStr_e h
  obtain ⟨as_1, as_1n, as_1c, e1, h⟩ := asSl_e h
  obtain ⟨most_2, e2, h⟩ := asI_e h
  obtain ⟨soas_3, e3, h⟩ := asB_e h
  obtain ⟨out_9, out_9n, out_9c, e9, h⟩ := asSl_e h
  rw [upd_eta e0, upd_eta e1, upd_eta e2, upd_eta e3, upd_eta e9]
  refine WP.seqY (by kernel_rfl) (fun l I S => asSl (l 9) fun out_9 out_9n out_9c => bolterlaw09_Under_b5 R out_9 out_9n out_9c I S) ?_ ?_
  ·
    refine WP.cut 1 (fun l I S => asStr (l 0) fun origin_0 => asI .i64 (l 2) fun most_2 => asB (l 3) fun soas_3 => asSl (l 9) fun out_9 out_9n out_9c => asSl (l 15) fun x15 x15n x15c => asI .i64 (l 16) fun x16 => asI .i64 (l 17) fun x17 => bolterlaw09_Under_b2 R origin_0 most_2 soas_3 out_9 out_9n out_9c x15 x15n x15c x16 x17 I S) (cast (by kernel_rfl) h) ?_
    clear h
    intro l I S _ h
    obtain ⟨origin_0, e0, h⟩ := asStr_e h
    obtain ⟨most_2, e2, h⟩ := asI_e h
    obtain ⟨soas_3, e3, h⟩ := asB_e h
    obtain ⟨out_9, out_9n, out_9c, e9, h⟩ := asSl_e h
    obtain ⟨x15, x15n, x15c, e15, h⟩ := asSl_e h
    obtain ⟨x16, e16, h⟩ := asI_e h
    obtain ⟨x17, e17, h⟩ := asI_e h
    rw [upd_eta e0, upd_eta e2, upd_eta e3, upd_eta e9, upd_eta e15, upd_eta e16, upd_eta e17]
    refine WP.block' (by kernel_rfl) ?_
    obtain ⟨Inv_again3, m_again3, h0, hr⟩ := h
    refine WP.loop' (by kernel_rfl) (fun m_again3 => fun l I S => asStr (l 0) fun origin_0 => asI .i64 (l 2) fun most_2 => asB (l 3) fun soas_3 => asSl (l 9) fun out_9 out_9n out_9c => asSl (l 15) fun x15 x15n x15c => asI .i64 (l 16) fun x16 => asI .i64 (l 17) fun x17 => Inv_again3 m_again3 origin_0 most_2 soas_3 out_9 out_9n out_9c x15 x15n x15c x16 x17 I S) m_again3 (cast (by kernel_rfl) h0) ?_
    clear h0
    intro m_again3 l I S hle h
    obtain ⟨origin_0, e0, h⟩ := asStr_e h
    obtain ⟨most_2, e2, h⟩ := asI_e h
    obtain ⟨soas_3, e3, h⟩ := asB_e h
    obtain ⟨out_9, out_9n, out_9c, e9, h⟩ := asSl_e h
    obtain ⟨x15, x15n, x15c, e15, h⟩ := asSl_e h
    obtain ⟨x16, e16, h⟩ := asI_e h
    obtain ⟨x17, e17, h⟩ := asI_e h
    rw [upd_eta e0, upd_eta e2, upd_eta e3, upd_eta e9, upd_eta e15, upd_eta e16, upd_eta e17]
    have h := hr m_again3 origin_0 most_2 soas_3 out_9 out_9n out_9c x15 x15n x15c x16 x17 I S hle h
    clear hr hle
    refine WP.cut 2 (fun l I S => asStr (l 0) fun origin_0 => asI .i64 (l 2) fun most_2 => asB (l 3) fun soas_3 => asSl (l 9) fun out_9 out_9n out_9c => asSl (l 15) fun x15 x15n x15c => asI .i64 (l 16) fun x16 => asI .i64 (l 17) fun x17 => bolterlaw09_Under_b4 (fun origin_0 most_2 soas_3 out_9 out_9n out_9c x15 x15n x15c x16 x17 I S => ∃ m', m' < m_again3 ∧ Inv_again3 m' origin_0 most_2 soas_3 out_9 out_9n out_9c x15 x15n x15c x16 x17 I S) R origin_0 most_2 soas_3 out_9 out_9n out_9c x15 x15n x15c x16 x17 I S) (cast (by kernel_rfl) h) ?_
    clear h
    intro l I S _ h
    obtain ⟨origin_0, e0, h⟩ := asStr_e h
    obtain ⟨most_2, e2, h⟩ := asI_e h
    obtain ⟨soas_3, e3, h⟩ := asB_e h
    obtain ⟨out_9, out_9n, out_9c, e9, h⟩ := asSl_e h
    obtain ⟨x15, x15n, x15c, e15, h⟩ := asSl_e h
    obtain ⟨x16, e16, h⟩ := asI_e h
    obtain ⟨x17, e17, h⟩ := asI_e h
    rw [upd_eta e0, upd_eta e2, upd_eta e3, upd_eta e9, upd_eta e15, upd_eta e16, upd_eta e17]
    refine WP.seqY (by kernel_rfl) (fun l I S => asStr (l 0) fun origin_0 => asI .i64 (l 2) fun most_2 => asB (l 3) fun soas_3 => asSl (l 9) fun out_9 out_9n out_9c => asSl (l 15) fun x15 x15n x15c => asI .i64 (l 16) fun x16 => asI .i64 (l 17) fun x17 => bolterlaw09_Under_b8 (fun origin_0 most_2 soas_3 out_9 out_9n out_9c x15 x15n x15c x16 x17 I S => ∃ m', m' < m_again3 ∧ Inv_again3 m' origin_0 most_2 soas_3 out_9 out_9n out_9c x15 x15n x15c x16 x17 I S) R origin_0 most_2 soas_3 out_9 out_9n out_9c x15 x15n x15c x16 x17 I S) ?_ ?_
    ·
      refine WP.block' (by kernel_rfl) ?_
      refine WP.cut 5 (fun l I S => asStr (l 0) fun origin_0 => asI .i64 (l 2) fun most_2 => asB (l 3) fun soas_3 => asSl (l 9) fun out_9 out_9n out_9c => asAdr (l 11) fun a_11 => asAdr (l 12) fun r_12 => asStr (l 13) fun n_13 => asSl (l 15) fun x15 x15n x15c => asI .i64 (l 16) fun x16 => asI .i64 (l 17) fun x17 => bolterlaw09_Under_b6 (fun origin_0 most_2 soas_3 out_9 out_9n out_9c x15 x15n x15c x16 x17 I S => ∃ m', m' < m_again3 ∧ Inv_again3 m' origin_0 most_2 soas_3 out_9 out_9n out_9c x15 x15n x15c x16 x17 I S) R origin_0 most_2 soas_3 out_9 out_9n out_9c a_11 r_12 n_13 x15 x15n x15c x16 x17 I S) (cast (by kernel_rfl) h) ?_
      clear h
      intro l I S _ h
      obtain ⟨origin_0, e0, h⟩ := asStr_e h
      obtain ⟨most_2, e2, h⟩ := asI_e h
      obtain ⟨soas_3, e3, h⟩ := asB_e h
      obtain ⟨out_9, out_9n, out_9c, e9, h⟩ := asSl_e h
      obtain ⟨a_11, e11, h⟩ := asAdr_e h
      obtain ⟨r_12, e12, h⟩ := asAdr_e h
      obtain ⟨n_13, e13, h⟩ := asStr_e h
      obtain ⟨x15, x15n, x15c, e15, h⟩ := asSl_e h
      obtain ⟨x16, e16, h⟩ := asI_e h
      obtain ⟨x17, e17, h⟩ := asI_e h
      rw [upd_eta e0, upd_eta e2, upd_eta e3, upd_eta e9, upd_eta e11, upd_eta e12, upd_eta e13, upd_eta e15, upd_eta e16, upd_eta e17]
      refine WP.cut 2 (fun l I S => asStr (l 0) fun origin_0 => asI .i64 (l 2) fun most_2 => asB (l 3) fun soas_3 => asSl (l 9) fun out_9 out_9n out_9c => asAdr (l 12) fun r_12 => asSl (l 15) fun x15 x15n x15c => asI .i64 (l 16) fun x16 => asI .i64 (l 17) fun x17 => bolterlaw09_Under_b7 (fun origin_0 most_2 soas_3 out_9 out_9n out_9c x15 x15n x15c x16 x17 I S => ∃ m', m' < m_again3 ∧ Inv_again3 m' origin_0 most_2 soas_3 out_9 out_9n out_9c x15 x15n x15c x16 x17 I S) R origin_0 most_2 soas_3 out_9 out_9n out_9c r_12 x15 x15n x15c x16 x17 I S) (cast (by kernel_rfl) h) ?_
      clear h
      intro l I S _ h
      obtain ⟨origin_0, e0, h⟩ := asStr_e h
      obtain ⟨most_2, e2, h⟩ := asI_e h
      obtain ⟨soas_3, e3, h⟩ := asB_e h
      obtain ⟨out_9, out_9n, out_9c, e9, h⟩ := asSl_e h
      obtain ⟨r_12, e12, h⟩ := asAdr_e h
      obtain ⟨x15, x15n, x15c, e15, h⟩ := asSl_e h
      obtain ⟨x16, e16, h⟩ := asI_e h
      obtain ⟨x17, e17, h⟩ := asI_e h
      rw [upd_eta e0, upd_eta e2, upd_eta e3, upd_eta e9, upd_eta e12, upd_eta e15, upd_eta e16, upd_eta e17]
      exact Pre.sound _ _ _ _ _ (cast (by kernel_rfl) h)
    · clear h
      intro l I S _ h
      obtain ⟨origin_0, e0, h⟩ := asStr_e h
      obtain ⟨most_2, e2, h⟩ := asI_e h
      obtain ⟨soas_3, e3, h⟩ := asB_e h
      obtain ⟨out_9, out_9n, out_9c, e9, h⟩ := asSl_e h
      obtain ⟨x15, x15n, x15c, e15, h⟩ := asSl_e h
      obtain ⟨x16, e16, h⟩ := asI_e h
      obtain ⟨x17, e17, h⟩ := asI_e h
      rw [upd_eta e0, upd_eta e2, upd_eta e3, upd_eta e9, upd_eta e15, upd_eta e16, upd_eta e17]
      exact Pre.sound _ _ _ _ _ (cast (by kernel_rfl) h)
  · clear h
    intro l I S _ h
    obtain ⟨out_9, out_9n, out_9c, e9, h⟩ := asSl_e h
    rw [upd_eta e9]
    exact Pre.sound _ _ _ _ _ (cast (by kernel_rfl) h)
/-! ### apply_Delta: function 23, bolter/apply.Delta -/
noncomputable def apply_Delta_code : Code := (Tryd.f23.body).getD .skip
def apply_Delta_b10 (R : Value → IMem → SH → Prop) (out_8 : Option Addr) (out_8n : Nat) (out_8c : Nat) (e_9 : Value) (I : IMem) (S : SH) : Prop :=
  ∃ nl, isNilI e_9 = some nl ∧
  bcase (!nl)
    (R (.tuple #[.slice none 0 0, e_9]) I S)
    (R (.tuple #[.slice out_8 out_8n out_8c, .nilIface]) I S)
def apply_Delta_l9 (again9 : Option Addr → Nat → Nat → Value → Option Addr → Nat → Nat → Int → Int → IMem → SH → Prop) (R : Value → IMem → SH → Prop) (out_8 : Option Addr) (out_8n : Nat) (out_8c : Nat) (e_9 : Value) (x58 : Option Addr) (x58n : Nat) (x58c : Nat) (x59 : Int) (x60 : Int) (I : IMem) (S : SH) : Prop :=
  bcase (decide (x60 < x59))
    (ptrP x58 fun x62 => (0 : Int) ≤ x60 ∧ x60 < (x58n : Int) ∧
    ∃ x63_0, Cell I S (x62.add (x60.toNat * 4)) (.string x63_0) ∧
    ∃ x63_1, Cell I S ((x62.add (x60.toNat * 4)).add 1) (.int .u16 x63_1) ∧
    ∃ x63_2, Cell I S ((x62.add (x60.toNat * 4)).add 2) (.int .u32 x63_2) ∧
    ∃ x63_3, Cell I S ((x62.add (x60.toNat * 4)).add 3) (.string x63_3) ∧
    ∀ b13 : Nat,
    StP ((b13, .cells #[.string ⟨#[]⟩, .int .u16 0, .int .u32 0, .string ⟨#[]⟩] 36 (0, 0)) :: S) ⟨b13, 0, none⟩ [.string x63_0, .int .u16 x63_1, .int .u32 x63_2, .string x63_3] fun S1 =>
    ∃ nl, isNilI e_9 = some nl ∧
    bcase (!nl)
      (R (.tuple #[.slice none 0 0, e_9]) I S1)
      (∃ x69_0, Cell I S1 ⟨b13, 0, none⟩ (.string x69_0) ∧
      ∃ x69_1, Cell I S1 ⟨b13, 1, none⟩ (.int .u16 x69_1) ∧
      ∃ x69_2, Cell I S1 ⟨b13, 2, none⟩ (.int .u32 x69_2) ∧
      ∃ x69_3, Cell I S1 ⟨b13, 3, none⟩ (.string x69_3) ∧
      Runs Tryd.prog 13 #[.slice out_8 out_8n out_8c, .agg #[.string x69_0, .int .u16 x69_1, .int .u32 x69_2, .string x69_3]] I S1 fun v I1 S1' => ∃ x70_0 x70_0n x70_0c x70_1, v = .tuple #[.slice x70_0 x70_0n x70_0c, x70_1] ∧
      again9 x70_0 x70_0n x70_0c x70_1 x58 x58n x58c x59 (IntKind.wrap .i64 (x60 + (1 : Int))) I1 S1'))
    (apply_Delta_b10 R out_8 out_8n out_8c e_9 I S)
def apply_Delta_b8 (R : Value → IMem → SH → Prop) (out_8 : Option Addr) (out_8n : Nat) (out_8c : Nat) (e_9 : Value) (x58 : Option Addr) (x58n : Nat) (x58c : Nat) (x59 : Int) (x60 : Int) (I : IMem) (S : SH) : Prop :=
  ∃ (Inv : Nat → Option Addr → Nat → Nat → Value → Option Addr → Nat → Nat → Int → Int → IMem → SH → Prop) (m : Nat), Inv m out_8 out_8n out_8c e_9 x58 x58n x58c x59 x60 I S ∧
    ∀ (m : Nat) (out_8 : Option Addr) (out_8n : Nat) (out_8c : Nat) (e_9 : Value) (x58 : Option Addr) (x58n : Nat) (x58c : Nat) (x59 : Int) (x60 : Int) (J : IMem) (T : SH), I.le J → Inv m out_8 out_8n out_8c e_9 x58 x58n x58c x59 x60 J T →
      apply_Delta_l9 (fun out_8 out_8n out_8c e_9 x58 x58n x58c x59 x60 I S => ∃ m', m' < m ∧ Inv m' out_8 out_8n out_8c e_9 x58 x58n x58c x59 x60 I S) R out_8 out_8n out_8c e_9 x58 x58n x58c x59 x60 J T
def apply_Delta_b7 (R : Value → IMem → SH → Prop) (d_3 : Addr) (out_8 : Option Addr) (out_8n : Nat) (out_8c : Nat) (e_9 : Value) (I : IMem) (S : SH) : Prop :=
  ∃ x53 x53n x53c, Cell I S (d_3.add 9) (.slice x53 x53n x53c) ∧
  ∃ x56_0, Cell I S (d_3.add 4) (.string x56_0) ∧
  ∃ x56_1, Cell I S ((d_3.add 4).add 1) (.int .u16 x56_1) ∧
  ∃ x56_2, Cell I S ((d_3.add 4).add 2) (.int .u32 x56_2) ∧
  ∃ x56_3, Cell I S ((d_3.add 4).add 3) (.string x56_3) ∧
  (Runs Tryd.prog 41 #[.slice x53 x53n x53c] I S fun v I1 S1 => ∃ x54 x54n x54c, v = .slice x54 x54n x54c ∧
  Keep I S I1 S1 ∧
  ∀ b57 : Nat,
  Keep I S I1 ((b57, .cells #[.string x56_0, .int .u16 x56_1, .int .u32 x56_2, .string x56_3] 36 (0, 0)) :: S1) ∧
  AppG 36 4 40 [.string ⟨#[]⟩, .int .u16 0, .int .u32 0, .string ⟨#[]⟩] (some (.slice 36)) I1 ((b57, .cells #[.string x56_0, .int .u16 x56_1, .int .u32 x56_2, .string x56_3] 36 (0, 0)) :: S1) (.slice x54 x54n x54c) (.slice (some ⟨b57, 0, none⟩) 1 1) fun x58 x58n x58c S1' =>
  apply_Delta_b8 R out_8 out_8n out_8c e_9 x58 x58n x58c (x58n : Int) 0 I1 S1') ∧
  (∀ b57' : Nat,
  Keep I S I ((b57', .cells #[.string x56_0, .int .u16 x56_1, .int .u32 x56_2, .string x56_3] 36 (0, 0)) :: S) ∧
  Runs Tryd.prog 41 #[.slice x53 x53n x53c] I ((b57', .cells #[.string x56_0, .int .u16 x56_1, .int .u32 x56_2, .string x56_3] 36 (0, 0)) :: S) fun v' I1' S1'' => ∃ x54' x54'n x54'c, v' = .slice x54' x54'n x54'c ∧
  Keep I S I1' S1'' ∧
  AppG 36 4 40 [.string ⟨#[]⟩, .int .u16 0, .int .u32 0, .string ⟨#[]⟩] (some (.slice 36)) I1' S1'' (.slice x54' x54'n x54'c) (.slice (some ⟨b57', 0, none⟩) 1 1) fun x58' x58'n x58'c S1_r3 =>
  apply_Delta_b8 R out_8 out_8n out_8c e_9 x58' x58'n x58'c (x58'n : Int) 0 I1' S1_r3)
def apply_Delta_l6 (again6 : Addr → Option Addr → Nat → Nat → Value → Option Addr → Nat → Nat → Int → Int → IMem → SH → Prop) (R : Value → IMem → SH → Prop) (d_3 : Addr) (out_8 : Option Addr) (out_8n : Nat) (out_8c : Nat) (e_9 : Value) (x36 : Option Addr) (x36n : Nat) (x36c : Nat) (x37 : Int) (x38 : Int) (I : IMem) (S : SH) : Prop :=
  bcase (decide (x38 < x37))
    (ptrP x36 fun x40 => (0 : Int) ≤ x38 ∧ x38 < (x36n : Int) ∧
    ∃ x41_0, Cell I S (x40.add (x38.toNat * 4)) (.string x41_0) ∧
    ∃ x41_1, Cell I S ((x40.add (x38.toNat * 4)).add 1) (.int .u16 x41_1) ∧
    ∃ x41_2, Cell I S ((x40.add (x38.toNat * 4)).add 2) (.int .u32 x41_2) ∧
    ∃ x41_3, Cell I S ((x40.add (x38.toNat * 4)).add 3) (.string x41_3) ∧
    ∀ b11 : Nat,
    StP ((b11, .cells #[.string ⟨#[]⟩, .int .u16 0, .int .u32 0, .string ⟨#[]⟩] 36 (0, 0)) :: S) ⟨b11, 0, none⟩ [.string x41_0, .int .u16 x41_1, .int .u32 x41_2, .string x41_3] fun S1 =>
    ∃ nl, isNilI e_9 = some nl ∧
    bcase (!nl)
      (R (.tuple #[.slice none 0 0, e_9]) I S1)
      (∃ x47_0, Cell I S1 ⟨b11, 0, none⟩ (.string x47_0) ∧
      ∃ x47_1, Cell I S1 ⟨b11, 1, none⟩ (.int .u16 x47_1) ∧
      ∃ x47_2, Cell I S1 ⟨b11, 2, none⟩ (.int .u32 x47_2) ∧
      ∃ x47_3, Cell I S1 ⟨b11, 3, none⟩ (.string x47_3) ∧
      Runs Tryd.prog 17 #[.slice out_8 out_8n out_8c, .agg #[.string x47_0, .int .u16 x47_1, .int .u32 x47_2, .string x47_3]] I S1 fun v I1 S1' => ∃ x48_0 x48_0n x48_0c x48_1, v = .tuple #[.slice x48_0 x48_0n x48_0c, x48_1] ∧
      again6 d_3 x48_0 x48_0n x48_0c x48_1 x36 x36n x36c x37 (IntKind.wrap .i64 (x38 + (1 : Int))) I1 S1'))
    (apply_Delta_b7 R d_3 out_8 out_8n out_8c e_9 I S)
def apply_Delta_b5 (R : Value → IMem → SH → Prop) (d_3 : Addr) (out_8 : Option Addr) (out_8n : Nat) (out_8c : Nat) (e_9 : Value) (x36 : Option Addr) (x36n : Nat) (x36c : Nat) (x37 : Int) (x38 : Int) (I : IMem) (S : SH) : Prop :=
  ∃ (Inv : Nat → Addr → Option Addr → Nat → Nat → Value → Option Addr → Nat → Nat → Int → Int → IMem → SH → Prop) (m : Nat), Inv m d_3 out_8 out_8n out_8c e_9 x36 x36n x36c x37 x38 I S ∧
    ∀ (m : Nat) (d_3 : Addr) (out_8 : Option Addr) (out_8n : Nat) (out_8c : Nat) (e_9 : Value) (x36 : Option Addr) (x36n : Nat) (x36c : Nat) (x37 : Int) (x38 : Int) (J : IMem) (T : SH), I.le J → Inv m d_3 out_8 out_8n out_8c e_9 x36 x36n x36c x37 x38 J T →
      apply_Delta_l6 (fun d_3 out_8 out_8n out_8c e_9 x36 x36n x36c x37 x38 I S => ∃ m', m' < m ∧ Inv m' d_3 out_8 out_8n out_8c e_9 x36 x36n x36c x37 x38 I S) R d_3 out_8 out_8n out_8c e_9 x36 x36n x36c x37 x38 J T
def apply_Delta_b4 (R : Value → IMem → SH → Prop) (d_3 : Addr) (out_8 : Option Addr) (out_8n : Nat) (out_8c : Nat) (e_9 : Value) (I : IMem) (S : SH) : Prop :=
  ∃ x36 x36n x36c, Cell I S (d_3.add 8) (.slice x36 x36n x36c) ∧
  apply_Delta_b5 R d_3 out_8 out_8n out_8c e_9 x36 x36n x36c (x36n : Int) 0 I S
def apply_Delta_b3 (R : Value → IMem → SH → Prop) (z_0 : Option Addr) (z_0n : Nat) (z_0c : Nat) (d_3 : Addr) (I : IMem) (S : SH) : Prop :=
  ∃ x31_0, Cell I S d_3 (.string x31_0) ∧
  ∃ x31_1, Cell I S (d_3.add 1) (.int .u16 x31_1) ∧
  ∃ x31_2, Cell I S (d_3.add 2) (.int .u32 x31_2) ∧
  ∃ x31_3, Cell I S (d_3.add 3) (.string x31_3) ∧
  Runs Tryd.prog 17 #[.slice z_0 z_0n z_0c, .agg #[.string x31_0, .int .u16 x31_1, .int .u32 x31_2, .string x31_3]] I S fun v I1 S1 => ∃ x32_0 x32_0n x32_0c x32_1, v = .tuple #[.slice x32_0 x32_0n x32_0c, x32_1] ∧
  apply_Delta_b4 R d_3 x32_0 x32_0n x32_0c x32_1 I1 S1
def apply_Delta_b2 (R : Value → IMem → SH → Prop) (z_0 : Option Addr) (z_0n : Nat) (z_0c : Nat) (d_3 : Addr) (x26 : Bool) (I : IMem) (S : SH) : Prop :=
  bcase x26
    (R (.tuple #[.slice none 0 0, (.iface 43 (.int .i64 5))]) I S)
    (apply_Delta_b3 R z_0 z_0n z_0c d_3 I S)
def apply_Delta_b1 (R : Value → IMem → SH → Prop) (z_0 : Option Addr) (z_0n : Nat) (z_0c : Nat) (d_3 : Addr) (I : IMem) (S : SH) : Prop :=
  Runs Tryd.prog 40 #[.slice z_0 z_0n z_0c] I S fun v I1 S1 => ∃ x16_0_0 x16_0_1 x16_0_2 x16_0_3 x16_1, v = .tuple #[.agg #[.string x16_0_0, .int .u16 x16_0_1, .int .u32 x16_0_2, .string x16_0_3], .bool x16_1] ∧
  ∀ b6 : Nat,
  StP ((b6, .cells #[.string ⟨#[]⟩, .int .u16 0, .int .u32 0, .string ⟨#[]⟩] 36 (0, 0)) :: S1) ⟨b6, 0, none⟩ [.string x16_0_0, .int .u16 x16_0_1, .int .u32 x16_0_2, .string x16_0_3] fun S1' =>
  bcase (!x16_1)
    (apply_Delta_b2 R z_0 z_0n z_0c d_3 true I1 S1')
    (∃ x22_0, Cell I1 S1' ⟨b6, 0, none⟩ (.string x22_0) ∧
    ∃ x22_1, Cell I1 S1' ⟨b6, 1, none⟩ (.int .u16 x22_1) ∧
    ∃ x22_2, Cell I1 S1' ⟨b6, 2, none⟩ (.int .u32 x22_2) ∧
    ∃ x22_3, Cell I1 S1' ⟨b6, 3, none⟩ (.string x22_3) ∧
    ∃ x24_0, Cell I1 S1' d_3 (.string x24_0) ∧
    ∃ x24_1, Cell I1 S1' (d_3.add 1) (.int .u16 x24_1) ∧
    ∃ x24_2, Cell I1 S1' (d_3.add 2) (.int .u32 x24_2) ∧
    ∃ x24_3, Cell I1 S1' (d_3.add 3) (.string x24_3) ∧
    apply_Delta_b2 R z_0 z_0n z_0c d_3 (!(((x22_0 : ByteArray) == (x24_0 : ByteArray)) && (((x22_1 : Int) == (x24_1 : Int)) && (((x22_2 : Int) == (x24_2 : Int)) && (((x22_3 : ByteArray) == (x24_3 : ByteArray)) && true))))) I1 S1')
def apply_Delta (R : Value → IMem → SH → Prop) (z_0 : Option Addr) (z_0n : Nat) (z_0c : Nat) (d_1_0 : ByteArray) (d_1_1 : Int) (d_1_2 : Int) (d_1_3 : ByteArray) (d_1_4 : ByteArray) (d_1_5 : Int) (d_1_6 : Int) (d_1_7 : ByteArray) (d_1_8 : Option Addr) (d_1_8n : Nat) (d_1_8c : Nat) (d_1_9 : Option Addr) (d_1_9n : Nat) (d_1_9c : Nat) (I : IMem) (S : SH) : Prop :=
  ∀ b3 : Nat,
  apply_Delta_b1 R z_0 z_0n z_0c ⟨b3, 0, none⟩ I ((b3, .cells #[.string d_1_0, .int .u16 d_1_1, .int .u32 d_1_2, .string d_1_3, .string d_1_4, .int .u16 d_1_5, .int .u32 d_1_6, .string d_1_7, .slice d_1_8 d_1_8n d_1_8c, .slice d_1_9 d_1_9n d_1_9c] 52 (0, 0)) :: S)
theorem apply_Delta_fn (R : Value → IMem → SH → Prop) (z_0 : Option Addr) (z_0n : Nat) (z_0c : Nat) (d_1_0 : ByteArray) (d_1_1 : Int) (d_1_2 : Int) (d_1_3 : ByteArray) (d_1_4 : ByteArray) (d_1_5 : Int) (d_1_6 : Int) (d_1_7 : ByteArray) (d_1_8 : Option Addr) (d_1_8n : Nat) (d_1_8c : Nat) (d_1_9 : Option Addr) (d_1_9n : Nat) (d_1_9c : Nat) (I : IMem) (S : SH) (h : apply_Delta R z_0 z_0n z_0c d_1_0 d_1_1 d_1_2 d_1_3 d_1_4 d_1_5 d_1_6 d_1_7 d_1_8 d_1_8n d_1_8c d_1_9 d_1_9n d_1_9c I S) :
    Runs Tryd.prog 23 #[.slice z_0 z_0n z_0c, .agg #[.string d_1_0, .int .u16 d_1_1, .int .u32 d_1_2, .string d_1_3, .string d_1_4, .int .u16 d_1_5, .int .u32 d_1_6, .string d_1_7, .slice d_1_8 d_1_8n d_1_8c, .slice d_1_9 d_1_9n d_1_9c]] I S R := by
  refine Runs.of_wp (args := [.slice z_0 z_0n z_0c, .agg #[.string d_1_0, .int .u16 d_1_1, .int .u32 d_1_2, .string d_1_3, .string d_1_4, .int .u16 d_1_5, .int .u32 d_1_6, .string d_1_7, .slice d_1_8 d_1_8n d_1_8c, .slice d_1_9 d_1_9n d_1_9c]]) (c := apply_Delta_code) Tryd.func23 (by kernel_rfl) (by kernel_rfl) ?_
  refine WP.cut 1 (fun l I S => asSl (l 0) fun z_0 z_0n z_0c => asAdr (l 3) fun d_3 => apply_Delta_b1 R z_0 z_0n z_0c d_3 I S) (cast (by kernel_rfl) h) ?_
  clear h
  intro l I S _ h
  obtain ⟨z_0, z_0n, z_0c, e0, h⟩ := asSl_e h
  obtain ⟨d_3, e3, h⟩ := asAdr_e h
  rw [upd_eta e0, upd_eta e3]
  refine WP.seqY (by kernel_rfl) (fun l I S => asSl (l 0) fun z_0 z_0n z_0c => asAdr (l 3) fun d_3 => apply_Delta_b3 R z_0 z_0n z_0c d_3 I S) ?_ ?_
  ·
    refine WP.cut 2 (fun l I S => asSl (l 0) fun z_0 z_0n z_0c => asAdr (l 3) fun d_3 => asB (l 26) fun x26 => apply_Delta_b2 R z_0 z_0n z_0c d_3 x26 I S) (cast (by kernel_rfl) h) ?_
    clear h
    intro l I S _ h
    obtain ⟨z_0, z_0n, z_0c, e0, h⟩ := asSl_e h
    obtain ⟨d_3, e3, h⟩ := asAdr_e h
    obtain ⟨x26, e26, h⟩ := asB_e h
    rw [upd_eta e0, upd_eta e3, upd_eta e26]
    exact Pre.sound _ _ _ _ _ (cast (by kernel_rfl) h)
  · clear h
    intro l I S _ h
    obtain ⟨z_0, z_0n, z_0c, e0, h⟩ := asSl_e h
    obtain ⟨d_3, e3, h⟩ := asAdr_e h
    rw [upd_eta e0, upd_eta e3]
    refine WP.cut 1 (fun l I S => asAdr (l 3) fun d_3 => asSl (l 8) fun out_8 out_8n out_8c => asV (l 9) fun e_9 => apply_Delta_b4 R d_3 out_8 out_8n out_8c e_9 I S) (cast (by kernel_rfl) h) ?_
    clear h
    intro l I S _ h
    obtain ⟨d_3, e3, h⟩ := asAdr_e h
    obtain ⟨out_8, out_8n, out_8c, e8, h⟩ := asSl_e h
    obtain ⟨e_9, e9, h⟩ := asV_e h
    rw [upd_eta e3, upd_eta e8, upd_eta e9]
    refine WP.seqY (by kernel_rfl) (fun l I S => asAdr (l 3) fun d_3 => asSl (l 8) fun out_8 out_8n out_8c => asV (l 9) fun e_9 => apply_Delta_b7 R d_3 out_8 out_8n out_8c e_9 I S) ?_ ?_
    ·
      refine WP.cut 1 (fun l I S => asAdr (l 3) fun d_3 => asSl (l 8) fun out_8 out_8n out_8c => asV (l 9) fun e_9 => asSl (l 36) fun x36 x36n x36c => asI .i64 (l 37) fun x37 => asI .i64 (l 38) fun x38 => apply_Delta_b5 R d_3 out_8 out_8n out_8c e_9 x36 x36n x36c x37 x38 I S) (cast (by kernel_rfl) h) ?_
      clear h
      intro l I S _ h
      obtain ⟨d_3, e3, h⟩ := asAdr_e h
      obtain ⟨out_8, out_8n, out_8c, e8, h⟩ := asSl_e h
      obtain ⟨e_9, e9, h⟩ := asV_e h
      obtain ⟨x36, x36n, x36c, e36, h⟩ := asSl_e h
      obtain ⟨x37, e37, h⟩ := asI_e h
      obtain ⟨x38, e38, h⟩ := asI_e h
      rw [upd_eta e3, upd_eta e8, upd_eta e9, upd_eta e36, upd_eta e37, upd_eta e38]
      refine WP.block' (by kernel_rfl) ?_
      obtain ⟨Inv_again6, m_again6, h0, hr⟩ := h
      refine WP.loop' (by kernel_rfl) (fun m_again6 => fun l I S => asAdr (l 3) fun d_3 => asSl (l 8) fun out_8 out_8n out_8c => asV (l 9) fun e_9 => asSl (l 36) fun x36 x36n x36c => asI .i64 (l 37) fun x37 => asI .i64 (l 38) fun x38 => Inv_again6 m_again6 d_3 out_8 out_8n out_8c e_9 x36 x36n x36c x37 x38 I S) m_again6 (cast (by kernel_rfl) h0) ?_
      clear h0
      intro m_again6 l I S hle h
      obtain ⟨d_3, e3, h⟩ := asAdr_e h
      obtain ⟨out_8, out_8n, out_8c, e8, h⟩ := asSl_e h
      obtain ⟨e_9, e9, h⟩ := asV_e h
      obtain ⟨x36, x36n, x36c, e36, h⟩ := asSl_e h
      obtain ⟨x37, e37, h⟩ := asI_e h
      obtain ⟨x38, e38, h⟩ := asI_e h
      rw [upd_eta e3, upd_eta e8, upd_eta e9, upd_eta e36, upd_eta e37, upd_eta e38]
      have h := hr m_again6 d_3 out_8 out_8n out_8c e_9 x36 x36n x36c x37 x38 I S hle h
      clear hr hle
      exact Pre.sound _ _ _ _ _ (cast (by kernel_rfl) h)
    · clear h
      intro l I S _ h
      obtain ⟨d_3, e3, h⟩ := asAdr_e h
      obtain ⟨out_8, out_8n, out_8c, e8, h⟩ := asSl_e h
      obtain ⟨e_9, e9, h⟩ := asV_e h
      rw [upd_eta e3, upd_eta e8, upd_eta e9]
      refine WP.seqY (by kernel_rfl) (fun l I S => asSl (l 8) fun out_8 out_8n out_8c => asV (l 9) fun e_9 => apply_Delta_b10 R out_8 out_8n out_8c e_9 I S) ?_ ?_
      ·
        refine WP.seqY (by kernel_rfl) (fun l I S => asSl (l 8) fun out_8 out_8n out_8c => asV (l 9) fun e_9 => asSl (l 58) fun x58 x58n x58c => asI .i64 (l 59) fun x59 => asI .i64 (l 60) fun x60 => apply_Delta_b8 R out_8 out_8n out_8c e_9 x58 x58n x58c x59 x60 I S) ?_ ?_
        ·
          exact WP.draw' (.take 0 (.take 1 (.take 3 (.take 4 (.take 8 (.fork 2 (.step 5 (.step 6 (.take 7 .done))) 5 (.step 2 (.step 6 (.take 7 .done))))))))) [2, 5, 6] (by kernel_rfl) (by kernel_rfl) (by kernel_rfl) (by kernel_rfl) (by kernel_rfl) (cast (by kernel_rfl) h)
        · clear h
          intro l I S _ h
          obtain ⟨out_8, out_8n, out_8c, e8, h⟩ := asSl_e h
          obtain ⟨e_9, e9, h⟩ := asV_e h
          obtain ⟨x58, x58n, x58c, e58, h⟩ := asSl_e h
          obtain ⟨x59, e59, h⟩ := asI_e h
          obtain ⟨x60, e60, h⟩ := asI_e h
          rw [upd_eta e8, upd_eta e9, upd_eta e58, upd_eta e59, upd_eta e60]
          refine WP.block' (by kernel_rfl) ?_
          obtain ⟨Inv_again9, m_again9, h0, hr⟩ := h
          refine WP.loop' (by kernel_rfl) (fun m_again9 => fun l I S => asSl (l 8) fun out_8 out_8n out_8c => asV (l 9) fun e_9 => asSl (l 58) fun x58 x58n x58c => asI .i64 (l 59) fun x59 => asI .i64 (l 60) fun x60 => Inv_again9 m_again9 out_8 out_8n out_8c e_9 x58 x58n x58c x59 x60 I S) m_again9 (cast (by kernel_rfl) h0) ?_
          clear h0
          intro m_again9 l I S hle h
          obtain ⟨out_8, out_8n, out_8c, e8, h⟩ := asSl_e h
          obtain ⟨e_9, e9, h⟩ := asV_e h
          obtain ⟨x58, x58n, x58c, e58, h⟩ := asSl_e h
          obtain ⟨x59, e59, h⟩ := asI_e h
          obtain ⟨x60, e60, h⟩ := asI_e h
          rw [upd_eta e8, upd_eta e9, upd_eta e58, upd_eta e59, upd_eta e60]
          have h := hr m_again9 out_8 out_8n out_8c e_9 x58 x58n x58c x59 x60 I S hle h
          clear hr hle
          exact Pre.sound _ _ _ _ _ (cast (by kernel_rfl) h)
      · clear h
        intro l I S _ h
        obtain ⟨out_8, out_8n, out_8c, e8, h⟩ := asSl_e h
        obtain ⟨e_9, e9, h⟩ := asV_e h
        rw [upd_eta e8, upd_eta e9]
        exact Pre.sound _ _ _ _ _ (cast (by kernel_rfl) h)
/-! ### apply_Replace: function 28, bolter/apply.Replace -/
noncomputable def apply_Replace_code : Code := (Tryd.f28.body).getD .skip
def apply_Replace_b6 (again3 : ByteArray → Option Addr → Nat → Nat → Int → IMem → SH → Prop) (R : Value → IMem → SH → Prop) (origin_0 : ByteArray) (z_6 : Option Addr) (z_6n : Nat) (z_6c : Nat) (k_7 : Int) (I : IMem) (S : SH) : Prop :=
  again3 origin_0 z_6 z_6n z_6c (IntKind.wrap .i64 (k_7 + (1 : Int))) I S
def apply_Replace_b5 (again3 : ByteArray → Option Addr → Nat → Nat → Int → IMem → SH → Prop) (R : Value → IMem → SH → Prop) (origin_0 : ByteArray) (z_6 : Option Addr) (z_6n : Nat) (z_6c : Nat) (k_7 : Int) (x27 : Bool) (I : IMem) (S : SH) : Prop :=
  bcase x27
    (R (.tuple #[.slice none 0 0, (.iface 43 (.int .i64 7))]) I S)
    (apply_Replace_b6 again3 R origin_0 z_6 z_6n z_6c k_7 I S)
def apply_Replace_b4 (again3 : ByteArray → Option Addr → Nat → Nat → Int → IMem → SH → Prop) (R : Value → IMem → SH → Prop) (origin_0 : ByteArray) (z_6 : Option Addr) (z_6n : Nat) (z_6c : Nat) (k_7 : Int) (I : IMem) (S : SH) : Prop :=
  ptrP z_6 fun x20 => (0 : Int) ≤ k_7 ∧ k_7 < (z_6n : Int) ∧
  ∃ x21_0, Cell I S (x20.add (k_7.toNat * 4)) (.string x21_0) ∧
  ∃ x21_1, Cell I S ((x20.add (k_7.toNat * 4)).add 1) (.int .u16 x21_1) ∧
  ∃ x21_2, Cell I S ((x20.add (k_7.toNat * 4)).add 2) (.int .u32 x21_2) ∧
  ∃ x21_3, Cell I S ((x20.add (k_7.toNat * 4)).add 3) (.string x21_3) ∧
  ptrP z_6 fun x25 => (0 : Int) ≤ (IntKind.wrap .i64 (k_7 - (1 : Int))) ∧ (IntKind.wrap .i64 (k_7 - (1 : Int))) < (z_6n : Int) ∧
  ∃ x26_0, Cell I S (x25.add ((IntKind.wrap .i64 (k_7 - (1 : Int))).toNat * 4)) (.string x26_0) ∧
  ∃ x26_1, Cell I S ((x25.add ((IntKind.wrap .i64 (k_7 - (1 : Int))).toNat * 4)).add 1) (.int .u16 x26_1) ∧
  ∃ x26_2, Cell I S ((x25.add ((IntKind.wrap .i64 (k_7 - (1 : Int))).toNat * 4)).add 2) (.int .u32 x26_2) ∧
  ∃ x26_3, Cell I S ((x25.add ((IntKind.wrap .i64 (k_7 - (1 : Int))).toNat * 4)).add 3) (.string x26_3) ∧
  apply_Replace_b5 again3 R origin_0 z_6 z_6n z_6c k_7 (((x21_0 : ByteArray) == (x26_0 : ByteArray)) && (((x21_1 : Int) == (x26_1 : Int)) && (((x21_2 : Int) == (x26_2 : Int)) && (((x21_3 : ByteArray) == (x26_3 : ByteArray)) && true)))) I S
def apply_Replace_b7 (R : Value → IMem → SH → Prop) (origin_0 : ByteArray) (z_6 : Option Addr) (z_6n : Nat) (z_6c : Nat) (I : IMem) (S : SH) : Prop :=
  Runs Tryd.prog 47 #[.string origin_0, .slice z_6 z_6n z_6c] I S fun v I1 S1 => ∃ x31_0 x31_0n x31_0c x31_1, v = .tuple #[.slice x31_0 x31_0n x31_0c, x31_1] ∧
  R (.tuple #[.slice x31_0 x31_0n x31_0c, x31_1]) I1 S1
def apply_Replace_l3 (again3 : ByteArray → Option Addr → Nat → Nat → Int → IMem → SH → Prop) (R : Value → IMem → SH → Prop) (origin_0 : ByteArray) (z_6 : Option Addr) (z_6n : Nat) (z_6c : Nat) (k_7 : Int) (I : IMem) (S : SH) : Prop :=
  bcase (decide (k_7 < (z_6n : Int)))
    (apply_Replace_b4 again3 R origin_0 z_6 z_6n z_6c k_7 I S)
    (apply_Replace_b7 R origin_0 z_6 z_6n z_6c I S)
def apply_Replace_b2 (R : Value → IMem → SH → Prop) (origin_0 : ByteArray) (z_6 : Option Addr) (z_6n : Nat) (z_6c : Nat) (k_7 : Int) (I : IMem) (S : SH) : Prop :=
  ∃ (Inv : Nat → ByteArray → Option Addr → Nat → Nat → Int → IMem → SH → Prop) (m : Nat), Inv m origin_0 z_6 z_6n z_6c k_7 I S ∧
    ∀ (m : Nat) (origin_0 : ByteArray) (z_6 : Option Addr) (z_6n : Nat) (z_6c : Nat) (k_7 : Int) (J : IMem) (T : SH), I.le J → Inv m origin_0 z_6 z_6n z_6c k_7 J T →
      apply_Replace_l3 (fun origin_0 z_6 z_6n z_6c k_7 I S => ∃ m', m' < m ∧ Inv m' origin_0 z_6 z_6n z_6c k_7 I S) R origin_0 z_6 z_6n z_6c k_7 J T
def apply_Replace_b1 (R : Value → IMem → SH → Prop) (origin_0 : ByteArray) (z_6 : Option Addr) (z_6n : Nat) (z_6c : Nat) (I : IMem) (S : SH) : Prop :=
  apply_Replace_b2 R origin_0 z_6 z_6n z_6c 1 I S
def apply_Replace (R : Value → IMem → SH → Prop) (origin_0 : ByteArray) (rs_1 : Option Addr) (rs_1n : Nat) (rs_1c : Nat) (I : IMem) (S : SH) : Prop :=
  Runs Tryd.prog 41 #[.slice rs_1 rs_1n rs_1c] I S fun v I1 S1 => ∃ x9 x9n x9c, v = .slice x9 x9n x9c ∧
  Runs Tryd.prog 48 #[.slice x9 x9n x9c, .func (.func 26) #[] #[]] I1 S1 fun v' I1' S1' => v' = .tuple #[] ∧
  apply_Replace_b1 R origin_0 x9 x9n x9c I1' S1'
theorem apply_Replace_fn (R : Value → IMem → SH → Prop) (origin_0 : ByteArray) (rs_1 : Option Addr) (rs_1n : Nat) (rs_1c : Nat) (I : IMem) (S : SH) (h : apply_Replace R origin_0 rs_1 rs_1n rs_1c I S) :
    Runs Tryd.prog 28 #[.string origin_0, .slice rs_1 rs_1n rs_1c] I S R := by
  refine Runs.of_wp (args := [.string origin_0, .slice rs_1 rs_1n rs_1c]) (c := apply_Replace_code) Tryd.func28 (by kernel_rfl) (by kernel_rfl) ?_
  refine WP.cut 3 (fun l I S => asStr (l 0) fun origin_0 => asSl (l 6) fun z_6 z_6n z_6c => apply_Replace_b1 R origin_0 z_6 z_6n z_6c I S) (cast (by kernel_rfl) h) ?_
  clear h
  intro l I S _ h
  obtain ⟨origin_0, e0, h⟩ := asStr_e h
  obtain ⟨z_6, z_6n, z_6c, e6, h⟩ := asSl_e h
  rw [upd_eta e0, upd_eta e6]
  refine WP.seqY (by kernel_rfl) (fun l I S => asStr (l 0) fun origin_0 => asSl (l 6) fun z_6 z_6n z_6c => apply_Replace_b7 R origin_0 z_6 z_6n z_6c I S) ?_ ?_
  ·
    refine WP.cut 1 (fun l I S => asStr (l 0) fun origin_0 => asSl (l 6) fun z_6 z_6n z_6c => asI .i64 (l 7) fun k_7 => apply_Replace_b2 R origin_0 z_6 z_6n z_6c k_7 I S) (cast (by kernel_rfl) h) ?_
    clear h
    intro l I S _ h
    obtain ⟨origin_0, e0, h⟩ := asStr_e h
    obtain ⟨z_6, z_6n, z_6c, e6, h⟩ := asSl_e h
    obtain ⟨k_7, e7, h⟩ := asI_e h
    rw [upd_eta e0, upd_eta e6, upd_eta e7]
    refine WP.block' (by kernel_rfl) ?_
    obtain ⟨Inv_again3, m_again3, h0, hr⟩ := h
    refine WP.loop' (by kernel_rfl) (fun m_again3 => fun l I S => asStr (l 0) fun origin_0 => asSl (l 6) fun z_6 z_6n z_6c => asI .i64 (l 7) fun k_7 => Inv_again3 m_again3 origin_0 z_6 z_6n z_6c k_7 I S) m_again3 (cast (by kernel_rfl) h0) ?_
    clear h0
    intro m_again3 l I S hle h
    obtain ⟨origin_0, e0, h⟩ := asStr_e h
    obtain ⟨z_6, z_6n, z_6c, e6, h⟩ := asSl_e h
    obtain ⟨k_7, e7, h⟩ := asI_e h
    rw [upd_eta e0, upd_eta e6, upd_eta e7]
    have h := hr m_again3 origin_0 z_6 z_6n z_6c k_7 I S hle h
    clear hr hle
    refine WP.cut 1 (fun l I S => asStr (l 0) fun origin_0 => asSl (l 6) fun z_6 z_6n z_6c => asI .i64 (l 7) fun k_7 => apply_Replace_b4 (fun origin_0 z_6 z_6n z_6c k_7 I S => ∃ m', m' < m_again3 ∧ Inv_again3 m' origin_0 z_6 z_6n z_6c k_7 I S) R origin_0 z_6 z_6n z_6c k_7 I S) (cast (by kernel_rfl) h) ?_
    clear h
    intro l I S _ h
    obtain ⟨origin_0, e0, h⟩ := asStr_e h
    obtain ⟨z_6, z_6n, z_6c, e6, h⟩ := asSl_e h
    obtain ⟨k_7, e7, h⟩ := asI_e h
    rw [upd_eta e0, upd_eta e6, upd_eta e7]
    refine WP.seqY (by kernel_rfl) (fun l I S => asStr (l 0) fun origin_0 => asSl (l 6) fun z_6 z_6n z_6c => asI .i64 (l 7) fun k_7 => apply_Replace_b6 (fun origin_0 z_6 z_6n z_6c k_7 I S => ∃ m', m' < m_again3 ∧ Inv_again3 m' origin_0 z_6 z_6n z_6c k_7 I S) R origin_0 z_6 z_6n z_6c k_7 I S) ?_ ?_
    ·
      refine WP.block' (by kernel_rfl) ?_
      refine WP.seqY (by kernel_rfl) (fun l I S => asStr (l 0) fun origin_0 => asSl (l 6) fun z_6 z_6n z_6c => asI .i64 (l 7) fun k_7 => asB (l 27) fun x27 => apply_Replace_b5 (fun origin_0 z_6 z_6n z_6c k_7 I S => ∃ m', m' < m_again3 ∧ Inv_again3 m' origin_0 z_6 z_6n z_6c k_7 I S) R origin_0 z_6 z_6n z_6c k_7 x27 I S) ?_ ?_
      ·
        exact WP.quiet' (by kernel_rfl) (by kernel_rfl) (by kernel_rfl) (cast (by kernel_rfl) h)
      · clear h
        intro l I S _ h
        obtain ⟨origin_0, e0, h⟩ := asStr_e h
        obtain ⟨z_6, z_6n, z_6c, e6, h⟩ := asSl_e h
        obtain ⟨k_7, e7, h⟩ := asI_e h
        obtain ⟨x27, e27, h⟩ := asB_e h
        rw [upd_eta e0, upd_eta e6, upd_eta e7, upd_eta e27]
        exact Pre.sound _ _ _ _ _ (cast (by kernel_rfl) h)
    · clear h
      intro l I S _ h
      obtain ⟨origin_0, e0, h⟩ := asStr_e h
      obtain ⟨z_6, z_6n, z_6c, e6, h⟩ := asSl_e h
      obtain ⟨k_7, e7, h⟩ := asI_e h
      rw [upd_eta e0, upd_eta e6, upd_eta e7]
      exact Pre.sound _ _ _ _ _ (cast (by kernel_rfl) h)
  · clear h
    intro l I S _ h
    obtain ⟨origin_0, e0, h⟩ := asStr_e h
    obtain ⟨z_6, z_6n, z_6c, e6, h⟩ := asSl_e h
    rw [upd_eta e0, upd_eta e6]
    exact Pre.sound _ _ _ _ _ (cast (by kernel_rfl) h)
/-! ### apply_checked: function 47, bolter/apply.checked -/
noncomputable def apply_checked_code : Code := (Tryd.f47.body).getD .skip
def apply_checked (R : Value → IMem → SH → Prop) (origin_0 : ByteArray) (z_1 : Option Addr) (z_1n : Nat) (z_1c : Nat) (I : IMem) (S : SH) : Prop :=
  Runs Tryd.prog 63 #[.slice z_1 z_1n z_1c] I S fun v I1 S1 => ∃ x8, v = .bool x8 ∧
  bcase (!x8)
    (R (.tuple #[.slice none 0 0, (.iface 43 (.int .i64 8))]) I1 S1)
    (Runs Tryd.prog 64 #[.slice z_1 z_1n z_1c, .string origin_0] I1 S1 fun v' I1' S1' => ∃ x14, v' = .bool x14 ∧
    bcase (!x14)
      (R (.tuple #[.slice none 0 0, (.iface 43 (.int .i64 4))]) I1' S1')
      (R (.tuple #[.slice z_1 z_1n z_1c, .nilIface]) I1' S1'))
theorem apply_checked_fn (R : Value → IMem → SH → Prop) (origin_0 : ByteArray) (z_1 : Option Addr) (z_1n : Nat) (z_1c : Nat) (I : IMem) (S : SH) (h : apply_checked R origin_0 z_1 z_1n z_1c I S) :
    Runs Tryd.prog 47 #[.string origin_0, .slice z_1 z_1n z_1c] I S R := by
  refine Runs.of_wp (args := [.string origin_0, .slice z_1 z_1n z_1c]) (c := apply_checked_code) Tryd.func47 (by kernel_rfl) (by kernel_rfl) ?_
  exact Pre.sound _ _ _ _ _ (cast (by kernel_rfl) h)
/-! ### bolterlaw07_Make: function 38, bolter/bolterlaw07.Make -/
noncomputable def bolterlaw07_Make_code : Code := (Tryd.f38.body).getD .skip
def bolterlaw07_Make (R : Value → IMem → SH → Prop) (ns_0 : Option Addr) (ns_0n : Nat) (ns_0c : Nat) (serial_1 : Int) (refresh_2 : Int) (retry_3 : Int) (expire_4 : Int) (I : IMem) (S : SH) : Prop :=
  Runs Tryd.prog 32 #[.slice ns_0 ns_0n ns_0c] I S fun v I1 S1 => ∃ x13, v = .string x13 ∧
  ((x13.size + (⟨#[0]⟩ : ByteArray).size : Nat) : Int) ≤ 9223372036854775807 ∧
  (((x13 ++ (⟨#[0]⟩ : ByteArray)).size + x13.size : Nat) : Int) ≤ 9223372036854775807 ∧
  ((((x13 ++ (⟨#[0]⟩ : ByteArray)) ++ x13).size + (⟨#[0]⟩ : ByteArray).size : Nat) : Int) ≤ 9223372036854775807 ∧
  ∀ b26 : Nat,
  Runs Tryd.prog 57 #[.slice none 0 0, .slice (some ⟨b26, 0, none⟩) 5 5] I1 ((b26, .cells #[.int .u32 serial_1, .int .u32 (IntKind.wrap .u32 refresh_2), .int .u32 (IntKind.wrap .u32 retry_3), .int .u32 (IntKind.wrap .u32 expire_4), .int .u32 1] 24 (0, 0)) :: S1) fun v' I1' S1' => ∃ x27 x27n x27c, v' = .slice x27 x27n x27c ∧
  ∃ x28 : ByteArray, BytesAt I1' S1' x27 x27n x28 ∧
  (((((x13 ++ (⟨#[0]⟩ : ByteArray)) ++ x13) ++ (⟨#[0]⟩ : ByteArray)).size + x28.size : Nat) : Int) ≤ 9223372036854775807 ∧
  R (.string ((((x13 ++ (⟨#[0]⟩ : ByteArray)) ++ x13) ++ (⟨#[0]⟩ : ByteArray)) ++ x28)) I1' S1'
theorem bolterlaw07_Make_fn (R : Value → IMem → SH → Prop) (ns_0 : Option Addr) (ns_0n : Nat) (ns_0c : Nat) (serial_1 : Int) (refresh_2 : Int) (retry_3 : Int) (expire_4 : Int) (I : IMem) (S : SH) (h : bolterlaw07_Make R ns_0 ns_0n ns_0c serial_1 refresh_2 retry_3 expire_4 I S) :
    Runs Tryd.prog 38 #[.slice ns_0 ns_0n ns_0c, .int .u32 serial_1, .int .u8 refresh_2, .int .u8 retry_3, .int .u8 expire_4] I S R := by
  refine Runs.of_wp (args := [.slice ns_0 ns_0n ns_0c, .int .u32 serial_1, .int .u8 refresh_2, .int .u8 retry_3, .int .u8 expire_4]) (c := bolterlaw07_Make_code) Tryd.func38 (by kernel_rfl) (by kernel_rfl) ?_
  exact Pre.sound _ _ _ _ _ (cast (by kernel_rfl) h)
/-! ### name_Join: function 39, bolter/name.Join -/
noncomputable def name_Join_code : Code := (Tryd.f39.body).getD .skip
def name_Join_b3 (R : Value → IMem → SH → Prop) (n_0 : ByteArray) (on_1 : ByteArray) (I : IMem) (S : SH) : Prop :=
  ((n_0.size + on_1.size : Nat) : Int) ≤ 9223372036854775807 ∧
  R (.tuple #[.string (n_0 ++ on_1), .bool true]) I S
def name_Join_b2 (R : Value → IMem → SH → Prop) (n_0 : ByteArray) (on_1 : ByteArray) (x21 : Bool) (I : IMem) (S : SH) : Prop :=
  bcase x21
    (R (.tuple #[.string ⟨#[]⟩, .bool false]) I S)
    (name_Join_b3 R n_0 on_1 I S)
def name_Join_b1 (R : Value → IMem → SH → Prop) (n_0 : ByteArray) (on_1 : ByteArray) (I : IMem) (S : SH) : Prop :=
  Runs Tryd.prog 58 #[.string n_0] I S fun v I1 S1 => ∃ x7, v = .bool x7 ∧
  bcase (!x7)
    (name_Join_b2 R n_0 on_1 true I1 S1)
    (Runs Tryd.prog 58 #[.string on_1] I1 S1 fun v' I1' S1' => ∃ x11, v' = .bool x11 ∧
    bcase (!x11)
      (name_Join_b2 R n_0 on_1 true I1' S1')
      (name_Join_b2 R n_0 on_1 (decide ((IntKind.wrap .i64 ((n_0.size : Int) + (on_1.size : Int))) > (254 : Int))) I1' S1'))
def name_Join (R : Value → IMem → SH → Prop) (n_0 : ByteArray) (on_1 : ByteArray) (I : IMem) (S : SH) : Prop :=
  name_Join_b1 R n_0 on_1 I S
theorem name_Join_fn (R : Value → IMem → SH → Prop) (n_0 : ByteArray) (on_1 : ByteArray) (I : IMem) (S : SH) (h : name_Join R n_0 on_1 I S) :
    Runs Tryd.prog 39 #[.string n_0, .string on_1] I S R := by
  refine Runs.of_wp (args := [.string n_0, .string on_1]) (c := name_Join_code) Tryd.func39 (by kernel_rfl) (by kernel_rfl) ?_
  refine WP.cut 1 (fun l I S => asStr (l 0) fun n_0 => asStr (l 1) fun on_1 => name_Join_b1 R n_0 on_1 I S) (cast (by kernel_rfl) h) ?_
  clear h
  intro l I S _ h
  obtain ⟨n_0, e0, h⟩ := asStr_e h
  obtain ⟨on_1, e1, h⟩ := asStr_e h
  rw [upd_eta e0, upd_eta e1]
  refine WP.seqY (by kernel_rfl) (fun l I S => asStr (l 0) fun n_0 => asStr (l 1) fun on_1 => name_Join_b3 R n_0 on_1 I S) ?_ ?_
  ·
    refine WP.cut 1 (fun l I S => asStr (l 0) fun n_0 => asStr (l 1) fun on_1 => asB (l 21) fun x21 => name_Join_b2 R n_0 on_1 x21 I S) (cast (by kernel_rfl) h) ?_
    clear h
    intro l I S _ h
    obtain ⟨n_0, e0, h⟩ := asStr_e h
    obtain ⟨on_1, e1, h⟩ := asStr_e h
    obtain ⟨x21, e21, h⟩ := asB_e h
    rw [upd_eta e0, upd_eta e1, upd_eta e21]
    exact Pre.sound _ _ _ _ _ (cast (by kernel_rfl) h)
  · clear h
    intro l I S _ h
    obtain ⟨n_0, e0, h⟩ := asStr_e h
    obtain ⟨on_1, e1, h⟩ := asStr_e h
    rw [upd_eta e0, upd_eta e1]
    exact Pre.sound _ _ _ _ _ (cast (by kernel_rfl) h)
/-! ### num_Put32: function 57, bolter/num.Put32 -/
noncomputable def num_Put32_code : Code := (Tryd.f57.body).getD .skip
def num_Put32_b4 (R : Value → IMem → SH → Prop) (out_5 : Option Addr) (out_5n : Nat) (out_5c : Nat) (I : IMem) (S : SH) : Prop :=
  R (.slice out_5 out_5n out_5c) I S
def num_Put32_l3 (again3 : Option Addr → Nat → Nat → Option Addr → Nat → Nat → Int → Int → IMem → SH → Prop) (R : Value → IMem → SH → Prop) (out_5 : Option Addr) (out_5n : Nat) (out_5c : Nat) (x10 : Option Addr) (x10n : Nat) (x10c : Nat) (x11 : Int) (x12 : Int) (I : IMem) (S : SH) : Prop :=
  bcase (decide (x12 < x11))
    (ptrP x10 fun x14 => (0 : Int) ≤ x12 ∧ x12 < (x10n : Int) ∧
    ∃ x15, Cell I S (x14.add (x12.toNat * 1)) (.int .u32 x15) ∧
    ∀ b28 : Nat,
    AppG 5 1 1 [.int .u8 0] (some (.slice 5)) I ((b28, .cells #[.int .u8 (IntKind.wrap .u8 (x15.fdiv (2 ^ (min (24 : Int).toNat (IntKind.bits .u32))))), .int .u8 (IntKind.wrap .u8 (x15.fdiv (2 ^ (min (16 : Int).toNat (IntKind.bits .u32))))), .int .u8 (IntKind.wrap .u8 (x15.fdiv (2 ^ (min (8 : Int).toNat (IntKind.bits .u32))))), .int .u8 (IntKind.wrap .u8 x15)] 5 (0, 0)) :: S) (.slice out_5 out_5n out_5c) (.slice (some ⟨b28, 0, none⟩) 4 4) fun x29 x29n x29c S1 =>
    again3 x29 x29n x29c x10 x10n x10c x11 (IntKind.wrap .i64 (x12 + (1 : Int))) I S1)
    (num_Put32_b4 R out_5 out_5n out_5c I S)
def num_Put32_b2 (R : Value → IMem → SH → Prop) (out_5 : Option Addr) (out_5n : Nat) (out_5c : Nat) (x10 : Option Addr) (x10n : Nat) (x10c : Nat) (x11 : Int) (x12 : Int) (I : IMem) (S : SH) : Prop :=
  ∃ (Inv : Nat → Option Addr → Nat → Nat → Option Addr → Nat → Nat → Int → Int → IMem → SH → Prop) (m : Nat), Inv m out_5 out_5n out_5c x10 x10n x10c x11 x12 I S ∧
    ∀ (m : Nat) (out_5 : Option Addr) (out_5n : Nat) (out_5c : Nat) (x10 : Option Addr) (x10n : Nat) (x10c : Nat) (x11 : Int) (x12 : Int) (J : IMem) (T : SH), I.le J → Inv m out_5 out_5n out_5c x10 x10n x10c x11 x12 J T →
      num_Put32_l3 (fun out_5 out_5n out_5c x10 x10n x10c x11 x12 I S => ∃ m', m' < m ∧ Inv m' out_5 out_5n out_5c x10 x10n x10c x11 x12 I S) R out_5 out_5n out_5c x10 x10n x10c x11 x12 J T
def num_Put32_b1 (R : Value → IMem → SH → Prop) (ns_1 : Option Addr) (ns_1n : Nat) (ns_1c : Nat) (out_5 : Option Addr) (out_5n : Nat) (out_5c : Nat) (I : IMem) (S : SH) : Prop :=
  num_Put32_b2 R out_5 out_5n out_5c ns_1 ns_1n ns_1c (ns_1n : Int) 0 I S
def num_Put32 (R : Value → IMem → SH → Prop) (b_0 : Option Addr) (b_0n : Nat) (b_0c : Nat) (ns_1 : Option Addr) (ns_1n : Nat) (ns_1c : Nat) (I : IMem) (S : SH) : Prop :=
  AppG 5 1 1 [.int .u8 0] (some (.slice 5)) I S (.slice none 0 0) (.slice b_0 b_0n b_0c) fun x9 x9n x9c S1 =>
  num_Put32_b1 R ns_1 ns_1n ns_1c x9 x9n x9c I S1
theorem num_Put32_fn (R : Value → IMem → SH → Prop) (b_0 : Option Addr) (b_0n : Nat) (b_0c : Nat) (ns_1 : Option Addr) (ns_1n : Nat) (ns_1c : Nat) (I : IMem) (S : SH) (h : num_Put32 R b_0 b_0n b_0c ns_1 ns_1n ns_1c I S) :
    Runs Tryd.prog 57 #[.slice b_0 b_0n b_0c, .slice ns_1 ns_1n ns_1c] I S R := by
  refine Runs.of_wp (args := [.slice b_0 b_0n b_0c, .slice ns_1 ns_1n ns_1c]) (c := num_Put32_code) Tryd.func57 (by kernel_rfl) (by kernel_rfl) ?_
  refine WP.cut 2 (fun l I S => asSl (l 1) fun ns_1 ns_1n ns_1c => asSl (l 5) fun out_5 out_5n out_5c => num_Put32_b1 R ns_1 ns_1n ns_1c out_5 out_5n out_5c I S) (cast (by kernel_rfl) h) ?_
  clear h
  intro l I S _ h
  obtain ⟨ns_1, ns_1n, ns_1c, e1, h⟩ := asSl_e h
  obtain ⟨out_5, out_5n, out_5c, e5, h⟩ := asSl_e h
  rw [upd_eta e1, upd_eta e5]
  refine WP.seqY (by kernel_rfl) (fun l I S => asSl (l 5) fun out_5 out_5n out_5c => num_Put32_b4 R out_5 out_5n out_5c I S) ?_ ?_
  ·
    refine WP.cut 1 (fun l I S => asSl (l 5) fun out_5 out_5n out_5c => asSl (l 10) fun x10 x10n x10c => asI .i64 (l 11) fun x11 => asI .i64 (l 12) fun x12 => num_Put32_b2 R out_5 out_5n out_5c x10 x10n x10c x11 x12 I S) (cast (by kernel_rfl) h) ?_
    clear h
    intro l I S _ h
    obtain ⟨out_5, out_5n, out_5c, e5, h⟩ := asSl_e h
    obtain ⟨x10, x10n, x10c, e10, h⟩ := asSl_e h
    obtain ⟨x11, e11, h⟩ := asI_e h
    obtain ⟨x12, e12, h⟩ := asI_e h
    rw [upd_eta e5, upd_eta e10, upd_eta e11, upd_eta e12]
    refine WP.block' (by kernel_rfl) ?_
    obtain ⟨Inv_again3, m_again3, h0, hr⟩ := h
    refine WP.loop' (by kernel_rfl) (fun m_again3 => fun l I S => asSl (l 5) fun out_5 out_5n out_5c => asSl (l 10) fun x10 x10n x10c => asI .i64 (l 11) fun x11 => asI .i64 (l 12) fun x12 => Inv_again3 m_again3 out_5 out_5n out_5c x10 x10n x10c x11 x12 I S) m_again3 (cast (by kernel_rfl) h0) ?_
    clear h0
    intro m_again3 l I S hle h
    obtain ⟨out_5, out_5n, out_5c, e5, h⟩ := asSl_e h
    obtain ⟨x10, x10n, x10c, e10, h⟩ := asSl_e h
    obtain ⟨x11, e11, h⟩ := asI_e h
    obtain ⟨x12, e12, h⟩ := asI_e h
    rw [upd_eta e5, upd_eta e10, upd_eta e11, upd_eta e12]
    have h := hr m_again3 out_5 out_5n out_5c x10 x10n x10c x11 x12 I S hle h
    clear hr hle
    exact Pre.sound _ _ _ _ _ (cast (by kernel_rfl) h)
  · clear h
    intro l I S _ h
    obtain ⟨out_5, out_5n, out_5c, e5, h⟩ := asSl_e h
    rw [upd_eta e5]
    exact Pre.sound _ _ _ _ _ (cast (by kernel_rfl) h)
/-! ### slices_Clone_api_Record_2: function 41, slices.Clone[[]bolter/api.Record,bolter/api.Record] -/
noncomputable def slices_Clone_api_Record_2_code : Code := (Tryd.f41.body).getD .skip
def slices_Clone_api_Record_2 (R : Value → IMem → SH → Prop) (s_0 : Option Addr) (s_0n : Nat) (s_0c : Nat) (I : IMem) (S : SH) : Prop :=
  bcase ((s_0 : Option Addr).isNone)
    (R (.slice none 0 0) I S)
    (∀ b5 : Nat,
    AppG 36 4 40 [.string ⟨#[]⟩, .int .u16 0, .int .u32 0, .string ⟨#[]⟩] (some (.slice 36)) I ((b5, .cells #[] 36 (0, 0)) :: S) (.slice (some ⟨b5, 0, none⟩) 0 0) (.slice s_0 s_0n s_0c) fun x7 x7n x7c S1 =>
    R (.slice x7 x7n x7c) I S1)
theorem slices_Clone_api_Record_2_fn (R : Value → IMem → SH → Prop) (s_0 : Option Addr) (s_0n : Nat) (s_0c : Nat) (I : IMem) (S : SH) (h : slices_Clone_api_Record_2 R s_0 s_0n s_0c I S) :
    Runs Tryd.prog 41 #[.slice s_0 s_0n s_0c] I S R := by
  refine Runs.of_wp (args := [.slice s_0 s_0n s_0c]) (c := slices_Clone_api_Record_2_code) Tryd.func41 (by kernel_rfl) (by kernel_rfl) ?_
  exact Pre.sound _ _ _ _ _ (cast (by kernel_rfl) h)
/-! ### slices_SortFunc_api_Record: function 48, slices.SortFunc[bolter/zone.Zone,bolter/api.Record] -/
noncomputable def slices_SortFunc_api_Record_code : Code := (Tryd.f48.body).getD .skip
def slices_SortFunc_api_Record (R : Value → IMem → SH → Prop) (x_0 : Option Addr) (x_0n : Nat) (x_0c : Nat) (I : IMem) (S : SH) : Prop :=
  Runs Tryd.prog 66 #[.int .u64 (IntKind.wrap .u64 (x_0n : Int))] I S fun v I1 S1 => ∃ x11, v = .int .i64 x11 ∧
  Runs Tryd.prog 65 #[.slice x_0 x_0n x_0c, .int .i64 0, .int .i64 (x_0n : Int), .int .i64 x11, .func (.func 26) #[] #[]] I1 S1 fun v' I1' S1' => v' = .tuple #[] ∧
  R (.tuple #[]) I1' S1'
theorem slices_SortFunc_api_Record_fn (R : Value → IMem → SH → Prop) (x_0 : Option Addr) (x_0n : Nat) (x_0c : Nat) (I : IMem) (S : SH) (h : slices_SortFunc_api_Record R x_0 x_0n x_0c I S) :
    Runs Tryd.prog 48 #[.slice x_0 x_0n x_0c, .func (.func 26) #[] #[]] I S R := by
  refine Runs.of_wp (args := [.slice x_0 x_0n x_0c, .func (.func 26) #[] #[]]) (c := slices_SortFunc_api_Record_code) Tryd.func48 (by kernel_rfl) (by kernel_rfl) ?_
  exact Pre.sound _ _ _ _ _ (cast (by kernel_rfl) h)
/-! ### bits_Len: function 66, math/bits.Len -/
noncomputable def bits_Len_code : Code := (Tryd.f66.body).getD .skip
def bits_Len (R : Value → IMem → SH → Prop) (x_0 : Int) (I : IMem) (S : SH) : Prop :=
  Runs Tryd.prog 88 #[.int .u64 x_0] I S fun v I1 S1 => ∃ x7, v = .int .i64 x7 ∧
  R (.int .i64 x7) I1 S1
theorem bits_Len_fn (R : Value → IMem → SH → Prop) (x_0 : Int) (I : IMem) (S : SH) (h : bits_Len R x_0 I S) :
    Runs Tryd.prog 66 #[.int .u64 x_0] I S R := by
  refine Runs.of_wp (args := [.int .u64 x_0]) (c := bits_Len_code) Tryd.func66 (by kernel_rfl) (by kernel_rfl) ?_
  exact Pre.sound _ _ _ _ _ (cast (by kernel_rfl) h)
end Go.Proofs.YtdajglfbbcbgpaaDoor
