import Derived.Test.YtmlojdbahlfiaaaGreatDoorProg
import Derived.Test.YtmlojdbahlfiaaaGreatDoorRows
import Derived.LaidLaws
import Derived.Lay
import Derived.Stop.LaidErr
import Derived.Lib.LaidTab
import Derived.ChangeVars
import Derived.MakeChecks
import Derived.Test.YtmlojdbahlfiaaaGreatDoorM1SearchZones
import Derived.Test.YtmlojdbahlfiaaaGreatDoorM2SearchZones
import Derived.Test.YtmlojdbahlfiaaaGreatDoorM3SearchZones
import Derived.Test.YtmlojdbahlfiaaaGreatDoorM4SearchZones
import Derived.Test.YtmlojdbahlfiaaaGreatDoorM5SearchZones
set_option linter.unusedVariables false
set_option maxRecDepth 8000
set_option maxHeartbeats 2000000
namespace Go.Proofs.YtmlojdbahlfiaaaGreatDoor
open Go.Px
def bolterlaw19_SearchZones_b9 (R : RT) (x8 : Bool) (I : IMem) (S : SH) : Prop :=
  R (.bool x8) I S
def bolterlaw19_SearchZones_b8 (R : RT) (x9 : OA) (x9n x9c : Nat) (x12 : Bool) (x13 : Addr) (x14 : Bool) (I : IMem) (S : SH) : Prop :=
  bcase x12
    (bolterlaw19_SearchZones_b9 R true I S)
    (bcase (!x14)
      (bolterlaw19_SearchZones_b9 R true I S)
      (∃ u0, Cell I S x13 (.int .i64 u0) ∧
      bolterlaw19_SearchZones_b9 R (u0 == (x9n : Int)) I S))
def bolterlaw19_SearchZones_b7 (R : RT) (x9 : OA) (x9n x9c : Nat) (x12 : Bool) (x13 : Addr) (x14 x86 : Bool) (I : IMem) (S : SH) : Prop :=
  bcase x86
    (R (.bool false) I S)
    (bolterlaw19_SearchZones_b8 R x9 x9n x9c x12 x13 x14 I S)
def bolterlaw19_SearchZones_b6 (R : RT) (x9 : OA) (x9n x9c : Nat) (x11 : Addr) (x12 : Bool) (x13 : Addr) (x14 : Bool) (x15 : Addr) (x16 : Bool) (I : IMem) (S : SH) : Prop :=
  bcase x12
    (bcase (!x14)
      (bolterlaw19_SearchZones_b7 R x9 x9n x9c x12 x13 x14 true I S)
      (∃ u0, Cell I S x11 (.int .i64 u0) ∧
      ∃ u1, Cell I S (x11.add 1) (.int .i64 u1) ∧
      ∃ u2, Cell I S (x11.add 2) (.string u2) ∧
      ∃ u3, Cell I S (x11.add 3) (.string u3) ∧
      ∃ u4, Cell I S (x11.add 4) (.int .i64 u4) ∧
      ∃ u5, Cell I S (x11.add 5) (.int .i64 u5) ∧
      ∃ u6, Cell I S (x11.add 6) (.string u6) ∧
      ∃ u7, Cell I S (x11.add 7) (.bool u7) ∧
      ∃ u8 u8n u8c, Cell I S (x11.add 8) (.slice u8 u8n u8c) ∧
      ∃ u9, Cell I S x13 (.int .i64 u9) ∧
      ∃ ua, Cell I S (x13.add 1) (.int .i64 ua) ∧
      ∃ ub, Cell I S (x13.add 2) (.string ub) ∧
      ∃ uc, Cell I S (x13.add 3) (.string uc) ∧
      ∃ ud, Cell I S (x13.add 4) (.int .i64 ud) ∧
      ∃ ue, Cell I S (x13.add 5) (.int .i64 ue) ∧
      ∃ uf, Cell I S (x13.add 6) (.string uf) ∧
      ∃ ug, Cell I S (x13.add 7) (.bool ug) ∧
      ∃ uh uhn uhc, Cell I S (x13.add 8) (.slice uh uhn uhc) ∧
      Runs Tryz.prog 32 #[.agg #[.int .i64 u0, .int .i64 u1, .string u2, .string u3, .int .i64 u4, .int .i64 u5, .string u6, .bool u7, .slice u8 u8n u8c], .agg #[.int .i64 u9, .int .i64 ua, .string ub, .string uc, .int .i64 ud, .int .i64 ue, .string uf, .bool ug, .slice uh uhn uhc]] I S fun v I1 S1 => ∃ ui, v = .bool ui ∧
      bcase (!ui)
        (bolterlaw19_SearchZones_b7 R x9 x9n x9c x12 x13 x14 true I1 S1)
        (bcase (!(x16 == x12))
          (bolterlaw19_SearchZones_b7 R x9 x9n x9c x12 x13 x14 true I1 S1)
          (∃ uj, Cell I1 S1 x15 (.int .i64 uj) ∧
          ∃ uk, Cell I1 S1 (x15.add 1) (.int .i64 uk) ∧
          ∃ ul, Cell I1 S1 (x15.add 2) (.string ul) ∧
          ∃ um, Cell I1 S1 (x15.add 3) (.string um) ∧
          ∃ un, Cell I1 S1 (x15.add 4) (.int .i64 un) ∧
          ∃ uo, Cell I1 S1 (x15.add 5) (.int .i64 uo) ∧
          ∃ up, Cell I1 S1 (x15.add 6) (.string up) ∧
          ∃ uq, Cell I1 S1 (x15.add 7) (.bool uq) ∧
          ∃ ur urn urc, Cell I1 S1 (x15.add 8) (.slice ur urn urc) ∧
          ∃ us, Cell I1 S1 x11 (.int .i64 us) ∧
          ∃ ut, Cell I1 S1 (x11.add 1) (.int .i64 ut) ∧
          ∃ uu, Cell I1 S1 (x11.add 2) (.string uu) ∧
          ∃ uv, Cell I1 S1 (x11.add 3) (.string uv) ∧
          ∃ uw, Cell I1 S1 (x11.add 4) (.int .i64 uw) ∧
          ∃ ux, Cell I1 S1 (x11.add 5) (.int .i64 ux) ∧
          ∃ uy, Cell I1 S1 (x11.add 6) (.string uy) ∧
          ∃ uz, Cell I1 S1 (x11.add 7) (.bool uz) ∧
          ∃ u10 u10n u10c, Cell I1 S1 (x11.add 8) (.slice u10 u10n u10c) ∧
          Runs Tryz.prog 32 #[.agg #[.int .i64 uj, .int .i64 uk, .string ul, .string um, .int .i64 un, .int .i64 uo, .string up, .bool uq, .slice ur urn urc], .agg #[.int .i64 us, .int .i64 ut, .string uu, .string uv, .int .i64 uw, .int .i64 ux, .string uy, .bool uz, .slice u10 u10n u10c]] I1 S1 fun v' I1' S1' => ∃ u11, v' = .bool u11 ∧
          bolterlaw19_SearchZones_b7 R x9 x9n x9c x12 x13 x14 (!u11) I1' S1'))))
    (bcase (!(x16 == x12))
      (bolterlaw19_SearchZones_b7 R x9 x9n x9c x12 x13 x14 true I S)
      (∃ u12, Cell I S x15 (.int .i64 u12) ∧
      ∃ u13, Cell I S (x15.add 1) (.int .i64 u13) ∧
      ∃ u14, Cell I S (x15.add 2) (.string u14) ∧
      ∃ u15, Cell I S (x15.add 3) (.string u15) ∧
      ∃ u16, Cell I S (x15.add 4) (.int .i64 u16) ∧
      ∃ u17, Cell I S (x15.add 5) (.int .i64 u17) ∧
      ∃ u18, Cell I S (x15.add 6) (.string u18) ∧
      ∃ u19, Cell I S (x15.add 7) (.bool u19) ∧
      ∃ u1a u1an u1ac, Cell I S (x15.add 8) (.slice u1a u1an u1ac) ∧
      ∃ u1b, Cell I S x11 (.int .i64 u1b) ∧
      ∃ u1c, Cell I S (x11.add 1) (.int .i64 u1c) ∧
      ∃ u1d, Cell I S (x11.add 2) (.string u1d) ∧
      ∃ u1e, Cell I S (x11.add 3) (.string u1e) ∧
      ∃ u1f, Cell I S (x11.add 4) (.int .i64 u1f) ∧
      ∃ u1g, Cell I S (x11.add 5) (.int .i64 u1g) ∧
      ∃ u1h, Cell I S (x11.add 6) (.string u1h) ∧
      ∃ u1i, Cell I S (x11.add 7) (.bool u1i) ∧
      ∃ u1j u1jn u1jc, Cell I S (x11.add 8) (.slice u1j u1jn u1jc) ∧
      Runs Tryz.prog 32 #[.agg #[.int .i64 u12, .int .i64 u13, .string u14, .string u15, .int .i64 u16, .int .i64 u17, .string u18, .bool u19, .slice u1a u1an u1ac], .agg #[.int .i64 u1b, .int .i64 u1c, .string u1d, .string u1e, .int .i64 u1f, .int .i64 u1g, .string u1h, .bool u1i, .slice u1j u1jn u1jc]] I S fun v'' I1'' S1'' => ∃ u1k, v'' = .bool u1k ∧
      bolterlaw19_SearchZones_b7 R x9 x9n x9c x12 x13 x14 (!u1k) I1'' S1''))
def bolterlaw19_SearchZones_b5 (R : RT) (x9 : OA) (x9n x9c : Nat) (x11 : Addr) (x12 : Bool) (x13 : Addr) (x14 : Bool) (x15 : Addr) (x16 : Bool) (I : IMem) (S : SH) : Prop :=
  bolterlaw19_SearchZones_b6 R x9 x9n x9c x11 x12 x13 x14 x15 x16 I S
def bolterlaw19_SearchZones_b4 (R : RT) (x7 : Addr) (x9 : OA) (x9n x9c : Nat) (x10 x11 : Addr) (x12 : Bool) (x13 : Addr) (x14 : Bool) (I : IMem) (S : SH) : Prop :=
  ∃ u0, Cell I S x10 (.string u0) ∧
  ∃ u1 u1n u1c, Cell I S (x10.add 1) (.slice u1 u1n u1c) ∧
  ∃ u2, Cell I S (x10.add 2) (.bool u2) ∧
  ∃ u3, Cell I S (x10.add 3) (.int .i64 u3) ∧
  ∃ u4, Cell I S x7 (.bool u4) ∧
  ∃ u5 u5n u5c, Cell I S (x7.add 1) (.slice u5 u5n u5c) ∧
  ∃ u6 u6n u6c, Cell I S (x7.add 2) (.slice u6 u6n u6c) ∧
  ∃ u7 u7n u7c, Cell I S (x7.add 3) (.slice u7 u7n u7c) ∧
  ∃ u8 u8n u8c, Cell I S (x7.add 4) (.slice u8 u8n u8c) ∧
  ∃ u9 u9n u9c, Cell I S (x7.add 5) (.slice u9 u9n u9c) ∧
  (AppG 61 4 56 [.string ⟨#[]⟩, .slice none 0 0, .bool false, .int .i64 0] (some (.slice 61)) I S (.slice none 0 0) (.slice x9 x9n x9c) fun ua uan uac S1 =>
  Keep I S I S1 ∧
  (∀ b56 : Nat,
  Keep I S I ((b56, .cells #[.string u0, .slice u1 u1n u1c, .bool u2, .int .i64 u3] 61 (0, 0)) :: S1) ∧
  (AppG 61 4 56 [.string ⟨#[]⟩, .slice none 0 0, .bool false, .int .i64 0] (some (.slice 61)) I ((b56, .cells #[.string u0, .slice u1 u1n u1c, .bool u2, .int .i64 u3] 61 (0, 0)) :: S1) (.slice ua uan uac) (.slice (some ⟨b56, 0, none⟩) 1 1) fun ub ubn ubc S1' =>
  Keep I S I S1' ∧
  (Runs Tryz.prog 14 #[.agg #[.bool u4, .slice u5 u5n u5c, .slice u6 u6n u6c, .slice u7 u7n u7c, .slice u8 u8n u8c, .slice u9 u9n u9c]] I S1' fun v I1 S1'' => ∃ uc ud ue uen uec uf ufn ufc ug ugn ugc, v = .agg #[.string uc, .string ud, .slice ue uen uec, .slice uf ufn ufc, .slice ug ugn ugc] ∧
  (Runs Tryz.prog 30 #[.slice ub ubn ubc, .agg #[.string uc, .string ud, .slice ue uen uec, .slice uf ufn ufc, .slice ug ugn ugc]] I1 S1'' fun v' I1' S1_r3 => ∃ uh ui uj uk ul um un uo up upn upc uq, v' = .tuple #[.agg #[.int .i64 uh, .int .i64 ui, .string uj, .string uk, .int .i64 ul, .int .i64 um, .string un, .bool uo, .slice up upn upc], .bool uq] ∧
  ∀ b15 : Nat,
  Keep I S I1' ((b15, .cells #[.int .i64 0, .int .i64 0, .string ⟨#[]⟩, .string ⟨#[]⟩, .int .i64 0, .int .i64 0, .string ⟨#[]⟩, .bool false, .slice none 0 0] 80 (0, 0)) :: S1_r3) ∧
  StP ((b15, .cells #[.int .i64 0, .int .i64 0, .string ⟨#[]⟩, .string ⟨#[]⟩, .int .i64 0, .int .i64 0, .string ⟨#[]⟩, .bool false, .slice none 0 0] 80 (0, 0)) :: S1_r3) ⟨b15, 0, none⟩ [.int .i64 uh, .int .i64 ui, .string uj, .string uk, .int .i64 ul, .int .i64 um, .string un, .bool uo, .slice up upn upc] fun S1_r4 =>
  bolterlaw19_SearchZones_b5 R x9 x9n x9c x11 x12 x13 x14 ⟨b15, 0, none⟩ uq I1' S1_r4) ∧
  (∀ b15' : Nat,
  Keep I S I1 ((b15', .cells #[.int .i64 0, .int .i64 0, .string ⟨#[]⟩, .string ⟨#[]⟩, .int .i64 0, .int .i64 0, .string ⟨#[]⟩, .bool false, .slice none 0 0] 80 (0, 0)) :: S1'') ∧
  Runs Tryz.prog 30 #[.slice ub ubn ubc, .agg #[.string uc, .string ud, .slice ue uen uec, .slice uf ufn ufc, .slice ug ugn ugc]] I1 ((b15', .cells #[.int .i64 0, .int .i64 0, .string ⟨#[]⟩, .string ⟨#[]⟩, .int .i64 0, .int .i64 0, .string ⟨#[]⟩, .bool false, .slice none 0 0] 80 (0, 0)) :: S1'') fun v'' I1'' S1_r5 => ∃ ur us ut uu uv uw ux uy uz uzn uzc u10, v'' = .tuple #[.agg #[.int .i64 ur, .int .i64 us, .string ut, .string uu, .int .i64 uv, .int .i64 uw, .string ux, .bool uy, .slice uz uzn uzc], .bool u10] ∧
  StP S1_r5 ⟨b15', 0, none⟩ [.int .i64 ur, .int .i64 us, .string ut, .string uu, .int .i64 uv, .int .i64 uw, .string ux, .bool uy, .slice uz uzn uzc] fun S1_r6 =>
  bolterlaw19_SearchZones_b5 R x9 x9n x9c x11 x12 x13 x14 ⟨b15', 0, none⟩ u10 I1'' S1_r6)) ∧
  (∀ b15'' : Nat,
  Keep I S I ((b15'', .cells #[.int .i64 0, .int .i64 0, .string ⟨#[]⟩, .string ⟨#[]⟩, .int .i64 0, .int .i64 0, .string ⟨#[]⟩, .bool false, .slice none 0 0] 80 (0, 0)) :: S1') ∧
  Runs Tryz.prog 14 #[.agg #[.bool u4, .slice u5 u5n u5c, .slice u6 u6n u6c, .slice u7 u7n u7c, .slice u8 u8n u8c, .slice u9 u9n u9c]] I ((b15'', .cells #[.int .i64 0, .int .i64 0, .string ⟨#[]⟩, .string ⟨#[]⟩, .int .i64 0, .int .i64 0, .string ⟨#[]⟩, .bool false, .slice none 0 0] 80 (0, 0)) :: S1') fun v_r3 I1_r3 S1_r7 => ∃ u11 u12 u13 u13n u13c u14 u14n u14c u15 u15n u15c, v_r3 = .agg #[.string u11, .string u12, .slice u13 u13n u13c, .slice u14 u14n u14c, .slice u15 u15n u15c] ∧
  Runs Tryz.prog 30 #[.slice ub ubn ubc, .agg #[.string u11, .string u12, .slice u13 u13n u13c, .slice u14 u14n u14c, .slice u15 u15n u15c]] I1_r3 S1_r7 fun v_r4 I1_r4 S1_r8 => ∃ u16 u17 u18 u19 u1a u1b u1c u1d u1e u1en u1ec u1f, v_r4 = .tuple #[.agg #[.int .i64 u16, .int .i64 u17, .string u18, .string u19, .int .i64 u1a, .int .i64 u1b, .string u1c, .bool u1d, .slice u1e u1en u1ec], .bool u1f] ∧
  StP S1_r8 ⟨b15'', 0, none⟩ [.int .i64 u16, .int .i64 u17, .string u18, .string u19, .int .i64 u1a, .int .i64 u1b, .string u1c, .bool u1d, .slice u1e u1en u1ec] fun S1_r9 =>
  bolterlaw19_SearchZones_b5 R x9 x9n x9c x11 x12 x13 x14 ⟨b15'', 0, none⟩ u1f I1_r4 S1_r9)) ∧
  (∀ b15_r3 : Nat,
  Keep I S I ((b15_r3, .cells #[.int .i64 0, .int .i64 0, .string ⟨#[]⟩, .string ⟨#[]⟩, .int .i64 0, .int .i64 0, .string ⟨#[]⟩, .bool false, .slice none 0 0] 80 (0, 0)) :: ((b56, .cells #[.string u0, .slice u1 u1n u1c, .bool u2, .int .i64 u3] 61 (0, 0)) :: S1)) ∧
  AppG 61 4 56 [.string ⟨#[]⟩, .slice none 0 0, .bool false, .int .i64 0] (some (.slice 61)) I ((b15_r3, .cells #[.int .i64 0, .int .i64 0, .string ⟨#[]⟩, .string ⟨#[]⟩, .int .i64 0, .int .i64 0, .string ⟨#[]⟩, .bool false, .slice none 0 0] 80 (0, 0)) :: ((b56, .cells #[.string u0, .slice u1 u1n u1c, .bool u2, .int .i64 u3] 61 (0, 0)) :: S1)) (.slice ua uan uac) (.slice (some ⟨b56, 0, none⟩) 1 1) fun u1g u1gn u1gc S1_r10 =>
  Keep I S I S1_r10 ∧
  Runs Tryz.prog 14 #[.agg #[.bool u4, .slice u5 u5n u5c, .slice u6 u6n u6c, .slice u7 u7n u7c, .slice u8 u8n u8c, .slice u9 u9n u9c]] I S1_r10 fun v_r5 I1_r5 S1_r11 => ∃ u1h u1i u1j u1jn u1jc u1k u1kn u1kc u1l u1ln u1lc, v_r5 = .agg #[.string u1h, .string u1i, .slice u1j u1jn u1jc, .slice u1k u1kn u1kc, .slice u1l u1ln u1lc] ∧
  Runs Tryz.prog 30 #[.slice u1g u1gn u1gc, .agg #[.string u1h, .string u1i, .slice u1j u1jn u1jc, .slice u1k u1kn u1kc, .slice u1l u1ln u1lc]] I1_r5 S1_r11 fun v_r6 I1_r6 S1_r12 => ∃ u1m u1n u1o u1p u1q u1r u1s u1t u1u u1un u1uc u1v, v_r6 = .tuple #[.agg #[.int .i64 u1m, .int .i64 u1n, .string u1o, .string u1p, .int .i64 u1q, .int .i64 u1r, .string u1s, .bool u1t, .slice u1u u1un u1uc], .bool u1v] ∧
  StP S1_r12 ⟨b15_r3, 0, none⟩ [.int .i64 u1m, .int .i64 u1n, .string u1o, .string u1p, .int .i64 u1q, .int .i64 u1r, .string u1s, .bool u1t, .slice u1u u1un u1uc] fun S1_r13 =>
  bolterlaw19_SearchZones_b5 R x9 x9n x9c x11 x12 x13 x14 ⟨b15_r3, 0, none⟩ u1v I1_r6 S1_r13)) ∧
  (∀ b15_r4 : Nat,
  Keep I S I ((b15_r4, .cells #[.int .i64 0, .int .i64 0, .string ⟨#[]⟩, .string ⟨#[]⟩, .int .i64 0, .int .i64 0, .string ⟨#[]⟩, .bool false, .slice none 0 0] 80 (0, 0)) :: S1) ∧
  ∀ b56' : Nat,
  Keep I S I ((b56', .cells #[.string u0, .slice u1 u1n u1c, .bool u2, .int .i64 u3] 61 (0, 0)) :: ((b15_r4, .cells #[.int .i64 0, .int .i64 0, .string ⟨#[]⟩, .string ⟨#[]⟩, .int .i64 0, .int .i64 0, .string ⟨#[]⟩, .bool false, .slice none 0 0] 80 (0, 0)) :: S1)) ∧
  AppG 61 4 56 [.string ⟨#[]⟩, .slice none 0 0, .bool false, .int .i64 0] (some (.slice 61)) I ((b56', .cells #[.string u0, .slice u1 u1n u1c, .bool u2, .int .i64 u3] 61 (0, 0)) :: ((b15_r4, .cells #[.int .i64 0, .int .i64 0, .string ⟨#[]⟩, .string ⟨#[]⟩, .int .i64 0, .int .i64 0, .string ⟨#[]⟩, .bool false, .slice none 0 0] 80 (0, 0)) :: S1)) (.slice ua uan uac) (.slice (some ⟨b56', 0, none⟩) 1 1) fun u1w u1wn u1wc S1_r14 =>
  Keep I S I S1_r14 ∧
  Runs Tryz.prog 14 #[.agg #[.bool u4, .slice u5 u5n u5c, .slice u6 u6n u6c, .slice u7 u7n u7c, .slice u8 u8n u8c, .slice u9 u9n u9c]] I S1_r14 fun v_r7 I1_r7 S1_r15 => ∃ u1x u1y u1z u1zn u1zc u20 u20n u20c u21 u21n u21c, v_r7 = .agg #[.string u1x, .string u1y, .slice u1z u1zn u1zc, .slice u20 u20n u20c, .slice u21 u21n u21c] ∧
  Runs Tryz.prog 30 #[.slice u1w u1wn u1wc, .agg #[.string u1x, .string u1y, .slice u1z u1zn u1zc, .slice u20 u20n u20c, .slice u21 u21n u21c]] I1_r7 S1_r15 fun v_r8 I1_r8 S1_r16 => ∃ u22 u23 u24 u25 u26 u27 u28 u29 u2a u2an u2ac u2b, v_r8 = .tuple #[.agg #[.int .i64 u22, .int .i64 u23, .string u24, .string u25, .int .i64 u26, .int .i64 u27, .string u28, .bool u29, .slice u2a u2an u2ac], .bool u2b] ∧
  StP S1_r16 ⟨b15_r4, 0, none⟩ [.int .i64 u22, .int .i64 u23, .string u24, .string u25, .int .i64 u26, .int .i64 u27, .string u28, .bool u29, .slice u2a u2an u2ac] fun S1_r17 =>
  bolterlaw19_SearchZones_b5 R x9 x9n x9c x11 x12 x13 x14 ⟨b15_r4, 0, none⟩ u2b I1_r8 S1_r17)) ∧
  (∀ b56'' : Nat,
  Keep I S I ((b56'', .cells #[.string u0, .slice u1 u1n u1c, .bool u2, .int .i64 u3] 61 (0, 0)) :: S) ∧
  (AppG 61 4 56 [.string ⟨#[]⟩, .slice none 0 0, .bool false, .int .i64 0] (some (.slice 61)) I ((b56'', .cells #[.string u0, .slice u1 u1n u1c, .bool u2, .int .i64 u3] 61 (0, 0)) :: S) (.slice none 0 0) (.slice x9 x9n x9c) fun u2c u2cn u2cc S1_r18 =>
  Keep I S I S1_r18 ∧
  (AppG 61 4 56 [.string ⟨#[]⟩, .slice none 0 0, .bool false, .int .i64 0] (some (.slice 61)) I S1_r18 (.slice u2c u2cn u2cc) (.slice (some ⟨b56'', 0, none⟩) 1 1) fun u2d u2dn u2dc S1_r19 =>
  Keep I S I S1_r19 ∧
  (Runs Tryz.prog 14 #[.agg #[.bool u4, .slice u5 u5n u5c, .slice u6 u6n u6c, .slice u7 u7n u7c, .slice u8 u8n u8c, .slice u9 u9n u9c]] I S1_r19 fun v_r9 I1_r9 S1_r20 => ∃ u2e u2f u2g u2gn u2gc u2h u2hn u2hc u2i u2in u2ic, v_r9 = .agg #[.string u2e, .string u2f, .slice u2g u2gn u2gc, .slice u2h u2hn u2hc, .slice u2i u2in u2ic] ∧
  (Runs Tryz.prog 30 #[.slice u2d u2dn u2dc, .agg #[.string u2e, .string u2f, .slice u2g u2gn u2gc, .slice u2h u2hn u2hc, .slice u2i u2in u2ic]] I1_r9 S1_r20 fun v_r10 I1_r10 S1_r21 => ∃ u2j u2k u2l u2m u2n u2o u2p u2q u2r u2rn u2rc u2s, v_r10 = .tuple #[.agg #[.int .i64 u2j, .int .i64 u2k, .string u2l, .string u2m, .int .i64 u2n, .int .i64 u2o, .string u2p, .bool u2q, .slice u2r u2rn u2rc], .bool u2s] ∧
  ∀ b15_r5 : Nat,
  Keep I S I1_r10 ((b15_r5, .cells #[.int .i64 0, .int .i64 0, .string ⟨#[]⟩, .string ⟨#[]⟩, .int .i64 0, .int .i64 0, .string ⟨#[]⟩, .bool false, .slice none 0 0] 80 (0, 0)) :: S1_r21) ∧
  StP ((b15_r5, .cells #[.int .i64 0, .int .i64 0, .string ⟨#[]⟩, .string ⟨#[]⟩, .int .i64 0, .int .i64 0, .string ⟨#[]⟩, .bool false, .slice none 0 0] 80 (0, 0)) :: S1_r21) ⟨b15_r5, 0, none⟩ [.int .i64 u2j, .int .i64 u2k, .string u2l, .string u2m, .int .i64 u2n, .int .i64 u2o, .string u2p, .bool u2q, .slice u2r u2rn u2rc] fun S1_r22 =>
  bolterlaw19_SearchZones_b5 R x9 x9n x9c x11 x12 x13 x14 ⟨b15_r5, 0, none⟩ u2s I1_r10 S1_r22) ∧
  (∀ b15_r6 : Nat,
  Keep I S I1_r9 ((b15_r6, .cells #[.int .i64 0, .int .i64 0, .string ⟨#[]⟩, .string ⟨#[]⟩, .int .i64 0, .int .i64 0, .string ⟨#[]⟩, .bool false, .slice none 0 0] 80 (0, 0)) :: S1_r20) ∧
  Runs Tryz.prog 30 #[.slice u2d u2dn u2dc, .agg #[.string u2e, .string u2f, .slice u2g u2gn u2gc, .slice u2h u2hn u2hc, .slice u2i u2in u2ic]] I1_r9 ((b15_r6, .cells #[.int .i64 0, .int .i64 0, .string ⟨#[]⟩, .string ⟨#[]⟩, .int .i64 0, .int .i64 0, .string ⟨#[]⟩, .bool false, .slice none 0 0] 80 (0, 0)) :: S1_r20) fun v_r11 I1_r11 S1_r23 => ∃ u2t u2u u2v u2w u2x u2y u2z u30 u31 u31n u31c u32, v_r11 = .tuple #[.agg #[.int .i64 u2t, .int .i64 u2u, .string u2v, .string u2w, .int .i64 u2x, .int .i64 u2y, .string u2z, .bool u30, .slice u31 u31n u31c], .bool u32] ∧
  StP S1_r23 ⟨b15_r6, 0, none⟩ [.int .i64 u2t, .int .i64 u2u, .string u2v, .string u2w, .int .i64 u2x, .int .i64 u2y, .string u2z, .bool u30, .slice u31 u31n u31c] fun S1_r24 =>
  bolterlaw19_SearchZones_b5 R x9 x9n x9c x11 x12 x13 x14 ⟨b15_r6, 0, none⟩ u32 I1_r11 S1_r24)) ∧
  (∀ b15_r7 : Nat,
  Keep I S I ((b15_r7, .cells #[.int .i64 0, .int .i64 0, .string ⟨#[]⟩, .string ⟨#[]⟩, .int .i64 0, .int .i64 0, .string ⟨#[]⟩, .bool false, .slice none 0 0] 80 (0, 0)) :: S1_r19) ∧
  Runs Tryz.prog 14 #[.agg #[.bool u4, .slice u5 u5n u5c, .slice u6 u6n u6c, .slice u7 u7n u7c, .slice u8 u8n u8c, .slice u9 u9n u9c]] I ((b15_r7, .cells #[.int .i64 0, .int .i64 0, .string ⟨#[]⟩, .string ⟨#[]⟩, .int .i64 0, .int .i64 0, .string ⟨#[]⟩, .bool false, .slice none 0 0] 80 (0, 0)) :: S1_r19) fun v_r12 I1_r12 S1_r25 => ∃ u33 u34 u35 u35n u35c u36 u36n u36c u37 u37n u37c, v_r12 = .agg #[.string u33, .string u34, .slice u35 u35n u35c, .slice u36 u36n u36c, .slice u37 u37n u37c] ∧
  Runs Tryz.prog 30 #[.slice u2d u2dn u2dc, .agg #[.string u33, .string u34, .slice u35 u35n u35c, .slice u36 u36n u36c, .slice u37 u37n u37c]] I1_r12 S1_r25 fun v_r13 I1_r13 S1_r26 => ∃ u38 u39 u3a u3b u3c u3d u3e u3f u3g u3gn u3gc u3h, v_r13 = .tuple #[.agg #[.int .i64 u38, .int .i64 u39, .string u3a, .string u3b, .int .i64 u3c, .int .i64 u3d, .string u3e, .bool u3f, .slice u3g u3gn u3gc], .bool u3h] ∧
  StP S1_r26 ⟨b15_r7, 0, none⟩ [.int .i64 u38, .int .i64 u39, .string u3a, .string u3b, .int .i64 u3c, .int .i64 u3d, .string u3e, .bool u3f, .slice u3g u3gn u3gc] fun S1_r27 =>
  bolterlaw19_SearchZones_b5 R x9 x9n x9c x11 x12 x13 x14 ⟨b15_r7, 0, none⟩ u3h I1_r13 S1_r27)) ∧
  (∀ b15_r8 : Nat,
  Keep I S I ((b15_r8, .cells #[.int .i64 0, .int .i64 0, .string ⟨#[]⟩, .string ⟨#[]⟩, .int .i64 0, .int .i64 0, .string ⟨#[]⟩, .bool false, .slice none 0 0] 80 (0, 0)) :: S1_r18) ∧
  AppG 61 4 56 [.string ⟨#[]⟩, .slice none 0 0, .bool false, .int .i64 0] (some (.slice 61)) I ((b15_r8, .cells #[.int .i64 0, .int .i64 0, .string ⟨#[]⟩, .string ⟨#[]⟩, .int .i64 0, .int .i64 0, .string ⟨#[]⟩, .bool false, .slice none 0 0] 80 (0, 0)) :: S1_r18) (.slice u2c u2cn u2cc) (.slice (some ⟨b56'', 0, none⟩) 1 1) fun u3i u3in u3ic S1_r28 =>
  Keep I S I S1_r28 ∧
  Runs Tryz.prog 14 #[.agg #[.bool u4, .slice u5 u5n u5c, .slice u6 u6n u6c, .slice u7 u7n u7c, .slice u8 u8n u8c, .slice u9 u9n u9c]] I S1_r28 fun v_r14 I1_r14 S1_r29 => ∃ u3j u3k u3l u3ln u3lc u3m u3mn u3mc u3n u3nn u3nc, v_r14 = .agg #[.string u3j, .string u3k, .slice u3l u3ln u3lc, .slice u3m u3mn u3mc, .slice u3n u3nn u3nc] ∧
  Runs Tryz.prog 30 #[.slice u3i u3in u3ic, .agg #[.string u3j, .string u3k, .slice u3l u3ln u3lc, .slice u3m u3mn u3mc, .slice u3n u3nn u3nc]] I1_r14 S1_r29 fun v_r15 I1_r15 S1_r30 => ∃ u3o u3p u3q u3r u3s u3t u3u u3v u3w u3wn u3wc u3x, v_r15 = .tuple #[.agg #[.int .i64 u3o, .int .i64 u3p, .string u3q, .string u3r, .int .i64 u3s, .int .i64 u3t, .string u3u, .bool u3v, .slice u3w u3wn u3wc], .bool u3x] ∧
  StP S1_r30 ⟨b15_r8, 0, none⟩ [.int .i64 u3o, .int .i64 u3p, .string u3q, .string u3r, .int .i64 u3s, .int .i64 u3t, .string u3u, .bool u3v, .slice u3w u3wn u3wc] fun S1_r31 =>
  bolterlaw19_SearchZones_b5 R x9 x9n x9c x11 x12 x13 x14 ⟨b15_r8, 0, none⟩ u3x I1_r15 S1_r31)) ∧
  (∀ b15_r9 : Nat,
  Keep I S I ((b15_r9, .cells #[.int .i64 0, .int .i64 0, .string ⟨#[]⟩, .string ⟨#[]⟩, .int .i64 0, .int .i64 0, .string ⟨#[]⟩, .bool false, .slice none 0 0] 80 (0, 0)) :: ((b56'', .cells #[.string u0, .slice u1 u1n u1c, .bool u2, .int .i64 u3] 61 (0, 0)) :: S)) ∧
  AppG 61 4 56 [.string ⟨#[]⟩, .slice none 0 0, .bool false, .int .i64 0] (some (.slice 61)) I ((b15_r9, .cells #[.int .i64 0, .int .i64 0, .string ⟨#[]⟩, .string ⟨#[]⟩, .int .i64 0, .int .i64 0, .string ⟨#[]⟩, .bool false, .slice none 0 0] 80 (0, 0)) :: ((b56'', .cells #[.string u0, .slice u1 u1n u1c, .bool u2, .int .i64 u3] 61 (0, 0)) :: S)) (.slice none 0 0) (.slice x9 x9n x9c) fun u3y u3yn u3yc S1_r32 =>
  Keep I S I S1_r32 ∧
  AppG 61 4 56 [.string ⟨#[]⟩, .slice none 0 0, .bool false, .int .i64 0] (some (.slice 61)) I S1_r32 (.slice u3y u3yn u3yc) (.slice (some ⟨b56'', 0, none⟩) 1 1) fun u3z u3zn u3zc S1_r33 =>
  Keep I S I S1_r33 ∧
  Runs Tryz.prog 14 #[.agg #[.bool u4, .slice u5 u5n u5c, .slice u6 u6n u6c, .slice u7 u7n u7c, .slice u8 u8n u8c, .slice u9 u9n u9c]] I S1_r33 fun v_r16 I1_r16 S1_r34 => ∃ u40 u41 u42 u42n u42c u43 u43n u43c u44 u44n u44c, v_r16 = .agg #[.string u40, .string u41, .slice u42 u42n u42c, .slice u43 u43n u43c, .slice u44 u44n u44c] ∧
  Runs Tryz.prog 30 #[.slice u3z u3zn u3zc, .agg #[.string u40, .string u41, .slice u42 u42n u42c, .slice u43 u43n u43c, .slice u44 u44n u44c]] I1_r16 S1_r34 fun v_r17 I1_r17 S1_r35 => ∃ u45 u46 u47 u48 u49 u4a u4b u4c u4d u4dn u4dc u4e, v_r17 = .tuple #[.agg #[.int .i64 u45, .int .i64 u46, .string u47, .string u48, .int .i64 u49, .int .i64 u4a, .string u4b, .bool u4c, .slice u4d u4dn u4dc], .bool u4e] ∧
  StP S1_r35 ⟨b15_r9, 0, none⟩ [.int .i64 u45, .int .i64 u46, .string u47, .string u48, .int .i64 u49, .int .i64 u4a, .string u4b, .bool u4c, .slice u4d u4dn u4dc] fun S1_r36 =>
  bolterlaw19_SearchZones_b5 R x9 x9n x9c x11 x12 x13 x14 ⟨b15_r9, 0, none⟩ u4e I1_r17 S1_r36)) ∧
  (∀ b15_r10 : Nat,
  Keep I S I ((b15_r10, .cells #[.int .i64 0, .int .i64 0, .string ⟨#[]⟩, .string ⟨#[]⟩, .int .i64 0, .int .i64 0, .string ⟨#[]⟩, .bool false, .slice none 0 0] 80 (0, 0)) :: S) ∧
  (AppG 61 4 56 [.string ⟨#[]⟩, .slice none 0 0, .bool false, .int .i64 0] (some (.slice 61)) I ((b15_r10, .cells #[.int .i64 0, .int .i64 0, .string ⟨#[]⟩, .string ⟨#[]⟩, .int .i64 0, .int .i64 0, .string ⟨#[]⟩, .bool false, .slice none 0 0] 80 (0, 0)) :: S) (.slice none 0 0) (.slice x9 x9n x9c) fun u4f u4fn u4fc S1_r37 =>
  Keep I S I S1_r37 ∧
  ∀ b56_r3 : Nat,
  Keep I S I ((b56_r3, .cells #[.string u0, .slice u1 u1n u1c, .bool u2, .int .i64 u3] 61 (0, 0)) :: S1_r37) ∧
  AppG 61 4 56 [.string ⟨#[]⟩, .slice none 0 0, .bool false, .int .i64 0] (some (.slice 61)) I ((b56_r3, .cells #[.string u0, .slice u1 u1n u1c, .bool u2, .int .i64 u3] 61 (0, 0)) :: S1_r37) (.slice u4f u4fn u4fc) (.slice (some ⟨b56_r3, 0, none⟩) 1 1) fun u4g u4gn u4gc S1_r38 =>
  Keep I S I S1_r38 ∧
  Runs Tryz.prog 14 #[.agg #[.bool u4, .slice u5 u5n u5c, .slice u6 u6n u6c, .slice u7 u7n u7c, .slice u8 u8n u8c, .slice u9 u9n u9c]] I S1_r38 fun v_r18 I1_r18 S1_r39 => ∃ u4h u4i u4j u4jn u4jc u4k u4kn u4kc u4l u4ln u4lc, v_r18 = .agg #[.string u4h, .string u4i, .slice u4j u4jn u4jc, .slice u4k u4kn u4kc, .slice u4l u4ln u4lc] ∧
  Runs Tryz.prog 30 #[.slice u4g u4gn u4gc, .agg #[.string u4h, .string u4i, .slice u4j u4jn u4jc, .slice u4k u4kn u4kc, .slice u4l u4ln u4lc]] I1_r18 S1_r39 fun v_r19 I1_r19 S1_r40 => ∃ u4m u4n u4o u4p u4q u4r u4s u4t u4u u4un u4uc u4v, v_r19 = .tuple #[.agg #[.int .i64 u4m, .int .i64 u4n, .string u4o, .string u4p, .int .i64 u4q, .int .i64 u4r, .string u4s, .bool u4t, .slice u4u u4un u4uc], .bool u4v] ∧
  StP S1_r40 ⟨b15_r10, 0, none⟩ [.int .i64 u4m, .int .i64 u4n, .string u4o, .string u4p, .int .i64 u4q, .int .i64 u4r, .string u4s, .bool u4t, .slice u4u u4un u4uc] fun S1_r41 =>
  bolterlaw19_SearchZones_b5 R x9 x9n x9c x11 x12 x13 x14 ⟨b15_r10, 0, none⟩ u4v I1_r19 S1_r41) ∧
  (∀ b56_r4 : Nat,
  Keep I S I ((b56_r4, .cells #[.string u0, .slice u1 u1n u1c, .bool u2, .int .i64 u3] 61 (0, 0)) :: ((b15_r10, .cells #[.int .i64 0, .int .i64 0, .string ⟨#[]⟩, .string ⟨#[]⟩, .int .i64 0, .int .i64 0, .string ⟨#[]⟩, .bool false, .slice none 0 0] 80 (0, 0)) :: S)) ∧
  AppG 61 4 56 [.string ⟨#[]⟩, .slice none 0 0, .bool false, .int .i64 0] (some (.slice 61)) I ((b56_r4, .cells #[.string u0, .slice u1 u1n u1c, .bool u2, .int .i64 u3] 61 (0, 0)) :: ((b15_r10, .cells #[.int .i64 0, .int .i64 0, .string ⟨#[]⟩, .string ⟨#[]⟩, .int .i64 0, .int .i64 0, .string ⟨#[]⟩, .bool false, .slice none 0 0] 80 (0, 0)) :: S)) (.slice none 0 0) (.slice x9 x9n x9c) fun u4w u4wn u4wc S1_r42 =>
  Keep I S I S1_r42 ∧
  AppG 61 4 56 [.string ⟨#[]⟩, .slice none 0 0, .bool false, .int .i64 0] (some (.slice 61)) I S1_r42 (.slice u4w u4wn u4wc) (.slice (some ⟨b56_r4, 0, none⟩) 1 1) fun u4x u4xn u4xc S1_r43 =>
  Keep I S I S1_r43 ∧
  Runs Tryz.prog 14 #[.agg #[.bool u4, .slice u5 u5n u5c, .slice u6 u6n u6c, .slice u7 u7n u7c, .slice u8 u8n u8c, .slice u9 u9n u9c]] I S1_r43 fun v_r20 I1_r20 S1_r44 => ∃ u4y u4z u50 u50n u50c u51 u51n u51c u52 u52n u52c, v_r20 = .agg #[.string u4y, .string u4z, .slice u50 u50n u50c, .slice u51 u51n u51c, .slice u52 u52n u52c] ∧
  Runs Tryz.prog 30 #[.slice u4x u4xn u4xc, .agg #[.string u4y, .string u4z, .slice u50 u50n u50c, .slice u51 u51n u51c, .slice u52 u52n u52c]] I1_r20 S1_r44 fun v_r21 I1_r21 S1_r45 => ∃ u53 u54 u55 u56 u57 u58 u59 u5a u5b u5bn u5bc u5c, v_r21 = .tuple #[.agg #[.int .i64 u53, .int .i64 u54, .string u55, .string u56, .int .i64 u57, .int .i64 u58, .string u59, .bool u5a, .slice u5b u5bn u5bc], .bool u5c] ∧
  StP S1_r45 ⟨b15_r10, 0, none⟩ [.int .i64 u53, .int .i64 u54, .string u55, .string u56, .int .i64 u57, .int .i64 u58, .string u59, .bool u5a, .slice u5b u5bn u5bc] fun S1_r46 =>
  bolterlaw19_SearchZones_b5 R x9 x9n x9c x11 x12 x13 x14 ⟨b15_r10, 0, none⟩ u5c I1_r21 S1_r46))
def bolterlaw19_SearchZones_b3 (R : RT) (x7 : Addr) (x9 : OA) (x9n x9c : Nat) (x10 x11 : Addr) (x12 : Bool) (x13 : Addr) (x14 : Bool) (I : IMem) (S : SH) : Prop :=
  StP S (x10.add 2) [.bool false] fun S1 =>
  bolterlaw19_SearchZones_b4 R x7 x9 x9n x9c x10 x11 x12 x13 x14 I S1
def bolterlaw19_SearchZones_b2 (R : RT) (x7 : Addr) (x9 : OA) (x9n x9c : Nat) (x10 x11 : Addr) (x12 : Bool) (I : IMem) (S : SH) : Prop :=
  ∃ u0, Cell I S x10 (.string u0) ∧
  ∃ u1 u1n u1c, Cell I S (x10.add 1) (.slice u1 u1n u1c) ∧
  ∃ u2, Cell I S (x10.add 2) (.bool u2) ∧
  ∃ u3, Cell I S (x10.add 3) (.int .i64 u3) ∧
  ∃ u4, Cell I S x7 (.bool u4) ∧
  ∃ u5 u5n u5c, Cell I S (x7.add 1) (.slice u5 u5n u5c) ∧
  ∃ u6 u6n u6c, Cell I S (x7.add 2) (.slice u6 u6n u6c) ∧
  ∃ u7 u7n u7c, Cell I S (x7.add 3) (.slice u7 u7n u7c) ∧
  ∃ u8 u8n u8c, Cell I S (x7.add 4) (.slice u8 u8n u8c) ∧
  ∃ u9 u9n u9c, Cell I S (x7.add 5) (.slice u9 u9n u9c) ∧
  (AppG 61 4 56 [.string ⟨#[]⟩, .slice none 0 0, .bool false, .int .i64 0] (some (.slice 61)) I S (.slice none 0 0) (.slice x9 x9n x9c) fun ua uan uac S1 =>
  Keep I S I S1 ∧
  (∀ b44 : Nat,
  Keep I S I ((b44, .cells #[.string u0, .slice u1 u1n u1c, .bool u2, .int .i64 u3] 61 (0, 0)) :: S1) ∧
  (AppG 61 4 56 [.string ⟨#[]⟩, .slice none 0 0, .bool false, .int .i64 0] (some (.slice 61)) I ((b44, .cells #[.string u0, .slice u1 u1n u1c, .bool u2, .int .i64 u3] 61 (0, 0)) :: S1) (.slice ua uan uac) (.slice (some ⟨b44, 0, none⟩) 1 1) fun ub ubn ubc S1' =>
  Keep I S I S1' ∧
  (Runs Tryz.prog 14 #[.agg #[.bool u4, .slice u5 u5n u5c, .slice u6 u6n u6c, .slice u7 u7n u7c, .slice u8 u8n u8c, .slice u9 u9n u9c]] I S1' fun v I1 S1'' => ∃ uc ud ue uen uec uf ufn ufc ug ugn ugc, v = .agg #[.string uc, .string ud, .slice ue uen uec, .slice uf ufn ufc, .slice ug ugn ugc] ∧
  (Runs Tryz.prog 30 #[.slice ub ubn ubc, .agg #[.string uc, .string ud, .slice ue uen uec, .slice uf ufn ufc, .slice ug ugn ugc]] I1 S1'' fun v' I1' S1_r3 => ∃ uh ui uj uk ul um un uo up upn upc uq, v' = .tuple #[.agg #[.int .i64 uh, .int .i64 ui, .string uj, .string uk, .int .i64 ul, .int .i64 um, .string un, .bool uo, .slice up upn upc], .bool uq] ∧
  ∀ b13 : Nat,
  Keep I S I1' ((b13, .cells #[.int .i64 0, .int .i64 0, .string ⟨#[]⟩, .string ⟨#[]⟩, .int .i64 0, .int .i64 0, .string ⟨#[]⟩, .bool false, .slice none 0 0] 80 (0, 0)) :: S1_r3) ∧
  StP ((b13, .cells #[.int .i64 0, .int .i64 0, .string ⟨#[]⟩, .string ⟨#[]⟩, .int .i64 0, .int .i64 0, .string ⟨#[]⟩, .bool false, .slice none 0 0] 80 (0, 0)) :: S1_r3) ⟨b13, 0, none⟩ [.int .i64 uh, .int .i64 ui, .string uj, .string uk, .int .i64 ul, .int .i64 um, .string un, .bool uo, .slice up upn upc] fun S1_r4 =>
  bolterlaw19_SearchZones_b3 R x7 x9 x9n x9c x10 x11 x12 ⟨b13, 0, none⟩ uq I1' S1_r4) ∧
  (∀ b13' : Nat,
  Keep I S I1 ((b13', .cells #[.int .i64 0, .int .i64 0, .string ⟨#[]⟩, .string ⟨#[]⟩, .int .i64 0, .int .i64 0, .string ⟨#[]⟩, .bool false, .slice none 0 0] 80 (0, 0)) :: S1'') ∧
  Runs Tryz.prog 30 #[.slice ub ubn ubc, .agg #[.string uc, .string ud, .slice ue uen uec, .slice uf ufn ufc, .slice ug ugn ugc]] I1 ((b13', .cells #[.int .i64 0, .int .i64 0, .string ⟨#[]⟩, .string ⟨#[]⟩, .int .i64 0, .int .i64 0, .string ⟨#[]⟩, .bool false, .slice none 0 0] 80 (0, 0)) :: S1'') fun v'' I1'' S1_r5 => ∃ ur us ut uu uv uw ux uy uz uzn uzc u10, v'' = .tuple #[.agg #[.int .i64 ur, .int .i64 us, .string ut, .string uu, .int .i64 uv, .int .i64 uw, .string ux, .bool uy, .slice uz uzn uzc], .bool u10] ∧
  StP S1_r5 ⟨b13', 0, none⟩ [.int .i64 ur, .int .i64 us, .string ut, .string uu, .int .i64 uv, .int .i64 uw, .string ux, .bool uy, .slice uz uzn uzc] fun S1_r6 =>
  bolterlaw19_SearchZones_b3 R x7 x9 x9n x9c x10 x11 x12 ⟨b13', 0, none⟩ u10 I1'' S1_r6)) ∧
  (∀ b13'' : Nat,
  Keep I S I ((b13'', .cells #[.int .i64 0, .int .i64 0, .string ⟨#[]⟩, .string ⟨#[]⟩, .int .i64 0, .int .i64 0, .string ⟨#[]⟩, .bool false, .slice none 0 0] 80 (0, 0)) :: S1') ∧
  Runs Tryz.prog 14 #[.agg #[.bool u4, .slice u5 u5n u5c, .slice u6 u6n u6c, .slice u7 u7n u7c, .slice u8 u8n u8c, .slice u9 u9n u9c]] I ((b13'', .cells #[.int .i64 0, .int .i64 0, .string ⟨#[]⟩, .string ⟨#[]⟩, .int .i64 0, .int .i64 0, .string ⟨#[]⟩, .bool false, .slice none 0 0] 80 (0, 0)) :: S1') fun v_r3 I1_r3 S1_r7 => ∃ u11 u12 u13 u13n u13c u14 u14n u14c u15 u15n u15c, v_r3 = .agg #[.string u11, .string u12, .slice u13 u13n u13c, .slice u14 u14n u14c, .slice u15 u15n u15c] ∧
  Runs Tryz.prog 30 #[.slice ub ubn ubc, .agg #[.string u11, .string u12, .slice u13 u13n u13c, .slice u14 u14n u14c, .slice u15 u15n u15c]] I1_r3 S1_r7 fun v_r4 I1_r4 S1_r8 => ∃ u16 u17 u18 u19 u1a u1b u1c u1d u1e u1en u1ec u1f, v_r4 = .tuple #[.agg #[.int .i64 u16, .int .i64 u17, .string u18, .string u19, .int .i64 u1a, .int .i64 u1b, .string u1c, .bool u1d, .slice u1e u1en u1ec], .bool u1f] ∧
  StP S1_r8 ⟨b13'', 0, none⟩ [.int .i64 u16, .int .i64 u17, .string u18, .string u19, .int .i64 u1a, .int .i64 u1b, .string u1c, .bool u1d, .slice u1e u1en u1ec] fun S1_r9 =>
  bolterlaw19_SearchZones_b3 R x7 x9 x9n x9c x10 x11 x12 ⟨b13'', 0, none⟩ u1f I1_r4 S1_r9)) ∧
  (∀ b13_r3 : Nat,
  Keep I S I ((b13_r3, .cells #[.int .i64 0, .int .i64 0, .string ⟨#[]⟩, .string ⟨#[]⟩, .int .i64 0, .int .i64 0, .string ⟨#[]⟩, .bool false, .slice none 0 0] 80 (0, 0)) :: ((b44, .cells #[.string u0, .slice u1 u1n u1c, .bool u2, .int .i64 u3] 61 (0, 0)) :: S1)) ∧
  AppG 61 4 56 [.string ⟨#[]⟩, .slice none 0 0, .bool false, .int .i64 0] (some (.slice 61)) I ((b13_r3, .cells #[.int .i64 0, .int .i64 0, .string ⟨#[]⟩, .string ⟨#[]⟩, .int .i64 0, .int .i64 0, .string ⟨#[]⟩, .bool false, .slice none 0 0] 80 (0, 0)) :: ((b44, .cells #[.string u0, .slice u1 u1n u1c, .bool u2, .int .i64 u3] 61 (0, 0)) :: S1)) (.slice ua uan uac) (.slice (some ⟨b44, 0, none⟩) 1 1) fun u1g u1gn u1gc S1_r10 =>
  Keep I S I S1_r10 ∧
  Runs Tryz.prog 14 #[.agg #[.bool u4, .slice u5 u5n u5c, .slice u6 u6n u6c, .slice u7 u7n u7c, .slice u8 u8n u8c, .slice u9 u9n u9c]] I S1_r10 fun v_r5 I1_r5 S1_r11 => ∃ u1h u1i u1j u1jn u1jc u1k u1kn u1kc u1l u1ln u1lc, v_r5 = .agg #[.string u1h, .string u1i, .slice u1j u1jn u1jc, .slice u1k u1kn u1kc, .slice u1l u1ln u1lc] ∧
  Runs Tryz.prog 30 #[.slice u1g u1gn u1gc, .agg #[.string u1h, .string u1i, .slice u1j u1jn u1jc, .slice u1k u1kn u1kc, .slice u1l u1ln u1lc]] I1_r5 S1_r11 fun v_r6 I1_r6 S1_r12 => ∃ u1m u1n u1o u1p u1q u1r u1s u1t u1u u1un u1uc u1v, v_r6 = .tuple #[.agg #[.int .i64 u1m, .int .i64 u1n, .string u1o, .string u1p, .int .i64 u1q, .int .i64 u1r, .string u1s, .bool u1t, .slice u1u u1un u1uc], .bool u1v] ∧
  StP S1_r12 ⟨b13_r3, 0, none⟩ [.int .i64 u1m, .int .i64 u1n, .string u1o, .string u1p, .int .i64 u1q, .int .i64 u1r, .string u1s, .bool u1t, .slice u1u u1un u1uc] fun S1_r13 =>
  bolterlaw19_SearchZones_b3 R x7 x9 x9n x9c x10 x11 x12 ⟨b13_r3, 0, none⟩ u1v I1_r6 S1_r13)) ∧
  (∀ b13_r4 : Nat,
  Keep I S I ((b13_r4, .cells #[.int .i64 0, .int .i64 0, .string ⟨#[]⟩, .string ⟨#[]⟩, .int .i64 0, .int .i64 0, .string ⟨#[]⟩, .bool false, .slice none 0 0] 80 (0, 0)) :: S1) ∧
  ∀ b44' : Nat,
  Keep I S I ((b44', .cells #[.string u0, .slice u1 u1n u1c, .bool u2, .int .i64 u3] 61 (0, 0)) :: ((b13_r4, .cells #[.int .i64 0, .int .i64 0, .string ⟨#[]⟩, .string ⟨#[]⟩, .int .i64 0, .int .i64 0, .string ⟨#[]⟩, .bool false, .slice none 0 0] 80 (0, 0)) :: S1)) ∧
  AppG 61 4 56 [.string ⟨#[]⟩, .slice none 0 0, .bool false, .int .i64 0] (some (.slice 61)) I ((b44', .cells #[.string u0, .slice u1 u1n u1c, .bool u2, .int .i64 u3] 61 (0, 0)) :: ((b13_r4, .cells #[.int .i64 0, .int .i64 0, .string ⟨#[]⟩, .string ⟨#[]⟩, .int .i64 0, .int .i64 0, .string ⟨#[]⟩, .bool false, .slice none 0 0] 80 (0, 0)) :: S1)) (.slice ua uan uac) (.slice (some ⟨b44', 0, none⟩) 1 1) fun u1w u1wn u1wc S1_r14 =>
  Keep I S I S1_r14 ∧
  Runs Tryz.prog 14 #[.agg #[.bool u4, .slice u5 u5n u5c, .slice u6 u6n u6c, .slice u7 u7n u7c, .slice u8 u8n u8c, .slice u9 u9n u9c]] I S1_r14 fun v_r7 I1_r7 S1_r15 => ∃ u1x u1y u1z u1zn u1zc u20 u20n u20c u21 u21n u21c, v_r7 = .agg #[.string u1x, .string u1y, .slice u1z u1zn u1zc, .slice u20 u20n u20c, .slice u21 u21n u21c] ∧
  Runs Tryz.prog 30 #[.slice u1w u1wn u1wc, .agg #[.string u1x, .string u1y, .slice u1z u1zn u1zc, .slice u20 u20n u20c, .slice u21 u21n u21c]] I1_r7 S1_r15 fun v_r8 I1_r8 S1_r16 => ∃ u22 u23 u24 u25 u26 u27 u28 u29 u2a u2an u2ac u2b, v_r8 = .tuple #[.agg #[.int .i64 u22, .int .i64 u23, .string u24, .string u25, .int .i64 u26, .int .i64 u27, .string u28, .bool u29, .slice u2a u2an u2ac], .bool u2b] ∧
  StP S1_r16 ⟨b13_r4, 0, none⟩ [.int .i64 u22, .int .i64 u23, .string u24, .string u25, .int .i64 u26, .int .i64 u27, .string u28, .bool u29, .slice u2a u2an u2ac] fun S1_r17 =>
  bolterlaw19_SearchZones_b3 R x7 x9 x9n x9c x10 x11 x12 ⟨b13_r4, 0, none⟩ u2b I1_r8 S1_r17)) ∧
  (∀ b44'' : Nat,
  Keep I S I ((b44'', .cells #[.string u0, .slice u1 u1n u1c, .bool u2, .int .i64 u3] 61 (0, 0)) :: S) ∧
  (AppG 61 4 56 [.string ⟨#[]⟩, .slice none 0 0, .bool false, .int .i64 0] (some (.slice 61)) I ((b44'', .cells #[.string u0, .slice u1 u1n u1c, .bool u2, .int .i64 u3] 61 (0, 0)) :: S) (.slice none 0 0) (.slice x9 x9n x9c) fun u2c u2cn u2cc S1_r18 =>
  Keep I S I S1_r18 ∧
  (AppG 61 4 56 [.string ⟨#[]⟩, .slice none 0 0, .bool false, .int .i64 0] (some (.slice 61)) I S1_r18 (.slice u2c u2cn u2cc) (.slice (some ⟨b44'', 0, none⟩) 1 1) fun u2d u2dn u2dc S1_r19 =>
  Keep I S I S1_r19 ∧
  (Runs Tryz.prog 14 #[.agg #[.bool u4, .slice u5 u5n u5c, .slice u6 u6n u6c, .slice u7 u7n u7c, .slice u8 u8n u8c, .slice u9 u9n u9c]] I S1_r19 fun v_r9 I1_r9 S1_r20 => ∃ u2e u2f u2g u2gn u2gc u2h u2hn u2hc u2i u2in u2ic, v_r9 = .agg #[.string u2e, .string u2f, .slice u2g u2gn u2gc, .slice u2h u2hn u2hc, .slice u2i u2in u2ic] ∧
  (Runs Tryz.prog 30 #[.slice u2d u2dn u2dc, .agg #[.string u2e, .string u2f, .slice u2g u2gn u2gc, .slice u2h u2hn u2hc, .slice u2i u2in u2ic]] I1_r9 S1_r20 fun v_r10 I1_r10 S1_r21 => ∃ u2j u2k u2l u2m u2n u2o u2p u2q u2r u2rn u2rc u2s, v_r10 = .tuple #[.agg #[.int .i64 u2j, .int .i64 u2k, .string u2l, .string u2m, .int .i64 u2n, .int .i64 u2o, .string u2p, .bool u2q, .slice u2r u2rn u2rc], .bool u2s] ∧
  ∀ b13_r5 : Nat,
  Keep I S I1_r10 ((b13_r5, .cells #[.int .i64 0, .int .i64 0, .string ⟨#[]⟩, .string ⟨#[]⟩, .int .i64 0, .int .i64 0, .string ⟨#[]⟩, .bool false, .slice none 0 0] 80 (0, 0)) :: S1_r21) ∧
  StP ((b13_r5, .cells #[.int .i64 0, .int .i64 0, .string ⟨#[]⟩, .string ⟨#[]⟩, .int .i64 0, .int .i64 0, .string ⟨#[]⟩, .bool false, .slice none 0 0] 80 (0, 0)) :: S1_r21) ⟨b13_r5, 0, none⟩ [.int .i64 u2j, .int .i64 u2k, .string u2l, .string u2m, .int .i64 u2n, .int .i64 u2o, .string u2p, .bool u2q, .slice u2r u2rn u2rc] fun S1_r22 =>
  bolterlaw19_SearchZones_b3 R x7 x9 x9n x9c x10 x11 x12 ⟨b13_r5, 0, none⟩ u2s I1_r10 S1_r22) ∧
  (∀ b13_r6 : Nat,
  Keep I S I1_r9 ((b13_r6, .cells #[.int .i64 0, .int .i64 0, .string ⟨#[]⟩, .string ⟨#[]⟩, .int .i64 0, .int .i64 0, .string ⟨#[]⟩, .bool false, .slice none 0 0] 80 (0, 0)) :: S1_r20) ∧
  Runs Tryz.prog 30 #[.slice u2d u2dn u2dc, .agg #[.string u2e, .string u2f, .slice u2g u2gn u2gc, .slice u2h u2hn u2hc, .slice u2i u2in u2ic]] I1_r9 ((b13_r6, .cells #[.int .i64 0, .int .i64 0, .string ⟨#[]⟩, .string ⟨#[]⟩, .int .i64 0, .int .i64 0, .string ⟨#[]⟩, .bool false, .slice none 0 0] 80 (0, 0)) :: S1_r20) fun v_r11 I1_r11 S1_r23 => ∃ u2t u2u u2v u2w u2x u2y u2z u30 u31 u31n u31c u32, v_r11 = .tuple #[.agg #[.int .i64 u2t, .int .i64 u2u, .string u2v, .string u2w, .int .i64 u2x, .int .i64 u2y, .string u2z, .bool u30, .slice u31 u31n u31c], .bool u32] ∧
  StP S1_r23 ⟨b13_r6, 0, none⟩ [.int .i64 u2t, .int .i64 u2u, .string u2v, .string u2w, .int .i64 u2x, .int .i64 u2y, .string u2z, .bool u30, .slice u31 u31n u31c] fun S1_r24 =>
  bolterlaw19_SearchZones_b3 R x7 x9 x9n x9c x10 x11 x12 ⟨b13_r6, 0, none⟩ u32 I1_r11 S1_r24)) ∧
  (∀ b13_r7 : Nat,
  Keep I S I ((b13_r7, .cells #[.int .i64 0, .int .i64 0, .string ⟨#[]⟩, .string ⟨#[]⟩, .int .i64 0, .int .i64 0, .string ⟨#[]⟩, .bool false, .slice none 0 0] 80 (0, 0)) :: S1_r19) ∧
  Runs Tryz.prog 14 #[.agg #[.bool u4, .slice u5 u5n u5c, .slice u6 u6n u6c, .slice u7 u7n u7c, .slice u8 u8n u8c, .slice u9 u9n u9c]] I ((b13_r7, .cells #[.int .i64 0, .int .i64 0, .string ⟨#[]⟩, .string ⟨#[]⟩, .int .i64 0, .int .i64 0, .string ⟨#[]⟩, .bool false, .slice none 0 0] 80 (0, 0)) :: S1_r19) fun v_r12 I1_r12 S1_r25 => ∃ u33 u34 u35 u35n u35c u36 u36n u36c u37 u37n u37c, v_r12 = .agg #[.string u33, .string u34, .slice u35 u35n u35c, .slice u36 u36n u36c, .slice u37 u37n u37c] ∧
  Runs Tryz.prog 30 #[.slice u2d u2dn u2dc, .agg #[.string u33, .string u34, .slice u35 u35n u35c, .slice u36 u36n u36c, .slice u37 u37n u37c]] I1_r12 S1_r25 fun v_r13 I1_r13 S1_r26 => ∃ u38 u39 u3a u3b u3c u3d u3e u3f u3g u3gn u3gc u3h, v_r13 = .tuple #[.agg #[.int .i64 u38, .int .i64 u39, .string u3a, .string u3b, .int .i64 u3c, .int .i64 u3d, .string u3e, .bool u3f, .slice u3g u3gn u3gc], .bool u3h] ∧
  StP S1_r26 ⟨b13_r7, 0, none⟩ [.int .i64 u38, .int .i64 u39, .string u3a, .string u3b, .int .i64 u3c, .int .i64 u3d, .string u3e, .bool u3f, .slice u3g u3gn u3gc] fun S1_r27 =>
  bolterlaw19_SearchZones_b3 R x7 x9 x9n x9c x10 x11 x12 ⟨b13_r7, 0, none⟩ u3h I1_r13 S1_r27)) ∧
  (∀ b13_r8 : Nat,
  Keep I S I ((b13_r8, .cells #[.int .i64 0, .int .i64 0, .string ⟨#[]⟩, .string ⟨#[]⟩, .int .i64 0, .int .i64 0, .string ⟨#[]⟩, .bool false, .slice none 0 0] 80 (0, 0)) :: S1_r18) ∧
  AppG 61 4 56 [.string ⟨#[]⟩, .slice none 0 0, .bool false, .int .i64 0] (some (.slice 61)) I ((b13_r8, .cells #[.int .i64 0, .int .i64 0, .string ⟨#[]⟩, .string ⟨#[]⟩, .int .i64 0, .int .i64 0, .string ⟨#[]⟩, .bool false, .slice none 0 0] 80 (0, 0)) :: S1_r18) (.slice u2c u2cn u2cc) (.slice (some ⟨b44'', 0, none⟩) 1 1) fun u3i u3in u3ic S1_r28 =>
  Keep I S I S1_r28 ∧
  Runs Tryz.prog 14 #[.agg #[.bool u4, .slice u5 u5n u5c, .slice u6 u6n u6c, .slice u7 u7n u7c, .slice u8 u8n u8c, .slice u9 u9n u9c]] I S1_r28 fun v_r14 I1_r14 S1_r29 => ∃ u3j u3k u3l u3ln u3lc u3m u3mn u3mc u3n u3nn u3nc, v_r14 = .agg #[.string u3j, .string u3k, .slice u3l u3ln u3lc, .slice u3m u3mn u3mc, .slice u3n u3nn u3nc] ∧
  Runs Tryz.prog 30 #[.slice u3i u3in u3ic, .agg #[.string u3j, .string u3k, .slice u3l u3ln u3lc, .slice u3m u3mn u3mc, .slice u3n u3nn u3nc]] I1_r14 S1_r29 fun v_r15 I1_r15 S1_r30 => ∃ u3o u3p u3q u3r u3s u3t u3u u3v u3w u3wn u3wc u3x, v_r15 = .tuple #[.agg #[.int .i64 u3o, .int .i64 u3p, .string u3q, .string u3r, .int .i64 u3s, .int .i64 u3t, .string u3u, .bool u3v, .slice u3w u3wn u3wc], .bool u3x] ∧
  StP S1_r30 ⟨b13_r8, 0, none⟩ [.int .i64 u3o, .int .i64 u3p, .string u3q, .string u3r, .int .i64 u3s, .int .i64 u3t, .string u3u, .bool u3v, .slice u3w u3wn u3wc] fun S1_r31 =>
  bolterlaw19_SearchZones_b3 R x7 x9 x9n x9c x10 x11 x12 ⟨b13_r8, 0, none⟩ u3x I1_r15 S1_r31)) ∧
  (∀ b13_r9 : Nat,
  Keep I S I ((b13_r9, .cells #[.int .i64 0, .int .i64 0, .string ⟨#[]⟩, .string ⟨#[]⟩, .int .i64 0, .int .i64 0, .string ⟨#[]⟩, .bool false, .slice none 0 0] 80 (0, 0)) :: ((b44'', .cells #[.string u0, .slice u1 u1n u1c, .bool u2, .int .i64 u3] 61 (0, 0)) :: S)) ∧
  AppG 61 4 56 [.string ⟨#[]⟩, .slice none 0 0, .bool false, .int .i64 0] (some (.slice 61)) I ((b13_r9, .cells #[.int .i64 0, .int .i64 0, .string ⟨#[]⟩, .string ⟨#[]⟩, .int .i64 0, .int .i64 0, .string ⟨#[]⟩, .bool false, .slice none 0 0] 80 (0, 0)) :: ((b44'', .cells #[.string u0, .slice u1 u1n u1c, .bool u2, .int .i64 u3] 61 (0, 0)) :: S)) (.slice none 0 0) (.slice x9 x9n x9c) fun u3y u3yn u3yc S1_r32 =>
  Keep I S I S1_r32 ∧
  AppG 61 4 56 [.string ⟨#[]⟩, .slice none 0 0, .bool false, .int .i64 0] (some (.slice 61)) I S1_r32 (.slice u3y u3yn u3yc) (.slice (some ⟨b44'', 0, none⟩) 1 1) fun u3z u3zn u3zc S1_r33 =>
  Keep I S I S1_r33 ∧
  Runs Tryz.prog 14 #[.agg #[.bool u4, .slice u5 u5n u5c, .slice u6 u6n u6c, .slice u7 u7n u7c, .slice u8 u8n u8c, .slice u9 u9n u9c]] I S1_r33 fun v_r16 I1_r16 S1_r34 => ∃ u40 u41 u42 u42n u42c u43 u43n u43c u44 u44n u44c, v_r16 = .agg #[.string u40, .string u41, .slice u42 u42n u42c, .slice u43 u43n u43c, .slice u44 u44n u44c] ∧
  Runs Tryz.prog 30 #[.slice u3z u3zn u3zc, .agg #[.string u40, .string u41, .slice u42 u42n u42c, .slice u43 u43n u43c, .slice u44 u44n u44c]] I1_r16 S1_r34 fun v_r17 I1_r17 S1_r35 => ∃ u45 u46 u47 u48 u49 u4a u4b u4c u4d u4dn u4dc u4e, v_r17 = .tuple #[.agg #[.int .i64 u45, .int .i64 u46, .string u47, .string u48, .int .i64 u49, .int .i64 u4a, .string u4b, .bool u4c, .slice u4d u4dn u4dc], .bool u4e] ∧
  StP S1_r35 ⟨b13_r9, 0, none⟩ [.int .i64 u45, .int .i64 u46, .string u47, .string u48, .int .i64 u49, .int .i64 u4a, .string u4b, .bool u4c, .slice u4d u4dn u4dc] fun S1_r36 =>
  bolterlaw19_SearchZones_b3 R x7 x9 x9n x9c x10 x11 x12 ⟨b13_r9, 0, none⟩ u4e I1_r17 S1_r36)) ∧
  (∀ b13_r10 : Nat,
  Keep I S I ((b13_r10, .cells #[.int .i64 0, .int .i64 0, .string ⟨#[]⟩, .string ⟨#[]⟩, .int .i64 0, .int .i64 0, .string ⟨#[]⟩, .bool false, .slice none 0 0] 80 (0, 0)) :: S) ∧
  (AppG 61 4 56 [.string ⟨#[]⟩, .slice none 0 0, .bool false, .int .i64 0] (some (.slice 61)) I ((b13_r10, .cells #[.int .i64 0, .int .i64 0, .string ⟨#[]⟩, .string ⟨#[]⟩, .int .i64 0, .int .i64 0, .string ⟨#[]⟩, .bool false, .slice none 0 0] 80 (0, 0)) :: S) (.slice none 0 0) (.slice x9 x9n x9c) fun u4f u4fn u4fc S1_r37 =>
  Keep I S I S1_r37 ∧
  ∀ b44_r3 : Nat,
  Keep I S I ((b44_r3, .cells #[.string u0, .slice u1 u1n u1c, .bool u2, .int .i64 u3] 61 (0, 0)) :: S1_r37) ∧
  AppG 61 4 56 [.string ⟨#[]⟩, .slice none 0 0, .bool false, .int .i64 0] (some (.slice 61)) I ((b44_r3, .cells #[.string u0, .slice u1 u1n u1c, .bool u2, .int .i64 u3] 61 (0, 0)) :: S1_r37) (.slice u4f u4fn u4fc) (.slice (some ⟨b44_r3, 0, none⟩) 1 1) fun u4g u4gn u4gc S1_r38 =>
  Keep I S I S1_r38 ∧
  Runs Tryz.prog 14 #[.agg #[.bool u4, .slice u5 u5n u5c, .slice u6 u6n u6c, .slice u7 u7n u7c, .slice u8 u8n u8c, .slice u9 u9n u9c]] I S1_r38 fun v_r18 I1_r18 S1_r39 => ∃ u4h u4i u4j u4jn u4jc u4k u4kn u4kc u4l u4ln u4lc, v_r18 = .agg #[.string u4h, .string u4i, .slice u4j u4jn u4jc, .slice u4k u4kn u4kc, .slice u4l u4ln u4lc] ∧
  Runs Tryz.prog 30 #[.slice u4g u4gn u4gc, .agg #[.string u4h, .string u4i, .slice u4j u4jn u4jc, .slice u4k u4kn u4kc, .slice u4l u4ln u4lc]] I1_r18 S1_r39 fun v_r19 I1_r19 S1_r40 => ∃ u4m u4n u4o u4p u4q u4r u4s u4t u4u u4un u4uc u4v, v_r19 = .tuple #[.agg #[.int .i64 u4m, .int .i64 u4n, .string u4o, .string u4p, .int .i64 u4q, .int .i64 u4r, .string u4s, .bool u4t, .slice u4u u4un u4uc], .bool u4v] ∧
  StP S1_r40 ⟨b13_r10, 0, none⟩ [.int .i64 u4m, .int .i64 u4n, .string u4o, .string u4p, .int .i64 u4q, .int .i64 u4r, .string u4s, .bool u4t, .slice u4u u4un u4uc] fun S1_r41 =>
  bolterlaw19_SearchZones_b3 R x7 x9 x9n x9c x10 x11 x12 ⟨b13_r10, 0, none⟩ u4v I1_r19 S1_r41) ∧
  (∀ b44_r4 : Nat,
  Keep I S I ((b44_r4, .cells #[.string u0, .slice u1 u1n u1c, .bool u2, .int .i64 u3] 61 (0, 0)) :: ((b13_r10, .cells #[.int .i64 0, .int .i64 0, .string ⟨#[]⟩, .string ⟨#[]⟩, .int .i64 0, .int .i64 0, .string ⟨#[]⟩, .bool false, .slice none 0 0] 80 (0, 0)) :: S)) ∧
  AppG 61 4 56 [.string ⟨#[]⟩, .slice none 0 0, .bool false, .int .i64 0] (some (.slice 61)) I ((b44_r4, .cells #[.string u0, .slice u1 u1n u1c, .bool u2, .int .i64 u3] 61 (0, 0)) :: ((b13_r10, .cells #[.int .i64 0, .int .i64 0, .string ⟨#[]⟩, .string ⟨#[]⟩, .int .i64 0, .int .i64 0, .string ⟨#[]⟩, .bool false, .slice none 0 0] 80 (0, 0)) :: S)) (.slice none 0 0) (.slice x9 x9n x9c) fun u4w u4wn u4wc S1_r42 =>
  Keep I S I S1_r42 ∧
  AppG 61 4 56 [.string ⟨#[]⟩, .slice none 0 0, .bool false, .int .i64 0] (some (.slice 61)) I S1_r42 (.slice u4w u4wn u4wc) (.slice (some ⟨b44_r4, 0, none⟩) 1 1) fun u4x u4xn u4xc S1_r43 =>
  Keep I S I S1_r43 ∧
  Runs Tryz.prog 14 #[.agg #[.bool u4, .slice u5 u5n u5c, .slice u6 u6n u6c, .slice u7 u7n u7c, .slice u8 u8n u8c, .slice u9 u9n u9c]] I S1_r43 fun v_r20 I1_r20 S1_r44 => ∃ u4y u4z u50 u50n u50c u51 u51n u51c u52 u52n u52c, v_r20 = .agg #[.string u4y, .string u4z, .slice u50 u50n u50c, .slice u51 u51n u51c, .slice u52 u52n u52c] ∧
  Runs Tryz.prog 30 #[.slice u4x u4xn u4xc, .agg #[.string u4y, .string u4z, .slice u50 u50n u50c, .slice u51 u51n u51c, .slice u52 u52n u52c]] I1_r20 S1_r44 fun v_r21 I1_r21 S1_r45 => ∃ u53 u54 u55 u56 u57 u58 u59 u5a u5b u5bn u5bc u5c, v_r21 = .tuple #[.agg #[.int .i64 u53, .int .i64 u54, .string u55, .string u56, .int .i64 u57, .int .i64 u58, .string u59, .bool u5a, .slice u5b u5bn u5bc], .bool u5c] ∧
  StP S1_r45 ⟨b13_r10, 0, none⟩ [.int .i64 u53, .int .i64 u54, .string u55, .string u56, .int .i64 u57, .int .i64 u58, .string u59, .bool u5a, .slice u5b u5bn u5bc] fun S1_r46 =>
  bolterlaw19_SearchZones_b3 R x7 x9 x9n x9c x10 x11 x12 ⟨b13_r10, 0, none⟩ u5c I1_r21 S1_r46))
def bolterlaw19_SearchZones_b1 (R : RT) (x2 : OA) (x2n x2c : Nat) (x7 : Addr) (x9 : OA) (x9n x9c : Nat) (I : IMem) (S : SH) : Prop :=
  Runs Tryz.prog 22 #[.int .i64 9] I S fun v I1 S1 => ∃ u0, v = .string u0 ∧
  Runs Tryz.prog 22 #[.int .i64 9] I1 S1 fun v' I1' S1' => ∃ u1, v' = .string u1 ∧
  Runs Tryz.prog 23 #[.string u1, .slice x2 x2n x2c] I1' S1' fun v'' I1'' S1'' => ∃ u2 u2n u2c, v'' = .slice u2 u2n u2c ∧
  ∀ b10 : Nat,
  StP ((b10, .cells #[.string ⟨#[]⟩, .slice none 0 0, .bool false, .int .i64 0] 61 (0, 0)) :: S1'') ⟨b10, 0, none⟩ [.string u0, .slice u2 u2n u2c, .bool true, .int .i64 0] fun S1_r3 =>
  ∃ u3, Cell I1'' S1_r3 x7 (.bool u3) ∧
  ∃ u4 u4n u4c, Cell I1'' S1_r3 (x7.add 1) (.slice u4 u4n u4c) ∧
  ∃ u5 u5n u5c, Cell I1'' S1_r3 (x7.add 2) (.slice u5 u5n u5c) ∧
  ∃ u6 u6n u6c, Cell I1'' S1_r3 (x7.add 3) (.slice u6 u6n u6c) ∧
  ∃ u7 u7n u7c, Cell I1'' S1_r3 (x7.add 4) (.slice u7 u7n u7c) ∧
  ∃ u8 u8n u8c, Cell I1'' S1_r3 (x7.add 5) (.slice u8 u8n u8c) ∧
  Runs Tryz.prog 14 #[.agg #[.bool u3, .slice u4 u4n u4c, .slice u5 u5n u5c, .slice u6 u6n u6c, .slice u7 u7n u7c, .slice u8 u8n u8c]] I1'' S1_r3 fun v_r3 I1_r3 S1_r4 => ∃ u9 ua ub ubn ubc uc ucn ucc ud udn udc, v_r3 = .agg #[.string u9, .string ua, .slice ub ubn ubc, .slice uc ucn ucc, .slice ud udn udc] ∧
  Runs Tryz.prog 30 #[.slice x9 x9n x9c, .agg #[.string u9, .string ua, .slice ub ubn ubc, .slice uc ucn ucc, .slice ud udn udc]] I1_r3 S1_r4 fun v_r4 I1_r4 S1_r5 => ∃ ue uf ug uh ui uj uk ul um umn umc un, v_r4 = .tuple #[.agg #[.int .i64 ue, .int .i64 uf, .string ug, .string uh, .int .i64 ui, .int .i64 uj, .string uk, .bool ul, .slice um umn umc], .bool un] ∧
  ∀ b11 : Nat,
  StP ((b11, .cells #[.int .i64 0, .int .i64 0, .string ⟨#[]⟩, .string ⟨#[]⟩, .int .i64 0, .int .i64 0, .string ⟨#[]⟩, .bool false, .slice none 0 0] 80 (0, 0)) :: S1_r5) ⟨b11, 0, none⟩ [.int .i64 ue, .int .i64 uf, .string ug, .string uh, .int .i64 ui, .int .i64 uj, .string uk, .bool ul, .slice um umn umc] fun S1_r6 =>
  bolterlaw19_SearchZones_b2 R x7 x9 x9n x9c ⟨b10, 0, none⟩ ⟨b11, 0, none⟩ un I1_r4 S1_r6
def bolterlaw19_SearchZones (R : RT) (u0 : OA) (u0n u0c : Nat) (u1 : OA) (u1n u1c : Nat) (u2 : OA) (u2n u2c : Nat) (u3 : Bool) (u4 : OA) (u4n u4c : Nat) (u5 : OA) (u5n u5c : Nat) (u6 : OA) (u6n u6c : Nat) (u7 : OA) (u7n u7c : Nat) (u8 : OA) (u8n u8c : Nat) (I : IMem) (S : SH) : Prop :=
  ∀ b7 : Nat,
  Runs Tryz.prog 11 #[] I ((b7, .cells #[.bool u3, .slice u4 u4n u4c, .slice u5 u5n u5c, .slice u6 u6n u6c, .slice u7 u7n u7c, .slice u8 u8n u8c] 25 (0, 0)) :: S) fun v I1 S1 => ∃ u9, v = .bool u9 ∧
  bcase (!u9)
    (R (.bool false) I1 S1)
    (Runs Tryz.prog 29 #[.slice u0 u0n u0c, .slice u1 u1n u1c] I1 S1 fun v' I1' S1' => ∃ ua uan uac, v' = .slice ua uan uac ∧
    bcase ((uan : Int) == (5 : Int))
      ((0 : Int) ≤ (4 : Int) ∧ (4 : Int) ≤ ((uac : Nat) : Int) ∧
      bolterlaw19_SearchZones_b1 R u2 u2n u2c ⟨b7, 0, none⟩ (slA ua uac 0 4) ((4 : Int).toNat - 0) (uac - 0) I1' S1')
      (bolterlaw19_SearchZones_b1 R u2 u2n u2c ⟨b7, 0, none⟩ ua uan uac I1' S1'))
theorem bolterlaw19_SearchZones_fn (R : RT) (u0 : OA) (u0n u0c : Nat) (u1 : OA) (u1n u1c : Nat) (u2 : OA) (u2n u2c : Nat) (u3 : Bool) (u4 : OA) (u4n u4c : Nat) (u5 : OA) (u5n u5c : Nat) (u6 : OA) (u6n u6c : Nat) (u7 : OA) (u7n u7c : Nat) (u8 : OA) (u8n u8c : Nat) (I : IMem) (S : SH) (h : bolterlaw19_SearchZones R u0 u0n u0c u1 u1n u1c u2 u2n u2c u3 u4 u4n u4c u5 u5n u5c u6 u6n u6c u7 u7n u7c u8 u8n u8c I S) : Runs Tryz.prog 8 #[.slice u0 u0n u0c, .slice u1 u1n u1c, .slice u2 u2n u2c, .agg #[.bool u3, .slice u4 u4n u4c, .slice u5 u5n u5c, .slice u6 u6n u6c, .slice u7 u7n u7c, .slice u8 u8n u8c]] I S R := by
  refine Runs.of_wp (c := cd Tryz.f8) Tryz.func8 (by kernel_rfl) (by kernel_rfl) ?_
  refine cO 4 [kL 2, kA 7, kL 9] (bolterlaw19_SearchZones_b1 R) h fun _ _ _ _ _ _ _ _ _ _ _ h => ?_
  refine cO 2 [kA 7, kL 9, kA 10, kA 11, kB 12] (bolterlaw19_SearchZones_b2 R) h fun _ _ _ _ _ _ _ _ _ _ _ h => ?_
  refine sO [kA 7, kL 9, kA 10, kA 11, kB 12, kA 13, kB 14] (bolterlaw19_SearchZones_b3 R) (dR (.take 0 (.take 2 (.take 5 (.fork3 1 (.fork 3 (.fork 4 (.fork 6 (.fork 7 (tk 3 8 (.step 11 (.step 12 (.take 13 .done)))) 11 (.step 7 (tk 3 8 (.step 12 (.take 13 .done))))) 11 (.step 6 (.step 7 (tk 3 8 (.step 12 (.take 13 .done)))))) 11 (.step 4 (.step 6 (.step 7 (tk 3 8 (.step 12 (.take 13 .done))))))) 11 (.step 3 (.step 4 (.step 6 (.step 7 (tk 3 8 (.step 12 (.take 13 .done)))))))) 3 (.fork 1 (.fork 4 (.fork 6 (.fork 7 (tk 3 8 (.step 11 (.step 12 (.take 13 .done)))) 11 (.step 7 (tk 3 8 (.step 12 (.take 13 .done))))) 11 (.step 6 (.step 7 (tk 3 8 (.step 12 (.take 13 .done)))))) 11 (.step 4 (.step 6 (.step 7 (tk 3 8 (.step 12 (.take 13 .done))))))) 11 (.step 1 (.step 4 (.step 6 (.step 7 (tk 3 8 (.step 12 (.take 13 .done)))))))) 11 (.fork 1 (.step 3 (.step 4 (.step 6 (.step 7 (tk 3 8 (.step 12 (.take 13 .done))))))) 3 (.step 1 (.step 4 (.step 6 (.step 7 (tk 3 8 (.step 12 (.take 13 .done)))))))))))) [1, 3, 4, 6, 7, 11, 12] h) fun _ _ _ _ _ _ _ _ _ _ _ _ _ h => ?_
  refine cO 1 [kA 7, kL 9, kA 10, kA 11, kB 12, kA 13, kB 14] (bolterlaw19_SearchZones_b4 R) h fun _ _ _ _ _ _ _ _ _ _ _ _ _ h => ?_
  refine sO [kL 9, kA 11, kB 12, kA 13, kB 14, kA 15, kB 16] (bolterlaw19_SearchZones_b5 R) (dR (.take 0 (.take 2 (.take 5 (.fork3 1 (.fork 3 (.fork 4 (.fork 6 (.fork 7 (tk 3 8 (.step 11 (.step 12 (.take 13 .done)))) 11 (.step 7 (tk 3 8 (.step 12 (.take 13 .done))))) 11 (.step 6 (.step 7 (tk 3 8 (.step 12 (.take 13 .done)))))) 11 (.step 4 (.step 6 (.step 7 (tk 3 8 (.step 12 (.take 13 .done))))))) 11 (.step 3 (.step 4 (.step 6 (.step 7 (tk 3 8 (.step 12 (.take 13 .done)))))))) 3 (.fork 1 (.fork 4 (.fork 6 (.fork 7 (tk 3 8 (.step 11 (.step 12 (.take 13 .done)))) 11 (.step 7 (tk 3 8 (.step 12 (.take 13 .done))))) 11 (.step 6 (.step 7 (tk 3 8 (.step 12 (.take 13 .done)))))) 11 (.step 4 (.step 6 (.step 7 (tk 3 8 (.step 12 (.take 13 .done))))))) 11 (.step 1 (.step 4 (.step 6 (.step 7 (tk 3 8 (.step 12 (.take 13 .done)))))))) 11 (.fork 1 (.step 3 (.step 4 (.step 6 (.step 7 (tk 3 8 (.step 12 (.take 13 .done))))))) 3 (.step 1 (.step 4 (.step 6 (.step 7 (tk 3 8 (.step 12 (.take 13 .done)))))))))))) [1, 3, 4, 6, 7, 11, 12] h) fun _ _ _ _ _ _ _ _ _ _ _ _ _ h => ?_
  refine cO 1 [kL 9, kA 11, kB 12, kA 13, kB 14, kA 15, kB 16, kF 32 17] (bolterlaw19_SearchZones_b6 R) h fun _ _ _ _ _ _ _ _ _ _ _ _ _ h => ?_
  refine sO [kL 9, kB 12, kA 13, kB 14] (bolterlaw19_SearchZones_b8 R) ?_ fun _ _ _ _ _ _ _ _ _ _ h => ?_
  · refine cO 1 [kL 9, kB 12, kA 13, kB 14, kB 86] (bolterlaw19_SearchZones_b7 R) h fun _ _ _ _ _ _ _ _ _ _ _ h => ?_
    exact pS h
  refine cO 1 [kB 8] (bolterlaw19_SearchZones_b9 R) h fun _ _ _ _ _ h => ?_
  exact pS h
end Go.Proofs.YtmlojdbahlfiaaaGreatDoor
/- Which triggers fit: what the law says, and the code. -/
namespace Go.Proofs.YtmlojdbahlfiaaaGreatDoor
open Go.Px
set_option linter.unusedVariables false
set_option linter.unusedSimpArgs false
set_option maxRecDepth 8000

end Go.Proofs.YtmlojdbahlfiaaaGreatDoor
/- Which triggers have a name, and which: plain laws. -/
namespace Go.Proofs.YtmlojdbahlfiaaaGreatDoor
open Go.Px
set_option linter.unusedVariables false
set_option linter.unusedSimpArgs false
set_option maxRecDepth 8000

/-- a label that is no word of owner's -/
structure LabP (l : ByteArray) : Prop where
  lab : IsLab l
  kind : kindOf l = none
  star : l ≠ starB
structure NameP (t : Tg) (ls : List ByteArray) : Prop where
  kind : t.1 = 1 ∨ t.1 = 2 ∨ t.1 = 4 ∨ t.1 = 5
  addr : t.2.2 = (⟨#[]⟩, 0)
  name : t.2.1 = nm ls
  labs : ∀ l ∈ ls, LabP l
  size : (nm ls).size ≤ 254
  some_ : t.1 = 1 ∨ t.1 = 4 → ls ≠ []
/-! ### bytes that come in; triggers of codes -/
def U8W (W : World) (s : Option Addr × Nat × Nat) : Prop := s.2.1 ≤ s.2.2 ∧ s.2.2 ≤ maxLen ∧ ∃ ys : List Int, SlIn (imW W) s.1 s.2.1 1 (fun x => [.int .u8 x]) ys ∧ ∀ y ∈ ys, (Lit.int .u8 y).wf = true
theorem u8_wf {x : Int} (h : (Lit.int .u8 x).wf = true) : 0 ≤ x ∧ x ≤ 255 := by
  simp only [Lit.wf, Bool.and_eq_true, decide_eq_true_eq] at h
  exact h
theorem u8_open {W : World} {a : Option Addr} {len cap : Nat} (h : U8W W (a, len, cap)) : ∃ ns : List Int, ns.length = len ∧ RowIn (imW W) [] a ns.length 1 elI8 ns ∧ ∀ x ∈ ns, 0 ≤ x ∧ x ≤ 255 := by
  obtain ⟨_, _, ns, hs, hw⟩ := h
  exact ⟨ns, hs.1, RowIn.of_slin (el := elI8) (fun _ => Nat.one_pos) hs, fun x hx => u8_wf (hw x hx)⟩
end Go.Proofs.YtmlojdbahlfiaaaGreatDoor
/- SearchMatches: the row. -/
namespace Go.Proofs.YtmlojdbahlfiaaaGreatDoor
open Go.Px
set_option linter.unusedVariables false
set_option linter.unusedSimpArgs false

abbrev U8sW (W : World) (x : Sl) : Prop := x.2.1 ≤ x.2.2 ∧ x.2.2 ≤ maxLen ∧ ∃ ys : List Sl, SlIn (imW W) x.1 x.2.1 1 (fun xe => [.slice xe.1 xe.2.1 xe.2.2]) ys ∧ ∀ y ∈ ys, (fun xe => U8W W xe) y
abbrev QrW (W : World) (x : Bool × Sl × Sl × Sl × Sl × Sl) : Prop := True ∧ U8W W x.2.1 ∧ U8W W x.2.2.1 ∧ U8sW W x.2.2.2.1 ∧ U8sW W x.2.2.2.2.1 ∧ U8sW W x.2.2.2.2.2
abbrev RuW (W : World) (x : Int × Sl × Bool × Int × Int) : Prop := (Lit.int .u8 x.1).wf = true ∧ U8W W x.2.1 ∧ True ∧ (Lit.int .u8 x.2.2.2.1).wf = true ∧ (Lit.int .u8 x.2.2.2.2).wf = true
theorem sb_of {W : World} {x : Sl} (h : U8W W x) : ∃ y : Sb, y.a = x ∧ SbIn (imW W) [] y := by
  have h2 := h
  obtain ⟨a, l, c⟩ := x
  obtain ⟨ns, e, hr, hb⟩ := u8_open h2
  have e : ns.length = l := e
  subst e
  have h3 : ns.length ≤ c ∧ c ≤ maxLen := ⟨h.1, h.2.1⟩
  exact ⟨⟨(a, ns.length, c), ns⟩, rfl, hr, rfl, by unfold maxLen at h3; show ns.length ≤ _; omega, hb⟩
theorem sbs_of {W : World} {x : Sl} (h : U8sW W x) : ∃ y : Sbs, y.a = x ∧ SbsIn (imW W) [] y := by
  obtain ⟨h1, h2, ys, hs, hy⟩ := h
  have key : ∀ zs : List Sl, (∀ y ∈ zs, U8W W y) → ∃ bs : List Sb, zs = bs.map (·.a) ∧ ∀ b ∈ bs, SbIn (imW W) [] b := by
    intro zs
    induction zs with
    | nil => intro _; exact ⟨[], rfl, fun b hb => by cases hb⟩
    | cons z zs ih =>
      intro hz
      obtain ⟨b, rfl, hb⟩ := sb_of (hz z (List.mem_cons_self ..))
      obtain ⟨bs, rfl, hbs⟩ := ih (fun y hy => hz y (List.mem_cons_of_mem _ hy))
      exact ⟨b :: bs, rfl, fun c hc => by rcases List.mem_cons.1 hc with rfl | hc; exact hb; exact hbs c hc⟩
  obtain ⟨bs, rfl, hbs⟩ := key ys hy
  obtain ⟨hl, hc⟩ := hs
  rw [List.length_map] at hl
  refine ⟨⟨x, bs⟩, rfl, RowIn.of_slin (el := elSb) (fun _ => Nat.one_pos) ⟨rfl, fun i b hb => ?_⟩, hl.symm, by unfold maxLen at h2; show bs.length ≤ _; omega, hbs⟩
  exact hc i b.a (by rw [List.getElem?_map, hb]; rfl)
theorem qr_of {W : World} {x : Bool × Sl × Sl × Sl × Sl × Sl} (h : QrW W x) : ∃ q : Qr, q.six = x.1 ∧ q.cl.a = x.2.1 ∧ q.nm.a = x.2.2.1 ∧ q.an.a = x.2.2.2.1 ∧ q.sv.a = x.2.2.2.2.1 ∧ q.ho.a = x.2.2.2.2.2 ∧ QrIn (imW W) [] q := by
  obtain ⟨-, h1, h2, h3, h4, h5⟩ := h
  obtain ⟨c, hc, ic⟩ := sb_of h1
  obtain ⟨n, hn, inn⟩ := sb_of h2
  obtain ⟨a, ha, ia⟩ := sbs_of h3
  obtain ⟨s, hs, is⟩ := sbs_of h4
  obtain ⟨o, ho, io⟩ := sbs_of h5
  exact ⟨⟨x.1, c, n, a, s, o⟩, rfl, hc, hn, ha, hs, ho, ic, inn, ia, is, io⟩
end Go.Proofs.YtmlojdbahlfiaaaGreatDoor
/- SearchNode: what a name of a zone does. -/
namespace Go.Proofs.YtmlojdbahlfiaaaGreatDoor
open Go.Px
set_option linter.unusedVariables false
set_option linter.unusedSimpArgs false
set_option maxRecDepth 8000

theorem OwnR.few {α : Type} {el : α → List Value} {sz : Nat} (hsz : 0 < sz) {e : TypeId} {A : Option Addr} {n c : Nat} {xs : List α} {own : SH} (h : OwnR e sz el (.slice A n c) xs own) : xs.length ≤ 9223372036854775807 := by
  have h1 := OwnR.cap hsz h
  rcases h with ⟨hv, rfl, rfl⟩ | ⟨g, cap, rest, hv, rfl, hc, hm⟩
  · exact Nat.zero_le _
  · injection hv with _ _ h3
    unfold maxLen at hm
    omega
theorem tg_self (t : Tg) : (((t.1 : Int) == (t.1 : Int)) && (((t.2.1 : ByteArray) == (t.2.1 : ByteArray)) && ((((t.2.2.1 : ByteArray) == (t.2.2.1 : ByteArray)) && (((t.2.2.2 : Int) == (t.2.2.2 : Int)) && true)) && true))) = true := by
  rw [show ((t.1 : Int) == (t.1 : Int)) = true from beq_self_eq_true _, show ((t.2.2.2 : Int) == (t.2.2.2 : Int)) = true from beq_self_eq_true _, ba_beq.2 rfl, ba_beq.2 rfl]; rfl
abbrev RusW (W : World) (x : Sl) : Prop := x.2.1 ≤ x.2.2 ∧ x.2.2 ≤ maxLen ∧ ∃ ys : List (Int × Sl × Bool × Int × Int), SlIn (imW W) x.1 x.2.1 5 (fun x => [.int .u8 x.1, .slice x.2.1.1 x.2.1.2.1 x.2.1.2.2, .bool x.2.2.1, .int .u8 x.2.2.2.1, .int .u8 x.2.2.2.2]) ys ∧ ∀ y ∈ ys, (fun x => RuW W x) y
end Go.Proofs.YtmlojdbahlfiaaaGreatDoor
/- SearchNode: the row. -/
namespace Go.Proofs.YtmlojdbahlfiaaaGreatDoor
open Go.Px
set_option linter.unusedVariables false
set_option linter.unusedSimpArgs false

theorem ru_of {W : World} {x : Int × Sl × Bool × Int × Int} (h : RuW W x) : ∃ r : Ru, encRu r = [.int .u8 x.1, .slice x.2.1.1 x.2.1.2.1 x.2.1.2.2, .bool x.2.2.1, .int .u8 x.2.2.2.1, .int .u8 x.2.2.2.2] ∧ RuIn (imW W) [] r := by
  obtain ⟨h1, h2, -, h3, h4⟩ := h
  obtain ⟨y, hy, iy⟩ := sb_of h2
  exact ⟨⟨x.1, y, x.2.2.1, x.2.2.2.1, x.2.2.2.2⟩, by rw [encRu, hy], u8_wf h1, iy, u8_wf h3, u8_wf h4⟩
/-- rows whose elements are read by others -/
theorem rows_of {α β : Type} {el : α → List Value} {el2 : β → List Value} {P : α → Prop} {Q : β → Prop} (hst : ∀ x, P x → ∃ y, el2 y = el x ∧ Q y) {sz : Nat} (hne : ∀ y, 0 < (el2 y).length) {W : World} {a : Option Addr} {len : Nat} {xs : List α} (hs : SlIn (imW W) a len sz el xs) (hx : ∀ x ∈ xs, P x) :
    ∃ ys : List β, ys.length = len ∧ RowIn (imW W) [] a ys.length sz el2 ys ∧ ∀ y ∈ ys, Q y := by
  have key : ∀ zs : List α, (∀ y ∈ zs, P y) → ∃ bs : List β, zs.map el = bs.map el2 ∧ ∀ b ∈ bs, Q b := by
    intro zs
    induction zs with
    | nil => intro _; exact ⟨[], rfl, fun b hb => by cases hb⟩
    | cons z zs ih =>
      intro hz
      obtain ⟨b, e, hb⟩ := hst z (hz z (List.mem_cons_self ..))
      obtain ⟨bs, es, hbs⟩ := ih (fun y hy => hz y (List.mem_cons_of_mem _ hy))
      exact ⟨b :: bs, by rw [List.map_cons, List.map_cons, e, es], fun c hc => by rcases List.mem_cons.1 hc with rfl | hc; exact hb; exact hbs c hc⟩
  obtain ⟨bs, e, hbs⟩ := key xs hx
  obtain ⟨hl, hc⟩ := hs
  have hlen : xs.length = bs.length := by have := congrArg List.length e; rwa [List.length_map, List.length_map] at this
  refine ⟨bs, by omega, RowIn.of_slin (el := el2) hne ⟨rfl, fun i b hb => ?_⟩, hbs⟩
  have hi : i < bs.length := by obtain ⟨h, _⟩ := List.getElem?_eq_some_iff.1 hb; exact h
  have hx2 := List.getElem?_eq_getElem (l := xs) (i := i) (by omega)
  have he : (xs.map el)[i]? = (bs.map el2)[i]? := by rw [e]
  rw [List.getElem?_map, List.getElem?_map, hb, hx2] at he
  have he := Option.some.inj he
  obtain ⟨a', ha, hcell⟩ := hc i _ hx2
  exact ⟨a', ha, by rw [← he]; exact hcell⟩
theorem rus_of {W : World} {a : Option Addr} {len cap : Nat} (h : RusW W (a, len, cap)) : ∃ rs : List Ru, rs.length = len ∧ RowIn (imW W) [] a rs.length 5 encRu rs ∧ (∀ r ∈ rs, RuIn (imW W) [] r) ∧ rs.length ≤ 9223372036854775807 := by
  obtain ⟨h1, h2, ys, hs, hy⟩ := h
  obtain ⟨rs, hl, hr, hq⟩ : ∃ rs : List Ru, rs.length = len ∧ RowIn (imW W) [] a rs.length 5 encRu rs ∧ ∀ r ∈ rs, RuIn (imW W) [] r := rows_of (P := RuW W) (el2 := encRu) (Q := RuIn (imW W) []) (fun x hx => ru_of hx) (fun y => by simp [encRu]) hs hy
  have h3 : len ≤ cap ∧ cap ≤ maxLen := ⟨h1, h2⟩
  exact ⟨rs, hl, hr, hq, by unfold maxLen at h3; omega⟩
end Go.Proofs.YtmlojdbahlfiaaaGreatDoor
/- Triggers are in an order, and so is what goes ahead. -/
namespace Go.Proofs.YtmlojdbahlfiaaaGreatDoor
open Go.Px
set_option linter.unusedVariables false
set_option linter.unusedSimpArgs false

theorem less_def (a b : Tg) : lessT a b = if a.2.1 = b.2.1 then Op.bytesLess a.2.2.1.toList b.2.2.1.toList else Op.bytesLess a.2.1.toList b.2.1.toList := by
  unfold lessT
  by_cases h : a.2.1 = b.2.1
  · rw [if_pos h, show (a.2.1.toList == b.2.1.toList) = true from keq.2 h]; rfl
  · rw [if_neg h, show (a.2.1.toList == b.2.1.toList) = false from Bool.eq_false_iff.2 fun e => h (keq.1 e)]; rfl
theorem less_irr (a : Tg) : lessT a a = false := by rw [less_def, if_pos rfl, bl_irrefl]
theorem less_trans {a b c : Tg} (h : lessT a b = true) (g : lessT b c = true) : lessT a c = true := by
  rw [less_def] at h g ⊢
  by_cases e : a.2.1 = b.2.1
  · rw [if_pos e] at h
    by_cases e2 : b.2.1 = c.2.1
    · rw [if_pos e2] at g
      rw [if_pos (e.trans e2)]; exact bl_trans h g
    · rw [if_neg e2] at g
      rw [if_neg (by rw [e]; exact e2), e]; exact g
  · rw [if_neg e] at h
    by_cases e2 : b.2.1 = c.2.1
    · rw [if_pos e2] at g
      rw [if_neg (by rw [← e2]; exact e), ← e2]; exact h
    · rw [if_neg e2] at g
      have t := bl_trans h g
      rw [if_neg (fun e3 => by rw [e3, bl_irrefl] at t; cases t)]; exact t
/-! ### what goes ahead -/
theorem ahead_iff {z z' : Nat} {t t' : Tg} : ahead z z' t t' = true ↔ z < z' ∨ (z = z' ∧ (rkN t < rkN t' ∨ (rkN t = rkN t' ∧ lessT t t' = true))) := by
  unfold ahead rkLt
  by_cases e : z = z'
  · by_cases e2 : rkN t = rkN t'
    · rw [if_pos ⟨e, e2⟩]
      exact ⟨fun h => .inr ⟨e, .inr ⟨e2, h⟩⟩, fun h => by rcases h with h | ⟨_, h | ⟨_, h⟩⟩; omega; omega; exact h⟩
    · rw [if_neg (fun h => e2 h.2), if_pos e, decide_eq_true_eq]
      exact ⟨fun h => .inr ⟨e, .inl h⟩, fun h => by rcases h with h | ⟨_, h | ⟨h, _⟩⟩ <;> omega⟩
  · rw [if_neg (fun h => e h.1), if_neg e, decide_eq_true_eq]
    exact ⟨fun h => .inl h, fun h => by rcases h with h | ⟨h, _⟩ <;> omega⟩
theorem ahead_irr (z : Nat) (t : Tg) : ahead z z t t = false := by
  cases h : ahead z z t t with
  | false => rfl
  | true =>
    rcases ahead_iff.1 h with h | ⟨_, h | ⟨_, h⟩⟩
    · omega
    · omega
    · rw [less_irr] at h; cases h
theorem ahead_trans {x y z : Nat} {a b c : Tg} (h : ahead x y a b = true) (g : ahead y z b c = true) : ahead x z a c = true := by
  rw [ahead_iff] at h g ⊢
  rcases h with h | ⟨e, h⟩
  · rcases g with g | ⟨e, g⟩
    · exact .inl (by omega)
    · exact .inl (by omega)
  · rcases g with g | ⟨e2, g⟩
    · exact .inl (by omega)
    · refine .inr ⟨e.trans e2, ?_⟩
      rcases h with h | ⟨h1, h2⟩
      · rcases g with g | ⟨g1, _⟩ <;> exact .inl (by omega)
      · rcases g with g | ⟨g1, g2⟩
        · exact .inl (by omega)
        · exact .inr ⟨h1.trans g1, less_trans h2 g2⟩
end Go.Proofs.YtmlojdbahlfiaaaGreatDoor
/- The law's Wins. -/
namespace Go.Proofs.YtmlojdbahlfiaaaGreatDoor
open Go.Px
set_option linter.unusedVariables false
set_option linter.unusedSimpArgs false
set_option maxRecDepth 8000

/-- what a record brings that fits -/
noncomputable def cand (f : Fa) (p : Pl) (r : Rc) : Option (Tg × Av) := match nodeF p r.1 with
  | some (t, a) => if p.live = true ∧ a.k ≠ 1 ∧ matchT t f = true then some (t, a) else none
  | none => none
section
variable {b5 b6 b11 : Nat} {f : Fa} {st : Bs} {S T : SH} {I0 J : IMem} {p : Pl} {k : Nat} {q : Option Addr} {cc : Nat}
end
end Go.Proofs.YtmlojdbahlfiaaaGreatDoor
/- The law's Wins: its loops; and what search.Of finds is best. -/
namespace Go.Proofs.YtmlojdbahlfiaaaGreatDoor
open Go.Px
set_option linter.unusedVariables false
set_option linter.unusedSimpArgs false
set_option maxRecDepth 8000

/-! ### what is found is best -/
def BGood (f : Fa) (L : List (Nat × Pl × Rc)) (st : Bs) : Prop := (∀ x ∈ L, ∀ t a, cand f x.2.1 x.2.2 = some (t, a) → ∃ z t' a', st = some (z, t', a') ∧ ahead x.1 z t t' = false) ∧ (∀ z t a, st = some (z, t, a) → ∃ p r, (z, p, r) ∈ L ∧ cand f p r = some (t, a))
theorem step_cand {f : Fa} {k : Nat} {p : Pl} {st : Bs} {r : Rc} (hl : p.live = true) : stepR f k p st r = match cand f p r with | some (t, a) => (if bet k t st = true then some (k, t, a) else st) | none => st := by
  unfold stepR cand
  cases hn : nodeF p r.1 with
  | none => rfl
  | some x =>
    obtain ⟨t, a⟩ := x
    by_cases h : a.k ≠ 1 ∧ matchT t f = true
    · by_cases hb : bet k t st = true
      · simp only [if_pos (show a.k ≠ 1 ∧ matchT t f = true ∧ bet k t st = true from ⟨h.1, h.2, hb⟩), if_pos (show p.live = true ∧ a.k ≠ 1 ∧ matchT t f = true from ⟨hl, h.1, h.2⟩), if_pos hb]
      · simp only [if_neg (fun e : a.k ≠ 1 ∧ matchT t f = true ∧ bet k t st = true => hb e.2.2), if_pos (show p.live = true ∧ a.k ≠ 1 ∧ matchT t f = true from ⟨hl, h.1, h.2⟩), if_neg hb]
    · simp only [if_neg (fun e : a.k ≠ 1 ∧ matchT t f = true ∧ bet k t st = true => h ⟨e.1, e.2.1⟩), if_neg (fun e : p.live = true ∧ a.k ≠ 1 ∧ matchT t f = true => h e.2)]
theorem BGood.skip {f : Fa} {L : List (Nat × Pl × Rc)} {st : Bs} {x : Nat × Pl × Rc} (h : BGood f L st) (hx : cand f x.2.1 x.2.2 = none) : BGood f (L ++ [x]) st := by
  refine ⟨fun y hy t a e => ?_, fun z t a e => ?_⟩
  · rcases List.mem_append.1 hy with hy | hy
    · exact h.1 y hy t a e
    · rw [List.mem_singleton.1 hy, hx] at e; cases e
  · obtain ⟨p, r, hm, hc⟩ := h.2 z t a e
    exact ⟨p, r, List.mem_append_left _ hm, hc⟩
theorem BGood.step {f : Fa} {L : List (Nat × Pl × Rc)} {st : Bs} {k : Nat} {p : Pl} {r : Rc} (h : BGood f L st) (hl : p.live = true) : BGood f (L ++ [(k, p, r)]) (stepR f k p st r) := by
  rw [step_cand hl]
  cases hc : cand f p r with
  | none => exact h.skip hc
  | some x =>
    obtain ⟨t, a⟩ := x
    show BGood f _ (if bet k t st = true then some (k, t, a) else st)
    by_cases hb : bet k t st = true
    · rw [if_pos hb]
      refine ⟨fun y hy t1 a1 e => ?_, fun z t1 a1 e => ?_⟩
      · rcases List.mem_append.1 hy with hy | hy
        · obtain ⟨z, t', a', hst, hah⟩ := h.1 y hy t1 a1 e
          refine ⟨k, t, a, rfl, ?_⟩
          cases hq : ahead y.1 k t1 t with
          | false => rfl
          | true =>
            rw [hst] at hb
            have := ahead_trans hq (show ahead k z t t' = true from hb)
            rw [hah] at this; cases this
        · rw [List.mem_singleton.1 hy] at e ⊢
          rw [show cand f (k, p, r).2.1 (k, p, r).2.2 = some (t, a) from hc] at e
          injection e with e
          injection e with e1 e2
          subst e1 e2
          exact ⟨k, t, a, rfl, ahead_irr k t⟩
      · injection e with e
        injection e with e1 e
        injection e with e2 e3
        subst e1 e2 e3
        exact ⟨p, r, List.mem_append_right _ (List.mem_singleton.2 rfl), hc⟩
    · rw [if_neg hb]
      refine ⟨fun y hy t1 a1 e => ?_, fun z t1 a1 e => ?_⟩
      · rcases List.mem_append.1 hy with hy | hy
        · exact h.1 y hy t1 a1 e
        · rw [List.mem_singleton.1 hy] at e ⊢
          rw [show cand f (k, p, r).2.1 (k, p, r).2.2 = some (t, a) from hc] at e
          injection e with e
          injection e with e1 e2
          subst e1 e2
          cases st with
          | none => exact absurd rfl hb
          | some x =>
            obtain ⟨z, t', a'⟩ := x
            exact ⟨z, t', a', rfl, by simpa [bet] using hb⟩
      · obtain ⟨p', r', hm, hc'⟩ := h.2 z t1 a1 e
        exact ⟨p', r', List.mem_append_left _ hm, hc'⟩
theorem BGood.fold {f : Fa} {k : Nat} {p : Pl} (hl : p.live = true) : ∀ (rs : List Rc) {L : List (Nat × Pl × Rc)} {st : Bs}, BGood f L st → BGood f (L ++ rs.map fun r => (k, p, r)) (rs.foldl (stepR f k p) st)
  | [], L, st, h => by rw [List.map_nil, List.append_nil]; exact h
  | r :: rs, L, st, h => by
    have := BGood.fold (k := k) hl rs (h.step (k := k) (r := r) hl)
    rw [List.append_assoc] at this
    exact this
theorem BGood.skips {f : Fa} {k : Nat} {p : Pl} (hl : p.live = false) : ∀ (rs : List Rc) {L : List (Nat × Pl × Rc)} {st : Bs}, BGood f L st → BGood f (L ++ rs.map fun r => (k, p, r)) st
  | [], L, st, h => by rw [List.map_nil, List.append_nil]; exact h
  | r :: rs, L, st, h => by
    have hn : cand f p r = none := by
      unfold cand
      cases nodeF p r.1 with
      | none => rfl
      | some x => exact if_neg (fun h => by rw [hl] at h; cases h.1)
    have := BGood.skips (k := k) hl rs (h.skip (x := (k, p, r)) hn)
    rw [List.append_assoc] at this
    exact this
def allC : List Pl → Nat → List (Nat × Pl × Rc)
  | [], _ => []
  | p :: ps, k => (p.zs.map fun r => (k, p, r)) ++ allC ps (k + 1)
theorem mem_allC : ∀ (ps : List Pl) (k : Nat) (k' : Nat) (p : Pl) (r : Rc), (k', p, r) ∈ allC ps k ↔ ∃ i, k' = k + i ∧ ps[i]? = some p ∧ r ∈ p.zs
  | [], k, k', p, r => by
    exact ⟨fun h => (by cases h), fun ⟨i, _, h, _⟩ => (by simp at h)⟩
  | q :: ps, k, k', p, r => by
    unfold allC
    rw [List.mem_append, mem_allC ps (k + 1), List.mem_map]
    constructor
    · rintro (⟨r', hr', e⟩ | ⟨i, e, hi, hr⟩)
      · injection e with e1 e; injection e with e2 e3
        subst e1 e2 e3
        exact ⟨0, rfl, rfl, hr'⟩
      · exact ⟨i + 1, by omega, hi, hr⟩
    · rintro ⟨i, e, hi, hr⟩
      cases i with
      | zero =>
        have hi : q = p := Option.some.inj hi
        subst hi
        exact .inl ⟨r, hr, by rw [e]; rfl⟩
      | succ i => exact .inr ⟨i, by omega, hi, hr⟩
theorem BGood.ofF {f : Fa} : ∀ (ps : List Pl) (k : Nat) {L : List (Nat × Pl × Rc)} {st : Bs}, BGood f L st → BGood f (L ++ allC ps k) (ofF f ps k st)
  | [], k, L, st, h => by show BGood f (L ++ []) st; rw [List.append_nil]; exact h
  | p :: ps, k, L, st, h => by
    show BGood f (L ++ ((p.zs.map fun r => (k, p, r)) ++ allC ps (k + 1))) (Go.Proofs.YtmlojdbahlfiaaaGreatDoor.ofF f ps (k + 1) (polF f k p st))
    rw [← List.append_assoc]
    refine BGood.ofF ps (k + 1) ?_
    unfold polF
    by_cases hl : p.live = true
    · rw [if_pos hl]; exact h.fold hl p.zs
    · rw [if_neg hl]; exact h.skips (by simpa using hl) p.zs
theorem of_best (f : Fa) (ps : List Pl) : (∀ k p r t a, ps[k]? = some p → r ∈ p.zs → cand f p r = some (t, a) → ∃ z t' a', ofF f ps 0 none = some (z, t', a') ∧ ahead k z t t' = false) ∧
    (∀ z t a, ofF f ps 0 none = some (z, t, a) → ∃ p r, ps[z]? = some p ∧ r ∈ p.zs ∧ cand f p r = some (t, a)) := by
  have h0 : BGood f [] none := ⟨fun x hx => (by cases hx), fun z t a e => (by cases e)⟩
  have h := BGood.ofF ps 0 h0
  rw [List.nil_append] at h
  refine ⟨fun k p r t a hp hr hc => h.1 (k, p, r) ((mem_allC ps 0 k p r).2 ⟨k, by omega, hp, hr⟩) t a hc, fun z t a e => ?_⟩
  obtain ⟨p, r, hm, hc⟩ := h.2 z t a e
  obtain ⟨i, e, hi, hr⟩ := (mem_allC ps 0 z p r).1 hm
  have : z = i := by omega
  subst this
  exact ⟨p, r, hi, hr, hc⟩
end Go.Proofs.YtmlojdbahlfiaaaGreatDoor
/- Policies by numbers. -/
namespace Go.Proofs.YtmlojdbahlfiaaaGreatDoor
open Go.Px
set_option linter.unusedVariables false
set_option linter.unusedSimpArgs false
set_option maxRecDepth 8000

/-- a list of rules, and a list of such -/
structure Rus where
  a : Sl
  rs : List Ru
abbrev elRus (x : Rus) : List Value := [.slice x.a.1 x.a.2.1 x.a.2.2]
def RusIn (I : IMem) (S : SH) (x : Rus) : Prop := RowIn I S x.a.1 x.rs.length 5 encRu x.rs ∧ x.a.2.1 = x.rs.length ∧ x.rs.length ≤ 9223372036854775807 ∧ ∀ r ∈ x.rs, RuIn I S r
theorem RusIn.keep {I J : IMem} {S T : SH} {x : Rus} (hk : Keep I S J T) (h : RusIn I S x) : RusIn J T x := ⟨h.1.keep hk, h.2.1, h.2.2.1, fun r hr => (h.2.2.2 r hr).keep hk⟩
theorem encPl_len (p : Pl) : (encPl p).length = 4 := rfl
theorem encPl_one (p : Pl) : (encPl p).all one = true := rfl
abbrev OwnP (v : Value) (xs : List Pl) (own : SH) : Prop := OwnR 61 4 encPl v xs own
abbrev zP : List Value := [.string ⟨#[]⟩, .slice none 0 0, .bool false, .int .i64 0]
theorem app_p {xs : List Pl} {p : Pl} {b : Nat} {v : Value} {S F own : SH} {I : IMem} {K : Option Addr → Nat → Nat → SH → Prop} (hs : Sub (own ++ F) S) (hv : OwnP v xs own) (hl : xs.length ≤ 100000000)
    (hK : ∀ q n c own' T, OwnP (.slice q n c) (xs ++ [p]) own' → Sub (own' ++ F) T → K q n c T) :
    AppG 61 4 56 zP (some (.slice 61)) I ((b, .cells #[.string p.o, .slice p.zn.1 p.zn.2.1 p.zn.2.2, .bool p.live, .int .i64 p.over] 61 (0, 0)) :: S) v (.slice (some ⟨b, 0, none⟩) 1 1) K := by
  obtain ⟨G, hG⟩ := hs.skip (plB b p)
  exact AppG.own (xs := xs) (ys := [p]) (el := encPl) encPl_len encPl_one rfl (by rw [List.append_assoc] at hG; exact hG) hv ⟨Rd.list (L := encPl p) rfl (by simp [encPl]), rfl⟩ (by simp only [List.length_singleton, maxLen]; omega) (by simp only [List.length_singleton]; omega)
    fun p n c own' h => hK p n c own' _ h ⟨G, by rw [List.append_assoc]⟩
def PolR (S : SH) : Value → IMem → SH → Prop := fun v J T => ∃ (ps : List Pl) (p : Option Addr) (c : Nat) (own zown : SH), v = .slice p ps.length c ∧ OwnP (.slice p ps.length c) ps own ∧ (∀ x ∈ ps, PlIn J zown x) ∧ ps.length ≤ 5 ∧ Sub (own ++ (zown ++ S)) T
theorem plX {I : IMem} {S F : SH} {b : Nat} {p : Pl} (hs : Sub (plB b p :: F) S) : Cell I S ⟨b, 0, none⟩ (.string p.o) ∧ Cell I S ((⟨b, 0, none⟩ : Addr).add 1) (.slice p.zn.1 p.zn.2.1 p.zn.2.2) ∧ Cell I S ((⟨b, 0, none⟩ : Addr).add 2) (.bool p.live) ∧ Cell I S ((⟨b, 0, none⟩ : Addr).add 3) (.int .i64 p.over) :=
  ⟨Cell.among hs rfl, Cell.at_ (add_mk _ _ _) (Cell.among hs rfl), Cell.at_ (add_mk _ _ _) (Cell.among hs rfl), Cell.at_ (add_mk _ _ _) (Cell.among hs rfl)⟩
theorem Policies_runs {rs : List Rus} {ov : Sb} {a : Option Addr} {c : Nat} {I : IMem} {S : SH} (g : GL I) (hx : RowIn I S a rs.length 1 elRus rs) (hl : rs.length ≤ 9223372036854775807) (hr : ∀ r ∈ rs, RusIn I S r) (ho : SbIn I S ov) :
    Runs Tryz.prog 29 #[.slice a rs.length c, .slice ov.a.1 ov.a.2.1 ov.a.2.2] I S (PolR S) := by
  obtain ⟨yr, yn, yl, yb⟩ := ho
  rw [yn]
  refine bolterlaw19_Policies_fn _ _ _ _ _ _ _ _ _ ?_
  unfold bolterlaw19_Policies bolterlaw19_Policies_b1 bolterlaw19_Policies_b2
  refine ⟨fun m y yn yc z zn zc x xn xc q i J T => y = ov.a.1 ∧ yn = ov.ns.length ∧ x = a ∧ xn = rs.length ∧ q = (rs.length : Int) ∧ I.le J ∧ ∃ (k : Nat) (ps : List Pl) (own zown : SH), i = (k : Int) ∧ k ≤ rs.length ∧ k ≤ 5 ∧ m = rs.length - k ∧ OwnP (.slice z zn zc) ps own ∧ (∀ x ∈ ps, PlIn J zown x) ∧ ps.length = k ∧ Sub (own ++ (zown ++ S)) T,
    rs.length, ⟨rfl, rfl, rfl, rfl, rfl, IMem.le.refl I, 0, [], [], [], rfl, Nat.zero_le _, Nat.zero_le _, rfl, OwnR.nil, fun x hx => (by cases hx), rfl, Sub.refl S⟩, ?_⟩
  rintro m y yn' yc z zn zc x xn xc q i J T - ⟨rfl, rfl, rfl, rfl, rfl, hle, k, ps, own, zown, rfl, hk, hk5, rfl, ho, hps, hpl, hs⟩
  have fin : ∀ T', Sub (own ++ (zown ++ S)) T' → bolterlaw19_Policies_b5 (PolR S) z zn zc J T' := by
    intro T' hs'
    unfold bolterlaw19_Policies_b5
    have := ho.len
    subst this
    exact ⟨ps, z, zc, own, zown, rfl, ho, hps, by omega, hs'⟩
  unfold bolterlaw19_Policies_l3
  refine bcase_dec (fun hg => ?_) (fun _ => fin T hs)
  have hST : Sub S T := hs.right.right
  obtain ⟨r, hrk⟩ := get_lt (xs := rs) (k := k) (by omega)
  obtain ⟨r1, r2, r3, r4⟩ := hr r (List.mem_of_getElem? hrk)
  obtain ⟨a', ea, hc⟩ := ((hx.sub hST).le hle).cell hrk
  have h0 := hc 0 _ rfl
  rw [e_add0] at h0
  unfold bolterlaw19_Policies_b4
  rw [ea]
  refine ⟨by omega, by omega, _, r.rs.length, _, by rw [← r2]; exact h0, ?_⟩
  refine bcase_beq (fun _ => fin _ hs) (fun h5 => ?_)
  refine (Origin_runs (k := k) (by omega) _ _).mono ?_
  rintro v J1 T1 hle1 ⟨rfl, rfl⟩
  refine ⟨_, rfl, (Origin_runs (k := k) (by omega) _ _).mono ?_⟩
  rintro v J2 T2 hle2 ⟨rfl, rfl⟩
  have l2 := (hle.trans hle1).trans hle2
  refine ⟨_, rfl, (Zone_runs (g.le l2) ((r1.le l2).sub hST) r3 (fun w hw => ((r4 w hw).le l2).sub hST)).mono ?_⟩
  rintro v J3 T3 hle3 ⟨zs, p, zc', ownz, rfl, hoz, hzl, hs3⟩
  have l3 := l2.trans hle3
  refine ⟨_, _, _, rfl, fun b8 => StP.all (vs := encPl ⟨orgN k, (p, zs.length, zc'), zs, true, 0⟩) rfl rfl ?_⟩
  -- a policy is put behind
  have put : ∀ (lv : Bool) (over : Int) (T' : SH), Sub (plB b8 ⟨orgN k, (p, zs.length, zc'), zs, lv, over⟩ :: (own ++ ((ownz ++ zown) ++ S))) T' →
      bolterlaw19_Policies_b9 (fun y yn yc z zn zc x xn xc q i J T => ∃ m', m' < rs.length - k ∧ (y = ov.a.1 ∧ yn = ov.ns.length ∧ x = some a' ∧ xn = rs.length ∧ q = (rs.length : Int) ∧ I.le J ∧ ∃ (k : Nat) (ps : List Pl) (own zown : SH), i = (k : Int) ∧ k ≤ rs.length ∧ k ≤ 5 ∧ m' = rs.length - k ∧ OwnP (.slice z zn zc) ps own ∧ (∀ x ∈ ps, PlIn J zown x) ∧ ps.length = k ∧ Sub (own ++ (zown ++ S)) T)) (PolR S) ov.a.1 ov.ns.length yc z zn zc ⟨b8, 0, none⟩ (some a') rs.length xc (rs.length : Int) (k : Int) J3 T' := by
    intro lv over T' hs'
    unfold bolterlaw19_Policies_b9
    obtain ⟨c0, c1, c2, c3⟩ := plX (I := J3) hs'
    refine ⟨_, c0, _, _, _, c1, _, c2, _, c3, fun b50 => app_p (p := ⟨orgN k, (p, zs.length, zc'), zs, lv, over⟩) hs'.drop ho (by omega) ?_⟩
    intro q n c own' T4 ho' hs4
    unfold bolterlaw19_Policies_b10
    refine ⟨rs.length - (k + 1), by omega, rfl, rfl, rfl, rfl, rfl, l3, k + 1, _, own', ownz ++ zown, by rw [wrap_i64 (by omega) (by omega)]; rfl, by omega, by omega, rfl, ho', ?_, by rw [List.length_append, hpl]; rfl, hs4⟩
    intro w hw
    rcases List.mem_append.1 hw with hw | hw
    · exact (((hps w hw).le ((hle1.trans hle2).trans hle3))).sub (Sub.right (Sub.refl _))
    · rw [List.mem_singleton.1 hw]
      exact ⟨(hoz.row encR_len).sub (Sub.left (Sub.refl _)), rfl, by show zs.length ≤ 10000; omega⟩
  have hs0 : Sub (plB b8 ⟨orgN k, (p, zs.length, zc'), zs, true, 0⟩ :: (own ++ ((ownz ++ zown) ++ S))) (plB b8 ⟨orgN k, (p, zs.length, zc'), zs, true, 0⟩ :: T3) :=
    (((((Sub.refl ownz).both hs).trans hs3).re (by intro a; simp only [cnt_cons, cnt_app]; omega)).cons _)
  unfold bolterlaw19_Policies_b6 bolterlaw19_Policies_b7
  refine bcase_dec (fun hov => ?_) (fun _ => put true 0 _ hs0)
  have hS0 : Sub S (plB b8 ⟨orgN k, (p, zs.length, zc'), zs, true, 0⟩ :: T3) := hs0.drop.right.right
  obtain ⟨u, hu⟩ := get_lt (xs := ov.ns) (k := k) (by omega)
  obtain ⟨a2, ea2, hc2⟩ := (yr.le l3).cell hu
  have h2 := hc2 0 (.int .u8 u) rfl
  rw [e_add0] at h2
  rw [ea2] at put ⊢
  refine ⟨S, hS0.keep (IMem.le.refl J3), by omega, by omega, u, h2, by omega, by omega, u, h2, StP.at_ (add_mk _ _ _) (StP.among (e := 61) (L := encPl ⟨orgN k, (p, zs.length, zc'), zs, true, 0⟩) hs0 (by show 3 + 1 ≤ 4; decide) rfl rfl ?_)⟩
  intro T5 hs5
  refine ⟨hs5.drop.right.right.keep (IMem.le.refl J3), ?_⟩
  generalize IntKind.wrap .i64 (IntKind.wrap .u8 ((u.tmod 24).tdiv 2)) = o1 at hs5
  generalize ((IntKind.wrap .u8 (u.tdiv 64)) != 3) = lv
  have hs5 : Sub (plB b8 ⟨orgN k, (p, zs.length, zc'), zs, true, o1⟩ :: (own ++ ((ownz ++ zown) ++ S))) T5 := hs5
  refine StP.at_ (add_mk _ _ _) (StP.among (e := 61) (L := encPl ⟨orgN k, (p, zs.length, zc'), zs, true, o1⟩) hs5 (by show 2 + 1 ≤ 4; decide) rfl rfl ?_)
  intro T6 hs6
  have hs6 : Sub (plB b8 ⟨orgN k, (p, zs.length, zc'), zs, lv, o1⟩ :: (own ++ ((ownz ++ zown) ++ S))) T6 := hs6
  unfold bolterlaw19_Policies_b8
  obtain ⟨_, _, _, c3⟩ := plX (I := J3) hs6
  refine ⟨_, c3, bcase_dec (fun _ => ?_) (fun _ => put lv o1 T6 hs6)⟩
  refine StP.at_ (add_mk _ _ _) (StP.among (e := 61) (L := encPl ⟨orgN k, (p, zs.length, zc'), zs, lv, o1⟩) hs6 (by show 3 + 1 ≤ 4; decide) rfl rfl ?_)
  intro T7 hs7
  exact put lv 0 T7 hs7
end Go.Proofs.YtmlojdbahlfiaaaGreatDoor
/- SearchWins: the policy that wins. -/
namespace Go.Proofs.YtmlojdbahlfiaaaGreatDoor
open Go.Px
set_option linter.unusedVariables false
set_option linter.unusedSimpArgs false
set_option maxRecDepth 8000

theorem qr_at {q : Qr} {J : IMem} {T : SH} {b : Nat} {F : SH} (hs : Sub (qrB b q :: F) T) : ∀ (j : Nat) (u : Value), (encQr q).toArray[j]? = some u → Cell J T ⟨b, j, none⟩ u := fun j u h => Cell.among hs h
abbrev RussW (W : World) (x : Sl) : Prop := x.2.1 ≤ x.2.2 ∧ x.2.2 ≤ maxLen ∧ ∃ ys : List Sl, SlIn (imW W) x.1 x.2.1 1 (fun x => [.slice x.1 x.2.1 x.2.2]) ys ∧ ∀ y ∈ ys, (fun x => RusW W x) y
theorem russ_of {W : World} {a : Option Addr} {len cap : Nat} (h : RussW W (a, len, cap)) : ∃ rs : List Rus, rs.length = len ∧ RowIn (imW W) [] a rs.length 1 elRus rs ∧ (∀ r ∈ rs, RusIn (imW W) [] r) ∧ rs.length ≤ 9223372036854775807 := by
  obtain ⟨h1, h2, ys, hs, hy⟩ := h
  obtain ⟨rs, hl, hr, hq⟩ : ∃ rs : List Rus, rs.length = len ∧ RowIn (imW W) [] a rs.length 1 elRus rs ∧ ∀ r ∈ rs, RusIn (imW W) [] r := rows_of (P := RusW W) (el2 := elRus) (Q := RusIn (imW W) []) (fun x hx => by
    obtain ⟨b, l, c⟩ := x
    obtain ⟨rs, e, hr, hq, hl⟩ := rus_of hx
    exact ⟨⟨(b, l, c), rs⟩, rfl, hr, e.symm, hl, hq⟩) (fun y => Nat.one_pos) hs hy
  have h3 : len ≤ cap ∧ cap ≤ maxLen := ⟨h1, h2⟩
  exact ⟨rs, hl, hr, hq, by unfold maxLen at h3; omega⟩
end Go.Proofs.YtmlojdbahlfiaaaGreatDoor
/- SearchZones: its steps, and its plain law. -/
namespace Go.Proofs.YtmlojdbahlfiaaaGreatDoor
open Go.Px
set_option linter.unusedVariables false
set_option linter.unusedSimpArgs false
set_option maxRecDepth 8000

theorem zcons {own X T : SH} (x : Nat × Obj) (h : Sub (own ++ X) T) : Sub (own ++ (x :: X)) (x :: T) := (h.cons x).re (by intro a; simp only [cnt_cons, cnt_app]; omega)
theorem zhead {S X : SH} (h : Sub S X) (x : Nat × Obj) : Sub [x] (x :: X) := ⟨X, List.Perm.refl _⟩
theorem zA1 {ps : List Pl} {xp : Option Addr} {xc : Nat} {X T : SH} {J : IMem} {K : Option Addr → Nat → Nat → SH → Prop} (hrow : RowIn J T xp ps.length 4 encPl ps) (hl : ps.length ≤ 5) (hs : Sub X T)
    (hK : ∀ u c own T', OwnP (.slice u ps.length c) ps own → Sub (own ++ X) T' → K u ps.length c T') : AppG 61 4 56 zP (some (.slice 61)) J T (.slice none 0 0) (.slice xp ps.length xc) K := by
  obtain ⟨G, hG⟩ := hs
  refine AppG.own (xs := []) (ys := ps) (el := encPl) (own := []) (F := X ++ G) encPl_len encPl_one rfl (by simpa using hG) OwnR.nil ⟨RowIn.rd encPl_len (by decide) hrow, flatMap_one encPl_one _⟩ (by simp only [List.length_nil, maxLen]; omega) (by simp only [List.length_nil]; omega) ?_
  intro u n c own ho
  have := ho.len
  subst this
  exact hK u c own _ ho ⟨G, by rw [List.append_assoc]⟩
theorem zA2 {ps : List Pl} {p : Pl} {b : Nat} {v : Value} {own X T : SH} {J : IMem} {K : Option Addr → Nat → Nat → SH → Prop} (hs : Sub (own ++ X) T) (hb : Sub [plB b p] X) (ho : OwnP v ps own) (hl : ps.length ≤ 5)
    (hK : ∀ u c own' T', OwnP (.slice u (ps ++ [p]).length c) (ps ++ [p]) own' → Sub (own' ++ X) T' → K u (ps ++ [p]).length c T') : AppG 61 4 56 zP (some (.slice 61)) J T v (.slice (some ⟨b, 0, none⟩) 1 1) K := by
  have hbT : Sub [plB b p] T := hb.trans hs.right
  obtain ⟨G, hG⟩ := hs
  refine AppG.own (xs := ps) (ys := [p]) (el := encPl) (own := own) (F := X ++ G) encPl_len encPl_one rfl (by rw [← List.append_assoc]; exact hG) ho ⟨Rd.keep (hbT.keep (IMem.le.refl J)) (Rd.list (L := encPl p) rfl (by simp [encPl])), rfl⟩ (by simp only [List.length_singleton, maxLen]; omega) (by simp only [List.length_singleton]; omega) ?_
  intro u n c own' ho'
  have := ho'.len
  subst this
  exact hK u c own' _ ho' ⟨G, by rw [List.append_assoc]⟩
theorem ofF_fac (q : Qr) (a s h a' s' h' : Sl) : ∀ (ps : List Pl) (k : Nat) (st : Bs), ofF (facF q a s h) ps k st = ofF (facF q a' s' h') ps k st
  | [], k, st => rfl
  | p :: ps, k, st => by
    show ofF (facF q a s h) ps (k + 1) (polF (facF q a s h) k p st) = ofF (facF q a' s' h') ps (k + 1) (polF (facF q a' s' h') k p st)
    rw [ofF_fac q a s h a' s' h' ps]
    rfl
theorem ofF_snoc (f : Fa) (p : Pl) : ∀ (ps : List Pl) (k : Nat) (st : Bs), ofF f (ps ++ [p]) k st = polF f (k + ps.length) p (ofF f ps k st)
  | [], k, st => rfl
  | x :: ps, k, st => by
    show ofF f (ps ++ [p]) (k + 1) (polF f k x st) = polF f (k + (ps.length + 1)) p (ofF f ps (k + 1) (polF f k x st))
    rw [ofF_snoc f p ps, show k + 1 + ps.length = k + (ps.length + 1) by omega]
/-- a zone behind changes nothing where one ahead wins -/
theorem fold_stay {f : Fa} {k : Nat} {p : Pl} {z : Nat} {t : Tg} {a : Av} (hz : z < k) : ∀ rs : List Rc, rs.foldl (stepR f k p) (some (z, t, a)) = some (z, t, a)
  | [] => rfl
  | r :: rs => by
    have h : stepR f k p (some (z, t, a)) r = some (z, t, a) := by
      unfold stepR
      cases nodeF p r.1 with
      | none => rfl
      | some x =>
        obtain ⟨t1, a1⟩ := x
        refine if_neg (fun h => ?_)
        have h3 : ahead k z t1 t = true := h.2.2
        rcases ahead_iff.1 h3 with h | ⟨h, _⟩ <;> omega
    rw [List.foldl_cons, h]
    exact fold_stay hz rs
theorem snoc_some {f : Fa} {ps : List Pl} {p : Pl} {x : Nat × Tg × Av} (h : ofF f ps 0 none = some x) : ofF f (ps ++ [p]) 0 none = some x := by
  obtain ⟨z, t, a⟩ := x
  rw [ofF_snoc, h, Nat.zero_add]
  obtain ⟨q, r, hq, _, _⟩ := (of_best f ps).2 z t a h
  have hz := lt_get hq
  unfold polF
  by_cases hl : p.live = true
  · rw [if_pos hl, fold_stay hz]
  · rw [if_neg hl]
theorem snoc_dead {f : Fa} {ps : List Pl} {p : Pl} (hl : p.live = false) : ofF f (ps ++ [p]) 0 none = ofF f ps 0 none := by
  rw [ofF_snoc, polF, if_neg (by rw [hl]; exact Bool.false_ne_true)]
theorem snoc_none {f : Fa} {ps : List Pl} {p : Pl} {z : Nat} {t : Tg} {a : Av} (h : ofF f ps 0 none = none) (h2 : ofF f (ps ++ [p]) 0 none = some (z, t, a)) : z = ps.length := by
  obtain ⟨q, r, hq, hr, hc⟩ := (of_best f (ps ++ [p])).2 z t a h2
  have hz := lt_get hq
  rw [List.length_append, List.length_singleton] at hz
  by_cases e : z < ps.length
  · rw [List.getElem?_append_left e] at hq
    obtain ⟨_, _, _, h3, _⟩ := (of_best f ps).1 z q r t a hq hr hc
    rw [h] at h3; cases h3
  · omega
/-! ### the same verdict -/
theorem same_runs {st st' : Bs} {p q : Option Addr} {c d : Nat} {I : IMem} {S : SH} (hp : RowIn I S p (bsV st).2.2.rs.length 4 encR (bsV st).2.2.rs) (hq : RowIn I S q (bsV st').2.2.rs.length 4 encR (bsV st').2.2.rs) (hl : (bsV st).2.2.rs.length ≤ 9223372036854775807) (he : st = st') :
    Runs Tryz.prog 32 #[vVd (bsV st) p (bsV st).2.2.rs.length c, vVd (bsV st') q (bsV st').2.2.rs.length d] I S fun v _ T => v = .bool true ∧ T = S := by
  subst he
  refine Runs.drop (bolterlaw19_SearchZones_f1_fn _ _ _ _ _ _ _ _ _ _ _ _ _ _ _ _ _ _ _ _ _ _ _ _ _ ?_)
  unfold bolterlaw19_SearchZones_f1
  intro b2 b3
  have hA : Sub (vdB b2 (bsV st) p (bsV st).2.2.rs.length c :: S) (vdB b3 (bsV st) q (bsV st).2.2.rs.length d :: vdB b2 (bsV st) p (bsV st).2.2.rs.length c :: S) := (Sub.refl _).skip _
  have hB : Sub (vdB b3 (bsV st) q (bsV st).2.2.rs.length d :: vdB b2 (bsV st) p (bsV st).2.2.rs.length c :: S) (vdB b3 (bsV st) q (bsV st).2.2.rs.length d :: vdB b2 (bsV st) p (bsV st).2.2.rs.length c :: S) := Sub.refl _
  have d := vdX (I := I) hA
  have e := vdX (I := I) hB
  refine ⟨_, d 0 _ rfl, _, e 0 _ rfl, bcase_t (beq_self_eq_true _) ⟨_, d 1 _ rfl, _, d 2 _ rfl, _, d 3 _ rfl, _, d 4 _ rfl, _, e 1 _ rfl, _, e 2 _ rfl, _, e 3 _ rfl, _, e 4 _ rfl, bcase_t (tg_self _) ⟨_, d 5 _ rfl, _, d 6 _ rfl, _, d 7 _ rfl, _, _, _, d 8 _ rfl, _, e 5 _ rfl, _, e 6 _ rfl, _, e 7 _ rfl, _, _, _, e 8 _ rfl, ?_⟩⟩⟩
  refine (Same_runs (a := (bsV st).2.2) (b := (bsV st).2.2) (hp.sub hA.drop) (hq.sub hA.drop) hl).mono ?_
  rintro v J T hle ⟨⟨r, rfl, hr⟩, rfl⟩
  refine ⟨_, rfl, ?_⟩
  unfold bolterlaw19_SearchZones_f1_b1
  exact ⟨S, hA.drop, by rw [hr.2 rfl], rfl⟩
end Go.Proofs.YtmlojdbahlfiaaaGreatDoor
/- SearchZones: the two open regions. PRINTED by tools/zonesgen.py out of P9. -/
namespace Go.Proofs.YtmlojdbahlfiaaaGreatDoor
open Go.Px
set_option linter.unusedVariables false
set_option linter.unusedSimpArgs false
set_option maxRecDepth 8000

theorem z_b2 {R : RT} {ps : List Pl} {p : Pl} {q : Qr} {xp : Option Addr} {xc b7 b10 : Nat} {x11 x13 : Addr} {x12 x14 : Bool} {I : IMem} {S F1 F2 : SH} {st : Bs} (g : GL I) (hrow0 : RowIn I S xp ps.length 4 encPl ps) (hl5 : ps.length ≤ 5) (hps : ∀ x ∈ ps ++ [p], PlIn I S x) (hq : QrIn I S q) (h10 : Sub (plB b10 p :: F1) S) (h7 : Sub (qrB b7 q :: F2) S)
    (hst : ofF (facF q (none, 0, 0) (none, 0, 0) (none, 0, 0)) (ps ++ [p]) 0 none = st)
    (hR : ∀ (b : Nat) (J : IMem) (T : SH) (q3 : Option Addr) (n3 c3 : Nat) (own3 : SH), I.le J → OwnZ (.slice q3 n3 c3) (bsV st).2.2.rs own3 → Sub (vdB b (bsV st) q3 n3 c3 :: (own3 ++ S)) T → bolterlaw19_SearchZones_b3 R ⟨b7, 0, none⟩ xp ps.length xc ⟨b10, 0, none⟩ x11 x12 ⟨b, 0, none⟩ st.isSome J T) :
    bolterlaw19_SearchZones_b2 R ⟨b7, 0, none⟩ xp ps.length xc ⟨b10, 0, none⟩ x11 x12 I S := by
  unfold bolterlaw19_SearchZones_b2
  obtain ⟨c0, c1, c2, c3⟩ := plX (I := I) h10
  obtain ⟨d0, d1, d2, d3, d4, d5⟩ := qrA q (I := I) h7
  refine ⟨_, c0, _, _, _, c1, _, c2, _, c3, _, d0, _, _, _, d1, _, _, _, d2, _, _, _, d3, _, _, _, d4, _, _, _, d5, ?_⟩
  have hrow : ∀ {J : IMem} {T : SH}, Keep I S J T → RowIn J T xp ps.length 4 encPl ps := fun h => hrow0.keep h
  have hX : Sub S S := Sub.refl S
  have hs : Sub ([] ++ S) S := Sub.refl S
  have hle : I.le I := IMem.le.refl I
  refine ⟨?_, ?_⟩
  · refine zA1 (hrow ((hX.trans hs.right).keep hle)) hl5 hs ?_
    intro u c own T ho hs
    refine ⟨(hX.trans hs.right).keep hle, ?_⟩
    refine ⟨?_, ?_⟩
    · intro bl
      replace hs := zcons (plB bl p) hs
      have hb := zhead hX (plB bl p)
      replace hX := hX.skip (plB bl p)
      refine ⟨(hX.trans hs.right).keep hle, ?_⟩
      refine ⟨?_, ?_⟩
      · refine zA2 hs hb ho hl5 ?_
        intro u c own T ho hs
        refine ⟨(hX.trans hs.right).keep hle, ?_⟩
        refine ⟨?_, ?_⟩
        · refine (Facts_runs (hq.keep ((hX.trans hs.right).keep hle))).mono ?_
          rintro v J T hle2 ⟨f1, f2, f3, rfl, hin, hs2⟩
          replace hs := hs.trans hs2
          replace hle := hle.trans hle2
          refine ⟨_, _, _, _, _, _, _, _, _, _, _, rfl, ?_⟩
          refine ⟨?_, ?_⟩
          · refine (Of_runs (g.le hle) hin ((OwnR.row encPl_len ho).sub hs.left) (fun x hx => (hps x hx).keep ((hX.trans hs.right).keep hle)) (by rw [List.length_append]; show ps.length + 1 ≤ 2000; omega)).mono ?_
            rintro v J T hle2 ⟨q3, n3, c3, own3, rfl, ho3, hs3⟩
            rw [ofF_fac q f1 f2 f3 (none, 0, 0) (none, 0, 0) (none, 0, 0), hst] at ho3 ⊢
            replace hle := hle.trans hle2
            refine ⟨_, _, _, _, _, _, _, _, _, _, _, _, rfl, ?_⟩
            intro bv
            refine ⟨(hX.trans (hs.right.trans (hs3.right.skip _))).keep hle, ?_⟩
            refine StP.all (vs := encVd (bsV st) q3 n3 c3) rfl rfl ?_
            exact hR bv _ _ q3 n3 c3 own3 hle ho3 ((((Sub.refl own3).both (hX.trans hs.right)).trans hs3).cons _)
          · intro bv
            replace hs := zcons (vdB bv vd0 none 0 0) hs
            have hv := hX.cons (vdB bv vd0 none 0 0)
            replace hX := hX.skip (vdB bv vd0 none 0 0)
            replace hb := hb.skip (vdB bv vd0 none 0 0)
            replace hin := hin.sub ((Sub.refl _).skip (vdB bv vd0 none 0 0))
            refine ⟨(hX.trans hs.right).keep hle, ?_⟩
            refine (Of_runs (g.le hle) hin ((OwnR.row encPl_len ho).sub hs.left) (fun x hx => (hps x hx).keep ((hX.trans hs.right).keep hle)) (by rw [List.length_append]; show ps.length + 1 ≤ 2000; omega)).mono ?_
            rintro v J T hle2 ⟨q3, n3, c3, own3, rfl, ho3, hs3⟩
            rw [ofF_fac q f1 f2 f3 (none, 0, 0) (none, 0, 0) (none, 0, 0), hst] at ho3 ⊢
            replace hle := hle.trans hle2
            refine ⟨_, _, _, _, _, _, _, _, _, _, _, _, rfl, ?_⟩
            refine StP.among (e := 80) (L := encVd vd0 none 0 0) (L' := encVd (bsV st) q3 n3 c3) (F := own3 ++ S) (((((Sub.refl own3).both (hv.trans hs.right)).trans hs3).re (by intro a; simp only [vdB, cnt_cons, cnt_app]; omega))) (Nat.le_of_ble_eq_true rfl) rfl rfl ?_
            intro T hT
            exact hR bv _ _ q3 n3 c3 own3 hle ho3 hT
        · intro bv
          replace hs := zcons (vdB bv vd0 none 0 0) hs
          have hv := hX.cons (vdB bv vd0 none 0 0)
          replace hX := hX.skip (vdB bv vd0 none 0 0)
          replace hb := hb.skip (vdB bv vd0 none 0 0)
          refine ⟨(hX.trans hs.right).keep hle, ?_⟩
          refine (Facts_runs (hq.keep ((hX.trans hs.right).keep hle))).mono ?_
          rintro v J T hle2 ⟨f1, f2, f3, rfl, hin, hs2⟩
          replace hs := hs.trans hs2
          replace hle := hle.trans hle2
          refine ⟨_, _, _, _, _, _, _, _, _, _, _, rfl, ?_⟩
          refine (Of_runs (g.le hle) hin ((OwnR.row encPl_len ho).sub hs.left) (fun x hx => (hps x hx).keep ((hX.trans hs.right).keep hle)) (by rw [List.length_append]; show ps.length + 1 ≤ 2000; omega)).mono ?_
          rintro v J T hle2 ⟨q3, n3, c3, own3, rfl, ho3, hs3⟩
          rw [ofF_fac q f1 f2 f3 (none, 0, 0) (none, 0, 0) (none, 0, 0), hst] at ho3 ⊢
          replace hle := hle.trans hle2
          refine ⟨_, _, _, _, _, _, _, _, _, _, _, _, rfl, ?_⟩
          refine StP.among (e := 80) (L := encVd vd0 none 0 0) (L' := encVd (bsV st) q3 n3 c3) (F := own3 ++ S) (((((Sub.refl own3).both (hv.trans hs.right)).trans hs3).re (by intro a; simp only [vdB, cnt_cons, cnt_app]; omega))) (Nat.le_of_ble_eq_true rfl) rfl rfl ?_
          intro T hT
          exact hR bv _ _ q3 n3 c3 own3 hle ho3 hT
      · intro bv
        replace hs := zcons (vdB bv vd0 none 0 0) hs
        have hv := hX.cons (vdB bv vd0 none 0 0)
        replace hX := hX.skip (vdB bv vd0 none 0 0)
        replace hb := hb.skip (vdB bv vd0 none 0 0)
        refine ⟨(hX.trans hs.right).keep hle, ?_⟩
        refine zA2 hs hb ho hl5 ?_
        intro u c own T ho hs
        refine ⟨(hX.trans hs.right).keep hle, ?_⟩
        refine (Facts_runs (hq.keep ((hX.trans hs.right).keep hle))).mono ?_
        rintro v J T hle2 ⟨f1, f2, f3, rfl, hin, hs2⟩
        replace hs := hs.trans hs2
        replace hle := hle.trans hle2
        refine ⟨_, _, _, _, _, _, _, _, _, _, _, rfl, ?_⟩
        refine (Of_runs (g.le hle) hin ((OwnR.row encPl_len ho).sub hs.left) (fun x hx => (hps x hx).keep ((hX.trans hs.right).keep hle)) (by rw [List.length_append]; show ps.length + 1 ≤ 2000; omega)).mono ?_
        rintro v J T hle2 ⟨q3, n3, c3, own3, rfl, ho3, hs3⟩
        rw [ofF_fac q f1 f2 f3 (none, 0, 0) (none, 0, 0) (none, 0, 0), hst] at ho3 ⊢
        replace hle := hle.trans hle2
        refine ⟨_, _, _, _, _, _, _, _, _, _, _, _, rfl, ?_⟩
        refine StP.among (e := 80) (L := encVd vd0 none 0 0) (L' := encVd (bsV st) q3 n3 c3) (F := own3 ++ S) (((((Sub.refl own3).both (hv.trans hs.right)).trans hs3).re (by intro a; simp only [vdB, cnt_cons, cnt_app]; omega))) (Nat.le_of_ble_eq_true rfl) rfl rfl ?_
        intro T hT
        exact hR bv _ _ q3 n3 c3 own3 hle ho3 hT
    · intro bv
      replace hs := zcons (vdB bv vd0 none 0 0) hs
      have hv := hX.cons (vdB bv vd0 none 0 0)
      replace hX := hX.skip (vdB bv vd0 none 0 0)
      refine ⟨(hX.trans hs.right).keep hle, ?_⟩
      intro bl
      replace hs := zcons (plB bl p) hs
      have hb := zhead hX (plB bl p)
      replace hX := hX.skip (plB bl p)
      replace hv := hv.skip (plB bl p)
      refine ⟨(hX.trans hs.right).keep hle, ?_⟩
      refine zA2 hs hb ho hl5 ?_
      intro u c own T ho hs
      refine ⟨(hX.trans hs.right).keep hle, ?_⟩
      refine (Facts_runs (hq.keep ((hX.trans hs.right).keep hle))).mono ?_
      rintro v J T hle2 ⟨f1, f2, f3, rfl, hin, hs2⟩
      replace hs := hs.trans hs2
      replace hle := hle.trans hle2
      refine ⟨_, _, _, _, _, _, _, _, _, _, _, rfl, ?_⟩
      refine (Of_runs (g.le hle) hin ((OwnR.row encPl_len ho).sub hs.left) (fun x hx => (hps x hx).keep ((hX.trans hs.right).keep hle)) (by rw [List.length_append]; show ps.length + 1 ≤ 2000; omega)).mono ?_
      rintro v J T hle2 ⟨q3, n3, c3, own3, rfl, ho3, hs3⟩
      rw [ofF_fac q f1 f2 f3 (none, 0, 0) (none, 0, 0) (none, 0, 0), hst] at ho3 ⊢
      replace hle := hle.trans hle2
      refine ⟨_, _, _, _, _, _, _, _, _, _, _, _, rfl, ?_⟩
      refine StP.among (e := 80) (L := encVd vd0 none 0 0) (L' := encVd (bsV st) q3 n3 c3) (F := own3 ++ S) (((((Sub.refl own3).both (hv.trans hs.right)).trans hs3).re (by intro a; simp only [vdB, cnt_cons, cnt_app]; omega))) (Nat.le_of_ble_eq_true rfl) rfl rfl ?_
      intro T hT
      exact hR bv _ _ q3 n3 c3 own3 hle ho3 hT
  · refine ⟨?_, ?_⟩
    · intro bl
      replace hs := zcons (plB bl p) hs
      have hb := zhead hX (plB bl p)
      replace hX := hX.skip (plB bl p)
      refine ⟨(hX.trans hs.right).keep hle, ?_⟩
      refine ⟨?_, ?_⟩
      · refine zA1 (hrow ((hX.trans hs.right).keep hle)) hl5 hs ?_
        intro u c own T ho hs
        refine ⟨(hX.trans hs.right).keep hle, ?_⟩
        refine ⟨?_, ?_⟩
        · refine zA2 hs hb ho hl5 ?_
          intro u c own T ho hs
          refine ⟨(hX.trans hs.right).keep hle, ?_⟩
          refine ⟨?_, ?_⟩
          · refine (Facts_runs (hq.keep ((hX.trans hs.right).keep hle))).mono ?_
            rintro v J T hle2 ⟨f1, f2, f3, rfl, hin, hs2⟩
            replace hs := hs.trans hs2
            replace hle := hle.trans hle2
            refine ⟨_, _, _, _, _, _, _, _, _, _, _, rfl, ?_⟩
            refine ⟨?_, ?_⟩
            · refine (Of_runs (g.le hle) hin ((OwnR.row encPl_len ho).sub hs.left) (fun x hx => (hps x hx).keep ((hX.trans hs.right).keep hle)) (by rw [List.length_append]; show ps.length + 1 ≤ 2000; omega)).mono ?_
              rintro v J T hle2 ⟨q3, n3, c3, own3, rfl, ho3, hs3⟩
              rw [ofF_fac q f1 f2 f3 (none, 0, 0) (none, 0, 0) (none, 0, 0), hst] at ho3 ⊢
              replace hle := hle.trans hle2
              refine ⟨_, _, _, _, _, _, _, _, _, _, _, _, rfl, ?_⟩
              intro bv
              refine ⟨(hX.trans (hs.right.trans (hs3.right.skip _))).keep hle, ?_⟩
              refine StP.all (vs := encVd (bsV st) q3 n3 c3) rfl rfl ?_
              exact hR bv _ _ q3 n3 c3 own3 hle ho3 ((((Sub.refl own3).both (hX.trans hs.right)).trans hs3).cons _)
            · intro bv
              replace hs := zcons (vdB bv vd0 none 0 0) hs
              have hv := hX.cons (vdB bv vd0 none 0 0)
              replace hX := hX.skip (vdB bv vd0 none 0 0)
              replace hb := hb.skip (vdB bv vd0 none 0 0)
              replace hin := hin.sub ((Sub.refl _).skip (vdB bv vd0 none 0 0))
              refine ⟨(hX.trans hs.right).keep hle, ?_⟩
              refine (Of_runs (g.le hle) hin ((OwnR.row encPl_len ho).sub hs.left) (fun x hx => (hps x hx).keep ((hX.trans hs.right).keep hle)) (by rw [List.length_append]; show ps.length + 1 ≤ 2000; omega)).mono ?_
              rintro v J T hle2 ⟨q3, n3, c3, own3, rfl, ho3, hs3⟩
              rw [ofF_fac q f1 f2 f3 (none, 0, 0) (none, 0, 0) (none, 0, 0), hst] at ho3 ⊢
              replace hle := hle.trans hle2
              refine ⟨_, _, _, _, _, _, _, _, _, _, _, _, rfl, ?_⟩
              refine StP.among (e := 80) (L := encVd vd0 none 0 0) (L' := encVd (bsV st) q3 n3 c3) (F := own3 ++ S) (((((Sub.refl own3).both (hv.trans hs.right)).trans hs3).re (by intro a; simp only [vdB, cnt_cons, cnt_app]; omega))) (Nat.le_of_ble_eq_true rfl) rfl rfl ?_
              intro T hT
              exact hR bv _ _ q3 n3 c3 own3 hle ho3 hT
          · intro bv
            replace hs := zcons (vdB bv vd0 none 0 0) hs
            have hv := hX.cons (vdB bv vd0 none 0 0)
            replace hX := hX.skip (vdB bv vd0 none 0 0)
            replace hb := hb.skip (vdB bv vd0 none 0 0)
            refine ⟨(hX.trans hs.right).keep hle, ?_⟩
            refine (Facts_runs (hq.keep ((hX.trans hs.right).keep hle))).mono ?_
            rintro v J T hle2 ⟨f1, f2, f3, rfl, hin, hs2⟩
            replace hs := hs.trans hs2
            replace hle := hle.trans hle2
            refine ⟨_, _, _, _, _, _, _, _, _, _, _, rfl, ?_⟩
            refine (Of_runs (g.le hle) hin ((OwnR.row encPl_len ho).sub hs.left) (fun x hx => (hps x hx).keep ((hX.trans hs.right).keep hle)) (by rw [List.length_append]; show ps.length + 1 ≤ 2000; omega)).mono ?_
            rintro v J T hle2 ⟨q3, n3, c3, own3, rfl, ho3, hs3⟩
            rw [ofF_fac q f1 f2 f3 (none, 0, 0) (none, 0, 0) (none, 0, 0), hst] at ho3 ⊢
            replace hle := hle.trans hle2
            refine ⟨_, _, _, _, _, _, _, _, _, _, _, _, rfl, ?_⟩
            refine StP.among (e := 80) (L := encVd vd0 none 0 0) (L' := encVd (bsV st) q3 n3 c3) (F := own3 ++ S) (((((Sub.refl own3).both (hv.trans hs.right)).trans hs3).re (by intro a; simp only [vdB, cnt_cons, cnt_app]; omega))) (Nat.le_of_ble_eq_true rfl) rfl rfl ?_
            intro T hT
            exact hR bv _ _ q3 n3 c3 own3 hle ho3 hT
        · intro bv
          replace hs := zcons (vdB bv vd0 none 0 0) hs
          have hv := hX.cons (vdB bv vd0 none 0 0)
          replace hX := hX.skip (vdB bv vd0 none 0 0)
          replace hb := hb.skip (vdB bv vd0 none 0 0)
          refine ⟨(hX.trans hs.right).keep hle, ?_⟩
          refine zA2 hs hb ho hl5 ?_
          intro u c own T ho hs
          refine ⟨(hX.trans hs.right).keep hle, ?_⟩
          refine (Facts_runs (hq.keep ((hX.trans hs.right).keep hle))).mono ?_
          rintro v J T hle2 ⟨f1, f2, f3, rfl, hin, hs2⟩
          replace hs := hs.trans hs2
          replace hle := hle.trans hle2
          refine ⟨_, _, _, _, _, _, _, _, _, _, _, rfl, ?_⟩
          refine (Of_runs (g.le hle) hin ((OwnR.row encPl_len ho).sub hs.left) (fun x hx => (hps x hx).keep ((hX.trans hs.right).keep hle)) (by rw [List.length_append]; show ps.length + 1 ≤ 2000; omega)).mono ?_
          rintro v J T hle2 ⟨q3, n3, c3, own3, rfl, ho3, hs3⟩
          rw [ofF_fac q f1 f2 f3 (none, 0, 0) (none, 0, 0) (none, 0, 0), hst] at ho3 ⊢
          replace hle := hle.trans hle2
          refine ⟨_, _, _, _, _, _, _, _, _, _, _, _, rfl, ?_⟩
          refine StP.among (e := 80) (L := encVd vd0 none 0 0) (L' := encVd (bsV st) q3 n3 c3) (F := own3 ++ S) (((((Sub.refl own3).both (hv.trans hs.right)).trans hs3).re (by intro a; simp only [vdB, cnt_cons, cnt_app]; omega))) (Nat.le_of_ble_eq_true rfl) rfl rfl ?_
          intro T hT
          exact hR bv _ _ q3 n3 c3 own3 hle ho3 hT
      · intro bv
        replace hs := zcons (vdB bv vd0 none 0 0) hs
        have hv := hX.cons (vdB bv vd0 none 0 0)
        replace hX := hX.skip (vdB bv vd0 none 0 0)
        replace hb := hb.skip (vdB bv vd0 none 0 0)
        refine ⟨(hX.trans hs.right).keep hle, ?_⟩
        refine zA1 (hrow ((hX.trans hs.right).keep hle)) hl5 hs ?_
        intro u c own T ho hs
        refine ⟨(hX.trans hs.right).keep hle, ?_⟩
        refine zA2 hs hb ho hl5 ?_
        intro u c own T ho hs
        refine ⟨(hX.trans hs.right).keep hle, ?_⟩
        refine (Facts_runs (hq.keep ((hX.trans hs.right).keep hle))).mono ?_
        rintro v J T hle2 ⟨f1, f2, f3, rfl, hin, hs2⟩
        replace hs := hs.trans hs2
        replace hle := hle.trans hle2
        refine ⟨_, _, _, _, _, _, _, _, _, _, _, rfl, ?_⟩
        refine (Of_runs (g.le hle) hin ((OwnR.row encPl_len ho).sub hs.left) (fun x hx => (hps x hx).keep ((hX.trans hs.right).keep hle)) (by rw [List.length_append]; show ps.length + 1 ≤ 2000; omega)).mono ?_
        rintro v J T hle2 ⟨q3, n3, c3, own3, rfl, ho3, hs3⟩
        rw [ofF_fac q f1 f2 f3 (none, 0, 0) (none, 0, 0) (none, 0, 0), hst] at ho3 ⊢
        replace hle := hle.trans hle2
        refine ⟨_, _, _, _, _, _, _, _, _, _, _, _, rfl, ?_⟩
        refine StP.among (e := 80) (L := encVd vd0 none 0 0) (L' := encVd (bsV st) q3 n3 c3) (F := own3 ++ S) (((((Sub.refl own3).both (hv.trans hs.right)).trans hs3).re (by intro a; simp only [vdB, cnt_cons, cnt_app]; omega))) (Nat.le_of_ble_eq_true rfl) rfl rfl ?_
        intro T hT
        exact hR bv _ _ q3 n3 c3 own3 hle ho3 hT
    · intro bv
      replace hs := zcons (vdB bv vd0 none 0 0) hs
      have hv := hX.cons (vdB bv vd0 none 0 0)
      replace hX := hX.skip (vdB bv vd0 none 0 0)
      refine ⟨(hX.trans hs.right).keep hle, ?_⟩
      refine ⟨?_, ?_⟩
      · refine zA1 (hrow ((hX.trans hs.right).keep hle)) hl5 hs ?_
        intro u c own T ho hs
        refine ⟨(hX.trans hs.right).keep hle, ?_⟩
        intro bl
        replace hs := zcons (plB bl p) hs
        have hb := zhead hX (plB bl p)
        replace hX := hX.skip (plB bl p)
        replace hv := hv.skip (plB bl p)
        refine ⟨(hX.trans hs.right).keep hle, ?_⟩
        refine zA2 hs hb ho hl5 ?_
        intro u c own T ho hs
        refine ⟨(hX.trans hs.right).keep hle, ?_⟩
        refine (Facts_runs (hq.keep ((hX.trans hs.right).keep hle))).mono ?_
        rintro v J T hle2 ⟨f1, f2, f3, rfl, hin, hs2⟩
        replace hs := hs.trans hs2
        replace hle := hle.trans hle2
        refine ⟨_, _, _, _, _, _, _, _, _, _, _, rfl, ?_⟩
        refine (Of_runs (g.le hle) hin ((OwnR.row encPl_len ho).sub hs.left) (fun x hx => (hps x hx).keep ((hX.trans hs.right).keep hle)) (by rw [List.length_append]; show ps.length + 1 ≤ 2000; omega)).mono ?_
        rintro v J T hle2 ⟨q3, n3, c3, own3, rfl, ho3, hs3⟩
        rw [ofF_fac q f1 f2 f3 (none, 0, 0) (none, 0, 0) (none, 0, 0), hst] at ho3 ⊢
        replace hle := hle.trans hle2
        refine ⟨_, _, _, _, _, _, _, _, _, _, _, _, rfl, ?_⟩
        refine StP.among (e := 80) (L := encVd vd0 none 0 0) (L' := encVd (bsV st) q3 n3 c3) (F := own3 ++ S) (((((Sub.refl own3).both (hv.trans hs.right)).trans hs3).re (by intro a; simp only [vdB, cnt_cons, cnt_app]; omega))) (Nat.le_of_ble_eq_true rfl) rfl rfl ?_
        intro T hT
        exact hR bv _ _ q3 n3 c3 own3 hle ho3 hT
      · intro bl
        replace hs := zcons (plB bl p) hs
        have hb := zhead hX (plB bl p)
        replace hX := hX.skip (plB bl p)
        replace hv := hv.skip (plB bl p)
        refine ⟨(hX.trans hs.right).keep hle, ?_⟩
        refine zA1 (hrow ((hX.trans hs.right).keep hle)) hl5 hs ?_
        intro u c own T ho hs
        refine ⟨(hX.trans hs.right).keep hle, ?_⟩
        refine zA2 hs hb ho hl5 ?_
        intro u c own T ho hs
        refine ⟨(hX.trans hs.right).keep hle, ?_⟩
        refine (Facts_runs (hq.keep ((hX.trans hs.right).keep hle))).mono ?_
        rintro v J T hle2 ⟨f1, f2, f3, rfl, hin, hs2⟩
        replace hs := hs.trans hs2
        replace hle := hle.trans hle2
        refine ⟨_, _, _, _, _, _, _, _, _, _, _, rfl, ?_⟩
        refine (Of_runs (g.le hle) hin ((OwnR.row encPl_len ho).sub hs.left) (fun x hx => (hps x hx).keep ((hX.trans hs.right).keep hle)) (by rw [List.length_append]; show ps.length + 1 ≤ 2000; omega)).mono ?_
        rintro v J T hle2 ⟨q3, n3, c3, own3, rfl, ho3, hs3⟩
        rw [ofF_fac q f1 f2 f3 (none, 0, 0) (none, 0, 0) (none, 0, 0), hst] at ho3 ⊢
        replace hle := hle.trans hle2
        refine ⟨_, _, _, _, _, _, _, _, _, _, _, _, rfl, ?_⟩
        refine StP.among (e := 80) (L := encVd vd0 none 0 0) (L' := encVd (bsV st) q3 n3 c3) (F := own3 ++ S) (((((Sub.refl own3).both (hv.trans hs.right)).trans hs3).re (by intro a; simp only [vdB, cnt_cons, cnt_app]; omega))) (Nat.le_of_ble_eq_true rfl) rfl rfl ?_
        intro T hT
        exact hR bv _ _ q3 n3 c3 own3 hle ho3 hT
theorem z_b4 {R : RT} {ps : List Pl} {p : Pl} {q : Qr} {xp : Option Addr} {xc b7 b10 : Nat} {x11 x13 : Addr} {x12 x14 : Bool} {I : IMem} {S F1 F2 : SH} {st : Bs} (g : GL I) (hrow0 : RowIn I S xp ps.length 4 encPl ps) (hl5 : ps.length ≤ 5) (hps : ∀ x ∈ ps ++ [p], PlIn I S x) (hq : QrIn I S q) (h10 : Sub (plB b10 p :: F1) S) (h7 : Sub (qrB b7 q :: F2) S)
    (hst : ofF (facF q (none, 0, 0) (none, 0, 0) (none, 0, 0)) (ps ++ [p]) 0 none = st)
    (hR : ∀ (b : Nat) (J : IMem) (T : SH) (q3 : Option Addr) (n3 c3 : Nat) (own3 : SH), I.le J → OwnZ (.slice q3 n3 c3) (bsV st).2.2.rs own3 → Sub (vdB b (bsV st) q3 n3 c3 :: (own3 ++ S)) T → bolterlaw19_SearchZones_b5 R xp ps.length xc x11 x12 x13 x14 ⟨b, 0, none⟩ st.isSome J T) :
    bolterlaw19_SearchZones_b4 R ⟨b7, 0, none⟩ xp ps.length xc ⟨b10, 0, none⟩ x11 x12 x13 x14 I S := by
  unfold bolterlaw19_SearchZones_b4
  obtain ⟨c0, c1, c2, c3⟩ := plX (I := I) h10
  obtain ⟨d0, d1, d2, d3, d4, d5⟩ := qrA q (I := I) h7
  refine ⟨_, c0, _, _, _, c1, _, c2, _, c3, _, d0, _, _, _, d1, _, _, _, d2, _, _, _, d3, _, _, _, d4, _, _, _, d5, ?_⟩
  have hrow : ∀ {J : IMem} {T : SH}, Keep I S J T → RowIn J T xp ps.length 4 encPl ps := fun h => hrow0.keep h
  have hX : Sub S S := Sub.refl S
  have hs : Sub ([] ++ S) S := Sub.refl S
  have hle : I.le I := IMem.le.refl I
  refine ⟨?_, ?_⟩
  · refine zA1 (hrow ((hX.trans hs.right).keep hle)) hl5 hs ?_
    intro u c own T ho hs
    refine ⟨(hX.trans hs.right).keep hle, ?_⟩
    refine ⟨?_, ?_⟩
    · intro bl
      replace hs := zcons (plB bl p) hs
      have hb := zhead hX (plB bl p)
      replace hX := hX.skip (plB bl p)
      refine ⟨(hX.trans hs.right).keep hle, ?_⟩
      refine ⟨?_, ?_⟩
      · refine zA2 hs hb ho hl5 ?_
        intro u c own T ho hs
        refine ⟨(hX.trans hs.right).keep hle, ?_⟩
        refine ⟨?_, ?_⟩
        · refine (Facts_runs (hq.keep ((hX.trans hs.right).keep hle))).mono ?_
          rintro v J T hle2 ⟨f1, f2, f3, rfl, hin, hs2⟩
          replace hs := hs.trans hs2
          replace hle := hle.trans hle2
          refine ⟨_, _, _, _, _, _, _, _, _, _, _, rfl, ?_⟩
          refine ⟨?_, ?_⟩
          · refine (Of_runs (g.le hle) hin ((OwnR.row encPl_len ho).sub hs.left) (fun x hx => (hps x hx).keep ((hX.trans hs.right).keep hle)) (by rw [List.length_append]; show ps.length + 1 ≤ 2000; omega)).mono ?_
            rintro v J T hle2 ⟨q3, n3, c3, own3, rfl, ho3, hs3⟩
            rw [ofF_fac q f1 f2 f3 (none, 0, 0) (none, 0, 0) (none, 0, 0), hst] at ho3 ⊢
            replace hle := hle.trans hle2
            refine ⟨_, _, _, _, _, _, _, _, _, _, _, _, rfl, ?_⟩
            intro bv
            refine ⟨(hX.trans (hs.right.trans (hs3.right.skip _))).keep hle, ?_⟩
            refine StP.all (vs := encVd (bsV st) q3 n3 c3) rfl rfl ?_
            exact hR bv _ _ q3 n3 c3 own3 hle ho3 ((((Sub.refl own3).both (hX.trans hs.right)).trans hs3).cons _)
          · intro bv
            replace hs := zcons (vdB bv vd0 none 0 0) hs
            have hv := hX.cons (vdB bv vd0 none 0 0)
            replace hX := hX.skip (vdB bv vd0 none 0 0)
            replace hb := hb.skip (vdB bv vd0 none 0 0)
            replace hin := hin.sub ((Sub.refl _).skip (vdB bv vd0 none 0 0))
            refine ⟨(hX.trans hs.right).keep hle, ?_⟩
            refine (Of_runs (g.le hle) hin ((OwnR.row encPl_len ho).sub hs.left) (fun x hx => (hps x hx).keep ((hX.trans hs.right).keep hle)) (by rw [List.length_append]; show ps.length + 1 ≤ 2000; omega)).mono ?_
            rintro v J T hle2 ⟨q3, n3, c3, own3, rfl, ho3, hs3⟩
            rw [ofF_fac q f1 f2 f3 (none, 0, 0) (none, 0, 0) (none, 0, 0), hst] at ho3 ⊢
            replace hle := hle.trans hle2
            refine ⟨_, _, _, _, _, _, _, _, _, _, _, _, rfl, ?_⟩
            refine StP.among (e := 80) (L := encVd vd0 none 0 0) (L' := encVd (bsV st) q3 n3 c3) (F := own3 ++ S) (((((Sub.refl own3).both (hv.trans hs.right)).trans hs3).re (by intro a; simp only [vdB, cnt_cons, cnt_app]; omega))) (Nat.le_of_ble_eq_true rfl) rfl rfl ?_
            intro T hT
            exact hR bv _ _ q3 n3 c3 own3 hle ho3 hT
        · intro bv
          replace hs := zcons (vdB bv vd0 none 0 0) hs
          have hv := hX.cons (vdB bv vd0 none 0 0)
          replace hX := hX.skip (vdB bv vd0 none 0 0)
          replace hb := hb.skip (vdB bv vd0 none 0 0)
          refine ⟨(hX.trans hs.right).keep hle, ?_⟩
          refine (Facts_runs (hq.keep ((hX.trans hs.right).keep hle))).mono ?_
          rintro v J T hle2 ⟨f1, f2, f3, rfl, hin, hs2⟩
          replace hs := hs.trans hs2
          replace hle := hle.trans hle2
          refine ⟨_, _, _, _, _, _, _, _, _, _, _, rfl, ?_⟩
          refine (Of_runs (g.le hle) hin ((OwnR.row encPl_len ho).sub hs.left) (fun x hx => (hps x hx).keep ((hX.trans hs.right).keep hle)) (by rw [List.length_append]; show ps.length + 1 ≤ 2000; omega)).mono ?_
          rintro v J T hle2 ⟨q3, n3, c3, own3, rfl, ho3, hs3⟩
          rw [ofF_fac q f1 f2 f3 (none, 0, 0) (none, 0, 0) (none, 0, 0), hst] at ho3 ⊢
          replace hle := hle.trans hle2
          refine ⟨_, _, _, _, _, _, _, _, _, _, _, _, rfl, ?_⟩
          refine StP.among (e := 80) (L := encVd vd0 none 0 0) (L' := encVd (bsV st) q3 n3 c3) (F := own3 ++ S) (((((Sub.refl own3).both (hv.trans hs.right)).trans hs3).re (by intro a; simp only [vdB, cnt_cons, cnt_app]; omega))) (Nat.le_of_ble_eq_true rfl) rfl rfl ?_
          intro T hT
          exact hR bv _ _ q3 n3 c3 own3 hle ho3 hT
      · intro bv
        replace hs := zcons (vdB bv vd0 none 0 0) hs
        have hv := hX.cons (vdB bv vd0 none 0 0)
        replace hX := hX.skip (vdB bv vd0 none 0 0)
        replace hb := hb.skip (vdB bv vd0 none 0 0)
        refine ⟨(hX.trans hs.right).keep hle, ?_⟩
        refine zA2 hs hb ho hl5 ?_
        intro u c own T ho hs
        refine ⟨(hX.trans hs.right).keep hle, ?_⟩
        refine (Facts_runs (hq.keep ((hX.trans hs.right).keep hle))).mono ?_
        rintro v J T hle2 ⟨f1, f2, f3, rfl, hin, hs2⟩
        replace hs := hs.trans hs2
        replace hle := hle.trans hle2
        refine ⟨_, _, _, _, _, _, _, _, _, _, _, rfl, ?_⟩
        refine (Of_runs (g.le hle) hin ((OwnR.row encPl_len ho).sub hs.left) (fun x hx => (hps x hx).keep ((hX.trans hs.right).keep hle)) (by rw [List.length_append]; show ps.length + 1 ≤ 2000; omega)).mono ?_
        rintro v J T hle2 ⟨q3, n3, c3, own3, rfl, ho3, hs3⟩
        rw [ofF_fac q f1 f2 f3 (none, 0, 0) (none, 0, 0) (none, 0, 0), hst] at ho3 ⊢
        replace hle := hle.trans hle2
        refine ⟨_, _, _, _, _, _, _, _, _, _, _, _, rfl, ?_⟩
        refine StP.among (e := 80) (L := encVd vd0 none 0 0) (L' := encVd (bsV st) q3 n3 c3) (F := own3 ++ S) (((((Sub.refl own3).both (hv.trans hs.right)).trans hs3).re (by intro a; simp only [vdB, cnt_cons, cnt_app]; omega))) (Nat.le_of_ble_eq_true rfl) rfl rfl ?_
        intro T hT
        exact hR bv _ _ q3 n3 c3 own3 hle ho3 hT
    · intro bv
      replace hs := zcons (vdB bv vd0 none 0 0) hs
      have hv := hX.cons (vdB bv vd0 none 0 0)
      replace hX := hX.skip (vdB bv vd0 none 0 0)
      refine ⟨(hX.trans hs.right).keep hle, ?_⟩
      intro bl
      replace hs := zcons (plB bl p) hs
      have hb := zhead hX (plB bl p)
      replace hX := hX.skip (plB bl p)
      replace hv := hv.skip (plB bl p)
      refine ⟨(hX.trans hs.right).keep hle, ?_⟩
      refine zA2 hs hb ho hl5 ?_
      intro u c own T ho hs
      refine ⟨(hX.trans hs.right).keep hle, ?_⟩
      refine (Facts_runs (hq.keep ((hX.trans hs.right).keep hle))).mono ?_
      rintro v J T hle2 ⟨f1, f2, f3, rfl, hin, hs2⟩
      replace hs := hs.trans hs2
      replace hle := hle.trans hle2
      refine ⟨_, _, _, _, _, _, _, _, _, _, _, rfl, ?_⟩
      refine (Of_runs (g.le hle) hin ((OwnR.row encPl_len ho).sub hs.left) (fun x hx => (hps x hx).keep ((hX.trans hs.right).keep hle)) (by rw [List.length_append]; show ps.length + 1 ≤ 2000; omega)).mono ?_
      rintro v J T hle2 ⟨q3, n3, c3, own3, rfl, ho3, hs3⟩
      rw [ofF_fac q f1 f2 f3 (none, 0, 0) (none, 0, 0) (none, 0, 0), hst] at ho3 ⊢
      replace hle := hle.trans hle2
      refine ⟨_, _, _, _, _, _, _, _, _, _, _, _, rfl, ?_⟩
      refine StP.among (e := 80) (L := encVd vd0 none 0 0) (L' := encVd (bsV st) q3 n3 c3) (F := own3 ++ S) (((((Sub.refl own3).both (hv.trans hs.right)).trans hs3).re (by intro a; simp only [vdB, cnt_cons, cnt_app]; omega))) (Nat.le_of_ble_eq_true rfl) rfl rfl ?_
      intro T hT
      exact hR bv _ _ q3 n3 c3 own3 hle ho3 hT
  · refine ⟨?_, ?_⟩
    · intro bl
      replace hs := zcons (plB bl p) hs
      have hb := zhead hX (plB bl p)
      replace hX := hX.skip (plB bl p)
      refine ⟨(hX.trans hs.right).keep hle, ?_⟩
      refine ⟨?_, ?_⟩
      · refine zA1 (hrow ((hX.trans hs.right).keep hle)) hl5 hs ?_
        intro u c own T ho hs
        refine ⟨(hX.trans hs.right).keep hle, ?_⟩
        refine ⟨?_, ?_⟩
        · refine zA2 hs hb ho hl5 ?_
          intro u c own T ho hs
          refine ⟨(hX.trans hs.right).keep hle, ?_⟩
          refine ⟨?_, ?_⟩
          · refine (Facts_runs (hq.keep ((hX.trans hs.right).keep hle))).mono ?_
            rintro v J T hle2 ⟨f1, f2, f3, rfl, hin, hs2⟩
            replace hs := hs.trans hs2
            replace hle := hle.trans hle2
            refine ⟨_, _, _, _, _, _, _, _, _, _, _, rfl, ?_⟩
            refine ⟨?_, ?_⟩
            · refine (Of_runs (g.le hle) hin ((OwnR.row encPl_len ho).sub hs.left) (fun x hx => (hps x hx).keep ((hX.trans hs.right).keep hle)) (by rw [List.length_append]; show ps.length + 1 ≤ 2000; omega)).mono ?_
              rintro v J T hle2 ⟨q3, n3, c3, own3, rfl, ho3, hs3⟩
              rw [ofF_fac q f1 f2 f3 (none, 0, 0) (none, 0, 0) (none, 0, 0), hst] at ho3 ⊢
              replace hle := hle.trans hle2
              refine ⟨_, _, _, _, _, _, _, _, _, _, _, _, rfl, ?_⟩
              intro bv
              refine ⟨(hX.trans (hs.right.trans (hs3.right.skip _))).keep hle, ?_⟩
              refine StP.all (vs := encVd (bsV st) q3 n3 c3) rfl rfl ?_
              exact hR bv _ _ q3 n3 c3 own3 hle ho3 ((((Sub.refl own3).both (hX.trans hs.right)).trans hs3).cons _)
            · intro bv
              replace hs := zcons (vdB bv vd0 none 0 0) hs
              have hv := hX.cons (vdB bv vd0 none 0 0)
              replace hX := hX.skip (vdB bv vd0 none 0 0)
              replace hb := hb.skip (vdB bv vd0 none 0 0)
              replace hin := hin.sub ((Sub.refl _).skip (vdB bv vd0 none 0 0))
              refine ⟨(hX.trans hs.right).keep hle, ?_⟩
              refine (Of_runs (g.le hle) hin ((OwnR.row encPl_len ho).sub hs.left) (fun x hx => (hps x hx).keep ((hX.trans hs.right).keep hle)) (by rw [List.length_append]; show ps.length + 1 ≤ 2000; omega)).mono ?_
              rintro v J T hle2 ⟨q3, n3, c3, own3, rfl, ho3, hs3⟩
              rw [ofF_fac q f1 f2 f3 (none, 0, 0) (none, 0, 0) (none, 0, 0), hst] at ho3 ⊢
              replace hle := hle.trans hle2
              refine ⟨_, _, _, _, _, _, _, _, _, _, _, _, rfl, ?_⟩
              refine StP.among (e := 80) (L := encVd vd0 none 0 0) (L' := encVd (bsV st) q3 n3 c3) (F := own3 ++ S) (((((Sub.refl own3).both (hv.trans hs.right)).trans hs3).re (by intro a; simp only [vdB, cnt_cons, cnt_app]; omega))) (Nat.le_of_ble_eq_true rfl) rfl rfl ?_
              intro T hT
              exact hR bv _ _ q3 n3 c3 own3 hle ho3 hT
          · intro bv
            replace hs := zcons (vdB bv vd0 none 0 0) hs
            have hv := hX.cons (vdB bv vd0 none 0 0)
            replace hX := hX.skip (vdB bv vd0 none 0 0)
            replace hb := hb.skip (vdB bv vd0 none 0 0)
            refine ⟨(hX.trans hs.right).keep hle, ?_⟩
            refine (Facts_runs (hq.keep ((hX.trans hs.right).keep hle))).mono ?_
            rintro v J T hle2 ⟨f1, f2, f3, rfl, hin, hs2⟩
            replace hs := hs.trans hs2
            replace hle := hle.trans hle2
            refine ⟨_, _, _, _, _, _, _, _, _, _, _, rfl, ?_⟩
            refine (Of_runs (g.le hle) hin ((OwnR.row encPl_len ho).sub hs.left) (fun x hx => (hps x hx).keep ((hX.trans hs.right).keep hle)) (by rw [List.length_append]; show ps.length + 1 ≤ 2000; omega)).mono ?_
            rintro v J T hle2 ⟨q3, n3, c3, own3, rfl, ho3, hs3⟩
            rw [ofF_fac q f1 f2 f3 (none, 0, 0) (none, 0, 0) (none, 0, 0), hst] at ho3 ⊢
            replace hle := hle.trans hle2
            refine ⟨_, _, _, _, _, _, _, _, _, _, _, _, rfl, ?_⟩
            refine StP.among (e := 80) (L := encVd vd0 none 0 0) (L' := encVd (bsV st) q3 n3 c3) (F := own3 ++ S) (((((Sub.refl own3).both (hv.trans hs.right)).trans hs3).re (by intro a; simp only [vdB, cnt_cons, cnt_app]; omega))) (Nat.le_of_ble_eq_true rfl) rfl rfl ?_
            intro T hT
            exact hR bv _ _ q3 n3 c3 own3 hle ho3 hT
        · intro bv
          replace hs := zcons (vdB bv vd0 none 0 0) hs
          have hv := hX.cons (vdB bv vd0 none 0 0)
          replace hX := hX.skip (vdB bv vd0 none 0 0)
          replace hb := hb.skip (vdB bv vd0 none 0 0)
          refine ⟨(hX.trans hs.right).keep hle, ?_⟩
          refine zA2 hs hb ho hl5 ?_
          intro u c own T ho hs
          refine ⟨(hX.trans hs.right).keep hle, ?_⟩
          refine (Facts_runs (hq.keep ((hX.trans hs.right).keep hle))).mono ?_
          rintro v J T hle2 ⟨f1, f2, f3, rfl, hin, hs2⟩
          replace hs := hs.trans hs2
          replace hle := hle.trans hle2
          refine ⟨_, _, _, _, _, _, _, _, _, _, _, rfl, ?_⟩
          refine (Of_runs (g.le hle) hin ((OwnR.row encPl_len ho).sub hs.left) (fun x hx => (hps x hx).keep ((hX.trans hs.right).keep hle)) (by rw [List.length_append]; show ps.length + 1 ≤ 2000; omega)).mono ?_
          rintro v J T hle2 ⟨q3, n3, c3, own3, rfl, ho3, hs3⟩
          rw [ofF_fac q f1 f2 f3 (none, 0, 0) (none, 0, 0) (none, 0, 0), hst] at ho3 ⊢
          replace hle := hle.trans hle2
          refine ⟨_, _, _, _, _, _, _, _, _, _, _, _, rfl, ?_⟩
          refine StP.among (e := 80) (L := encVd vd0 none 0 0) (L' := encVd (bsV st) q3 n3 c3) (F := own3 ++ S) (((((Sub.refl own3).both (hv.trans hs.right)).trans hs3).re (by intro a; simp only [vdB, cnt_cons, cnt_app]; omega))) (Nat.le_of_ble_eq_true rfl) rfl rfl ?_
          intro T hT
          exact hR bv _ _ q3 n3 c3 own3 hle ho3 hT
      · intro bv
        replace hs := zcons (vdB bv vd0 none 0 0) hs
        have hv := hX.cons (vdB bv vd0 none 0 0)
        replace hX := hX.skip (vdB bv vd0 none 0 0)
        replace hb := hb.skip (vdB bv vd0 none 0 0)
        refine ⟨(hX.trans hs.right).keep hle, ?_⟩
        refine zA1 (hrow ((hX.trans hs.right).keep hle)) hl5 hs ?_
        intro u c own T ho hs
        refine ⟨(hX.trans hs.right).keep hle, ?_⟩
        refine zA2 hs hb ho hl5 ?_
        intro u c own T ho hs
        refine ⟨(hX.trans hs.right).keep hle, ?_⟩
        refine (Facts_runs (hq.keep ((hX.trans hs.right).keep hle))).mono ?_
        rintro v J T hle2 ⟨f1, f2, f3, rfl, hin, hs2⟩
        replace hs := hs.trans hs2
        replace hle := hle.trans hle2
        refine ⟨_, _, _, _, _, _, _, _, _, _, _, rfl, ?_⟩
        refine (Of_runs (g.le hle) hin ((OwnR.row encPl_len ho).sub hs.left) (fun x hx => (hps x hx).keep ((hX.trans hs.right).keep hle)) (by rw [List.length_append]; show ps.length + 1 ≤ 2000; omega)).mono ?_
        rintro v J T hle2 ⟨q3, n3, c3, own3, rfl, ho3, hs3⟩
        rw [ofF_fac q f1 f2 f3 (none, 0, 0) (none, 0, 0) (none, 0, 0), hst] at ho3 ⊢
        replace hle := hle.trans hle2
        refine ⟨_, _, _, _, _, _, _, _, _, _, _, _, rfl, ?_⟩
        refine StP.among (e := 80) (L := encVd vd0 none 0 0) (L' := encVd (bsV st) q3 n3 c3) (F := own3 ++ S) (((((Sub.refl own3).both (hv.trans hs.right)).trans hs3).re (by intro a; simp only [vdB, cnt_cons, cnt_app]; omega))) (Nat.le_of_ble_eq_true rfl) rfl rfl ?_
        intro T hT
        exact hR bv _ _ q3 n3 c3 own3 hle ho3 hT
    · intro bv
      replace hs := zcons (vdB bv vd0 none 0 0) hs
      have hv := hX.cons (vdB bv vd0 none 0 0)
      replace hX := hX.skip (vdB bv vd0 none 0 0)
      refine ⟨(hX.trans hs.right).keep hle, ?_⟩
      refine ⟨?_, ?_⟩
      · refine zA1 (hrow ((hX.trans hs.right).keep hle)) hl5 hs ?_
        intro u c own T ho hs
        refine ⟨(hX.trans hs.right).keep hle, ?_⟩
        intro bl
        replace hs := zcons (plB bl p) hs
        have hb := zhead hX (plB bl p)
        replace hX := hX.skip (plB bl p)
        replace hv := hv.skip (plB bl p)
        refine ⟨(hX.trans hs.right).keep hle, ?_⟩
        refine zA2 hs hb ho hl5 ?_
        intro u c own T ho hs
        refine ⟨(hX.trans hs.right).keep hle, ?_⟩
        refine (Facts_runs (hq.keep ((hX.trans hs.right).keep hle))).mono ?_
        rintro v J T hle2 ⟨f1, f2, f3, rfl, hin, hs2⟩
        replace hs := hs.trans hs2
        replace hle := hle.trans hle2
        refine ⟨_, _, _, _, _, _, _, _, _, _, _, rfl, ?_⟩
        refine (Of_runs (g.le hle) hin ((OwnR.row encPl_len ho).sub hs.left) (fun x hx => (hps x hx).keep ((hX.trans hs.right).keep hle)) (by rw [List.length_append]; show ps.length + 1 ≤ 2000; omega)).mono ?_
        rintro v J T hle2 ⟨q3, n3, c3, own3, rfl, ho3, hs3⟩
        rw [ofF_fac q f1 f2 f3 (none, 0, 0) (none, 0, 0) (none, 0, 0), hst] at ho3 ⊢
        replace hle := hle.trans hle2
        refine ⟨_, _, _, _, _, _, _, _, _, _, _, _, rfl, ?_⟩
        refine StP.among (e := 80) (L := encVd vd0 none 0 0) (L' := encVd (bsV st) q3 n3 c3) (F := own3 ++ S) (((((Sub.refl own3).both (hv.trans hs.right)).trans hs3).re (by intro a; simp only [vdB, cnt_cons, cnt_app]; omega))) (Nat.le_of_ble_eq_true rfl) rfl rfl ?_
        intro T hT
        exact hR bv _ _ q3 n3 c3 own3 hle ho3 hT
      · intro bl
        replace hs := zcons (plB bl p) hs
        have hb := zhead hX (plB bl p)
        replace hX := hX.skip (plB bl p)
        replace hv := hv.skip (plB bl p)
        refine ⟨(hX.trans hs.right).keep hle, ?_⟩
        refine zA1 (hrow ((hX.trans hs.right).keep hle)) hl5 hs ?_
        intro u c own T ho hs
        refine ⟨(hX.trans hs.right).keep hle, ?_⟩
        refine zA2 hs hb ho hl5 ?_
        intro u c own T ho hs
        refine ⟨(hX.trans hs.right).keep hle, ?_⟩
        refine (Facts_runs (hq.keep ((hX.trans hs.right).keep hle))).mono ?_
        rintro v J T hle2 ⟨f1, f2, f3, rfl, hin, hs2⟩
        replace hs := hs.trans hs2
        replace hle := hle.trans hle2
        refine ⟨_, _, _, _, _, _, _, _, _, _, _, rfl, ?_⟩
        refine (Of_runs (g.le hle) hin ((OwnR.row encPl_len ho).sub hs.left) (fun x hx => (hps x hx).keep ((hX.trans hs.right).keep hle)) (by rw [List.length_append]; show ps.length + 1 ≤ 2000; omega)).mono ?_
        rintro v J T hle2 ⟨q3, n3, c3, own3, rfl, ho3, hs3⟩
        rw [ofF_fac q f1 f2 f3 (none, 0, 0) (none, 0, 0) (none, 0, 0), hst] at ho3 ⊢
        replace hle := hle.trans hle2
        refine ⟨_, _, _, _, _, _, _, _, _, _, _, _, rfl, ?_⟩
        refine StP.among (e := 80) (L := encVd vd0 none 0 0) (L' := encVd (bsV st) q3 n3 c3) (F := own3 ++ S) (((((Sub.refl own3).both (hv.trans hs.right)).trans hs3).re (by intro a; simp only [vdB, cnt_cons, cnt_app]; omega))) (Nat.le_of_ble_eq_true rfl) rfl rfl ?_
        intro T hT
        exact hR bv _ _ q3 n3 c3 own3 hle ho3 hT
end Go.Proofs.YtmlojdbahlfiaaaGreatDoor
/- SearchZones. -/
namespace Go.Proofs.YtmlojdbahlfiaaaGreatDoor
open Go.Px
set_option linter.unusedVariables false
set_option linter.unusedSimpArgs false
set_option maxRecDepth 8000

abbrev KT : RT := fun v _ _ => v = .bool true
section
variable {b11 b13 b15 : Nat} {st1 st2 : Bs} {q1 q2 q3 : Option Addr} {c1 c2 c3 : Nat} {F1 F2 F3 T : SH} {J : IMem} {xp : Option Addr} {xc : Nat} {ps : List Pl}
theorem z_b6 (h1 : Sub (vdB b11 (bsV st1) q1 (bsV st1).2.2.rs.length c1 :: F1) T) (h2 : Sub (vdB b13 (bsV st2) q2 (bsV st2).2.2.rs.length c2 :: F2) T) (h3 : Sub (vdB b15 (bsV st1) q3 (bsV st1).2.2.rs.length c3 :: F3) T)
    (r1 : RowIn J T q1 (bsV st1).2.2.rs.length 4 encR (bsV st1).2.2.rs) (r2 : RowIn J T q2 (bsV st2).2.2.rs.length 4 encR (bsV st2).2.2.rs) (r3 : RowIn J T q3 (bsV st1).2.2.rs.length 4 encR (bsV st1).2.2.rs) (hl : (bsV st1).2.2.rs.length ≤ 9223372036854775807)
    (hs : ∀ x, st1 = some x → st2 = some x) (hz : ∀ z t a, st1 = none → st2 = some (z, t, a) → z = ps.length) :
    bolterlaw19_SearchZones_b6 KT xp ps.length xc ⟨b11, 0, none⟩ st1.isSome ⟨b13, 0, none⟩ st2.isSome ⟨b15, 0, none⟩ st1.isSome J T := by
  unfold bolterlaw19_SearchZones_b6
  have d := fun {J : IMem} => vdX (I := J) h1
  have e := fun {J : IMem} => vdX (I := J) h2
  have w := fun {J : IMem} => vdX (I := J) h3
  have fin : ∀ J', J.le J' → bolterlaw19_SearchZones_b8 KT xp ps.length xc st1.isSome ⟨b13, 0, none⟩ st2.isSome J' T := by
    intro J' hle
    unfold bolterlaw19_SearchZones_b8 bolterlaw19_SearchZones_b9
    cases hst1 : st1 with
    | some x => exact bcase_t rfl rfl
    | none =>
      refine bcase_f rfl ?_
      cases hst2 : st2 with
      | none => exact bcase_t rfl rfl
      | some x =>
        obtain ⟨z, t, a⟩ := x
        rw [hst2] at e
        refine bcase_f rfl ⟨_, e 0 _ rfl, ?_⟩
        show Value.bool ((z : Int) == (ps.length : Int)) = .bool true
        rw [hz z t a hst1 hst2, beq_self_eq_true]
  -- the last comparison
  have last : ∀ (J' : IMem), J.le J' → ∃ u12, Cell J' T ⟨b15, 0, none⟩ (.int .i64 u12) ∧ ∃ u13, Cell J' T ((⟨b15, 0, none⟩ : Addr).add 1) (.int .i64 u13) ∧ ∃ u14, Cell J' T ((⟨b15, 0, none⟩ : Addr).add 2) (.string u14) ∧ ∃ u15, Cell J' T ((⟨b15, 0, none⟩ : Addr).add 3) (.string u15) ∧ ∃ u16, Cell J' T ((⟨b15, 0, none⟩ : Addr).add 4) (.int .i64 u16) ∧ ∃ u17, Cell J' T ((⟨b15, 0, none⟩ : Addr).add 5) (.int .i64 u17) ∧ ∃ u18, Cell J' T ((⟨b15, 0, none⟩ : Addr).add 6) (.string u18) ∧ ∃ u19, Cell J' T ((⟨b15, 0, none⟩ : Addr).add 7) (.bool u19) ∧ ∃ u1a u1an u1ac, Cell J' T ((⟨b15, 0, none⟩ : Addr).add 8) (.slice u1a u1an u1ac) ∧
      ∃ u1b, Cell J' T ⟨b11, 0, none⟩ (.int .i64 u1b) ∧ ∃ u1c, Cell J' T ((⟨b11, 0, none⟩ : Addr).add 1) (.int .i64 u1c) ∧ ∃ u1d, Cell J' T ((⟨b11, 0, none⟩ : Addr).add 2) (.string u1d) ∧ ∃ u1e, Cell J' T ((⟨b11, 0, none⟩ : Addr).add 3) (.string u1e) ∧ ∃ u1f, Cell J' T ((⟨b11, 0, none⟩ : Addr).add 4) (.int .i64 u1f) ∧ ∃ u1g, Cell J' T ((⟨b11, 0, none⟩ : Addr).add 5) (.int .i64 u1g) ∧ ∃ u1h, Cell J' T ((⟨b11, 0, none⟩ : Addr).add 6) (.string u1h) ∧ ∃ u1i, Cell J' T ((⟨b11, 0, none⟩ : Addr).add 7) (.bool u1i) ∧ ∃ u1j u1jn u1jc, Cell J' T ((⟨b11, 0, none⟩ : Addr).add 8) (.slice u1j u1jn u1jc) ∧
      Runs Tryz.prog 32 #[.agg #[.int .i64 u12, .int .i64 u13, .string u14, .string u15, .int .i64 u16, .int .i64 u17, .string u18, .bool u19, .slice u1a u1an u1ac], .agg #[.int .i64 u1b, .int .i64 u1c, .string u1d, .string u1e, .int .i64 u1f, .int .i64 u1g, .string u1h, .bool u1i, .slice u1j u1jn u1jc]] J' T fun v I1 S1 => ∃ r, v = .bool r ∧ bolterlaw19_SearchZones_b7 KT xp ps.length xc st1.isSome ⟨b13, 0, none⟩ st2.isSome (!r) I1 S1 := by
    intro J' hle
    refine ⟨_, w 0 _ rfl, _, Cell.at_ (add_mk _ _ _) (w 1 _ rfl), _, Cell.at_ (add_mk _ _ _) (w 2 _ rfl), _, Cell.at_ (add_mk _ _ _) (w 3 _ rfl), _, Cell.at_ (add_mk _ _ _) (w 4 _ rfl), _, Cell.at_ (add_mk _ _ _) (w 5 _ rfl), _, Cell.at_ (add_mk _ _ _) (w 6 _ rfl), _, Cell.at_ (add_mk _ _ _) (w 7 _ rfl), _, _, _, Cell.at_ (add_mk _ _ _) (w 8 _ rfl),
      _, d 0 _ rfl, _, Cell.at_ (add_mk _ _ _) (d 1 _ rfl), _, Cell.at_ (add_mk _ _ _) (d 2 _ rfl), _, Cell.at_ (add_mk _ _ _) (d 3 _ rfl), _, Cell.at_ (add_mk _ _ _) (d 4 _ rfl), _, Cell.at_ (add_mk _ _ _) (d 5 _ rfl), _, Cell.at_ (add_mk _ _ _) (d 6 _ rfl), _, Cell.at_ (add_mk _ _ _) (d 7 _ rfl), _, _, _, Cell.at_ (add_mk _ _ _) (d 8 _ rfl), (same_runs (st := st1) (st' := st1) (r3.le hle) (r1.le hle) hl rfl).mono ?_⟩
    rintro v J2 T2 hle2 ⟨rfl, rfl⟩
    refine ⟨_, rfl, ?_⟩
    unfold bolterlaw19_SearchZones_b7
    exact bcase_f rfl (fin J2 (hle.trans hle2))
  have hxx : ∀ b : Bool, (!(b == b)) = false := fun b => by cases b <;> rfl
  by_cases h12 : st1.isSome = true
  · obtain ⟨x, hx⟩ := Option.isSome_iff_exists.1 h12
    have hx2 := hs x hx
    have h22 : st2.isSome = true := by rw [hx2]; rfl
    have last' := last
    rw [h12, h22] at last'
    rw [h12, h22]
    refine bcase_t rfl (bcase_f rfl ⟨_, d 0 _ rfl, _, Cell.at_ (add_mk _ _ _) (d 1 _ rfl), _, Cell.at_ (add_mk _ _ _) (d 2 _ rfl), _, Cell.at_ (add_mk _ _ _) (d 3 _ rfl), _, Cell.at_ (add_mk _ _ _) (d 4 _ rfl), _, Cell.at_ (add_mk _ _ _) (d 5 _ rfl), _, Cell.at_ (add_mk _ _ _) (d 6 _ rfl), _, Cell.at_ (add_mk _ _ _) (d 7 _ rfl), _, _, _, Cell.at_ (add_mk _ _ _) (d 8 _ rfl),
      _, e 0 _ rfl, _, Cell.at_ (add_mk _ _ _) (e 1 _ rfl), _, Cell.at_ (add_mk _ _ _) (e 2 _ rfl), _, Cell.at_ (add_mk _ _ _) (e 3 _ rfl), _, Cell.at_ (add_mk _ _ _) (e 4 _ rfl), _, Cell.at_ (add_mk _ _ _) (e 5 _ rfl), _, Cell.at_ (add_mk _ _ _) (e 6 _ rfl), _, Cell.at_ (add_mk _ _ _) (e 7 _ rfl), _, _, _, Cell.at_ (add_mk _ _ _) (e 8 _ rfl), (same_runs (st := st1) (st' := st2) r1 r2 hl (hx.trans hx2.symm)).mono ?_⟩)
    rintro v J1 T1 hle1 ⟨rfl, rfl⟩
    exact ⟨_, rfl, bcase_f rfl (bcase_f rfl (last' J1 hle1))⟩
  · rw [Bool.not_eq_true] at h12
    have last' := last
    rw [h12] at last' ⊢
    exact bcase_f rfl (bcase_f rfl (last' J (IMem.le.refl J)))
end
theorem z_b1 {ps : List Pl} {xp : Option Addr} {xc : Nat} {q : Qr} {b7 : Nat} {more : Rus} {J : IMem} {F T : SH} (g : GL J) (hrow : RowIn J T xp ps.length 4 encPl ps) (hl5 : ps.length ≤ 5) (hps : ∀ x ∈ ps, PlIn J T x) (h7 : Sub (qrB b7 q :: F) T) (hq : QrIn J T q) (hm : RusIn J T more) :
    bolterlaw19_SearchZones_b1 KT more.a.1 more.rs.length more.a.2.2 ⟨b7, 0, none⟩ xp ps.length xc J T := by
  obtain ⟨m1, m2, m3, m4⟩ := hm
  unfold bolterlaw19_SearchZones_b1
  refine (Origin_runs (k := 9) (by decide) _ _).mono ?_
  rintro v J1 T1 hle1 ⟨rfl, e⟩
  subst e
  refine ⟨_, rfl, (Origin_runs (k := 9) (by decide) _ _).mono ?_⟩
  rintro v J2 T2 hle2 ⟨rfl, e⟩
  subst e
  have l2 := hle1.trans hle2
  refine ⟨_, rfl, (Zone_runs (g.le l2) (m1.le l2) m3 (fun r hr => (m4 r hr).le l2)).mono ?_⟩
  rintro v J3 T3 hle3 ⟨zs, zp, zc, zo, rfl, hoz, hzl, hs3⟩
  have l3 := l2.trans hle3
  refine ⟨_, _, _, rfl, fun b10 => StP.all (vs := encPl ⟨orgN 9, (zp, zs.length, zc), zs, true, 0⟩) rfl rfl ?_⟩
  have hs4 : Sub (plB b10 ⟨orgN 9, (zp, zs.length, zc), zs, true, 0⟩ :: (zo ++ T2)) (plB b10 ⟨orgN 9, (zp, zs.length, zc), zs, true, 0⟩ :: T3) := hs3.cons _
  have hT4 := hs4.drop.right
  have d := qr_at (J := J3) (h7.trans hT4)
  refine ⟨_, d 0 _ rfl, _, _, _, Cell.at_ (add_mk _ _ _) (d 1 _ rfl), _, _, _, Cell.at_ (add_mk _ _ _) (d 2 _ rfl), _, _, _, Cell.at_ (add_mk _ _ _) (d 3 _ rfl), _, _, _, Cell.at_ (add_mk _ _ _) (d 4 _ rfl), _, _, _, Cell.at_ (add_mk _ _ _) (d 5 _ rfl), ?_⟩
  refine (Facts_runs (hq.keep (hT4.keep l3))).mono ?_
  rintro v J4 T5 hle4 ⟨f1, f2, f3, rfl, hin, hs5⟩
  have l4 := l3.trans hle4
  have hT5 := hT4.trans hs5
  refine ⟨_, _, _, _, _, _, _, _, _, _, _, rfl, (Of_runs (g.le l4) hin (hrow.keep (hT5.keep l4)) (fun x hx => (hps x hx).keep (hT5.keep l4)) (by omega)).mono ?_⟩
  rintro v J5 T6 hle5 ⟨q1, n1, c1, o1, rfl, ho1, hs6⟩
  rw [ofF_fac q f1 f2 f3 (none, 0, 0) (none, 0, 0) (none, 0, 0)] at ho1 ⊢
  have l5 := l4.trans hle5
  generalize hst1 : ofF (facF q (none, 0, 0) (none, 0, 0) (none, 0, 0)) ps 0 none = st1 at ho1
  have hn1 := ho1.len
  subst hn1
  refine ⟨_, _, _, _, _, _, _, _, _, _, _, _, rfl, fun b11 => StP.all (vs := encVd (bsV st1) q1 (bsV st1).2.2.rs.length c1) rfl rfl ?_⟩
  have hA : Sub (vdB b11 (bsV st1) q1 (bsV st1).2.2.rs.length c1 :: (o1 ++ (plB b10 ⟨orgN 9, (zp, zs.length, zc), zs, true, 0⟩ :: (zo ++ T2)))) (vdB b11 (bsV st1) q1 (bsV st1).2.2.rs.length c1 :: T6) := (((Sub.refl o1).both (hs4.trans hs5)).trans hs6).cons _
  have hTA := hA.drop.right.drop.right
  have hpl : ∀ (lv : Bool) {J : IMem} {T : SH}, Sub zo T → PlIn J T ⟨orgN 9, (zp, zs.length, zc), zs, lv, 0⟩ := fun lv _ _ h => ⟨(hoz.row encR_len).sub h, rfl, by show zs.length ≤ 10000; omega⟩
  have hmem : ∀ (lv : Bool) {J' : IMem} {T' : SH}, J.le J' → Sub (zo ++ T2) T' → ∀ x ∈ ps ++ [⟨orgN 9, (zp, zs.length, zc), zs, lv, 0⟩], PlIn J' T' x := by
    intro lv J' T' hl hs x hx
    rcases List.mem_append.1 hx with hx | hx
    · exact (hps x hx).keep (hs.right.keep hl)
    · rw [List.mem_singleton.1 hx]; exact hpl lv hs.left
  refine z_b2 (x13 := ⟨0, 0, none⟩) (x14 := true) (p := ⟨orgN 9, (zp, zs.length, zc), zs, true, 0⟩) (g.le l5) (hrow.keep (hTA.keep l5)) hl5 (hmem true l5 hA.drop.right.drop) (hq.keep (hTA.keep l5)) ((hA.re (by intro a; simp only [cnt_cons, cnt_app]; omega) : Sub (plB b10 ⟨orgN 9, (zp, zs.length, zc), zs, true, 0⟩ :: (vdB b11 (bsV st1) q1 (bsV st1).2.2.rs.length c1 :: (o1 ++ (zo ++ T2)))) _)) (h7.trans hTA) rfl ?_
  intro b13 J6 T7 q2 n2 c2 o2 hle6 ho2 hs7
  generalize hst2 : ofF (facF q (none, 0, 0) (none, 0, 0) (none, 0, 0)) (ps ++ [⟨orgN 9, (zp, zs.length, zc), zs, true, 0⟩]) 0 none = st2 at ho2 hs7
  have hn2 := ho2.len
  subst hn2
  have l6 := l5.trans hle6
  have hB : Sub (plB b10 ⟨orgN 9, (zp, zs.length, zc), zs, true, 0⟩ :: (vdB b13 (bsV st2) q2 (bsV st2).2.2.rs.length c2 :: (o2 ++ (vdB b11 (bsV st1) q1 (bsV st1).2.2.rs.length c1 :: (o1 ++ (zo ++ T2)))))) T7 :=
    ((((Sub.refl o2).both hA).cons _).trans hs7).re (by intro a; simp only [vdB, cnt_cons, cnt_app]; omega)
  unfold bolterlaw19_SearchZones_b3
  refine StP.at_ (add_mk _ _ _) (StP.among (e := 61) (L := encPl ⟨orgN 9, (zp, zs.length, zc), zs, true, 0⟩) hB (by show 2 + 1 ≤ 4; decide) rfl rfl ?_)
  intro T8 hs8
  have hC : Sub (plB b10 ⟨orgN 9, (zp, zs.length, zc), zs, false, 0⟩ :: (vdB b13 (bsV st2) q2 (bsV st2).2.2.rs.length c2 :: (o2 ++ (vdB b11 (bsV st1) q1 (bsV st1).2.2.rs.length c1 :: (o1 ++ (zo ++ T2)))))) T8 := hs8
  have hTC := hC.drop.drop.right.drop.right.right
  have hdead : ofF (facF q (none, 0, 0) (none, 0, 0) (none, 0, 0)) (ps ++ [⟨orgN 9, (zp, zs.length, zc), zs, false, 0⟩]) 0 none = st1 := by rw [snoc_dead rfl, hst1]
  refine z_b4 (p := ⟨orgN 9, (zp, zs.length, zc), zs, false, 0⟩) (g.le l6) (hrow.keep (hTC.keep l6)) hl5 (hmem false l6 hC.drop.drop.right.drop.right) (hq.keep (hTC.keep l6)) hC (h7.trans hTC) hdead ?_
  intro b15 J7 T9 q3 n3 c3 o3 hle7 ho3 hs9
  have hn3 := ho3.len
  subst hn3
  have hD := hC.trans hs9.drop.right
  have hV2 := hD.drop
  have hV1 := hD.drop.drop.right
  unfold bolterlaw19_SearchZones_b5
  refine z_b6 (st1 := st1) (st2 := st2) hV1 hV2 hs9 ((ho1.row encR_len).sub hV1.drop.left) ((ho2.row encR_len).sub hV2.drop.left) ((ho3.row encR_len).sub hs9.drop.left) (OwnR.few (by decide) ho1) (fun x hx => ?_) (fun z t a h1 h2 => ?_)
  · rw [← hst2]; exact snoc_some (hst1.trans hx)
  · exact snoc_none (hst1.trans h1) (hst2.trans h2)
end Go.Proofs.YtmlojdbahlfiaaaGreatDoor
/- SearchZones: the row. -/
namespace Go.Proofs.YtmlojdbahlfiaaaGreatDoor
open Go.Px
set_option linter.unusedVariables false
set_option linter.unusedSimpArgs false
set_option maxRecDepth 8000

theorem searchZones_runs {rs : List Rus} {ov : Sb} {more : Rus} {a : Option Addr} {c : Nat} {q : Qr} {I : IMem} {S : SH} (g : GL I) (hx : RowIn I S a rs.length 1 elRus rs) (hl : rs.length ≤ 9223372036854775807) (hr : ∀ r ∈ rs, RusIn I S r) (ho : SbIn I S ov) (hm : RusIn I S more) (hq : QrIn I S q) :
    Runs Tryz.prog 8 #[.slice a rs.length c, .slice ov.a.1 ov.a.2.1 ov.a.2.2, .slice more.a.1 more.a.2.1 more.a.2.2, vQr q] I S fun v _ _ => v = .bool true := by
  have hml := hm.2.1
  refine bolterlaw19_SearchZones_fn _ _ _ _ _ _ _ _ _ _ _ _ _ _ _ _ _ _ _ _ _ _ _ _ _ _ _ _ ?_
  unfold bolterlaw19_SearchZones
  intro b7
  refine (awake19_runs g _).mono ?_
  rintro v J0 T0 hle0 ⟨rfl, e⟩
  subst e
  have hS0 : Sub S (qrB b7 q :: S) := (Sub.refl S).skip _
  refine ⟨_, rfl, bcase_f rfl ((Policies_runs (S := qrB b7 q :: S) (g.le hle0) (hx.keep (hS0.keep hle0)) hl (fun r h => (hr r h).keep (hS0.keep hle0)) (ho.keep (hS0.keep hle0))).mono ?_)⟩
  rintro v J1 T1 hle1 ⟨ps, p, pc, own, zown, rfl, hop, hps, hpl, hs1⟩
  have l1 := hle0.trans hle1
  have hQ1 := hs1.right.right
  have hT := hQ1.drop
  have hrow : RowIn J1 T1 p ps.length 4 encPl ps := (OwnR.row encPl_len hop).sub hs1.left
  have hpp : ∀ x ∈ ps, PlIn J1 T1 x := fun x hx => (hps x hx).sub hs1.right.left
  refine ⟨_, _, _, rfl, bcase_beq (fun h5 => ?_) (fun h5 => ?_)⟩
  · have hc := OwnR.cap (by decide) hop
    have h5 : ps.length = 5 := by omega
    refine ⟨by decide, by omega, ?_⟩
    rw [slA_zero, hml, show (4 : Int).toNat - 0 = (ps.take 4).length by rw [List.length_take, h5]; rfl]
    have hr4 := hrow.take (j := 4) (by omega)
    rw [show (4 : Nat) = (ps.take 4).length by rw [List.length_take, h5]; rfl] at hr4
    exact z_b1 (ps := ps.take 4) (g.le l1) (by simpa [h5] using hr4) (by rw [List.length_take]; omega) (fun x hx => hpp x (List.mem_of_mem_take hx)) hQ1 (hq.keep (hT.keep l1)) (hm.keep (hT.keep l1))
  · rw [hml]
    exact z_b1 (g.le l1) hrow hpl hpp hQ1 (hq.keep (hT.keep l1)) (hm.keep (hT.keep l1))
theorem SearchZones_row (W : World) (g : GL (imW W)) (a0 : Option Addr) (l0 c0 : Nat) (b0 : Option Addr) (m0 d0 : Nat) (e0 : Option Addr) (n0 f0 : Nat) (six : Bool) (a1 : Option Addr) (l1 c1 : Nat) (a2 : Option Addr) (l2 c2 : Nat) (a3 : Option Addr) (l3 c3 : Nat) (a4 : Option Addr) (l4 c4 : Nat) (a5 : Option Addr) (l5 c5 : Nat)
    (w0 : RussW W (a0, l0, c0)) (z0 : l0 ≤ 140737488355328) (w1 : U8W W (b0, m0, d0)) (z1 : m0 ≤ 140737488355328) (w2 : RusW W (e0, n0, f0)) (z2 : n0 ≤ 140737488355328) (w3 : QrW W (six, (a1, l1, c1), (a2, l2, c2), (a3, l3, c3), (a4, l4, c4), (a5, l5, c5))) :
    Runs Tryz.prog 8 #[.slice a0 l0 c0, .slice b0 m0 d0, .slice e0 n0 f0, .agg #[.bool six, .slice a1 l1 c1, .slice a2 l2 c2, .slice a3 l3 c3, .slice a4 l4 c4, .slice a5 l5 c5]] (imW W) [] fun v _ _ => v = .bool true := by
  obtain ⟨rs, rfl, hr, hq, hl⟩ := russ_of w0
  obtain ⟨y, ey, hy⟩ := sb_of w1
  obtain ⟨ms, hml, hmr, hmq, hmll⟩ := rus_of w2
  obtain ⟨q, e1, e2, e3, e4, e5, e6, hqr⟩ := qr_of w3
  have ev : Value.agg #[.bool six, .slice a1 l1 c1, .slice a2 l2 c2, .slice a3 l3 c3, .slice a4 l4 c4, .slice a5 l5 c5] = vQr q := by rw [vQr, e1, e2, e3, e4, e5, e6]
  have := searchZones_runs (c := c0) (more := ⟨(e0, n0, f0), ms⟩) g hr hl hq hy ⟨hmr, hml.symm, hmll, hmq⟩ hqr
  rw [ey] at this
  rw [ev]
  exact this
end Go.Proofs.YtmlojdbahlfiaaaGreatDoor
/- The listed variables: the tables and the two errors of strconv; a world where they lie so. -/
namespace Go.Proofs.YtmlojdbahlfiaaaGreatDoor
open Go Go.Px Go.Lib Go.MakeChecks
set_option linter.unusedVariables false
set_option linter.unusedSimpArgs false
set_option maxRecDepth 100000

abbrev LaidL : List (String × DataW Unit) := [("math/bits.deBruijn32tab", Rows.laid_math_bits_deBruijn32tab), ("math/bits.deBruijn64tab", Rows.laid_math_bits_deBruijn64tab), ("internal/strconv.uint64pow10", Rows.laid_internal_strconv_uint64pow10), ("strconv.ErrRange", Rows.laid_strconv_ErrRange), ("strconv.ErrSyntax", Rows.laid_strconv_ErrSyntax)]
theorem ld_at {W : World} {n : String} {cs : Array Value} {g : Nat} (hg : Program.globalNamed Tryz.prog n = some g) (h : W.var? Tryz.prog n = some cs) : ∃ e fz, (imW W).at_ g = some (.cells cs e fz) := by
  simp only [World.var?, hg, Option.bind_some] at h
  split at h
  · rename_i cs' e fz he
    obtain rfl := Option.some.inj h
    exact ⟨e, fz, he⟩
  · cases h
theorem ld_err {W : World} {n : String} {d : DataW Unit} {r : List (String × DataW Unit)} {g : Nat} (h : laidMet Tryz.prog ((n, .iface "*errors.errorString" d) :: r) W)
    (hg : Program.globalNamed Tryz.prog n = some g) (ht : ((Tryz.prog).globals[g]?).map (·.type) = some 127) : ∃ u v, W.var? Tryz.prog n = some #[.iface u v] := by
  obtain ⟨ps, ⟨g0, t0, cs0, f0, p0, q0, hg0, ht0, hv0, hd0, _, e0⟩, _, hrows⟩ := h
  obtain rfl := Option.some.inj (hg.symm.trans hg0)
  obtain rfl := Option.some.inj (ht.symm.trans ht0)
  obtain ⟨l0⟩ := cs0
  obtain ⟨_, u, v, rfl, _⟩ := iface_of_trod (Tryz.underlying127) hd0
  exact ⟨u, v, hv0⟩
abbrev ld64 : List Int := [0, 1, 56, 2, 57, 49, 28, 3, 61, 58, 42, 50, 38, 29, 17, 4, 62, 47, 59, 36, 45, 43, 51, 22, 53, 39, 33, 30, 24, 18, 12, 5, 63, 55, 48, 27, 60, 41, 37, 16, 46, 35, 44, 21, 52, 32, 23, 11, 54, 26, 40, 15, 34, 20, 31, 10, 25, 14, 19, 9, 13, 8, 7, 6]
abbrev ldp : List Int := [1, 10, 100, 1000, 10000, 100000, 1000000, 10000000, 100000000, 1000000000, 10000000000, 100000000000, 1000000000000, 10000000000000, 100000000000000, 1000000000000000, 10000000000000000, 100000000000000000, 1000000000000000000, 10000000000000000000]
theorem GL_of_laid {W : World} (h : laidMet Tryz.prog LaidL W) : GL (imW W) := by
  have h1 : laidMet Tryz.prog (("math/bits.deBruijn64tab", tabData .u8 ld64) :: [("internal/strconv.uint64pow10", Rows.laid_internal_strconv_uint64pow10), ("strconv.ErrRange", Rows.laid_strconv_ErrRange), ("strconv.ErrSyntax", Rows.laid_strconv_ErrSyntax)]) W := h.tail
  have h2 : laidMet Tryz.prog (("internal/strconv.uint64pow10", tabData .u64 ldp) :: [("strconv.ErrRange", Rows.laid_strconv_ErrRange), ("strconv.ErrSyntax", Rows.laid_strconv_ErrSyntax)]) W := h1.tail
  have h3 := h2.tail
  have h4 := h3.tail
  have t1 := tabIs_of_head (P := Tryz.prog) (g := 4) (t := 256) (e := 5) (n := 64) (by kernel_rfl) (by kernel_rfl) (by kernel_rfl) (by kernel_rfl) (by kernel_rfl) (by kernel_rfl) h1
  have t2 := tabIs_of_head (P := Tryz.prog) (g := 0) (t := 244) (e := 208) (n := 20) (by kernel_rfl) (by kernel_rfl) (by kernel_rfl) (by kernel_rfl) (by kernel_rfl) (by kernel_rfl) h2
  obtain ⟨u0, v0, hv0⟩ := ld_err (g := 2) h3 (by kernel_rfl) (by kernel_rfl)
  obtain ⟨u1, v1, hv1⟩ := ld_err (g := 1) h4 (by kernel_rfl) (by kernel_rfl)
  obtain ⟨e1, f1, g1⟩ := ld_at (g := 4) (by kernel_rfl) t1
  obtain ⟨e2, f2, g2⟩ := ld_at (g := 0) (by kernel_rfl) t2
  obtain ⟨e3, f3, g3⟩ := ld_at (g := 2) (by kernel_rfl) hv0
  obtain ⟨e4, f4, g4⟩ := ld_at (g := 1) (by kernel_rfl) hv1
  exact ⟨⟨_, _, _, g2, rfl⟩, ⟨_, _, _, g1, rfl⟩, ⟨_, _, _, _, _, g4, rfl⟩, ⟨_, _, _, _, _, g3, rfl⟩⟩
/-- A world that meets the condition. -/
noncomputable def laidWorld (os : Os) : World := World.laidAll Tryz.prog os LaidL
theorem laidWorld_os (os : Os) : (laidWorld os).os = os := World.laidAll_os _ _ _
theorem laidWorld_met (os : Os) (args : Array Value) : laidMetH Tryz.prog LaidL ((laidWorld os).forCall (fun _ _ => 0) ⟨#[], args, []⟩).memory := by
  rw [laidMetH_plain _ _ _ (by kernel_rfl)]
  exact laidMet_laidAll args (by kernel_rfl) (by kernel_rfl)
theorem handle_of_laid {W : World} (h : laidMetH Tryz.prog LaidL W) : GL (imW W) := by
  rw [laidMetH_plain _ _ _ (by kernel_rfl)] at h
  exact GL_of_laid h
theorem laidWorld_shaped (os : Os) (args : Array Value) : ((laidWorld os).forCall (fun _ _ => 0) ⟨#[], args, []⟩).Shaped Tryz.prog :=
  World.shaped_of_ZipB (by kernel_rfl) (by kernel_rfl)
end Go.Proofs.YtmlojdbahlfiaaaGreatDoor
