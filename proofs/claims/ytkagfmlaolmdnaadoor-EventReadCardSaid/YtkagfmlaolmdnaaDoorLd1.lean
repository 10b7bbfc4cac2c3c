/- The listed variables: the tables and the two errors of strconv; a world where they lie so. -/
import Derived.Test.YtkagfmlaolmdnaaDoorRows
import Derived.Test.YtkagfmlaolmdnaaDoorOw2
import Derived.LaidLaws
import Derived.Lay
import Derived.Stop.LaidErr
import Derived.Lib.LaidTab
import Derived.ChangeVars
import Derived.MakeChecks
import Derived.Test.YtkagfmlaolmdnaaDoorPx8
namespace Go.Proofs.YtkagfmlaolmdnaaDoor
open Go Go.Px Go.Lib Go.MakeChecks
set_option linter.unusedVariables false
set_option linter.unusedSimpArgs false
set_option maxRecDepth 100000

abbrev LaidL : List (String × DataW Unit) := [("math/bits.deBruijn32tab", Rows.laid_math_bits_deBruijn32tab), ("math/bits.deBruijn64tab", Rows.laid_math_bits_deBruijn64tab), ("internal/strconv.uint64pow10", Rows.laid_internal_strconv_uint64pow10), ("strconv.ErrRange", Rows.laid_strconv_ErrRange), ("strconv.ErrSyntax", Rows.laid_strconv_ErrSyntax)]
theorem ld_at {W : World} {n : String} {cs : Array Value} {g : Nat} (hg : Program.globalNamed Tryd.prog n = some g) (h : W.var? Tryd.prog n = some cs) : ∃ e fz, (imW W).at_ g = some (.cells cs e fz) := by
  simp only [World.var?, hg, Option.bind_some] at h
  split at h
  · rename_i cs' e fz he
    obtain rfl := Option.some.inj h
    exact ⟨e, fz, he⟩
  · cases h
theorem ld_err {W : World} {n : String} {d : DataW Unit} {r : List (String × DataW Unit)} {g : Nat} (h : laidMet Tryd.prog ((n, .iface "*errors.errorString" d) :: r) W)
    (hg : Program.globalNamed Tryd.prog n = some g) (ht : ((Tryd.prog).globals[g]?).map (·.type) = some 98) : ∃ u v, W.var? Tryd.prog n = some #[.iface u v] := by
  obtain ⟨ps, ⟨g0, t0, cs0, f0, p0, q0, hg0, ht0, hv0, hd0, _, e0⟩, _, hrows⟩ := h
  obtain rfl := Option.some.inj (hg.symm.trans hg0)
  obtain rfl := Option.some.inj (ht.symm.trans ht0)
  obtain ⟨l0⟩ := cs0
  obtain ⟨_, u, v, rfl, _⟩ := iface_of_trod (Tryd.underlying98) hd0
  exact ⟨u, v, hv0⟩
abbrev ld64 : List Int := [0, 1, 56, 2, 57, 49, 28, 3, 61, 58, 42, 50, 38, 29, 17, 4, 62, 47, 59, 36, 45, 43, 51, 22, 53, 39, 33, 30, 24, 18, 12, 5, 63, 55, 48, 27, 60, 41, 37, 16, 46, 35, 44, 21, 52, 32, 23, 11, 54, 26, 40, 15, 34, 20, 31, 10, 25, 14, 19, 9, 13, 8, 7, 6]
abbrev ldp : List Int := [1, 10, 100, 1000, 10000, 100000, 1000000, 10000000, 100000000, 1000000000, 10000000000, 100000000000, 1000000000000, 10000000000000, 100000000000000, 1000000000000000, 10000000000000000, 100000000000000000, 1000000000000000000, 10000000000000000000]
theorem GL_of_laid {W : World} (h : laidMet Tryd.prog LaidL W) : GL (imW W) := by
  have h1 : laidMet Tryd.prog (("math/bits.deBruijn64tab", tabData .u8 ld64) :: [("internal/strconv.uint64pow10", Rows.laid_internal_strconv_uint64pow10), ("strconv.ErrRange", Rows.laid_strconv_ErrRange), ("strconv.ErrSyntax", Rows.laid_strconv_ErrSyntax)]) W := h.tail
  have h2 : laidMet Tryd.prog (("internal/strconv.uint64pow10", tabData .u64 ldp) :: [("strconv.ErrRange", Rows.laid_strconv_ErrRange), ("strconv.ErrSyntax", Rows.laid_strconv_ErrSyntax)]) W := h1.tail
  have h3 := h2.tail
  have h4 := h3.tail
  have t1 := tabIs_of_head (P := Tryd.prog) (g := 4) (t := 167) (e := 5) (n := 64) (by kernel_rfl) (by kernel_rfl) (by kernel_rfl) (by kernel_rfl) (by kernel_rfl) (by kernel_rfl) h1
  have t2 := tabIs_of_head (P := Tryd.prog) (g := 0) (t := 155) (e := 131) (n := 20) (by kernel_rfl) (by kernel_rfl) (by kernel_rfl) (by kernel_rfl) (by kernel_rfl) (by kernel_rfl) h2
  obtain ⟨u0, v0, hv0⟩ := ld_err (g := 2) h3 (by kernel_rfl) (by kernel_rfl)
  obtain ⟨u1, v1, hv1⟩ := ld_err (g := 1) h4 (by kernel_rfl) (by kernel_rfl)
  obtain ⟨e1, f1, g1⟩ := ld_at (g := 4) (by kernel_rfl) t1
  obtain ⟨e2, f2, g2⟩ := ld_at (g := 0) (by kernel_rfl) t2
  obtain ⟨e3, f3, g3⟩ := ld_at (g := 2) (by kernel_rfl) hv0
  obtain ⟨e4, f4, g4⟩ := ld_at (g := 1) (by kernel_rfl) hv1
  exact ⟨⟨_, _, _, g2, rfl⟩, ⟨_, _, _, g1, rfl⟩, ⟨_, _, _, _, _, g4, rfl⟩, ⟨_, _, _, _, _, g3, rfl⟩⟩
/-- A world that meets the condition. -/
noncomputable def laidWorld (os : Os) : World := World.laidAll Tryd.prog os LaidL
theorem laidWorld_os (os : Os) : (laidWorld os).os = os := World.laidAll_os _ _ _
theorem laidWorld_met (os : Os) (args : Array Value) : laidMetH Tryd.prog LaidL ((laidWorld os).forCall (fun _ _ => 0) ⟨#[], args, []⟩).memory := by
  rw [laidMetH_plain _ _ _ (by kernel_rfl)]
  exact laidMet_laidAll args (by kernel_rfl) (by kernel_rfl)
theorem handle_of_laid {W : World} (h : laidMetH Tryd.prog LaidL W) : GL (imW W) := by
  rw [laidMetH_plain _ _ _ (by kernel_rfl)] at h
  exact GL_of_laid h
theorem laidWorld_shaped (os : Os) (args : Array Value) : ((laidWorld os).forCall (fun _ _ => 0) ⟨#[], args, []⟩).Shaped Tryd.prog :=
  World.shaped_of_ZipB (by kernel_rfl) (by kernel_rfl)
end Go.Proofs.YtkagfmlaolmdnaaDoor
