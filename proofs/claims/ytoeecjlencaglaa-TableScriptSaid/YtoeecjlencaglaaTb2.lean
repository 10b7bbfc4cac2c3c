/- The table's slots: find, grow, Put, Get, Del, Len, Slots. -/
import Derived.Test.YtoeecjlencaglaaTb1
set_option linter.unusedVariables false
namespace Go.Proofs.Ytoeecjlencaglaa
open Go.Px

structure Slot where
  key : ByteArray
  value : Int
  live : Bool
  dead : Bool
def slotE (s : Slot) : List Value := [.string s.key, .int .i64 s.value, .bool s.live, .bool s.dead]
theorem slotE_len (s : Slot) : (slotE s).length = 4 := rfl
theorem slotE_one (s : Slot) : (slotE s).all one = true := rfl
def tabB (tb : Nat) (a : Option Addr) (n : Nat) (live full : Int) : Nat × Obj := (tb, .cells #[.slice a n n, .int .i64 live, .int .i64 full] 38 (0, 0))
def sloB (sb : Nat) (ss : List Slot) : Nat × Obj := (sb, .cells (rowA slotE ss) 70 (0, 0))

def findM (ss : List Slot) (key : ByteArray) : Nat → Nat → Int → Option (Int × Bool)
  | 0, _, _ => none
  | k + 1, i, free => match ss[i]? with
    | none => none
    | some s =>
      if s.live = true ∧ (s.key.toList == key.toList) = true then some ((i : Int), true)
      else if s.dead = true ∧ free < 0 then findM ss key k ((i + 1) % ss.length) (i : Int)
      else if s.live = false ∧ s.dead = false then (if free < 0 then some ((i : Int), false) else some (free, false))
      else findM ss key k ((i + 1) % ss.length) free

theorem find_round {again : Option Addr → ByteArray → Int → Int → IMem → SH → Prop} {R : Value → IMem → SH → Prop} {tb sb : Nat} {ss : List Slot} {live full : Int} {key : ByteArray} {F T : SH} {J : IMem} {n m : Nat} {free : Int} {r : Int × Bool}
    (hlt : n < ss.length) (hl : ss.length ≤ 1099511627776) (hsub : Sub (tabB tb (some ⟨sb, 0, none⟩) ss.length live full :: sloB sb ss :: F) T) (hf : findM ss key (m + 1) n free = some r)
    (hag : ∀ S free', Sub T S → findM ss key m ((n + 1) % ss.length) free' = some r → again (some ⟨tb, 0, none⟩) key (((n + 1) % ss.length : Nat) : Int) free' J S)
    (hR : ∀ S, Sub T S → R (.tuple #[.int .i64 r.1, .bool r.2]) J S) : table_Table_find_l2 again R (some ⟨tb, 0, none⟩) key (n : Int) free J T := by
  obtain ⟨s, hs⟩ : ∃ s, ss[n]? = some s := ⟨_, List.getElem?_eq_getElem hlt⟩
  simp only [findM, hs] at hf
  have ct : Cell J T ⟨tb, 0, none⟩ (.slice (some ⟨sb, 0, none⟩) ss.length ss.length) := hsub.cell' (Cell.at0 rfl)
  have c : ∀ j v, j < 4 → (slotE s)[j]? = some v → Cell J T (((⟨sb, 0, none⟩ : Addr).add ((n : Int).toNat * 4)).add j) v := fun j v hj hv => hsub.cell' (Cell.tl (Cell.row slotE_len hs hj hv))
  have next : ∀ (S : SH), Sub T S → ∀ free', findM ss key m ((n + 1) % ss.length) free' = some r → table_Table_find_b6 again R (some ⟨tb, 0, none⟩) key (n : Int) free' J S := by
    intro S hS free' hf'
    refine ⟨_, _, _, hS.cell' ct, bcase_dec (fun h0 => by omega) (fun _ => ⟨rfl, ?_⟩)⟩
    have := hag S free' hS hf'
    rw [Int.natCast_emod] at this
    rw [wrap_i64 (by omega) (by omega), Int.tmod_eq_emod_of_nonneg (by omega)]
    exact this
  refine ⟨_, _, _, ct, by omega, by omega, _, c 0 _ (by omega) rfl, _, c 1 _ (by omega) rfl, _, c 2 _ (by omega) rfl, _, c 3 _ (by omega) rfl, fun b8 => StP.at0 (by simp) rfl ?_⟩
  obtain ⟨k0, v0, l0, d0⟩ := s
  dsimp only at hf
  have hS : Sub T ((b8, .cells (setR #[.string ⟨#[]⟩, .int .i64 0, .bool false, .bool false] 0 [.string k0, .int .i64 v0, .bool l0, .bool d0]) 70 (0, 0)) :: T) := (Sub.refl T).skip _
  have hk0 : Cell J ((b8, .cells (setR #[.string ⟨#[]⟩, .int .i64 0, .bool false, .bool false] 0 [.string k0, .int .i64 v0, .bool l0, .bool d0]) 70 (0, 0)) :: T) ⟨b8, 0, none⟩ (.string k0) := Cell.at0 rfl
  have hl0 : Cell J ((b8, .cells (setR #[.string ⟨#[]⟩, .int .i64 0, .bool false, .bool false] 0 [.string k0, .int .i64 v0, .bool l0, .bool d0]) 70 (0, 0)) :: T) ⟨b8, 2, none⟩ (.bool l0) := Cell.at0 rfl
  have hd0 : Cell J ((b8, .cells (setR #[.string ⟨#[]⟩, .int .i64 0, .bool false, .bool false] 0 [.string k0, .int .i64 v0, .bool l0, .bool d0]) 70 (0, 0)) :: T) ⟨b8, 3, none⟩ (.bool d0) := Cell.at0 rfl
  generalize (b8, Obj.cells (setR #[.string ⟨#[]⟩, .int .i64 0, .bool false, .bool false] 0 [.string k0, .int .i64 v0, .bool l0, .bool d0]) 70 (0, 0)) :: T = S at hS hk0 hl0 hd0 ⊢
  have fin : ∀ x y, some (x, y) = some r → R (.tuple #[.int .i64 x, .bool y]) J S := by
    rintro x y h; injection h with h; subst h; exact hR S hS
  have b4 : ∀ kb : Bool, (l0 = true ∧ (k0.toList == key.toList) = true ↔ kb = true) → table_Table_find_b4 again R (some ⟨tb, 0, none⟩) key (n : Int) free ⟨b8, 0, none⟩ kb J S := by
    intro kb hkb
    cases kb with
    | true =>
      rw [if_pos (hkb.2 rfl)] at hf
      exact fin _ _ hf
    | false =>
      rw [if_neg (fun h => by have := hkb.1 h; cases this)] at hf
      refine ⟨_, hd0, ?_⟩
      by_cases hfr : free < 0
      · rw [decide_eq_true hfr]
        cases d0 with
        | true => rw [if_pos ⟨rfl, hfr⟩] at hf; exact next S hS _ hf
        | false =>
          rw [if_neg (fun h => by cases h.1)] at hf
          cases l0 with
          | true => rw [if_neg (fun h => by cases h.1)] at hf; exact ⟨_, hl0, _, hl0, next S hS _ hf⟩
          | false =>
            rw [if_pos ⟨rfl, rfl⟩, if_pos hfr] at hf
            refine ⟨_, hl0, _, hd0, ?_⟩
            rw [decide_eq_true hfr]
            exact fin _ _ hf
      · rw [decide_eq_false hfr]
        rw [if_neg (fun h => hfr h.2)] at hf
        cases l0 with
        | true =>
          rw [if_neg (fun h => by cases h.1)] at hf
          cases d0 <;> exact ⟨_, hl0, _, hl0, next S hS _ hf⟩
        | false =>
          cases d0 with
          | true => rw [if_neg (fun h => by cases h.2)] at hf; exact ⟨_, hl0, _, hd0, _, hl0, _, hd0, next S hS _ hf⟩
          | false =>
            rw [if_pos ⟨rfl, rfl⟩, if_neg hfr] at hf
            refine ⟨_, hl0, _, hd0, ?_⟩
            rw [decide_eq_false hfr]
            exact ⟨_, hl0, _, hd0, fin _ _ hf⟩
  refine ⟨_, hl0, ?_⟩
  cases l0 with
  | true => exact ⟨_, hk0, b4 (k0.toList == key.toList) (by simp)⟩
  | false => exact b4 false (by simp)

theorem hashM_bd (key : ByteArray) {n : Nat} (hn : 0 < n) : 0 ≤ hashM key (n : Int) ∧ hashM key (n : Int) < (n : Int) := by
  unfold hashM
  have hb := hashL_bd key.data.toList
  by_cases h1 : (n : Int) > 1
  · rw [if_pos h1]; exact ⟨Int.emod_nonneg _ (by omega), Int.emod_lt_of_pos _ (by omega)⟩
  · rw [if_neg h1]; simp; omega

theorem find_runs (tb sb : Nat) (ss : List Slot) (live full : Int) (key : ByteArray) (k : Nat) (r : Int × Bool) (hn : 0 < ss.length) (hl : ss.length ≤ 1099511627776) (hk : key.size ≤ 9223372036854775807)
    (h : findM ss key k (hashM key (ss.length : Int)).toNat (-1) = some r) (I : IMem) (F : SH) :
    Runs Try.prog 35 #[.pointer (some ⟨tb, 0, none⟩), .string key] I (tabB tb (some ⟨sb, 0, none⟩) ss.length live full :: sloB sb ss :: F)
      fun v J T => v = .tuple #[.int .i64 r.1, .bool r.2] ∧ T = tabB tb (some ⟨sb, 0, none⟩) ss.length live full :: sloB sb ss :: F := by
  refine Runs.drop (table_Table_find_fn _ _ _ _ _ ?_)
  have hh := hashM_bd key hn
  refine ⟨fun m t' key' i free J T => t' = some ⟨tb, 0, none⟩ ∧ key' = key ∧ Sub (tabB tb (some ⟨sb, 0, none⟩) ss.length live full :: sloB sb ss :: F) T ∧ ∃ n : Nat, i = (n : Int) ∧ n < ss.length ∧ findM ss key m n free = some r, ?_, ?_⟩
  · refine ⟨_, _, _, Cell.at0 rfl, ?_⟩
    refine (Hash_runs key _ (by omega) hk I _).mono ?_
    rintro v J T hle ⟨rfl, rfl⟩
    exact ⟨_, rfl, k, rfl, rfl, Sub.refl _, (hashM key (ss.length : Int)).toNat, by omega, by omega, h⟩
  · rintro m t' key' i free J T hle0 ⟨rfl, rfl, hsub, n, rfl, hlt, hf⟩
    cases m with
    | zero => simp [findM] at hf
    | succ m =>
      exact find_round hlt hl hsub hf (fun S free' hS hf' => ⟨m, by omega, rfl, rfl, hsub.trans hS, _, rfl, Nat.mod_lt _ hn, hf'⟩) (fun S hS => ⟨_, hsub.trans hS, rfl, rfl⟩)
end Go.Proofs.Ytoeecjlencaglaa
