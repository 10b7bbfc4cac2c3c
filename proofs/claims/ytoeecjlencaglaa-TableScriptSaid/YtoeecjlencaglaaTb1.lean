/- The table's functions: what they come to, on lists of slots. -/
import Derived.Test.YtoeecjlencaglaaT1
import Derived.Test.YtoeecjlencaglaaPx7
set_option linter.unusedVariables false
namespace Go.Proofs.Ytoeecjlencaglaa
open Go.Px

def hashL (l : List UInt8) : Int := l.foldl (fun h c => (h * 31 + (c.toNat : Int)) % 4294967296) 17
theorem hashL_bd (l : List UInt8) : 0 ≤ hashL l ∧ hashL l < 4294967296 := by
  unfold hashL
  have : ∀ (l : List UInt8) (h : Int), 0 ≤ h ∧ h < 4294967296 → 0 ≤ l.foldl (fun h c => (h * 31 + (c.toNat : Int)) % 4294967296) h ∧ l.foldl (fun h c => (h * 31 + (c.toNat : Int)) % 4294967296) h < 4294967296 := by
    intro l
    induction l with
    | nil => intro h hh; exact hh
    | cons c l ih => intro h hh; refine ih _ ?_; dsimp only; omega
  exact this l 17 (by omega)
theorem hashL_snoc (l : List UInt8) (c : UInt8) : hashL (l ++ [c]) = (hashL l * 31 + (c.toNat : Int)) % 4294967296 := by simp [hashL]
def hashM (key : ByteArray) (slots : Int) : Int := hashL key.data.toList % (if slots > 1 then slots else 1)

theorem data_get (s : ByteArray) (k : Nat) : s.data.toList[k]? = s[k]? := by
  by_cases h : k < s.size
  · rw [getElem?_pos s k h, List.getElem?_eq_getElem (by simpa using h)]; rfl
  · rw [getElem?_neg s k h, List.getElem?_eq_none (by simpa using h)]
theorem take_snoc (s : ByteArray) {k : Nat} {c : UInt8} (h : s[k]? = some c) : s.data.toList.take (k + 1) = s.data.toList.take k ++ [c] := by
  rw [List.take_add_one, (data_get s k).trans h]; rfl
theorem get_lt (s : ByteArray) {k : Nat} (h : k < s.size) : ∃ c, s[k]? = some c := ⟨_, getElem?_pos s k h⟩

theorem Hash_runs (key : ByteArray) (slots : Int) (hs : slots ≤ 9223372036854775807) (hk : key.size ≤ 9223372036854775807) (I : IMem) (S : SH) :
    Runs Try.prog 15 #[.string key, .int .i64 slots] I S fun v J T => v = .int .i64 (hashM key slots) ∧ T = S := by
  refine Runs.drop (table_Hash_fn _ _ _ _ _ ?_)
  refine ⟨fun m key' slots' h x8 x9 J T => key' = key ∧ slots' = slots ∧ x8 = (key.size : Int) ∧ Sub S T ∧ ∃ k : Nat, x9 = (k : Int) ∧ m + k = key.size ∧ h = hashL (key.data.toList.take k), key.size, ⟨rfl, rfl, rfl, Sub.refl S, 0, rfl, rfl, rfl⟩, ?_⟩
  rintro m key' slots' h x8 x9 J T _ ⟨rfl, rfl, rfl, hsub, k, rfl, hm, rfl⟩
  refine bcase_dec (fun hlt => ?_) (fun hge => ?_)
  · obtain ⟨c, hc⟩ := get_lt key' (k := k) (by omega)
    refine ⟨c, by omega, by simpa using hc, m - 1, by omega, rfl, rfl, rfl, hsub, k + 1, by rw [wrap_i64 (by omega) (by omega)]; rfl, by omega, ?_⟩
    rw [take_snoc _ hc, hashL_snoc]
    simp only [wrap_u32_eq]
    omega
  · have hb := hashL_bd (key'.data.toList.take k)
    have hall : key'.data.toList.take k = key'.data.toList := List.take_of_length_le (by simp; omega)
    rw [hall] at hb ⊢
    have hmx : 1 ≤ (if slots' > 1 then slots' else 1) ∧ (if slots' > 1 then slots' else 1) ≤ 9223372036854775807 := by split <;> omega
    rw [table_Hash_b4]
    generalize hM : (if slots' > (1 : Int) then slots' else 1) = M at hmx ⊢
    rw [wrap_u64 (x := M) (by omega) (by omega), wrap_u64 (by omega) (by omega)]
    have hmod : 0 ≤ hashL key'.data.toList % M ∧ hashL key'.data.toList % M < M := ⟨Int.emod_nonneg _ (by omega), Int.emod_lt_of_pos _ (by omega)⟩
    refine bcase_dec (fun h0 => by omega) (fun _ => ⟨S, hsub, ?_, rfl⟩)
    rw [Int.tmod_eq_emod_of_nonneg hb.1, wrap_i64 (by omega) (by omega), hashM, hM]
end Go.Proofs.Ytoeecjlencaglaa
