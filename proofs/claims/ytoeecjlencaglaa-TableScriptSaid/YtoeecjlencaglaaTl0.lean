/- The table's methods over a finite map; the document's examples; a word's place. -/
import Derived.Test.YtoeecjlencaglaaTp2
set_option linter.unusedVariables false
namespace Go.Proofs.Ytoeecjlencaglaa
open Go.Px

theorem Put_TI {B B' tb : Nat} {t : Tbl} {M : KV} {own : SH} (ho : TabO tb t own) (h : TI B t M) (hBB : B ≤ B') (hB30 : B' ≤ 1073741824) (key : ByteArray) (v : Int) (hks : key.size ≤ 9223372036854775807) (hB : M key = none → t.live + 1 ≤ B') (I : IMem) (F : SH) :
    Runs Try.prog 21 #[.pointer (some ⟨tb, 0, none⟩), .string key, .int .i64 v] I (own ++ F) fun w J T => w = .bool (M key).isNone ∧
      ∃ t' own', TabO tb t' own' ∧ TI B' t' (M.put key v) ∧ t'.live = (if (M key).isNone then t.live + 1 else t.live) ∧ (t'.ss.length = t.ss.length ∨ t'.ss.length = growN t.live) ∧ T = own' ++ F := by
  obtain ⟨t', e1, e2, e3, e4⟩ := putM_ok h hBB key v hks hB
  refine (Put_runs tb t t' own ho (h.ok (by omega)) ?_ key v _ hks e1 I F).mono ?_
  · intro t1 h1
    obtain ⟨t1', g1, g2, g3, g4, _⟩ := grown_ok h
    rw [h1] at g1; injection g1 with g1; subst g1
    exact ⟨g4.ok (by omega), g2⟩
  · rintro w J T hle ⟨rfl, own', ho', rfl⟩
    exact ⟨rfl, t', own', ho', e2, e3, e4, rfl⟩
theorem Get_TI {B tb : Nat} {t : Tbl} {M : KV} {own : SH} (ho : TabO tb t own) (h : TI B t M) (hB30 : B ≤ 1073741824) (key : ByteArray) (hks : key.size ≤ 9223372036854775807) (I : IMem) (F : SH) :
    Runs Try.prog 23 #[.pointer (some ⟨tb, 0, none⟩), .string key] I (own ++ F) fun w J T => w = .tuple #[.int .i64 ((M key).getD 0), .bool (M key).isSome] ∧ T = own ++ F :=
  Get_runs tb t own ho (h.ok hB30) key _ hks (getM_ok h key) I F
theorem Del_TI {B tb : Nat} {t : Tbl} {M : KV} {own : SH} (ho : TabO tb t own) (h : TI B t M) (hB30 : B ≤ 1073741824) (key : ByteArray) (hks : key.size ≤ 9223372036854775807) (I : IMem) (F : SH) :
    Runs Try.prog 22 #[.pointer (some ⟨tb, 0, none⟩), .string key] I (own ++ F) fun w J T => w = .bool (M key).isSome ∧
      ∃ t' own', TabO tb t' own' ∧ TI B t' (M.del key) ∧ t'.ss.length = t.ss.length ∧ t'.live = (if (M key).isSome then t.live - 1 else t.live) ∧ T = own' ++ F := by
  obtain ⟨t', e1, e2, e3, e4, e5⟩ := delM_ok h key
  refine (Del_runs tb t t' own ho (h.ok hB30) key _ hks e4 e1 I F).mono ?_
  rintro w J T hle ⟨rfl, own', ho', rfl⟩
  exact ⟨rfl, t', own', ho', e2, e3, e5, rfl⟩
def noTbl : Tbl := ⟨[], 0, 0⟩
theorem noTbl_TI (B : Nat) : TI B noTbl (fun _ => none) := .inl ⟨rfl, rfl, rfl, rfl⟩
theorem noTbl_TabO (tb : Nat) : TabO tb noTbl [(tb, .cells #[.slice none 0 0, .int .i64 0, .int .i64 0] 38 (0, 0))] := .inl ⟨rfl, rfl⟩

theorem awake15_runs (I : IMem) (S : SH) : Runs Try.prog 14 #[] I S fun v J T => v = .bool true ∧ T = S := by
  refine Runs.drop (bolterlaw15_awake_fn _ _ _ ?_)
  intro b
  refine (Put_TI (B' := 1) (noTbl_TabO b) (noTbl_TI 0) (by omega) (by omega) ⟨#[97]⟩ 1 (by decide) (fun _ => by simp [noTbl]) I S).mono ?_
  rintro _ J T hle ⟨rfl, t1, own1, ho1, h1, hl1, _, rfl⟩
  refine ⟨_, rfl, ?_⟩
  refine (Put_TI (B' := 1) ho1 h1 (by omega) (by omega) ⟨#[97]⟩ 2 (by decide) (fun hn => by simp [KV.put] at hn) J S).mono ?_
  rintro _ J2 T hle2 ⟨rfl, t2, own2, ho2, h2, hl2, _, rfl⟩
  refine ⟨_, rfl, ?_⟩
  refine (Get_TI ho2 h2 (by omega) ⟨#[97]⟩ (by decide) J2 S).mono ?_
  rintro _ J3 T hle3 ⟨rfl, rfl⟩
  refine ⟨_, _, rfl, ?_⟩
  have e1 : t1.live = 1 := by rw [hl1]; rfl
  have e2 : t2.live = 1 := by rw [hl2, e1]; simp [KV.put]
  refine bcase_t rfl (bcase_t (by simp [KV.put]) (bcase_t (by simp [KV.put]) (bcase_t (by simp [KV.put]) ?_)))
  refine (Len_runs b t2 own2 ho2 J3 S).mono ?_
  rintro _ J4 T hle4 ⟨rfl, rfl⟩
  refine ⟨_, rfl, S, (Sub.refl (own2 ++ S)).right, ?_, rfl⟩
  rw [e2]; rfl

theorem TableHash_runs (key : ByteArray) (slots : Int) (hs : slots ≤ 9223372036854775807) (hk : key.size ≤ 140737488351232) (I : IMem) (S : SH) :
    Runs Try.prog 3 #[.string key, .int .i64 slots] I S fun v J T => v = .bool true := by
  refine bolterlaw15_TableHash_fn _ _ _ _ _ ?_
  refine (awake15_runs I S).mono ?_
  rintro _ J T hle ⟨rfl, rfl⟩
  refine ⟨_, rfl, bcase_f rfl ?_⟩
  refine ⟨fun m key' slots' h x9 J T => key' = key ∧ slots' = slots ∧ ∃ k : Nat, x9 = (k : Int) ∧ m + k = key.size ∧ h = hashL (key.data.toList.take k), key.size, ⟨rfl, rfl, 0, rfl, rfl, rfl⟩, ?_⟩
  rintro m key' slots' h x9 J T _ ⟨rfl, rfl, k, rfl, hm, rfl⟩
  have hb := hashL_bd (key'.data.toList.take k)
  refine bcase_dec (fun hlt => ?_) (fun hge => ?_)
  · obtain ⟨c, hc⟩ := get_lt key' (k := k) (by omega)
    refine ⟨c, by omega, by simpa using hc, m - 1, by omega, rfl, rfl, k + 1, by rw [wrap_i64 (by omega) (by omega)]; rfl, by omega, ?_⟩
    rw [take_snoc _ hc, hashL_snoc]
    have h8 := c.toNat_lt
    rw [wrap_u64 (x := (c.toNat : Int)) (by omega) (by omega), wrap_u64 (x := _ * 31) (by omega) (by omega), wrap_u64 (by omega) (by omega)]
    rw [Int.tmod_eq_emod_of_nonneg (by omega)]
  · have hall : key'.data.toList.take k = key'.data.toList := List.take_of_length_le (by simp; omega)
    rw [hall] at hb ⊢
    have hmx : 1 ≤ (if slots' > 1 then slots' else 1) ∧ (if slots' > 1 then slots' else 1) ≤ 9223372036854775807 := by split <;> omega
    rw [bolterlaw15_TableHash_b4]
    generalize hM : (if slots' > (1 : Int) then slots' else 1) = M at hmx ⊢
    rw [wrap_u64 (x := M) (by omega) (by omega)]
    have hmod : 0 ≤ hashM key' slots' ∧ hashM key' slots' < M := by
      rw [hashM, hM]; exact ⟨Int.emod_nonneg _ (by omega), Int.emod_lt_of_pos _ (by omega)⟩
    refine ⟨hashM key' slots', Hash_runs key' slots' hs (by omega) _ _, bcase_dec (fun h0 => by omega) (fun _ => ?_)⟩
    rw [wrap_u64 (by omega) (by omega), Int.tmod_eq_emod_of_nonneg hb.1]
    show Value.bool _ = _
    rw [hashM, hM]
    simp
end Go.Proofs.Ytoeecjlencaglaa
