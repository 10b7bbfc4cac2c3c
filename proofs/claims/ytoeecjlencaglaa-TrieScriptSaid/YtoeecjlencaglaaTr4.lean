/- The trie's functions: Longest, Get, Len, Nodes, on trees of words. -/
import Derived.Test.YtoeecjlencaglaaTr3
set_option linter.unusedVariables false
namespace Go.Proofs.Ytoeecjlencaglaa
open Go.Px

def encL (b : Option (Int × Nat)) : Array Value := match b with
  | none => #[.int .i64 0, .int .i64 0, .bool false]
  | some (v, n) => #[.int .i64 v, .int .i64 (n : Nat), .bool true]
def walkInv (res : Option (Int × Nat)) (m : Nat) (key : ByteArray) (value length : Int) (is : Bool) (deep : Int) (n : Option Addr) (T : SH) : Prop :=
  ∃ (t : Sh) (k : List Bool) (S : SH) (d : Nat) (best : Option (Int × Nat)), key = eb k ∧ #[.int .i64 value, .int .i64 length, .bool is] = encL best ∧ deep = (d : Int) ∧ d + k.length ≤ 128 ∧ Rep t n S ∧ Sub S T ∧ t.walk k d best = res ∧ t.ht ≤ m
theorem encL_some {v n : Int} {is : Bool} {best : Option (Int × Nat)} (h : #[.int .i64 v, .int .i64 n, .bool is] = encL best) : Value.tuple #[.int .i64 v, .int .i64 n, .bool is] = .tuple (encL best) := by rw [h]
theorem Longest_runs (tb : Nat) (t : Sh) (own : SH) (ho : TriO tb t own) (k : List Bool) (hk : k.length ≤ 128) (I : IMem) (F : SH) :
    Runs Try.prog 18 #[.pointer (some ⟨tb, 0, none⟩), .string (eb k)] I (own ++ F) fun x J T => x = .tuple (encL (t.walk k 0 none)) ∧ T = own ++ F := by
  obtain ⟨p, S, hr, rfl⟩ := ho
  refine trie_Trie_Longest_fn _ _ _ _ _ ?_
  refine (May_word k hk _ _).mono ?_
  rintro _ J T _ ⟨rfl, rfl, rfl⟩
  refine ⟨true, rfl, p, ?_, ?_⟩
  · rw [List.append_assoc]; exact Cell.appR (Cell.at0 rfl)
  refine ⟨fun m key value length is deep n J' T => T = S ++ [trO tb p (t.cnt : Nat)] ++ F ∧ walkInv (t.walk k 0 none) m key value length is deep n T, t.ht,
    ⟨rfl, t, k, S, 0, none, rfl, rfl, rfl, by omega, hr, ⟨_, by rw [List.append_assoc]⟩, rfl, Nat.le_refl _⟩, ?_⟩
  generalize t.walk k 0 none = res
  generalize S ++ [trO tb p (t.cnt : Nat)] ++ F = TT
  rintro m key value length is deep n J' T _ ⟨hT, t', k', S', d, best, rfl, henc, rfl, hd, hrep, hsub, hwalk, hm⟩
  cases t' with
  | nil =>
    obtain ⟨rfl, rfl⟩ := hrep
    rw [Sh.walk] at hwalk
    subst hwalk
    exact ⟨encL_some henc, hT⟩
  | node bits w l r =>
    obtain ⟨b, pl, pr, Sl, Sr, rfl, rfl, hrl, hrr⟩ := hrep
    rw [Sh.walk_node] at hwalk
    refine ⟨eb bits, Sub.cell' hsub (Cell.at0 rfl), _, common_runs bits k' (by omega) _ _ |>.mono (fun v J T _ h => ⟨h.1, h.2.2⟩), eb bits, Sub.cell' hsub (Cell.at0 rfl), ?_⟩
    rw [eb_size]
    refine bcase_dec (fun hlt => ?_) (fun hge => ?_)
    · rw [if_pos (by omega)] at hwalk
      subst hwalk
      exact ⟨encL_some henc, hT⟩
    · rw [if_neg (by omega)] at hwalk
      have hkk := lcp_full (a := bits) (b := k') (by omega)
      generalize k'.drop bits.length = rest at *
      subst hkk
      rw [List.length_append] at hd
      refine ⟨eb bits, Sub.cell' hsub (Cell.at0 rfl), eb bits, Sub.cell' hsub (Cell.at0 rfl), by omega, by rw [eb_size, eb_size, List.length_append]; omega, ?_⟩
      rw [eb_size, eb_size, eb_extract, List.take_length, show ((bits.length : Nat) : Int).toNat = bits.length by omega, List.drop_left, wrap_i64 (by omega) (by omega)]
      refine ⟨w.isSome, Sub.cell' hsub (Cell.at0 rfl), ?_⟩
      have fin : ∀ value length is, #[.int .i64 value, .int .i64 length, .bool is] = encL (bestOf w (d + bits.length) best) → trie_Trie_Longest_b9 (fun key value length is deep n I S => ∃ m', m' < m ∧ S = TT ∧ walkInv res m' key value length is deep n S) (fun x J T => x = .tuple (encL res) ∧ T = TT) (eb rest) value length is ((d : Int) + (bits.length : Int)) (some ⟨b, 0, none⟩) J' T := by
        intro value length is he
        cases rest with
        | nil =>
          dsimp only at hwalk
          subst hwalk
          exact ⟨encL_some he, hT⟩
        | cons c rest =>
          rw [trie_Trie_Longest_b9, eb_size, show ((((c :: rest).length : Nat) : Int) == (0 : Int)) = false by simp; omega]
          refine ⟨sg c, by omega, by rw [eb_get]; simp, (kid_in c).1, (kid_in c).2, ?_⟩
          rw [kid_eq]
          simp only [Sh.ht] at hm
          simp only [List.length_cons] at hd
          cases c with
          | false => exact ⟨pl, Sub.cell' hsub (Cell.at0 rfl), m - 1, by omega, hT, l, false :: rest, Sl, d + bits.length, _, rfl, he, by omega, by simp only [List.length_cons]; omega, hrl, hsub.drop.left, hwalk, by omega⟩
          | true => exact ⟨pr, Sub.cell' hsub (Cell.at0 rfl), m - 1, by omega, hT, r, true :: rest, Sr, d + bits.length, _, rfl, he, by omega, by simp only [List.length_cons]; omega, hrr, hsub.drop.right, hwalk, by omega⟩
      cases w with
      | none => exact fin _ _ _ henc
      | some x => exact ⟨x, Sub.cell' hsub (Cell.at0 rfl), fin _ _ _ (by simp [encL, bestOf])⟩
theorem Len_runs (tb : Nat) (t : Sh) (own : SH) (ho : TriO tb t own) (I : IMem) (F : SH) :
    Runs Try.prog 19 #[.pointer (some ⟨tb, 0, none⟩)] I (own ++ F) fun x J T => x = .int .i64 (t.cnt : Nat) ∧ T = own ++ F := by
  obtain ⟨p, S, hr, rfl⟩ := ho
  refine trie_Trie_Len_fn _ _ _ _ ?_
  exact ⟨_, by rw [List.append_assoc]; exact Cell.appR (Cell.at0 rfl), rfl, rfl⟩
end Go.Proofs.Ytoeecjlencaglaa
