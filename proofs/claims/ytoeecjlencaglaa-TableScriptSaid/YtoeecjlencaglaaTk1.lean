/- The law's words (bolterlaw15.Key), and how many words a table has at most. -/
import Derived.Test.YtoeecjlencaglaaT3
import Derived.Test.YtoeecjlencaglaaTl0
import Derived.Test.YtoeecjlencaglaaPx10
set_option linter.unusedVariables false
namespace Go.Proofs.Ytoeecjlencaglaa
open Go.Px

def key15 (n : Nat) : ByteArray := ⟨(UInt8.ofNat (97 + n % 8) :: UInt8.ofNat (97 + n / 8 % 4) :: List.replicate (n / 32) 0).toArray⟩
theorem key15_size (n : Nat) : (key15 n).size = n / 32 + 2 := by show (List.toArray _).size = _; simp
theorem byV_rep (k : Nat) : byV ⟨(List.replicate k 0).toArray⟩ = (repV k [.int .u8 0]).toArray := by
  unfold byV
  congr 1
  show List.map _ (List.replicate k 0) = _
  induction k with
  | zero => rfl
  | succ k ih => simp only [List.replicate_succ, List.map_cons, ih, repV]; rfl
theorem Key15_runs (n : Nat) (hn : n < 256) (I : IMem) (S : SH) : Runs Try.prog 20 #[.int .u8 n] I S fun v J T => v = .string (key15 n) ∧ J = I ∧ T = S := by
  refine Runs.drop (bolterlaw15_Key_fn _ _ _ _ ?_)
  have e1 : IntKind.wrap .u8 ((97 : Int) + ((n : Int).tmod (8 : Int))) = ((97 + n % 8 : Nat) : Int) := by
    rw [show (n : Int).tmod (8 : Int) = ((n % 8 : Nat) : Int) from rfl, wrap_u8 (by omega) (by omega)]; rfl
  have e2 : IntKind.wrap .u8 ((n : Int).tdiv (8 : Int)) = ((n / 8 : Nat) : Int) := by
    rw [show (n : Int).tdiv (8 : Int) = ((n / 8 : Nat) : Int) from rfl, wrap_u8 (by omega) (by omega)]
  have e3 : IntKind.wrap .u8 ((97 : Int) + ((n / 8 : Nat) : Int).tmod (4 : Int)) = ((97 + n / 8 % 4 : Nat) : Int) := by
    rw [show ((n / 8 : Nat) : Int).tmod (4 : Int) = ((n / 8 % 4 : Nat) : Int) from rfl, wrap_u8 (by omega) (by omega)]; rfl
  have e4 : IntKind.wrap .u8 ((n : Int).tdiv (32 : Int)) = ((n / 32 : Nat) : Int) := by
    rw [show (n : Int).tdiv (32 : Int) = ((n / 32 : Nat) : Int) from rfl, wrap_u8 (by omega) (by omega)]
  rw [bolterlaw15_Key, bolterlaw15_Key_b1, e1, e2, e3, e4, show ((n / 32 : Nat) : Int).toNat = n / 32 by omega]
  have hs1 : (#[.int .u8 ((97 + n % 8 : Nat) : Int), .int .u8 ((97 + n / 8 % 4 : Nat) : Int)] : Array Value) = byV ⟨#[UInt8.ofNat (97 + n % 8), UInt8.ofNat (97 + n / 8 % 4)]⟩ := by
    have h1 : (97 + n % 8) % 256 = 97 + n % 8 := by omega
    have h2 : (97 + n / 8 % 4) % 256 = 97 + n / 8 % 4 := by omega
    simp [byV, UInt8.toNat_ofNat', h1, h2]
  have hs2 := (byV_rep (n / 32)).symm
  have hsz2 : n / 32 = ByteArray.size ⟨(List.replicate (n / 32) 0).toArray⟩ := by show _ = (List.toArray _).size; simp
  have hkey : (⟨#[UInt8.ofNat (97 + n % 8), UInt8.ofNat (97 + n / 8 % 4)]⟩ : ByteArray) ++ (⟨(List.replicate (n / 32) 0).toArray⟩ : ByteArray) = key15 n := by
    apply ByteArray.ext
    rw [ByteArray.data_append]
    simp [key15]
  generalize hC1 : (#[.int .u8 ((97 + n % 8 : Nat) : Int), .int .u8 ((97 + n / 8 % 4 : Nat) : Int)] : Array Value) = C1 at hs1 ⊢
  generalize hC2 : (repV (n / 32) [.int .u8 0]).toArray = C2 at hs2 ⊢
  have hlim : n / 32 < 8 := by omega
  generalize hk : n / 32 = k at hsz2 hkey hs2 hlim ⊢
  generalize hS1 : (⟨#[UInt8.ofNat (97 + n % 8), UInt8.ofNat (97 + n / 8 % 4)]⟩ : ByteArray) = s1 at hs1 hkey
  have hz1 : 2 = s1.size := by subst hS1; rfl
  generalize (⟨(List.replicate k 0).toArray⟩ : ByteArray) = s2 at hs2 hsz2 hkey
  have hz : ((s1.size + s2.size : Nat) : Int) ≤ 9223372036854775807 := by omega
  have hz' : ∀ T, Sub S T → bolterlaw15_Key_b2 (fun v J T => ∃ L, Sub L T ∧ v = .string (key15 n) ∧ J = I ∧ L = S) (s1 ++ s2) I T := fun T hs => ⟨S, hs, by rw [hkey], rfl, rfl⟩
  have h0 : (0 : Int) ≤ (k : Int) := by omega
  have h1 : (k : Int) ≤ 9223372036854775807 := by omega
  have h2 : (1 : Int) * (k : Int) ≤ 281474976710656 := by omega
  have r := Int.le_refl (k : Int)
  have f2 : ∀ (p q : Nat × Obj), Sub S (p :: q :: S) := fun p q => ((Sub.refl S).skip q).skip p
  refine ⟨fun b10 => ⟨⟨s1, BytesAt.at0 s1 hz1 hs1, h0, r, h1, h2, fun b14 => ⟨s2, BytesAt.at0 s2 hsz2 hs2, hz, hz' _ (f2 _ _)⟩⟩, h0, r, h1, h2, fun b14 => ⟨⟨s1, BytesAt.tl (BytesAt.at0 s1 hz1 hs1), s2, BytesAt.at0 s2 hsz2 hs2, hz, hz' _ (f2 _ _)⟩, ⟨s2, BytesAt.at0 s2 hsz2 hs2, s1, BytesAt.tl (BytesAt.at0 s1 hz1 hs1), hz, hz' _ (f2 _ _)⟩⟩⟩,
    h0, r, h1, h2, fun b14 => ⟨fun b10 => ⟨⟨s1, BytesAt.at0 s1 hz1 hs1, s2, BytesAt.tl (BytesAt.at0 s2 hsz2 hs2), hz, hz' _ (f2 _ _)⟩, ⟨s2, BytesAt.tl (BytesAt.at0 s2 hsz2 hs2), s1, BytesAt.at0 s1 hz1 hs1, hz, hz' _ (f2 _ _)⟩⟩, ⟨s2, BytesAt.at0 s2 hsz2 hs2, fun b10 => ⟨s1, BytesAt.at0 s1 hz1 hs1, hz, hz' _ (f2 _ _)⟩⟩⟩⟩
theorem Key15' (x : Int) (hx : (Lit.int .u8 x).wf = true) (I : IMem) (S : SH) : Runs Try.prog 20 #[.int .u8 x] I S fun v J T => v = .string (key15 x.toNat) ∧ J = I ∧ T = S := by
  have b : 0 ≤ x ∧ x ≤ 255 := by simpa [Lit.wf, IntKind.min, IntKind.max, IntKind.signed, IntKind.bits] using hx
  have := Key15_runs x.toNat (by omega) I S
  rwa [Int.toNat_of_nonneg b.1] at this
theorem key15_small (n : Nat) (hn : n < 256) : (key15 n).size ≤ 9223372036854775807 := by rw [key15_size]; omega

theorem nodup_le {α : Type} [DecidableEq α] : ∀ {l K : List α}, l.Nodup → (∀ x ∈ l, x ∈ K) → l.length ≤ K.length
  | [], K, _, _ => Nat.zero_le _
  | a :: l, K, hn, hs => by
    have ha := hs a (List.mem_cons_self ..)
    have hn' := List.nodup_cons.1 hn
    have := nodup_le (l := l) (K := K.erase a) hn'.2 (fun x hx => (List.mem_erase_of_ne (fun e : x = a => hn'.1 (e ▸ hx))).2 (hs x (List.mem_cons_of_mem _ hx)))
    rw [List.length_erase_of_mem ha] at this
    have : 0 < K.length := List.length_pos_of_mem ha
    simp only [List.length_cons]; omega
theorem TI.count {B : Nat} {t : Tbl} {M : KV} (h : TI B t M) (K : List ByteArray) (hK : ∀ k, M k ≠ none → k ∈ K) : t.live ≤ K.length := by
  rcases h with ⟨_, h1, _⟩ | ⟨_, hg, hM, h1, _⟩
  · omega
  · rw [← h1, lv, List.countP_eq_length_filter]
    have hp : t.ss.Pairwise (fun s u : Slot => s.live = true → u.live = true → s.key ≠ u.key) := by
      rw [List.pairwise_iff_getElem]
      intro i j hi hj hij h1 h2 he
      exact absurd (hg.uniq i j _ _ (List.getElem?_eq_getElem hi) (List.getElem?_eq_getElem hj) h1 h2 he) (by omega)
    have hnd : ((t.ss.filter fun s => s.live).map (·.key)).Nodup := by
      rw [List.nodup_iff_pairwise_ne, List.pairwise_map]
      refine List.Pairwise.imp_of_mem ?_ (hp.filter _)
      intro a b ha hb h
      exact h (List.mem_filter.1 ha).2 (List.mem_filter.1 hb).2
    have := nodup_le hnd (K := K) (fun x hx => by
      obtain ⟨s, hs, rfl⟩ := List.mem_map.1 hx
      obtain ⟨hs1, hs2⟩ := List.mem_filter.1 hs
      obtain ⟨i, hi⟩ := List.getElem?_of_mem hs1
      exact hK _ (by rw [(hM s.key s.value).2 ⟨i, s, hi, hs2, rfl, rfl⟩]; exact fun h => by cases h))
    simpa using this
def keys15 : List ByteArray := (List.range 256).map key15
theorem keys15_len : keys15.length = 256 := by simp [keys15]
theorem key15_mem (n : Nat) (h : n < 256) : key15 n ∈ keys15 := List.mem_map.2 ⟨n, List.mem_range.2 h, rfl⟩
end Go.Proofs.Ytoeecjlencaglaa
