/- Numbers of four bytes; an SOA's data, and an SOA, by numbers; names put together. -/
import Derived.Test.YtdajglfbbcbgpaaDoorT4
import Derived.Test.YtdajglfbbcbgpaaDoorZs4
import Derived.Test.YtdajglfbbcbgpaaDoorZp1
namespace Go.Proofs.YtdajglfbbcbgpaaDoor
open Go.Px
set_option linter.unusedVariables false

theorem flatLen {α β : Type} {f : α → List β} {n : Nat} (h : ∀ x, (f x).length = n) : ∀ xs : List α, (xs.flatMap f).length = xs.length * n
  | [] => by simp
  | x :: xs => by rw [List.flatMap_cons, List.length_append, flatLen h xs, h, List.length_cons, Nat.succ_mul, Nat.add_comm]
def u8w (v : Int) : UInt8 := UInt8.ofNat (IntKind.wrap .u8 v).toNat
theorem u8w_v (v : Int) : ((u8w v).toNat : Int) = IntKind.wrap .u8 v := by
  have h : 0 ≤ IntKind.wrap .u8 v ∧ IntKind.wrap .u8 v < 256 := by rw [wrap_u8_eq]; omega
  unfold u8w
  rw [ofNatU (by omega)]; omega
def put1 (n : Int) : List UInt8 := [u8w (n.fdiv (2 ^ (min (24 : Int).toNat (IntKind.bits .u32)))), u8w (n.fdiv (2 ^ (min (16 : Int).toNat (IntKind.bits .u32)))), u8w (n.fdiv (2 ^ (min (8 : Int).toNat (IntKind.bits .u32)))), u8w n]
def elU32 (x : Int) : List Value := [.int .u32 x]
theorem put1_v (n : Int) : (#[.int .u8 (IntKind.wrap .u8 (n.fdiv (2 ^ (min (24 : Int).toNat (IntKind.bits .u32))))), .int .u8 (IntKind.wrap .u8 (n.fdiv (2 ^ (min (16 : Int).toNat (IntKind.bits .u32))))), .int .u8 (IntKind.wrap .u8 (n.fdiv (2 ^ (min (8 : Int).toNat (IntKind.bits .u32))))), .int .u8 (IntKind.wrap .u8 n)] : Array Value) = ((put1 n).flatMap elB).toArray := by
  simp only [put1, List.flatMap_cons, List.flatMap_nil, elB, u8w_v]; rfl
theorem Put32_runs {ns : List Int} {a : Option Addr} {c : Nat} {I : IMem} {S : SH} (hx : RowIn I S a ns.length 1 elU32 ns) (hl : ns.length ≤ 1000) :
    Runs Tryd.prog 57 #[.slice none 0 0, .slice a ns.length c] I S fun v _ T => ∃ own, OwnR 5 1 elB v (ns.flatMap put1) own ∧ Sub (own ++ S) T := by
  have plen : ∀ n, (put1 n).length = 4 := fun _ => rfl
  have flen : ∀ k, ((ns.take k).flatMap put1).length = (ns.take k).length * 4 := fun k => flatLen plen _
  refine num_Put32_fn _ _ _ _ _ _ _ _ _ ?_
  unfold num_Put32 num_Put32_b1 num_Put32_b2
  refine AppG.own (xs := ([] : List UInt8)) (ys := []) (el := elB) (own := []) (F := S) elB_len elB_one rfl (List.Perm.refl _) OwnR.nil ⟨Rd.none, rfl⟩ (by simp [maxLen]) (by simp) ?_
  intro p n c0 own0 ho0
  rw [List.append_nil] at ho0
  refine ⟨fun m o on oc x xn xc q i J T => x = a ∧ xn = ns.length ∧ q = (ns.length : Int) ∧ I.le J ∧ ∃ (k : Nat) (own : SH), i = (k : Int) ∧ k ≤ ns.length ∧ m = ns.length - k ∧ OwnR 5 1 elB (.slice o on oc) ((ns.take k).flatMap put1) own ∧ Sub (own ++ S) T,
    ns.length, ⟨rfl, rfl, rfl, IMem.le.refl I, 0, own0, rfl, Nat.zero_le _, rfl, ho0, Sub.refl _⟩, ?_⟩
  rintro m o on oc x xn xc q i J T - ⟨rfl, rfl, rfl, hle, k, own, rfl, hk, rfl, ho, hs⟩
  unfold num_Put32_l3 num_Put32_b4
  refine bcase_dec (fun h => ?_) (fun h => ?_)
  · obtain ⟨n, hn⟩ := get_lt (xs := ns) (k := k) (by omega)
    obtain ⟨a', rfl, hc⟩ := ((hx.sub hs.right).le hle).cell hn
    have h0 := hc 0 _ rfl
    have e0 : (a'.add (k * 1)).add 0 = a'.add (k * 1) := by simp [Addr.add]
    rw [e0] at h0
    refine ⟨by omega, by omega, n, h0, fun b28 => ?_⟩
    rw [put1_v]
    obtain ⟨G, hG⟩ := hs
    have hf := flen k
    rw [List.length_take] at hf
    refine AppG.own (xs := (ns.take k).flatMap put1) (ys := put1 n) (el := elB) (own := own) (F := (b28, .cells ((put1 n).flatMap elB).toArray 5 (0, 0)) :: (S ++ G)) elB_len elB_one rfl ?_ ho ⟨?_, flatMap_one elB_one _⟩ ?_ ?_ ?_
    · exact (hG.cons _).trans (by rw [List.append_assoc]; exact perm_mid1)
    · exact Rd.list rfl (by rw [flatMap_len elB_len, plen]; omega)
    · rw [hf, plen]; simp only [maxLen]; omega
    · rw [hf, plen]; omega
    · intro p2 n2 d2 own2 ho2
      refine ⟨ns.length - (k + 1), by omega, rfl, rfl, rfl, hle, k + 1, own2, ?_, by omega, rfl, ?_, ?_⟩
      · rw [wrap_i64 (by omega) (by omega)]; rfl
      · rw [take_snoc hn, List.flatMap_append]; simpa using ho2
      · exact ⟨(b28, _) :: G, by rw [List.append_assoc]; exact List.Perm.append_left own2 perm_mid1⟩
  · have : k = ns.length := by omega
    subst this
    rw [List.take_length] at ho
    exact ⟨own, ho, hs⟩

theorem BytesAt.sub {I : IMem} {S T : SH} {p : Option Addr} {n : Nat} {s : ByteArray} (hs : Sub S T) (h : BytesAt I S p n s) : BytesAt I T p n s := by
  cases p with
  | none => exact h
  | some a => exact ⟨h.1, fun i c hc => (h.2 i c hc).mono (hs.keep (IMem.le.refl I))⟩
theorem OwnR.bytes {e : TypeId} {I : IMem} {a : Option Addr} {n c : Nat} {l : List UInt8} {own : SH} (h : OwnR e 1 elB (.slice a n c) l own) : BytesAt I own a n ⟨l.toArray⟩ := by
  rcases h with ⟨hv, rfl, rfl⟩ | ⟨g, cap, rest, hv, rfl, _⟩
  · injection hv with h1 h2 h3
    subst h1; subst h2
    rfl
  · injection hv with h1 h2 h3
    subst h1; subst h2
    rw [flat_elB]
    exact BytesAt.list rfl

def putB (ns : List Int) : ByteArray := ⟨(ns.flatMap put1).toArray⟩
theorem putB_size (ns : List Int) : (putB ns).size = ns.length * 4 := by
  show (ns.flatMap put1).toArray.size = _
  rw [List.size_toArray]; exact flatLen (f := put1) (n := 4) (fun _ => rfl) _
def mkD (x : ByteArray) (n r t e : Int) : ByteArray := x ++ d0 ++ x ++ d0 ++ putB [n, IntKind.wrap .u32 r, IntKind.wrap .u32 t, IntKind.wrap .u32 e, 1]
theorem SMake_runs {xs : List Int} {a : Option Addr} {c : Nat} {n r t e : Int} {I : IMem} {S : SH} (hx : RowIn I S a xs.length 1 elI8 xs) (hl : xs.length ≤ 9223372036854775807) (hp : ∀ x ∈ xs, 0 ≤ x) :
    Runs Tryd.prog 38 #[.slice a xs.length c, .int .u32 n, .int .u8 r, .int .u8 t, .int .u8 e] I S fun v _ T => v = .string (mkD (nameW xs) n r t e) ∧ T = S := by
  refine Runs.drop (bolterlaw07_Make_fn _ _ _ _ _ _ _ _ _ _ ?_)
  unfold bolterlaw07_Make
  refine (Name_runs hx hl hp).mono ?_
  rintro v J T hle ⟨rfl, rfl⟩
  have hn := nameW_size xs
  generalize nameW xs = x at hn
  have z4 : (⟨#[0]⟩ : ByteArray).size = 1 := rfl
  simp only [app_size, z4]
  refine ⟨_, rfl, by omega, by omega, by omega, fun b26 => ?_⟩
  have hrow : RowIn J ((b26, Obj.cells #[.int .u32 n, .int .u32 (IntKind.wrap .u32 r), .int .u32 (IntKind.wrap .u32 t), .int .u32 (IntKind.wrap .u32 e), .int .u32 1] 24 (0, 0)) :: T) (some ⟨b26, 0, none⟩) 5 1 elU32 [n, IntKind.wrap .u32 r, IntKind.wrap .u32 t, IntKind.wrap .u32 e, 1] := by
    have ho : OwnR 24 1 elU32 (.slice (some ⟨b26, 0, none⟩) 5 5) [n, IntKind.wrap .u32 r, IntKind.wrap .u32 t, IntKind.wrap .u32 e, 1] [(b26, Obj.cells #[.int .u32 n, .int .u32 (IntKind.wrap .u32 r), .int .u32 (IntKind.wrap .u32 t), .int .u32 (IntKind.wrap .u32 e), .int .u32 1] 24 (0, 0))] :=
      .inr ⟨b26, 5, [], rfl, rfl, rfl, by simp [maxLen]⟩
    exact (OwnR.row (el := elU32) (sz := 1) (fun _ => rfl) ho).sub ⟨T, List.Perm.refl _⟩
  refine (Put32_runs (ns := [n, IntKind.wrap .u32 r, IntKind.wrap .u32 t, IntKind.wrap .u32 e, 1]) hrow (by simp)).mono ?_
  rintro v J' T' hle' ⟨own, ho, hs⟩
  obtain ⟨p, d, rfl⟩ := ho.slice
  have hb := OwnR.bytes (I := J') ho
  refine ⟨_, _, _, rfl, putB [n, IntKind.wrap .u32 r, IntKind.wrap .u32 t, IntKind.wrap .u32 e, 1], BytesAt.sub hs.left hb, ?_, T, hs.right.drop, rfl, rfl⟩
  rw [putB_size]
  simp only [List.length_cons, List.length_nil]; omega
def soaD (n : Int) : ByteArray := mkD (nameW []) n 10 3 40
def soaR (o : ByteArray) (n : Int) : Rc := (o, 6, 9, soaD n)
theorem SoaAt_runs (o : ByteArray) (n : Int) (I : IMem) (S : SH) : Runs Tryd.prog 21 #[.string o, .int .u32 n] I S fun v _ T => v = vR (soaR o n) ∧ T = S := by
  refine Runs.drop (bolterlaw09_Soa_fn _ _ _ _ _ ?_)
  unfold bolterlaw09_Soa
  intro b4
  refine (SMake_runs (xs := []) ⟨rfl, fun i x h => by simp at h⟩ (by simp) (fun x h => by cases h)).mono ?_
  rintro v J T hle ⟨rfl, rfl⟩
  refine ⟨_, rfl, StP.rec (x := soaR o n) ?_⟩
  exact ⟨_, Cell.at0 rfl, _, Cell.at0 rfl, _, Cell.at0 rfl, _, Cell.at0 rfl, S, (Sub.refl S).skip _, rfl, rfl⟩
def joinN (n o : ByteArray) : ByteArray × Bool := if (labN n).isSome && ((labN o).isSome && decide (n.size + o.size ≤ 254)) then (n ++ o, true) else (⟨#[]⟩, false)
theorem Join_runs (n o : ByteArray) (h1 : n.size ≤ 140737488355328) (h2 : o.size ≤ 140737488355328) (I : IMem) (S : SH) : Runs Tryd.prog 39 #[.string n, .string o] I S fun v _ T => v = .tuple #[.string (joinN n o).1, .bool (joinN n o).2] ∧ T = S := by
  refine name_Join_fn _ _ _ _ _ ?_
  unfold name_Join name_Join_b1 name_Join_b2 name_Join_b3
  refine (May_runs n I S).mono ?_
  rintro v J T hle ⟨rfl, rfl⟩
  refine ⟨_, rfl, bcase_not (bcase_of (fun g1 => ?_) (fun g1 => ?_))⟩
  · refine (May_runs o J T).mono ?_
    rintro v J' T' hle' ⟨rfl, rfl⟩
    refine ⟨_, rfl, bcase_not (bcase_of (fun g2 => ?_) (fun g2 => ?_))⟩
    · rw [wrap_i64 (by omega) (by omega)]
      refine bcase_dec (fun g3 => ⟨?_, rfl⟩) (fun g3 => ⟨by omega, ?_, rfl⟩)
      · rw [joinN, g1, g2, decide_eq_false (by omega)]; rfl
      · rw [joinN, g1, g2, decide_eq_true (by omega)]; rfl
    · refine bcase_t rfl ⟨?_, rfl⟩
      rw [joinN, g1, g2]; rfl
  · refine bcase_t rfl ⟨?_, rfl⟩
    rw [joinN, g1]; rfl
def origN (n : Int) : ByteArray := nameW [n.tmod 6]
theorem Origin_runs (n : Int) (h : 0 ≤ n) (I : IMem) (S : SH) : Runs Tryd.prog 19 #[.int .u8 n] I S fun v _ T => v = .string (origN n) ∧ T = S := by
  refine Runs.drop (bolterlaw09_Origin_fn _ _ _ _ ?_)
  unfold bolterlaw09_Origin
  intro b5
  have ho : OwnR 5 1 elI8 (.slice (some ⟨b5, 0, none⟩) 1 1) [n.tmod 6] [(b5, Obj.cells #[.int .u8 (n.tmod 6)] 5 (0, 0))] := .inr ⟨b5, 1, [], rfl, rfl, rfl, by simp [maxLen]⟩
  refine (Name_runs (xs := [n.tmod 6]) ((OwnR.row (el := elI8) (sz := 1) (fun _ => rfl) ho).sub ⟨S, List.Perm.refl _⟩) (by simp) ?_).mono ?_
  · intro x hx
    rw [List.mem_singleton.1 hx]
    exact Int.tmod_nonneg _ h
  · rintro v J T hle ⟨rfl, rfl⟩
    exact ⟨_, rfl, S, (Sub.refl S).skip _, rfl, rfl⟩
end Go.Proofs.YtdajglfbbcbgpaaDoor
