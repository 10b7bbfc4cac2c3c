/- Records in order: each once, the same ones just if they are the same; what is put in, and what is taken out. -/
import Derived.Sort.Grow
import Derived.Deep.Draws
import Derived.Shelf.GgSortFunc.InsertionK
import Derived.Shelf.SlSortCmp.NoneTotal
import Derived.Shelf.SlGeneric
import Derived.Shelf.SlSortCmp.WholeK
import Derived.Ground.SlsfProg
import Derived.Test.YthlkeokfmedjhaaGreatProg
import Derived.Test.YthlkeokfmedjhaaGreatM1TransferScript
import Derived.Test.YthlkeokfmedjhaaGreatM2TransferScript
import Derived.Test.YthlkeokfmedjhaaGreatM3TransferScript
import Derived.Test.YthlkeokfmedjhaaGreatM4TransferScript
namespace Go.Proofs.YthlkeokfmedjhaaGreat
open Go.Px
set_option linter.unusedVariables false

abbrev SS (xs : List Rc) : Prop := xs.Pairwise (fun a b => cmpR a b < 0)
theorem lt_irr {a : Rc} (h : cmpR a a < 0) : False := by rw [cmR.refl] at h; omega
theorem lt_asy {a b : Rc} (h : cmpR a b < 0) (g : cmpR b a < 0) : False := lt_irr (cmR.trans _ _ _ h g)
theorem gt_of {a b : Rc} (h : ¬ cmpR a b < 0) (hne : a ≠ b) : cmpR b a < 0 := by
  have h1 := cmR.anti a b
  have h2 : cmpR a b ≠ 0 := fun e => hne (cmR.eq _ _ e)
  omega
theorem SS.ext : ∀ {xs ys : List Rc}, SS xs → SS ys → (∀ x, x ∈ xs ↔ x ∈ ys) → xs = ys
  | [], [], _, _, _ => rfl
  | [], y :: ys, _, _, h => by have := (h y).2 (List.mem_cons_self ..); cases this
  | x :: xs, [], _, _, h => by have := (h x).1 (List.mem_cons_self ..); cases this
  | x :: xs, y :: ys, hx, hy, h => by
    have hx' := List.pairwise_cons.1 hx
    have hy' := List.pairwise_cons.1 hy
    have hxy : x = y := by
      rcases List.mem_cons.1 ((h x).1 (List.mem_cons_self ..)) with e | e
      · exact e
      · rcases List.mem_cons.1 ((h y).2 (List.mem_cons_self ..)) with e' | e'
        · exact e'.symm
        · exact (lt_asy (hx'.1 y e') (hy'.1 x e)).elim
    subst hxy
    congr 1
    refine SS.ext hx'.2 hy'.2 fun z => ⟨fun hz => ?_, fun hz => ?_⟩
    · rcases List.mem_cons.1 ((h z).1 (List.mem_cons_of_mem _ hz)) with e | e
      · subst e; exact (lt_irr (hx'.1 z hz)).elim
      · exact e
    · rcases List.mem_cons.1 ((h z).2 (List.mem_cons_of_mem _ hz)) with e | e
      · subst e; exact (lt_irr (hy'.1 z hz)).elim
      · exact e
/-- what is put where it belongs -/
theorem SS.ins {xs : List Rc} {r : Rc} {k : Nat} (h : SS xs) (hlo : ∀ i x, xs[i]? = some x → i < k → cmpR x r < 0) (hhi : ∀ i x, xs[i]? = some x → k ≤ i → cmpR r x < 0) : SS (xs.take k ++ r :: xs.drop k) := by
  have hlo' : ∀ x ∈ xs.take k, cmpR x r < 0 := fun x hx => by
    obtain ⟨i, hi⟩ := List.getElem?_of_mem hx
    rw [List.getElem?_take] at hi
    split at hi
    · exact hlo i x hi ‹_›
    · cases hi
  have hhi' : ∀ x ∈ xs.drop k, cmpR r x < 0 := fun x hx => by
    obtain ⟨i, hi⟩ := List.getElem?_of_mem hx
    rw [List.getElem?_drop] at hi
    exact hhi _ x hi (by omega)
  have h' := h
  rw [← List.take_append_drop k xs] at h'
  obtain ⟨h1, h2, h3⟩ := List.pairwise_append.1 h'
  refine List.pairwise_append.2 ⟨h1, List.pairwise_cons.2 ⟨hhi', h2⟩, fun a ha b hb => ?_⟩
  rcases List.mem_cons.1 hb with rfl | hb
  · exact hlo' a ha
  · exact h3 a ha b hb
theorem SS.get {xs : List Rc} (h : SS xs) {i j : Nat} {x y : Rc} (hij : i < j) (hx : xs[i]? = some x) (hy : xs[j]? = some y) : cmpR x y < 0 := by
  have hi := lt_get hx
  have hj := lt_get hy
  have := List.pairwise_iff_getElem.1 h i j hi hj hij
  rw [List.getElem?_eq_getElem hi] at hx
  rw [List.getElem?_eq_getElem hj] at hy
  injection hx with hx; injection hy with hy
  rw [hx, hy] at this; exact this
theorem SS.mono {xs : List Rc} (h : SS xs) (r : Rc) : Mono xs r := fun i j x y hij hi hj hy => by
  rcases Nat.lt_or_ge i j with g | g
  · exact cmR.trans _ _ _ (h.get g hi hj) hy
  · obtain rfl : i = j := by omega
    rw [hi] at hj; injection hj with hj; subst hj; exact hy
theorem mem_split {xs : List Rc} {k : Nat} {r x : Rc} : x ∈ xs.take k ++ r :: xs.drop k ↔ x ∈ xs ∨ x = r := by
  rw [List.mem_append, List.mem_cons]
  constructor
  · rintro (h | h | h)
    · exact .inl (List.mem_of_mem_take h)
    · exact .inr h
    · exact .inl (List.mem_of_mem_drop h)
  · rintro (h | h)
    · rw [← List.take_append_drop k xs] at h
      rcases List.mem_append.1 h with h | h
      · exact .inl h
      · exact .inr (.inr h)
    · exact .inr (.inl h)
theorem insR_mem' {out : List Rc} {r x : Rc} : x ∈ insR out r ↔ x ∈ out ∨ x = r := by
  constructor
  · exact insR_mem
  · intro h
    unfold insR
    split
    · rename_i hh
      rcases h with h | h
      · exact h
      · rw [h]; exact List.mem_of_getElem? (hasR_iff.1 hh)
    · exact mem_split.2 h
theorem insR_SS {out : List Rc} {r : Rc} (h : SS out) : SS (insR out r) := by
  unfold insR
  split
  · exact h
  · rename_i hh
    refine h.ins (fun i x hi hlt => ?_) (fun i x hi hle => ?_)
    · have := tw_lt (r := r) (out := out) hlt hi
      rwa [ltR, decide_eq_true_eq] at this
    · have hat : ∀ y, out[atR out r]? = some y → cmpR r y < 0 := fun y hy => by
        have h1 := tw_at (p := ltR r) hy
        rw [ltR, decide_eq_false_iff_not] at h1
        refine gt_of h1 fun e => hh (hasR_iff.2 (by rw [hy, e]))
      rcases Nat.lt_or_ge (atR out r) i with g | g
      · obtain ⟨y, hy⟩ := get_lt (xs := out) (k := atR out r) (by have := lt_get hi; omega)
        exact cmR.trans _ _ _ (hat y hy) (h.get g hy hi)
      · obtain rfl : i = atR out r := by omega
        exact hat x hi
theorem foldl_SS : ∀ (rs out : List Rc), SS out → SS (rs.foldl insR out)
  | [], out, h => h
  | r :: rs, out, h => foldl_SS rs _ (insR_SS h)
theorem foldl_mem' : ∀ (rs out : List Rc) (x : Rc), x ∈ rs.foldl insR out ↔ x ∈ out ∨ x ∈ rs
  | [], out, x => by simp
  | r :: rs, out, x => by
    rw [List.foldl_cons, foldl_mem' rs, insR_mem', List.mem_cons]
    constructor
    · rintro ((h | h) | h)
      · exact .inl h
      · exact .inr (.inl h)
      · exact .inr (.inr h)
    · rintro (h | h | h)
      · exact .inl (.inl h)
      · exact .inl (.inr h)
      · exact .inr h
theorem sortR_SS (rs : List Rc) : SS (sortR rs) := foldl_SS rs [] List.Pairwise.nil
theorem mem_sortR {rs : List Rc} {x : Rc} : x ∈ sortR rs ↔ x ∈ rs := by
  rw [sortR, foldl_mem']; simp
/-- what an insertion makes -/
theorem ins_SS {zs : List Rc} {r : Rc} {k : Nat} (h : SS zs) (hb : Below zs r k) (hn : zs[k]? ≠ some r) : SS (zs.take k ++ r :: zs.drop k) := by
  refine h.ins (fun i x hi hlt => (hb.2 i x hi).1 hlt) (fun i x hi hle => ?_)
  have h1 : ¬ cmpR x r < 0 := fun e => by have := (hb.2 i x hi).2 e; omega
  refine gt_of h1 fun e => ?_
  subst e
  rcases Nat.lt_or_ge k i with g | g
  · obtain ⟨y, hy⟩ := get_lt (xs := zs) (k := k) (by have := lt_get hi; omega)
    have h2 := h.get g hy hi
    have := (hb.2 k y hy).2 h2; omega
  · obtain rfl : i = k := by omega
    exact hn hi
theorem mem_at {zs : List Rc} {r : Rc} {k : Nat} (h : SS zs) (hb : Below zs r k) : r ∈ zs ↔ zs[k]? = some r := by
  constructor
  · intro hm
    obtain ⟨i, hi⟩ := List.getElem?_of_mem hm
    have h1 : ¬ i < k := fun e => lt_irr ((hb.2 i r hi).1 e)
    rcases Nat.lt_or_ge k i with g | g
    · obtain ⟨y, hy⟩ := get_lt (xs := zs) (k := k) (by have := lt_get hi; omega)
      have := (hb.2 k y hy).2 (h.get g hy hi); omega
    · obtain rfl : i = k := by omega
      exact hi
  · exact fun e => List.mem_of_getElem? e
/-- what a deletion makes -/
def recB (x r : Rc) : Bool := ((x.1 : ByteArray) == (r.1 : ByteArray)) && (((x.2.1 : Int) == (r.2.1 : Int)) && (((x.2.2.1 : Int) == (r.2.2.1 : Int)) && (((x.2.2.2 : ByteArray) == (r.2.2.2 : ByteArray)) && true)))
theorem recB_iff {a b : Rc} : recB a b = true ↔ a = b := recEq
theorem recB_false {a b : Rc} : recB a b = false ↔ a ≠ b := by rw [← Bool.not_eq_true, recB_iff]
def without (xs : List Rc) (r : Rc) : List Rc := xs.filter fun x => !recB x r
theorem mem_without {xs : List Rc} {r x : Rc} : x ∈ without xs r ↔ x ∈ xs ∧ x ≠ r := by
  unfold without
  rw [List.mem_filter, Bool.not_eq_true', recB_false]
theorem SS.without {xs : List Rc} (h : SS xs) (r : Rc) : SS (without xs r) := h.sublist List.filter_sublist
theorem del_eq {zs : List Rc} {r : Rc} {k : Nat} (h : SS zs) (hk : zs[k]? = some r) : zs.take k ++ zs.drop (k + 1) = without zs r := by
  have hlt := lt_get hk
  have hd : zs.drop k = r :: zs.drop (k + 1) := by
    rw [List.drop_eq_getElem_cons hlt]
    rw [List.getElem?_eq_getElem hlt] at hk
    injection hk with hk; rw [hk]
  have hz : zs = zs.take k ++ r :: zs.drop (k + 1) := by rw [← hd, List.take_append_drop]
  have h' := h
  rw [hz] at h'
  obtain ⟨h1, h2, h3⟩ := List.pairwise_append.1 h'
  have h4 := List.pairwise_cons.1 h2
  refine SS.ext (List.pairwise_append.2 ⟨h1, h4.2, fun a ha b hb => h3 a ha b (List.mem_cons_of_mem _ hb)⟩) (h.without r) fun x => ?_
  rw [mem_without, List.mem_append]
  constructor
  · rintro (hx | hx)
    · exact ⟨List.mem_of_mem_take hx, fun e => by subst e; exact lt_irr (h3 x hx x (List.mem_cons_self ..))⟩
    · exact ⟨List.mem_of_mem_drop hx, fun e => by subst e; exact lt_irr (h4.1 x hx)⟩
  · rintro ⟨hx, hne⟩
    rw [hz] at hx
    rcases List.mem_append.1 hx with hx | hx
    · exact .inl hx
    · rcases List.mem_cons.1 hx with hx | hx
      · exact absurd hx hne
      · exact .inr hx
end Go.Proofs.YthlkeokfmedjhaaGreat
/- Numbers of four bytes; an SOA's data, and an SOA, by numbers; names put together. -/
namespace Go.Proofs.YthlkeokfmedjhaaGreat
open Go.Px
set_option linter.unusedVariables false

theorem flatLen {α β : Type} {f : α → List β} {n : Nat} (h : ∀ x, (f x).length = n) : ∀ xs : List α, (xs.flatMap f).length = xs.length * n
  | [] => by simp
  | x :: xs => by rw [List.flatMap_cons, List.length_append, flatLen h xs, h, List.length_cons, Nat.succ_mul, Nat.add_comm]
def u8w (v : Int) : UInt8 := UInt8.ofNat (IntKind.wrap .u8 v).toNat
theorem u8w_v (v : Int) : ((u8w v).toNat : Int) = IntKind.wrap .u8 v := by
  have h : 0 ≤ IntKind.wrap .u8 v ∧ IntKind.wrap .u8 v < 256 := by rw [wrap_u8_eq]; omega
  unfold u8w
  rw [ofNatU (by omega)]; omega
def put1 (n : Int) : List UInt8 := [u8w (n.fdiv (2 ^ (min (24 : Int).toNat (IntKind.bits .u32)))), u8w (n.fdiv (2 ^ (min (16 : Int).toNat (IntKind.bits .u32)))), u8w (n.fdiv (2 ^ (min (8 : Int).toNat (IntKind.bits .u32)))), u8w n]
def elU32 (x : Int) : List Value := [.int .u32 x]
theorem put1_v (n : Int) : (#[.int .u8 (IntKind.wrap .u8 (n.fdiv (2 ^ (min (24 : Int).toNat (IntKind.bits .u32))))), .int .u8 (IntKind.wrap .u8 (n.fdiv (2 ^ (min (16 : Int).toNat (IntKind.bits .u32))))), .int .u8 (IntKind.wrap .u8 (n.fdiv (2 ^ (min (8 : Int).toNat (IntKind.bits .u32))))), .int .u8 (IntKind.wrap .u8 n)] : Array Value) = ((put1 n).flatMap elB).toArray := by
  simp only [put1, List.flatMap_cons, List.flatMap_nil, elB, u8w_v]; rfl
theorem Put32_runs {ns : List Int} {a : Option Addr} {c : Nat} {I : IMem} {S : SH} (hx : RowIn I S a ns.length 1 elU32 ns) (hl : ns.length ≤ 1000) :
    Runs Tryz.prog 45 #[.slice none 0 0, .slice a ns.length c] I S fun v _ T => ∃ own, OwnR 5 1 elB v (ns.flatMap put1) own ∧ Sub (own ++ S) T := by
  have plen : ∀ n, (put1 n).length = 4 := fun _ => rfl
  have flen : ∀ k, ((ns.take k).flatMap put1).length = (ns.take k).length * 4 := fun k => flatLen plen _
  refine num_Put32_fn _ _ _ _ _ _ _ _ _ ?_
  unfold num_Put32 num_Put32_b1 num_Put32_b2
  refine AppG.own (xs := ([] : List UInt8)) (ys := []) (el := elB) (own := []) (F := S) elB_len elB_one rfl (List.Perm.refl _) OwnR.nil ⟨Rd.none, rfl⟩ (by simp [maxLen]) (by simp) ?_
  intro p n c0 own0 ho0
  rw [List.append_nil] at ho0
  refine ⟨fun m o on oc x xn xc q i J T => x = a ∧ xn = ns.length ∧ q = (ns.length : Int) ∧ I.le J ∧ ∃ (k : Nat) (own : SH), i = (k : Int) ∧ k ≤ ns.length ∧ m = ns.length - k ∧ OwnR 5 1 elB (.slice o on oc) ((ns.take k).flatMap put1) own ∧ Sub (own ++ S) T,
    ns.length, ⟨rfl, rfl, rfl, IMem.le.refl I, 0, own0, rfl, Nat.zero_le _, rfl, ho0, Sub.refl _⟩, ?_⟩
  rintro m o on oc x xn xc q i J T - ⟨rfl, rfl, rfl, hle, k, own, rfl, hk, rfl, ho, hs⟩
  unfold num_Put32_l3 num_Put32_b4
  refine bcase_dec (fun h => ?_) (fun h => ?_)
  · obtain ⟨n, hn⟩ := get_lt (xs := ns) (k := k) (by omega)
    obtain ⟨a', rfl, hc⟩ := ((hx.sub hs.right).le hle).cell hn
    have h0 := hc 0 _ rfl
    have e0 : (a'.add (k * 1)).add 0 = a'.add (k * 1) := by simp [Addr.add]
    rw [e0] at h0
    refine ⟨by omega, by omega, n, h0, fun b28 => ?_⟩
    rw [put1_v]
    obtain ⟨G, hG⟩ := hs
    have hf := flen k
    rw [List.length_take] at hf
    refine AppG.own (xs := (ns.take k).flatMap put1) (ys := put1 n) (el := elB) (own := own) (F := (b28, .cells ((put1 n).flatMap elB).toArray 5 (0, 0)) :: (S ++ G)) elB_len elB_one rfl ?_ ho ⟨?_, flatMap_one elB_one _⟩ ?_ ?_ ?_
    · exact (hG.cons _).trans (by rw [List.append_assoc]; exact perm_mid1)
    · exact Rd.list rfl (by rw [flatMap_len elB_len, plen]; omega)
    · rw [hf, plen]; simp only [maxLen]; omega
    · rw [hf, plen]; omega
    · intro p2 n2 d2 own2 ho2
      refine ⟨ns.length - (k + 1), by omega, rfl, rfl, rfl, hle, k + 1, own2, ?_, by omega, rfl, ?_, ?_⟩
      · rw [wrap_i64 (by omega) (by omega)]; rfl
      · rw [take_snoc hn, List.flatMap_append]; simpa using ho2
      · exact ⟨(b28, _) :: G, by rw [List.append_assoc]; exact List.Perm.append_left own2 perm_mid1⟩
  · have : k = ns.length := by omega
    subst this
    rw [List.take_length] at ho
    exact ⟨own, ho, hs⟩

theorem BytesAt.sub {I : IMem} {S T : SH} {p : Option Addr} {n : Nat} {s : ByteArray} (hs : Sub S T) (h : BytesAt I S p n s) : BytesAt I T p n s := by
  cases p with
  | none => exact h
  | some a => exact ⟨h.1, fun i c hc => (h.2 i c hc).mono (hs.keep (IMem.le.refl I))⟩
theorem OwnR.bytes {e : TypeId} {I : IMem} {a : Option Addr} {n c : Nat} {l : List UInt8} {own : SH} (h : OwnR e 1 elB (.slice a n c) l own) : BytesAt I own a n ⟨l.toArray⟩ := by
  rcases h with ⟨hv, rfl, rfl⟩ | ⟨g, cap, rest, hv, rfl, _⟩
  · injection hv with h1 h2 h3
    subst h1; subst h2
    rfl
  · injection hv with h1 h2 h3
    subst h1; subst h2
    rw [flat_elB]
    exact BytesAt.list rfl

def putB (ns : List Int) : ByteArray := ⟨(ns.flatMap put1).toArray⟩
theorem putB_size (ns : List Int) : (putB ns).size = ns.length * 4 := by
  show (ns.flatMap put1).toArray.size = _
  rw [List.size_toArray]; exact flatLen (f := put1) (n := 4) (fun _ => rfl) _
def mkD (x : ByteArray) (n r t e : Int) : ByteArray := x ++ d0 ++ x ++ d0 ++ putB [n, IntKind.wrap .u32 r, IntKind.wrap .u32 t, IntKind.wrap .u32 e, 1]
theorem SMake_runs {xs : List Int} {a : Option Addr} {c : Nat} {n r t e : Int} {I : IMem} {S : SH} (hx : RowIn I S a xs.length 1 elI8 xs) (hl : xs.length ≤ 9223372036854775807) (hp : ∀ x ∈ xs, 0 ≤ x) :
    Runs Tryz.prog 29 #[.slice a xs.length c, .int .u32 n, .int .u8 r, .int .u8 t, .int .u8 e] I S fun v _ T => v = .string (mkD (nameW xs) n r t e) ∧ T = S := by
  refine Runs.drop (bolterlaw07_Make_fn _ _ _ _ _ _ _ _ _ _ ?_)
  unfold bolterlaw07_Make
  refine (Name_runs hx hl hp).mono ?_
  rintro v J T hle ⟨rfl, rfl⟩
  have hn := nameW_size xs
  generalize nameW xs = x at hn
  have z4 : (⟨#[0]⟩ : ByteArray).size = 1 := rfl
  simp only [app_size, z4]
  refine ⟨_, rfl, by omega, by omega, by omega, fun b26 => ?_⟩
  have hrow : RowIn J ((b26, Obj.cells #[.int .u32 n, .int .u32 (IntKind.wrap .u32 r), .int .u32 (IntKind.wrap .u32 t), .int .u32 (IntKind.wrap .u32 e), .int .u32 1] 30 (0, 0)) :: T) (some ⟨b26, 0, none⟩) 5 1 elU32 [n, IntKind.wrap .u32 r, IntKind.wrap .u32 t, IntKind.wrap .u32 e, 1] := by
    have ho : OwnR 30 1 elU32 (.slice (some ⟨b26, 0, none⟩) 5 5) [n, IntKind.wrap .u32 r, IntKind.wrap .u32 t, IntKind.wrap .u32 e, 1] [(b26, Obj.cells #[.int .u32 n, .int .u32 (IntKind.wrap .u32 r), .int .u32 (IntKind.wrap .u32 t), .int .u32 (IntKind.wrap .u32 e), .int .u32 1] 30 (0, 0))] :=
      .inr ⟨b26, 5, [], rfl, rfl, rfl, by simp [maxLen]⟩
    exact (OwnR.row (el := elU32) (sz := 1) (fun _ => rfl) ho).sub ⟨T, List.Perm.refl _⟩
  refine (Put32_runs (ns := [n, IntKind.wrap .u32 r, IntKind.wrap .u32 t, IntKind.wrap .u32 e, 1]) hrow (by simp)).mono ?_
  rintro v J' T' hle' ⟨own, ho, hs⟩
  obtain ⟨p, d, rfl⟩ := ho.slice
  have hb := OwnR.bytes (I := J') ho
  refine ⟨_, _, _, rfl, putB [n, IntKind.wrap .u32 r, IntKind.wrap .u32 t, IntKind.wrap .u32 e, 1], BytesAt.sub hs.left hb, ?_, T, hs.right.drop, rfl, rfl⟩
  rw [putB_size]
  simp only [List.length_cons, List.length_nil]; omega
def soaD (n : Int) : ByteArray := mkD (nameW []) n 10 3 40
def soaR (o : ByteArray) (n : Int) : Rc := (o, 6, 9, soaD n)
theorem SoaAt_runs (o : ByteArray) (n : Int) (I : IMem) (S : SH) : Runs Tryz.prog 11 #[.string o, .int .u32 n] I S fun v _ T => v = vR (soaR o n) ∧ T = S := by
  refine Runs.drop (bolterlaw09_Soa_fn _ _ _ _ _ ?_)
  unfold bolterlaw09_Soa
  intro b4
  refine (SMake_runs (xs := []) ⟨rfl, fun i x h => by simp at h⟩ (by simp) (fun x h => by cases h)).mono ?_
  rintro v J T hle ⟨rfl, rfl⟩
  refine ⟨_, rfl, StP.rec (x := soaR o n) ?_⟩
  exact ⟨_, Cell.at0 rfl, _, Cell.at0 rfl, _, Cell.at0 rfl, _, Cell.at0 rfl, S, (Sub.refl S).skip _, rfl, rfl⟩
def joinN (n o : ByteArray) : ByteArray × Bool := if (labN n).isSome && ((labN o).isSome && decide (n.size + o.size ≤ 254)) then (n ++ o, true) else (⟨#[]⟩, false)
theorem Join_runs (n o : ByteArray) (h1 : n.size ≤ 140737488355328) (h2 : o.size ≤ 140737488355328) (I : IMem) (S : SH) : Runs Tryz.prog 53 #[.string n, .string o] I S fun v _ T => v = .tuple #[.string (joinN n o).1, .bool (joinN n o).2] ∧ T = S := by
  refine name_Join_fn _ _ _ _ _ ?_
  unfold name_Join name_Join_b1 name_Join_b2 name_Join_b3
  refine (May_runs n I S).mono ?_
  rintro v J T hle ⟨rfl, rfl⟩
  refine ⟨_, rfl, bcase_not (bcase_of (fun g1 => ?_) (fun g1 => ?_))⟩
  · refine (May_runs o J T).mono ?_
    rintro v J' T' hle' ⟨rfl, rfl⟩
    refine ⟨_, rfl, bcase_not (bcase_of (fun g2 => ?_) (fun g2 => ?_))⟩
    · rw [wrap_i64 (by omega) (by omega)]
      refine bcase_dec (fun g3 => ⟨?_, rfl⟩) (fun g3 => ⟨by omega, ?_, rfl⟩)
      · rw [joinN, g1, g2, decide_eq_false (by omega)]; rfl
      · rw [joinN, g1, g2, decide_eq_true (by omega)]; rfl
    · refine bcase_t rfl ⟨?_, rfl⟩
      rw [joinN, g1, g2]; rfl
  · refine bcase_t rfl ⟨?_, rfl⟩
    rw [joinN, g1]; rfl
def origN (n : Int) : ByteArray := nameW [n.tmod 6]
theorem Origin_runs (n : Int) (h : 0 ≤ n) (I : IMem) (S : SH) : Runs Tryz.prog 8 #[.int .u8 n] I S fun v _ T => v = .string (origN n) ∧ T = S := by
  refine Runs.drop (bolterlaw09_Origin_fn _ _ _ _ ?_)
  unfold bolterlaw09_Origin
  intro b5
  have ho : OwnR 5 1 elI8 (.slice (some ⟨b5, 0, none⟩) 1 1) [n.tmod 6] [(b5, Obj.cells #[.int .u8 (n.tmod 6)] 5 (0, 0))] := .inr ⟨b5, 1, [], rfl, rfl, rfl, by simp [maxLen]⟩
  refine (Name_runs (xs := [n.tmod 6]) ((OwnR.row (el := elI8) (sz := 1) (fun _ => rfl) ho).sub ⟨S, List.Perm.refl _⟩) (by simp) ?_).mono ?_
  · intro x hx
    rw [List.mem_singleton.1 hx]
    exact Int.tmod_nonneg _ h
  · rintro v J T hle ⟨rfl, rfl⟩
    exact ⟨_, rfl, S, (Sub.refl S).skip _, rfl, rfl⟩
end Go.Proofs.YthlkeokfmedjhaaGreat
/- Records below a name, and zones, by numbers. -/
namespace Go.Px
theorem Sub.of_right {A L M T : SH} (h : Sub (A ++ M) T) (g : Sub L M) : Sub (A ++ L) T := by
  obtain ⟨G, hG⟩ := g
  refine Sub.trans ⟨G, ?_⟩ h
  rw [List.append_assoc]
  exact List.Perm.append_left A hG
theorem Sub.mid {A B : SH} {x : Nat × Obj} : Sub (A ++ B) (A ++ x :: B) := (Sub.refl (A ++ x :: B)).of_right ((Sub.refl B).skip x)
theorem AppG.use {α : Type} {el : α → List Value} {sz : Nat} (he : ∀ x, (el x).length = sz) (ho : ∀ x, (el x).all Go.Px.one = true) {e : TypeId} {bytes : Nat} {z : List Value} {td : Option TypeDesc} {I : IMem} {S own F : SH} {v x : Value} {xs ys : List α} {K : Option Addr → Nat → Nat → SH → Prop}
    (hz : z.length = sz) (hs : Sub (own ++ F) S) (hv : OwnR e sz el v xs own) (hx : SrcP td sz z I S x ys.length (ys.flatMap el)) (hm : xs.length + ys.length ≤ maxLen) (hb : (xs.length + ys.length) * bytes ≤ 140737488355328)
    (hK : ∀ p n c own' T, OwnR e sz el (.slice p n c) (xs ++ ys) own' → Sub (own' ++ F) T → K p n c T) : AppG e sz bytes z td I S v x K := by
  obtain ⟨G, hG⟩ := hs
  exact AppG.own he ho hz (by rw [List.append_assoc] at hG; exact hG) hv hx hm hb fun p n c own' h => hK p n c own' _ h ⟨G, by rw [List.append_assoc]⟩
end Go.Px
namespace Go.Proofs.YthlkeokfmedjhaaGreat
open Go.Px
set_option linter.unusedVariables false

/-- a record is appended -/
theorem AppZ {xs : List Rc} {r : Rc} {b : Nat} {v : Value} {S F own : SH} {I : IMem} {K : Option Addr → Nat → Nat → SH → Prop} (hs : Sub (own ++ F) S) (hv : OwnZ v xs own) (hl : xs.length ≤ 1000000000)
    (hK : ∀ p n c own' T, OwnZ (.slice p n c) (xs ++ [r]) own' → Sub (own' ++ F) T → K p n c T) :
    AppG 32 4 40 zR (some (.slice 32)) I ((b, .cells #[.string r.1, .int .u16 r.2.1, .int .u32 r.2.2.1, .string r.2.2.2] 32 (0, 0)) :: S) v (.slice (some ⟨b, 0, none⟩) 1 1) K :=
  AppG.use (xs := xs) (ys := [r]) (el := encR) encR_len encR_one rfl (hs.skip _) hv ⟨Rd.list (L := encR r) rfl (by simp [encR_len]), rfl⟩ (by simp only [List.length_singleton, maxLen]; omega) (by simp only [List.length_singleton]; omega) hK
theorem StP.rec4 {S : SH} {b : Nat} {x : Rc} {cs : List Value} {K : SH → Prop} (hc : cs.length = 4) (h : K ((b, .cells (encR x).toArray 32 (0, 0)) :: S)) :
    StP ((b, .cells cs.toArray 32 (0, 0)) :: S) ⟨b, 0, none⟩ [.string x.1, .int .u16 x.2.1, .int .u32 x.2.2.1, .string x.2.2.2] K := by
  refine StP.list (by rw [hc]; exact Nat.le_refl 4) rfl ?_
  rw [List.take_zero, List.drop_of_length_le (by rw [hc]; exact Nat.le_refl 4), List.append_nil, List.nil_append]
  exact h
def txR (o : ByteArray) (t : Int) : Rc := (o, 16, t, ⟨#[1, 120]⟩)
def joinR (o n : ByteArray) : ByteArray := if (joinN n o).2 then (joinN n o).1 else o
def underR (soas : Bool) (o : ByteArray) (r : Rc) : Rc :=
  if r.2.1 = 6 then (if soas then soaR o (r.2.2.1.tmod 6) else txR o r.2.2.1) else (joinR o r.1, r.2.1, r.2.2.1, r.2.2.2)
/-- acts, and the records of their numbers -/
structure Recs (I : IMem) (S : SH) (xs : List Ac) (rs : List Rc) : Prop where
  len : rs.length = xs.length
  ok : ∀ (i : Nat) (x : Ac), xs[i]? = some x → ∃ nm dt, Slb I S x.1 nm ∧ Slb I S x.2.2.2.1 dt ∧ x.2.2.2.2.size ≤ 9223372036854775807 ∧ rs[i]? = some (recF nm dt x)
theorem Recs.keep {I J : IMem} {S T : SH} {xs : List Ac} {rs : List Rc} (hk : Keep I S J T) (h : Recs I S xs rs) : Recs J T xs rs :=
  ⟨h.len, fun i x hx => let ⟨nm, dt, h1, h2, h3, h4⟩ := h.ok i x hx; ⟨nm, dt, h1.keep hk, h2.keep hk, h3, h4⟩⟩
theorem recs_of {I : IMem} {S : SH} : ∀ {xs : List Ac}, (∀ x ∈ xs, AcOK I S x) → ∃ rs, Recs I S xs rs
  | [], _ => ⟨[], rfl, fun i x h => by simp at h⟩
  | x :: xs, h => by
    obtain ⟨rs, h1, h2⟩ := recs_of fun y hy => h y (List.mem_cons_of_mem _ hy)
    obtain ⟨⟨nm, hn⟩, ⟨dt, hd⟩, ht⟩ := h x (List.mem_cons_self ..)
    refine ⟨recF nm dt x :: rs, by simp [h1], fun i y hy => ?_⟩
    cases i with
    | zero =>
      simp only [List.getElem?_cons_zero, Option.some.injEq] at hy
      subst hy
      exact ⟨nm, dt, hn, hd, ht, rfl⟩
    | succ i =>
      simp only [List.getElem?_cons_succ] at hy ⊢
      exact h2 i y hy
/-- a record by numbers -/
def NumR (r : Rc) : Prop := ∃ nm dt x, r = recF nm dt x
theorem Recs.num {I : IMem} {S : SH} {xs : List Ac} {rs : List Rc} (h : Recs I S xs rs) : ∀ r ∈ rs, NumR r := fun r hr => by
  obtain ⟨i, hi⟩ := List.getElem?_of_mem hr
  obtain ⟨x, hx⟩ := get_lt (xs := xs) (k := i) (by rw [← h.len]; exact lt_get hi)
  obtain ⟨nm, dt, _, _, _, h4⟩ := h.ok i x hx
  rw [hi] at h4; injection h4 with h4
  exact ⟨nm, dt, x, h4⟩

theorem Under_runs {xs : List Ac} {rs : List Rc} {a : Option Addr} {c most : Nat} {o : ByteArray} {soas : Bool} {I : IMem} {S : SH} (hx : RowIn I S a xs.length 5 encA xs) (hl : xs.length ≤ 9223372036854775807) (hm : most ≤ 1000000) (hr : Recs I S xs rs) (ho : o.size ≤ 140737488355328) :
    Runs Tryz.prog 36 #[.string o, .slice a xs.length c, .int .i64 (most : Int), .bool soas] I S fun v _ T => ∃ own, OwnZ v ((rs.take most).map (underR soas o)) own ∧ Sub (own ++ S) T := by
  refine bolterlaw09_Under_fn _ _ _ _ _ _ _ _ _ ?_
  unfold bolterlaw09_Under bolterlaw09_Under_b1 bolterlaw09_Under_b2
  refine ⟨fun m o' ms so q0 qn qc x xn xc q i J T => o' = o ∧ ms = (most : Int) ∧ so = soas ∧ x = a ∧ xn = xs.length ∧ q = (xs.length : Int) ∧ I.le J ∧ ∃ (k : Nat) (own : SH), i = (k : Int) ∧ k ≤ xs.length ∧ k ≤ most ∧ m = xs.length - k ∧ OwnZ (.slice q0 qn qc) ((rs.take k).map (underR soas o)) own ∧ Sub (own ++ S) T,
    xs.length, ⟨rfl, rfl, rfl, rfl, rfl, rfl, IMem.le.refl I, 0, [], rfl, Nat.zero_le _, Nat.zero_le _, rfl, OwnR.nil, Sub.refl _⟩, ?_⟩
  rintro m o' ms so q0 qn qc x xn xc q i J T - ⟨rfl, rfl, rfl, rfl, rfl, rfl, hle, k, own, rfl, hk, hkm, rfl, hown, hs⟩
  unfold bolterlaw09_Under_l3 bolterlaw09_Under_b4 bolterlaw09_Under_b5
  refine bcase_dec (fun h => ?_) (fun h => ?_)
  · obtain ⟨y, hy⟩ := get_lt (xs := xs) (k := k) (by omega)
    obtain ⟨nm, dt, hnm, hdt, htx, hrk⟩ := hr.ok k y hy
    have hkeep : Keep I S J T := hs.right.keep hle
    obtain ⟨a', rfl, hc⟩ := (hx.keep hkeep).cell hy
    obtain ⟨c0, c1, c2, c3, c4⟩ := CellsA hc
    refine ⟨by omega, by omega, _, _, _, c0, _, c1, _, c2, _, _, _, c3, _, c4, fun b11 => ?_⟩
    refine StP.at0 (o := 0) (vs := encA y) (Nat.le_refl 5) rfl ?_
    refine bcase_beq (fun h1 => ?_) (fun h1 => ?_)
    · have : k = most := by omega
      subst this
      exact ⟨own, hown, hs.skip _⟩
    · have hkeep7 : Keep I S J ((b11, Obj.cells (encA y).toArray 107 (0, 0)) :: T) := (hs.right.skip _).keep hle
      refine ⟨_, _, _, Cell.at0 rfl, _, Cell.at0 rfl, _, Cell.at0 rfl, _, _, _, Cell.at0 rfl, _, Cell.at0 rfl, (Record_runs (hnm.keep hkeep7) (hdt.keep hkeep7) htx).mono ?_⟩
      rintro v J1 T1 hle1 ⟨rfl, rfl⟩
      have hsm := recF_small nm dt y
      have httl : (recF nm dt y).2.2.1 = y.2.2.1 := rfl
      generalize recF nm dt y = r at hrk hsm httl
      refine ⟨_, _, _, _, rfl, fun b12 => StP.rec ⟨_, Cell.at0 rfl, (Join_runs r.1 o' (by have := hsm.nm; omega) ho _ _).mono ?_⟩⟩
      rintro v J2 T2 hle2 ⟨rfl, rfl⟩
      have hle02 := hle.trans (hle1.trans hle2)
      -- what is appended, however it came
      have last : ∀ (r' : Rc) (J3 : IMem), J2.le J3 → r' = underR so o' r → bolterlaw09_Under_b7 (fun origin_0 most_2 soas_3 out_9 out_9n out_9c x15 x15n x15c x16 x17 I_1 S_1 => ∃ m', m' < xs.length - k ∧ (origin_0 = o' ∧ most_2 = (most : Int) ∧ soas_3 = so ∧ x15 = some a' ∧ x15n = xs.length ∧ x16 = (xs.length : Int) ∧ I.le I_1 ∧ ∃ (k : Nat) (own : SH), x17 = (k : Int) ∧ k ≤ xs.length ∧ k ≤ most ∧ m' = xs.length - k ∧ OwnZ (.slice out_9 out_9n out_9c) ((rs.take k).map (underR so o')) own ∧ Sub (own ++ S) S_1))
          (fun v _ T => ∃ own, OwnZ v ((rs.take most).map (underR so o')) own ∧ Sub (own ++ S) T) o' (most : Int) so q0 qn qc ⟨b12, 0, none⟩ (some a') xs.length xc (xs.length : Int) (k : Int) J3 ((b12, Obj.cells (encR r').toArray 32 (0, 0)) :: (b11, Obj.cells (encA y).toArray 107 (0, 0)) :: T) := by
        intro r' J3 hle3 hr'
        unfold bolterlaw09_Under_b7 bolterlaw09_Under_b8
        refine ⟨_, Cell.at0 rfl, _, Cell.at0 rfl, _, Cell.at0 rfl, _, Cell.at0 rfl, fun b55 => ?_⟩
        have hlen : ((rs.take k).map (underR so o')).length ≤ k := by rw [List.length_map, List.length_take]; omega
        refine AppZ (r := r') (F := S) ((hs.skip _).skip _) hown (by omega) ?_
        intro p n d own2 T2 ho2 hs2
        refine ⟨xs.length - (k + 1), by omega, rfl, rfl, rfl, rfl, rfl, rfl, hle02.trans hle3, k + 1, own2, ?_, by omega, by omega, rfl, ?_, hs2⟩
        · rw [wrap_i64 (by omega) (by omega)]; rfl
        · rw [take_snoc hrk, List.map_append]
          show OwnZ _ (_ ++ [underR so o' r]) _
          rw [← hr']; exact ho2
      have mid : ∀ (n' : ByteArray), n' = joinR o' r.1 → bolterlaw09_Under_b6 (fun origin_0 most_2 soas_3 out_9 out_9n out_9c x15 x15n x15c x16 x17 I_1 S_1 => ∃ m', m' < xs.length - k ∧ (origin_0 = o' ∧ most_2 = (most : Int) ∧ soas_3 = so ∧ x15 = some a' ∧ x15n = xs.length ∧ x16 = (xs.length : Int) ∧ I.le I_1 ∧ ∃ (k : Nat) (own : SH), x17 = (k : Int) ∧ k ≤ xs.length ∧ k ≤ most ∧ m' = xs.length - k ∧ OwnZ (.slice out_9 out_9n out_9c) ((rs.take k).map (underR so o')) own ∧ Sub (own ++ S) S_1))
          (fun v _ T => ∃ own, OwnZ v ((rs.take most).map (underR so o')) own ∧ Sub (own ++ S) T) o' (most : Int) so q0 qn qc ⟨b11, 0, none⟩ ⟨b12, 0, none⟩ n' (some a') xs.length xc (xs.length : Int) (k : Int) J2 ((b12, Obj.cells (encR r).toArray 32 (0, 0)) :: (b11, Obj.cells (encA y).toArray 107 (0, 0)) :: T) := by
        intro n' hn'
        unfold bolterlaw09_Under_b6
        refine StP.list (L := encR r) (vs := [.string n']) (show 0 + 1 ≤ 4 by omega) rfl ?_
        refine ⟨r.2.1, Cell.at0 rfl, bcase_beq (fun h6 => ?_) (fun h6 => ?_)⟩
        · refine ⟨y.2.2.1, Cell.tl (Cell.at0 rfl), (SoaAt_runs _ _ _ _).mono ?_⟩
          rintro v J3 T3 hle3 ⟨rfl, rfl⟩
          refine ⟨_, _, _, _, rfl, ?_⟩
          refine StP.rec4 (x := soaR o' (y.2.2.1.tmod 6)) rfl ?_
          refine bcase_not (bcase_of (fun hso => ?_) (fun hso => ?_))
          · refine last (soaR o' (y.2.2.1.tmod 6)) J3 hle3 ?_
            rw [underR, if_pos h6, hso, httl, if_pos rfl]
          · refine ⟨y.2.2.1, Cell.tl (Cell.at0 rfl), ?_⟩
            refine StP.rec4 (x := txR o' y.2.2.1) rfl ?_
            refine last (txR o' y.2.2.1) J3 hle3 ?_
            rw [underR, if_pos h6, hso, httl, if_neg Bool.false_ne_true]
        · refine last (n', r.2.1, r.2.2.1, r.2.2.2) J2 (IMem.le.refl _) ?_
          rw [underR, if_neg h6, hn']
      refine ⟨_, _, rfl, bcase_not (bcase_of (fun hj => mid _ ?_) (fun hj => mid _ ?_))⟩
      · rw [joinR, hj]; rfl
      · rw [joinR, hj]; rfl
  · have : rs.take most = rs.take k := by
      have := hr.len
      rw [List.take_of_length_le (by omega), List.take_of_length_le (by omega)]
    rw [this]
    exact ⟨own, hown, hs⟩
/-- a zone by numbers -/
def zoneF (o : ByteArray) (n : Int) (rs : List Rc) (most : Nat) : List Rc := sortR ((rs.take most).map (underR false o) ++ [soaR o n])
theorem Zone_runs {xs : List Ac} {rs : List Rc} {a : Option Addr} {c most : Nat} {o : ByteArray} {n : Int} {I : IMem} {S : SH} (hx : RowIn I S a xs.length 5 encA xs) (hl : xs.length ≤ 9223372036854775807) (hm : most ≤ 100000) (hr : Recs I S xs rs) (ho : o.size ≤ 140737488355328) :
    Runs Tryz.prog 14 #[.string o, .int .u32 n, .slice a xs.length c, .int .i64 (most : Int)] I S fun v _ T => ∃ own, OwnZ v (zoneF o n rs most) own ∧ Sub (own ++ S) T := by
  refine bolterlaw10_Zone_fn _ _ _ _ _ _ _ _ _ ?_
  unfold bolterlaw10_Zone
  refine (Under_runs hx hl (by omega) hr ho).mono ?_
  rintro v J T hle ⟨own, how, hs⟩
  obtain ⟨p, d, rfl⟩ := how.slice
  have hul : ((rs.take most).map (underR false o)).length ≤ most := by rw [List.length_map, List.length_take]; omega
  generalize hus : (rs.take most).map (underR false o) = us at how hul
  refine ⟨_, _, _, rfl, (SoaAt_runs o n J T).mono ?_⟩
  rintro v J1 T1 hle1 ⟨rfl, rfl⟩
  refine ⟨_, _, _, _, rfl, fun b16 => ?_⟩
  refine AppZ (r := soaR o n) (F := S) hs how (by omega) ?_
  · intro p1 n1 d1 own1 T3 ho1 hs3
    have hn1 := ho1.len
    subst hn1
    refine (Sorted_runs ((ho1.row encR_len (I := J1)).sub hs3.left) (by rw [List.length_append]; simp only [List.length_singleton]; omega)).mono ?_
    rintro v J2 T2 hle2 ⟨own2, ho2, hs2⟩
    obtain ⟨p2, d2, rfl⟩ := ho2.slice
    refine ⟨_, _, _, rfl, own2, ?_, ?_⟩
    · rw [zoneF, hus]; exact ho2
    · exact hs2.of_right hs3.right
end Go.Proofs.YthlkeokfmedjhaaGreat
/- Deletion out of a row of one's own, and out of a zone. -/
namespace Go.Proofs.YthlkeokfmedjhaaGreat
open Go.Px
set_option linter.unusedVariables false

theorem Delete_runs {xs : List Rc} {i : Nat} {own : SH} {a : Option Addr} {n c : Nat} (hv : OwnZ (.slice a n c) xs own) (hi : i < xs.length) (hl : (xs.length + 1) * 40 ≤ 140737488355328) (I : IMem) (F : SH) :
    Runs Tryz.prog 110 #[.slice a n c, .int .i64 (i : Int), .int .i64 ((i + 1 : Nat) : Int)] I (own ++ F) fun v _ T => ∃ own', OwnZ v (xs.take i ++ xs.drop (i + 1)) own' ∧ Sub (own' ++ F) T := by
  refine slices_Delete_api_Record_fn _ _ _ _ _ _ _ _ ?_
  unfold slices_Delete_api_Record slices_Delete_api_Record_b1 slices_Delete_api_Record_b2
  have hn := hv.len
  subst hn
  have hcap := OwnR.cap (by omega) hv
  rcases hv with ⟨hv, rfl, rfl⟩ | ⟨g, cap, rest, hv, rfl, hcp, hcm⟩
  · simp at hi
  · injection hv with h1 h2 h3
    subst h1; subst h3
    simp only [slA_zero, Nat.sub_zero, Int.toNat_natCast]
    have hA : ((xs.take i).flatMap encR).length = i * 4 := by rw [flatMap_len encR_len, List.length_take]; congr 1; omega
    have hB : ((xs.drop (i + 1)).flatMap encR).length = (xs.length - (i + 1)) * 4 := by rw [flatMap_len encR_len, List.length_drop]
    obtain ⟨x, hx⟩ := get_lt hi
    have hsplit : xs.flatMap encR = (xs.take i).flatMap encR ++ (encR x ++ (xs.drop (i + 1)).flatMap encR) := by
      conv => lhs; rw [← List.take_append_drop i xs]
      rw [List.flatMap_append]
      congr 1
      rw [List.drop_eq_getElem_cons hi, List.flatMap_cons]
      rw [List.getElem?_eq_getElem hi] at hx
      injection hx with hx; rw [hx]
    generalize hAe : (xs.take i).flatMap encR = A at hA hsplit
    generalize hBe : (xs.drop (i + 1)).flatMap encR = B at hB hsplit
    have hAB : (A ++ B).length = (xs.length - 1) * 4 := by rw [List.length_append, hA, hB]; omega
    have e1 : slA (some ⟨g, 0, none⟩) c (i + 1) 4 = if c = i + 1 then some ⟨g, 0, none⟩ else some ⟨g, (i + 1) * 4, none⟩ := by
      unfold slA; split
      · rfl
      · show some ((⟨g, 0, none⟩ : Addr).add _) = _; rw [add_mk, Nat.zero_add]
    have m1 : i + (xs.length - (i + 1)) = xs.length - 1 := by omega
    rw [hsplit]
    have hLL : (A ++ (encR x ++ B) ++ rest).length = c * 4 := by rw [List.length_append, ← hsplit, flatMap_len encR_len]; omega
    refine ⟨by omega, by omega, by omega, by omega, by omega, by omega, bcase_beq (fun h => by omega) (fun _ => ⟨by omega, by omega, by omega, by omega, ?_⟩)⟩
    refine ⟨_, [], _, some ⟨g, 0, none⟩, i, c, xs.length - (i + 1), [], B, List.Perm.refl _, List.Perm.refl _, rfl, ⟨?_, by rw [← hBe]; exact flatMap_one encR_one _⟩, ?_, ?_, fun _ => .inr ⟨_, rfl, ?_⟩, fun h => by omega⟩
    · rw [e1]
      split
      · have : B = [] := List.eq_nil_of_length_eq_zero (by rw [hB]; omega)
        have h0 : xs.length - (i + 1) = 0 := by omega
        rw [this, h0]; exact Rd.none
      · refine Rd.list (L := A ++ (encR x ++ B) ++ rest) ?_ ?_
        · rw [List.append_assoc, show (i + 1) * 4 = i * 4 + 4 by omega, ← List.drop_drop, drop_at hA, List.append_assoc, drop_at (encR_len x), take_at hB]
        · rw [hLL]; omega
    · simp only [maxLen]; omega
    · omega
    · rw [add_mk, Nat.zero_add]
      refine StP.list (L := A ++ (encR x ++ B) ++ rest) (by rw [hLL, hB]; omega) (by rw [← hBe]; exact flatMap_one encR_one _) ?_
      have t1 : (A ++ (encR x ++ B) ++ rest).take (i * 4) = A := by rw [List.append_assoc, take_at hA]
      have t2 : ∃ y, ((A ++ (encR x ++ B) ++ rest).drop (i * 4 + B.length)) = y ++ rest ∧ y.length = 4 := by
        refine ⟨(encR x ++ B).drop B.length, ?_, by rw [List.length_drop, List.length_append, encR_len]; omega⟩
        rw [List.append_assoc, ← List.drop_drop, drop_at hA, List.drop_append_of_le_length (by rw [List.length_append]; omega)]
      obtain ⟨y, t2, hy⟩ := t2
      rw [t1, t2]
      rw [m1]
      have e2 : slA (some ⟨g, 0, none⟩) c (xs.length - 1) 4 = some ⟨g, (xs.length - 1) * 4, none⟩ := by
        unfold slA; rw [if_neg (by omega)]; show some ((⟨g, 0, none⟩ : Addr).add _) = _; rw [add_mk, Nat.zero_add]
      dsimp only
      rw [e2]
      have m2 : xs.length - (xs.length - 1) = 1 := by omega
      rw [m2]
      refine ⟨by omega, by omega, by omega, by omega, .inr ⟨_, rfl, by omega, StP.list (L := A ++ B ++ (y ++ rest)) ?_ rfl ?_⟩⟩
      · rw [List.length_append, hAB, List.length_append, hy]
        show _ + 4 ≤ _
        omega
      · rw [take_at hAB]
        have t3 : (A ++ B ++ (y ++ rest)).drop ((xs.length - 1) * 4 + (repV 1 zR).length) = rest := by
          rw [← List.drop_drop, drop_at hAB]; exact drop_at hy
        rw [t3]
        have hlen : (xs.take i ++ xs.drop (i + 1)).length = xs.length - 1 := by rw [List.length_append, List.length_take, List.length_drop]; omega
        refine ⟨[_], .inr ⟨g, c, repV 1 zR ++ rest, by rw [hlen], ?_, ?_, hcm⟩, ⟨[], by rw [List.append_nil]; exact List.Perm.refl _⟩⟩
        · rw [List.flatMap_append, hAe, hBe, List.append_assoc (A ++ B)]
        · rw [hlen, List.length_append]
          show (xs.length - 1) * 4 + (4 + rest.length) = c * 4
          omega
theorem ZDelete_runs {xs : List Rc} {a : Option Addr} {c : Nat} {r : Rc} {I : IMem} {S : SH} (hx : RowIn I S a xs.length 4 encR xs) (hl : (xs.length + 1) * 40 ≤ 140737488355328) (hm : Mono xs r) :
    Runs Tryz.prog 88 #[.slice a xs.length c, vR r] I S fun v _ T => ∃ k, Below xs r k ∧ ((xs[k]? ≠ some r ∧ v = .tuple #[.slice none 0 0, .iface 123 (.int .i64 6)] ∧ Sub S T) ∨
      (xs[k]? = some r ∧ ∃ p n d own', v = .tuple #[.slice p n d, .nilIface] ∧ OwnZ (.slice p n d) (xs.take k ++ xs.drop (k + 1)) own' ∧ Sub (own' ++ S) T)) := by
  refine zone_Delete_fn _ _ _ _ _ _ _ _ _ _ ?_
  unfold zone_Delete
  intro b3
  refine ⟨_, Cell.at0 rfl, _, Cell.at0 rfl, _, Cell.at0 rfl, _, Cell.at0 rfl, ?_⟩
  have hsk : Sub S ((b3, Obj.cells #[.string r.1, .int .u16 r.2.1, .int .u32 r.2.2.1, .string r.2.2.2] 32 (0, 0)) :: S) := (Sub.refl S).skip _
  refine (Search_runs (r := r) (hx.sub hsk) (by omega) hm).mono ?_
  rintro v J T hle ⟨⟨k, f, rfl, hb, hf⟩, rfl⟩
  refine ⟨_, _, rfl, bcase_not (bcase_of (fun h => ?_) (fun h => ⟨k, hb, .inl ⟨fun e => (by rw [hf.2 e] at h; cases h), rfl, hsk⟩⟩))⟩
  have hk := hf.1 h
  have hlt := lt_get hk
  refine (Clone_runs ((hx.sub hsk).le hle) (by omega)).mono ?_
  rintro v J' T' hle' ⟨own1, ho, hsub⟩
  obtain ⟨p, c', rfl⟩ := ho.slice
  have e : IntKind.wrap .i64 ((k : Int) + 1) = ((k + 1 : Nat) : Int) := by rw [wrap_i64 (by omega) (by omega)]; rfl
  rw [e]
  refine ⟨_, _, _, rfl, Runs.use hsub (Delete_runs ho hlt hl J' _) ?_⟩
  rintro v J'' T'' hle'' ⟨own', ho', hs'⟩
  obtain ⟨p', d, rfl⟩ := ho'.slice
  refine ⟨_, _, _, rfl, k, hb, .inr ⟨hk, _, _, _, own', rfl, ho', ?_⟩⟩
  refine Sub.trans ?_ hs'
  exact ⟨[(b3, Obj.cells #[.string r.1, .int .u16 r.2.1, .int .u32 r.2.2.1, .string r.2.2.2] 32 (0, 0))], by
    rw [List.append_assoc]
    exact List.Perm.append_left own' (List.perm_append_comm (l₁ := [_]))⟩
/-- an error's number, or none -/
def errN : Option Int → Value
  | none => .nilIface
  | some n => .iface 123 (.int .i64 n)
abbrev errV := errN
theorem ZIns_runs {zs : List Rc} {a : Option Addr} {c : Nat} {r : Rc} {I : IMem} {S : SH} (hx : RowIn I S a zs.length 4 encR zs) (hl : (zs.length + 1) * 40 ≤ 140737488355328) (hz : SS zs) :
    Runs Tryz.prog 89 #[.slice a zs.length c, vR r] I S fun v _ T => ∃ (ok : Bool) (ixs : List Rc) (own : SH) (p : Option Addr) (n d : Nat), v = .tuple #[.slice p n d, errN (if ok then none else some 7)] ∧ OwnZ (.slice p n d) ixs own ∧ Sub (own ++ S) T ∧
      (ok = true ↔ r ∉ zs) ∧ (ok = true → SS ixs ∧ ∀ x, x ∈ ixs ↔ x ∈ zs ∨ x = r) ∧ (ok = false → ixs = []) ∧ ixs.length ≤ zs.length + 1 := by
  refine (ZInsert_runs hx hl (hz.mono r)).mono ?_
  rintro v J T hle ⟨k, hb, h⟩
  have hm := mem_at hz hb
  rcases h with ⟨h, rfl, hs⟩ | ⟨h, p, n, d, own, rfl, ho, hs⟩
  · exact ⟨false, [], [], none, 0, 0, rfl, OwnR.nil, hs, ⟨fun e => (by cases e), fun e => absurd (hm.2 h) e⟩, fun e => (by cases e), fun _ => rfl, Nat.zero_le _⟩
  · refine ⟨true, _, own, p, n, d, rfl, ho, hs, ⟨fun _ e => h (hm.1 e), fun _ => rfl⟩, fun _ => ⟨ins_SS hz hb h, fun x => mem_split⟩, fun e => (by cases e), ?_⟩
    have := hb.1
    rw [List.length_append, List.length_take, List.length_cons, List.length_drop]; omega
theorem ZDel_runs {zs : List Rc} {a : Option Addr} {c : Nat} {r : Rc} {I : IMem} {S : SH} (hx : RowIn I S a zs.length 4 encR zs) (hl : (zs.length + 1) * 40 ≤ 140737488355328) (hz : SS zs) :
    Runs Tryz.prog 88 #[.slice a zs.length c, vR r] I S fun v _ T => ∃ (ok : Bool) (ixs : List Rc) (own : SH) (p : Option Addr) (n d : Nat), v = .tuple #[.slice p n d, errN (if ok then none else some 6)] ∧ OwnZ (.slice p n d) ixs own ∧ Sub (own ++ S) T ∧
      (ok = true ↔ r ∈ zs) ∧ (ok = true → ixs = without zs r) ∧ (ok = false → ixs = []) := by
  refine (ZDelete_runs hx hl (hz.mono r)).mono ?_
  rintro v J T hle ⟨k, hb, h⟩
  have hm := mem_at hz hb
  rcases h with ⟨h, rfl, hs⟩ | ⟨h, p, n, d, own, rfl, ho, hs⟩
  · exact ⟨false, [], [], none, 0, 0, rfl, OwnR.nil, hs, ⟨fun e => (by cases e), fun e => absurd (hm.1 e) h⟩, fun e => (by cases e), fun _ => rfl⟩
  · exact ⟨true, _, own, p, n, d, rfl, ho, hs, ⟨fun _ => hm.2 h, fun _ => rfl⟩, fun _ => del_eq hz h, fun e => (by cases e)⟩
theorem without_len (xs : List Rc) (r : Rc) : (without xs r).length ≤ xs.length := List.length_filter_le _ _
theorem any_rec {xs : List Rc} {r : Rc} : (xs.any fun x => recB x r) = true ↔ r ∈ xs := by
  rw [List.any_eq_true]
  exact ⟨fun ⟨x, hx, he⟩ => (recB_iff.1 he) ▸ hx, fun h => ⟨r, h, recB_iff.2 rfl⟩⟩
end Go.Proofs.YthlkeokfmedjhaaGreat
/- A delta on a zone: what the program makes of it. -/
namespace Go.Proofs.YthlkeokfmedjhaaGreat
open Go.Px
set_option linter.unusedVariables false

theorem AppR {xs ys : List Rc} {a : Option Addr} {m c : Nat} {v : Value} {S F own : SH} {I : IMem} {K : Option Addr → Nat → Nat → SH → Prop} (hs : Sub (own ++ F) S) (hv : OwnZ v xs own) (hy : RowIn I S a m 4 encR ys) (hl : xs.length + ys.length ≤ 1000000000)
    (hK : ∀ p n c own' T, OwnZ (.slice p n c) (xs ++ ys) own' → Sub (own' ++ F) T → K p n c T) :
    AppG 32 4 40 zR (some (.slice 32)) I S v (.slice a m c) K := by
  have hm := hy.1
  subst hm
  exact AppG.use (xs := xs) (ys := ys) (el := encR) encR_len encR_one rfl hs hv ⟨RowIn.rd encR_len (by decide) hy, flatMap_one encR_one ys⟩ (by simp only [maxLen]; omega) (by omega) hK
theorem AppNil {ys : List Rc} {a : Option Addr} {m c : Nat} {S : SH} {I : IMem} {K : Option Addr → Nat → Nat → SH → Prop} (hy : RowIn I S a m 4 encR ys) (hl : ys.length ≤ 1000000000)
    (hK : ∀ p n c own' T, OwnZ (.slice p n c) ys own' → Sub (own' ++ S) T → K p n c T) :
    AppG 32 4 40 zR (some (.slice 32)) I S (.slice none 0 0) (.slice a m c) K :=
  AppR (xs := []) (own := []) (F := S) (Sub.refl _) OwnR.nil hy (by simpa using hl) (by simpa using hK)
theorem row_one {I : IMem} {S : SH} {b : Nat} (r : Rc) : RowIn I ((b, .cells #[.string r.1, .int .u16 r.2.1, .int .u32 r.2.2.1, .string r.2.2.2] 32 (0, 0)) :: S) (some ⟨b, 0, none⟩) 1 4 encR [r] := by
  have ho : OwnZ (.slice (some ⟨b, 0, none⟩) 1 1) [r] [(b, .cells #[.string r.1, .int .u16 r.2.1, .int .u32 r.2.2.1, .string r.2.2.2] 32 (0, 0))] := .inr ⟨b, 1, [], rfl, rfl, rfl, by simp [maxLen]⟩
  exact (ho.row encR_len).sub ⟨S, List.Perm.refl _⟩
theorem row_nil {I : IMem} {S : SH} {a : Option Addr} : RowIn I S a 0 4 encR [] := ⟨rfl, fun i x h => by simp at h⟩
theorem Clone2_runs {xs : List Rc} {a : Option Addr} {c : Nat} {I : IMem} {S : SH} (hx : RowIn I S a xs.length 4 encR xs) (hl : xs.length * 40 ≤ 140737488355328) :
    Runs Tryz.prog 61 #[.slice a xs.length c] I S fun v _ T => ∃ own', OwnZ v xs own' ∧ Sub (own' ++ S) T := by
  refine slices_Clone_api_Record_2_fn _ _ _ _ _ _ ?_
  unfold slices_Clone_api_Record_2
  refine bcase_of (fun h => ?_) (fun h => ?_)
  · have hxs : xs = [] := by
      cases xs with
      | nil => rfl
      | cons x xs =>
        obtain ⟨a', rfl, _⟩ := hx.cell (i := 0) (x := x) rfl
        cases h
    subst hxs
    exact ⟨[], OwnR.nil, Sub.refl _⟩
  · intro b5
    refine AppG.own (xs := ([] : List Rc)) (ys := xs) (el := encR) (own := [(b5, .cells #[] 32 (0, 0))]) (F := S) encR_len encR_one rfl (List.Perm.refl _) (.inr ⟨b5, 0, [], rfl, rfl, rfl, Nat.zero_le _⟩) ⟨?_, flatMap_one encR_one xs⟩ ?_ ?_ ?_
    · exact RowIn.rd encR_len (by decide) (hx.sub ((Sub.refl S).skip _))
    · simp only [List.length_nil, maxLen]; omega
    · simpa using hl
    · intro p n c own' ho
      rw [List.nil_append] at ho
      exact ⟨own', ho, Sub.refl _⟩

/-! ### what a delta makes -/
def has (zs : List Rc) (r : Rc) : Bool := zs.any fun x => recB x r
theorem has_iff {zs : List Rc} {r : Rc} : has zs r = true ↔ r ∈ zs := any_rec
theorem has_false {zs : List Rc} {r : Rc} : has zs r = false ↔ r ∉ zs := by rw [← has_iff, Bool.not_eq_true]
def delO (st : Option (List Rc)) (r : Rc) : Option (List Rc) := st.bind fun zs => if has zs r then some (without zs r) else none
def insO (st : Option (List Rc)) (r : Rc) : Option (List Rc) := st.bind fun zs => if has zs r then none else some (insR zs r)
theorem delO_none : ∀ rs : List Rc, rs.foldl delO none = none
  | [] => rfl
  | r :: rs => delO_none rs
theorem insO_none : ∀ rs : List Rc, rs.foldl insO none = none
  | [] => rfl
  | r :: rs => insO_none rs
theorem fold_snoc {β : Type} {f : β → Rc → β} {rs : List Rc} {k : Nat} {r : Rc} {b : β} (h : rs[k]? = some r) : (rs.take (k + 1)).foldl f b = f ((rs.take k).foldl f b) r := by
  rw [take_snoc h, List.foldl_append]; rfl
theorem fold_none {f : Option (List Rc) → Rc → Option (List Rc)} (hf : ∀ rs : List Rc, rs.foldl f none = none) {rs : List Rc} {k : Nat} {b : Option (List Rc)} (h : (rs.take k).foldl f b = none) : rs.foldl f b = none := by
  rw [← List.take_append_drop k rs, List.foldl_append, h, hf]
def resO (st : Option (List Rc)) (code : Int) : Option Int × List Rc := match st with
  | none => (some code, [])
  | some out => (none, out)
def codeO (st : Option (List Rc)) : Int := match st with
  | none => 6
  | some _ => 7
def deltaF (zs : List Rc) (src dst : Rc) (gone new : List Rc) : Option Int × List Rc :=
  if zs.find? isSoa = some src then resO ((new ++ [dst]).foldl insO ((src :: gone).foldl delO (some zs))) (codeO ((src :: gone).foldl delO (some zs))) else (some 5, [])
/-- what a run of changes has made so far -/
def StO (st : Option (List Rc)) (code : Int) (most : Nat) (e out : Value) (own : SH) : Prop :=
  (∃ ys, st = some ys ∧ e = errN none ∧ OwnZ out ys own ∧ SS ys ∧ ys.length ≤ most) ∨ (st = none ∧ e = errN (some code) ∧ OwnZ out [] own)
theorem StO.del {zs : List Rc} {r : Rc} {a : Option Addr} {c most : Nat} {I : IMem} {S : SH} (hx : RowIn I S a zs.length 4 encR zs) (hz : SS zs) (hl : zs.length ≤ most) (hm : most ≤ 1000000) :
    Runs Tryz.prog 88 #[.slice a zs.length c, vR r] I S fun v _ T => ∃ p n d e own, v = .tuple #[.slice p n d, e] ∧ StO (delO (some zs) r) 6 most e (.slice p n d) own ∧ Sub (own ++ S) T := by
  refine (ZDel_runs (r := r) hx (by omega) hz).mono ?_
  rintro v J T hle ⟨ok, ixs, own, p, n, d, rfl, ho, hs, h1, h2, h3⟩
  cases ok with
  | true =>
    obtain rfl := h2 rfl
    refine ⟨p, n, d, _, own, rfl, .inl ⟨without zs r, ?_, rfl, ho, hz.without r, Nat.le_trans (without_len _ _) hl⟩, hs⟩
    show (if has zs r then _ else _) = _
    rw [if_pos (has_iff.2 (h1.1 rfl))]
  | false =>
    obtain rfl := h3 rfl
    have hno : has zs r = false := has_false.2 fun e => by cases h1.2 e
    refine ⟨p, n, d, _, own, rfl, .inr ⟨?_, rfl, ho⟩, hs⟩
    show (if has zs r then _ else _) = _
    rw [hno]; rfl
theorem insR_eq {zs ixs : List Rc} {r : Rc} (hz : SS zs) (hi : SS ixs) (hm : ∀ x, x ∈ ixs ↔ x ∈ zs ∨ x = r) : ixs = insR zs r := SS.ext hi (insR_SS hz) fun x => by rw [hm, insR_mem']
theorem StO.ins {zs : List Rc} {r : Rc} {a : Option Addr} {c most : Nat} {I : IMem} {S : SH} (hx : RowIn I S a zs.length 4 encR zs) (hz : SS zs) (hl : zs.length ≤ most) (hm : most ≤ 1000000) :
    Runs Tryz.prog 89 #[.slice a zs.length c, vR r] I S fun v _ T => ∃ p n d e own, v = .tuple #[.slice p n d, e] ∧ StO (insO (some zs) r) 7 (most + 1) e (.slice p n d) own ∧ Sub (own ++ S) T := by
  refine (ZIns_runs (r := r) hx (by omega) hz).mono ?_
  rintro v J T hle ⟨ok, ixs, own, p, n, d, rfl, ho, hs, h1, h2, h3, h4⟩
  cases ok with
  | true =>
    obtain ⟨h5, h6⟩ := h2 rfl
    have hno : has zs r = false := has_false.2 (h1.1 rfl)
    obtain rfl := insR_eq hz h5 h6
    refine ⟨p, n, d, _, own, rfl, .inl ⟨insR zs r, ?_, rfl, ho, h5, by omega⟩, hs⟩
    show (if has zs r then _ else _) = _
    rw [hno]; rfl
  | false =>
    obtain rfl := h3 rfl
    have hyes : has zs r = true := by
      cases hh : has zs r with
      | true => rfl
      | false => cases h1.2 (has_false.1 hh)
    refine ⟨p, n, d, _, own, rfl, .inr ⟨?_, rfl, ho⟩, hs⟩
    show (if has zs r then _ else _) = _
    rw [hyes]; rfl
theorem StO.slice {st : Option (List Rc)} {code : Int} {most : Nat} {e out : Value} {own : SH} (h : StO st code most e out own) : ∃ p n c, out = .slice p n c := by
  rcases h with ⟨ys, _, _, h, _⟩ | ⟨_, _, h⟩
  · obtain ⟨p, c, rfl⟩ := h.slice; exact ⟨_, _, _, rfl⟩
  · obtain ⟨p, c, rfl⟩ := h.slice; exact ⟨_, _, _, rfl⟩
abbrev encD (src dst : Rc) (g n : Sl) : List Value := [.string src.1, .int .u16 src.2.1, .int .u32 src.2.2.1, .string src.2.2.2, .string dst.1, .int .u16 dst.2.1, .int .u32 dst.2.2.1, .string dst.2.2.2, .slice g.1 g.2.1 g.2.2, .slice n.1 n.2.1 n.2.2]
abbrev DRes (S : SH) (v : Value) (T : SH) (res : Option Int × List Rc) : Prop := ∃ p n d own, v = .tuple #[.slice p n d, errN res.1] ∧ OwnZ (.slice p n d) res.2 own ∧ Sub (own ++ S) T
theorem delta_end {st : Option (List Rc)} {code : Int} {most : Nat} {e : Value} {p : Option Addr} {n d : Nat} {own : SH} {J : IMem} {T S : SH} (hst : StO st code most e (.slice p n d) own) (hs : Sub (own ++ S) T) :
    apply_Delta_b10 (fun v _ T => DRes S v T (resO st code)) p n d e J T := by
  unfold apply_Delta_b10
  rcases hst with ⟨ys, rfl, rfl, ho, _, _⟩ | ⟨rfl, rfl, ho⟩
  · exact ⟨true, rfl, bcase_f rfl ⟨p, n, d, own, rfl, ho, hs⟩⟩
  · exact ⟨false, rfl, bcase_t rfl ⟨none, 0, 0, [], rfl, OwnR.nil, hs.right⟩⟩
theorem StO.code {st : Option (List Rc)} {most : Nat} {e out : Value} {own : SH} (h : StO st 6 most e out own) : StO st (codeO st) most e out own := by
  rcases h with ⟨ys, rfl, h⟩ | ⟨rfl, h⟩
  · exact .inl ⟨ys, rfl, h⟩
  · exact .inr ⟨rfl, h⟩
theorem ins_loop {xs : List Rc} {st : Option (List Rc)} {e : Value} {p x : Option Addr} {n d xc : Nat} {own : SH} {J : IMem} {T L S : SH} (hst : StO st 6 10000 e (.slice p n d) own) (hs : Sub (own ++ L) T) (hx : RowIn J L x xs.length 4 encR xs) (hL : Sub S L) (hl : xs.length ≤ 20000) :
    apply_Delta_b8 (fun v _ T => DRes S v T (resO (xs.foldl insO st) (codeO st))) p n d e x xs.length xc (xs.length : Int) 0 J T := by
  unfold apply_Delta_b8
  refine ⟨fun m o on oc e' x' xn' xc' q i J' T' => x' = x ∧ xn' = xs.length ∧ q = (xs.length : Int) ∧ J.le J' ∧ ∃ (k : Nat) (own' : SH), i = (k : Int) ∧ k ≤ xs.length ∧ m = xs.length - k ∧ StO ((xs.take k).foldl insO st) (codeO st) (10000 + k) e' (.slice o on oc) own' ∧ Sub (own' ++ L) T',
    xs.length, ⟨rfl, rfl, rfl, IMem.le.refl J, 0, own, rfl, Nat.zero_le _, rfl, hst.code, hs⟩, ?_⟩
  rintro m o on oc e' x' xn' xc' q i J' T' - ⟨rfl, rfl, rfl, hle, k, own', rfl, hk, rfl, hst', hs'⟩
  unfold apply_Delta_l9
  refine bcase_dec (fun h => ?_) (fun h => ?_)
  · obtain ⟨r, hr⟩ := get_lt (xs := xs) (k := k) (by omega)
    obtain ⟨a', rfl, hc⟩ := ((hx.sub hs'.right).le hle).cell hr
    obtain ⟨c0, c1, c2, c3⟩ := CellsR hc
    refine ⟨by omega, by omega, _, c0, _, c1, _, c2, _, c3, fun b13 => StP.rec (x := r) ?_⟩
    rcases hst' with ⟨ys, hys, rfl, ho, hss, hyl⟩ | ⟨hno, rfl, ho⟩
    · have hn := ho.len
      subst hn
      refine ⟨true, rfl, bcase_f rfl ⟨_, Cell.at0 rfl, _, Cell.at0 rfl, _, Cell.at0 rfl, _, Cell.at0 rfl, (StO.ins (r := r) (most := 10000 + k) ((ho.row encR_len).sub (hs'.left.skip _)) hss hyl (by omega)).mono ?_⟩⟩
      rintro v J2 T2 hle2 ⟨p2, n2, d2, e2, own2, rfl, hst2, hs2⟩
      refine ⟨_, _, _, _, rfl, xs.length - (k + 1), by omega, rfl, rfl, rfl, hle.trans hle2, k + 1, own2, ?_, by omega, rfl, ?_, hs2.of_right (hs'.right.skip _)⟩
      · rw [wrap_i64 (by omega) (by omega)]; rfl
      · rw [fold_snoc hr, hys]
        rcases hst2 with ⟨ys2, h1, h2⟩ | ⟨h1, h2⟩
        · exact .inl ⟨ys2, h1, h2⟩
        · refine .inr ⟨h1, ?_⟩
          have hc7 : codeO st = 7 := by
            cases st with
            | some _ => rfl
            | none => rw [insO_none] at hys; cases hys
          rw [hc7]; exact h2
    · refine ⟨false, rfl, bcase_t rfl ?_⟩
      rw [fold_none insO_none hno]
      exact ⟨none, 0, 0, [], rfl, OwnR.nil, hL.trans (hs'.right.skip _)⟩
  · have hke : k = xs.length := by omega
    subst hke
    rw [List.take_length] at hst'
    exact delta_end hst' (hs'.of_right hL)
theorem Delta_runs {zs gs ns : List Rc} {a ga na : Option Addr} {c gc nc : Nat} {src dst : Rc} {I : IMem} {S : SH} (hx : RowIn I S a zs.length 4 encR zs) (hz : SS zs) (hl : zs.length ≤ 10000) (hg : RowIn I S ga gs.length 4 encR gs) (hgl : gs.length ≤ 10000) (hn : RowIn I S na ns.length 4 encR ns) (hnl : ns.length ≤ 10000) :
    Runs Tryz.prog 68 #[.slice a zs.length c, .agg (encD src dst (ga, gs.length, gc) (na, ns.length, nc)).toArray] I S fun v _ T => DRes S v T (deltaF zs src dst gs ns) := by
  refine apply_Delta_fn _ _ _ _ _ _ _ _ _ _ _ _ _ _ _ _ _ _ _ _ ?_
  unfold apply_Delta apply_Delta_b1
  intro b3
  generalize hD : ((b3, Obj.cells #[.string src.1, .int .u16 src.2.1, .int .u32 src.2.2.1, .string src.2.2.2, .string dst.1, .int .u16 dst.2.1, .int .u32 dst.2.2.1, .string dst.2.2.2, .slice ga gs.length gc, .slice na ns.length nc] 131 (0, 0)) :: S) = D
  have hSD : Sub S D := hD ▸ (Sub.refl S).skip _
  have cD : ∀ {J : IMem} {T : SH} {o : Nat} {v : Value}, Sub D T → (encD src dst (ga, gs.length, gc) (na, ns.length, nc))[o]? = some v → Cell J T ⟨b3, o, none⟩ v := fun h hj => Sub.cell' h (by rw [← hD]; exact Cell.at0 (by show (encD src dst (ga, gs.length, gc) (na, ns.length, nc)).toArray[_]? = _; rw [List.getElem?_toArray]; exact hj))
  refine (Soa_runs (hx.sub hSD) (by omega)).mono ?_
  rintro v J D hle ⟨rfl, rfl⟩
  refine ⟨_, _, _, _, _, rfl, fun b6 => StP.rec (x := (zs.find? isSoa).getD zR0) ?_⟩
  generalize hT : ((b6, Obj.cells (encR ((zs.find? isSoa).getD zR0)).toArray 32 (0, 0)) :: D) = T6
  have hD6 : Sub D T6 := hT ▸ (Sub.refl D).skip _
  have c6 : ∀ {J' : IMem} {o : Nat} {v : Value}, (encR ((zs.find? isSoa).getD zR0))[o]? = some v → Cell J' T6 ⟨b6, o, none⟩ v := fun hj => by rw [← hT]; exact Cell.at0 (by rw [List.getElem?_toArray]; exact hj)
  -- the SOA is not the one that it is to be
  have bad : zs.find? isSoa ≠ some src → DRes S (.tuple #[.slice none 0 0, .iface 123 (.int .i64 5)]) T6 (deltaF zs src dst gs ns) := fun h => by
    rw [deltaF, if_neg h]
    exact ⟨_, _, _, [], rfl, OwnR.nil, hSD.trans hD6⟩
  unfold apply_Delta_b2
  refine bcase_not (bcase_of (fun hsome => ?_) (fun hnone => bcase_t rfl (bad ?_)))
  · obtain ⟨so, hso⟩ := Option.isSome_iff_exists.1 hsome
    rw [hso] at c6
    refine ⟨_, c6 rfl, _, c6 rfl, _, c6 rfl, _, c6 rfl, _, cD hD6 rfl, _, cD hD6 rfl, _, cD hD6 rfl, _, cD hD6 rfl, bcase_not (bcase_of (fun heq => ?_) (fun hne => bad ?_))⟩
    · have hfs : zs.find? isSoa = some src := by rw [hso]; exact congrArg some (recEq.1 heq)
      unfold apply_Delta_b3
      refine ⟨_, cD hD6 rfl, _, cD hD6 rfl, _, cD hD6 rfl, _, cD hD6 rfl, ?_⟩
      have hdf : deltaF zs src dst gs ns = resO ((ns ++ [dst]).foldl insO ((src :: gs).foldl delO (some zs))) (codeO ((src :: gs).foldl delO (some zs))) := by rw [deltaF, if_pos hfs]
      rw [hdf]
      refine (StO.del (r := src) (most := 10000) ((hx.sub (hSD.trans hD6)).le hle) hz hl (by omega)).mono ?_
      rintro v J1 T1 hle1 ⟨p1, n1, d1, e1, own1, rfl, hst1, hs1⟩
      refine ⟨_, _, _, _, rfl, ?_⟩
      have hD1 : Sub (own1 ++ D) T1 := hs1.of_right hD6
      have hrow : ∀ {J' : IMem} {T' : SH}, J1.le J' → Sub D T' → RowIn J' T' ga gs.length 4 encR gs := fun h1 h2 => (hg.sub (hSD.trans h2)).le ((hle.trans hle1).trans h1)
      have hrown : ∀ {J' : IMem} {T' : SH}, J1.le J' → Sub D T' → RowIn J' T' na ns.length 4 encR ns := fun h1 h2 => (hn.sub (hSD.trans h2)).le ((hle.trans hle1).trans h1)
      unfold apply_Delta_b4
      refine ⟨_, _, _, cD hD1.right rfl, ?_⟩
      unfold apply_Delta_b5
      refine ⟨fun m D' o on oc e' x' xn' xc' q i J' T' => D' = ⟨b3, 0, none⟩ ∧ x' = ga ∧ xn' = gs.length ∧ q = (gs.length : Int) ∧ J1.le J' ∧ ∃ (k : Nat) (own' : SH), i = (k : Int) ∧ k ≤ gs.length ∧ m = gs.length - k ∧ StO ((gs.take k).foldl delO (delO (some zs) src)) 6 10000 e' (.slice o on oc) own' ∧ Sub (own' ++ D) T',
        gs.length, ⟨rfl, rfl, rfl, rfl, IMem.le.refl _, 0, own1, rfl, Nat.zero_le _, rfl, hst1, hD1⟩, ?_⟩
      rintro m D' o on oc e' x' xn' xc' q i J' T' - ⟨rfl, rfl, rfl, rfl, hle', k, own', rfl, hk, rfl, hst', hs'⟩
      unfold apply_Delta_l6
      refine bcase_dec (fun h => ?_) (fun h => ?_)
      · obtain ⟨r, hr⟩ := get_lt (xs := gs) (k := k) (by omega)
        obtain ⟨a', rfl, hc⟩ := (hrow hle' hs'.right).cell hr
        obtain ⟨c0, c1, c2, c3⟩ := CellsR hc
        refine ⟨by omega, by omega, _, c0, _, c1, _, c2, _, c3, fun b11 => StP.rec (x := r) ?_⟩
        rcases hst' with ⟨ys, hys, rfl, ho, hss, hyl⟩ | ⟨hno, rfl, ho⟩
        · have hn := ho.len
          subst hn
          refine ⟨true, rfl, bcase_f rfl ⟨_, Cell.at0 rfl, _, Cell.at0 rfl, _, Cell.at0 rfl, _, Cell.at0 rfl, (StO.del (r := r) (most := 10000) ((ho.row encR_len).sub (hs'.left.skip _)) hss hyl (by omega)).mono ?_⟩⟩
          rintro v J2 T2 hle2 ⟨p2, n2, d2, e2, own2, rfl, hst2, hs2⟩
          refine ⟨_, _, _, _, rfl, gs.length - (k + 1), by omega, rfl, rfl, rfl, rfl, hle'.trans hle2, k + 1, own2, ?_, by omega, rfl, ?_, hs2.of_right (hs'.right.skip _)⟩
          · rw [wrap_i64 (by omega) (by omega)]; rfl
          · rw [fold_snoc hr, hys]; exact hst2
        · refine ⟨false, rfl, bcase_t rfl ?_⟩
          have hall : (src :: gs).foldl delO (some zs) = none := fold_none delO_none (rs := gs) hno
          rw [hall, insO_none]
          exact ⟨none, 0, 0, [], rfl, OwnR.nil, hSD.trans (hs'.right.skip _)⟩
      · have hke : k = gs.length := by omega
        subst hke
        rw [List.take_length] at hst'
        have hst2 : StO ((src :: gs).foldl delO (some zs)) 6 10000 e' (.slice o on oc) own' := hst'
        generalize (src :: gs).foldl delO (some zs) = st at hst2 ⊢
        have fin : ∀ (J2 : IMem) (T2 : SH) (v : Value) (own2 : SH) (y : Option Addr) (yn yc : Nat), OwnZ (.slice y yn yc) (ns ++ [dst]) own2 → Sub (own2 ++ (own' ++ D)) T2 →
            apply_Delta_b8 (fun v _ T => DRes S v T (resO ((ns ++ [dst]).foldl insO st) (codeO st))) o on oc e' y yn yc (yn : Int) 0 J2 T2 := by
          intro J2 T2 v own2 y yn yc ho2 hs2
          have hn2 := ho2.len
          subst hn2
          refine ins_loop (L := own2 ++ D) hst2 ?_ ((ho2.row encR_len).sub (Sub.left (Sub.refl _))) (hSD.trans (Sub.right (Sub.refl _))) (by rw [List.length_append]; simp only [List.length_singleton]; omega)
          exact hs2.perm (by rw [← List.append_assoc, ← List.append_assoc]; exact List.Perm.append_right D List.perm_append_comm)
        unfold apply_Delta_b7
        refine ⟨_, _, _, cD hs'.right rfl, _, cD hs'.right rfl, _, cD hs'.right rfl, _, cD hs'.right rfl, _, cD hs'.right rfl, ⟨?_, fun b57 => ⟨((Sub.refl _).skip _).keep (IMem.le.refl _), ?_⟩⟩⟩
        · refine (Clone2_runs (hrown hle' hs'.right) (by omega)).mono ?_
          rintro v J2 T2 hle2 ⟨own2, ho2, hs2⟩
          obtain ⟨y, yc, rfl⟩ := ho2.slice
          refine ⟨_, _, _, rfl, hs2.right.keep hle2, fun b57 => ⟨(hs2.right.skip _).keep hle2, ?_⟩⟩
          refine AppZ (r := dst) (F := own' ++ D) (hs2.of_right hs') ho2 (by omega) ?_
          intro y2 n2 c2 own3 T3 ho3 hs3
          exact fin J2 T3 .nilIface own3 y2 n2 c2 ho3 hs3
        · refine (Clone2_runs (hrown hle' (hs'.right.skip _)) (by omega)).mono ?_
          rintro v J2 T2 hle2 ⟨own2, ho2, hs2⟩
          obtain ⟨y, yc, rfl⟩ := ho2.slice
          refine ⟨_, _, _, rfl, (hs2.right.drop).keep hle2, ?_⟩
          refine AppR (xs := ns) (ys := [dst]) (F := own' ++ D) (hs2.of_right (hs'.skip _)) ho2 ((row_one dst).keep (hs2.right.keep hle2)) (by simp only [List.length_singleton]; omega) ?_
          intro y2 n2 c2 own3 T3 ho3 hs3
          exact fin J2 T3 .nilIface own3 y2 n2 c2 ho3 hs3
    · rw [hso]
      intro e
      injection e with e
      subst e
      have := recEq.2 (rfl : so = so)
      rw [Option.getD_some] at hne
      rw [hne] at this; cases this
  · intro e; rw [e] at hnone; cases hnone
end Go.Proofs.YthlkeokfmedjhaaGreat
/- The document's examples of deltas; what goes and what comes between two zones; a delta in memory. -/
namespace Go.Proofs.YthlkeokfmedjhaaGreat
open Go.Px
set_option linter.unusedVariables false

theorem Has2_runs {zs : List Rc} {a : Option Addr} {c : Nat} {r : Rc} {I : IMem} {S : SH} (hx : RowIn I S a zs.length 4 encR zs) (hl : zs.length ≤ 1000000) (hz : SS zs) :
    Runs Tryz.prog 50 #[.slice a zs.length c, vR r] I S fun v _ T => v = .bool (has zs r) ∧ T = S := by
  refine (Has_runs (r := r) hx (by omega) (hz.mono r)).mono ?_
  rintro v J T hle ⟨⟨k, f, rfl, hb, hf⟩, rfl⟩
  refine ⟨?_, rfl⟩
  have : f = has zs r := Bool.eq_iff_iff.2 (by rw [hf, has_iff, mem_at hz hb])
  rw [this]
def lessF (a b : List Rc) : List Rc := a.filter fun x => !has b x
theorem less_len (a b : List Rc) : (lessF a b).length ≤ a.length := List.length_filter_le _ _
theorem less_snoc {xs b : List Rc} {k : Nat} {x : Rc} (h : xs[k]? = some x) : lessF (xs.take (k + 1)) b = lessF (xs.take k) b ++ (if has b x then [] else [x]) := by
  unfold lessF
  rw [take_snoc h, List.filter_append]
  congr 1
  cases hp : has b x <;> simp [List.filter, hp]
theorem Between_runs {us bs : List Rc} {a b : Option Addr} {ca cb : Nat} {I : IMem} {S : SH} (ha : RowIn I S a us.length 4 encR us) (hb : RowIn I S b bs.length 4 encR bs) (hza : SS us) (hzb : SS bs) (hal : us.length ≤ 10000) (hbl : bs.length ≤ 10000) :
    Runs Tryz.prog 34 #[.slice a us.length ca, .slice b bs.length cb] I S fun v _ T => ∃ p n c q m d own1 own2, v = .tuple #[.slice p n c, .slice q m d] ∧ OwnZ (.slice p n c) (lessF us bs) own1 ∧ OwnZ (.slice q m d) (lessF bs us) own2 ∧ Sub (own2 ++ (own1 ++ S)) T := by
  refine apply_Between_fn _ _ _ _ _ _ _ _ _ ?_
  unfold apply_Between apply_Between_b1 apply_Between_b2
  refine ⟨fun m a' an ac b' bn bc g gn gc f fn fc x xn xc q i J T => a' = a ∧ an = us.length ∧ b' = b ∧ bn = bs.length ∧ f = none ∧ fn = 0 ∧ fc = 0 ∧ x = a ∧ xn = us.length ∧ q = (us.length : Int) ∧ I.le J ∧ ∃ (k : Nat) (own : SH), i = (k : Int) ∧ k ≤ us.length ∧ m = us.length - k ∧ OwnZ (.slice g gn gc) (lessF (us.take k) bs) own ∧ Sub (own ++ S) T,
    us.length, ⟨rfl, rfl, rfl, rfl, rfl, rfl, rfl, rfl, rfl, rfl, IMem.le.refl I, 0, [], rfl, Nat.zero_le _, rfl, OwnR.nil, Sub.refl _⟩, ?_⟩
  rintro m a' an ac b' bn bc g gn gc f fn fc x xn xc q i J T - ⟨rfl, rfl, rfl, rfl, rfl, rfl, rfl, rfl, rfl, rfl, hle, k, own, rfl, hk, rfl, ho, hs⟩
  unfold apply_Between_l3 apply_Between_b4
  have hll := less_len (us.take k) bs
  rw [List.length_take] at hll
  refine bcase_dec (fun h => ?_) (fun h => ?_)
  · obtain ⟨r, hr⟩ := get_lt (xs := us) (k := k) (by omega)
    obtain ⟨a1, hae, hc⟩ := ((ha.sub hs.right).le hle).cell hr
    subst hae
    obtain ⟨c0, c1, c2, c3⟩ := CellsR hc
    have hsn := less_snoc (b := bs) hr
    refine ⟨by omega, by omega, _, c0, _, c1, _, c2, _, c3, fun b9 => StP.rec (x := r) ⟨_, Cell.at0 rfl, _, Cell.at0 rfl, _, Cell.at0 rfl, _, Cell.at0 rfl, (Has2_runs (r := r) ((hb.sub (hs.right.skip _)).le hle) (by omega) hzb).mono ?_⟩⟩
    rintro v J2 T2 hle2 ⟨rfl, rfl⟩
    have hnext : IntKind.wrap .i64 ((k : Int) + 1) = ((k + 1 : Nat) : Int) := by rw [wrap_i64 (by omega) (by omega)]; rfl
    refine ⟨_, rfl, bcase_not (bcase_of (fun h2 => ?_) (fun h2 => ?_))⟩
    · rw [h2, if_pos rfl, List.append_nil] at hsn
      exact ⟨us.length - (k + 1), by omega, rfl, rfl, rfl, rfl, rfl, rfl, rfl, rfl, rfl, rfl, hle.trans hle2, k + 1, own, hnext, by omega, rfl, by rw [hsn]; exact ho, hs.skip _⟩
    · rw [h2, if_neg Bool.false_ne_true] at hsn
      refine ⟨_, Cell.at0 rfl, _, Cell.at0 rfl, _, Cell.at0 rfl, _, Cell.at0 rfl, fun b24 => AppZ (r := r) (hs.skip _) ho (by omega) ?_⟩
      intro p n c own2 T3 ho2 hs2
      exact ⟨us.length - (k + 1), by omega, rfl, rfl, rfl, rfl, rfl, rfl, rfl, rfl, rfl, rfl, hle.trans hle2, k + 1, own2, hnext, by omega, rfl, by rw [hsn]; exact ho2, hs2⟩
  · have hke : k = us.length := by omega
    subst hke
    rw [List.take_length] at ho
    unfold apply_Between_b5 apply_Between_b6
    refine ⟨fun m a'' an ac b'' bn bc f fn fc y xn xc q i J' T' => a'' = x ∧ an = us.length ∧ b'' = g ∧ bn = gn ∧ bc = gc ∧ y = b' ∧ xn = bs.length ∧ q = (bs.length : Int) ∧ I.le J' ∧ ∃ (k : Nat) (own' : SH), i = (k : Int) ∧ k ≤ bs.length ∧ m = bs.length - k ∧ OwnZ (.slice f fn fc) (lessF (bs.take k) us) own' ∧ Sub (own' ++ (own ++ S)) T',
      bs.length, ⟨rfl, rfl, rfl, rfl, rfl, rfl, rfl, rfl, hle, 0, [], rfl, Nat.zero_le _, rfl, OwnR.nil, hs⟩, ?_⟩
    rintro m a'' an ac b'' bn bc f fn fc x xn xc q i J' T' - ⟨rfl, rfl, rfl, rfl, rfl, rfl, rfl, rfl, hle', k, own', rfl, hk', rfl, ho', hs'⟩
    unfold apply_Between_l7 apply_Between_b8
    have hll := less_len (bs.take k) us
    rw [List.length_take] at hll
    refine bcase_dec (fun h => ?_) (fun h => ?_)
    · obtain ⟨r, hr⟩ := get_lt (xs := bs) (k := k) (by omega)
      obtain ⟨a1, hae, hc⟩ := ((hb.sub hs'.right.right).le hle').cell hr
      subst hae
      obtain ⟨c0, c1, c2, c3⟩ := CellsR hc
      have hsn := less_snoc (b := us) hr
      refine ⟨by omega, by omega, _, c0, _, c1, _, c2, _, c3, fun b9 => StP.rec (x := r) ⟨_, Cell.at0 rfl, _, Cell.at0 rfl, _, Cell.at0 rfl, _, Cell.at0 rfl, (Has2_runs (r := r) ((ha.sub (hs'.right.right.skip _)).le hle') (by omega) hza).mono ?_⟩⟩
      rintro v J2 T2 hle2 ⟨rfl, rfl⟩
      have hnext : IntKind.wrap .i64 ((k : Int) + 1) = ((k + 1 : Nat) : Int) := by rw [wrap_i64 (by omega) (by omega)]; rfl
      refine ⟨_, rfl, bcase_not (bcase_of (fun h2 => ?_) (fun h2 => ?_))⟩
      · rw [h2, if_pos rfl, List.append_nil] at hsn
        exact ⟨bs.length - (k + 1), by omega, rfl, rfl, rfl, rfl, rfl, rfl, rfl, rfl, hle'.trans hle2, k + 1, own', hnext, by omega, rfl, by rw [hsn]; exact ho', hs'.skip _⟩
      · rw [h2, if_neg Bool.false_ne_true] at hsn
        refine ⟨_, Cell.at0 rfl, _, Cell.at0 rfl, _, Cell.at0 rfl, _, Cell.at0 rfl, fun b24 => AppZ (r := r) (hs'.skip _) ho' (by omega) ?_⟩
        intro p n c own2 T3 ho2 hs2
        exact ⟨bs.length - (k + 1), by omega, rfl, rfl, rfl, rfl, rfl, rfl, rfl, rfl, hle'.trans hle2, k + 1, own2, hnext, by omega, rfl, by rw [hsn]; exact ho2, hs2⟩
    · have hke : k = bs.length := by omega
      subst hke
      rw [List.take_length] at ho'
      unfold apply_Between_b9
      exact ⟨_, _, _, _, _, _, own, own', rfl, ho, ho', hs'⟩

/-! ### the document's examples -/
theorem soa_soa (o : ByteArray) (n : Int) : isSoa (soaR o n) = true := rfl
end Go.Proofs.YthlkeokfmedjhaaGreat
/- ApplyDelta. -/
namespace Go.Px
end Go.Px
namespace Go.Proofs.YthlkeokfmedjhaaGreat
open Go.Px
set_option linter.unusedVariables false

theorem u8_of {x : Int} (h : (Lit.int .u8 x).wf = true) : 0 ≤ x ∧ x ≤ 255 := by
  simp only [Lit.wf, IntKind.min, IntKind.max, IntKind.bits, IntKind.signed] at h
  simp at h; omega
abbrev dB (bd : Nat) (src dst : Rc) (g n : Sl) : Nat × Obj := (bd, .cells (encD src dst g n).toArray 131 (0, 0))
theorem StP.gone {T L : SH} {bd : Nat} {src dst : Rc} {g n g' : Sl} {K : SH → Prop} (h : Sub (dB bd src dst g n :: L) T) (hK : ∀ T', Sub (dB bd src dst g' n :: L) T' → K T') : StP T ((⟨bd, 0, none⟩ : Addr).add 8) [.slice g'.1 g'.2.1 g'.2.2] K :=
  StP.of_sub h (StP.list (o := 8) (L := encD src dst g n) (show 8 + 1 ≤ 10 by omega) rfl fun T' h => hK T' h)
theorem StP.new {T L : SH} {bd : Nat} {src dst : Rc} {g n n' : Sl} {K : SH → Prop} (h : Sub (dB bd src dst g n :: L) T) (hK : ∀ T', Sub (dB bd src dst g n' :: L) T' → K T') : StP T ((⟨bd, 0, none⟩ : Addr).add 9) [.slice n'.1 n'.2.1 n'.2.2] K :=
  StP.of_sub h (StP.list (o := 9) (L := encD src dst g n) (show 9 + 1 ≤ 10 by omega) rfl fun T' h => hK T' h)
theorem resO_or (st : Option (List Rc)) {c : Int} (h : c = 6 ∨ c = 7) : (∃ out, resO st c = (none, out)) ∨ ∃ c', (c' = 5 ∨ c' = 6 ∨ c' = 7) ∧ resO st c = (some c', []) := by
  cases st with
  | none => exact .inr ⟨c, .inr h, rfl⟩
  | some out => exact .inl ⟨out, rfl⟩
theorem deltaF_or (zs : List Rc) (src dst : Rc) (gs ns : List Rc) : (∃ out, deltaF zs src dst gs ns = (none, out)) ∨ ∃ c, (c = 5 ∨ c = 6 ∨ c = 7) ∧ deltaF zs src dst gs ns = (some c, []) := by
  unfold deltaF
  split
  · refine resO_or _ ?_
    generalize (src :: gs).foldl delO (some zs) = st
    cases st with
    | none => exact .inl rfl
    | some _ => exact .inr rfl
  · exact .inr ⟨5, .inl rfl, rfl⟩
theorem foldl_insO_len : ∀ (rs : List Rc) (zs out : List Rc), rs.foldl insO (some zs) = some out → out.length ≤ zs.length + rs.length
  | [], zs, out, h => by injection h with h; subst h; simp
  | r :: rs, zs, out, h => by
    rw [List.foldl_cons] at h
    cases hh : has zs r with
    | true =>
      have e : insO (some zs) r = none := by show (if has zs r then _ else _) = _; rw [hh]; rfl
      rw [e, insO_none] at h; cases h
    | false =>
      have e : insO (some zs) r = some (insR zs r) := by show (if has zs r then _ else _) = _; rw [hh]; rfl
      rw [e] at h
      have h1 := foldl_insO_len rs _ _ h
      have h2 := insR_length zs r
      rw [List.length_cons]; omega
theorem foldl_delO_len : ∀ (rs : List Rc) (zs out : List Rc), rs.foldl delO (some zs) = some out → out.length ≤ zs.length
  | [], zs, out, h => by injection h with h; subst h; simp
  | r :: rs, zs, out, h => by
    rw [List.foldl_cons] at h
    cases hh : has zs r with
    | true =>
      have e : delO (some zs) r = some (without zs r) := by show (if has zs r then _ else _) = _; rw [hh]; rfl
      rw [e] at h
      exact Nat.le_trans (foldl_delO_len rs _ _ h) (without_len _ _)
    | false =>
      have e : delO (some zs) r = none := by show (if has zs r then _ else _) = _; rw [hh]; rfl
      rw [e, delO_none] at h; cases h
theorem deltaF_len (zs : List Rc) (src dst : Rc) (gs ns : List Rc) : (deltaF zs src dst gs ns).2.length ≤ zs.length + ns.length + 1 := by
  unfold deltaF
  split
  · cases h1 : (src :: gs).foldl delO (some zs) with
    | none => rw [insO_none]; exact Nat.zero_le _
    | some ys =>
      have h2 := foldl_delO_len _ _ _ h1
      cases h3 : (ns ++ [dst]).foldl insO (some ys) with
      | none => exact Nat.zero_le _
      | some out =>
        have h4 := foldl_insO_len _ _ _ h3
        rw [List.length_append, List.length_singleton] at h4
        show out.length ≤ _
        omega
  · exact Nat.zero_le _
theorem zoneF_SS (o : ByteArray) (n : Int) (rs : List Rc) (most : Nat) : SS (zoneF o n rs most) := sortR_SS _
theorem mem_zoneF {o : ByteArray} {n : Int} {rs : List Rc} {most : Nat} {x : Rc} : x ∈ zoneF o n rs most ↔ x ∈ (rs.take most).map (underR false o) ∨ x = soaR o n := by
  rw [zoneF, mem_sortR, List.mem_append, List.mem_singleton]
theorem zoneF_len (o : ByteArray) (n : Int) (rs : List Rc) (most : Nat) : (zoneF o n rs most).length ≤ most + 1 ∧ 0 < (zoneF o n rs most).length := by
  constructor
  · have h := sortR_len ((rs.take most).map (underR false o) ++ [soaR o n])
    rw [List.length_append, List.length_map, List.length_take, List.length_singleton] at h
    unfold zoneF; omega
  · exact List.length_pos_of_mem (mem_zoneF.2 (.inr rfl))
theorem origN_size (n : Int) : (origN n).size ≤ 254 := nameW_size _

end Go.Proofs.YthlkeokfmedjhaaGreat
/- ApplyBetween. -/
namespace Go.Proofs.YthlkeokfmedjhaaGreat
open Go.Px
set_option linter.unusedVariables false

def bothF (a b : List Rc) : List Rc := a.filter fun x => has b x
theorem SS.both {a : List Rc} (h : SS a) (b : List Rc) : SS (bothF a b) := h.sublist List.filter_sublist
end Go.Proofs.YthlkeokfmedjhaaGreat
/- ApplyBack. -/
namespace Go.Proofs.YthlkeokfmedjhaaGreat
open Go.Px
set_option linter.unusedVariables false

/-! ### a delta leads from a zone to another one -/
def notF (xs : List Rc) : List Rc := xs.filter fun r => !isSoa r
theorem SS.not {a : List Rc} (h : SS a) : SS (notF a) := h.sublist List.filter_sublist
structure ZoneOf (zs : List Rc) (s : Rc) : Prop where
  ss : SS zs
  soa : isSoa s = true
  mem : s ∈ zs
  one : ∀ x ∈ zs, isSoa x = true → x = s
theorem SS.nodup {xs : List Rc} (h : SS xs) : xs.Nodup := h.imp fun {a b} hab e => by subst e; exact lt_irr hab
theorem under_not (o : ByteArray) (r : Rc) : isSoa (underR false o r) = false := by
  unfold underR
  split
  · rfl
  · rename_i h
    exact beq_eq_false_iff_ne.2 h
theorem zone_of (o : ByteArray) (n : Int) (rs : List Rc) (most : Nat) : ZoneOf (zoneF o n rs most) (soaR o n) where
  ss := zoneF_SS _ _ _ _
  soa := soa_soa o n
  mem := mem_zoneF.2 (.inr rfl)
  one := fun x hx hs => by
    rcases mem_zoneF.1 hx with h | h
    · obtain ⟨r, _, rfl⟩ := List.mem_map.1 h
      rw [under_not] at hs; cases hs
    · exact h

/-! ### two appends, in whatever order -/
abbrev rB (b : Nat) (r : Rc) : Nat × Obj := (b, .cells #[.string r.1, .int .u16 r.2.1, .int .u32 r.2.2.1, .string r.2.2.2] 32 (0, 0))
end Go.Proofs.YthlkeokfmedjhaaGreat
/- Zones by numbers are right. -/
namespace Go.Proofs.YthlkeokfmedjhaaGreat
open Go.Px
set_option linter.unusedVariables false
set_option linter.unusedSimpArgs false

theorem texts_one {d : ByteArray} {u : UInt8} (h : d[0]? = some u) (hs : d.size = 1 + u.toNat) : textsN d = true := by
  unfold textsN
  rw [goT, h]
  dsimp only
  obtain ⟨f, hf⟩ : ∃ f, d.size = f + 1 := ⟨d.size - 1, by omega⟩
  rw [hf, goT, at_none (by omega)]
  exact decide_eq_true ⟨by omega, by omega⟩
theorem mayD_2 {x : ByteArray} (h : IsName x) : mayD 2 x = true := isName_iff.1 h
theorem mayD_5 {x : ByteArray} (h : IsName x) : mayD 5 x = true := isName_iff.1 h
theorem mayD_1 {x : ByteArray} (h : x.size = 4) : mayD 1 x = true := decide_eq_true h
theorem mayD_28 {x : ByteArray} (h : x.size = 16) : mayD 28 x = true := decide_eq_true h
theorem mayD_99 {x : ByteArray} (h : x.size ≤ 512) : mayD 99 x = true := decide_eq_true h
theorem mayD_16 {x : ByteArray} (h : textsN x = true) (hs : x.size ≤ 512) : mayD 16 x = true := by
  show (textsN x && decide (x.size ≤ 512)) = true
  rw [h, decide_eq_true hs]; rfl
theorem dataF_may (m : Int) {x s : ByteArray} (hx : IsName x) (hs : s.size ≤ 30) : (dataF m x s).1 ≠ 41 ∧ ((dataF m x s).1 ≠ 6 → mayD (dataF m x s).1 (dataF m x s).2 = true) := by
  have h1 : dA.size = 4 := rfl
  have h3 : dQ.size = 16 := rfl
  have h5 : ∀ u : UInt8, (⟨#[u]⟩ : ByteArray).size = 1 := fun _ => rfl
  unfold dataF
  split
  · exact ⟨(by show (1 : Int) ≠ 41; decide), fun _ => mayD_1 (by rw [ex_size, app_size, h1]; omega)⟩
  · split
    · exact ⟨(by show (2 : Int) ≠ 41; decide), fun _ => mayD_2 hx⟩
    · split
      · exact ⟨(by show (5 : Int) ≠ 41; decide), fun _ => mayD_5 hx⟩
      · split
        · exact ⟨(by show (6 : Int) ≠ 41; decide), fun h => absurd rfl h⟩
        · split
          · refine ⟨(by show (16 : Int) ≠ 41; decide), fun _ => mayD_16 (texts_one (u := UInt8.ofNat (min 255 s.size)) ?_ ?_) ?_⟩
            · have hp : 0 < ((⟨#[UInt8.ofNat (min 255 s.size)]⟩ : ByteArray) ++ s.extract 0 (min 255 s.size)).size := by rw [app_size, h5]; omega
              rw [getElem?_pos _ 0 hp]
              congr 1
            · rw [app_size, h5, ex_size, ofNatU (by omega)]; omega
            · rw [app_size, h5, ex_size]; omega
          · split
            · exact ⟨(by show (28 : Int) ≠ 41; decide), fun _ => mayD_28 (by rw [ex_size, app_size, h3]; omega)⟩
            · exact ⟨(by show (99 : Int) ≠ 41; decide), fun _ => mayD_99 (by rw [ex_size]; omega)⟩
/-- a zone's record -/
structure ZOK (o : ByteArray) (r : Rc) : Prop where
  may : mayR r = true
  below : belowB r.1 o = true
  small : SmallR r
  own : r.2.1 = 6 → r.1 = o
  name : IsName r.1
theorem mayR_of {r : Rc} (h1 : IsName r.1) (h2 : r.2.1 ≠ 41) (h3 : mayD r.2.1 r.2.2.2 = true) : mayR r = true := by
  unfold mayR
  rw [isName_iff.1 h1, decide_eq_true h2, h3]; rfl
theorem cut_zero {d : ByteArray} {l : List UInt8} (h : d.data.toList = 0 :: l) : cutN d = (⟨#[]⟩, ⟨l.toArray⟩, true) := by
  have hsz : d.size = l.length + 1 := by rw [← dlen, h]; rfl
  have h0 : d[0]? = some 0 := by
    rw [getElem?_pos d 0 (by omega)]
    congr 1
    have : d.data.toList[0]? = some 0 := by rw [h]; rfl
    rw [List.getElem?_eq_getElem (by rw [dlen]; omega)] at this
    injection this
  have e0 : d.extract 0 0 = ⟨#[]⟩ := ext_list (by rw [ex_list]; simp)
  have e1 : d.extract 1 d.size = ⟨l.toArray⟩ := ext_list (by
    rw [ex_list, h, List.drop_succ_cons, List.drop_zero, List.take_of_length_le (by omega)])
  have h00 : (0 : UInt8).toNat = 0 := rfl
  have hn : (labN ⟨#[]⟩).isSome = true := isName_iff.1 isName_nil
  unfold cutN
  rw [goC, h0]
  dsimp only
  rw [if_pos h00, e0, if_pos hn, Nat.zero_add, e1]
theorem nameW_nil : nameW [] = ⟨#[]⟩ := rfl
theorem soaD_list (n : Int) : (soaD n).data.toList = 0 :: 0 :: ([n, IntKind.wrap .u32 10, IntKind.wrap .u32 3, IntKind.wrap .u32 40, 1].flatMap put1) := by
  unfold soaD mkD
  rw [nameW_nil]
  simp only [ByteArray.data_append, Array.toList_append]
  rfl
theorem soaD_size (n : Int) : (soaD n).size = 22 := by rw [← dlen, soaD_list]; rfl
theorem soaN_soaD (n : Int) : soaN (soaD n) = true := by
  have h1 := cut_zero (soaD_list n)
  have h2 := cut_zero (d := ⟨(0 :: ([n, IntKind.wrap .u32 10, IntKind.wrap .u32 3, IntKind.wrap .u32 40, 1].flatMap put1)).toArray⟩) (l := [n, IntKind.wrap .u32 10, IntKind.wrap .u32 3, IntKind.wrap .u32 40, 1].flatMap put1) rfl
  unfold soaN
  rw [h1]
  dsimp only
  rw [h2]
  rfl
theorem ZOK.soa {o : ByteArray} (n : Int) (ho : IsName o) : ZOK o (soaR o n) where
  may := mayR_of ho (by show (6 : Int) ≠ 41; decide) (soaN_soaD n)
  below := below_self ho
  small := ⟨by obtain ⟨_, _, _, h⟩ := ho; exact h, by show (soaD n).size ≤ 600; rw [soaD_size]; decide, by show (0 : Int) ≤ 6 ∧ (6 : Int) ≤ 99; decide⟩
  own := fun _ => rfl
  name := ho
theorem ZOK.tx {o : ByteArray} (t : Int) (ho : IsName o) : ZOK o (txR o t) where
  may := mayR_of ho (by show (16 : Int) ≠ 41; decide) (mayD_16 (texts_one (u := 1) rfl rfl) (by show (2 : Nat) ≤ 512; decide))
  below := below_self ho
  small := ⟨by obtain ⟨_, _, _, h⟩ := ho; exact h, by show (2 : Nat) ≤ 600; decide, by show (0 : Int) ≤ 16 ∧ (16 : Int) ≤ 99; decide⟩
  own := fun h => by cases h
  name := ho
theorem join_ok {n o : ByteArray} (hn : IsName n) (ho : IsName o) : IsName (joinR o n) ∧ belowB (joinR o n) o = true := by
  unfold joinR joinN
  rw [isName_iff.1 hn, isName_iff.1 ho]
  simp only [Bool.true_and]
  by_cases h : n.size + o.size ≤ 254
  · rw [if_pos (decide_eq_true h), if_pos rfl]
    exact below_app hn ho h
  · rw [decide_eq_false h, if_neg Bool.false_ne_true, if_neg Bool.false_ne_true]
    exact ⟨ho, below_self ho⟩
theorem ZOK.under {o : ByteArray} {r : Rc} (soas : Bool) (ho : IsName o) (hr : NumR r) : ZOK o (underR soas o r) := by
  obtain ⟨nm', dt, x, rfl⟩ := hr
  have hsm := recF_small nm' dt x
  have hmay := dataF_may ((IntKind.wrap .u16 x.2.1).tmod 8) (x := nameW dt) (s := x.2.2.2.2.extract 0 (min 30 x.2.2.2.2.size)) (nameW_name dt) (by rw [ex_size]; omega)
  have hname : IsName (recF nm' dt x).1 := nameW_name nm'
  have e1 : (recF nm' dt x).2.1 = (dataF ((IntKind.wrap .u16 x.2.1).tmod 8) (nameW dt) (x.2.2.2.2.extract 0 (min 30 x.2.2.2.2.size))).1 := rfl
  have e2 : (recF nm' dt x).2.2.2 = (dataF ((IntKind.wrap .u16 x.2.1).tmod 8) (nameW dt) (x.2.2.2.2.extract 0 (min 30 x.2.2.2.2.size))).2 := rfl
  rw [← e1, ← e2] at hmay
  generalize recF nm' dt x = r at hsm hmay hname
  unfold underR
  split
  · split
    · exact ZOK.soa _ ho
    · exact ZOK.tx _ ho
  · rename_i h6
    obtain ⟨j1, j2⟩ := join_ok hname ho
    exact ⟨mayR_of j1 hmay.1 (hmay.2 h6), j2, ⟨by obtain ⟨_, _, _, h⟩ := j1; exact h, hsm.dt, hsm.ty⟩, fun h => absurd h h6, j1⟩
theorem ZOK.zone {o : ByteArray} {rs : List Rc} {most : Nat} {n : Int} (ho : IsName o) (hr : ∀ r ∈ rs, NumR r) : ∀ r ∈ zoneF o n rs most, ZOK o r := fun r h => by
  rcases mem_zoneF.1 h with h | rfl
  · obtain ⟨x, hx, rfl⟩ := List.mem_map.1 h
    exact ZOK.under false ho (hr x (List.mem_of_mem_take hx))
  · exact ZOK.soa n ho
theorem origN_name (n : Int) : IsName (origN n) := nameW_name _
end Go.Proofs.YthlkeokfmedjhaaGreat
/- SOA data, read: soa.Parse, soa.Of, stream.serial; serial numbers compared. -/
namespace Go.Proofs.YthlkeokfmedjhaaGreat
open Go.Px
set_option linter.unusedVariables false
set_option linter.unusedSimpArgs false

abbrev Sv := ByteArray × ByteArray × Int × Int × Int × Int × Int
abbrev encS (s : Sv) : List Value := [.string s.1, .string s.2.1, .int .u32 s.2.2.1, .int .u32 s.2.2.2.1, .int .u32 s.2.2.2.2.1, .int .u32 s.2.2.2.2.2.1, .int .u32 s.2.2.2.2.2.2]
abbrev vS (s : Sv) : Value := .agg #[.string s.1, .string s.2.1, .int .u32 s.2.2.1, .int .u32 s.2.2.2.1, .int .u32 s.2.2.2.2.1, .int .u32 s.2.2.2.2.2.1, .int .u32 s.2.2.2.2.2.2]
abbrev s0 : Sv := (⟨#[]⟩, ⟨#[]⟩, 0, 0, 0, 0, 0)
abbrev sB (b : Nat) (s : Sv) : Nat × Obj := (b, .cells (encS s).toArray 67 (0, 0))
def g32 (s : ByteArray) (k : Nat) : Int := ((g16 s k * 65536 + g16 s (k + 2) : Nat) : Int)
def soaT (d : ByteArray) : ByteArray := (cutN (cutN d).2.1).2.1
def soaS (d : ByteArray) : Sv := if soaN d then ((cutN d).1, (cutN (cutN d).2.1).1, g32 (soaT d) 0, g32 (soaT d) 4, g32 (soaT d) 8, g32 (soaT d) 12, g32 (soaT d) 16) else s0
def soaK (d : ByteArray) (k : Nat) : Sv := ((cutN d).1, (cutN (cutN d).2.1).1, if 0 < k then g32 (soaT d) 0 else 0, if 1 < k then g32 (soaT d) 4 else 0, if 2 < k then g32 (soaT d) 8 else 0, if 3 < k then g32 (soaT d) 12 else 0, if 4 < k then g32 (soaT d) 16 else 0)
theorem Parse_runs (d : ByteArray) (hs : d.size ≤ 4611686018427387904) (I : IMem) (S : SH) : Runs Tryz.prog 54 #[.string d] I S fun v _ T => v = .tuple #[vS (soaS d), .bool (soaN d)] ∧ T = S := by
  refine Runs.drop (soa_Parse_fn _ _ _ _ ?_)
  unfold soa_Parse
  intro b2 b4
  refine (Cut_runs d hs I _).mono ?_
  rintro v J T hle ⟨rfl, rfl⟩
  have bad : ∀ {x : Value} {J : IMem} {s : Sv}, soaN d = false → x = .tuple #[vS s0, .bool false] → ∃ L, Sub L (sB b4 s :: sB b2 s0 :: S) ∧ x = .tuple #[vS (soaS d), .bool (soaN d)] ∧ L = S := fun h e => ⟨S, ((Sub.refl S).skip _).skip _, by rw [e, soaS, h]; rfl, rfl⟩
  refine ⟨_, _, _, rfl, StP.cells (L' := encS ((cutN d).1, ⟨#[]⟩, 0, 0, 0, 0, 0)) (by simp) rfl rfl ?_⟩
  refine bcase_not (bcase_of (fun h1 => ?_) (fun h1 => ?_))
  · unfold soa_Parse_b1
    refine (Cut_runs (cutN d).2.1 (Nat.le_trans (goC_size _ _ _) hs) J _).mono ?_
    rintro v J2 T2 hle2 ⟨rfl, rfl⟩
    refine ⟨_, _, _, rfl, StP.at_ (add_mk _ _ _) (StP.cells (L' := encS ((cutN d).1, (cutN (cutN d).2.1).1, 0, 0, 0, 0, 0)) (by simp) rfl rfl ?_)⟩
    have hbad : soaN d = false → soa_Parse_b2 (fun v J T => ∃ L, Sub L T ∧ v = .tuple #[vS (soaS d), .bool (soaN d)] ∧ L = S) (cutN (cutN d).2.1).2.1 ⟨b2, 0, none⟩ ⟨b4, 0, none⟩ true J2 (sB b4 ((cutN d).1, (cutN (cutN d).2.1).1, 0, 0, 0, 0, 0) :: sB b2 s0 :: S) := by
      intro h
      unfold soa_Parse_b2
      refine bcase_t rfl (StP.tl (StP.cells (L' := encS s0) (by simp) rfl rfl ?_))
      exact ⟨_, Cell.tl (Cell.at0 rfl), _, Cell.tl (Cell.at0 rfl), _, Cell.tl (Cell.at0 rfl), _, Cell.tl (Cell.at0 rfl), _, Cell.tl (Cell.at0 rfl), _, Cell.tl (Cell.at0 rfl), _, Cell.tl (Cell.at0 rfl), bad (J := J2) h rfl⟩
    refine bcase_not (bcase_of (fun h2 => ?_) (fun h2 => hbad (by rw [soaN, h1, h2]; rfl)))
    by_cases h3 : (cutN (cutN d).2.1).2.1.size = 20
    · have hd : soaN d = true := by rw [soaN, h1, h2, h3]; rfl
      unfold soa_Parse_b2
      refine bcase_f (by simp [h3]) ?_
      unfold soa_Parse_b3
      intro b38
      unfold soa_Parse_b4
      generalize hpb : ((b38, Obj.cells #[.pointer (some ((⟨b4, 0, none⟩ : Addr).add 2)), .pointer (some ((⟨b4, 0, none⟩ : Addr).add 3)), .pointer (some ((⟨b4, 0, none⟩ : Addr).add 4)), .pointer (some ((⟨b4, 0, none⟩ : Addr).add 5)), .pointer (some ((⟨b4, 0, none⟩ : Addr).add 6))] 140 (0, 0)) : Nat × Obj) = pb
      refine ⟨fun m d' x2 s4 x xn xc q i J T => d' = soaT d ∧ x2 = ⟨b2, 0, none⟩ ∧ s4 = ⟨b4, 0, none⟩ ∧ x = some ⟨b38, 0, none⟩ ∧ xn = 5 ∧ q = 5 ∧ ∃ k : Nat, i = (k : Int) ∧ k ≤ 5 ∧ m = 5 - k ∧ T = pb :: sB b4 (soaK d k) :: sB b2 s0 :: S,
        5, ⟨rfl, rfl, rfl, rfl, rfl, rfl, 0, rfl, by decide, rfl, rfl⟩, ?_⟩
      rintro m d' x2 s4 x xn xc q i J T - ⟨rfl, rfl, rfl, rfl, rfl, rfl, k, rfl, hk, rfl, rfl⟩
      unfold soa_Parse_l5
      refine bcase_dec (fun h => ?_) (fun h => ?_)
      · have e4 : IntKind.wrap .i64 ((4 : Int) * (k : Int)) = ((4 * k : Nat) : Int) := by rw [wrap_i64 (by omega) (by omega)]; omega
        have e1 : IntKind.wrap .i64 ((k : Int) + 1) = ((k + 1 : Nat) : Int) := by rw [wrap_i64 (by omega) (by omega)]; rfl
        rw [e4, e1]
        have ht : (soaT d).size = 20 := h3
        have cell : ∃ x44, Cell J (pb :: sB b4 (soaK d k) :: sB b2 s0 :: S) ((⟨b38, 0, none⟩ : Addr).add ((k : Int).toNat * 1)) (.pointer (some x44)) ∧ x44 = ⟨b4, 2 + k, none⟩ := by
          subst hpb
          refine ⟨_, ?_, rfl⟩
          refine Cell.at_ (a' := ⟨b38, k, none⟩) (by rw [Int.toNat_natCast, Nat.mul_one, add_mk, Nat.zero_add]) (Cell.at0 ?_)
          have : k = 0 ∨ k = 1 ∨ k = 2 ∨ k = 3 ∨ k = 4 := by omega
          rcases this with rfl | rfl | rfl | rfl | rfl <;> rfl
        obtain ⟨x44, hc, rfl⟩ := cell
        refine ⟨by omega, by omega, _, hc, (Get32_runs (soaT d) (4 * k) (by omega) (by omega) J _).mono ?_⟩
        rintro v J3 T3 hle3 ⟨rfl, rfl⟩
        rw [if_pos (by omega)]
        refine ⟨_, _, rfl, StP.tl (StP.cells (L' := encS (soaK d (k + 1))) ?_ rfl ?_ ?_)⟩
        · simp; omega
        · have : k = 0 ∨ k = 1 ∨ k = 2 ∨ k = 3 ∨ k = 4 := by omega
          rcases this with rfl | rfl | rfl | rfl | rfl <;> rfl
        · exact ⟨5 - (k + 1), by omega, rfl, rfl, rfl, rfl, rfl, rfl, k + 1, rfl, by omega, rfl, rfl⟩
      · obtain rfl : k = 5 := by omega
        unfold soa_Parse_b6
        refine ⟨_, Cell.tl (Cell.at0 rfl), _, Cell.tl (Cell.at0 rfl), _, Cell.tl (Cell.at0 rfl), _, Cell.tl (Cell.at0 rfl), _, Cell.tl (Cell.at0 rfl), _, Cell.tl (Cell.at0 rfl), _, Cell.tl (Cell.at0 rfl), StP.tl (StP.tl (StP.cells (L' := encS (soaK d 5)) (by simp) rfl rfl ?_))⟩
        refine ⟨_, Cell.tl (Cell.tl (Cell.at0 rfl)), _, Cell.tl (Cell.tl (Cell.at0 rfl)), _, Cell.tl (Cell.tl (Cell.at0 rfl)), _, Cell.tl (Cell.tl (Cell.at0 rfl)), _, Cell.tl (Cell.tl (Cell.at0 rfl)), _, Cell.tl (Cell.tl (Cell.at0 rfl)), _, Cell.tl (Cell.tl (Cell.at0 rfl)), S, (((Sub.refl S).skip _).skip _).skip _, ?_, rfl⟩
        rw [soaS, hd]; rfl
    · rw [show (((cutN (cutN d).2.1).2.1.size : Int) != (20 : Int)) = true by simp; omega]
      exact hbad (by rw [soaN, h1, h2]; simpa using h3)
  · refine StP.tl (StP.cells (L' := encS s0) (by simp) rfl rfl ?_)
    exact ⟨_, Cell.tl (Cell.at0 rfl), _, Cell.tl (Cell.at0 rfl), _, Cell.tl (Cell.at0 rfl), _, Cell.tl (Cell.at0 rfl), _, Cell.tl (Cell.at0 rfl), _, Cell.tl (Cell.at0 rfl), _, Cell.tl (Cell.at0 rfl), bad (J := J) (by rw [soaN, h1]; rfl) rfl⟩
def soaO (r : Rc) : Sv := if r.2.1 = 6 then soaS r.2.2.2 else s0
def soaB (r : Rc) : Bool := isSoa r && soaN r.2.2.2
theorem Of_runs (r : Rc) (hs : r.2.2.2.size ≤ 4611686018427387904) (I : IMem) (S : SH) : Runs Tryz.prog 39 #[vR r] I S fun v _ T => v = .tuple #[vS (soaO r), .bool (soaB r)] ∧ T = S := by
  refine Runs.drop (soa_Of_fn _ _ _ _ _ _ _ ?_)
  unfold soa_Of
  intro b1 b2
  refine ⟨_, Cell.tl (Cell.at0 rfl), bcase_bne (fun h => ?_) (fun h => ?_)⟩
  · have hb : soaB r = false := by rw [soaB, isSoa]; simp [h]
    have ho : soaO r = s0 := by rw [soaO, if_neg h]
    refine StP.cells (L' := encS s0) (by simp) rfl rfl ?_
    exact ⟨_, Cell.at0 rfl, _, Cell.at0 rfl, _, Cell.at0 rfl, _, Cell.at0 rfl, _, Cell.at0 rfl, _, Cell.at0 rfl, _, Cell.at0 rfl, S, ((Sub.refl S).skip _).skip _, by rw [ho, hb], rfl⟩
  · have hb : soaB r = soaN r.2.2.2 := by rw [soaB, isSoa, h]; rfl
    have ho : soaO r = soaS r.2.2.2 := by rw [soaO, if_pos h]
    refine ⟨_, Cell.tl (Cell.at0 rfl), (Parse_runs r.2.2.2 hs I _).mono ?_⟩
    rintro v J T hle ⟨rfl, rfl⟩
    refine ⟨_, _, _, _, _, _, _, _, rfl, StP.cells (L' := encS (soaS r.2.2.2)) (by simp) rfl rfl ?_⟩
    exact ⟨_, Cell.at0 rfl, _, Cell.at0 rfl, _, Cell.at0 rfl, _, Cell.at0 rfl, _, Cell.at0 rfl, _, Cell.at0 rfl, _, Cell.at0 rfl, S, ((Sub.refl S).skip _).skip _, by rw [ho, hb], rfl⟩
def serT (r : Rc) : Int := (soaO r).2.2.1
theorem serial_runs (r : Rc) (hs : r.2.2.2.size ≤ 4611686018427387904) (I : IMem) (S : SH) : Runs Tryz.prog 65 #[vR r] I S fun v _ T => v = .int .u32 (serT r) ∧ T = S := by
  refine Runs.drop (stream_serial_fn _ _ _ _ _ _ _ ?_)
  unfold stream_serial
  intro b1
  refine ⟨_, Cell.at0 rfl, _, Cell.at0 rfl, _, Cell.at0 rfl, _, Cell.at0 rfl, (Of_runs r hs I _).mono ?_⟩
  rintro v J T hle ⟨rfl, rfl⟩
  refine ⟨_, _, _, _, _, _, _, _, rfl, fun b3 => StP.cells (L' := encS (soaO r)) (by simp) rfl rfl ?_⟩
  exact ⟨_, Cell.at0 rfl, S, ((Sub.refl S).skip _).skip _, rfl, rfl⟩
def laterF (a b : Int) : Bool := decide (IntKind.wrap .u32 (a - b) > 0) && decide (IntKind.wrap .u32 (a - b) < 2147483648)
theorem Later_runs (a b : Int) (I : IMem) (S : SH) : Runs Tryz.prog 20 #[.int .u32 a, .int .u32 b] I S fun v _ T => v = .bool (laterF a b) ∧ T = S := by
  refine serial_Later_fn _ _ _ _ _ ?_
  unfold serial_Later serial_Later_b1 laterF
  refine bcase_of (fun h => ?_) (fun h => ?_)
  · rw [h]; exact ⟨rfl, rfl⟩
  · rw [h]; exact ⟨rfl, rfl⟩
end Go.Proofs.YthlkeokfmedjhaaGreat
/- A call that leaves all blocks as they were only draws and lays blocks. -/
namespace Go.Px
open Go.RowKit Go.Sort
set_option linter.unusedVariables false
theorem Runs.grown {P : Program} {f : FuncId} {args : Array Value} {W : World} {u : Value} (h : Runs P f args (imW W) [] fun v _ _ => v = u) : Calls P f args W fun e W' => e = .returned u ∧ ∃ q os', W' = grow (W.drewN q) os' := by
  refine (h W (imW_sat W)).mono ?_
  rintro e W' ⟨v, J, T, rfl, hle, hs, rfl⟩
  have hb : ∀ i, i < W.heap.size → W'.heap[i]? = W.heap[i]? := fun i hi => by
    have h1 : (imW W).at_ i = some W.heap[i] := Array.getElem?_eq_getElem hi
    rw [hs.im i _ (hle.at_ i _ h1), Array.getElem?_eq_getElem hi]
  have hd : W.drawn ≤ W'.drawn := by have := hs.dr; rw [hle.dr] at this; exact this
  have hsz : W.heap.size ≤ W'.heap.size := by
    rcases Nat.lt_or_ge W'.heap.size W.heap.size with hlt | hge
    · have := hb W'.heap.size hlt
      rw [Array.getElem?_eq_none (Nat.le_refl _), Array.getElem?_eq_getElem hlt] at this
      cases this
    · exact hge
  have h1 : W'.os = W.os := hs.os.trans hle.os
  have h2 : W'.tape = W.tape := hs.tape.trans hle.tape
  have h3 : W'.output = W.output := hs.out.trans hle.out
  have hh : W'.heap = W.heap ++ W'.heap.extract W.heap.size W'.heap.size := by
    refine Array.ext_getElem? fun i => ?_
    rw [Array.getElem?_append]
    split
    · rename_i hi; exact hb i hi
    · rename_i hi
      rw [Array.getElem?_extract]
      split
      · congr 1; omega
      · rw [Array.getElem?_eq_none (by omega)]
  refine ⟨rfl, W'.drawn - W.drawn, W'.heap.extract W.heap.size W'.heap.size, ?_⟩
  obtain ⟨heap, tape, drawn, os, output⟩ := W'
  dsimp only at h1 h2 h3 hh hd ⊢
  subst h1; subst h2; subst h3
  unfold grow World.drewN
  dsimp only
  rw [← hh, Nat.add_sub_cancel' hd]
end Go.Px
/- A row that was sorted, in the heap. -/
namespace Go.Px
open Go.RowKit Go.Sort Go.Shelf Go.Proofs
set_option linter.unusedVariables false
set_option linter.unusedSimpArgs false
section
variable {α : Type} [Inhabited α] {enc : α → List Value} {k : Nat}
theorem flat_eq (he : ∀ x, (enc x).length = k) (ys : List α) : flatK enc k ys.toArray = (ys.flatMap enc).toArray := by
  refine ext_get! (by simp [flatMap_len he]) fun t ht => ?_
  have ht' : t < ys.length * k := by simpa using ht
  have k0 : 0 < k := by
    rcases Nat.eq_zero_or_pos k with h | h
    · subst h; simp at ht'
    · exact h
  have hi : t / k < ys.length := (Nat.div_lt_iff_lt_mul k0).2 ht'
  have hj : t % k < k := Nat.mod_lt _ k0
  rw [get_flatK _ _ _ t (by simpa using ht')]
  have hx : ys[t / k]? = some ys[t / k] := List.getElem?_eq_getElem hi
  have h1 := flatMap_get he ys (t / k) (t % k) _ hx hj
  rw [Nat.div_add_mod'] at h1
  have h2 : ys.toArray[t / k]! = ys[t / k] := by
    rw [getElem!_pos _ _ (by simpa using hi)]; simp
  rw [h2]
  have hl : t < (ys.flatMap enc).length := by rw [flatMap_len he]; exact ht'
  rw [getElem!_pos (ys.flatMap enc).toArray t (by simpa using hl), getElem!_pos (enc ys[t / k]) (t % k) (by rw [he]; exact hj)]
  rw [List.getElem?_eq_getElem hl, List.getElem?_eq_getElem (by rw [he]; exact hj)] at h1
  injection h1 with h1
  simpa using h1.symm
theorem put_eq (he : ∀ x, (enc x).length = k) {xs ys : List α} {rest : List Value} (hl : ys.length = xs.length) : putCells id 0 (flatK enc k ys.toArray) (xs.flatMap enc ++ rest).toArray = (ys.flatMap enc ++ rest).toArray := by
  rw [flat_eq he]
  refine Array.ext_getElem? fun i => ?_
  simp only [putCells, Array.getElem?_mapIdx, List.getElem?_toArray, Nat.zero_le, true_and, Nat.zero_add, Nat.sub_zero, List.size_toArray, id_eq]
  have e1 : (ys.flatMap enc).length = (xs.flatMap enc).length := by rw [flatMap_len he, flatMap_len he, hl]
  by_cases hi : i < (ys.flatMap enc).length
  · rw [List.getElem?_append_left (by omega), List.getElem?_append_left hi, List.getElem?_eq_getElem (by omega), List.getElem?_eq_getElem hi]
    simp only [Option.map_some, if_pos hi]
    rw [getElem!_pos (ys.flatMap enc).toArray i (by simpa using hi)]
    simp
  · rw [List.getElem?_append_right (by omega), List.getElem?_append_right (by omega), e1]
    cases rest[i - (xs.flatMap enc).length]? with
    | none => rfl
    | some v => simp only [Option.map_some]; rw [if_neg (by omega)]
theorem holds_row (he : ∀ x, (enc x).length = k) {I : IMem} {F : SH} {w : World} {blk : Nat} {e : TypeId} {xs : List α} {rest : List Value} (hw : Sat I ((blk, .cells (xs.flatMap enc ++ rest).toArray e (0, 0)) :: F) w) : HoldsK enc k w blk 0 xs.toArray := by
  have hb := hw.own _ (List.mem_cons_self ..)
  dsimp only at hb
  intro j hj
  rw [flat_eq he] at hj ⊢
  have hj' : j < (xs.flatMap enc).length := by simpa using hj
  rw [Nat.zero_add]
  constructor
  · simp only [World.cell?, hb, Option.isSome_none, Bool.false_eq_true, if_false, List.getElem?_toArray]
    rw [List.getElem?_append_left hj', List.getElem?_eq_getElem hj', getElem!_pos (xs.flatMap enc).toArray j (by simpa using hj')]
    simp
  · simp only [World.frozen?, hb]
    simp
theorem Sat.sorted (he : ∀ x, (enc x).length = k) {I : IMem} {F : SH} {w : World} {blk : Nat} {e : TypeId} {xs ys : List α} {rest : List Value} (hw : Sat I ((blk, .cells (xs.flatMap enc ++ rest).toArray e (0, 0)) :: F) w) (hl : ys.length = xs.length) (n : Nat) (os : Array Obj) :
    Sat I ((blk, .cells (ys.flatMap enc ++ rest).toArray e (0, 0)) :: F) (sortWorldK enc k w blk 0 n ys.toArray os) := by
  have hb := hw.own _ (List.mem_cons_self ..)
  dsimp only at hb
  have hlt : ∀ b o, w.heap[b]? = some o → b < w.heap.size := fun b o h => by
    rcases Nat.lt_or_ge b w.heap.size with g | g
    · exact g
    · rw [Array.getElem?_eq_none g] at h; cases h
  have hheap : (sortWorldK enc k w blk 0 n ys.toArray os).heap = w.heap.modify blk (onCells (putCells id 0 (flatK enc k ys.toArray))) ++ os := rfl
  have hold : ∀ b o, b ≠ blk → w.heap[b]? = some o → (sortWorldK enc k w blk 0 n ys.toArray os).heap[b]? = some o := fun b o hne h => by
    rw [hheap, Array.getElem?_append, if_pos (by rw [Array.size_modify]; exact hlt b o h), Array.getElem?_modify, if_neg (fun e => hne e.symm)]
    exact h
  have hnd := hw.nodup
  simp only [List.map_cons, List.nodup_cons] at hnd
  refine ⟨hw.os, hw.tape, hw.out, Nat.le_trans hw.dr (Nat.le_add_right _ _), fun b o hb' => hold b o (fun e => ?_) (hw.im b o hb'), fun p hp => ?_, fun p hp => ?_, by simpa using hw.nodup⟩
  · subst e
    have := hw.apart _ (List.mem_cons_self ..)
    rw [this] at hb'; cases hb'
  · rcases List.mem_cons.1 hp with rfl | hp
    · rw [hheap, Array.getElem?_append, if_pos (by rw [Array.size_modify]; exact hlt _ _ hb), Array.getElem?_modify, if_pos rfl, hb]
      simp only [Option.map_some, onCells, put_eq he hl]
    · exact hold _ _ (fun e => hnd.1 (e ▸ List.mem_map_of_mem hp)) (hw.own p (List.mem_cons_of_mem _ hp))
  · rcases List.mem_cons.1 hp with rfl | hp
    · exact hw.apart (blk, .cells (xs.flatMap enc ++ rest).toArray e (0, 0)) (List.mem_cons_self ..)
    · exact hw.apart p (List.mem_cons_of_mem _ hp)
end
end Go.Px
/- The library's sort of structs, as a contract of ours. -/
namespace Go.Px
open Go.RowKit Go.Sort Go.Shelf Go.Proofs Go.Lib
set_option linter.unusedVariables false
section
variable {P : Program} {ρ : Ren} {α : Type} [Inhabited α]
theorem cmp_lays {enc : α → List Value} {k : Nat} {cf : α → α → Int} {g : Nat} (hcmp : ∀ x y (I : IMem) (S : SH), Runs P g #[.agg (enc x).toArray, .agg (enc y).toArray] I S fun v _ _ => v = .int .i64 (cf x y)) (blk off size : Nat) (w : World) : CmpLays P g #[] enc k cf blk off size w := by
  intro m os dk _ x y
  exact (hcmp x y _ []).grown
theorem pdq_runs (L : SlLaysF0.n14 P ρ) (k : Nat) (aE : ∀ w, (isAgg (ρ.t 24)).run P w = .ok true w) (zE : ∀ w, (Go.sizeOf (ρ.t 24)).run P w = .ok k w) (enc : α → List Value) (hk : ∀ x, (enc x).length = k) (h1 : ∀ x, ∀ v ∈ enc x, v.oneCell' = true) (cf : α → α → Int) (hO : SWO (ltOf cf))
    (hT : ∀ x y, (ltOf cf) x y = false → (ltOf cf) y x = false → x = y) (g : Nat) (eg : ∀ args w, (callFunc g args).run P w = .ok (.enter g args) w) (hcmp : ∀ x y (I : IMem) (S : SH), Runs P g #[.agg (enc x).toArray, .agg (enc y).toArray] I S fun v _ _ => v = .int .i64 (cf x y))
    {xs : List α} {blk cap : Nat} {e : TypeId} {rest : List Value} {I : IMem} {F : SH} {lim : Nat} (hsz : xs.length < 4611686018427387904) (hlim : lim < 4611686018427387904) :
    Runs P (ρ.f 14) #[.slice (some ⟨blk, 0, none⟩) xs.length cap, .int .i64 0, .int .i64 (xs.length : Int), .int .i64 (lim : Int), .func (.func g) #[] #[]] I ((blk, .cells (xs.flatMap enc ++ rest).toArray e (0, 0)) :: F) fun v _ T => v = .tuple #[] ∧ T = (blk, .cells ((xs.mergeSort fun x y => !(ltOf cf) y x).flatMap enc ++ rest).toArray e (0, 0)) :: F := by
  intro w hw
  have hb := hw.own _ (List.mem_cons_self ..)
  have hlt : blk < w.heap.size := by
    rcases Nat.lt_or_ge blk w.heap.size with h | h
    · exact h
    · rw [Array.getElem?_eq_none h] at hb; cases hb
  have hH := holds_row hk hw
  have hs : xs.toArray.size = xs.length := List.size_toArray
  have h := AnyQ.pdqsortCmpFunc_all L k aE zE enc cf g #[] hO blk 0 cap xs.toArray w eg (cmp_lays hcmp blk 0 _ w) ⟨hk, h1, hH, hlt⟩ (xs.toArray.size + 1) 0 xs.toArray.size lim xs.toArray w (by omega) rfl (SWK.start hH) (Nat.zero_le _) (Nat.le_refl _) (by rw [hs]; exact hsz) hlim (Or.inl rfl)
  have hp := pdq_sorts (ltOf cf) hO xs.toArray 0 xs.toArray.size lim true true (Nat.zero_le _) (Nat.le_refl _) (Or.inl rfl)
  have hu := sorted_unique_holds hO hT xs.toArray _ hp.1 hp.2
  rw [hs] at h
  refine h.mono ?_
  rintro e' w' ⟨rfl, n, os, rfl⟩
  refine ⟨_, I, _, rfl, IMem.le.refl I, ?_, rfl, rfl⟩
  rw [hs] at hu
  have hm := Sat.sorted (ys := xs.mergeSort fun x y => !(ltOf cf) y x) hk hw (List.length_mergeSort _) n os
  rw [← hu] at *
  exact hm
theorem bitlen_runs (L : SlLaysF0.n14 P ρ) {n : Nat} (hn : n < 4611686018427387904) (I : IMem) (S : SH) : Runs P (ρ.f 15) #[.int .u64 (n : Int)] I S fun v _ T => (∃ l : Nat, v = .int .i64 (l : Int) ∧ l < 4611686018427387904) ∧ T = S := by
  intro w hw
  have h := Any.bits_Len (SlLaysF0.n15.bits (P := P) (ρ := ρ) { L with }) (n : Int) w (by omega) (by omega)
  rw [Int.toNat_natCast] at h
  refine h.mono ?_
  rintro e w' ⟨rfl, rfl⟩
  exact ⟨_, I, _, rfl, IMem.le.refl I, hw, ⟨_, rfl, Nat.lt_of_le_of_lt (Lib.bitLen_le n 62 (by omega) (by omega)) (by omega)⟩, rfl⟩
end
end Go.Px
/- Records sorted by the library, and sorted one by one: plain laws. -/
namespace Go.Proofs.YthlkeokfmedjhaaGreat
open Go.Px Go.RowKit Go.Sort Go.Shelf Go.Lib
set_option linter.unusedVariables false
set_option linter.unusedSimpArgs false

abbrev leR (x y : Rc) : Bool := !(ltOf cmpR) y x
def msR (rs : List Rc) : List Rc := rs.mergeSort leR
theorem leR_iff {x y : Rc} : leR x y = true ↔ ¬ cmpR y x < 0 := by simp [leR, ltOf]
theorem leR_trans (a b c : Rc) (h : leR a b = true) (g : leR b c = true) : leR a c = true := by
  rw [leR_iff] at *
  intro k
  by_cases e : a = b
  · subst e; exact g k
  · have h1 := gt_of h (fun h => e h.symm)
    exact g (cmR.trans _ _ _ k h1)
theorem leR_total (a b : Rc) : (leR a b || leR b a) = true := by
  rw [Bool.or_eq_true, leR_iff (x := a), leR_iff (x := b)]
  by_cases h : cmpR b a < 0
  · exact .inr fun g => lt_asy h g
  · exact .inl h
theorem msR_perm (rs : List Rc) : (msR rs).Perm rs := List.mergeSort_perm rs leR
theorem msR_len (rs : List Rc) : (msR rs).length = rs.length := (msR_perm rs).length_eq
theorem msR_le (rs : List Rc) : (msR rs).Pairwise fun x y => leR x y = true := List.pairwise_mergeSort leR_trans leR_total rs
theorem leR_asy {x y : Rc} (h : leR x y = true) (g : leR y x = true) : x = y := by
  rw [leR_iff] at h g
  by_cases e : x = y
  · exact e
  · exact absurd (gt_of h (fun h => e h.symm)) g
theorem swoR : SWO (ltOf cmpR) where
  irrefl x := by simp [ltOf]; rw [cmR.refl]; decide
  trans x y z h1 h2 := by simp [ltOf] at *; exact cmR.trans _ _ _ h1 h2
  ntrans x y z h1 h2 := by
    have a : leR y x = true := by simp [leR, h1]
    have b : leR z y = true := by simp [leR, h2]
    have := leR_trans _ _ _ b a
    simpa [leR] using this
theorem totR (x y : Rc) (h : (ltOf cmpR) x y = false) (g : (ltOf cmpR) y x = false) : x = y := leR_asy (by simp [leR, g]) (by simp [leR, h])
/-- one comes twice: beside itself, once it is sorted -/
theorem msR_nodup {rs : List Rc} (h : ∀ k x, (msR rs)[k]? = some x → (msR rs)[k + 1]? ≠ some x) : (msR rs).Nodup := by
  have hp := msR_le rs
  refine List.pairwise_iff_getElem.2 fun i j hi hj hij e0 => ?_
  have e : (msR rs)[i]? = (msR rs)[j]? := by rw [List.getElem?_eq_getElem hi, List.getElem?_eq_getElem hj, e0]
  obtain ⟨x, hx⟩ : ∃ x, (msR rs)[i]? = some x := ⟨_, List.getElem?_eq_getElem (by omega)⟩
  obtain ⟨y, hy⟩ : ∃ y, (msR rs)[i + 1]? = some y := ⟨_, List.getElem?_eq_getElem (by omega)⟩
  rw [hx] at e
  have le : ∀ a b u v, a < b → (msR rs)[a]? = some u → (msR rs)[b]? = some v → leR u v = true := fun a b u v hab hu hv => by
    obtain ⟨ha, rfl⟩ := List.getElem?_eq_some_iff.1 hu
    obtain ⟨hb, rfl⟩ := List.getElem?_eq_some_iff.1 hv
    exact List.pairwise_iff_getElem.1 hp a b ha hb hab
  have h1 := le i (i + 1) x y (by omega) hx hy
  have h2 : leR y x = true := by
    by_cases hj1 : i + 1 = j
    · subst hj1; rw [← e] at hy; injection hy with hy; rw [hy, leR_iff]; exact fun h => lt_irr h
    · exact le (i + 1) j y x (by omega) hy e.symm
  have := leR_asy h1 h2
  rw [this] at hx
  exact h i y hx hy
theorem msR_SS {rs : List Rc} (h : (msR rs).Nodup) : SS (msR rs) := by
  refine List.Pairwise.imp₂ ?_ (msR_le rs) h
  intro a b h1 h2
  rw [leR_iff] at h1
  exact gt_of h1 fun e => h2 e.symm
end Go.Proofs.YthlkeokfmedjhaaGreat
/-
  DERIVED: THE SHELF's CONTRACTS AT THIS DUMP, IN PLAIN WORDS (tools/lay-plain.mjs out of 'YthlkeokfmedjhaaGreatGr0.lean', which tools/lay-shelf.mjs wrote): THE SAME DECLARATIONS UNDER THE SAME NAMES: 'import', 'namespace', 'open', 'def', 'theorem' AND NOTHING ELSE: no command of the shelf's: FOR A HAND-IN. Each laying: the table of numbers ('.._ren') and one theorem, a field a fact of the dump's own or the kernel's comparison; each contract: ONE APPLICATION.
-/
namespace Go.Proofs
open Go.Shelf
def Tryz.pdqRec_ren : Go.Shelf.Ren := ⟨fun | 14 => 78 | 20 => 95 | 21 => 96 | 22 => 97 | 23 => 98 | 24 => 99 | 25 => 100 | 26 => 101 | 27 => 102 | 46 => 114 | 47 => 115 | 48 => 116 | 49 => 117 | 50 => 118 | 15 => 79 | 57 => 121 | 28 => 103 | 29 => 104 | n => n, fun | 24 => 32 | 22 => 38 | 3 => 3 | 25 => 105 | 4 => 4 | 0 => 0 | 46 => 169 | 45 => 168 | 50 => 133 | 66 => 186 | 39 => 121 | 55 => 176 | 70 => 190 | 76 => 193 | 77 => 194 | 53 => 30 | 5 => 5 | 9 => 9 | n => n, fun | n => n⟩
theorem Tryz.pdqRec : Go.Proofs.SlLaysF0.n14 Tryz.prog Tryz.pdqRec_ren := {
  mixed := by kernel_rfl
  f14 := ⟨Tryz.f78.name, by decide, Tryz.func78.trans (congrArg some (by kernel_rfl))⟩
  f15 := Tryz.func79.trans (congrArg some (by kernel_rfl))
  f20 := ⟨Tryz.f95.name, by decide, Tryz.func95.trans (congrArg some (by kernel_rfl))⟩
  f21 := ⟨Tryz.f96.name, by decide, Tryz.func96.trans (congrArg some (by kernel_rfl))⟩
  f22 := ⟨Tryz.f97.name, by decide, Tryz.func97.trans (congrArg some (by kernel_rfl))⟩
  f23 := ⟨Tryz.f98.name, by decide, Tryz.func98.trans (congrArg some (by kernel_rfl))⟩
  f24 := ⟨Tryz.f99.name, by decide, Tryz.func99.trans (congrArg some (by kernel_rfl))⟩
  f25 := ⟨Tryz.f100.name, by decide, Tryz.func100.trans (congrArg some (by kernel_rfl))⟩
  f26 := ⟨Tryz.f101.name, by decide, Tryz.func101.trans (congrArg some (by kernel_rfl))⟩
  f27 := ⟨Tryz.f102.name, by decide, Tryz.func102.trans (congrArg some (by kernel_rfl))⟩
  f28 := Tryz.func103.trans (congrArg some (by kernel_rfl))
  f29 := Tryz.func104.trans (congrArg some (by kernel_rfl))
  f46 := ⟨Tryz.f114.name, by decide, Tryz.func114.trans (congrArg some (by kernel_rfl))⟩
  f47 := Tryz.func115.trans (congrArg some (by kernel_rfl))
  f48 := Tryz.func116.trans (congrArg some (by kernel_rfl))
  f49 := ⟨Tryz.f117.name, by decide, Tryz.func117.trans (congrArg some (by kernel_rfl))⟩
  f50 := ⟨Tryz.f118.name, by decide, Tryz.func118.trans (congrArg some (by kernel_rfl))⟩
  f57 := ⟨Tryz.f121.name, by decide, Tryz.func121.trans (congrArg some (by kernel_rfl))⟩
  t0 := Tryz.underlying0
  a0 := Tryz.isAgg0
  z0 := Tryz.sizeOf0
  v0 := Tryz.zeroValue0
  t3 := Tryz.underlying3
  a3 := Tryz.isAgg3
  z3 := Tryz.sizeOf3
  v3 := Tryz.zeroValue3
  t4 := Tryz.underlying4
  a4 := Tryz.isAgg4
  z4 := Tryz.sizeOf4
  v4 := Tryz.zeroValue4
  t5 := Tryz.underlying5
  a5 := Tryz.isAgg5
  z5 := Tryz.sizeOf5
  v5 := Tryz.zeroValue5
  t9 := Tryz.underlying9
  a9 := Tryz.isAgg9
  z9 := Tryz.sizeOf9
  v9 := Tryz.zeroValue9
  t22 := Tryz.underlying38
  a22 := Tryz.isAgg38
  z22 := Tryz.sizeOf38
  v22 := Tryz.zeroValue38
  t25 := Tryz.underlying105
  a25 := Tryz.isAgg105
  z25 := Tryz.sizeOf105
  v25 := Tryz.zeroValue105
  t39 := Tryz.underlying121
  a39 := Tryz.isAgg121
  z39 := Tryz.sizeOf121
  v39 := Tryz.zeroValue121
  t45 := Tryz.underlying168
  a45 := Tryz.isAgg168
  z45 := Tryz.sizeOf168
  v45 := Tryz.zeroValue168
  t46 := Tryz.underlying169
  a46 := Tryz.isAgg169
  z46 := Tryz.sizeOf169
  v46 := Tryz.zeroValue169
  t50 := Tryz.underlying133
  a50 := Tryz.isAgg133
  z50 := Tryz.sizeOf133
  v50 := Tryz.zeroValue133
  t53 := Tryz.underlying30
  a53 := Tryz.isAgg30
  z53 := Tryz.sizeOf30
  v53 := Tryz.zeroValue30
  t55 := Tryz.underlying176
  a55 := Tryz.isAgg176
  z55 := Tryz.sizeOf176
  v55 := Tryz.zeroValue176
  t66 := Tryz.underlying186
  a66 := Tryz.isAgg186
  z66 := Tryz.sizeOf186
  v66 := Tryz.zeroValue186
  t70 := Tryz.underlying190
  a70 := Tryz.isAgg190
  z70 := Tryz.sizeOf190
  v70 := Tryz.zeroValue190
  t76 := Tryz.underlying193
  a76 := Tryz.isAgg193
  z76 := Tryz.sizeOf193
  v76 := Tryz.zeroValue193
  t77 := Tryz.underlying194
  a77 := Tryz.isAgg194
  z77 := Tryz.sizeOf194
  v77 := Tryz.zeroValue194 }
end Go.Proofs
/- The library's sort of a zone: what it leaves. -/
namespace Go.Proofs.YthlkeokfmedjhaaGreat
open Go.Px Go.RowKit Go.Sort Go.Shelf Go.Lib
set_option linter.unusedVariables false
set_option linter.unusedSimpArgs false

theorem cmp_enters (args : Array Value) (w : World) : (callFunc 63 args).run Tryz.prog w = .ok (.enter 63 args) w := enters_of Tryz.func63 (by kernel_rfl) rfl args w
theorem encR_one' (x : Rc) (v : Value) (h : v ∈ encR x) : v.oneCell' = true := by
  simp only [encR, List.mem_cons, List.not_mem_nil, or_false] at h
  rcases h with rfl | rfl | rfl | rfl <;> rfl
theorem SortF_runs {xs : List Rc} {v : Value} {own : SH} (hv : OwnZ v xs own) (hl : xs.length ≤ 1000000) (I : IMem) (F : SH) :
    Runs Tryz.prog 62 #[v, .func (.func 63) #[] #[]] I (own ++ F) fun v' _ T => v' = .tuple #[] ∧ ∃ own', OwnZ v (msR xs) own' ∧ T = own' ++ F := by
  have hc : ∀ x y (I : IMem) (S : SH), Runs Tryz.prog 63 #[.agg (encR x).toArray, .agg (encR y).toArray] I S fun v _ T => v = .int .i64 (cmpR x y) := fun x y I S => (Compare_runs x y I S).mono fun v J T _ h => h.1
  rcases hv with ⟨rfl, rfl, rfl⟩ | ⟨g, cap, rest, rfl, rfl, hcap, hcm⟩
  · refine slices_SortFunc_api_Record_fn _ _ _ _ _ _ ?_
    unfold slices_SortFunc_api_Record
    refine (bitlen_runs Tryz.pdqRec (n := 0) (by omega) I _).mono ?_
    rintro v J T hle ⟨⟨l, rfl, hlt⟩, rfl⟩
    refine ⟨_, rfl, ?_⟩
    intro w hw
    refine (AnyF.pdqsortCmpFunc_none Tryz.pdqRec none 0 (l : Int) (.func (.func 63) #[] #[]) w).mono ?_
    rintro e w' ⟨rfl, rfl⟩
    exact ⟨_, J, _, rfl, IMem.le.refl J, hw, rfl, rfl, [], (by rw [show msR [] = [] by simp [msR]]; exact OwnR.nil), rfl⟩
  · refine slices_SortFunc_api_Record_fn _ _ _ _ _ _ ?_
    unfold slices_SortFunc_api_Record
    rw [wrap_u64 (by omega) (by omega)]
    refine (bitlen_runs Tryz.pdqRec (n := xs.length) (by omega) I _).mono ?_
    rintro v J T hle ⟨⟨l, rfl, hlt⟩, rfl⟩
    refine ⟨_, rfl, (pdq_runs Tryz.pdqRec 4 (fun w => Tryz.isAgg32 w) (fun w => Tryz.sizeOf32 w) encR encR_len encR_one' cmpR swoR totR 63 cmp_enters hc (by omega) hlt).mono ?_⟩
    rintro v J2 T2 hle2 ⟨rfl, rfl⟩
    exact ⟨rfl, rfl, _, .inr ⟨g, cap, rest, by rw [msR_len], rfl, by rw [msR_len]; exact hcap, hcm⟩, rfl⟩
end Go.Proofs.YthlkeokfmedjhaaGreat
/- A zone made out of records: apply.Replace. -/
namespace Go.Proofs.YthlkeokfmedjhaaGreat
open Go.Px
set_option linter.unusedVariables false
set_option linter.unusedSimpArgs false

open Classical in
noncomputable def chkF (zs : List Rc) (o : ByteArray) : Int := if zs.length ≤ 256 ∧ sizeR zs ≤ 16384 then (if RightP zs o then 0 else 4) else 8
theorem chk_bad {zs : List Rc} {o : ByteArray} (h : ¬ (zs.length ≤ 256 ∧ sizeR zs ≤ 16384)) : chkF zs o = 8 := by unfold chkF; rw [if_neg h]
theorem chk_wrong {zs : List Rc} {o : ByteArray} (h : zs.length ≤ 256 ∧ sizeR zs ≤ 16384) (g : ¬ RightP zs o) : chkF zs o = 4 := by unfold chkF; rw [if_pos h, if_neg g]
theorem chk_ok {zs : List Rc} {o : ByteArray} (g : RightP zs o) : chkF zs o = 0 := by unfold chkF; rw [if_pos ⟨g.many, g.size⟩, if_pos g]
theorem checked_runs {zs : List Rc} {a : Option Addr} {c : Nat} {o : ByteArray} {I : IMem} {S : SH} (hx : RowIn I S a zs.length 4 encR zs) (hl : zs.length ≤ 1000000) (hsm : ∀ r ∈ zs, SmallR r) :
    Runs Tryz.prog 64 #[.string o, .slice a zs.length c] I S fun v _ T => (chkF zs o = 0 ∧ v = .tuple #[.slice a zs.length c, .nilIface] ∨ chkF zs o ≠ 0 ∧ v = .tuple #[.slice none 0 0, errV (some (chkF zs o))]) ∧ T = S := by
  have hs := sizeR_small hsm
  refine apply_checked_fn _ _ _ _ _ _ _ ?_
  unfold apply_checked
  refine (Fits_runs hx (by omega) (by omega)).mono ?_
  rintro v J T hle ⟨rfl, rfl⟩
  refine ⟨_, rfl, bcase_not (bcase_dec (fun h => ?_) (fun h => ?_))⟩
  · refine (Right_runs (o := o) (hx.le hle) (by omega) hsm).mono ?_
    rintro v J2 T2 hle2 ⟨⟨f, rfl, hf⟩, rfl⟩
    refine ⟨_, rfl, bcase_not (bcase_of (fun g => ?_) (fun g => ?_))⟩
    · exact ⟨.inl ⟨chk_ok (hf.1 g), rfl⟩, rfl⟩
    · rw [chk_wrong h fun k => by rw [hf.2 k] at g; cases g]; exact ⟨.inr ⟨by decide, rfl⟩, rfl⟩
  · rw [chk_bad h]; exact ⟨.inr ⟨by decide, rfl⟩, rfl⟩
open Classical in
noncomputable def repF (rs : List Rc) (o : ByteArray) : Option Int × List Rc :=
  if (msR rs).Nodup then (if chkF (msR rs) o = 0 then (none, msR rs) else (some (chkF (msR rs) o), [])) else (some 7, [])
theorem rep_twice {rs : List Rc} {o : ByteArray} (h : ¬ (msR rs).Nodup) : repF rs o = (some 7, []) := by unfold repF; rw [if_neg h]
theorem rep_ok {rs : List Rc} {o : ByteArray} (h : (msR rs).Nodup) (g : chkF (msR rs) o = 0) : repF rs o = (none, msR rs) := by unfold repF; rw [if_pos h, if_pos g]
theorem rep_bad {rs : List Rc} {o : ByteArray} (h : (msR rs).Nodup) (g : chkF (msR rs) o ≠ 0) : repF rs o = (some (chkF (msR rs) o), []) := by unfold repF; rw [if_pos h, if_neg g]
theorem msR_small {rs : List Rc} (h : ∀ r ∈ rs, SmallR r) : ∀ r ∈ msR rs, SmallR r := fun r hr => h r ((msR_perm rs).mem_iff.1 hr)
theorem Replace_runs {rs : List Rc} {a : Option Addr} {c : Nat} {o : ByteArray} {I : IMem} {S : SH} (hx : RowIn I S a rs.length 4 encR rs) (hl : rs.length ≤ 10000) (hsm : ∀ r ∈ rs, SmallR r) :
    Runs Tryz.prog 47 #[.string o, .slice a rs.length c] I S fun v _ T => ∃ p n d own, v = .tuple #[.slice p n d, errV (repF rs o).1] ∧ OwnZ (.slice p n d) (repF rs o).2 own ∧ Sub (own ++ S) T := by
  refine apply_Replace_fn _ _ _ _ _ _ _ ?_
  unfold apply_Replace
  refine (Clone2_runs hx (by omega)).mono ?_
  rintro v J1 T1 hle1 ⟨own1, ho1, G1, hG1⟩
  obtain ⟨p1, d1, rfl⟩ := ho1.slice
  refine ⟨_, _, _, rfl, Runs.perm (S' := own1 ++ (S ++ G1)) (by rw [← List.append_assoc]; exact hG1) ((SortF_runs ho1 (by omega) J1 (S ++ G1)).mono ?_)⟩
  rintro v J2 T2 hle2 ⟨rfl, own2, ho2, rfl⟩
  refine ⟨rfl, ?_⟩
  have hml := msR_len rs
  have hsz := msR_small hsm
  have hP := @rep_twice rs o
  have hB := @rep_bad rs o
  have hK := @rep_ok rs o
  have hnd := @msR_nodup rs
  rw [← hml] at ho2 ⊢
  generalize msR rs = zs at *
  have hs2 : Sub (own2 ++ S) (own2 ++ (S ++ G1)) := ⟨G1, by rw [List.append_assoc]⟩
  have rowz : ∀ {J : IMem} {T : SH}, Sub (own2 ++ S) T → RowIn J T p1 zs.length 4 encR zs := fun h => (ho2.row encR_len).sub h.left
  unfold apply_Replace_b1 apply_Replace_b2
  refine ⟨fun m o' z zn zc k J T => o' = o ∧ z = p1 ∧ zn = zs.length ∧ zc = d1 ∧ Sub (own2 ++ S) T ∧ ∃ j : Nat, k = ((j + 1 : Nat) : Int) ∧ j ≤ zs.length ∧ m = zs.length - j ∧ ∀ i x, i < j → zs[i]? = some x → zs[i + 1]? ≠ some x,
    zs.length, ⟨rfl, rfl, rfl, rfl, hs2, 0, rfl, Nat.zero_le _, rfl, fun i x h => by omega⟩, ?_⟩
  rintro m o' z zn zc k J T hle ⟨rfl, rfl, rfl, rfl, hT, j, rfl, hj, rfl, hall⟩
  unfold apply_Replace_l3 apply_Replace_b4
  refine bcase_dec (fun h => ?_) (fun h => ?_)
  · obtain ⟨x, hx1⟩ := get_lt (xs := zs) (k := j) (by omega)
    obtain ⟨y, hy1⟩ := get_lt (xs := zs) (k := j + 1) (by omega)
    have w1 : IntKind.wrap .i64 (((j + 1 : Nat) : Int) - 1) = (j : Int) := by rw [wrap_i64 (by omega) (by omega)]; omega
    have w2 : IntKind.wrap .i64 (((j + 1 : Nat) : Int) + 1) = ((j + 1 + 1 : Nat) : Int) := by rw [wrap_i64 (by omega) (by omega)]; rfl
    obtain ⟨ay, hae, hcy⟩ := (rowz (J := J) hT).cell hy1
    obtain ⟨ax, hae', hcx⟩ := (rowz (J := J) hT).cell hx1
    rw [hae] at hae'
    injection hae' with hae'
    subst hae'
    obtain ⟨y0, y1, y2, y3⟩ := CellsR hcy
    obtain ⟨x0, x1, x2, x3⟩ := CellsR hcx
    rw [hae, w1]
    refine ⟨by omega, by omega, _, y0, _, y1, _, y2, _, y3, by omega, by omega, _, x0, _, x1, _, x2, _, x3, ?_⟩
    unfold apply_Replace_b5 apply_Replace_b6
    rw [w2]
    refine bcase_of (fun g => ?_) (fun g => ?_)
    · have hxy : y = x := recEq.1 g
      subst hxy
      have : ¬ zs.Nodup := fun hn => by
        have := List.pairwise_iff_getElem.1 hn j (j + 1) (by omega) (by omega) (by omega)
        rw [List.getElem?_eq_getElem (by omega)] at hx1 hy1
        injection hx1 with hx1
        injection hy1 with hy1
        exact this (hx1.trans hy1.symm)
      rw [hP this]
      exact ⟨_, _, _, [], rfl, OwnR.nil, hT.right⟩
    · refine ⟨zs.length - (j + 1), by omega, rfl, hae ▸ rfl, rfl, rfl, hT, j + 1, rfl, by omega, rfl, fun i u hi hu => ?_⟩
      by_cases hij : i = j
      · subst hij
        rw [hx1] at hu
        injection hu with hu
        subst hu
        rw [hy1]
        intro e
        injection e with e
        rw [recEq.2 e] at g
        cases g
      · exact hall i u (by omega) hu
  · have hnd' : zs.Nodup := hnd fun k x hk => by
      by_cases hkj : k < j
      · exact hall k x hkj hk
      · rw [List.getElem?_eq_none (by omega)]; exact fun e => by cases e
    unfold apply_Replace_b7
    refine (checked_runs (o := o') (rowz (J := J) hT) (by omega) hsz).mono ?_
    rintro v J3 T3 hle3 ⟨hv, rfl⟩
    rcases hv with ⟨hc, rfl⟩ | ⟨hc, rfl⟩
    · rw [hK hnd' hc]
      exact ⟨_, _, _, _, rfl, _, _, _, own2, rfl, ho2, hT⟩
    · rw [hB hnd' hc]
      exact ⟨_, _, _, _, rfl, _, _, _, [], rfl, OwnR.nil, hT.right⟩
end Go.Proofs.YthlkeokfmedjhaaGreat
/- What a transfer's records are: right, all of a zone, up to the next SOA, whole. -/
namespace Go.Proofs.YthlkeokfmedjhaaGreat
open Go.Px
set_option linter.unusedVariables false
set_option linter.unusedSimpArgs false

def mayT (o : ByteArray) (r : Rc) : Bool := mayR r && (belowB r.1 o && !(isSoa r && !(r.1.toList == o.toList)))
def rightT (o : ByteArray) (rs : List Rc) : Bool := rs.all (mayT o) && (match rs with
  | [] => false
  | r :: _ => isSoa r)
theorem all_snoc {xs : List Rc} {k : Nat} {x : Rc} (p : Rc → Bool) (h : xs[k]? = some x) : (xs.take (k + 1)).all p = ((xs.take k).all p && p x) := by
  rw [List.take_add_one, h, List.all_append]; simp
theorem all_take {xs : List Rc} {k : Nat} {x : Rc} {p : Rc → Bool} (h : xs[k]? = some x) (hp : p x = false) : xs.all p = false := by
  rw [List.all_eq_false]
  exact ⟨x, List.mem_of_getElem? h, by simp [hp]⟩
abbrev SizeOK (xs : List Rc) : Prop := ∀ r ∈ xs, r.2.2.2.size ≤ 4611686018427387904
theorem right2_runs {xs : List Rc} {a : Option Addr} {c : Nat} {o : ByteArray} {I : IMem} {S : SH} (hx : RowIn I S a xs.length 4 encR xs) (hl : xs.length ≤ 1000000) (hsm : SizeOK xs) :
    Runs Tryz.prog 60 #[.string o, .slice a xs.length c] I S fun v _ T => v = .bool (rightT o xs) ∧ T = S := by
  refine Runs.drop (stream_right_fn _ _ _ _ _ _ _ ?_)
  unfold stream_right stream_right_b1 stream_right_b2
  refine ⟨fun m o' rs rsn rsc x xn xc q i J T => o' = o ∧ rs = a ∧ rsn = xs.length ∧ x = a ∧ xn = xs.length ∧ q = (xs.length : Int) ∧ Sub S T ∧ I.le J ∧ ∃ k : Nat, i = (k : Int) ∧ k ≤ xs.length ∧ m = xs.length - k ∧ (xs.take k).all (mayT o) = true,
    xs.length, ⟨rfl, rfl, rfl, rfl, rfl, rfl, Sub.refl S, IMem.le.refl I, 0, rfl, Nat.zero_le _, rfl, rfl⟩, ?_⟩
  rintro m o' rs rsn rsc x xn xc q i J T - ⟨rfl, rfl, rfl, rfl, rfl, rfl, hT, hle, k, rfl, hk, rfl, hall⟩
  have hrow := (hx.sub hT).le hle
  unfold stream_right_l3
  refine bcase_dec (fun h => ?_) (fun h => ?_)
  · obtain ⟨r, hr⟩ := get_lt (xs := xs) (k := k) (by omega)
    obtain ⟨a', rfl, hc⟩ := hrow.cell hr
    obtain ⟨c0, c1, c2, c3⟩ := CellsR hc
    have e1 : IntKind.wrap .i64 ((k : Int) + 1) = ((k + 1 : Nat) : Int) := by rw [wrap_i64 (by omega) (by omega)]; rfl
    have bad : mayT o' r = false → ∀ {L : SH}, Sub S L → ∃ L', Sub L' L ∧ Value.bool false = .bool (rightT o' xs) ∧ L' = S := fun h L hs => ⟨S, hs, by unfold rightT; rw [all_take hr h]; rfl, rfl⟩
    unfold stream_right_b4
    refine ⟨by omega, by omega, _, c0, _, c1, _, c2, _, c3, fun b6 => StP.rec (x := r) ?_⟩
    refine ⟨_, Cell.at0 rfl, _, Cell.at0 rfl, _, Cell.at0 rfl, _, Cell.at0 rfl, (MayRecord_runs r (hsm r (List.mem_of_getElem? hr)) _ _).mono ?_⟩
    rintro v J1 T1 hle1 ⟨rfl, rfl⟩
    unfold stream_right_b5 stream_right_b6
    refine ⟨_, rfl, bcase_not (bcase_of (fun h1 => ?_) (fun h1 => bcase_t rfl (bad (by rw [mayT, h1]; rfl) (hT.skip _))))⟩
    refine ⟨_, Cell.at0 rfl, (Below_runs _ _ _ _).mono ?_⟩
    rintro v J2 T2 hle2 ⟨rfl, rfl⟩
    refine ⟨_, rfl, bcase_not (bcase_of (fun h2 => ?_) (fun h2 => bcase_t rfl (bad (by rw [mayT, h1, h2]; rfl) (hT.skip _))))⟩
    have again : mayT o' r = true → ∃ m', m' < xs.length - k ∧ (o' = o' ∧ some a' = some a' ∧ xs.length = xs.length ∧ some a' = some a' ∧ xs.length = xs.length ∧ (xs.length : Int) = (xs.length : Int) ∧ Sub S ((b6, Obj.cells (encR r).toArray 32 (0, 0)) :: T) ∧ I.le J2 ∧ ∃ k' : Nat, IntKind.wrap .i64 ((k : Int) + 1) = (k' : Int) ∧ k' ≤ xs.length ∧ m' = xs.length - k' ∧ (xs.take k').all (mayT o') = true) := fun h3 =>
      ⟨xs.length - (k + 1), by omega, rfl, rfl, rfl, rfl, rfl, rfl, hT.skip _, (hle.trans hle1).trans hle2, k + 1, e1, by omega, rfl, by rw [all_snoc _ hr, hall, h3]; rfl⟩
    refine ⟨_, Cell.at0 rfl, bcase_of (fun h3 => ?_) (fun h3 => bcase_f rfl (again (by rw [mayT, h1, h2, isSoa, h3]; rfl)))⟩
    refine ⟨_, Cell.at0 rfl, bcase_of (fun h4 => bad (by rw [mayT, h1, h2, isSoa, h3, h4]; rfl) (hT.skip _)) (fun h4 => again (by rw [mayT, h1, h2, isSoa, h3, h4]; rfl))⟩
  · have hke : k = xs.length := by omega
    subst hke
    rw [List.take_length] at hall
    unfold stream_right_b7 stream_right_b8
    cases xs with
    | nil => exact bcase_f rfl ⟨S, hT, rfl, rfl⟩
    | cons r xs =>
      obtain ⟨a', rfl, hc⟩ := hrow.cell (i := 0) (x := r) rfl
      obtain ⟨c0, c1, c2, c3⟩ := CellsR hc
      refine bcase_t (by simp) ⟨by decide, by simp only [List.length_cons]; omega, _, c1, S, hT, ?_, rfl⟩
      rw [rightT, hall]; rfl

/-! ### all of a zone -/
def fullT (o : ByteArray) (rs : List Rc) : Option Int × List Rc :=
  if rightT o rs = true ∧ 2 ≤ rs.length ∧ rs[rs.length - 1]? = rs[0]? ∧ ((rs.take (rs.length - 1)).drop 1).all (fun r => !isSoa r) = true then (none, rs.take (rs.length - 1)) else (some 4, [])
theorem full_no {o : ByteArray} {rs : List Rc} (h : ¬ (rightT o rs = true ∧ 2 ≤ rs.length ∧ rs[rs.length - 1]? = rs[0]? ∧ ((rs.take (rs.length - 1)).drop 1).all (fun r => !isSoa r) = true)) : fullT o rs = (some 4, []) := if_neg h
theorem full_yes {o : ByteArray} {rs : List Rc} (h : rightT o rs = true ∧ 2 ≤ rs.length ∧ rs[rs.length - 1]? = rs[0]? ∧ ((rs.take (rs.length - 1)).drop 1).all (fun r => !isSoa r) = true) : fullT o rs = (none, rs.take (rs.length - 1)) := if_pos h
theorem Full_runs {xs : List Rc} {a : Option Addr} {c : Nat} {o : ByteArray} {I : IMem} {S : SH} (hx : RowIn I S a xs.length 4 encR xs) (hl : xs.length ≤ 1000000) (hc : xs.length ≤ c) (hsm : SizeOK xs) :
    Runs Tryz.prog 46 #[.string o, .slice a xs.length c] I S fun v _ T => DRes S v T (fullT o xs) := by
  refine stream_Full_fn _ _ _ _ _ _ _ ?_
  unfold stream_Full stream_Full_b1
  refine (right2_runs (o := o) hx hl hsm).mono ?_
  rintro v J T hle ⟨rfl, rfl⟩
  have bad : ¬ (rightT o xs = true ∧ 2 ≤ xs.length ∧ xs[xs.length - 1]? = xs[0]? ∧ ((xs.take (xs.length - 1)).drop 1).all (fun r => !isSoa r) = true) → ∀ {L : SH}, Sub T L → DRes T (.tuple #[.slice none 0 0, .iface 123 (.int .i64 4)]) L (fullT o xs) := fun h L hs => by
    rw [full_no h]
    exact ⟨none, 0, 0, [], rfl, OwnR.nil, hs⟩
  have hrow := hx.le hle
  refine ⟨_, rfl, ⟨hle, [], by simp⟩, ?_⟩
  unfold stream_Full_b2
  have en : IntKind.wrap .i64 ((xs.length : Int) - 1) = (xs.length : Int) - 1 := wrap_i64 (by omega) (by omega)
  rw [en]
  refine bcase_not (bcase_of (fun h1 => ?_) (fun h1 => bcase_t rfl (bad (fun e => by rw [e.1] at h1; cases h1) (Sub.refl T))))
  refine bcase_dec (fun h2 => bcase_t rfl (bad (fun e => by omega) (Sub.refl T))) (fun h2 => ?_)
  have hn : ((xs.length : Int) - 1).toNat = xs.length - 1 := by omega
  rw [hn]
  obtain ⟨y, hy⟩ := get_lt (xs := xs) (k := xs.length - 1) (by omega)
  obtain ⟨z, hz⟩ := get_lt (xs := xs) (k := 0) (by omega)
  obtain ⟨a', rfl, hcy⟩ := hx.cell hy
  obtain ⟨a2, ha2, hcz⟩ := hx.cell hz
  injection ha2 with ha2
  subst ha2
  obtain ⟨y0, y1, y2, y3⟩ := CellsR hcy
  obtain ⟨z0, z1, z2, z3⟩ := CellsR hcz
  refine ⟨by omega, by omega, _, y0, _, y1, _, y2, _, y3, by decide, by omega, _, z0, _, z1, _, z2, _, z3, ?_⟩
  refine bcase_not (bcase_of (fun h3 => ?_) (fun h3 => bad (fun e => ?_) (Sub.refl T)))
  · have hyz : y = z := recEq.1 h3
    subst hyz
    unfold stream_Full_b3
    rw [hn]
    refine ⟨by omega, by omega, by decide, by omega, ?_⟩
    have hms : ((xs.take (xs.length - 1)).drop 1).length = xs.length - 1 - 1 := by rw [List.length_drop, List.length_take]; omega
    have hmid : RowIn J T (slA (some a') c ((1 : Int).toNat) 4) ((xs.take (xs.length - 1)).drop 1).length 4 encR ((xs.take (xs.length - 1)).drop 1) := by
      rw [hms]
      exact (hrow.take (j := xs.length - 1) (by omega)).drop (by omega) (by omega)
    rw [show xs.length - 1 - (1 : Int).toNat = ((xs.take (xs.length - 1)).drop 1).length by rw [hms]; rfl]
    generalize hms2 : (xs.take (xs.length - 1)).drop 1 = ms at hmid bad hms ⊢
    generalize slA (some a') c ((1 : Int).toNat) 4 = am at hmid
    unfold stream_Full_b4
    refine ⟨fun m rs rsn rsc n x xn xc q i J' T' => rs = some a' ∧ rsn = xs.length ∧ rsc = c ∧ n = (xs.length : Int) - 1 ∧ x = am ∧ xn = ms.length ∧ q = (ms.length : Int) ∧ Sub T T' ∧ J.le J' ∧ ∃ k : Nat, i = (k : Int) ∧ k ≤ ms.length ∧ m = ms.length - k ∧ (ms.take k).all (fun r => !isSoa r) = true,
      ms.length, ⟨rfl, rfl, rfl, rfl, rfl, rfl, rfl, Sub.refl T, IMem.le.refl J, 0, rfl, Nat.zero_le _, rfl, rfl⟩, ?_⟩
    rintro m rs rsn rsc n x xn xc q i J' T' - ⟨rfl, rfl, rfl, rfl, rfl, rfl, rfl, hT, hle', k, rfl, hk, rfl, hall⟩
    unfold stream_Full_l5
    refine bcase_dec (fun h => ?_) (fun h => ?_)
    · obtain ⟨r, hr⟩ := get_lt (xs := ms) (k := k) (by omega)
      obtain ⟨a3, rfl, hcr⟩ := ((hmid.sub hT).le hle').cell hr
      obtain ⟨c0, c1, c2, c3⟩ := CellsR hcr
      have e1 : IntKind.wrap .i64 ((k : Int) + 1) = ((k + 1 : Nat) : Int) := by rw [wrap_i64 (by omega) (by omega)]; rfl
      refine ⟨by omega, by omega, _, c0, _, c1, _, c2, _, c3, fun b8 => StP.rec (x := r) ⟨_, Cell.at0 rfl, bcase_of (fun h4 => bad (fun e => ?_) (hT.skip _)) (fun h4 => ?_)⟩⟩
      · have hf := all_take (p := fun r => !isSoa r) hr (by show (!(r.2.1 == 6)) = false; rw [h4]; rfl)
        rw [e.2.2.2] at hf; cases hf
      · exact ⟨ms.length - (k + 1), by omega, rfl, rfl, rfl, rfl, rfl, rfl, rfl, hT.skip _, hle', k + 1, e1, by omega, rfl, by rw [all_snoc _ hr, hall]; show (!(r.2.1 == 6)) = true; rw [h4]; rfl⟩
    · have hke : k = ms.length := by omega
      subst hke
      rw [List.take_length] at hall
      unfold stream_Full_b6
      rw [hn]
      refine ⟨by omega, by omega, ?_⟩
      rw [slA_zero, Nat.sub_zero, Nat.sub_zero]
      have htk : (xs.take (xs.length - 1)).length = xs.length - 1 := by simp
      have hrt : RowIn J' T' (some a') (xs.length - 1) 4 encR (xs.take (xs.length - 1)) := ((hrow.take (j := xs.length - 1) (by omega)).sub hT).le hle'
      refine AppNil hrt (by omega) ?_
      intro p n d own' T2 ho2 hs2
      rw [full_yes ⟨h1, by omega, by rw [hy, hz], by rw [hms2]; exact hall⟩]
      exact ⟨p, n, d, own', rfl, ho2, hs2.of_right hT⟩
  · rw [hy, hz] at e
    have he : y = z := by have := e.2.2.1; injection this
    rw [recEq.2 he] at h3; cases h3

/-! ### up to the next SOA -/
abbrev nS (r : Rc) : Bool := !isSoa r
theorem tw_take : ∀ {xs : List Rc} {k : Nat}, (xs.take k).all nS = true → (∀ x, xs[k]? = some x → nS x = false) → k ≤ xs.length → xs.takeWhile nS = xs.take k ∧ xs.dropWhile nS = xs.drop k
  | [], k, _, _, _ => by simp
  | x :: xs, 0, _, h, _ => by
    have := h x rfl
    simp [List.takeWhile_cons, List.dropWhile_cons, this]
  | x :: xs, k + 1, ha, h, hk => by
    rw [List.take_succ_cons, List.all_cons, Bool.and_eq_true] at ha
    obtain ⟨i1, i2⟩ := tw_take (xs := xs) (k := k) ha.2 (fun y hy => h y (by simpa using hy)) (by simpa using hk)
    rw [List.takeWhile_cons, List.dropWhile_cons, ha.1, if_pos rfl, if_pos rfl, i1, i2]
    exact ⟨rfl, rfl⟩
theorem run_runs {xs : List Rc} {a : Option Addr} {c : Nat} {I : IMem} {L S : SH} (hL : Sub L S) (hx : RowIn I L a xs.length 4 encR xs) (hl : xs.length ≤ 1000000) (hc : xs.length ≤ c) :
    Runs Tryz.prog 87 #[.slice a xs.length c] I S fun v _ T => ∃ p n d own a2 c2, v = .tuple #[.slice p n d, .slice a2 (xs.dropWhile nS).length c2] ∧ OwnZ (.slice p n d) (xs.takeWhile nS) own ∧ RowIn I L a2 (xs.dropWhile nS).length 4 encR (xs.dropWhile nS) ∧ (xs.dropWhile nS).length ≤ c2 ∧ Sub (own ++ S) T := by
  refine stream_run_fn _ _ _ _ _ _ ?_
  unfold stream_run stream_run_b1 stream_run_b2
  refine ⟨fun m rs rsn rsc x xn xc q i J T => rs = a ∧ rsn = xs.length ∧ rsc = c ∧ x = a ∧ xn = xs.length ∧ q = (xs.length : Int) ∧ Sub S T ∧ I.le J ∧ ∃ k : Nat, i = (k : Int) ∧ k ≤ xs.length ∧ m = xs.length - k ∧ (xs.take k).all nS = true,
    xs.length, ⟨rfl, rfl, rfl, rfl, rfl, rfl, Sub.refl S, IMem.le.refl I, 0, rfl, Nat.zero_le _, rfl, rfl⟩, ?_⟩
  rintro m rs rsn rsc x xn xc q i J T - ⟨rfl, rfl, rfl, rfl, rfl, rfl, hT, hle, k, rfl, hk, rfl, hall⟩
  have hrow := (hx.sub (hL.trans hT)).le hle
  unfold stream_run_l3
  refine bcase_dec (fun h => ?_) (fun h => ?_)
  · obtain ⟨r, hr⟩ := get_lt (xs := xs) (k := k) (by omega)
    obtain ⟨a', rfl, hcr⟩ := hrow.cell hr
    obtain ⟨c0, c1, c2, c3⟩ := CellsR hcr
    have e1 : IntKind.wrap .i64 ((k : Int) + 1) = ((k + 1 : Nat) : Int) := by rw [wrap_i64 (by omega) (by omega)]; rfl
    unfold stream_run_b4
    refine ⟨by omega, by omega, _, c0, _, c1, _, c2, _, c3, fun b5 => StP.rec (x := r) ⟨_, Cell.at0 rfl, ?_⟩⟩
    unfold stream_run_b5
    refine bcase_of (fun h4 => ?_) (fun h4 => ?_)
    · have hns : nS r = false := by show (!(r.2.1 == 6)) = false; rw [h4]; rfl
      obtain ⟨t1, t2⟩ := tw_take hall (fun x hx => by rw [hr] at hx; injection hx with hx; rw [← hx]; exact hns) hk
      rw [Int.toNat_natCast, slA_zero, Nat.sub_zero, Nat.sub_zero]
      refine ⟨by omega, by omega, by omega, by omega, ?_⟩
      refine AppNil ((hrow.take hk).sub ((Sub.refl T).skip _)) (by simp; omega) ?_
      intro p n d own' T2 ho2 hs2
      unfold stream_run_b6
      have hdl : (xs.drop k).length = xs.length - k := by simp
      refine ⟨p, n, d, own', slA (some a') rsc k 4, rsc - k, ?_, by rw [t1]; exact ho2, ?_, ?_, hs2.of_right (hT.skip _)⟩
      · rw [t2, hdl]
      · rw [t2, hdl]; exact hx.drop hk hc
      · rw [t2, hdl]; omega
    · unfold stream_run_b7
      exact ⟨xs.length - (k + 1), by omega, rfl, rfl, rfl, rfl, rfl, rfl, hT.skip _, hle, k + 1, e1, by omega, rfl, by rw [all_snoc _ hr, hall]; show (!(r.2.1 == 6)) = true; rw [h4]; rfl⟩
  · have hke : k = xs.length := by omega
    subst hke
    unfold stream_run_b8
    obtain ⟨t1, t2⟩ := tw_take hall (fun x hx => by rw [List.getElem?_eq_none (Nat.le_refl _)] at hx; cases hx) hk
    rw [List.take_length] at t1
    rw [List.drop_length] at t2
    refine AppNil hrow (by omega) ?_
    intro p n d own' T2 ho2 hs2
    refine ⟨p, n, d, own', none, 0, ?_, by rw [t1]; exact ho2, ?_, ?_, hs2.of_right hT⟩
    · rw [t2]; rfl
    · rw [t2]; exact row_nil
    · rw [t2]; exact Nat.le_refl _

/-! ### whole -/
def doneT (rs : List Rc) : Bool := match rs with
  | [] => false
  | [_] => true
  | r :: s :: _ => decide (((rs.filter (recB · r)).length : Int) ≥ (if isSoa s && !recB s r then 3 else 2))
theorem Done_runs {xs : List Rc} {a : Option Addr} {c : Nat} {I : IMem} {S : SH} (hx : RowIn I S a xs.length 4 encR xs) (hl : xs.length ≤ 1000000) :
    Runs Tryz.prog 32 #[.slice a xs.length c] I S fun v _ T => v = .bool (doneT xs) ∧ T = S := by
  refine Runs.drop (stream_Done_fn _ _ _ _ _ _ ?_)
  unfold stream_Done
  refine bcase_dec (fun h => ⟨S, Sub.refl S, ?_, rfl⟩) (fun h => ?_)
  · match xs, h with
    | [], _ => rfl
    | [_], _ => rfl
    | _ :: _ :: _, h => simp only [List.length_cons] at h; omega
  · obtain ⟨r, s, l, rfl⟩ : ∃ r s l, xs = r :: s :: l := by
      match xs, h with
      | [], h => simp at h
      | [_], h => simp at h
      | r :: s :: l, _ => exact ⟨r, s, l, rfl⟩
    obtain ⟨a', rfl, hcr⟩ := hx.cell (i := 0) (x := r) rfl
    obtain ⟨a2, ha2, hcs⟩ := hx.cell (i := 1) (x := s) rfl
    injection ha2 with ha2
    subst ha2
    obtain ⟨r0, r1, r2, r3⟩ := CellsR hcr
    obtain ⟨q0, q1, q2, q3⟩ := CellsR hcs
    have hd : doneT (r :: s :: l) = decide ((((r :: s :: l).filter (recB · r)).length : Int) ≥ (if isSoa s && !recB s r then 3 else 2)) := rfl
    generalize hxs : r :: s :: l = xs at *
    have hx0 : xs[0]? = some r := by rw [← hxs]; rfl
    have loop : ∀ w : Int, w = (if isSoa s && !recB s r then 3 else 2) → stream_Done_b3 (fun v J T => ∃ L, Sub L T ∧ v = .bool (doneT xs) ∧ L = S) (some a') xs.length c w 0 I S := by
      intro w hw
      rw [hd, ← hw]
      unfold stream_Done_b3 stream_Done_b4
      refine ⟨fun m rs rsn rsc wt n x xn xc q i J T => rs = some a' ∧ rsn = xs.length ∧ wt = w ∧ x = some a' ∧ xn = xs.length ∧ q = (xs.length : Int) ∧ Sub S T ∧ I.le J ∧ ∃ k : Nat, i = (k : Int) ∧ k ≤ xs.length ∧ m = xs.length - k ∧ n = (((xs.take k).filter (recB · r)).length : Int),
        xs.length, ⟨rfl, rfl, rfl, rfl, rfl, rfl, Sub.refl S, IMem.le.refl I, 0, rfl, Nat.zero_le _, rfl, rfl⟩, ?_⟩
      rintro m rs rsn rsc wt n x xn xc q i J T - ⟨rfl, rfl, rfl, rfl, rfl, rfl, hT, hle, k, rfl, hk, rfl, rfl⟩
      have hrow := (hx.sub hT).le hle
      unfold stream_Done_l5
      refine bcase_dec (fun h => ?_) (fun h => ?_)
      · obtain ⟨y, hy⟩ := get_lt (xs := xs) (k := k) (by omega)
        obtain ⟨a3, ha3, hcy⟩ := hrow.cell hy
        injection ha3 with ha3
        subst ha3
        obtain ⟨a4, ha4, hcr'⟩ := hrow.cell hx0
        injection ha4 with ha4
        subst ha4
        obtain ⟨c0, c1, c2, c3⟩ := CellsR hcy
        obtain ⟨r0, r1, r2, r3⟩ := CellsR hcr'
        have e1 : IntKind.wrap .i64 ((k : Int) + 1) = ((k + 1 : Nat) : Int) := by rw [wrap_i64 (by omega) (by omega)]; rfl
        have hfl := filter_snoc (recB · r) hy
        have hlen : ((xs.take k).filter (recB · r)).length ≤ k := Nat.le_trans (List.length_filter_le _ _) (by simp; omega)
        unfold stream_Done_b6
        refine ⟨by omega, by omega, _, c0, _, c1, _, c2, _, c3, fun b6 => StP.rec (x := y) ?_⟩
        unfold stream_Done_b7
        refine ⟨_, Cell.at0 rfl, _, Cell.at0 rfl, _, Cell.at0 rfl, _, Cell.at0 rfl, by decide, by omega, _, r0.tl, _, r1.tl, _, r2.tl, _, r3.tl, ?_⟩
        unfold stream_Done_b8 stream_Done_b9
        refine bcase_of (fun g => ?_) (fun g => ?_)
        · have hb : recB y r = true := g
          refine ⟨xs.length - (k + 1), by omega, rfl, rfl, rfl, rfl, rfl, rfl, hT.skip _, hle, k + 1, e1, by omega, rfl, ?_⟩
          rw [hfl, hb, if_pos rfl, List.length_append, List.length_singleton, wrap_i64 (by omega) (by omega)]; rfl
        · have hb : recB y r = false := g
          refine ⟨xs.length - (k + 1), by omega, rfl, rfl, rfl, rfl, rfl, rfl, hT.skip _, hle, k + 1, e1, by omega, rfl, ?_⟩
          rw [hfl, hb, if_neg Bool.false_ne_true, List.append_nil]
      · have hke : k = xs.length := by omega
        subst hke
        unfold stream_Done_b10
        rw [List.take_length]
        exact ⟨S, hT, rfl, rfl⟩
    unfold stream_Done_b1 stream_Done_b2
    refine ⟨by decide, by omega, _, q1, bcase_of (fun g => ?_) (fun g => ?_)⟩
    · have hs : isSoa s = true := g
      refine ⟨by decide, by omega, _, q0, _, q1, _, q2, _, q3, by decide, by omega, _, r0, _, r1, _, r2, _, r3, ?_⟩
      refine bcase_of (fun g2 => ?_) (fun g2 => ?_)
      · have hb : (!recB s r) = true := g2
        exact loop 3 (by rw [hs, hb]; rfl)
      · have hb : (!recB s r) = false := g2
        exact loop 2 (by rw [hs, hb]; rfl)
    · have hs : isSoa s = false := g
      exact bcase_f rfl (loop 2 (by rw [hs]; rfl))
end Go.Proofs.YthlkeokfmedjhaaGreat
/- A chain of deltas. -/
namespace Go.Proofs.YthlkeokfmedjhaaGreat
open Go.Px
set_option linter.unusedVariables false
set_option linter.unusedSimpArgs false

abbrev Dl := Rc × Rc × Sl × Sl
abbrev Dd := Rc × Rc × List Rc × List Rc
def encDl (d : Dl) : List Value := encD d.1 d.2.1 d.2.2.1 d.2.2.2
theorem encDl_len (d : Dl) : (encDl d).length = 10 := rfl
theorem encDl_one (d : Dl) : (encDl d).all Go.Px.one = true := rfl
structure DsOK (I : IMem) (S : SH) (ds : List Dl) (xs : List Dd) : Prop where
  len : ds.length = xs.length
  ok : ∀ (i : Nat) (d : Dl) (x : Dd), ds[i]? = some d → xs[i]? = some x → d.1 = x.1 ∧ d.2.1 = x.2.1 ∧ RowIn I S d.2.2.1.1 d.2.2.1.2.1 4 encR x.2.2.1 ∧ RowIn I S d.2.2.2.1 d.2.2.2.2.1 4 encR x.2.2.2
theorem DsOK.keep {I J : IMem} {S T : SH} {ds : List Dl} {xs : List Dd} (hk : Keep I S J T) (h : DsOK I S ds xs) : DsOK J T ds xs :=
  ⟨h.len, fun i d x h1 h2 => let ⟨a, b, c, e⟩ := h.ok i d x h1 h2; ⟨a, b, c.keep hk, e.keep hk⟩⟩
theorem DsOK.drop {I : IMem} {S : SH} {ds : List Dl} {xs : List Dd} (h : DsOK I S ds xs) (k : Nat) : DsOK I S (ds.drop k) (xs.drop k) :=
  ⟨by rw [List.length_drop, List.length_drop, h.len], fun i d x h1 h2 => by rw [List.getElem?_drop] at h1 h2; exact h.ok _ d x h1 h2⟩
theorem DsOK.snoc {I : IMem} {S : SH} {ds : List Dl} {xs : List Dd} {d : Dl} {x : Dd} (h : DsOK I S ds xs) (h1 : d.1 = x.1) (h2 : d.2.1 = x.2.1) (h3 : RowIn I S d.2.2.1.1 d.2.2.1.2.1 4 encR x.2.2.1) (h4 : RowIn I S d.2.2.2.1 d.2.2.2.2.1 4 encR x.2.2.2) : DsOK I S (ds ++ [d]) (xs ++ [x]) := by
  refine ⟨by simp [h.len], fun i d' x' e1 e2 => ?_⟩
  rcases Nat.lt_or_ge i ds.length with g | g
  · rw [List.getElem?_append_left g] at e1
    rw [List.getElem?_append_left (by rw [← h.len]; exact g)] at e2
    exact h.ok i d' x' e1 e2
  · rw [List.getElem?_append_right g] at e1
    rw [List.getElem?_append_right (by rw [← h.len]; exact g), ← h.len] at e2
    obtain hi | ⟨n, hi⟩ : i - ds.length = 0 ∨ ∃ n, i - ds.length = n + 1 := by cases i - ds.length <;> simp
    · rw [hi] at e1 e2
      simp only [List.getElem?_cons_zero, Option.some.injEq] at e1 e2
      subst e1; subst e2
      exact ⟨h1, h2, h3, h4⟩
    · rw [hi] at e1; simp at e1
def foldD : List Rc → List Dd → Option Int × List Rc
  | zs, [] => (none, zs)
  | zs, x :: xs => match deltaF zs x.1 x.2.1 x.2.2.1 x.2.2.2 with
    | (none, out) => foldD out xs
    | (some c, _) => (some c, [])
theorem foldO_SS {f : Option (List Rc) → Rc → Option (List Rc)} (hn : ∀ rs : List Rc, rs.foldl f none = none) (hf : ∀ zs r ys, SS zs → f (some zs) r = some ys → SS ys) : ∀ (rs zs out : List Rc), SS zs → rs.foldl f (some zs) = some out → SS out
  | [], zs, out, hz, h => by injection h with h; subst h; exact hz
  | r :: rs, zs, out, hz, h => by
    rw [List.foldl_cons] at h
    cases hh : f (some zs) r with
    | none => rw [hh, hn] at h; cases h
    | some ys => rw [hh] at h; exact foldO_SS hn hf rs ys out (hf zs r ys hz hh) h
theorem delO_SS (zs : List Rc) (r : Rc) (ys : List Rc) (hz : SS zs) (h : delO (some zs) r = some ys) : SS ys := by
  have h' : (if has zs r then some (without zs r) else none) = some ys := h
  split at h'
  · injection h' with h'; subst h'; exact hz.without r
  · cases h'
theorem insO_SS (zs : List Rc) (r : Rc) (ys : List Rc) (hz : SS zs) (h : insO (some zs) r = some ys) : SS ys := by
  have h' : (if has zs r then none else some (insR zs r)) = some ys := h
  split at h'
  · cases h'
  · injection h' with h'; subst h'; exact insR_SS hz
theorem deltaF_SS {zs : List Rc} {s t : Rc} {gs ns out : List Rc} (hz : SS zs) (h : deltaF zs s t gs ns = (none, out)) : SS out := by
  unfold deltaF at h
  split at h
  · cases h1 : (s :: gs).foldl delO (some zs) with
    | none => rw [h1, insO_none] at h; cases h
    | some ys =>
      rw [h1] at h
      cases h2 : (ns ++ [t]).foldl insO (some ys) with
      | none => rw [h2] at h; cases h
      | some o =>
        rw [h2] at h
        injection h with _ h; subst h
        exact foldO_SS insO_none insO_SS _ _ _ (foldO_SS delO_none delO_SS _ _ _ hz h1) h2
  · cases h
/-! ### the chain -/
structure ChOK (o : ByteArray) (zs : List (List Rc)) (xs : List Dd) : Prop where
  len : zs.length = xs.length + 1
  zone : ∀ (j : Nat) (z : List Rc), zs[j]? = some z → ZoneOf z (soaR o ((j : Int) + 1)) ∧ (∀ r ∈ z, ZOK o r) ∧ z.length ≤ 11
  step : ∀ (j : Nat) (x : Dd) (z z' : List Rc), xs[j]? = some x → zs[j]? = some z → zs[j + 1]? = some z' → x = (soaR o ((j : Int) + 1), soaR o ((j : Int) + 2), notF (lessF z z'), notF (lessF z' z))
theorem ChOK.snoc {o : ByteArray} {zs : List (List Rc)} {xs : List Dd} {z z' : List Rc} (h : ChOK o zs xs) (hz : zs[xs.length]? = some z) (h1 : ZoneOf z' (soaR o ((xs.length : Int) + 2))) (h2 : ∀ r ∈ z', ZOK o r) (h3 : z'.length ≤ 11) :
    ChOK o (zs ++ [z']) (xs ++ [(soaR o ((xs.length : Int) + 1), soaR o ((xs.length : Int) + 2), notF (lessF z z'), notF (lessF z' z))]) := by
  have hlen := h.len
  refine ⟨by simp [hlen], fun j y hy => ?_, fun j x y y' hx hy hy' => ?_⟩
  · rcases Nat.lt_or_ge j zs.length with g | g
    · rw [List.getElem?_append_left g] at hy
      exact h.zone j y hy
    · have hj : j = zs.length := by
        have := lt_get hy
        rw [List.length_append, List.length_singleton] at this; omega
      rw [List.getElem?_append_right g, hj, Nat.sub_self] at hy
      simp only [List.getElem?_cons_zero, Option.some.injEq] at hy
      subst hy
      have e : ((j : Int) + 1) = (xs.length : Int) + 2 := by omega
      rw [e]
      exact ⟨h1, h2, h3⟩
  · rcases Nat.lt_or_ge j xs.length with g | g
    · rw [List.getElem?_append_left g] at hx
      rw [List.getElem?_append_left (by omega)] at hy hy'
      exact h.step j x y y' hx hy hy'
    · have hj : j = xs.length := by
        have := lt_get hx
        rw [List.length_append, List.length_singleton] at this; omega
      subst hj
      rw [List.getElem?_append_right g, Nat.sub_self] at hx
      rw [List.getElem?_append_left (by omega), hz] at hy
      rw [List.getElem?_append_right (by omega), show xs.length + 1 - zs.length = 0 by omega] at hy'
      simp only [List.getElem?_cons_zero, Option.some.injEq] at hx hy hy'
      subst hx; subst hy; subst hy'
      rfl
end Go.Proofs.YthlkeokfmedjhaaGreat
/- ApplyChain. -/
namespace Go.Px
theorem row1 {α : Type} {el : α → List Value} {sz : Nat} (he : ∀ x, (el x).length = sz) {I : IMem} {S : SH} {b : Nat} {e : TypeId} (x : α) : RowIn I ((b, .cells (el x).toArray e (0, 0)) :: S) (some ⟨b, 0, none⟩) 1 sz el [x] := by
  have ho : OwnR e sz el (.slice (some ⟨b, 0, none⟩) 1 1) [x] [(b, .cells (el x).toArray e (0, 0))] := .inr ⟨b, 1, [], rfl, by simp, by simp, by simp [maxLen]⟩
  exact (ho.row he).sub ⟨S, List.Perm.refl _⟩
theorem AppS {α : Type} {el : α → List Value} {sz : Nat} (he : ∀ x, (el x).length = sz) (ho : ∀ x, (el x).all Go.Px.one = true) (hsz : 0 < sz) {e : TypeId} {bytes : Nat} {z : List Value} {I : IMem} {S own F : SH} {v : Value} {xs : List α} {x : α} {a : Option Addr} {c : Nat} {K : Option Addr → Nat → Nat → SH → Prop}
    (hz : z.length = sz) (hs : Sub (own ++ F) S) (hv : OwnR e sz el v xs own) (hy : RowIn I S a 1 sz el [x]) (hl : xs.length ≤ 100000) (hb : bytes ≤ 1000)
    (hK : ∀ p n c own' T, OwnR e sz el (.slice p n c) (xs ++ [x]) own' → Sub (own' ++ F) T → K p n c T) : AppG e sz bytes z (some (.slice e)) I S v (.slice a 1 c) K := by
  refine AppG.use (xs := xs) (ys := [x]) (el := el) he ho hz hs hv ⟨RowIn.rd he hsz hy, flatMap_one ho [x]⟩ (by simp only [List.length_singleton, maxLen]; omega) ?_ hK
  simp only [List.length_singleton]
  have := Nat.mul_le_mul (show xs.length + 1 ≤ 100001 by omega) hb
  omega
end Go.Px
namespace Go.Proofs.YthlkeokfmedjhaaGreat
open Go.Px
set_option linter.unusedVariables false
set_option linter.unusedSimpArgs false

abbrev hB (b : Nat) (h : Sl) : Nat × Obj := (b, .cells #[.slice h.1 h.2.1 h.2.2] 48 (0, 0))
abbrev OwnD (v : Value) (ds : List Dl) (own : SH) : Prop := OwnR 131 10 encDl v ds own
/-- zones in a row of zones -/
structure ZsOK (I : IMem) (S : SH) (hs : List Sl) (zs : List (List Rc)) : Prop where
  len : hs.length = zs.length
  ok : ∀ (i : Nat) (h : Sl) (z : List Rc), hs[i]? = some h → zs[i]? = some z → RowIn I S h.1 h.2.1 4 encR z
theorem ZsOK.keep {I J : IMem} {S T : SH} {hs : List Sl} {zs : List (List Rc)} (hk : Keep I S J T) (h : ZsOK I S hs zs) : ZsOK J T hs zs := ⟨h.len, fun i x z h1 h2 => (h.ok i x z h1 h2).keep hk⟩
theorem ZsOK.snoc {I : IMem} {S : SH} {hs : List Sl} {zs : List (List Rc)} {x : Sl} {z : List Rc} (h : ZsOK I S hs zs) (hz : RowIn I S x.1 x.2.1 4 encR z) : ZsOK I S (hs ++ [x]) (zs ++ [z]) := by
  refine ⟨by simp [h.len], fun i x' z' e1 e2 => ?_⟩
  rcases Nat.lt_or_ge i hs.length with g | g
  · rw [List.getElem?_append_left g] at e1
    rw [List.getElem?_append_left (by rw [← h.len]; exact g)] at e2
    exact h.ok i x' z' e1 e2
  · rw [List.getElem?_append_right g] at e1
    rw [List.getElem?_append_right (by rw [← h.len]; exact g), ← h.len] at e2
    obtain hi | ⟨n, hi⟩ : i - hs.length = 0 ∨ ∃ n, i - hs.length = n + 1 := by cases i - hs.length <;> simp
    · rw [hi] at e1 e2
      simp only [List.getElem?_cons_zero, Option.some.injEq] at e1 e2
      subst e1; subst e2
      exact hz
    · rw [hi] at e1; simp at e1
end Go.Proofs.YthlkeokfmedjhaaGreat
/- Deltas that a transfer brings, and what becomes of a zone by them. -/
namespace Go.Proofs.YthlkeokfmedjhaaGreat
open Go.Px
set_option linter.unusedVariables false
set_option linter.unusedSimpArgs false

def deltasG (first : Rc) : Nat → Int → List Rc → List Dd → Option Int × List Dd
  | 0, _, _, _ => (some 4, [])
  | f + 1, frm, rest, out =>
    if 1 < rest.length then
      match rest with
      | [] => (some 4, [])
      | r0 :: rest1 =>
        if isSoa r0 = true then
          if serT r0 = frm then
            match rest1.dropWhile nS with
            | [] => (some 4, [])
            | t :: rest3 => deltasG first f (serT t) (rest3.dropWhile nS) (out ++ [(r0, t, rest1.takeWhile nS, rest3.takeWhile nS)])
          else (some 5, [])
        else (some 4, [])
    else if out ≠ [] ∧ rest = [first] ∧ (out.getLast?).map (·.2.1) = some first then (none, out) else (some 4, [])
abbrev PRes (L0 S : SH) (J : IMem) (v : Value) (T : SH) (same : Bool) (all : List Rc) (res : Option Int × List Dd) : Prop :=
  ∃ p n d own1 dp dn dc own2 G ds, v = .tuple #[.agg #[.bool same, .slice p n d, .slice dp dn dc], errN res.1] ∧ OwnZ (.slice p n d) all own1 ∧ OwnD (.slice dp dn dc) ds own2 ∧ DsOK J (G ++ L0) ds res.2 ∧ Sub (own1 ++ (own2 ++ (G ++ S))) T
abbrev rsB (b : Nat) (same : Bool) (p : Option Addr) (n d : Nat) (dp : Option Addr) (dn dc : Nat) : Nat × Obj := (b, .cells #[.bool same, .slice p n d, .slice dp dn dc] 100 (0, 0))
theorem DsOK.nil {J : IMem} {L : SH} : DsOK J L [] [] := ⟨rfl, fun i d x h => by simp at h⟩
section
variable {first r0 t : Rc} {rest1 rest3 rest : List Rc} {f : Nat} {frm : Int} {out : List Dd}
theorem dG_end (h : ¬ 1 < rest.length) : deltasG first (f + 1) frm rest out = if out ≠ [] ∧ rest = [first] ∧ (out.getLast?).map (·.2.1) = some first then (none, out) else (some 4, []) := by
  rw [deltasG.eq_def]
  dsimp only
  rw [if_neg h]
theorem dG_nosoa (h : 1 < (r0 :: rest1).length) (hs : ¬ isSoa r0 = true) : deltasG first (f + 1) frm (r0 :: rest1) out = (some 4, []) := by
  rw [deltasG, if_pos h, if_neg hs]
theorem dG_ser (h : 1 < (r0 :: rest1).length) (hs : isSoa r0 = true) (g : serT r0 ≠ frm) : deltasG first (f + 1) frm (r0 :: rest1) out = (some 5, []) := by
  rw [deltasG, if_pos h, if_pos hs, if_neg g]
theorem dG_nil (h : 1 < (r0 :: rest1).length) (hs : isSoa r0 = true) (g : serT r0 = frm) (hd : rest1.dropWhile nS = []) : deltasG first (f + 1) frm (r0 :: rest1) out = (some 4, []) := by
  rw [deltasG, if_pos h, if_pos hs, if_pos g, hd]
theorem dG_step (h : 1 < (r0 :: rest1).length) (hs : isSoa r0 = true) (g : serT r0 = frm) (hd : rest1.dropWhile nS = t :: rest3) : deltasG first (f + 1) frm (r0 :: rest1) out = deltasG first f (serT t) (rest3.dropWhile nS) (out ++ [(r0, t, rest1.takeWhile nS, rest3.takeWhile nS)]) := by
  rw [deltasG, if_pos h, if_pos hs, if_pos g, hd]
end
theorem deltas_runs {xs : List Rc} {a : Option Addr} {c : Nat} {frm : Int} {I : IMem} {L0 S : SH} (hL : Sub L0 S) (hx : RowIn I L0 a xs.length 4 encR xs) (hl : xs.length ≤ 10000) (hc : xs.length ≤ c) (hsm : SizeOK xs) {first : Rc} {rest : List Rc} (hxs : xs = first :: rest) :
    Runs Tryz.prog 66 #[.int .u32 frm, .slice a xs.length c] I S fun v J T => PRes L0 S J v T false [] (deltasG first (rest.length + 1) frm rest []) := by
  refine stream_deltas_fn _ _ _ _ _ _ _ ?_
  unfold stream_deltas
  intro b4
  obtain ⟨a', rfl, hcr⟩ := (hx.sub hL).cell (i := 0) (x := first) (by rw [hxs]; rfl)
  obtain ⟨c0, c1, c2, c3⟩ := CellsR hcr
  have hlen : xs.length = rest.length + 1 := by rw [hxs]; rfl
  refine ⟨by decide, by omega, _, c0.tl, _, c1.tl, _, c2.tl, _, c3.tl, fun b6 => StP.rec (x := first) ⟨by decide, by omega, ?_⟩⟩
  have hrest : RowIn I L0 (slA (some a') c ((1 : Int).toNat) 4) rest.length 4 encR rest := by
    have := hx.drop (j := 1) (by omega) hc
    rw [hlen, hxs] at this
    exact this
  rw [show xs.length - (1 : Int).toNat = rest.length by rw [hlen]; rfl]
  generalize slA (some a') c ((1 : Int).toNat) 4 = am at hrest
  have hcm : rest.length ≤ c - (1 : Int).toNat := by have : (1 : Int).toNat = 1 := rfl; omega
  generalize c - (1 : Int).toNat = cm at hcm
  have hsm' : SizeOK rest := fun r hr => hsm r (by rw [hxs]; exact List.mem_cons_of_mem _ hr)
  have hrl : rest.length ≤ 10000 := by omega
  unfold stream_deltas_b1
  refine ⟨fun m fr x4 la re ren rec' ou oun ouc J T => x4 = ⟨b4, 0, none⟩ ∧ la = ⟨b6, 0, none⟩ ∧ I.le J ∧ ∃ (rs : List Rc) (out : List Dd) (ds : List Dl) (own G : SH), deltasG first (rest.length + 1) frm rest [] = deltasG first (m + 1) fr rs out ∧ rs.length ≤ m ∧ m ≤ 10000 ∧ ren = rs.length ∧ RowIn J (G ++ L0) re rs.length 4 encR rs ∧ rs.length ≤ rec' ∧ SizeOK rs ∧
      OwnD (.slice ou oun ouc) ds own ∧ DsOK J (G ++ L0) ds out ∧ ds.length + m ≤ 10000 ∧ Sub (rsB b4 false none 0 0 none 0 0 :: (b6, .cells (encR first).toArray 32 (0, 0)) :: (own ++ (G ++ S))) T,
    rest.length, ⟨rfl, rfl, IMem.le.refl I, rest, [], [], [], [], rfl, Nat.le_refl _, hrl, rfl, hrest, hcm, hsm', OwnR.nil, DsOK.nil, by simpa using hrl, ?_⟩, ?_⟩
  · exact ⟨[], by simpa using List.Perm.swap _ _ _⟩
  rintro m fr x4 la re ren rec' ou oun ouc J T - ⟨rfl, rfl, hle, rs, out, ds, own, G, hfe, hrm, hm, rfl, hrow, hrc, hszr, hod, hds, hdm, hsub⟩
  have hoL : Sub (own ++ (G ++ S)) T := hsub.drop.drop
  have hLT : Sub (G ++ L0) T := ((Sub.refl G).both hL).trans hoL.right
  obtain ⟨L, hLd⟩ : ∃ L, L = G ++ L0 := ⟨_, rfl⟩
  rw [← hLd] at hrow hds hLT
  have hrT : RowIn J T re rs.length 4 encR rs := hrow.sub hLT
  have bad : ∀ {e : Int} {K : IMem} {L' : SH} {x : Value}, deltasG first (m + 1) fr rs out = (some e, []) → Sub S L' → x = .tuple #[.agg #[.bool false, .slice none 0 0, .slice none 0 0], .iface 123 (.int .i64 e)] → PRes L0 S K x L' false [] (deltasG first (rest.length + 1) frm rest []) := by
    intro e K L' x h hs hx
    rw [hfe, h]
    exact ⟨none, 0, 0, [], none, 0, 0, [], [], [], hx, OwnR.nil, OwnR.nil, DsOK.nil, hs⟩
  have fail : ∀ {e : Int} {K : IMem} {T' F : SH}, deltasG first (m + 1) fr rs out = (some e, []) → Sub S F → Sub (rsB b4 false none 0 0 none 0 0 :: F) T' →
      StP T' ⟨b4, 0, none⟩ [.bool false, .slice none 0 0, .slice none 0 0] fun S1 => ∃ r0, Cell K S1 ⟨b4, 0, none⟩ (.bool r0) ∧ ∃ r1 r1n r1c, Cell K S1 ((⟨b4, 0, none⟩ : Addr).add 1) (.slice r1 r1n r1c) ∧ ∃ r2 r2n r2c, Cell K S1 ((⟨b4, 0, none⟩ : Addr).add 2) (.slice r2 r2n r2c) ∧
        PRes L0 S K (.tuple #[.agg #[.bool r0, .slice r1 r1n r1c, .slice r2 r2n r2c], .iface 123 (.int .i64 e)]) S1 false [] (deltasG first (rest.length + 1) frm rest []) := by
    intro e K T' F h hF hT'
    refine StP.among (L' := [.bool false, .slice none 0 0, .slice none 0 0]) hT' (Nat.le_of_ble_eq_true rfl) rfl rfl ?_
    intro T2 hT2
    exact ⟨_, Cell.among hT2 rfl, _, _, _, Cell.at_ (add_mk _ _ _) (Cell.among hT2 rfl), _, _, _, Cell.at_ (add_mk _ _ _) (Cell.among hT2 rfl), bad h (hF.trans hT2.drop) rfl⟩
  unfold stream_deltas_l2
  refine bcase_dec (fun h => ?_) (fun h => ?_)
  · obtain ⟨r0, rest1, rfl⟩ : ∃ r0 rest1, rs = r0 :: rest1 := by
      cases rs with
      | nil => simp at h
      | cons r l => exact ⟨r, l, rfl⟩
    have h1l : 1 < (r0 :: rest1).length := by omega
    obtain ⟨a0, rfl, hc0⟩ := hrT.cell (i := 0) (x := r0) rfl
    obtain ⟨q0, q1, q2, q3⟩ := CellsR hc0
    refine ⟨by decide, by omega, _, q1, bcase_bne (fun h6 => ?_) (fun h6 => ?_)⟩
    · have hns : ¬ isSoa r0 = true := by show ¬ (r0.2.1 == 6) = true; simpa using h6
      exact fail (e := 4) (F := own ++ (G ++ S)) (dG_nosoa h1l hns) (Sub.refl (own ++ (G ++ S))).right.right (hsub.re (by intro a; simp only [cnt_cons, cnt_app, cnt_nil]; omega))
    · have hns : isSoa r0 = true := by show (r0.2.1 == 6) = true; simpa using h6
      refine ⟨by decide, by omega, _, q0, _, q1, _, q2, _, q3, fun b9 => ?_⟩
      refine StP.all (vs := encDl (r0, zR0, (none, 0, 0), (none, 0, 0))) rfl rfl ?_
      refine ⟨_, Cell.at0 rfl, _, Cell.at0 rfl, _, Cell.at0 rfl, _, Cell.at0 rfl, (serial_runs r0 (hszr r0 (List.mem_cons_self ..)) _ _).mono ?_⟩
      rintro v J1 T1 hle1 ⟨rfl, rfl⟩
      refine ⟨_, rfl, bcase_bne (fun hs => ?_) (fun hs => ?_)⟩
      · exact fail (e := 5) (F := own ++ (G ++ S)) (dG_ser h1l hns hs) (Sub.refl (own ++ (G ++ S))).right.right ((hsub.skip _).re (by intro a; simp only [cnt_cons, cnt_app, cnt_nil]; omega))
      · have hr1 : RowIn J L (slA (some a0) rec' ((1 : Int).toNat) 4) rest1.length 4 encR rest1 := hrow.drop (j := 1) (by omega) hrc
        have hr1c : rest1.length ≤ rec' - (1 : Int).toNat := by have : (1 : Int).toNat = 1 := rfl; simp only [List.length_cons] at hrc; omega
        rw [show (r0 :: rest1).length - (1 : Int).toNat = rest1.length from rfl]
        generalize slA (some a0) rec' ((1 : Int).toNat) 4 = a1 at hr1
        generalize rec' - (1 : Int).toNat = c1' at hr1c
        have hszr1 : SizeOK rest1 := fun r hr => hszr r (List.mem_cons_of_mem _ hr)
        have hrm' := hrm
        simp only [List.length_cons] at hrm'
        refine ⟨by decide, by simp only [List.length_cons]; omega, (run_runs (hLT.skip _) (hr1.le hle1) (by omega) hr1c).mono ?_⟩
        rintro v J2 T2 hle2 ⟨pg, ng, dg, owng, a2, c2, rfl, hog, hrow2, hc2, hs2⟩
        refine ⟨_, _, _, _, _, _, rfl, ?_⟩
        have hgl := hog.len
        subst hgl
        have hdw : (rest1.dropWhile nS).length ≤ rest1.length := (List.dropWhile_sublist _).length_le
        have hsz2 : SizeOK (rest1.dropWhile nS) := fun r hr => hszr1 r ((List.dropWhile_sublist _).subset hr)
        refine StP.among (e := 131) (F := owng ++ T) (L := encDl (r0, zR0, (none, 0, 0), (none, 0, 0))) (L' := encDl (r0, zR0, (pg, (rest1.takeWhile nS).length, dg), (none, 0, 0))) (hs2.re (by intro a; simp only [cnt_cons, cnt_app, cnt_nil]; omega)) (Nat.le_of_ble_eq_true rfl) rfl rfl ?_
        intro T3 hT3
        have hrow3 := (hrow2.le hle2).sub (hLT.trans hT3.drop.right)
        refine bcase_beq (fun hz => ?_) (fun hz => ?_)
        · have hnil : rest1.dropWhile nS = [] := List.eq_nil_of_length_eq_zero (by omega)
          exact fail (e := 4) (F := own ++ (G ++ S)) (dG_nil h1l hns hs hnil) (Sub.refl (own ++ (G ++ S))).right.right (hsub.trans hT3.drop.right |>.re (by intro a; simp only [cnt_cons, cnt_app, cnt_nil]; omega))
        · obtain ⟨t, rest3, hd⟩ : ∃ t rest3, rest1.dropWhile nS = t :: rest3 := by
            cases hd : rest1.dropWhile nS with
            | nil => rw [hd] at hz; simp at hz
            | cons t l => exact ⟨t, l, rfl⟩
          rw [hd] at hrow2 hrow3 hc2 hdw hsz2 ⊢
          obtain ⟨a4, rfl, hct⟩ := hrow3.cell (i := 0) (x := t) rfl
          obtain ⟨t0, t1, t2, t3⟩ := CellsR hct
          refine ⟨by decide, by simp only [List.length_cons]; omega, _, t0, _, t1, _, t2, _, t3, ?_⟩
          refine StP.among (L' := encDl (r0, t, (pg, (rest1.takeWhile nS).length, dg), (none, 0, 0))) hT3 (Nat.le_of_ble_eq_true rfl) rfl rfl ?_
          intro T4 hT4
          have hr3 : RowIn J1 L (slA (some a4) c2 ((1 : Int).toNat) 4) rest3.length 4 encR rest3 := hrow2.drop (j := 1) (by simp only [List.length_cons]; omega) hc2
          have hr3c : rest3.length ≤ c2 - (1 : Int).toNat := by have : (1 : Int).toNat = 1 := rfl; simp only [List.length_cons] at hc2; omega
          rw [show (t :: rest3).length - (1 : Int).toNat = rest3.length from rfl]
          generalize slA (some a4) c2 ((1 : Int).toNat) 4 = a5 at hr3
          generalize c2 - (1 : Int).toNat = c5 at hr3c
          simp only [List.length_cons] at hdw
          have hLT4 : Sub L T4 := hLT.trans hT4.drop.right
          refine ⟨by decide, by simp only [List.length_cons]; omega, (run_runs hLT4 (hr3.le hle2) (by omega) hr3c).mono ?_⟩
          rintro v J5 T5 hle5 ⟨pn, nn, dn, ownn, a6, c6, rfl, hon, hrow6, hc6, hs5⟩
          refine ⟨_, _, _, _, _, _, rfl, ?_⟩
          have hnl := hon.len
          subst hnl
          have hdw3 : (rest3.dropWhile nS).length ≤ rest3.length := (List.dropWhile_sublist _).length_le
          have hsz3 : SizeOK (rest3.dropWhile nS) := fun r hr => hsz2 r (List.mem_cons_of_mem _ ((List.dropWhile_sublist _).subset hr))
          refine StP.among (e := 131) (F := ownn ++ (owng ++ T)) (L := encDl (r0, t, (pg, (rest1.takeWhile nS).length, dg), (none, 0, 0))) (L' := encDl (r0, t, (pg, (rest1.takeWhile nS).length, dg), (pn, (rest3.takeWhile nS).length, dn))) (((Sub.refl ownn).both hT4).trans hs5 |>.re (by intro a; simp only [cnt_cons, cnt_app, cnt_nil]; omega)) (Nat.le_of_ble_eq_true rfl) rfl rfl ?_
          intro T6 hT6
          refine ⟨_, Cell.among hT6 rfl, _, Cell.among hT6 rfl, _, Cell.among hT6 rfl, _, Cell.among hT6 rfl, (serial_runs t (hsz2 t (List.mem_cons_self ..)) _ _).mono ?_⟩
          rintro v J7 T7 hle7 ⟨rfl, rfl⟩
          refine ⟨_, rfl, _, Cell.among hT6 rfl, _, Cell.among hT6 rfl, _, Cell.among hT6 rfl, _, Cell.among hT6 rfl, _, Cell.among hT6 rfl, _, Cell.among hT6 rfl, _, Cell.among hT6 rfl, _, Cell.among hT6 rfl, _, _, _, Cell.among hT6 rfl, _, _, _, Cell.among hT6 rfl, fun b64 => ?_⟩
          have hleJ := (((hle1.trans hle2).trans hle5).trans hle7)
          have hsT6 : Sub (own ++ (rsB b4 false none 0 0 none 0 0 :: (b6, .cells (encR first).toArray 32 (0, 0)) :: (ownn ++ (owng ++ (G ++ S))))) T7 := by
            have h1 : Go.Px.Sub ((ownn ++ owng) ++ (rsB b4 false none 0 0 none 0 0 :: (b6, .cells (encR first).toArray 32 (0, 0)) :: (own ++ (G ++ S)))) ((ownn ++ owng) ++ T) := (Sub.refl (ownn ++ owng)).both hsub
            have h2 : Go.Px.Sub ((ownn ++ owng) ++ T) T7 := by rw [List.append_assoc]; exact hT6.drop
            exact (h1.trans h2).re (by intro a; simp only [cnt_cons, cnt_app, cnt_nil]; omega)
          refine AppS (el := encDl) (x := (r0, t, (pg, (rest1.takeWhile nS).length, dg), (pn, (rest3.takeWhile nS).length, dn))) encDl_len encDl_one (by decide) rfl (hsT6.skip _) hod ((row1 encDl_len _)) (by omega) (by decide) ?_
          intro p8 n8 d8 own8 T8 ho8 hs8
          have hL8 : Sub L (ownn ++ (owng ++ L)) := (Sub.refl (ownn ++ (owng ++ L))).right.right
          have hLe : ownn ++ (owng ++ L) = ownn ++ (owng ++ G) ++ L0 := by rw [hLd]; simp only [List.append_assoc]
          refine ⟨m - 1, by omega, rfl, rfl, hle.trans hleJ, rest3.dropWhile nS, out ++ [(r0, t, rest1.takeWhile nS, rest3.takeWhile nS)], ds ++ [(r0, t, (pg, (rest1.takeWhile nS).length, dg), (pn, (rest3.takeWhile nS).length, dn))], own8, ownn ++ (owng ++ G), ?_, by omega, by omega, rfl, hLe ▸ ((hrow6.le (hle5.trans hle7)).sub hL8), hc6, hsz3, ho8, hLe ▸ ?_, ?_, ?_⟩
          · rw [hfe, dG_step h1l hns hs hd, show m - 1 + 1 = m by omega]
          · refine (hds.keep (hL8.keep hleJ)).snoc rfl rfl ?_ ?_
            · exact ((hog.row encR_len).sub (Sub.refl (ownn ++ (owng ++ L))).right.left)
            · exact ((hon.row encR_len).sub (Sub.refl (ownn ++ (owng ++ L))).left)
          · rw [List.length_append, List.length_singleton]; omega
          · exact hs8.re (by intro a; simp only [cnt_cons, cnt_app, cnt_nil]; omega)
  · have hend := dG_end (first := first) (f := m) (frm := fr) (out := out) (rest := rs) (by omega)
    have hdl := hds.len
    have hon := hod.len
    subst hon
    unfold stream_deltas_b3
    have bad4 : ¬ (out ≠ [] ∧ rs = [first] ∧ (out.getLast?).map (·.2.1) = some first) → stream_deltas_b4 (fun v J T => PRes L0 S J v T false [] (deltasG first (rest.length + 1) frm rest [])) ⟨b4, 0, none⟩ ou ds.length ouc true J T := by
      intro hno
      rw [if_neg hno] at hend
      unfold stream_deltas_b4
      exact bcase_t rfl (fail (e := 4) (F := own ++ (G ++ S)) hend (Sub.refl (own ++ (G ++ S))).right.right (hsub.re (by intro a; simp only [cnt_cons, cnt_app, cnt_nil]; omega)))
    refine bcase_beq (fun h0 => bad4 ?_) (fun h0 => ?_)
    · rintro ⟨h1, _⟩
      exact h1 (List.eq_nil_of_length_eq_zero (by omega))
    · refine bcase_bne (fun h1 => bad4 ?_) (fun h1 => ?_)
      · rintro ⟨_, h2, _⟩
        rw [h2] at h1; simp at h1
      · obtain ⟨y, rfl⟩ : ∃ y, rs = [y] := by
          match rs, h1 with
          | [y], _ => exact ⟨y, rfl⟩
          | [], h1 => simp at h1
          | _ :: _ :: _, h1 => simp only [List.length_cons] at h1; omega
        obtain ⟨a0, rfl, hc0⟩ := hrT.cell (i := 0) (x := y) rfl
        obtain ⟨q0, q1, q2, q3⟩ := CellsR hc0
        have hb6 : Sub ((b6, Obj.cells (encR first).toArray 32 (0, 0)) :: (own ++ (G ++ S))) T := hsub.drop
        refine ⟨by decide, by simp, _, q0, _, q1, _, q2, _, q3, _, Cell.among hb6 rfl, _, Cell.at_ (add_mk _ _ _) (Cell.among hb6 rfl), _, Cell.at_ (add_mk _ _ _) (Cell.among hb6 rfl), _, Cell.at_ (add_mk _ _ _) (Cell.among hb6 rfl), ?_⟩
        refine bcase_not (bcase_of (fun h2 => ?_) (fun h2 => bad4 ?_))
        · obtain rfl : y = first := recEq.1 h2
          obtain ⟨g, cap, rest', hv, hown, hcap, hcm'⟩ : ∃ g cap rest', Value.slice ou ds.length ouc = .slice (some ⟨g, 0, none⟩) ds.length cap ∧ own = [(g, .cells (ds.flatMap encDl ++ rest').toArray 131 (0, 0))] ∧ ds.length * 10 + rest'.length = cap * 10 ∧ cap ≤ maxLen := by
            rcases hod with ⟨_, h3, _⟩ | h3
            · rw [h3] at h0; simp at h0
            · exact h3
          injection hv with hv1 hv2 hv3
          subst hv1
          obtain ⟨e, he⟩ := get_lt (xs := ds) (k := ds.length - 1) (by omega)
          obtain ⟨u, hu⟩ := get_lt (xs := out) (k := ds.length - 1) (by omega)
          obtain ⟨_, heu, _, _⟩ := hds.ok _ e u he hu
          obtain ⟨a8, ha8, hce⟩ := ((hod.row encDl_len (I := J)).sub hoL.left).cell he
          injection ha8 with ha8
          subst ha8
          have hw : (IntKind.wrap .i64 ((ds.length : Int) - 1)).toNat = ds.length - 1 := by rw [wrap_i64 (by omega) (by omega)]; omega
          have hw2 : IntKind.wrap .i64 ((ds.length : Int) - 1) = ((ds.length - 1 : Nat) : Int) := by rw [wrap_i64 (by omega) (by omega)]; omega
          rw [hw, hw2]
          have hlast : out.getLast? = some u := by rw [List.getLast?_eq_getElem?, ← hdl]; exact hu
          refine ⟨by omega, by omega, _, hce 4 _ rfl, _, Cell.at_ (by simp only [add_mk, Nat.add_assoc]) (hce 5 _ rfl), _, Cell.at_ (by simp only [add_mk, Nat.add_assoc]) (hce 6 _ rfl), _, Cell.at_ (by simp only [add_mk, Nat.add_assoc]) (hce 7 _ rfl), _, Cell.among hb6 rfl, _, Cell.at_ (add_mk _ _ _) (Cell.among hb6 rfl), _, Cell.at_ (add_mk _ _ _) (Cell.among hb6 rfl), _, Cell.at_ (add_mk _ _ _) (Cell.among hb6 rfl), ?_⟩
          by_cases h3 : e.2.1 = y
          · have hok : out ≠ [] ∧ [y] = [y] ∧ (out.getLast?).map (·.2.1) = some y := ⟨fun e => h0 (by rw [hdl, e]; rfl), rfl, by rw [hlast]; show some u.2.1 = some y; rw [← heu, h3]⟩
            rw [if_pos hok] at hend
            have : (((e.2.1.1 : ByteArray) == (y.1 : ByteArray)) && (((e.2.1.2.1 : Int) == (y.2.1 : Int)) && (((e.2.1.2.2.1 : Int) == (y.2.2.1 : Int)) && (((e.2.1.2.2.2 : ByteArray) == (y.2.2.2 : ByteArray)) && true)))) = true := recEq.2 h3
            unfold stream_deltas_b4 stream_deltas_b5
            refine bcase_f (by rw [this]; rfl) (StP.among (e := 100) (F := own ++ (G ++ S)) (L := [.bool false, .slice none 0 0, .slice none 0 0]) (L' := [.bool false, .slice none 0 0, .slice (some ⟨g, 0, none⟩) ds.length ouc]) (show Go.Px.Sub (rsB b4 false none 0 0 none 0 0 :: (own ++ (G ++ S))) T from hsub.re (by intro a; simp only [cnt_cons, cnt_app, cnt_nil]; omega)) (Nat.le_of_ble_eq_true rfl) rfl rfl ?_)
            intro T2 hT2
            refine ⟨_, Cell.among hT2 rfl, _, _, _, Cell.at_ (add_mk _ _ _) (Cell.among hT2 rfl), _, _, _, Cell.at_ (add_mk _ _ _) (Cell.among hT2 rfl), ?_⟩
            rw [hfe, hend]
            exact ⟨none, 0, 0, [], _, _, _, own, G, ds, rfl, OwnR.nil, hod, hLd ▸ hds, hT2.drop⟩
          · have : (((e.2.1.1 : ByteArray) == (y.1 : ByteArray)) && (((e.2.1.2.1 : Int) == (y.2.1 : Int)) && (((e.2.1.2.2.1 : Int) == (y.2.2.1 : Int)) && (((e.2.1.2.2.2 : ByteArray) == (y.2.2.2 : ByteArray)) && true)))) = false := by
              rw [← Bool.not_eq_true]; exact fun hh => h3 (recEq.1 hh)
            rw [this]
            refine bad4 ?_
            rintro ⟨_, _, h4⟩
            rw [hlast] at h4
            injection h4 with h4
            exact h3 (heu.trans h4)
        · rintro ⟨_, h3, _⟩
          injection h3 with h3
          rw [recEq.2 h3] at h2; cases h2
end Go.Proofs.YthlkeokfmedjhaaGreat
/- What a transfer of changes brings; a zone behind whatever deltas. -/
namespace Go.Proofs.YthlkeokfmedjhaaGreat
open Go.Px
set_option linter.unusedVariables false
set_option linter.unusedSimpArgs false

abbrev PT := Bool × List Rc × (Option Int × List Dd)
def partT (o : ByteArray) (frm : Int) (xs : List Rc) : PT :=
  if rightT o xs = true then
    (if xs.length = 1 then (if serT (xs.headD zR0) = frm then (true, [], (none, [])) else (false, [], (some 5, [])))
     else match fullT o xs with
      | (none, l) => (false, l, (none, []))
      | (some _, _) => (false, [], deltasG (xs.headD zR0) xs.length frm xs.tail []))
  else (false, [], (some 4, []))
theorem part_wrong {o : ByteArray} {frm : Int} {xs : List Rc} (h : ¬ rightT o xs = true) : partT o frm xs = (false, [], (some 4, [])) := by rw [partT, if_neg h]
theorem part_one {o : ByteArray} {frm : Int} {r : Rc} (h : rightT o [r] = true) (g : serT r = frm) : partT o frm [r] = (true, [], (none, [])) := by
  unfold partT; rw [if_pos h]; exact (if_pos (rfl : [r].length = 1)).trans (if_pos g)
theorem part_ser {o : ByteArray} {frm : Int} {r : Rc} (h : rightT o [r] = true) (g : serT r ≠ frm) : partT o frm [r] = (false, [], (some 5, [])) := by
  unfold partT; rw [if_pos h]; exact (if_pos (rfl : [r].length = 1)).trans (if_neg g)
theorem part_full {o : ByteArray} {frm : Int} {xs l : List Rc} (h : rightT o xs = true) (h1 : xs.length ≠ 1) (g : fullT o xs = (none, l)) : partT o frm xs = (false, l, (none, [])) := by
  rw [partT, if_pos h, if_neg h1, g]
theorem part_deltas {o : ByteArray} {frm : Int} {xs l : List Rc} {e : Int} (h : rightT o xs = true) (h1 : xs.length ≠ 1) (g : fullT o xs = (some e, l)) : partT o frm xs = (false, [], deltasG (xs.headD zR0) xs.length frm xs.tail []) := by
  rw [partT, if_pos h, if_neg h1, g]
theorem right_ne {o : ByteArray} {xs : List Rc} (h : rightT o xs = true) : ∃ r l, xs = r :: l := by
  cases xs with
  | nil => cases h
  | cons r l => exact ⟨r, l, rfl⟩
theorem Part_runs {xs : List Rc} {a : Option Addr} {c : Nat} {o : ByteArray} {frm : Int} {I : IMem} {L0 S : SH} (hL : Sub L0 S) (hx : RowIn I L0 a xs.length 4 encR xs) (hl : xs.length ≤ 10000) (hc : xs.length ≤ c) (hsm : SizeOK xs) :
    Runs Tryz.prog 48 #[.string o, .int .u32 frm, .slice a xs.length c] I S fun v J T => PRes L0 S J v T (partT o frm xs).1 (partT o frm xs).2.1 (partT o frm xs).2.2 := by
  refine stream_Part_fn _ _ _ _ _ _ _ _ ?_
  unfold stream_Part
  intro b6
  have hx6 : ∀ {J : IMem} {T : SH}, I.le J → Sub S T → RowIn J T a xs.length 4 encR xs := fun h g => ((hx.sub hL).sub g).le h
  have hS6 : Sub S ((b6, Obj.cells #[.bool false, .slice none 0 0, .slice none 0 0] 100 (0, 0)) :: S) := (Sub.refl S).skip _
  refine (right2_runs (o := o) (hx6 (IMem.le.refl I) hS6) (by omega) hsm).mono ?_
  rintro v J T hle ⟨rfl, rfl⟩
  refine ⟨_, rfl, bcase_not (bcase_of (fun h1 => ?_) (fun h1 => ?_))⟩
  · refine bcase_beq (fun h2 => ?_) (fun h2 => ?_)
    · obtain ⟨r, rfl⟩ : ∃ r, xs = [r] := by
        match xs, h2 with
        | [y], _ => exact ⟨y, rfl⟩
        | [], h2 => simp at h2
        | _ :: _ :: _, h2 => simp only [List.length_cons] at h2; omega
      obtain ⟨a', rfl, hcr⟩ := (hx6 hle hS6).cell (i := 0) (x := r) rfl
      obtain ⟨c0, c1, c2, c3⟩ := CellsR hcr
      refine ⟨by decide, by simp, _, c0, _, c1, _, c2, _, c3, (serial_runs r (hsm r (List.mem_cons_self ..)) _ _).mono ?_⟩
      rintro v J2 T2 hle2 ⟨rfl, rfl⟩
      refine ⟨_, rfl, bcase_bne (fun hs => ?_) (fun hs => ?_)⟩
      · rw [part_ser h1 hs]
        refine StP.all (vs := [.bool false, .slice none 0 0, .slice none 0 0]) rfl rfl ?_
        exact ⟨_, Cell.at0 rfl, _, _, _, Cell.at0 rfl, _, _, _, Cell.at0 rfl, none, 0, 0, [], none, 0, 0, [], [], [], rfl, OwnR.nil, OwnR.nil, DsOK.nil, hS6⟩
      · rw [part_one h1 hs]
        refine StP.all (vs := [.bool true, .slice none 0 0, .slice none 0 0]) rfl rfl ?_
        exact ⟨_, Cell.at0 rfl, _, _, _, Cell.at0 rfl, _, _, _, Cell.at0 rfl, none, 0, 0, [], none, 0, 0, [], [], [], rfl, OwnR.nil, OwnR.nil, DsOK.nil, (Sub.refl S).skip _⟩
    · have h2' : xs.length ≠ 1 := fun e => h2 (by rw [e]; rfl)
      refine (Full_runs (o := o) (hx6 hle hS6) (by omega) hc hsm).mono ?_
      rintro v J2 T2 hle2 ⟨p, n, d, own, rfl, ho, hs2⟩
      refine ⟨_, _, _, _, rfl, ?_⟩
      have hs3 : Sub (rsB b6 false none 0 0 none 0 0 :: (own ++ S)) T2 := Sub.re (show Go.Px.Sub (own ++ (rsB b6 false none 0 0 none 0 0 :: S)) T2 from hs2) (by intro a; simp only [cnt_cons, cnt_app, cnt_nil]; omega)
      cases hf : fullT o xs with
      | mk e l =>
        rw [hf] at ho
        cases e with
        | none =>
          rw [part_full h1 h2' hf]
          refine ⟨true, rfl, bcase_t rfl (StP.among (L' := [.bool false, .slice p n d, .slice none 0 0]) hs3 (Nat.le_of_ble_eq_true rfl) rfl rfl ?_)⟩
          intro T3 hT3
          exact ⟨_, Cell.among hT3 rfl, _, _, _, Cell.among hT3 rfl, _, _, _, Cell.among hT3 rfl, p, n, d, own, none, 0, 0, [], [], [], rfl, ho, OwnR.nil, DsOK.nil, hT3.drop⟩
        | some e =>
          rw [part_deltas h1 h2' hf]
          obtain ⟨r, l', rfl⟩ := right_ne h1
          refine ⟨false, rfl, bcase_f rfl ((deltas_runs (frm := frm) (L0 := L0) (hL.trans hs3.drop.right) (hx.le (hle.trans hle2)) hl hc hsm rfl).mono ?_)⟩
          rintro v J3 T3 hle3 ⟨p3, n3, d3, own1, dp, dn, dc, own2, G, ds, rfl, ho1, ho2, hds, hs4⟩
          refine ⟨_, _, _, _, _, _, _, _, rfl, ?_⟩
          have hs5 : Go.Px.Sub (own1 ++ (own2 ++ (G ++ (rsB b6 false none 0 0 none 0 0 :: (own ++ S))))) T3 := ((Sub.refl own1).both ((Sub.refl own2).both ((Sub.refl G).both hs3))).trans hs4
          have hs6 : Go.Px.Sub (rsB b6 false none 0 0 none 0 0 :: (own1 ++ (own2 ++ (G ++ S)))) T3 := hs5.re (by intro a; simp only [cnt_cons, cnt_app, cnt_nil]; omega)
          refine StP.among (L' := [.bool false, .slice p3 n3 d3, .slice dp dn dc]) hs6 (Nat.le_of_ble_eq_true rfl) rfl rfl ?_
          intro T4 hT4
          exact ⟨_, Cell.among hT4 rfl, _, _, _, Cell.among hT4 rfl, _, _, _, Cell.among hT4 rfl, p3, n3, d3, own1, dp, dn, dc, own2, G, ds, rfl, ho1, ho2, hds, hT4.drop⟩
  · rw [part_wrong (by rw [h1]; exact Bool.false_ne_true)]
    refine StP.all (vs := [.bool false, .slice none 0 0, .slice none 0 0]) rfl rfl ?_
    exact ⟨_, Cell.at0 rfl, _, _, _, Cell.at0 rfl, _, _, _, Cell.at0 rfl, none, 0, 0, [], none, 0, 0, [], [], [], rfl, OwnR.nil, OwnR.nil, DsOK.nil, hS6⟩
end Go.Proofs.YthlkeokfmedjhaaGreat
