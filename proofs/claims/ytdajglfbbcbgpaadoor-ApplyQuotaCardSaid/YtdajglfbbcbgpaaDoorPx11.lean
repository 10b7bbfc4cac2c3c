/- Rows that a call owns, whatever their elements: reading, writing, appending, copying. -/
import Derived.Test.YtdajglfbbcbgpaaDoorPx10
namespace Go.Px
set_option linter.unusedVariables false
set_option linter.unusedSimpArgs false

section
variable {α : Type} {el : α → List Value} {sz : Nat}
/-- a slice's elements -/
def RowIn (I : IMem) (S : SH) (a : Option Addr) (len sz : Nat) (el : α → List Value) (xs : List α) : Prop :=
  xs.length = len ∧ ∀ i x, xs[i]? = some x → ∃ a', a = some a' ∧ a'.spot = none ∧ ∀ j v, (el x)[j]? = some v → Cell I S ((a'.add (i * sz)).add j) v
theorem RowIn.of_slin {I : IMem} {a : Option Addr} {len : Nat} {xs : List α} (hne : ∀ x, 0 < (el x).length) (h : SlIn I a len sz el xs) : RowIn I [] a xs.length sz el xs := by
  refine ⟨rfl, fun i x hx => ?_⟩
  obtain ⟨a', ha, hc⟩ := h.2 i x hx
  refine ⟨a', ha, ?_, hc⟩
  have hi : i < xs.length := by
    rcases Nat.lt_or_ge i xs.length with g | g
    · exact g
    · rw [List.getElem?_eq_none g] at hx; cases hx
  obtain ⟨a2, ha2, hc2⟩ := h.2 0 _ (List.getElem?_eq_getElem (by omega))
  rw [ha] at ha2; injection ha2 with ha2; subst ha2
  have h0 := hc2 0 _ (List.getElem?_eq_getElem (hne _))
  rw [Nat.zero_mul] at h0
  exact h0.1
theorem RowIn.keep {I J : IMem} {S T : SH} {a : Option Addr} {len : Nat} {xs : List α} (hk : Keep I S J T) (h : RowIn I S a len sz el xs) : RowIn J T a len sz el xs :=
  ⟨h.1, fun i x hx => let ⟨a', h1, h2, h3⟩ := h.2 i x hx; ⟨a', h1, h2, fun j v hj => (h3 j v hj).mono hk⟩⟩
theorem RowIn.sub {I : IMem} {S T : SH} {a : Option Addr} {len : Nat} {xs : List α} (hs : Sub S T) (h : RowIn I S a len sz el xs) : RowIn I T a len sz el xs := h.keep (hs.keep (IMem.le.refl I))
theorem RowIn.le {I J : IMem} {S : SH} {a : Option Addr} {len : Nat} {xs : List α} (hle : I.le J) (h : RowIn I S a len sz el xs) : RowIn J S a len sz el xs := h.keep ((Sub.refl S).keep hle)
theorem RowIn.cell {I : IMem} {S : SH} {a : Option Addr} {len : Nat} {xs : List α} (h : RowIn I S a len sz el xs) {i : Nat} {x : α} (hx : xs[i]? = some x) : ∃ a', a = some a' ∧ ∀ j v, (el x)[j]? = some v → Cell I S ((a'.add (i * sz)).add j) v :=
  let ⟨a', h1, _, h3⟩ := h.2 i x hx; ⟨a', h1, h3⟩
theorem RowIn.take {I : IMem} {S : SH} {a : Option Addr} {len j : Nat} {xs : List α} (h : RowIn I S a len sz el xs) (hj : j ≤ len) : RowIn I S a j sz el (xs.take j) := by
  refine ⟨by rw [List.length_take, h.1]; omega, fun i x hx => ?_⟩
  rw [List.getElem?_take] at hx
  split at hx
  · exact h.2 i x hx
  · cases hx
theorem RowIn.drop {I : IMem} {S : SH} {a : Option Addr} {len j c : Nat} {xs : List α} (h : RowIn I S a len sz el xs) (hj : j ≤ len) (hc : len ≤ c) : RowIn I S (slA a c j sz) (len - j) sz el (xs.drop j) := by
  refine ⟨by rw [List.length_drop, h.1], fun i x hx => ?_⟩
  rw [List.getElem?_drop] at hx
  obtain ⟨a', rfl, hs, hcl⟩ := h.2 _ x hx
  have hlt : j + i < xs.length := by
    rcases Nat.lt_or_ge (j + i) xs.length with g | g
    · exact g
    · rw [List.getElem?_eq_none g] at hx; cases hx
  rw [h.1] at hlt
  unfold slA
  rw [if_neg (by omega)]
  refine ⟨a'.add (j * sz), rfl, ?_, fun k v hk => ?_⟩
  · obtain ⟨b, o, sp⟩ := a'
    dsimp only at hs; subst hs
    rw [add_mk]
  · rw [add_add _ hs, ← Nat.add_mul]; exact hcl k v hk
theorem flatMap_at (he : ∀ x, (el x).length = sz) (hsz : 0 < sz) : ∀ {xs : List α} {j : Nat} {u : Value}, (xs.flatMap el)[j]? = some u → ∃ x, xs[j / sz]? = some x ∧ (el x)[j % sz]? = some u
  | [], j, u, h => by simp at h
  | x :: xs, j, u, h => by
    simp only [List.flatMap_cons] at h
    by_cases hj : j < sz
    · rw [List.getElem?_append_left (by rw [he]; exact hj)] at h
      exact ⟨x, by rw [Nat.div_eq_of_lt hj]; rfl, by rw [Nat.mod_eq_of_lt hj]; exact h⟩
    · rw [List.getElem?_append_right (by rw [he]; omega), he] at h
      obtain ⟨y, h1, h2⟩ := flatMap_at he hsz h
      refine ⟨y, ?_, ?_⟩
      · rw [show j / sz = (j - sz) / sz + 1 by rw [Nat.div_eq_sub_div hsz (by omega)]]
        simpa using h1
      · rw [Nat.mod_eq_sub_mod (by omega)]; exact h2
theorem RowIn.rd (he : ∀ x, (el x).length = sz) (hsz : 0 < sz) {I : IMem} {S : SH} {a : Option Addr} {len c : Nat} {xs : List α} (h : RowIn I S a len sz el xs) : Rd I S sz (.slice a len c) len (xs.flatMap el) := by
  refine ⟨a, c, rfl, by rw [flatMap_len he, h.1], fun j u hj => ?_⟩
  obtain ⟨x, h1, h2⟩ := flatMap_at he hsz hj
  obtain ⟨a', ha, hs, hc⟩ := h.2 _ x h1
  refine ⟨a', ha, ?_⟩
  have := hc _ u h2
  rw [add_add _ hs, Nat.mul_comm, Nat.div_add_mod] at this
  exact this
theorem flatMap_one (ho : ∀ x, (el x).all one = true) : ∀ xs : List α, (xs.flatMap el).all one = true
  | [] => rfl
  | x :: xs => by simp only [List.flatMap_cons, List.all_append, ho, flatMap_one ho xs, Bool.and_self]

/-! ### a block as a list -/
theorem StP.list {S : SH} {g o : Nat} {L : List Value} {e : TypeId} {vs : List Value} {K : SH → Prop} (hl : o + vs.length ≤ L.length) (ho : vs.all one = true) (h : K ((g, .cells (L.take o ++ vs ++ L.drop (o + vs.length)).toArray e (0, 0)) :: S)) :
    StP ((g, .cells L.toArray e (0, 0)) :: S) ⟨g, o, none⟩ vs K := by
  refine StP.at0 (by simpa using hl) ho ?_
  rw [setR_list _ _ _ hl]; exact h
theorem Rd.list {I : IMem} {S : SH} {g o m c : Nat} {L vs : List Value} {e : TypeId} {fz : Nat × Nat} (hv : vs = (L.drop o).take (m * sz)) (hl : o + m * sz ≤ L.length) : Rd I ((g, .cells L.toArray e fz) :: S) sz (.slice (some ⟨g, o, none⟩) m c) m vs := by
  subst hv
  refine ⟨_, c, rfl, by simp; omega, fun j u hj => ⟨_, rfl, ?_⟩⟩
  rw [add_mk]
  refine Cell.at0 ?_
  rw [List.getElem?_toArray]
  rw [List.getElem?_take] at hj
  split at hj
  · rw [List.getElem?_drop] at hj; exact hj
  · cases hj
theorem Rd.none {I : IMem} {S : SH} {a : Option Addr} {c : Nat} : Rd I S sz (.slice a 0 c) 0 [] := ⟨a, c, rfl, by simp, fun j u h => by simp at h⟩
theorem Rd.keep {I J : IMem} {S T : SH} {x : Value} {m : Nat} {vs : List Value} (hk : Keep I S J T) (h : Rd I S sz x m vs) : Rd J T sz x m vs :=
  let ⟨A, c, h1, h2, h3⟩ := h; ⟨A, c, h1, h2, fun j u hj => let ⟨a, ha, hc⟩ := h3 j u hj; ⟨a, ha, hc.mono hk⟩⟩

/-! ### a row that the call owns -/
def OwnR (e : TypeId) (sz : Nat) (el : α → List Value) (v : Value) (xs : List α) (own : SH) : Prop :=
  (v = .slice none 0 0 ∧ xs = [] ∧ own = []) ∨
    ∃ g cap rest, v = .slice (some ⟨g, 0, none⟩) xs.length cap ∧ own = [(g, .cells (xs.flatMap el ++ rest).toArray e (0, 0))] ∧ xs.length * sz + rest.length = cap * sz ∧ cap ≤ maxLen
theorem OwnR.nil {e : TypeId} : OwnR e sz el (.slice none 0 0) [] [] := .inl ⟨rfl, rfl, rfl⟩
theorem OwnR.slice {e : TypeId} {v : Value} {xs : List α} {own : SH} (h : OwnR e sz el v xs own) : ∃ a c, v = .slice a xs.length c := by
  rcases h with ⟨rfl, rfl, _⟩ | ⟨g, cap, rest, rfl, _⟩
  · exact ⟨_, _, rfl⟩
  · exact ⟨_, _, rfl⟩
theorem OwnR.len {e : TypeId} {a : Option Addr} {n c : Nat} {xs : List α} {own : SH} (h : OwnR e sz el (.slice a n c) xs own) : n = xs.length := by
  obtain ⟨a', c', he⟩ := h.slice
  injection he
theorem OwnR.row (he : ∀ x, (el x).length = sz) {e : TypeId} {I : IMem} {a : Option Addr} {n c : Nat} {xs : List α} {own : SH} (h : OwnR e sz el (.slice a n c) xs own) : RowIn I own a n sz el xs := by
  refine ⟨h.len.symm, fun i x hx => ?_⟩
  rcases h with ⟨_, rfl, _⟩ | ⟨g, cap, rest, hv, rfl, _⟩
  · simp at hx
  · injection hv with ha
    refine ⟨_, ha, rfl, fun j v hj => ?_⟩
    rw [add_mk, add_mk, Nat.zero_add]
    refine Cell.at0 ?_
    have hil : i < xs.length := by
      rcases Nat.lt_or_ge i xs.length with h | h
      · exact h
      · rw [List.getElem?_eq_none h] at hx; cases hx
    have hjl : j < sz := by
      rcases Nat.lt_or_ge j (el x).length with h | h
      · rw [he] at h; exact h
      · rw [List.getElem?_eq_none h] at hj; cases hj
    rw [List.getElem?_toArray, List.getElem?_append_left, flatMap_get he xs i j x hx hjl]
    · exact hj
    · rw [flatMap_len he]
      have := Nat.mul_le_mul_right sz (Nat.succ_le_of_lt hil)
      rw [Nat.succ_mul] at this; omega
theorem take_flat (he : ∀ x, (el x).length = sz) (xs : List α) (rest : List Value) : (xs.flatMap el ++ rest).take (xs.length * sz) = xs.flatMap el := by
  rw [← flatMap_len he xs]; exact List.take_left
theorem drop_flat (he : ∀ x, (el x).length = sz) (xs : List α) (rest : List Value) : (xs.flatMap el ++ rest).drop (xs.length * sz) = rest := by
  rw [← flatMap_len he xs]; exact List.drop_left
/-- what is appended to a row of the call's own -/
theorem AppG.own (he : ∀ x, (el x).length = sz) (ho : ∀ x, (el x).all one = true) {e : TypeId} {bytes : Nat} {z : List Value} {td : Option TypeDesc} {I : IMem} {S own F : SH} {v x : Value} {xs ys : List α} {K : Option Addr → Nat → Nat → SH → Prop}
    (hz : z.length = sz) (hp : S.Perm (own ++ F)) (hv : OwnR e sz el v xs own) (hx : SrcP td sz z I S x ys.length (ys.flatMap el)) (hm : xs.length + ys.length ≤ maxLen) (hb : (xs.length + ys.length) * bytes ≤ 140737488355328)
    (hK : ∀ p n c own', OwnR e sz el (.slice p n c) (xs ++ ys) own' → K p n c (own' ++ F)) : AppG e sz bytes z td I S v x K := by
  have hlen : (xs ++ ys).length = xs.length + ys.length := List.length_append
  have grow : ∀ g c, xs.length + ys.length ≤ c → c ≤ maxLen → OwnR e sz el (.slice (some ⟨g, 0, none⟩) (xs.length + ys.length) c) (xs ++ ys) [(g, .cells (xs.flatMap el ++ ys.flatMap el ++ repV (c - (xs.length + ys.length)) z).toArray e (0, 0))] := by
    intro g c h1 h2
    refine .inr ⟨g, c, repV (c - (xs.length + ys.length)) z, by rw [hlen], by rw [List.flatMap_append], ?_, h2⟩
    rw [repV_length, hz, hlen, ← Nat.add_mul]; congr 1; omega
  rcases hv with ⟨rfl, rfl, rfl⟩ | ⟨g, cap, rest, rfl, rfl, hr, hc⟩
  · refine ⟨[] ++ F, [], F, none, 0, 0, ys.length, [], ys.flatMap el, hp, List.Perm.refl _, rfl, hx, by simpa using hm, by simpa using hb, fun h => .inl ?_, fun h => ⟨Rd.none, fun g c h1 h2 => ?_⟩⟩
    · have hy : ys = [] := List.eq_nil_of_length_eq_zero (by omega)
      subst hy
      exact ⟨rfl, hK none 0 0 [] OwnR.nil⟩
    · have := hK (some ⟨g, 0, none⟩) _ c _ (by simpa using grow g c (by simpa using h1) h2)
      simpa using this
  · refine ⟨_, [_], F, some ⟨g, 0, none⟩, xs.length, cap, ys.length, xs.flatMap el, ys.flatMap el, hp, List.Perm.refl _, rfl, hx, hm, hb, fun h => .inr ⟨_, rfl, ?_⟩, fun h => ⟨?_, fun g' c h1 h2 => ?_⟩⟩
    · rw [add_mk, Nat.zero_add]
      have hfit : xs.length * sz + ys.length * sz ≤ cap * sz := by rw [← Nat.add_mul]; exact Nat.mul_le_mul_right _ h
      refine StP.list ?_ (flatMap_one ho ys) ?_
      · rw [List.length_append, flatMap_len he, flatMap_len he]; omega
      · rw [take_flat he, flatMap_len he, ← List.drop_drop, drop_flat he]
        refine hK _ _ _ [_] (.inr ⟨g, cap, rest.drop (ys.length * sz), by rw [hlen], ?_, ?_, hc⟩)
        · rw [List.flatMap_append]
        · rw [List.length_drop, hlen, Nat.add_mul]; omega
    · refine Rd.keep (Sub.keep (IMem.le.refl I) (T := S) ⟨F, hp⟩) (Rd.list ?_ ?_)
      · rw [List.drop_zero, take_flat he]
      · rw [List.length_append, flatMap_len he]; omega
    · exact hK (some ⟨g', 0, none⟩) _ c _ (grow g' c h1 h2)
end
theorem RunsX.mono {P : Program} {f : FuncId} {args : Array Value} {I : IMem} {S : SH} {R R' : Value → IMem → SH → Prop} (h : RunsX P f args I S R) (hr : ∀ v J T, I.le J → R v J T → R' v J T) : RunsX P f args I S R' :=
  fun w hw => let ⟨v, w', J, T, h1, h2, h3, h4⟩ := h w hw; ⟨v, w', J, T, h1, h2, h3, hr v J T h2 h4⟩
theorem StP.mid {B : SH} {b o : Nat} {cs : Array Value} {e : TypeId} {vs : List Value} : ∀ {A : SH} {K : SH → Prop}, o + vs.length ≤ cs.size → vs.all one = true → K (A ++ (b, .cells (setR cs o vs) e (0, 0)) :: B) → StP (A ++ (b, .cells cs e (0, 0)) :: B) ⟨b, o, none⟩ vs K
  | [], K, hl, ho, h => StP.at0 hl ho h
  | x :: A, K, hl, ho, h => StP.tl (StP.mid (A := A) (K := fun T => K (x :: T)) hl ho h)
theorem StP.listF {S : SH} {g o : Nat} {L : List Value} {e : TypeId} {vs : List Value} {K : SH → Prop} {fz : Nat × Nat} (hl : o + vs.length ≤ L.length) (hf : o + vs.length ≤ fz.1) (ho : vs.all one = true) (h : K ((g, .cells (L.take o ++ vs ++ L.drop (o + vs.length)).toArray e fz) :: S)) :
    StP ((g, .cells L.toArray e fz) :: S) ⟨g, o, none⟩ vs K := by
  refine ⟨0, L.toArray, e, fz, rfl, rfl, by simpa using hl, .inr (.inl hf), ho, ?_⟩
  rw [setR_list _ _ _ hl]; exact h
theorem Cell.mid {I : IMem} {A B : SH} {b o : Nat} {cs : Array Value} {e : TypeId} {fz : Nat × Nat} {v : Value} (h : cs[o]? = some v) : Cell I (A ++ (b, .cells cs e fz) :: B) ⟨b, o, none⟩ v :=
  ⟨rfl, cs, e, fz, .inr (by simp), h⟩
theorem sub_swap {A B : SH} {x y : Nat × Obj} : Sub ((y :: A) ++ B) (A ++ x :: y :: B) :=
  ⟨[x], (List.perm_middle.trans ((List.perm_middle).cons _)).trans (List.perm_append_comm (l₁ := [x]))⟩
theorem perm_mid2 {A B : SH} {x y : Nat × Obj} : (x :: y :: (A ++ B)).Perm (A ++ x :: y :: B) := (List.perm_middle.trans ((List.perm_middle).cons _)).symm
theorem perm_mid1 {A B : SH} {x : Nat × Obj} : (x :: (A ++ B)).Perm (A ++ x :: B) := List.perm_middle.symm

/-! ### bytes -/
def elB (b : UInt8) : List Value := [.int .u8 (b.toNat : Int)]
theorem elB_len (b : UInt8) : (elB b).length = 1 := rfl
theorem elB_one (b : UInt8) : (elB b).all one = true := rfl
def bytL (l : List UInt8) : List Value := l.map fun b => .int .u8 (b.toNat : Int)
theorem flat_elB : ∀ l : List UInt8, l.flatMap elB = bytL l
  | [] => rfl
  | b :: l => by rw [List.flatMap_cons, flat_elB l]; rfl
theorem bytL_len (l : List UInt8) : (bytL l).length = l.length := List.length_map ..
theorem BytesAt.list {I : IMem} {S : SH} {g n : Nat} {l : List UInt8} {rest : List Value} {e : TypeId} {fz : Nat × Nat} (hn : n = l.length) : BytesAt I ((g, .cells (bytL l ++ rest).toArray e fz) :: S) (some ⟨g, 0, none⟩) n ⟨l.toArray⟩ := by
  subst hn
  refine ⟨by simp [ByteArray.size], fun i c hc => ?_⟩
  rw [add_mk, Nat.zero_add]
  refine Cell.at0 ?_
  have hi : i < l.length := by
    rcases Nat.lt_or_ge i l.length with h | h
    · exact h
    · rw [getElem?_neg (⟨l.toArray⟩ : ByteArray) i (by simp [ByteArray.size]; omega)] at hc; cases hc
  have hli : l[i]? = some c := by
    rw [getElem?_pos (⟨l.toArray⟩ : ByteArray) i (by simp [ByteArray.size]; omega)] at hc
    injection hc with hc
    rw [List.getElem?_eq_getElem hi, ← hc]; rfl
  rw [List.getElem?_toArray, List.getElem?_append_left (by rw [bytL_len]; exact hi), bytL, List.getElem?_map, hli]
  rfl
end Go.Px
