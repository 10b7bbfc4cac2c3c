/- Words for proofs over printed functions: what is owned among more, rows of structs, numbers in range. -/
import Derived.Test.YtdajglfbbcbgpaaDoorPx6
namespace Go.Px
set_option linter.unusedVariables false

def Sub (L T : SH) : Prop := ∃ G, T.Perm (L ++ G)
theorem Sub.refl (L : SH) : Sub L L := ⟨[], by simp⟩
theorem Sub.cons {L T : SH} (h : Sub L T) (p : Nat × Obj) : Sub (p :: L) (p :: T) := let ⟨G, hp⟩ := h; ⟨G, hp.cons p⟩
theorem Sub.skip {L T : SH} (h : Sub L T) (p : Nat × Obj) : Sub L (p :: T) := let ⟨G, hp⟩ := h; ⟨p :: G, (hp.cons p).trans List.perm_middle.symm⟩
theorem Sub.perm {L L' T : SH} (h : Sub L T) (hp : L.Perm L') : Sub L' T := let ⟨G, hg⟩ := h; ⟨G, hg.trans (hp.append_right G)⟩
theorem Sub.trans {L M T : SH} (h : Sub L M) (g : Sub M T) : Sub L T := by
  obtain ⟨G, hp⟩ := h
  obtain ⟨G', hp'⟩ := g
  exact ⟨G ++ G', by rw [← List.append_assoc]; exact hp'.trans (hp.append_right G')⟩
theorem Sub.drop {p : Nat × Obj} {L T : SH} (h : Sub (p :: L) T) : Sub L T := let ⟨G, hp⟩ := h; ⟨p :: G, hp.trans List.perm_middle.symm⟩
theorem Sub.left {L M T : SH} (h : Sub (L ++ M) T) : Sub L T := let ⟨G, hp⟩ := h; ⟨M ++ G, by rw [← List.append_assoc]; exact hp⟩
theorem Sub.right {L M T : SH} (h : Sub (L ++ M) T) : Sub M T := Sub.left (h.perm List.perm_append_comm)
theorem Sub.keep {I J : IMem} {L T : SH} (hle : I.le J) (h : Sub L T) : Keep I L J T := let ⟨G, hp⟩ := h; ⟨hle, G, hp.trans List.perm_append_comm⟩
theorem Keep.sub {I J : IMem} {L T : SH} (h : Keep I L J T) : Sub L T := let ⟨_, G, hp⟩ := h; ⟨G, hp.trans List.perm_append_comm⟩
theorem Sub.sat {I : IMem} {L T : SH} {w : World} (h : Sub L T) (hw : Sat I T w) : Sat I L w := let ⟨G, hp⟩ := h; (hw.perm (hp.trans List.perm_append_comm)).drop
theorem Sub.cell {I J : IMem} {L T : SH} {a : Addr} {v : Value} (h : Sub L T) (hle : I.le J) (hc : Cell I L a v) : Cell J T a v := hc.mono (h.keep hle)
theorem Sub.cell' {I : IMem} {L T : SH} {a : Addr} {v : Value} (h : Sub L T) (hc : Cell I L a v) : Cell I T a v := h.cell (IMem.le.refl I) hc

theorem Runs.sub {P : Program} {f : FuncId} {args : Array Value} {I : IMem} {L T : SH} {R : Value → IMem → SH → Prop} (h : Sub L T) (hr : Runs P f args I L R) : Runs P f args I T R := fun w hw => hr w (h.sat hw)
/-- a call, from what is owned among more -/
theorem Runs.use {P : Program} {f : FuncId} {args : Array Value} {I : IMem} {L T : SH} {R R' : Value → IMem → SH → Prop} (hs : Sub L T) (h : Runs P f args I L R) (hr : ∀ v J T, I.le J → R v J T → R' v J T) : Runs P f args I T R' :=
  (h.mono hr).sub hs
/-- at the end one may forget what is owned besides -/
theorem Runs.drop {P : Program} {f : FuncId} {args : Array Value} {I : IMem} {S : SH} {R : Value → IMem → SH → Prop} (h : Runs P f args I S fun v J T => ∃ L, Sub L T ∧ R v J L) : Runs P f args I S R :=
  fun w hw => (h w hw).mono fun _ _ ⟨v, J, T, he, hle, hs, L, hsub, hR⟩ => ⟨v, J, L, he, hle, hsub.sat hs, hR⟩
/-- .. and what is known of what stays as it is -/
theorem Runs.drop' {P : Program} {f : FuncId} {args : Array Value} {I : IMem} {S : SH} {R : Value → IMem → SH → Prop} (h : Runs P f args I S fun v J T => ∃ L J', I.le J' ∧ J'.le J ∧ Sub L T ∧ R v J' L) : Runs P f args I S R :=
  fun w hw => (h w hw).mono fun _ _ ⟨v, J, T, he, hle, hs, L, J', h1, h2, hsub, hR⟩ => ⟨v, J', L, he, h1, (hsub.sat hs).weaken h2, hR⟩

theorem add_mk (b o k : Nat) : (⟨b, o, none⟩ : Addr).add k = ⟨b, o + k, none⟩ := by
  unfold Addr.add; split
  · rename_i h; subst h; rfl
  · rfl
theorem add_add (a : Addr) (h : a.spot = none) (i j : Nat) : (a.add i).add j = a.add (i + j) := by
  obtain ⟨b, o, s⟩ := a
  dsimp only at h; subst h
  rw [add_mk, add_mk, add_mk, Nat.add_assoc]

theorem Cell.at0 {I : IMem} {S : SH} {b o : Nat} {cs : Array Value} {e : TypeId} {fz : Nat × Nat} {v : Value} (h : cs[o]? = some v) : Cell I ((b, .cells cs e fz) :: S) ⟨b, o, none⟩ v :=
  ⟨rfl, cs, e, fz, .inr (List.mem_cons_self ..), h⟩
theorem Cell.tl {I : IMem} {S : SH} {a : Addr} {v : Value} {p : Nat × Obj} (h : Cell I S a v) : Cell I (p :: S) a v := by
  obtain ⟨hs, cs, e, fz, hb, hv⟩ := h
  exact ⟨hs, cs, e, fz, hb.imp id (List.mem_cons_of_mem p), hv⟩
theorem Cell.app {I : IMem} {S G : SH} {a : Addr} {v : Value} (h : Cell I S a v) : Cell I (S ++ G) a v := by
  obtain ⟨hs, cs, e, fz, hb, hv⟩ := h
  exact ⟨hs, cs, e, fz, hb.imp id (List.mem_append_left G), hv⟩
theorem Cell.im {I : IMem} {S : SH} {b o : Nat} {cs : Array Value} {e : TypeId} {fz : Nat × Nat} {v : Value} (hb : I.at_ b = some (.cells cs e fz)) (h : cs[o]? = some v) : Cell I S ⟨b, o, none⟩ v :=
  ⟨rfl, cs, e, fz, .inl hb, h⟩
theorem Cell.le {I J : IMem} {S : SH} {a : Addr} {v : Value} (hle : I.le J) (h : Cell I S a v) : Cell J S a v := h.mono ⟨hle, [], List.Perm.refl _⟩

theorem StP.at0 {S : SH} {b o : Nat} {cs : Array Value} {e : TypeId} {vs : List Value} {K : SH → Prop} (hl : o + vs.length ≤ cs.size) (ho : vs.all one = true) (h : K ((b, .cells (setR cs o vs) e (0, 0)) :: S)) :
    StP ((b, .cells cs e (0, 0)) :: S) ⟨b, o, none⟩ vs K := ⟨0, cs, e, (0, 0), rfl, rfl, hl, .inl (Nat.le_refl _), ho, h⟩
theorem StP.tl {S : SH} {a : Addr} {vs : List Value} {K : SH → Prop} {p : Nat × Obj} (h : StP S a vs fun T => K (p :: T)) : StP (p :: S) a vs K :=
  let ⟨i, cs, e, fz, h1, h2, h3, h4, h5, h6⟩ := h; ⟨i + 1, cs, e, fz, h1, by simpa using h2, h3, h4, h5, by simpa using h6⟩
theorem StP.of_sub {L T : SH} {a : Addr} {vs : List Value} {K : SH → Prop} (hs : Sub L T) (h : StP L a vs fun L' => ∀ T', Sub L' T' → K T') : StP T a vs K := by
  obtain ⟨i, cs, e, fz, h1, h2, h3, h4, h5, h6⟩ := h
  obtain ⟨G, hp⟩ := hs
  have hm : (a.block, Obj.cells cs e fz) ∈ T := hp.mem_iff.2 (List.mem_append_left _ (List.mem_of_getElem? h2))
  obtain ⟨k, hk⟩ := List.getElem?_of_mem hm
  refine ⟨k, cs, e, fz, h1, hk, h3, h4, h5, h6 _ ⟨G, ?_⟩⟩
  -- both are the same list but for one entry
  have key : ∀ (A : SH) (i : Nat) (x y : Nat × Obj), A[i]? = some x → (y :: A).Perm (x :: A.set i y) := by
    intro A
    induction A with
    | nil => intro i x y h; simp at h
    | cons z A ih =>
      intro i x y h
      cases i with
      | zero => simp at h; subst h; exact List.Perm.swap ..
      | succ i =>
        simp at h
        have := ih i x y h
        exact (List.Perm.swap z y A).trans ((this.cons z).trans (List.Perm.swap x z _))
  have k1 := key T k _ (a.block, Obj.cells (setR cs a.off vs) e fz) hk
  have k2 := key L i _ (a.block, Obj.cells (setR cs a.off vs) e fz) h2
  have k3 : ((a.block, Obj.cells cs e fz) :: T.set k (a.block, Obj.cells (setR cs a.off vs) e fz)).Perm ((a.block, Obj.cells cs e fz) :: (L.set i (a.block, Obj.cells (setR cs a.off vs) e fz) ++ G)) :=
    k1.symm.trans ((hp.cons _).trans (k2.append_right G))
  exact List.Perm.cons_inv k3

/-! ### numbers in range -/
theorem wrap_i64 {x : Int} (h1 : -9223372036854775808 ≤ x) (h2 : x ≤ 9223372036854775807) : IntKind.wrap .i64 x = x := by
  simp only [IntKind.wrap, IntKind.bits, IntKind.signed]; simp; omega
theorem wrap_u8 {x : Int} (h1 : 0 ≤ x) (h2 : x ≤ 255) : IntKind.wrap .u8 x = x := by
  simp only [IntKind.wrap, IntKind.bits, IntKind.signed]; simp; omega
theorem wrap_u16 {x : Int} (h1 : 0 ≤ x) (h2 : x ≤ 65535) : IntKind.wrap .u16 x = x := by
  simp only [IntKind.wrap, IntKind.bits, IntKind.signed]; simp; omega
theorem wrap_u32 {x : Int} (h1 : 0 ≤ x) (h2 : x ≤ 4294967295) : IntKind.wrap .u32 x = x := by
  simp only [IntKind.wrap, IntKind.bits, IntKind.signed]; simp; omega
theorem wrap_u64 {x : Int} (h1 : 0 ≤ x) (h2 : x ≤ 18446744073709551615) : IntKind.wrap .u64 x = x := by
  simp only [IntKind.wrap, IntKind.bits, IntKind.signed]; simp; omega
theorem wrap_i32 {x : Int} (h1 : -2147483648 ≤ x) (h2 : x ≤ 2147483647) : IntKind.wrap .i32 x = x := by
  simp only [IntKind.wrap, IntKind.bits, IntKind.signed]; simp; omega
theorem wrap_u8_eq (x : Int) : IntKind.wrap .u8 x = x % 256 := by simp [IntKind.wrap, IntKind.bits, IntKind.signed]
theorem wrap_u16_eq (x : Int) : IntKind.wrap .u16 x = x % 65536 := by simp [IntKind.wrap, IntKind.bits, IntKind.signed]
theorem wrap_u32_eq (x : Int) : IntKind.wrap .u32 x = x % 4294967296 := by simp [IntKind.wrap, IntKind.bits, IntKind.signed]
theorem wrap_u64_eq (x : Int) : IntKind.wrap .u64 x = x % 18446744073709551616 := by simp [IntKind.wrap, IntKind.bits, IntKind.signed]

/-! ### rows of structs -/
section
variable {α : Type} {enc : α → List Value} {sz : Nat}
def rowA (enc : α → List Value) (xs : List α) : Array Value := (xs.flatMap enc).toArray
theorem flatMap_len (he : ∀ x, (enc x).length = sz) : ∀ xs : List α, (xs.flatMap enc).length = xs.length * sz
  | [] => by simp
  | x :: xs => by simp only [List.flatMap_cons, List.length_append, he, flatMap_len he xs, List.length_cons, Nat.succ_mul]; omega
theorem rowA_size (he : ∀ x, (enc x).length = sz) (xs : List α) : (rowA enc xs).size = xs.length * sz := by simp [rowA, flatMap_len he]
theorem flatMap_get (he : ∀ x, (enc x).length = sz) : ∀ (xs : List α) (i j : Nat) (x : α), xs[i]? = some x → j < sz → (xs.flatMap enc)[i * sz + j]? = (enc x)[j]?
  | [], i, j, x, h, _ => by simp at h
  | y :: xs, 0, j, x, h, hj => by
    simp at h; subst h
    simp only [List.flatMap_cons, Nat.zero_mul, Nat.zero_add]
    rw [List.getElem?_append_left (by rw [he]; exact hj)]
  | y :: xs, i + 1, j, x, h, hj => by
    simp at h
    simp only [List.flatMap_cons]
    rw [List.getElem?_append_right (by rw [he, Nat.succ_mul]; omega), he, show (i + 1) * sz + j - sz = i * sz + j by rw [Nat.succ_mul]; omega]
    exact flatMap_get he xs i j x h hj
theorem rowA_get (he : ∀ x, (enc x).length = sz) {xs : List α} {i j : Nat} {x : α} (h : xs[i]? = some x) (hj : j < sz) : (rowA enc xs)[i * sz + j]? = (enc x)[j]? := by
  rw [rowA, List.getElem?_toArray]; exact flatMap_get he xs i j x h hj
theorem Cell.row (he : ∀ x, (enc x).length = sz) {I : IMem} {S : SH} {b : Nat} {e : TypeId} {fz : Nat × Nat} {xs : List α} {i j : Nat} {x : α} {v : Value} (hx : xs[i]? = some x) (hj : j < sz) (hv : (enc x)[j]? = some v) :
    Cell I ((b, .cells (rowA enc xs) e fz) :: S) (((⟨b, 0, none⟩ : Addr).add (i * sz)).add j) v := by
  rw [add_mk, add_mk, Nat.zero_add]
  exact Cell.at0 ((rowA_get he hx hj).trans hv)
theorem StP.row (he : ∀ x, (enc x).length = sz) (h1 : ∀ x, (enc x).all one = true) {S : SH} {b : Nat} {e : TypeId} {xs : List α} {i : Nat} {x : α} {K : SH → Prop} (hi : i < xs.length)
    (hset : setR (rowA enc xs) (i * sz) (enc x) = rowA enc (xs.set i x)) (h : K ((b, .cells (rowA enc (xs.set i x)) e (0, 0)) :: S)) :
    StP ((b, .cells (rowA enc xs) e (0, 0)) :: S) ((⟨b, 0, none⟩ : Addr).add (i * sz)) (enc x) K := by
  rw [add_mk, Nat.zero_add]
  refine StP.at0 ?_ (h1 x) ?_
  · rw [he, rowA_size he, ← Nat.succ_mul]; exact Nat.mul_le_mul_right _ hi
  · rw [hset]; exact h
theorem setR_list : ∀ (vs cs : List Value) (o : Nat), o + vs.length ≤ cs.length → setR cs.toArray o vs = (cs.take o ++ vs ++ cs.drop (o + vs.length)).toArray
  | [], cs, o, _ => by simp [setR]
  | v :: vs, cs, o, h => by
    simp only [List.length_cons] at h
    have : cs.toArray.setIfInBounds o v = (cs.set o v).toArray := by simp
    rw [setR, this, setR_list vs (cs.set o v) (o + 1) (by simp; omega)]
    congr 1
    rw [List.take_set, List.drop_set_of_lt (by omega)]
    rw [List.take_succ_eq_append_getElem (by omega : o < cs.length)]
    rw [List.set_append_right _ _ (by simp; omega)]
    have h1 : o - (List.take o cs).length = 0 := by simp; omega
    rw [h1]
    simp only [List.set_cons_zero, List.append_assoc, List.cons_append, List.nil_append, List.length_cons]
    rw [show o + 1 + vs.length = o + (vs.length + 1) by omega]
theorem rowA_set (he : ∀ x, (enc x).length = sz) : ∀ {xs : List α} {i : Nat} (y : α), i < xs.length → setR (rowA enc xs) (i * sz) (enc y) = rowA enc (xs.set i y) := by
  intro xs i y hi
  rw [rowA, setR_list _ _ _ (by rw [flatMap_len he, he, ← Nat.succ_mul]; exact Nat.mul_le_mul_right _ hi), rowA]
  congr 1
  rw [he]
  induction xs generalizing i with
  | nil => simp at hi
  | cons x xs ih =>
    cases i with
    | zero =>
      simp only [Nat.zero_mul, List.take_zero, List.nil_append, Nat.zero_add, List.set_cons_zero, List.flatMap_cons]
      rw [List.drop_append, he, List.drop_eq_nil_of_le (by rw [he]; exact Nat.le_refl _), Nat.sub_self]; simp
    | succ i =>
      have := @ih i (by simpa using hi)
      simp only [List.flatMap_cons, List.set_cons_succ]
      rw [← this, Nat.succ_mul, Nat.add_comm (i * sz) sz]
      rw [List.take_append, he, List.take_of_length_le (by rw [he]; omega), show sz + i * sz - sz = i * sz by omega]
      rw [List.drop_append, he, List.drop_eq_nil_of_le (by rw [he]; omega), show sz + i * sz + sz - sz = i * sz + sz by omega]
      simp only [List.nil_append, List.append_assoc, Nat.add_comm (i * sz) sz]
theorem rowA_rep (n : Nat) (x : α) : (repV n (enc x)).toArray = rowA enc (List.replicate n x) := by
  unfold rowA
  congr 1
  induction n with
  | zero => rfl
  | succ n ih => simp only [repV, List.replicate_succ, List.flatMap_cons, ih]
end
end Go.Px
