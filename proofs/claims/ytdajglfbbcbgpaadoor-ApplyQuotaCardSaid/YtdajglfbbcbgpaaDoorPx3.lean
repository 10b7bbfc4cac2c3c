/- Operations: what each asks and gives; soundness against the model's own operations. -/
import Derived.Test.YtdajglfbbcbgpaaDoorPx2
import Derived.Maps.AppendAt
import Derived.Deep.AppendSrc
import Derived.Lib.ConvBytes
namespace Go.Px
set_option linter.unusedVariables false
set_option linter.unusedSimpArgs false

/-! ### slices that the call owns; what is read -/
def Arr (e : TypeId) (sz : Nat) (v : Value) (n : Nat) (xs : List Value) (own : SH) : Prop :=
  xs.length = n * sz ∧ ((v = .slice none 0 0 ∧ n = 0 ∧ own = []) ∨
    ∃ g cap cur, v = .slice (some ⟨g, 0, none⟩) n cap ∧ own = [(g, .cells cur e (0, 0))] ∧ n ≤ cap ∧ cap ≤ maxLen ∧ cur.size = cap * sz ∧ cur.toList.take (n * sz) = xs)
def Rd (I : IMem) (S : SH) (sz : Nat) (x : Value) (m : Nat) (vs : List Value) : Prop :=
  ∃ A c, x = .slice A m c ∧ vs.length = m * sz ∧ ∀ j u, vs[j]? = some u → ∃ a, A = some a ∧ Cell I S (a.add j) u
theorem one_oneCell {v : Value} (h : one v = true) : v.oneCell' = true := by cases v <;> first | rfl | simp [one] at h

theorem run_append_none {P : Program} {w : World} {t ty e : TypeId} {i : TypeInfo} (ht : P.underlying t = some (.slice e)) (hi : P.info? e = some i) {v : Value} {n c : Nat} {base : Nat} {xs : List Value}
    (hown : w.ownsRow base e i.size v n xs) : (Builtin.append_ #[t, t] ty #[v, .slice none 0 c]).run P w = .ok v w := by
  rcases hown.2 with ⟨rfl, rfl⟩ | ⟨g, cap, cur, rfl, _, _, hnc, _⟩
  · simp [Builtin.append_, run_underlying ht, sizeOf, typeInfo, hi, Builtin.lenOf, Builtin.firstCells]
  · simp [Builtin.append_, run_underlying ht, sizeOf, typeInfo, hi, Builtin.lenOf, Builtin.firstCells, hnc, storeCells]

/-! ### operations that build -/
def fillS (P : Program) (fs : List Field) : Array Value → List (Nat × Value) → Option (Array Value)
  | cs, [] => some cs
  | cs, (i, v) :: r => match fs[i]? with
    | none => none
    | some f => match Nat.beq v.cells.size (P.cellsOf f.type) && Nat.ble (f.offset + v.cells.size) cs.size with
      | true => fillS P fs (setR cs f.offset v.cells.toList) r
      | false => none
def fillA (sz : Nat) : Array Value → List (Nat × Value) → Option (Array Value)
  | cs, [] => some cs
  | cs, (i, v) :: r => match Nat.beq v.cells.size sz && Nat.ble (i * sz + v.cells.size) cs.size with
    | true => fillA sz (setR cs (i * sz) v.cells.toList) r
    | false => none
def evs (l : Fr) (parts : Array (Nat × Operand)) : List (Nat × Value) := parts.toList.map fun p => (p.1, ev l p.2)
def repV (n : Nat) (z : List Value) : List Value := match n with
  | 0 => []
  | n + 1 => z ++ repV n z

theorem foldl_setR : ∀ (vs : List Value) (k off : Nat) (cs : Array Value), (vs.zipIdx k).foldl (fun cs (p : Value × Nat) => cs.setIfInBounds (off + p.2) p.1) cs = setR cs (off + k) vs
  | [], _, _, _ => rfl
  | v :: vs, k, off, cs => by
    simp only [List.zipIdx_cons, List.foldl_cons, setR]
    rw [foldl_setR vs (k + 1) off]; rfl
theorem fold_setR (v : Value) (off : Nat) (cs : Array Value) : v.cells.zipIdx.foldl (fun cs (x : Value × Nat) => match x with | (c, j) => cs.setIfInBounds (off + j) c) cs = setR cs off v.cells.toList := by
  rw [← Array.foldl_toList]
  simp only [Array.toList_zipIdx]
  exact foldl_setR _ 0 off cs
theorem fillS_ok {P : Program} {fs : List Field} {place : Nat → Option (Nat × Nat)} (hp : ∀ i f, fs[i]? = some f → place i = some (f.offset, P.cellsOf f.type)) :
    ∀ (parts : List (Nat × Value)) (cs out : Array Value), fillS P fs cs parts = some out → Instr.fill place cs parts = some out
  | [], cs, out, h => by simpa [fillS, Instr.fill] using h
  | (i, v) :: r, cs, out, h => by
    simp only [fillS] at h
    split at h
    · cases h
    · rename_i f hf
      split at h
      · rename_i hb
        simp only [Bool.and_eq_true] at hb
        have h1 := Nat.eq_of_beq_eq_true hb.1
        have h2 := Nat.le_of_ble_eq_true hb.2
        simp only [Instr.fill, hp i f hf]
        have hc : (v.cells.size ≠ P.cellsOf f.type || decide (f.offset + v.cells.size > cs.size)) = false := by simp [h1]; omega
        rw [if_neg (by rw [hc]; simp)]
        rw [fold_setR]
        exact fillS_ok hp r _ out h
      · cases h
theorem fillA_ok {sz : Nat} : ∀ (parts : List (Nat × Value)) (cs out : Array Value), fillA sz cs parts = some out → Instr.fill (fun i => some (i * sz, sz)) cs parts = some out
  | [], cs, out, h => by simpa [fillA, Instr.fill] using h
  | (i, v) :: r, cs, out, h => by
    simp only [fillA] at h
    split at h
    · rename_i hb
      simp only [Bool.and_eq_true] at hb
      have h1 := Nat.eq_of_beq_eq_true hb.1
      have h2 := Nat.le_of_ble_eq_true hb.2
      simp only [Instr.fill]
      have hc : (v.cells.size ≠ sz || decide (i * sz + v.cells.size > cs.size)) = false := by simp [h1]; omega
      rw [if_neg (by rw [hc]; simp)]
      rw [fold_setR]
      exact fillA_ok r _ out h
    · cases h
theorem repV_get : ∀ (n : Nat) (z : List Value) (i : Nat), i < n * z.length → (repV n z)[i]? = some (z[i % z.length]!)
  | 0, z, i, h => by simp at h
  | n + 1, z, i, h => by
    rw [Nat.succ_mul] at h
    simp only [repV]
    have hz : 0 < z.length := by
      rcases Nat.eq_zero_or_pos z.length with e | e
      · rw [e] at h; simp at h
      · exact e
    rw [List.getElem?_append]
    split
    · rename_i hlt; rw [Nat.mod_eq_of_lt hlt]; simp [hlt]
    · rename_i hge
      rw [repV_get n z (i - z.length) (by omega)]
      rw [Nat.mod_eq_sub_mod (by omega : z.length ≤ i)]
theorem repV_length : ∀ (n : Nat) (z : List Value), (repV n z).length = n * z.length
  | 0, z => by simp [repV]
  | n + 1, z => by rw [Nat.succ_mul]; simp only [repV, List.length_append, repV_length n z]; omega
theorem repV_eq (n : Nat) (z : Array Value) : ((Array.range (n * z.size)).map fun i => z[i % z.size]!) = (repV n z.toList).toArray := by
  apply Array.ext_getElem?
  intro i
  simp only [Array.getElem?_map, List.getElem?_toArray]
  rcases Nat.lt_or_ge i (n * z.size) with h | h
  · have h0 : 0 < z.size := by
      rcases Nat.eq_zero_or_pos z.size with e | e
      · rw [e] at h; simp at h
      · exact e
    have h1 := Nat.mod_lt i h0
    rw [repV_get n z.toList i (by simpa using h), Array.getElem?_range, if_pos h, Option.map_some]
    rw [getElem!_pos z _ h1, getElem!_pos z.toList _ (by simpa using h1)]
    simp
  · rw [List.getElem?_eq_none (by rw [repV_length]; simpa using h)]
    simp [h]

/-! ### append, whatever the slice and whatever is appended; copy -/
def SrcP (td : Option TypeDesc) (sz : Nat) (z : List Value) (I : IMem) (S : SH) (x : Value) (m : Nat) (vs : List Value) : Prop := match td with
  | some .string => ∃ s, x = .string s ∧ m = s.size ∧ vs = byteCells s ∧ sz = 1
  | some (.int _) => ∃ k, x = .int k (m : Int) ∧ vs = repV m z
  | some (.slice _) => Rd I S sz x m vs ∧ vs.all one = true
  | _ => False
def AppG (e : TypeId) (sz bytes : Nat) (z : List Value) (td : Option TypeDesc) (I : IMem) (S : SH) (s x : Value) (K : Option Addr → Nat → Nat → SH → Prop) : Prop :=
  ∃ S' G S'' A n cap m xs vs, S.Perm S' ∧ S'.Perm (G ++ S'') ∧ s = .slice A n cap ∧ SrcP td sz z I S x m vs ∧ n + m ≤ maxLen ∧ (n + m) * bytes ≤ 140737488355328 ∧
    (n + m ≤ cap → (vs = [] ∧ K A (n + m) cap S') ∨ ∃ a, A = some a ∧ StP S' (a.add (n * sz)) vs fun T => K A (n + m) cap T) ∧
    (cap < n + m → Rd I S sz s n xs ∧ ∀ g c, n + m ≤ c → c ≤ maxLen → K (some ⟨g, 0, none⟩) (n + m) c ((g, .cells (xs ++ vs ++ repV (c - (n + m)) z).toArray e (0, 0)) :: S''))
def CpyP (sz : Nat) (I : IMem) (S : SH) (d x : Value) (K : Nat → SH → Prop) : Prop := match d, x with
  | .slice A dl _, .slice B sl c => ∃ vs, Rd I S sz (.slice B (min sl dl) c) (min sl dl) vs ∧ vs.all one = true ∧ ((vs = [] ∧ K (min sl dl) S) ∨ ∃ a, A = some a ∧ StP S a vs fun T => K (min sl dl) T)
  | .slice A dl _, .string s => (min s.size dl = 0 ∧ K 0 S) ∨ ∃ a, A = some a ∧ StP S a (byteCells (s.extract 0 (min s.size dl))) fun T => K (min s.size dl) T
  | _, _ => False


theorem app_room_src {P : Program} {w w' : World} {t tx ty e : TypeId} {i : TypeInfo} {A : Option Addr} {n cap m : Nat} {x : Value} {vs : List Value} (ht : P.underlying t = some (.slice e)) (hi : P.info? e = some i)
    (hs : Src P i.size tx x m vs w) (hroom : n + m ≤ cap) (hst : ∀ a, A = some a → (storeCells (a.add (n * i.size)) vs).run P w = .ok () w') (hno : A = none → w' = w) :
    (Builtin.append_ #[t, tx] ty #[.slice A n cap, x]).run P w = .ok (.slice A (n + m) cap) w' := by
  rcases hs.kind with ⟨e', hk⟩ | hk
  all_goals
    cases A with
    | none => rw [hno rfl]; simp [Builtin.append_, run_underlying ht, run_underlying hk, sizeOf, typeInfo, hi, hs.len, hroom, hs.cells]
    | some a =>
      have := hst a rfl
      simp [Builtin.append_, run_underlying ht, run_underlying hk, sizeOf, typeInfo, hi, hs.len, hroom, hs.cells, this]
theorem zeroCells_repV (z : Array Value) (m : Nat) : Builtin.zeroCells z m = (repV m z.toList).toArray := repV_eq m z
theorem asInt_int (k : IntKind) (j : Int) : asInt (.int k j) = pure j := rfl
theorem wrap64 {x : Int} (h1 : -9223372036854775808 ≤ x) (h2 : x ≤ 9223372036854775807) : IntKind.wrap .i64 x = x := by
  simp only [IntKind.wrap, IntKind.bits, IntKind.signed]; simp; omega
theorem app_room_int {P : Program} {w w' : World} {t tx ty e : TypeId} {i : TypeInfo} {z : Value} {k k' : IntKind} {A : Option Addr} {n cap m : Nat} (ht : P.underlying t = some (.slice e)) (hi : P.info? e = some i) (hz : i.zero = some z) (hzs : z.cells.size = i.size)
    (hk : P.underlying tx = some (.int k')) (h63 : m ≤ 9223372036854775807) (hby : m * i.bytes ≤ 281474976710656) (hroom : n + m ≤ cap)
    (hst : ∀ a, A = some a → (storeCells (a.add (n * i.size)) (repV m z.cells.toList)).run P w = .ok () w') (hno : A = none → w' = w) :
    (Builtin.append_ #[t, tx] ty #[.slice A n cap, .int k (m : Int)]).run P w = .ok (.slice A (n + m) cap) w' := by
  have hw : IntKind.wrap .i64 (m : Int) = (m : Int) := wrap64 (by omega) (by omega)
  have h1 : ¬ ((m : Int) < 0) := by omega
  have h2 : ¬ (281474976710656 < (m : Int) * (i.bytes : Int)) := by
    have : ((m * i.bytes : Nat) : Int) ≤ ((281474976710656 : Nat) : Int) := Int.ofNat_le.2 hby
    rw [Int.natCast_mul] at this; omega
  have hz0 : m * i.size = 0 → repV m z.cells.toList = [] := fun h => List.eq_nil_of_length_eq_zero (by rw [repV_length]; simpa [hzs] using h)
  by_cases h0 : m * i.size = 0
  · have hn := hz0 h0
    rw [hn] at hst
    have h0' : (m = 0 ∨ i.size = 0) := Nat.mul_eq_zero.1 h0
    cases A with
    | none => rw [hno rfl]; simp [Builtin.append_, run_underlying ht, run_underlying hk, sizeOf, typeInfo, hi, asInt_int, hw, h1, h2, hroom, h0', h0, zeroValue, hz]
    | some a =>
      have := hst a rfl
      have hw' : w' = w := by simpa [storeCells] using this.symm
      subst hw'
      simp [Builtin.append_, run_underlying ht, run_underlying hk, sizeOf, typeInfo, hi, asInt_int, hw, h1, h2, hroom, h0', h0, zeroValue, hz, storeCells]
  · have h0' : ¬ (m = 0 ∨ i.size = 0) := fun h => h0 (Nat.mul_eq_zero.2 h)
    cases A with
    | none => rw [hno rfl]; simp [Builtin.append_, run_underlying ht, run_underlying hk, sizeOf, typeInfo, hi, asInt_int, hw, h1, h2, hroom, h0', h0, zeroValue, hz]
    | some a =>
      have := hst a rfl
      simp [Builtin.append_, run_underlying ht, run_underlying hk, sizeOf, typeInfo, hi, asInt_int, hw, h1, h2, hroom, h0', h0, zeroValue, hz, zeroCells_repV, this]
theorem app_grow_int {P : Program} {w : World} {t tx ty e : TypeId} {i : TypeInfo} {z : Value} {k k' : IntKind} {A : Option Addr} {n cap m : Nat} {olds : List Value} (ht : P.underlying t = some (.slice e)) (hi : P.info? e = some i) (hz : i.zero = some z) (hzs : z.cells.size = i.size)
    (hk : P.underlying tx = some (.int k')) (hold : (Builtin.firstCells i.size n (.slice A n cap)).run P w.drew = .ok olds.toArray w.drew) (hg : cap < n + m) (h63 : ((n + m : Nat) : Int) ≤ 9223372036854775807) (hby : m * i.bytes ≤ 281474976710656)
    (hfit : Builtin.nextslicecap (n + m) cap * i.bytes ≤ 281474976710656) :
    (Builtin.append_ #[t, tx] ty #[.slice A n cap, .int k (m : Int)]).run P w =
      .ok (.slice (some ⟨w.heap.size, 0, none⟩) (n + m) (grownCap w (n + m) cap e)) (w.drew.alloc (.cells ((olds ++ repV m z.cells.toList).toArray ++ Builtin.zeroCells z.cells (grownCap w (n + m) cap e - (n + m))) e)) := by
  have hw : IntKind.wrap .i64 (m : Int) = (m : Int) := wrap64 (by omega) (by omega)
  have h1 : ¬ ((m : Int) < 0) := by omega
  have h2 : ¬ (281474976710656 < (m : Int) * (i.bytes : Int)) := by
    have : ((m * i.bytes : Nat) : Int) ≤ ((281474976710656 : Nat) : Int) := Int.ofNat_le.2 hby
    rw [Int.natCast_mul] at this; omega
  have hn : ¬ (n + m ≤ cap) := by omega
  have h63' : ¬ (9223372036854775807 < ((n : Int) + (m : Int))) := by omega
  have h48' : ¬ (281474976710656 < Builtin.nextslicecap (n + m) cap * i.bytes) := by omega
  have hz0 : m * i.size = 0 → repV m z.cells.toList = [] := fun h => List.eq_nil_of_length_eq_zero (by rw [repV_length]; simpa [hzs] using h)
  by_cases h0 : m * i.size = 0
  · have hr := hz0 h0
    rw [hr]
    have h0' : (m = 0 ∨ i.size = 0) := Nat.mul_eq_zero.1 h0
    (simp [Builtin.append_, run_underlying ht, run_underlying hk, sizeOf, typeInfo, zeroValue, hi, hz, asInt_int, hw, h1, h2, hn, h63', h48', Question.forced, hold, newRow, grownCap, h0', h0, zeroCells_repV])
  · have h0' : ¬ (m = 0 ∨ i.size = 0) := fun h => h0 (Nat.mul_eq_zero.2 h)
    simp [Builtin.append_, run_underlying ht, run_underlying hk, sizeOf, typeInfo, zeroValue, hi, hz, asInt_int, hw, h1, h2, hn, h63', h48', Question.forced, hold, newRow, grownCap, h0', h0, zeroCells_repV]
theorem Rd.first {P : Program} {I : IMem} {S : SH} {sz : Nat} {A : Option Addr} {n c : Nat} {xs : List Value} (h : Rd I S sz (.slice A n c) n xs) {w : World} (hw : Sat I S w) : (Builtin.firstCells sz n (.slice A n c)).run P w = .ok xs.toArray w := by
  obtain ⟨A', c', he, hl, hrd⟩ := h
  injection he with h1 h2 h3; subst h1; subst h3
  cases A with
  | none =>
    have hm : xs = [] := by
      rcases Nat.eq_zero_or_pos xs.length with h0 | h0
      · exact List.eq_nil_of_length_eq_zero h0
      · obtain ⟨a, ha, _⟩ := hrd 0 xs[0] (List.getElem?_eq_getElem h0); cases ha
    subst hm; rfl
  | some a =>
    exact run_firstCells_some w sz n a n c xs hl fun j u hj => by
      obtain ⟨a', ha, hc⟩ := hrd j u hj
      injection ha with ha; subst ha
      exact hc.run hw
theorem Rd.src {P : Program} {I : IMem} {S : SH} {sz : Nat} {x : Value} {m : Nat} {vs : List Value} {tx e' : TypeId} (hk : P.underlying tx = some (.slice e')) (h : Rd I S sz x m vs) (h1 : vs.all one = true) {w : World} (hw : Sat I S w) (hp : 0 < sz) : Src P sz tx x m vs w := by
  obtain ⟨A, c, rfl, hl, hrd⟩ := h
  cases A with
  | none =>
    have hm : vs = [] := by
      rcases Nat.eq_zero_or_pos vs.length with h0 | h0
      · exact List.eq_nil_of_length_eq_zero h0
      · obtain ⟨a, ha, _⟩ := hrd 0 vs[0] (List.getElem?_eq_getElem h0); cases ha
    subst hm
    have : m = 0 := by
      rcases Nat.mul_eq_zero.1 hl.symm with h | h
      · exact h
      · omega
    subst this
    exact Src.ofNil w hk c
  | some a =>
    exact Src.ofSlice w hk a m c vs hl (fun j u hj => by
      obtain ⟨a', ha, hc⟩ := hrd j u hj
      injection ha with ha; subst ha
      exact hc.run hw) (fun u hu => one_oneCell (List.all_eq_true.1 h1 u hu))
theorem StP.runC {P : Program} {I : IMem} {S : SH} {a : Addr} {vs : List Value} {K : SH → Prop} {w : World} (h : StP S a vs K) (hw : Sat I S w) : ∃ T w', (storeCells a vs).run P w = .ok () w' ∧ Sat I T w' ∧ K T := by
  obtain ⟨i, cs, e, fz, hs, hi, hlen, hfz, hone, hK⟩ := h
  obtain ⟨b, o, sp⟩ := a
  dsimp only at hs; subst hs
  have hb := hw.own (b, .cells cs e fz) (List.mem_of_getElem? hi)
  obtain ⟨w', h1, h2, h3, h4, h5, h6, h7⟩ := run_storeCells (P := P) (o := o) vs 0 cs w hb (by simpa using hlen) (by simpa using hfz) hone
  exact ⟨_, w', h1, hw.set hi h2 h3 h4 h5 h6 h7, hK⟩
theorem AppG.run {P : Program} {t tx ty e : TypeId} {i : TypeInfo} {z : Value} {I : IMem} {S : SH} {s x : Value} {K : Option Addr → Nat → Nat → SH → Prop} {w : World} (ht : P.underlying t = some (.slice e)) (hi : P.info? e = some i)
    (hz : i.zero = some z) (hzs : z.cells.size = i.size) (hsz : 0 < i.size) (h : AppG e i.size i.bytes z.cells.toList (P.underlying tx) I S s x K) (hw : Sat I S w) :
    ∃ p n c w' T, (Builtin.append_ #[t, tx] ty #[s, x]).run P w = .ok (.slice p n c) w' ∧ Sat I T w' ∧ K p n c T := by
  obtain ⟨S', G, S'', A, n, cap, m, xs, vs, hp, hp2, rfl, hsrc, hmx, hby, hroom, hgrow⟩ := h
  have hw1 := hw.perm hp
  have hm63 : n + m ≤ 9223372036854775807 := by simp only [maxLen] at hmx; omega
  -- the two arms, for either kind of what is appended
  have room : ∀ (w' : World), n + m ≤ cap → (∀ a, A = some a → (storeCells (a.add (n * i.size)) vs).run P w = .ok () w') → (A = none → w' = w) → (Builtin.append_ #[t, tx] ty #[.slice A n cap, x]).run P w = .ok (.slice A (n + m) cap) w' := by
    intro w' hr hst hno
    unfold SrcP at hsrc
    split at hsrc
    · rename_i hk
      obtain ⟨b, rfl, rfl, rfl, h1⟩ := hsrc
      exact app_room_src ht hi (by rw [h1]; exact Src.ofString w hk b) hr hst hno
    · rename_i k' hk
      obtain ⟨k, rfl, rfl⟩ := hsrc
      refine app_room_int ht hi hz hzs hk (by omega) ?_ hr hst hno
      have := Nat.mul_le_mul_right i.bytes (show m ≤ n + m by omega); omega
    · rename_i e' hk
      exact app_room_src ht hi (hsrc.1.src hk hsrc.2 hw hsz) hr hst hno
    · exact hsrc.elim
  by_cases hr : n + m ≤ cap
  · rcases hroom hr with ⟨hv, hK⟩ | ⟨a, rfl, hst⟩
    · subst hv
      exact ⟨_, _, _, w, S', room w hr (fun a _ => by simp [storeCells]) (fun _ => rfl), hw1, hK⟩
    · obtain ⟨T, w', h1, h2, h3⟩ := hst.runC (P := P) hw1
      exact ⟨_, _, _, w', T, room w' hr (fun a' ha => by injection ha with ha; subst ha; exact h1) (fun h => by cases h), h2, h3⟩
  · obtain ⟨hold, hK⟩ := hgrow (by omega)
    have hfit : Builtin.nextslicecap (n + m) cap * i.bytes ≤ 281474976710656 := growslice_fits (by omega) hby
    have ho := hold.first (P := P) (w := w.drew) hw.drew
    have hge := grownCap_ge w (n + m) cap e
    have hcm : grownCap w (n + m) cap e ≤ maxLen := grownCap_le_maxLen w (n + m) cap e hmx
    have hres : (Builtin.append_ #[t, tx] ty #[.slice A n cap, x]).run P w = .ok (.slice (some ⟨w.heap.size, 0, none⟩) (n + m) (grownCap w (n + m) cap e)) (w.drew.alloc (.cells ((xs ++ vs).toArray ++ Builtin.zeroCells z.cells (grownCap w (n + m) cap e - (n + m))) e)) := by
      unfold SrcP at hsrc
      split at hsrc
      · rename_i hk
        obtain ⟨b, rfl, rfl, rfl, h1⟩ := hsrc
        exact run_append_grow_src w t tx ty e i z ht hi hz A n cap xs ho (.string b) _ _ (by rw [h1]; exact Src.ofString w hk b) (by omega) (by omega) hfit
      · rename_i k' hk
        obtain ⟨k, rfl, rfl⟩ := hsrc
        refine app_grow_int ht hi hz hzs hk ho (by omega) (by omega) ?_ hfit
        have := Nat.mul_le_mul_right i.bytes (show m ≤ n + m by omega); omega
      · rename_i e' hk
        exact run_append_grow_src w t tx ty e i z ht hi hz A n cap xs ho x m vs (hsrc.1.src hk hsrc.2 hw hsz) (by omega) (by omega) hfit
      · exact hsrc.elim
    refine ⟨_, _, _, _, _, hres, (hw1.perm hp2).drop.drew.new _, ?_⟩
    have := hK w.heap.size (grownCap w (n + m) cap e) hge hcm
    rw [zeroCells_repV, List.append_toArray]
    exact this
theorem CpyP.run {P : Program} {dT sT ty e : TypeId} {i : TypeInfo} {I : IMem} {S : SH} {d x : Value} {K : Nat → SH → Prop} {w : World} (hu : P.underlying dT = some (.slice e)) (hi : P.info? e = some i) (h : CpyP i.size I S d x K) (hw : Sat I S w) :
    ∃ (m : Nat) (w' : World) (T : SH), (Builtin.copy_ #[dT, sT] ty #[d, x]).run P w = .ok (.int .i64 (m : Int)) w' ∧ Sat I T w' ∧ K m T := by
  unfold CpyP at h
  split at h
  · rename_i A dl dc B sl c
    obtain ⟨vs, hrd, h1, hK⟩ := h
    have hf : (Builtin.firstCells i.size (min sl dl) (.slice B sl c)).run P w = .ok vs.toArray w := by
      have := hrd.first (P := P) hw
      cases B <;> exact this
    rcases hK with ⟨rfl, hK⟩ | ⟨a, rfl, hst⟩
    · refine ⟨_, w, S, ?_, hw, hK⟩
      cases A <;> simp [Builtin.copy_, run_underlying hu, Builtin.lenOf, run_sizeOf hi, hf, storeCells, goInt]
    · obtain ⟨T, w', h1, h2, h3⟩ := hst.runC (P := P) hw
      refine ⟨_, w', T, ?_, h2, h3⟩
      simp [Builtin.copy_, run_underlying hu, Builtin.lenOf, run_sizeOf hi, hf, h1, goInt]
  · rename_i A dl dc s
    have hf : ∀ n w, (Builtin.firstCells i.size n (.string s)).run P w = .ok (byteCells (s.extract 0 n)).toArray w := by
      intro n w
      simp only [Builtin.firstCells, Sem.run_pure, byteCells]
      congr 1
      apply Array.ext'
      simp
    rcases h with ⟨h0, hK⟩ | ⟨a, rfl, hst⟩
    · refine ⟨0, w, S, ?_, hw, hK⟩
      have he : byteCells (s.extract 0 0) = [] := by simp [byteCells]
      have he2 : byteCells ByteArray.empty = [] := rfl
      have h0' : Nat.min s.size dl = 0 := h0
      cases A <;> simp [Builtin.copy_, run_underlying hu, Builtin.lenOf, run_sizeOf hi, h0', hf, he, he2, storeCells, goInt]
    · obtain ⟨T, w', h1, h2, h3⟩ := hst.runC (P := P) hw
      refine ⟨_, w', T, ?_, h2, h3⟩
      have hf' := hf (min s.size dl) w
      simp [Builtin.copy_, run_underlying hu, Builtin.lenOf, run_sizeOf hi, hf', h1, goInt]
  · exact h.elim

/-! ### bounds -/
def BndP (o : Option Value) (dflt ub : Nat) (K : Nat → Prop) : Prop := match o with
  | none => K dflt
  | some (.int _ i) => 0 ≤ i ∧ i ≤ (ub : Int) ∧ K i.toNat
  | _ => False
def slA (a : Option Addr) (m l size : Nat) : Option Addr := if m = l then a else a.map (·.add (l * size))
theorem slA_zero (a : Option Addr) (m size : Nat) : slA a m 0 size = a := by
  unfold slA; split
  · rfl
  · cases a <;> simp [Addr.add]
theorem BndP.run {P : Program} {o : Option Value} {d ub : Nat} {K : Nat → Prop} {code : BoundsCode} (h : BndP o d ub K) :
    ∃ n, (∀ w, (match o with | some v => Instr.sliceBound v ub code | none => pure d).run P w = .ok n w) ∧ K n := by
  unfold BndP at h
  split at h
  · exact ⟨d, fun _ => rfl, h⟩
  · rename_i k i
    exact ⟨i.toNat, fun w => by simp [Instr.sliceBound, asIntOf, h.1, h.2.1], h.2.2⟩
  · exact h.elim

/-! ### the cases -/
abbrev ptrP (p : Option Addr) (K : Addr → Prop) : Prop := match p with
  | some a => K a
  | none => False
theorem ptrP_elim {p : Option Addr} {K : Addr → Prop} (h : ptrP p K) : ∃ a, p = some a ∧ K a := by
  cases p with
  | none => exact h.elim
  | some a => exact ⟨a, rfl, h⟩
abbrev mapP (p : Option Nat) (K : Nat → Prop) : Prop := match p with
  | some m => K m
  | none => False
theorem mapP_elim {p : Option Nat} {K : Nat → Prop} (h : mapP p K) : ∃ a, p = some a ∧ K a := by
  cases p with
  | none => exact h.elim
  | some a => exact ⟨a, rfl, h⟩
def iand (k : IntKind) (x y : Int) : Int := k.wrap ((BitVec.ofInt k.bits x &&& BitVec.ofInt k.bits y).toNat : Int)
def ior (k : IntKind) (x y : Int) : Int := k.wrap ((BitVec.ofInt k.bits x ||| BitVec.ofInt k.bits y).toNat : Int)
def ixor (k : IntKind) (x y : Int) : Int := k.wrap ((BitVec.ofInt k.bits x ^^^ BitVec.ofInt k.bits y).toNat : Int)
def ibic (k : IntKind) (x y : Int) : Int := k.wrap ((BitVec.ofInt k.bits x &&& ~~~BitVec.ofInt k.bits y).toNat : Int)
def callable (P : Program) (f : FuncId) : Bool := match P.funcs[f]? with
  | some fn => !(fn.name == "runtime.NumGoroutine") && fn.body.isSome
  | none => false
/-- a call that Go's library answers by itself -/
def RunsX (P : Program) (f : FuncId) (args : Array Value) (I : IMem) (S : SH) (R : Value → IMem → SH → Prop) : Prop :=
  ∀ w, Sat I S w → ∃ v w' J T, (callFunc f args).run P w = .ok (.value v) w' ∧ I.le J ∧ Sat J T w' ∧ R v J T
def isNilI : Value → Option Bool
  | .nilIface => some true
  | .iface _ _ => some false
  | _ => none
def MaxL (k : IntKind) : Int → List Value → Option Int
  | x, [] => some x
  | x, .int _ y :: r => MaxL k (if y > x then y else x) r
  | _, _ => none
def MinL (k : IntKind) : Int → List Value → Option Int
  | x, [] => some x
  | x, .int _ y :: r => MinL k (if y < x then y else x) r
  | _, _ => none

def eqS : TypeDesc → Value → Value → Option Bool
  | .bool, .bool a, .bool b => some (a == b)
  | .int _, .int k a, .int k' b => (match decide (k = k') with | true => some (a == b) | false => none)
  | .string, .string a, .string b => some (a == b)
  | _, _, _ => none
def partV (P : Program) (t : TypeId) (xs : Array Value) (off : Nat) : Option Value := match P.underlying t with
  | none => none
  | some d => (match aggB d with
    | true => some (.agg (xs.extract off (off + P.cellsOf t)))
    | false => xs[off]?)
def eqFs (P : Program) (r : TypeId → Value → Value → Option Bool) (xs ys : Array Value) : List Field → Option Bool
  | [] => some true
  | f :: fs => match decide (f.name = "_"), partV P f.type xs f.offset, partV P f.type ys f.offset with
    | false, some x, some y => (match r f.type x y, eqFs P r xs ys fs with | some b, some c => some (b && c) | _, _ => none)
    | _, _, _ => none
def eqV (P : Program) : Nat → TypeId → Value → Value → Option Bool
  | 0, _, _, _ => none
  | n + 1, t, x, y => match P.underlying t with
    | none => none
    | some d => (match d, x, y with
      | .struct fs, .agg xs, .agg ys => (match P.stoodInHeld t with
        | false => eqFs P (eqV P n) xs ys fs.toList
        | true => none)
      | d, x, y => eqS d x y)
def BinM (P : Program) (op : BinOp) (t : TypeId) (xo yo : Operand) (x y : Value) (K : Value → Prop) : Prop :=
  match op, x, y with
  | .quo, .int k a, .int k' b => bcase (decide (b = 0)) False (match decide (k = k') with | true => K (.int k (k.wrap (a.tdiv b))) | false => False)
  | .rem, .int k a, .int k' b => bcase (decide (b = 0)) False (match decide (k = k') with | true => K (.int k (a.tmod b)) | false => False)
  | .shl, .int k a, .int _ b => bcase (decide (b < 0)) False (K (.int k (k.wrap (a * 2 ^ (min b.toNat k.bits)))))
  | .shr, .int k a, .int _ b => bcase (decide (b < 0)) False (K (.int k (a.fdiv (2 ^ (min b.toNat k.bits)))))
  | .add, .string a, .string b => ((a.size + b.size : Nat) : Int) ≤ 9223372036854775807 ∧ K (.string (a ++ b))
  | .eql, .pointer p, .pointer none => (match P.underlying t with | some (.pointer _) => K (.bool p.isNone) | _ => False)
  | .neq, .pointer p, .pointer none => (match P.underlying t with | some (.pointer _) => K (.bool (!p.isNone)) | _ => False)
  | .eql, .pointer p, .pointer (some b) => (match P.underlying t with | some (.pointer e) => (match Nat.beq (P.cellsOf e) 0 with | false => p = some b ∧ K (.bool true) | true => False) | _ => False)
  | .neq, .pointer p, .pointer (some b) => (match P.underlying t with | some (.pointer e) => (match Nat.beq (P.cellsOf e) 0 with | false => p = some b ∧ K (.bool false) | true => False) | _ => False)
  | .eql, .slice p _ _, .slice none _ _ => (match P.underlying t with | some (.slice _) => K (.bool p.isNone) | _ => False)
  | .neq, .slice p _ _, .slice none _ _ => (match P.underlying t with | some (.slice _) => K (.bool (!p.isNone)) | _ => False)
  | .eql, .map p, .map none => (match P.underlying t with | some (.map _ _) => K (.bool p.isNone) | _ => False)
  | .neq, .map p, .map none => (match P.underlying t with | some (.map _ _) => K (.bool (!p.isNone)) | _ => False)
  | .eql, .agg xs, .agg ys => (match P.underlying t with
    | some (.struct fs) => (match !P.eqGuardType P.depth t, eqV P 4 t (.agg xs) (.agg ys) with | true, some b => K (.bool b) | _, _ => False)
    | _ => False)
  | .neq, .agg xs, .agg ys => (match P.underlying t with
    | some (.struct fs) => (match !P.eqGuardType P.depth t, eqV P 4 t (.agg xs) (.agg ys) with | true, some b => K (.bool (!b)) | _, _ => False)
    | _ => False)
  | op, x, y => (match eval0 P (do eqGuard op t xo yo x y; binOp op t x y) with | some v => K v | none => False)
/-- an error of a number: is it that one? -/
def eqI (P : Program) (x : Value) (ty : TypeId) (vy : Value) : Option Bool := match x with
  | .nilIface => some false
  | .iface tx vx => (match Nat.beq tx ty with
    | false => some false
    | true => (match (P.info? ty).map (·.comparable), P.underlying ty, vx, vy with
      | some true, some (.int _), .int k a, .int k' b => (match decide (k = k') with | true => some (a == b) | false => none)
      | _, _, _, _ => none))
  | _ => none
def BinP (P : Program) (op : BinOp) (t : TypeId) (xo yo : Operand) (x y : Value) (K : Value → Prop) : Prop :=
  match y with
  | .nilIface => (match op with
    | .eql => (match yo, P.underlying t with | .const _, some (.interface _) => ∃ b, isNilI x = some b ∧ K (.bool b) | _, _ => False)
    | .neq => (match yo, P.underlying t with | .const _, some (.interface _) => ∃ b, isNilI x = some b ∧ K (.bool !b) | _, _ => False)
    | _ => False)
  | .iface ty vy => (match op with
    | .eql => (match P.underlying t with | some (.interface _) => ∃ b, eqI P x ty vy = some b ∧ K (.bool b) | _ => False)
    | .neq => (match P.underlying t with | some (.interface _) => ∃ b, eqI P x ty vy = some b ∧ K (.bool !b) | _ => False)
    | _ => False)
  | y => BinM P op t xo yo x y K

/-! ### maps, and bytes read as words -/
def keyD : TypeDesc → Bool
  | .int _ | .string | .bool => true
  | _ => false
def lkV (ok : Bool) (v : Value) (b : Bool) : Value := match ok with | true => .tuple #[v, .bool b] | false => v
def MpC (I : IMem) (S : SH) (r : Nat) (es : Array MapEntry) (clock : Nat) : Prop := I.at_ r = some (.map es clock) ∨ (r, Obj.map es clock) ∈ S
/-- what a map has by a key -/
def MapAt (I : IMem) (S : SH) (m : Option Nat) (kd : TypeDesc) (key z v : Value) (b : Bool) : Prop := ∃ es : Array MapEntry, (match m with | none => es = #[] | some r => ∃ clock, MpC I S r es clock) ∧
  ((∃ i, Instr.findNow kd key es.toList 0 = some (some (i, v)) ∧ b = true) ∨ (Instr.findNow kd key es.toList 0 = some none ∧ v = z ∧ b = false))
def MapLen (I : IMem) (S : SH) (m : Option Nat) (c : Nat) : Prop := match m with | none => c = 0 | some r => ∃ es clock, MpC I S r es clock ∧ c = es.size
def mapSet (kd : TypeDesc) (key val : Value) (es : Array MapEntry) (clock : Nat) : Option (Array MapEntry × Nat) := match Instr.findNow kd key es.toList 0 with
  | some (some (i, _)) => some (es.modify i fun e => { e with key, val }, clock)
  | some none => some (es.push { key, val, born := clock }, clock + 1)
  | none => none
def mapDel (kd : TypeDesc) (key : Value) (es : Array MapEntry) : Option (Array MapEntry) := match Instr.findNow kd key es.toList 0 with
  | some (some (i, _)) => some (es.eraseIdxIfInBounds i)
  | some none => some es
  | none => none
def MapSt (S : SH) (m : Option Nat) (kd : TypeDesc) (key val : Value) (K : SH → Prop) : Prop := ∃ r i es clock es' clock', m = some r ∧ S[i]? = some (r, .map es clock) ∧ mapSet kd key val es clock = some (es', clock') ∧ K (S.set i (r, .map es' clock'))
def MapDl (S : SH) (m : Option Nat) (kd : TypeDesc) (key : Value) (K : SH → Prop) : Prop := match m with
  | none => K S
  | some r => ∃ i es clock es', S[i]? = some (r, .map es clock) ∧ mapDel kd key es = some es' ∧ K (S.set i (r, .map es' clock))
/-- one step of a range over a map that nobody changes meanwhile -/
def NxP (I : IMem) (S : SH) (a : Addr) (K0 : Prop) (K1 : Value → Value → SH → Prop) : Prop :=
  ∃ i m since seen last es clock, a.off = 0 ∧ S[i]? = some (a.block, .mapIter (some m) since seen last) ∧ MpC I S m es clock ∧ since ≤ last ∧ (∀ e ∈ es, e.born < since) ∧
    ((∀ e ∈ es, seen.contains e.born = true) → K0) ∧ ∀ e ∈ es, seen.contains e.born = false → K1 e.key e.val (S.set i (a.block, .mapIter (some m) since (seen.push e.born) clock))
/-- what a range over a map stands at -/
def EnP (I : IMem) (S : SH) (a : Addr) (K : Value → Value → Prop) : Prop :=
  ∃ m since seen stamp es clock e, a.off = 0 ∧ (a.block, Obj.mapIter (some m) since seen clock) ∈ S ∧ seen.back? = some stamp ∧ MpC I S m es clock ∧ es.find? (·.born == stamp) = some e ∧ K e.key e.val
def BytesAt (I : IMem) (S : SH) (p : Option Addr) (n : Nat) (s : ByteArray) : Prop := match p with
  | none => s = ByteArray.empty
  | some a => s.size = n ∧ ∀ (i : Nat) (c : UInt8), s[i]? = some c → Cell I S (a.add i) (.int .u8 (c.toNat : Int))
/-! ### pointers of no type, and bytes made and seen -/
def BlkAt (I : IMem) (S : SH) (b : Nat) (cs : Array Value) (e : TypeId) : Prop := ∃ fz, I.at_ b = some (.cells cs e fz) ∨ (b, Obj.cells cs e fz) ∈ S
def frz (fz : Nat × Nat) (o n : Nat) : Nat × Nat := if fz.1 == fz.2 then (o, o + n) else (min fz.1 o, max fz.2 (o + n))
def UsP (P : Program) (u : TypeId) (I : IMem) (S : SH) (p : Option Addr) (m : Int) (K : ByteArray → SH → Prop) : Prop :=
  (m = 0 ∧ K ByteArray.empty S) ∨ ∃ a i cs e fz s, p = some a ∧ 0 < m ∧ m ≤ 9223372036854775807 ∧ S[i]? = some (a.block, .cells cs e fz) ∧ liesAt P P.depth e (cs.size / P.cellsOf e) a.off u m.toNat = true ∧
    BytesAt I S (some a) m.toNat s ∧ K s (S.set i (a.block, .cells cs e (frz fz a.off m.toNat)))
def ClrP (z : List Value) (S : SH) (p : Option Addr) (n : Nat) (K : SH → Prop) : Prop := (n = 0 ∧ K S) ∨ ∃ a, p = some a ∧ n ≠ 0 ∧ StP S a (repV n z) K
def PreOp (P : Program) (n : Nat) (o : Oper) (K : Fr → IMem → SH → Prop) (l : Fr) (I : IMem) (S : SH) : Prop :=
  match o.op with
  | .move x => putP n o.dst (ev l x) K l I S
  | .assign x => putP n o.dst (ev l x) K l I S
  | .load t x => (match ev l x with | .pointer (some a) => LdX P x t I S a fun v => putP n o.dst v K l I S | _ => False)
  | .store t x y => (match ev l x, P.underlying t with
    | .pointer (some a), some _ => (match Nat.beq (ev l y).cells.size (P.cellsOf t) with | true => StP S a (ev l y).cells.toList fun T => putP n o.dst undef K l I T | false => False)
    | _, _ => False)
  | .alloc t => (match (P.info? t).bind (·.zero) with | some z => ∀ b, putP n o.dst (.pointer (some ⟨b, 0, none⟩)) K l I ((b, .cells z.cells t (0, 0)) :: S) | none => False)
  | .box t x => ∀ b, putP n o.dst (.pointer (some ⟨b, 0, none⟩)) K l I ((b, .cells (ev l x).cells t (0, 0)) :: S)
  | .nilCheck x => (match ev l x with
    | .pointer p => ptrP p fun a => putP n o.dst (.pointer (some a)) K l I S
    | .func (.func f) fs cs => putP n o.dst (.func (.func f) fs cs) K l I S
    | _ => False)
  | .build t parts => (match P.underlying t, (P.info? t).bind (·.zero) with
    | some (.struct fs), some z => (match fs.toList.all (fun f => (P.info? f.type).isSome), fillS P fs.toList z.cells (evs l parts) with | true, some cs => putP n o.dst (.agg cs) K l I S | _, _ => False)
    | _, _ => False)
  | .buildSlice t len parts => (match P.underlying t with
    | some (.slice e) => (match P.info? e with
      | some i => (match i.zero with
        | some z => (match Nat.beq z.cells.size i.size && Nat.ble (len * i.size) 16777216 with
          | true => (match fillA i.size (repV len z.cells.toList).toArray (evs l parts) with
            | some cs => ∀ b, putP n o.dst (.slice (some ⟨b, 0, none⟩) len len) K l I ((b, .cells cs e (0, 0)) :: S)
            | none => False)
          | false => False)
        | none => False)
      | none => False)
    | _ => False)
  | .makeSlice t x y => (match P.underlying t, ev l x, ev l y with
    | some (.slice e), .int _ len, .int _ cap => (match P.info? e with
      | some i => (match i.zero with
        | some z => (match Nat.beq z.cells.size i.size with
          | true => 0 ≤ len ∧ len ≤ cap ∧ cap ≤ 9223372036854775807 ∧ i.bytes * cap ≤ 281474976710656 ∧
            ∀ b, putP n o.dst (.slice (some ⟨b, 0, none⟩) len.toNat cap.toNat) K l I ((b, .cells (repV cap.toNat z.cells.toList).toArray e (0, 0)) :: S)
          | false => False)
        | none => False)
      | none => False)
    | _, _, _ => False)
  | .indexAddr t x ix => (match P.underlying t, ev l x, ev l ix with
    | some (.slice e), .slice base len _, .int _ i => (match P.info? e with
      | some inf => ptrP base fun a => 0 ≤ i ∧ i < (len : Int) ∧ putP n o.dst (.pointer (some (a.add (i.toNat * inf.size)))) K l I S
      | none => False)
    | some (.array len e), .pointer (some a), .int _ i => (match P.info? e with
      | some inf => 0 ≤ i ∧ i < (len : Int) ∧ putP n o.dst (.pointer (some (a.add (i.toNat * inf.size)))) K l I S
      | none => False)
    | _, _, _ => False)
  | .index t x ix => (match P.underlying t, ev l x, ev l ix with
    | some .string, .string s, .int _ i => ∃ c : UInt8, 0 ≤ i ∧ s[i.toNat]? = some c ∧ putP n o.dst (.int .u8 (c.toNat : Int)) K l I S
    | _, _, _ => (match eval0 P (execOp (ev l) o) with | some (.value v) => putP n o.dst v K l I S | _ => False))
  | .slice t x lo hi mx => (match P.underlying t, ev l x, mx with
    | some .string, .string s, none => BndP (hi.map (ev l)) s.size s.size fun h => BndP (lo.map (ev l)) 0 h fun j => putP n o.dst (.string (s.extract j h)) K l I S
    | some (.slice e), .slice a len cap, none => (match P.info? e with
      | some inf => BndP (hi.map (ev l)) len cap fun h => BndP (lo.map (ev l)) 0 h fun j => putP n o.dst (.slice (slA a cap j inf.size) (h - j) (cap - j)) K l I S
      | none => False)
    | some (.slice e), .slice a len cap, some mx => (match P.info? e, hi with
      | some inf, some hi => BndP (some (ev l mx)) 0 cap fun m => BndP (some (ev l hi)) 0 m fun h => BndP (lo.map (ev l)) 0 h fun j => putP n o.dst (.slice (slA a m j inf.size) (h - j) (m - j)) K l I S
      | _, _ => False)
    | some (.array ln e), .pointer (some a), none => (match P.info? e with
      | some inf => BndP (hi.map (ev l)) ln ln fun h => BndP (lo.map (ev l)) 0 h fun j => putP n o.dst (.slice (slA (some a) ln j inf.size) (h - j) (ln - j)) K l I S
      | none => False)
    | _, _, _ => False)
  | .makeMap t none => ∀ r, putP n o.dst (.map (some r)) K l I ((r, .map #[] 0) :: S)
  | .makeMap t (some x) => (match P.underlying t, ev l x with
    | some (.map _ _), .int _ _ => ∀ r, putP n o.dst (.map (some r)) K l I ((r, .map #[] 0) :: S)
    | _, _ => False)
  | .range t x => (match P.underlying t, ev l x with
    | some (.map _ _), .map mm => mapP mm fun m => ∃ es clock, MpC I S m es clock ∧ ∀ b, putP n o.dst (.pointer (some ⟨b, 0, none⟩)) K l I ((b, .mapIter (some m) clock #[] clock) :: S)
    | _, _ => False)
  | .next it false => (match ev l it with
    | .pointer (some a) => NxP I S a (putP n o.dst (.tuple #[.bool false]) K l I S) fun k v T => putP n o.dst (.tuple #[.bool true, k, v]) K l I T
    | _ => False)
  | .entry it => (match ev l it with
    | .pointer (some a) => EnP I S a fun k v => putP n o.dst (.tuple #[k, v]) K l I S
    | _ => False)
  | .insert t m k v => (match P.underlying t, ev l m with
    | some (.map kt _), .map m => (match P.underlying kt with
      | some kd => (match keyD kd with
        | true => MapSt S m kd (ev l k) (ev l v) fun T => putP n o.dst undef K l I T
        | false => False)
      | none => False)
    | _, _ => False)
  | .lookup t x ix ok => (match P.underlying t, ev l x with
    | some (.map kt et), .map m => (match P.underlying kt, (P.info? et).bind (·.zero) with
      | some kd, some z => (match keyD kd with
        | true => exTy P et fun v => ∃ b : Bool, MapAt I S m kd (ev l ix) z v b ∧ putP n o.dst (lkV ok v b) K l I S
        | false => False)
      | _, _ => False)
    | _, _ => False)
  | .mapUpdate t m k v => (match P.underlying t, ev l m with
    | some (.map kt _), .map m => (match P.underlying kt with
      | some kd => (match keyD kd with
        | true => MapSt S m kd (ev l k) (ev l v) fun T => putP n o.dst undef K l I T
        | false => False)
      | none => False)
    | _, _ => False)
  | .convert s d x => (match P.underlying s, P.underlying d with
    | some (.slice e), some .string => (match P.underlying e, ev l x with
      | some (.int .u8), .slice p m _ => ∃ s : ByteArray, BytesAt I S p m s ∧ putP n o.dst (.string s) K l I S
      | _, _ => False)
    | some (.pointer t), some .unsafePointer => (match ev l x with
      | .pointer p => (match Nat.beq (P.cellsOf t) 0 with
        | false => ptrP p fun a => ∃ cs e, BlkAt I S a.block cs e ∧ a.off < cs.size ∧ putP n o.dst (.pointer (some a)) K l I S
        | true => False)
      | _ => False)
    | some .unsafePointer, some (.pointer t) => (match ev l x with
      | .pointer p => (match Nat.beq (P.cellsOf t) 0 with
        | false => ptrP p fun a => ∃ cs e, BlkAt I S a.block cs e ∧ liesAt P P.depth e (cs.size / P.cellsOf e) a.off t 1 = true ∧ putP n o.dst (.pointer (some a)) K l I S
        | true => False)
      | _ => False)
    | some .string, some (.slice e) => (match P.underlying e, ev l x with
      | some (.int .u8), .string s => s.size ≤ maxLen ∧ ∀ g c : Nat, s.size ≤ c → c ≤ maxLen → putP n o.dst (.slice (some ⟨g, 0, none⟩) s.size c) K l I ((g, .cells (byteCells s ++ repV (c - s.size) [.int .u8 0]).toArray e (c, c + 1)) :: S)
      | _, _ => False)
    | _, _ => (match eval0 P (execOp (ev l) o) with | some (.value v) => putP n o.dst v K l I S | _ => False))
  | .binOp op t x y _ => BinP P op t x y (ev l x) (ev l y) fun v => putP n o.dst v K l I S
  | .call c => (match c.callee, c.argTypes.toList, c.args.toList with
    | .value f, _, args => (match ev l f with
      | .func (.func fid) fs cs => (match callable P fid with
        | true => Runs P fid (fs.toList ++ args.map (ev l) ++ cs.toList).toArray I S fun v J T => asTy P o.type v fun v => putP n o.dst v K l J T
        | false => RunsX P fid (fs.toList ++ args.map (ev l) ++ cs.toList).toArray I S fun v J T => asTy P o.type v fun v => putP n o.dst v K l J T)
      | _ => False)
    | .builtin .len, [t], [x] => (match P.underlying t, ev l x with
      | some .string, .string s => putP n o.dst (.int .i64 (s.size : Int)) K l I S
      | some (.slice _), .slice _ m _ => putP n o.dst (.int .i64 (m : Int)) K l I S
      | some (.map _ _), .map m => ∃ c : Nat, MapLen I S m c ∧ putP n o.dst (.int .i64 (c : Int)) K l I S
      | _, _ => False)
    | .builtin .delete, [t, _], [x, k] => (match P.underlying t, ev l x with
      | some (.map kt _), .map m => (match P.underlying kt with
        | some kd => (match keyD kd with
          | true => MapDl S m kd (ev l k) fun T => putP n o.dst (.tuple #[]) K l I T
          | false => False)
        | none => False)
      | _, _ => False)
    | .builtin .cap, [t], [x] => (match P.underlying t, ev l x with
      | some (.slice _), .slice _ _ m => putP n o.dst (.int .i64 (m : Int)) K l I S
      | _, _ => False)
    | .builtin .max, _, x :: rest => (match ev l x with
      | .int k a => (match MaxL k a (rest.map (ev l)) with | some m => putP n o.dst (.int k m) K l I S | none => False)
      | _ => False)
    | .builtin .min, _, x :: rest => (match ev l x with
      | .int k a => (match MinL k a (rest.map (ev l)) with | some m => putP n o.dst (.int k m) K l I S | none => False)
      | _ => False)
    | .builtin .append, [t, t'], [s, x] => (match P.underlying t with
      | some (.slice e) => (match P.info? e with
        | some i => (match i.zero with
          | some z => (match Nat.beq z.cells.size i.size && Nat.blt 0 i.size with
            | true => AppG e i.size i.bytes z.cells.toList (P.underlying t') I S (ev l s) (ev l x) fun p m c T => putP n o.dst (.slice p m c) K l I T
            | false => False)
          | none => False)
        | none => False)
      | _ => False)
    | .builtin .unsafeSliceData, [t], [x] => (match P.underlying t, ev l x with
      | some (.slice _), .slice p _ c => (p.isSome = true → c ≠ 0) ∧ putP n o.dst (.pointer p) K l I S
      | _, _ => False)
    | .builtin .unsafeString, [t, _], [x, y] => (match P.underlying t, ev l x, ev l y with
      | some (.pointer u), .pointer p, .int _ m => UsP P u I S p m fun s T => putP n o.dst (.string s) K l I T
      | _, _, _ => False)
    | .builtin .clear, [t], [x] => (match P.underlying t, ev l x with
      | some (.slice e), .slice p m _ => (match (P.info? e).bind (·.zero) with
        | some z => ClrP z.cells.toList S p m fun T => putP n o.dst (.tuple #[]) K l I T
        | none => False)
      | _, _ => False)
    | .builtin .copy, [t, _], [d, x] => (match P.underlying t with
      | some (.slice e) => (match P.info? e with
        | some i => CpyP i.size I S (ev l d) (ev l x) fun m T => putP n o.dst (.int .i64 (m : Int)) K l I T
        | none => False)
      | _ => False)
    | _, _, _ => False)
  | _ => (match eval0 P (execOp (ev l) o) with | some (.value v) => putP n o.dst v K l I S | _ => False)

/-! ### soundness -/
def NX (n : Nat) (I : IMem) (K : Fr → IMem → SH → Prop) (a : Act) (w : World) : Prop := ∃ l J T, FrOK n l a ∧ I.le J ∧ Sat J T w ∧ K l J T
theorem putP.nx {n : Nat} {d : Option Tmp} {v : Value} {K : Fr → IMem → SH → Prop} {l : Fr} {I J : IMem} {T : SH} {a : Act} {w : World} (h : putP n d v K l J T) (ha : FrOK n l a) (hle : I.le J) (hw : Sat J T w) :
    NX n I K (a.put d v) w := by
  cases d with
  | none => exact ⟨l, J, T, ha, hle, hw, h⟩
  | some d =>
    simp only [putP] at h
    split at h
    · rename_i hb
      exact ⟨_, J, T, ha.put (by simpa using hb) v, hle, hw, h⟩
    · exact h.elim

section
variable {P : Program} {n : Nat} {o : Oper} {K : Fr → IMem → SH → Prop} {l : Fr} {I : IMem} {S : SH} {a : Act} {w : World} {Q : Exit → Act → World → Prop}
theorem wp_value {v : Value} {w' : World} {T : SH} (hr : (execOp (ev l) o).run P w = .ok (.value v) w') (h : putP n o.dst v K l I T) (hw : Sat I T w') (ha : FrOK n l a) : o.wp P a w (NX n I K) Q := by
  simp only [Oper.wp, ha.eval, hr, Oper.upon]
  exact h.nx ha (IMem.le.refl I) hw
theorem wp_skip' {w' : World} {T : SH} (hr : (execOp (ev l) o).run P w = .ok .skip w') (h : putP n o.dst undef K l I T) (hw : Sat I T w') (ha : FrOK n l a) : o.wp P a w (NX n I K) Q := by
  simp only [Oper.wp, ha.eval, hr, Oper.upon]
  exact h.nx ha (IMem.le.refl I) hw
theorem wp_pure (h : match eval0 P (execOp (ev l) o) with | some (.value v) => putP n o.dst v K l I S | _ => False) (hw : Sat I S w) (ha : FrOK n l a) : o.wp P a w (NX n I K) Q := by
  split at h
  · rename_i v he
    exact wp_value (run_of_eval0 he) h hw ha
  · exact h.elim
theorem wp_enter {f : FuncId} {args : Array Value} (hr : (execOp (ev l) o).run P w = .ok (.enter f args) w) (h : Runs P f args I S fun v J T => asTy P o.type v fun v => putP n o.dst v K l J T) (hw : Sat I S w) (ha : FrOK n l a) :
    o.wp P a w (NX n I K) Q := by
  simp only [Oper.wp, ha.eval, hr, Oper.upon]
  refine (h w hw).mono ?_
  rintro e w' ⟨v, J, T, rfl, hle, hs, hv⟩
  exact (asTy_elim hv).nx ha hle hs
end
end Go.Px
