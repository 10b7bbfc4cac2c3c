/- The trie's functions: without, Del, Get, count, Nodes, on trees of words. -/
import Derived.Test.YtoeecjlencaglaaTr4
import Derived.Test.YtoeecjlencaglaaTr6
set_option linter.unusedVariables false
namespace Go.Proofs.Ytoeecjlencaglaa
open Go.Px

theorem count_runs : ∀ (t : Sh) (p : Option Addr) (S0 S : SH) (I : IMem), t.nodes ≤ 4611686018427387904 → Rep t p S0 → Sub S0 S → Runs Try.prog 36 #[.pointer p] I S fun x J T => x = .int .i64 (t.nodes : Nat) ∧ T = S
  | .nil, p, S0, S, I, _, ⟨hp, _⟩, hs => by
    subst hp
    exact trie_count_fn _ _ _ _ ⟨rfl, rfl⟩
  | .node bits w l r, p, S0, S, I, hn, ⟨b, pl, pr, Sl, Sr, hp, hS, hl, hr⟩, hs => by
    subst hp hS
    simp only [Sh.nodes] at hn ⊢
    refine trie_count_fn _ _ _ _ ?_
    refine ⟨by omega, by omega, pl, Sub.cell' hs (Cell.at0 rfl), by omega, by omega, pr, Sub.cell' hs (Cell.at0 rfl), ?_⟩
    refine (count_runs l pl Sl S I (by omega) hl hs.drop.left).mono ?_
    rintro _ J T hle ⟨rfl, rfl⟩
    refine ⟨_, rfl, (Sub.refl T).keep hle, (count_runs r pr Sr T J (by omega) hr hs.drop.right).mono ?_⟩
    rintro _ J' T' hle' ⟨rfl, rfl⟩
    refine ⟨_, rfl, ?_, rfl⟩
    rw [wrap_i64 (x := (1 : Int) + (l.nodes : Int)) (by omega) (by omega), wrap_i64 (by omega) (by omega)]
    rfl
theorem Nodes_runs (tb : Nat) (t : Sh) (hn : t.nodes ≤ 4611686018427387904) (own : SH) (ho : TriO tb t own) (I : IMem) (F : SH) :
    Runs Try.prog 28 #[.pointer (some ⟨tb, 0, none⟩)] I (own ++ F) fun x J T => x = .int .i64 (t.nodes : Nat) ∧ T = own ++ F := by
  obtain ⟨p, S, hr, rfl⟩ := ho
  refine trie_Trie_Nodes_fn _ _ _ _ ?_
  refine ⟨p, by rw [List.append_assoc]; exact Cell.appR (Cell.at0 rfl), (count_runs t p S _ I hn hr ⟨_, by rw [List.append_assoc]⟩).mono ?_⟩
  rintro _ J T _ ⟨rfl, rfl⟩
  exact ⟨_, rfl, rfl, rfl⟩

theorem without_b3 {R : Value → IMem → SH → Prop} {b : Nat} {bits : List Bool} {w : Option Int} {l r : Sh} {pl pr : Option Addr} {Sl Sr F : SH} {J : IMem} {T : SH} (hl : Rep l pl Sl) (hr : Rep r pr Sr)
    (hlen : (Sh.node bits w l r).len ≤ 4611686018427387904) (hs : Sub (nodO b bits w pl pr :: (Sl ++ Sr) ++ F) T) (hR : ∀ q S' T', Rep (Sh.fix bits w l r) q S' → Sub (S' ++ F) T' → R (.pointer q) J T') : trie_without_b3 R (some ⟨b, 0, none⟩) J T := by
  have c0 : ∀ (o : Nat) (v : Value), (nodO b bits w pl pr).2 = (nodO b bits w pl pr).2 → (#[.string (eb bits), .bool w.isSome, .int .i64 (w.getD 0), .pointer pl, .pointer pr] : Array Value)[o]? = some v → Cell J T ⟨b, o, none⟩ v := fun o v _ h => Sub.cell' hs (Cell.at0 h)
  have k0 : Cell J T ⟨b, 3, none⟩ (.pointer pl) := c0 3 _ rfl rfl
  have k1 : Cell J T ⟨b, 4, none⟩ (.pointer pr) := c0 4 _ rfl rfl
  have kb : Cell J T ⟨b, 0, none⟩ (.string (eb bits)) := c0 0 _ rfl rfl
  refine ⟨w.isSome, c0 1 _ rfl rfl, ?_⟩
  cases w with
  | some x => exact hR (some ⟨b, 0, none⟩) (nodO b bits (some x) pl pr :: (Sl ++ Sr)) T ⟨b, pl, pr, Sl, Sr, rfl, rfl, hl, hr⟩ hs
  | none =>
    refine ⟨by omega, by omega, pl, k0, ?_⟩
    cases l with
    | nil =>
      obtain ⟨rfl, rfl⟩ := hl
      refine ⟨by omega, by omega, none, k0, by omega, by omega, pr, k1, ?_⟩
      cases r with
      | nil =>
        obtain ⟨rfl, rfl⟩ := hr
        exact hR none [] T ⟨rfl, rfl⟩ hs.drop
      | node b2 w2 l2 r2 =>
        obtain ⟨rb, pl2, pr2, Sl2, Sr2, rfl, rfl, hl2, hr2⟩ := hr
        simp only [Sh.len] at hlen
        have kr : Cell J T ⟨rb, 0, none⟩ (.string (eb b2)) := Sub.cell' hs (Cell.tl (Cell.at0 rfl))
        refine ⟨by omega, by omega, _, k1, _, kb, by omega, by omega, _, k1, _, kr, by rw [eb_size, eb_size]; omega, ?_⟩
        rw [eb_append]
        refine StP.of_sub hs (StP.tl (StP.at0 (o := 0) (vs := [.string (eb (bits ++ b2))]) (by simp) rfl fun T2 hs2 => ?_))
        refine ⟨by omega, by omega, some ⟨rb, 0, none⟩, Sub.cell' hs2 (Cell.at0 rfl), ?_⟩
        exact hR (some ⟨rb, 0, none⟩) (nodO rb (bits ++ b2) w2 pl2 pr2 :: (Sl2 ++ Sr2)) T2 ⟨rb, pl2, pr2, Sl2, Sr2, rfl, rfl, hl2, hr2⟩ hs2.drop
    | node b2 w2 l2 r2 =>
      obtain ⟨lb, pl2, pr2, Sl2, Sr2, rfl, rfl, hl2, hr2⟩ := hl
      refine ⟨by omega, by omega, pr, k1, ?_⟩
      cases r with
      | node b3 w3 l3 r3 =>
        have hr' := hr
        obtain ⟨rb, pl3, pr3, Sl3, Sr3, rfl, hSr, hl3, hr3⟩ := hr'
        exact hR (some ⟨b, 0, none⟩) (nodO b bits none _ _ :: ((nodO lb b2 w2 pl2 pr2 :: (Sl2 ++ Sr2)) ++ Sr)) T ⟨b, _, _, _, Sr, rfl, rfl, ⟨lb, pl2, pr2, Sl2, Sr2, rfl, rfl, hl2, hr2⟩, hr⟩ hs
      | nil =>
        obtain ⟨rfl, rfl⟩ := hr
        simp only [Sh.len] at hlen
        have kl : Cell J T ⟨lb, 0, none⟩ (.string (eb b2)) := Sub.cell' hs (Cell.tl (Cell.at0 rfl))
        refine ⟨by omega, by omega, _, k0, ?_⟩
        refine ⟨by omega, by omega, _, k0, _, kb, by omega, by omega, _, k0, _, kl, by rw [eb_size, eb_size]; omega, ?_⟩
        rw [eb_append]
        refine StP.of_sub hs (StP.tl (StP.at0 (o := 0) (vs := [.string (eb (bits ++ b2))]) (by simp) rfl fun T2 hs2 => ?_))
        refine ⟨by omega, by omega, some ⟨lb, 0, none⟩, Sub.cell' hs2 (Cell.at0 rfl), ?_⟩
        refine hR (some ⟨lb, 0, none⟩) (nodO lb (bits ++ b2) w2 pl2 pr2 :: (Sl2 ++ Sr2)) T2 ⟨lb, pl2, pr2, Sl2, Sr2, rfl, rfl, hl2, hr2⟩ ?_
        have := hs2.drop
        change Sub (nodO lb (bits ++ b2) w2 pl2 pr2 :: ((Sl2 ++ Sr2) ++ [] ++ F)) T2 at this
        rw [List.append_nil] at this
        exact this

theorem without_runs : ∀ (t : Sh) (k : List Bool) (p : Option Addr) (S F : SH) (I : IMem), t.find k ≠ none → t.len ≤ 4611686018427387904 → Rep t p S →
    Runs Try.prog 37 #[.pointer p, .string (eb k)] I (S ++ F) fun x J T => ∃ q S', x = .pointer q ∧ Rep (t.del k) q S' ∧ T = S' ++ F
  | .nil, k, p, S, F, I, hf, _, _ => absurd rfl hf
  | .node bits w l r, k, p, S, F, I, hf, hlen, ⟨b, pl, pr, Sl, Sr, hp, hS, hl, hr⟩ => by
    subst hp hS
    rcases pre_cases bits k with h | ⟨rest, rfl⟩
    · rw [Sh.find_lt h] at hf; exact absurd rfl hf
    rw [Sh.find_app] at hf
    refine Runs.drop (trie_without_fn _ _ _ _ _ ?_)
    refine ⟨eb bits, Cell.at0 rfl, by omega, by rw [eb_size, eb_size, List.length_append]; omega, ?_⟩
    rw [eb_size, eb_size, eb_extract, List.take_length, show ((bits.length : Nat) : Int).toNat = bits.length by omega, List.drop_left, Sh.del, List.drop_left, trie_without_b1, eb_size]
    cases rest with
    | nil =>
      show StP _ ⟨b, 1, none⟩ [.bool false] fun S1 => StP S1 ⟨b, 2, none⟩ [.int .i64 0] fun S1' => trie_without_b3 _ (some ⟨b, 0, none⟩) I S1'
      refine StP.at0 (o := 1) (vs := [.bool false]) (by simp) rfl (StP.at0 (o := 2) (vs := [.int .i64 0]) (by simp [setR]) rfl ?_)
      refine without_b3 (b := b) (bits := bits) (w := none) (F := F) hl hr ?_ (Sub.refl _) ?_
      · simpa only [Sh.len] using hlen
      · intro q S' T' hq hs
        exact ⟨_, hs, q, S', rfl, hq, rfl⟩
    | cons c rest =>
      rw [show ((((c :: rest).length : Nat) : Int) == (0 : Int)) = false by simp; omega]
      refine ⟨sg c, by omega, by rw [eb_get]; simp, ?_⟩
      dsimp only at hf ⊢
      simp only [Sh.len] at hlen
      cases c with
      | false =>
        refine ⟨(kid_in false).1, (kid_in false).2, pl, Cell.at0 rfl, ?_⟩
        refine Runs.perm (S' := Sl ++ (nodO b bits w pl pr :: (Sr ++ F))) (by simp only [List.cons_append, List.append_assoc]; exact List.perm_middle.symm) ?_
        refine (without_runs l (false :: rest) pl Sl _ I hf (by omega) hl).mono ?_
        rintro _ J T _ ⟨q, S', rfl, hq, rfl⟩
        refine ⟨q, rfl, (kid_in false).1, (kid_in false).2, StP.appR (StP.at0 (o := 3) (vs := [.pointer q]) (by simp) rfl ?_)⟩
        refine without_b3 (b := b) (bits := bits) (w := w) (pl := q) (pr := pr) (F := F) hq hr ?_ ⟨[], ?_⟩ ?_
        · have := Sh.del_len l (false :: rest)
          simp only [Sh.len]; omega
        · simp only [List.append_nil, List.cons_append, List.append_assoc]; exact List.perm_middle
        · intro q' S'' T' hq' hs
          exact ⟨_, hs, q', S'', rfl, hq', rfl⟩
      | true =>
        refine ⟨(kid_in true).1, (kid_in true).2, pr, Cell.at0 rfl, ?_⟩
        have hperm : ∀ (X : SH) (n : Nat × Obj), (n :: (Sl ++ X) ++ F).Perm (X ++ (n :: (Sl ++ F))) := fun X n => by
          simp only [List.cons_append, List.append_assoc]
          refine List.Perm.trans (List.Perm.cons _ ?_) List.perm_middle.symm
          rw [← List.append_assoc, ← List.append_assoc]
          exact List.perm_append_comm.append_right _
        refine Runs.perm (S' := Sr ++ (nodO b bits w pl pr :: (Sl ++ F))) (hperm _ _) ?_
        refine (without_runs r (true :: rest) pr Sr _ I hf (by omega) hr).mono ?_
        rintro _ J T _ ⟨q, S', rfl, hq, rfl⟩
        refine ⟨q, rfl, (kid_in true).1, (kid_in true).2, StP.appR (StP.at0 (o := 4) (vs := [.pointer q]) (by simp) rfl ?_)⟩
        refine without_b3 (b := b) (bits := bits) (w := w) (pl := pl) (pr := q) (F := F) hl hq ?_ ⟨[], ?_⟩ ?_
        · have := Sh.del_len r (true :: rest)
          simp only [Sh.len]; omega
        · rw [List.append_nil]; exact (hperm S' (nodO b bits w pl q)).symm
        · intro q' S'' T' hq' hs
          exact ⟨_, hs, q', S'', rfl, hq', rfl⟩
end Go.Proofs.Ytoeecjlencaglaa
