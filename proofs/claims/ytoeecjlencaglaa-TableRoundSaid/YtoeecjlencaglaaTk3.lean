/- TableRound as its row asks it. -/
import Derived.Test.YtoeecjlencaglaaTk2
set_option linter.unusedVariables false
namespace Go.Proofs.Ytoeecjlencaglaa
open Go.Px

theorem TableRound_row (W : World) (r : Int) (hr : (Lit.int .u16 r).wf = true) : Runs Try.prog 8 #[.int .u16 r] (imW W) [] fun v _ _ => v = .bool true := by
  have hb : 0 ≤ r ∧ r ≤ 65535 := by simpa [Lit.wf, IntKind.min, IntKind.max, IntKind.signed, IntKind.bits] using hr
  obtain ⟨q, rfl⟩ := Int.eq_ofNat_of_zero_le hb.1
  refine bolterlaw15_TableRound_fn _ _ _ _ ?_
  refine (awake15_runs _ _).mono ?_
  rintro _ J0 T0 hle0 ⟨rfl, rfl⟩
  refine ⟨true, rfl, ?_⟩
  intro tb
  have e0 : IntKind.wrap .i64 ((q : Int).tmod (3000 : Int)) = ((q % 3000 : Nat) : Int) := by
    rw [show (q : Int).tmod (3000 : Int) = ((q % 3000 : Nat) : Int) from rfl, wrap_i64 (by omega) (by omega)]
  have hq : q % 3000 < 3000 := Nat.mod_lt _ (by omega)
  obtain ⟨N, hN⟩ : ∃ N, N = q % 3000 := ⟨_, rfl⟩
  refine ⟨fun m r' p i J T => r' = (q : Int) ∧ p = some ⟨tb, 0, none⟩ ∧ ∃ (x : Nat) (t : Tbl) (M : KV) (own : SH), i = (x : Int) ∧ x + m = N ∧ TabO tb t own ∧ Sub own T ∧ TI 1 t M ∧ (∀ k, M k = none) ∧ t.ss.length ≤ 8, N,
    ⟨rfl, rfl, 0, noTbl, _, _, rfl, by omega, noTbl_TabO tb, Sub.refl _, noTbl_TI _, fun _ => rfl, by simp [noTbl]⟩, ?_⟩
  rintro m r' p i J T hleJ ⟨h1, h2, x, t, M, own, h3, hxm, ho, hsub, hti, hM, hlen⟩
  subst h1 h2 h3
  have hl0 : t.live = 0 := by
    have := hti.count [] (fun k h => absurd (hM k) h)
    simpa using this
  rw [bolterlaw15_TableRound_l3, e0, ← hN]
  refine bcase_dec (fun hlt => ?_) (fun hge => ?_)
  · intro bk
    have hx : x < 3000 := by omega
    have e1 : IntKind.wrap .u8 (x : Int) = ((x % 256 : Nat) : Int) := by rw [wrap_u8_eq]; rfl
    have e2 : IntKind.wrap .u8 (IntKind.wrap .i64 ((x : Int).tdiv (256 : Int))) = ((x / 256 : Nat) : Int) := by
      rw [show (x : Int).tdiv (256 : Int) = ((x / 256 : Nat) : Int) from rfl, wrap_i64 (by omega) (by omega), wrap_u8 (by omega) (by omega)]
    rw [e1, e2]
    have hs : (#[.int .u8 ((x % 256 : Nat) : Int), .int .u8 ((x / 256 : Nat) : Int)] : Array Value) = byV ⟨#[UInt8.ofNat (x % 256), UInt8.ofNat (x / 256)]⟩ := by
      have h2 : (x / 256) % 256 = x / 256 := by omega
      simp [byV, UInt8.toNat_ofNat', h2]
    have hks : (⟨#[UInt8.ofNat (x % 256), UInt8.ofNat (x / 256)]⟩ : ByteArray).size ≤ 9223372036854775807 := by show 2 ≤ _; omega
    generalize hk : (⟨#[UInt8.ofNat (x % 256), UInt8.ofNat (x / 256)]⟩ : ByteArray) = k at hs hks
    have hz : 2 = k.size := by subst hk; rfl
    refine ⟨k, BytesAt.at0 k hz hs, ?_⟩
    generalize (bk, Obj.cells #[.int .u8 ((x % 256 : Nat) : Int), .int .u8 ((x / 256 : Nat) : Int)] _ (0, 0)) = X
    refine Runs.use (L := own ++ [X]) ((hsub.cons X).perm (List.perm_append_singleton _ _).symm) (Put_TI (B' := 1) ho hti (Nat.le_refl _) (by omega) k (x : Int) hks (fun _ => by omega) J [X]) ?_
    rintro _ J1 T1 hle1 ⟨rfl, t1, own1, ho1, hti1, hlv1, hln1, rfl⟩
    rw [hM k]
    refine ⟨_, rfl, (Del_TI ho1 hti1 (by omega) k hks J1 [X]).mono ?_⟩
    rintro _ J2 T2 hle2 ⟨rfl, t2, own2, ho2, hti2, hln2, hlv2, rfl⟩
    rw [show (KV.put M k (x : Int)) k = some (x : Int) by simp [KV.put]]
    have hM2 : ∀ k', (KV.del (KV.put M k (x : Int)) k) k' = none := fun k' => by
      simp only [KV.del, KV.put]; split
      · rfl
      · exact hM k'
    have hl2 : t2.live = 0 := by
      have := hti2.count [] (fun k h => absurd (hM2 k) h)
      simpa using this
    refine ⟨_, rfl, (Len_runs tb t2 own2 ho2 J2 [X]).mono ?_⟩
    rintro _ J3 T3 hle3 ⟨rfl, rfl⟩
    refine ⟨_, rfl, ?_⟩
    rw [hl2]
    refine ⟨m - 1, by omega, rfl, rfl, x + 1, t2, _, own2, by rw [wrap_i64 (by omega) (by omega)]; rfl, by omega, ho2, ⟨[X], List.Perm.refl _⟩, hti2, hM2, ?_⟩
    rw [hln2]
    rcases hln1 with h | h
    · omega
    · rw [h, hl0]; decide
  · obtain ⟨q1, q2, q3, q4, q5⟩ := hti.facts
    refine Runs.use (L := own ++ []) (by rw [List.append_nil]; exact hsub) (Slots_runs tb t own ho J []) ?_
    rintro _ J1 T1 hle1 ⟨rfl, rfl⟩
    refine ⟨_, _, rfl, bcase_dec (fun _ => ?_) (fun h => by omega)⟩
    rw [wrap_i64 (by omega) (by omega)]
    show Value.bool _ = _
    rw [show decide ((2 : Int) * ((t.full : Nat) : Int) ≤ ((t.ss.length : Nat) : Int)) = true by rw [decide_eq_true_eq]; omega]
end Go.Proofs.Ytoeecjlencaglaa
