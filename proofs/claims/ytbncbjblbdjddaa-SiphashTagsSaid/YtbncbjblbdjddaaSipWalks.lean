/-
  The contracts of the functions of package siphash and of its reference, below Sum.
-/
import Derived.Test.YtbncbjblbdjddaaRows
import Derived.Test.YtbncbjblbdjddaaSipPlain
import Derived.Test.YtbncbjblbdjddaaMono
import Derived.WalkKit
import Derived.WalkSpells
import Derived.WalkLawsBesides
import Derived.Lib.Hide
namespace Go.Proofs.Ytbncbjblbdjddaa
open Go.RowKit

theorem ext2 (w : World) (o1 o2 : Obj) : Ext w ((w.alloc o1).alloc o2) := (Ext.alloc _ _).trans (Ext.alloc _ _)

set_option maxHeartbeats 400000 in
theorem ref_round (s : St) (w : World) :
    Calls Try.prog 25 #[s.agg] w fun e w' => e = .returned s.round.agg ∧ Ext w w' := by
  obtain ⟨a, b, c, d⟩ := s
  show Calls Try.prog 25 #[.agg #[.int .u64 a, .int .u64 b, .int .u64 c, .int .u64 d]] w _
  go_enter Try.func25, Try.ntmps25
  go_wp2
  exact bodyPost_ret (v := (St.mk a b c d).round.agg) (by simp [results, Try.results25, go_sem, St.round, St.agg, rotI, addI, xorI]) rfl ⟨rfl, ext2 _ _ _⟩

theorem rotl_13 (a : Int) (w : World) : Calls Try.prog 29 #[.int .u64 a, .int .i64 13] w fun e w' => e = .returned (.int .u64 (rotI 8192 2251799813685248 a)) ∧ w = w' := by
  have h63 : bits .and .u64 13 63 = 13 := by decide +kernel
  go_enter Try.func29, Try.ntmps29
  go_wp2
  go_ret
  exact ⟨rfl, rfl⟩
theorem rotl_32 (a : Int) (w : World) : Calls Try.prog 29 #[.int .u64 a, .int .i64 32] w fun e w' => e = .returned (.int .u64 (rotI 4294967296 4294967296 a)) ∧ w = w' := by
  have h63 : bits .and .u64 32 63 = 32 := by decide +kernel
  go_enter Try.func29, Try.ntmps29
  go_wp2
  go_ret
  exact ⟨rfl, rfl⟩
theorem rotl_16 (a : Int) (w : World) : Calls Try.prog 29 #[.int .u64 a, .int .i64 16] w fun e w' => e = .returned (.int .u64 (rotI 65536 281474976710656 a)) ∧ w = w' := by
  have h63 : bits .and .u64 16 63 = 16 := by decide +kernel
  go_enter Try.func29, Try.ntmps29
  go_wp2
  go_ret
  exact ⟨rfl, rfl⟩
theorem rotl_21 (a : Int) (w : World) : Calls Try.prog 29 #[.int .u64 a, .int .i64 21] w fun e w' => e = .returned (.int .u64 (rotI 2097152 8796093022208 a)) ∧ w = w' := by
  have h63 : bits .and .u64 21 63 = 21 := by decide +kernel
  go_enter Try.func29, Try.ntmps29
  go_wp2
  go_ret
  exact ⟨rfl, rfl⟩
theorem rotl_17 (a : Int) (w : World) : Calls Try.prog 29 #[.int .u64 a, .int .i64 17] w fun e w' => e = .returned (.int .u64 (rotI 131072 140737488355328 a)) ∧ w = w' := by
  have h63 : bits .and .u64 17 63 = 17 := by decide +kernel
  go_enter Try.func29, Try.ntmps29
  go_wp2
  go_ret
  exact ⟨rfl, rfl⟩

set_option maxRecDepth 100000 in
set_option maxHeartbeats 1000000 in
theorem rounds_any (n : Nat) (hn : n ≤ 1000) (s : St) (w : World) :
    Calls Try.prog 22 #[s.agg, .int .i64 n] w fun e w' => e = .returned (s.rounds n).agg ∧ Ext w w' := by
  obtain ⟨a, b, c, d⟩ := s
  show Calls Try.prog 22 #[.agg #[.int .u64 a, .int .u64 b, .int .u64 c, .int .u64 d], _] w _
  go_enter Try.func22, Try.ntmps22
  go_wp2
  go_loopw [6] (fun i wr => ∃ (k : Nat) (t : St), k ≤ n ∧ i = .int .i64 k ∧ t = (St.mk a b c d).rounds k ∧ wr = (w.alloc (.cells #[.int .u64 t.a, .int .u64 t.b, .int .u64 t.c, .int .u64 t.d] 43)).alloc (.cells #[.int .u64 0, .int .u64 0, .int .u64 0, .int .u64 0] 43))
    (fun i _ => n - (intOf i).toNat)
  case atStart => exact ⟨0, _, Nat.zero_le _, rfl, rfl, rfl⟩
  case round =>
    obtain ⟨k, t, hk, rfl, ht, rfl⟩ := hrel
    have HT := Lib.hid ht; clear ht
    obtain ⟨ta, tb, tc, td⟩ := t
    by_cases hlt : k < n
    · go_wp2_with (first | (go_at_call 29; (with_reducible refine (rotl_13 _ _).mono ?_); rintro e w' ⟨rfl, rfl⟩) | (go_at_call 29; (with_reducible refine (rotl_32 _ _).mono ?_); rintro e w' ⟨rfl, rfl⟩) | (go_at_call 29; (with_reducible refine (rotl_16 _ _).mono ?_); rintro e w' ⟨rfl, rfl⟩) | (go_at_call 29; (with_reducible refine (rotl_21 _ _).mono ?_); rintro e w' ⟨rfl, rfl⟩) | (go_at_call 29; (with_reducible refine (rotl_17 _ _).mono ?_); rintro e w' ⟨rfl, rfl⟩))
      go_roundw
      case rel => exact ⟨k + 1, (St.mk ta tb tc td).round, by omega, by go_num, by rw [HT.out]; rfl, rfl⟩
      case measure => simp [intOf]; omega
    · go_wp2
      obtain rfl : k = n := by omega
      exact bodyPost_ret (v := (St.mk ta tb tc td).agg) (by simp [results, Try.results22, go_sem, St.agg]) rfl ⟨by rw [HT.out], ext2 _ _ _⟩

set_option maxHeartbeats 400000 in
theorem mix_core (a b c d m : Int) (t : St) (HT : Hid ((St.mk a b c (xorI d m)).rounds 2 = t)) (w : World) :
    Calls Try.prog 21 #[.agg #[.int .u64 a, .int .u64 b, .int .u64 c, .int .u64 d], .int .u64 m] w fun e w' => e = .returned (St.fin t m).agg ∧ Ext w w' := by
  go_enter Try.func21, Try.ntmps21
  go_wp2_with fail
  refine (rounds_any 2 (by omega) (St.mk a b c (xorI d m)) _).mono ?_
  rintro e w1 ⟨rfl, g1, rfl⟩
  rw [HT.out, agg_eq]
  go_wp2
  refine bodyPost_ret (v := (St.fin t m).agg) (by simp [results, Try.results21, go_sem, St.fin, St.agg, xorI]) rfl ⟨rfl, ?_⟩
  exact (ext2 _ _ _).trans (Ext.plus _ _)

theorem mix_any (s : St) (m : Int) (w : World) :
    Calls Try.prog 21 #[s.agg, .int .u64 m] w fun e w' => e = .returned (s.mix m).agg ∧ Ext w w' :=
  mix_core s.a s.b s.c s.d m _ (Lib.hid rfl) w

set_option maxHeartbeats 400000 in
theorem word_core (a b c d m : Int) (t : St) (HT : Hid ((St.mk a b c (xorI d m)).round.round = t)) (w : World) :
    Calls Try.prog 24 #[.agg #[.int .u64 a, .int .u64 b, .int .u64 c, .int .u64 d], .int .u64 m] w fun e w' => e = .returned (St.fin t m).agg ∧ Ext w w' := by
  go_enter Try.func24, Try.ntmps24
  go_wp2_with fail
  refine (ref_round (St.mk a b c (xorI d m)) _).mono ?_
  rintro e w1 ⟨rfl, g1, rfl⟩
  go_wp2_with fail
  refine (ref_round ((St.mk a b c (xorI d m)).round) _).mono ?_
  rintro e w1 ⟨rfl, g2, rfl⟩
  rw [HT.out, agg_eq]
  go_wp2
  refine bodyPost_ret (v := (St.fin t m).agg) (by simp [results, Try.results24, go_sem, St.fin, St.agg, xorI]) rfl ⟨rfl, ?_⟩
  exact (ext2 _ _ _).trans (Ext.plus _ _)

theorem ref_word (s : St) (m : Int) (w : World) :
    Calls Try.prog 24 #[s.agg, .int .u64 m] w fun e w' => e = .returned (s.mix m).agg ∧ Ext w w' :=
  word_core s.a s.b s.c s.d m _ (Lib.hid rfl) w
end Go.Proofs.Ytbncbjblbdjddaa
