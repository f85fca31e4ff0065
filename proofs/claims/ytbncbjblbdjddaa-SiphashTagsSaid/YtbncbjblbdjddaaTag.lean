/-
  siphash.Tag and the reference's Tag.
-/
import Derived.Test.YtbncbjblbdjddaaSipKnown
import Derived.Test.YtbncbjblbdjddaaTagPlain
import Derived.Deep.OwnRows
namespace Go.Proofs.Ytbncbjblbdjddaa
open Go.RowKit

set_option maxRecDepth 100000 in
set_option maxHeartbeats 1000000 in
theorem tag_bad (key : List UInt8) (s : Value) (n : Int) (w : World) (hn : n < 1 ∨ 8 < n) :
    Calls Try.prog 12 #[keyV key, s, .int .i64 n] w fun e w' => e = .returned (.tuple #[.slice none 0 0, .bool false]) ∧ Ext w w' := by
  rcases hn with hn | hn
  · have h1 : decide (n < 1) = true := by simpa using hn
    go_enter Try.func12, Try.ntmps12
    go_wp2
    go_ret2
    exact ⟨rfl, Ext.alloc _ _⟩
  · have h1 : decide (n < 1) = false := by simp; omega
    have h2 : decide (8 < n) = true := by simpa using hn
    go_enter Try.func12, Try.ntmps12
    go_wp2
    go_ret2
    exact ⟨rfl, Ext.alloc _ _⟩

set_option maxRecDepth 100000 in
set_option maxHeartbeats 1000000 in
theorem tag_good (key : List UInt8) (hk : key.length = 16) (A : Option Addr) (n c : Nat) (xs : List UInt8) (m : Nat) (h1 : 1 ≤ m) (h8 : m ≤ 8) (w : World) (h : Reads w A n xs) (hnc : n ≤ c) (hn : n ≤ 140737488355328) (hc : c ≤ 9223372036854775807) :
    Calls Try.prog 12 #[keyV key, .slice A n c, .int .i64 m] w fun e w' => ∃ v, e = .returned (.tuple #[v, .bool true]) ∧ Ext w w' ∧ IsBytes w' v (tagOf (sip key xs) m) := by
  have hl : decide ((m : Int) < 1) = false := by simp; omega
  have hg : decide (8 < (m : Int)) = false := by simp; omega
  have hrange := range_new w (key.map B8) 23
  have HL := Lib.hid hk
  clear hk
  have hmk := fun W => run_make_row' (P := Try.prog) 24 5 (.int .u8 0) 1 Try.underlying24 u8_info rfl .i64 .i64 m (by omega) (by omega) W
  go_enter Try.func12, Try.ntmps12
  go_wp2_with (refine wpList_load_mid rfl 23 _ rfl _ _ rfl _ _ hrange Try.underlying23 rfl (key_info' HL.out) ?_)
  refine (sum_any key HL.out A n c xs _ (h.ext (Ext.alloc _ _)) hnc hn hc).mono ?_
  rintro e W ⟨rfl, hW⟩
  have hE : Ext w W := (Ext.alloc _ _).trans hW
  obtain ⟨s, hs⟩ : ∃ s, sip key xs = s := ⟨_, rfl⟩
  have hs0 : 0 ≤ s := by rw [← hs]; exact (sip_range key xs).1
  have hs1 : s < 18446744073709551616 := by rw [← hs]; exact (sip_range key xs).2
  rw [hs]
  have HS := Lib.hid hs
  clear hs hW hrange h
  go_wp2
  go_loopw [23] (fun i wr => ∃ k : Nat, k ≤ m ∧ i = .int .i64 k ∧ wr = W.alloc (.cells (rowAt s m k) 5)) (fun i _ => m - (intOf i).toNat)
  case atStart => exact ⟨0, Nat.zero_le _, rfl, rfl⟩
  case round =>
    obtain ⟨k, hk, rfl, rfl⟩ := hrel
    by_cases hlt : k < m
    · obtain ⟨u, hcell⟩ : ∃ u, (rowAt s m k)[k]? = some u := ⟨_, Array.getElem?_eq_getElem (by rw [rowAt_size]; exact hlt)⟩
      have hby := byte_shift hs0 k
      go_wp2
      go_roundw
      case rel => exact ⟨k + 1, by omega, by go_num, rfl⟩
      case measure => simp [intOf]; omega
    · obtain rfl : k = m := by omega
      go_wp2
      go_ret2
      refine ⟨_, rfl, hE.trans (Ext.alloc _ _), ?_⟩
      rw [HS.out]
      refine ⟨some ⟨W.heap.size, 0, none⟩, k, by rw [tagOf_length]; rfl, ?_, by rw [tagOf_length]; exact Nat.le_refl _, by omega⟩
      rw [tagOf_length]
      exact rowAt_reads s k W _

set_option maxRecDepth 100000 in
set_option maxHeartbeats 1000000 in
theorem reftag_bad (key : List UInt8) (s : Value) (n : Int) (w : World) (hn : n < 1 ∨ 8 < n) :
    Calls Try.prog 14 #[keyV key, s, .int .i64 n] w fun e w' => e = .returned (.tuple #[.slice none 0 0, .bool false]) ∧ Ext w w' := by
  rcases hn with hn | hn
  · have h1 : decide (n < 1) = true := by simpa using hn
    go_enter Try.func14, Try.ntmps14
    go_wp2
    go_ret2
    exact ⟨rfl, Ext.alloc _ _⟩
  · have h1 : decide (n < 1) = false := by simp; omega
    have h2 : decide (8 < n) = true := by simpa using hn
    go_enter Try.func14, Try.ntmps14
    go_wp2
    go_ret2
    exact ⟨rfl, Ext.alloc _ _⟩

set_option maxRecDepth 100000 in
set_option maxHeartbeats 1000000 in
theorem reftag_good (key : List UInt8) (hk : key.length = 16) (A : Option Addr) (n c : Nat) (xs : List UInt8) (m : Nat) (h1 : 1 ≤ m) (h8 : m ≤ 8) (w : World) (h : Reads w A n xs) (hnc : n ≤ c) (hn : n ≤ 140737488355328) (hc : c ≤ 9223372036854775807) :
    Calls Try.prog 14 #[keyV key, .slice A n c, .int .i64 m] w fun e w' => ∃ v, e = .returned (.tuple #[v, .bool true]) ∧ Ext w w' ∧ w'.ownsRow w.heap.size 5 1 v m ((tagOf (sip key xs) m).map B8) := by
  obtain ⟨i0, hi, hz0, hz1, hz2⟩ := info_parts u8_info
  have hl : decide ((m : Int) < 1) = false := by simp; omega
  have hg : decide (8 < (m : Int)) = false := by simp; omega
  have hrange := range_new w (key.map B8) 23
  have HL := Lib.hid hk
  clear hk
  go_enter Try.func14, Try.ntmps14
  go_wp2_with (refine wpList_load_mid rfl 23 _ rfl _ _ rfl _ _ hrange Try.underlying23 rfl (key_info' HL.out) ?_)
  refine (refsum_any key HL.out A n c xs _ (h.ext (Ext.alloc _ _)) hnc hn hc).mono ?_
  rintro e W ⟨rfl, hW⟩
  have hE : Ext w W := (Ext.alloc _ _).trans hW
  have hB := hE.below
  obtain ⟨s, hs⟩ : ∃ s, sip key xs = s := ⟨_, rfl⟩
  have hs0 : 0 ≤ s := by rw [← hs]; exact (sip_range key xs).1
  have hs1 : s < 18446744073709551616 := by rw [← hs]; exact (sip_range key xs).2
  rw [hs]
  have HS := Lib.hid hs
  clear hs hW hrange h
  go_wp2
  go_loopw [8, 9, 10] (fun sv v i wr => ∃ k : Nat, k ≤ m ∧ i = .int .i64 k ∧ sv = .int .u64 (s / 2 ^ (8 * k)) ∧ wr.ownsRow w.heap.size 5 1 v k ((tagOf s k).map B8) ∧ Below w.heap.size w wr) (fun _ _ i _ => m - (intOf i).toNat)
  case atStart => exact ⟨0, Nat.zero_le _, rfl, by simp, ⟨by simp [tagOf], .inl ⟨rfl, rfl⟩⟩, hB⟩
  case round =>
    obtain ⟨k, hk, rfl, rfl, hown, hb⟩ := hrel
    by_cases hlt : k < m
    · have hby := byte_shift hs0 k
      have hss := shift_shift s k
      go_wp2_with (at_builtin; refine wpList_append_own _ rfl _ _ 24 rfl w.heap.size 5 i0 (.int .u8 0) 1 1 Try.underlying24 hi hz0 hz1 hz2 rfl (by decide) _ _ _ rfl (hown.alloc _) ⟨wr.heap.size, 0, none⟩ 1 1 [B8 (byteAt s k)] rfl rfl (cell_one _ _ _) ?c2 ?c3 ?c4 ?c5 ?_)
      case c2 => intro u hu; simp at hu; subst hu; rfl
      case c3 => unfold maxLen; omega
      case c4 => omega
      case c5 => have := hb.size; simp; omega
      intro v' w' hown' hgrow _
      have hb' := (hb.alloc hb.size (.cells #[B8 (byteAt s k)] 5)).grown hgrow (by have := hb.size; simp; omega) (own_block_ge hown)
      have e : (tagOf s k).map B8 ++ [B8 (byteAt s k)] = (tagOf s (k + 1)).map B8 := by
        rw [tagOf_succ, List.map_append, List.map_cons, List.map_nil]
      rw [e] at hown'
      clear hgrow e hown hb
      go_wp2
      go_roundw
      case rel => exact ⟨k + 1, by omega, by go_num, rfl, hown', hb'⟩
      case measure => simp [intOf]; omega
    · obtain rfl : k = m := by omega
      go_wp2
      go_ret2
      refine ⟨_, rfl, Ext.of_below hb, ?_⟩
      rw [HS.out]
      exact hown
end Go.Proofs.Ytbncbjblbdjddaa
