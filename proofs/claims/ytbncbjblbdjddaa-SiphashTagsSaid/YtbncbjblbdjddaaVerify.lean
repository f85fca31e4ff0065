/-
  siphash.Verify and the reference's Verify.
-/
import Derived.Test.YtbncbjblbdjddaaTag
import Derived.Test.YtbncbjblbdjddaaSame
namespace Go.Proofs.Ytbncbjblbdjddaa
open Go.RowKit

/-- what Verify answers -/
def verB (s : Int) (ys : List UInt8) : Bool := decide (1 ≤ ys.length ∧ ys.length ≤ 8 ∧ tagOf s ys.length = ys)

set_option maxRecDepth 100000 in
set_option maxHeartbeats 1000000 in
theorem verify_any (key : List UInt8) (hk : key.length = 16) (A : Option Addr) (n c : Nat) (xs : List UInt8) (B : Option Addr) (m d : Nat) (ys : List UInt8) (w : World) (h : Reads w A n xs) (hnc : n ≤ c) (hn : n ≤ 140737488355328) (hc : c ≤ 9223372036854775807) (hy : Reads w B m ys) (hm : m ≤ 140737488355328) :
    Calls Try.prog 15 #[keyV key, .slice A n c, .slice B m d] w fun e w' => e = .returned (.bool (verB (sip key xs) ys)) ∧ Ext w w' := by
  have hrange := range_new w (key.map B8) 23
  have HL := Lib.hid hk
  have HY := Lib.hid hy.1
  clear hk
  by_cases hgood : 1 ≤ m ∧ m ≤ 8
  · go_enter Try.func15, Try.ntmps15
    go_wp2_with (refine wpList_load_mid rfl 23 _ rfl _ _ rfl _ _ hrange Try.underlying23 rfl (key_info' HL.out) ?_)
    refine (tag_good key HL.out A n c xs m hgood.1 hgood.2 _ (h.ext (Ext.alloc _ _)) hnc hn hc).mono ?_
    rintro e W ⟨v, rfl, hW, hv⟩
    obtain ⟨A', c', rfl, hR', _, _⟩ := hv
    have hE : Ext w W := (Ext.alloc _ _).trans hW
    have hy' := hy.ext hE
    clear hrange h hy hW
    obtain ⟨T, hT⟩ : ∃ T, tagOf (sip key xs) m = T := ⟨_, rfl⟩
    have hTl : T.length = m := by rw [← hT, tagOf_length]
    rw [hT] at hR' ⊢
    have HT := Lib.hid hT
    clear hT
    rw [hTl] at hR' ⊢
    have HTl := Lib.hid hTl
    clear hTl
    go_wp2_with fail
    refine (equal_any _ _ _ T _ _ _ ys _ hR' hy').mono ?_
    rintro e W' ⟨rfl, hW'⟩
    go_wp2
    go_ret
    refine ⟨?_, hW' ▸ hE⟩
    show Ending.returned (.bool (decide (T = ys))) = _
    have e : decide (T = ys) = verB (sip key xs) ys := by
      unfold verB
      rw [HY.out, HT.out]
      simp [hgood.1, hgood.2]
    rw [e]
  · have hbad : (m : Int) < 1 ∨ 8 < (m : Int) := by omega
    go_enter Try.func15, Try.ntmps15
    go_wp2_with (refine wpList_load_mid rfl 23 _ rfl _ _ rfl _ _ hrange Try.underlying23 rfl (key_info' HL.out) ?_)
    refine (tag_bad key (.slice A n c) m _ hbad).mono ?_
    rintro e W ⟨rfl, hW⟩
    have hE : Ext w W := (Ext.alloc _ _).trans hW
    clear hrange h hy hW
    go_wp2
    go_ret
    refine ⟨?_, hE⟩
    have e : verB (sip key xs) ys = false := by
      unfold verB
      rw [HY.out]
      simp only [decide_eq_false_iff_not]
      omega
    rw [e]
    rfl

set_option maxRecDepth 100000 in
set_option maxHeartbeats 1000000 in
theorem refverify_any (key : List UInt8) (hk : key.length = 16) (A : Option Addr) (n c : Nat) (xs : List UInt8) (B : Option Addr) (m d : Nat) (ys : List UInt8) (w : World) (h : Reads w A n xs) (hnc : n ≤ c) (hn : n ≤ 140737488355328) (hc : c ≤ 9223372036854775807) (hy : Reads w B m ys) (hm : m ≤ 140737488355328) :
    Calls Try.prog 16 #[keyV key, .slice A n c, .slice B m d] w fun e w' => e = .returned (.bool (verB (sip key xs) ys)) ∧ Ext w w' := by
  have hrange := range_new w (key.map B8) 23
  have HL := Lib.hid hk
  have HY := Lib.hid hy.1
  clear hk
  by_cases hgood : 1 ≤ m ∧ m ≤ 8
  · go_enter Try.func16, Try.ntmps16
    go_wp2_with (refine wpList_load_mid rfl 23 _ rfl _ _ rfl _ _ hrange Try.underlying23 rfl (key_info' HL.out) ?_)
    refine (reftag_good key HL.out A n c xs m hgood.1 hgood.2 _ (h.ext (Ext.alloc _ _)) hnc hn hc).mono ?_
    rintro e W ⟨v, rfl, hW, hv⟩
    obtain ⟨A', c', rfl, hR', _, _⟩ := (reads_of_own hv).1
    have hE : Ext w W := (Ext.alloc _ _).trans hW
    have hy' := hy.ext hE
    clear hrange h hy hW
    obtain ⟨T, hT⟩ : ∃ T, tagOf (sip key xs) m = T := ⟨_, rfl⟩
    have hTl : T.length = m := by rw [← hT, tagOf_length]
    rw [hT] at hR' ⊢
    have HT := Lib.hid hT
    clear hT
    rw [hTl] at hR' ⊢
    have HTl := Lib.hid hTl
    clear hTl
    go_wp2_with fail
    refine (same_any _ _ _ T _ _ _ ys _ hR' hy' (by omega) hm).mono ?_
    rintro e W' ⟨rfl, hW'⟩
    go_wp2
    go_ret
    refine ⟨?_, hE.trans hW'⟩
    show Ending.returned (.bool (decide (T = ys))) = _
    have e : decide (T = ys) = verB (sip key xs) ys := by
      unfold verB
      rw [HY.out, HT.out]
      simp [hgood.1, hgood.2]
    rw [e]
  · have hbad : (m : Int) < 1 ∨ 8 < (m : Int) := by omega
    go_enter Try.func16, Try.ntmps16
    go_wp2_with (refine wpList_load_mid rfl 23 _ rfl _ _ rfl _ _ hrange Try.underlying23 rfl (key_info' HL.out) ?_)
    refine (reftag_bad key (.slice A n c) m _ hbad).mono ?_
    rintro e W ⟨rfl, hW⟩
    have hE : Ext w W := (Ext.alloc _ _).trans hW
    clear hrange h hy hW
    go_wp2
    go_ret
    refine ⟨?_, hE⟩
    have e : verB (sip key xs) ys = false := by
      unfold verB
      rw [HY.out]
      simp only [decide_eq_false_iff_not]
      omega
    rw [e]
    rfl
end Go.Proofs.Ytbncbjblbdjddaa
