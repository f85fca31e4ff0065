/-
  SiphashPrefixes: a tag is a beginning of every longer tag of the same data. No condition.
-/
import Derived.Test.YtbncbjblbdjddaaVerify
import Derived.Test.YtbncbjblbdjddaaFrame
namespace Go.Proofs.Ytbncbjblbdjddaa
open Go.ChangeShapes Go.WideShapes Go.ChangeAt Go.RowKit

set_option maxRecDepth 100000 in
set_option maxHeartbeats 2000000 in
theorem prefixes_walk (key : List UInt8) (hk : key.length = 16) (A : Option Addr) (n c : Nat) (xs : List UInt8) (x y : Int) (hx : -9223372036854775808 ≤ x ∧ x ≤ 9223372036854775807) (hy : -9223372036854775808 ≤ y ∧ y ≤ 9223372036854775807) (w : World) (h : Reads w A n xs) (hnc : n ≤ c) (hc : c ≤ 140737488351232) :
    Calls Try.prog 4 #[keyV key, .slice A n c, .int .i64 x, .int .i64 y] w fun e w' => e = .returned (.bool true) ∧ Ext w w' := by
  have hrange := range_new w (key.map B8) 23
  have hE0 : Ext w (w.alloc (.cells (key.map B8).toArray 23)) := Ext.alloc _ _
  have hR := h.ext hE0
  have HL := Lib.hid hk
  clear hk h
  obtain ⟨a, ha, ha1, ha8⟩ : ∃ a : Nat, x % 8 = (a : Int) - 1 ∧ 1 ≤ a ∧ a ≤ 8 := ⟨(x % 8).toNat + 1, by omega, by omega, by omega⟩
  obtain ⟨b, hb, hb1, hb8⟩ : ∃ b : Nat, y % 8 = (b : Int) - 1 ∧ 1 ≤ b ∧ b ≤ 8 := ⟨(y % 8).toNat + 1, by omega, by omega, by omega⟩
  have m1 := fun W => mod_any x 8 W hx (by omega) (by omega)
  have m2 := fun W => mod_any y 8 W hy (by omega) (by omega)
  rw [ha] at m1
  rw [hb] at m2
  have M1 := Lib.hid m1
  have M2 := Lib.hid m2
  have ea : (1 : Int) + ((a : Int) - 1) = a := by omega
  have eb : (1 : Int) + ((b : Int) - 1) = b := by omega
  clear m1 m2 ha hb hx hy
  by_cases hab : b < a
  · have hd : decide ((b : Int) < (a : Int)) = true := by simp; omega
    go_enter Try.func4, Try.ntmps4
    go_wp2_with fail
    refine (M1.out _).mono ?_
    rintro e w' ⟨rfl, rfl⟩
    go_wp2_with fail
    refine (M2.out _).mono ?_
    rintro e w' ⟨rfl, rfl⟩
    go_wp2_with (refine wpList_load_mid rfl 23 _ rfl _ _ rfl _ _ hrange Try.underlying23 rfl (key_info' HL.out) ?_)
    refine (tag_good key HL.out A n c xs b hb1 hb8 _ hR hnc (by omega) (by omega)).mono ?_
    rintro e W ⟨v, rfl, hW, hv⟩
    obtain ⟨A1, c1, rfl, hT1, hn1, hc1⟩ := hv
    rw [tagOf_length] at hT1 hn1 ⊢
    have hr1 := range_ext hrange hW
    have hR1 := hR.ext hW
    have hE1 := hE0.trans hW
    clear hrange hR hE0 hW
    go_wp2_with (refine wpList_load_mid rfl 23 _ rfl _ _ rfl _ _ hr1 Try.underlying23 rfl (key_info' HL.out) ?_)
    refine (tag_good key HL.out A n c xs a ha1 ha8 _ hR1 hnc (by omega) (by omega)).mono ?_
    rintro e W2 ⟨v, rfl, hW2, hv⟩
    obtain ⟨A2, c2, rfl, hT2, hn2, hc2⟩ := hv
    rw [tagOf_length] at hT2 hn2 ⊢
    have hT1' := hT1.ext hW2
    have hE2 := hE1.trans hW2
    clear hr1 hR1 hE1 hW2 hT1
    obtain ⟨b2, off2, rfl, _, _⟩ := hT2.2 (by omega)
    go_wp2_with fail
    refine (known_any _).mono ?_
    rintro e W3 ⟨rfl, hW3⟩
    have hT1 := hT1'.ext hW3
    have hT2' := (hT2.ext hW3).sub (i := 0) (m := b) (by omega)
    rw [List.drop_zero, tagOf_take _ (by omega)] at hT2'
    have hE3 := hE2.trans hW3
    clear hT1' hT2 hE2 hW3
    go_wp2_with fail
    refine (same_any _ _ _ _ _ _ _ _ _ hT1 hT2' (by omega) (by omega)).mono ?_
    rintro e W4 ⟨rfl, hW4⟩
    go_wp2
    go_ret
    refine ⟨?_, hE3.trans hW4⟩
    simp
  · have hd : decide ((b : Int) < (a : Int)) = false := by simp; omega
    go_enter Try.func4, Try.ntmps4
    go_wp2_with fail
    refine (M1.out _).mono ?_
    rintro e w' ⟨rfl, rfl⟩
    go_wp2_with fail
    refine (M2.out _).mono ?_
    rintro e w' ⟨rfl, rfl⟩
    go_wp2_with (refine wpList_load_mid rfl 23 _ rfl _ _ rfl _ _ hrange Try.underlying23 rfl (key_info' HL.out) ?_)
    refine (tag_good key HL.out A n c xs a ha1 ha8 _ hR hnc (by omega) (by omega)).mono ?_
    rintro e W ⟨v, rfl, hW, hv⟩
    obtain ⟨A1, c1, rfl, hT1, hn1, hc1⟩ := hv
    rw [tagOf_length] at hT1 hn1 ⊢
    have hr1 := range_ext hrange hW
    have hR1 := hR.ext hW
    have hE1 := hE0.trans hW
    clear hrange hR hE0 hW
    go_wp2_with (refine wpList_load_mid rfl 23 _ rfl _ _ rfl _ _ hr1 Try.underlying23 rfl (key_info' HL.out) ?_)
    refine (tag_good key HL.out A n c xs b hb1 hb8 _ hR1 hnc (by omega) (by omega)).mono ?_
    rintro e W2 ⟨v, rfl, hW2, hv⟩
    obtain ⟨A2, c2, rfl, hT2, hn2, hc2⟩ := hv
    rw [tagOf_length] at hT2 hn2 ⊢
    have hT1' := hT1.ext hW2
    have hE2 := hE1.trans hW2
    clear hr1 hR1 hE1 hW2 hT1
    obtain ⟨b2, off2, rfl, _, _⟩ := hT2.2 (by omega)
    go_wp2_with fail
    refine (known_any _).mono ?_
    rintro e W3 ⟨rfl, hW3⟩
    have hT1 := hT1'.ext hW3
    have hT2' := (hT2.ext hW3).sub (i := 0) (m := a) (by omega)
    rw [List.drop_zero, tagOf_take _ (by omega)] at hT2'
    have hE3 := hE2.trans hW3
    clear hT1' hT2 hE2 hW3
    go_wp2_with fail
    refine (same_any _ _ _ _ _ _ _ _ _ hT1 hT2' (by omega) (by omega)).mono ?_
    rintro e W4 ⟨rfl, hW4⟩
    go_wp2
    go_ret
    refine ⟨?_, hE3.trans hW4⟩
    simp


set_option maxRecDepth 100000 in
theorem siphashPrefixes_lifted (os : Os) (started : os.Started) (H : Type) (enc : TypeId × Value → H) :
    ReturnsInHanded {} Try.checked os 4 .any (Rows.siphashPrefixesSpec.pre6 enc Try.prog Try.f4 Rows.siphashPrefixesRow.domain false) (Rows.siphashPrefixesSpec.post enc Try.prog Try.f4 false true false false) := by
  refine returnsInHanded_of_change_sized (C := Try.checked) own started (by kernel_rfl) Try.func4
    (ChangeSpec.witness6 (enc := enc) (C := Try.checked) false ⟨#[], #[.agg (Array.replicate 16 (.int .u8 0)), .slice none 0 0, .int .i64 0, .int .i64 0], []⟩ 8 (by kernel_rfl) (by kernel_rfl) (by kernel_rfl) (by kernel_rfl)) ?_
  intro W base args ds gs before hval0 hW hcnd hsz0 _
  have hval : ∀ (j : Nat) t v, Try.f4.params[j]? = some t → args[j]? = some v → Value.okWide Try.prog W .any base t v := hval0
  have hsz : (DataW.weightsEach Try.prog (Try.f4.params.toList ++ Rows.siphashPrefixesSpec.plain.varTypes Try.prog) (ds ++ gs)).all (· ≤ reachBytes) = true := hsz0
  have hW' := hW
  obtain ⟨p, q, hA0, hV, rfl, hfz, hnd⟩ := hW
  have hA : DataW.TrodAll enc Try.prog W 0 (fun _ => true) true Try.f4.params.toList args.toList ds p := hA0
  have hAll := hA
  rw [Try.params4] at hA hval hsz hAll
  obtain ⟨v0, vs0, d0, ds0, p0, q0, hargs, rfl, rfl, h0, r0⟩ := trodAll_cons hA
  obtain ⟨v1, vs1, d1, ds1, p1, q1, rfl, rfl, rfl, h1, r1⟩ := trodAll_cons r0
  obtain ⟨v2, vs2, d2, ds2, p2, q2, rfl, rfl, rfl, h2, r2⟩ := trodAll_cons r1
  obtain ⟨v3, vs3, d3, ds3, p3, q3, rfl, rfl, rfl, h3, r3⟩ := trodAll_cons r2
  obtain ⟨rfl, rfl, rfl⟩ := trodAll_nil r3
  obtain rfl : args = #[v0, v1, v2, v3] := by cases args; simp_all
  obtain ⟨rfl, rfl⟩ := trodVars_none hV
  obtain ⟨key0, hk0, rfl⟩ := open_arr8 Try.underlying23 Try.underlying5 (by kernel_rfl) (by kernel_rfl) (hval 0 23 v0 rfl rfl) h0
  obtain ⟨A1, n1, c1, xs1, rfl, hR1, hnc1, hc1⟩ := open_bytes Try.underlying24 Try.underlying5 (by kernel_rfl) (by kernel_rfl) (hval 1 24 v1 rfl rfl) h1 hsz (j := 1) rfl rfl
  obtain ⟨x2, rfl, rfl, rfl, w2⟩ := open_int Try.underlying3 (hval 2 3 v2 rfl rfl) h2
  obtain ⟨x3, rfl, rfl, rfl, w3⟩ := open_int Try.underlying3 (hval 3 3 v3 rfl rfl) h3
  clear hA0 hval0 hsz0
  refine (prefixes_walk key0 hk0 A1 n1 c1 xs1 x2 x3 (i64_bd w2) (i64_bd w3) W hR1 hnc1 hc1).mono fun e W' ⟨he, hx⟩ => ?_
  subst he
  have bel := hx.below
  exact ⟨_, rfl, _, _, _, [], _, [], hW', trodAll_mk1 (shut_bool Try.underlying4 _), trodAll_below laidOut bel (by kernel_rfl) hAll, rfl, bel.frame _, fun h => by cases h⟩

theorem siphashPrefixes_holds : Rows.SiphashPrefixesSaid :=
  OpenClaim.holds_of_wide 4 Try.f4 rfl rfl rfl rfl rfl rfl rfl ⟨rfl, rfl, rfl, rfl, rfl⟩ rfl rfl rfl rfl rfl (by kernel_rfl) Try.func4 (by kernel_rfl)
    (of_decide_eq_true (by kernel_rfl)) (by unfold Func.isWrapper; first | (rw [if_pos (by decide +kernel)]; kernel_rfl) | (rw [if_neg (by decide +kernel)]; exact ⟨rfl, rfl⟩))
    (fun os started H enc _ => siphashPrefixes_lifted os started H enc)
#print axioms siphashPrefixes_holds
end Go.Proofs.Ytbncbjblbdjddaa
