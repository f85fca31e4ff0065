/-
  SiphashNumbers: the tag of eight bytes is the hash, the least significant byte first, and is verified in all lengths. No condition.
-/
import Derived.Test.YtbncbjblbdjddaaVerify
import Derived.Test.YtbncbjblbdjddaaFrame
namespace Go.Proofs.Ytbncbjblbdjddaa
open Go.ChangeShapes Go.WideShapes Go.ChangeAt Go.RowKit

theorem leNat_tagOf {s : Int} (h : 0 ≤ s) : ∀ n, leNat (tagOf s n) = s.toNat % 2 ^ (8 * n)
  | 0 => by simp [tagOf, leNat, Nat.mod_one]
  | n + 1 => by
    rw [tagOf_succ, leNat_append, leNat_tagOf h n, tagOf_length]
    simp only [leNat, byteAt, UInt8.toNat_ofNat', Nat.mul_zero, Nat.add_zero]
    rw [show 8 * (n + 1) = 8 * n + 8 by omega, Nat.pow_add, Nat.mod_mul]
theorem leNat_tag8 {s : Int} (h : 0 ≤ s) (h1 : s < 18446744073709551616) : ((leNat (tagOf s 8) : Nat) : Int) = s := by
  rw [leNat_tagOf h 8, Nat.mod_eq_of_lt (by have : (2 : Nat) ^ (8 * 8) = 18446744073709551616 := by decide
                                            omega)]
  omega
theorem verB_tag (s : Int) {a : Nat} (h1 : 1 ≤ a) (h8 : a ≤ 8) : verB s (tagOf s a) = true := by
  unfold verB
  rw [tagOf_length]
  simp [h1, h8]
theorem verB_nil (s : Int) : verB s [] = false := by simp [verB]

set_option maxRecDepth 100000 in
set_option maxHeartbeats 2000000 in
theorem numbers_walk (key : List UInt8) (hk : key.length = 16) (A : Option Addr) (n c : Nat) (xs : List UInt8) (x : Int) (hx : -9223372036854775808 ≤ x ∧ x ≤ 9223372036854775807) (w : World) (h : Reads w A n xs) (hnc : n ≤ c) (hc : c ≤ 140737488351232) :
    Calls Try.prog 6 #[keyV key, .slice A n c, .int .i64 x] w fun e w' => e = .returned (.bool true) ∧ Ext w w' := by
  have hrange := range_new w (key.map B8) 23
  have hE0 : Ext w (w.alloc (.cells (key.map B8).toArray 23)) := Ext.alloc _ _
  have hR := h.ext hE0
  have HL := Lib.hid hk
  clear hk h
  obtain ⟨a, ha, ha1, ha8⟩ : ∃ a : Nat, x % 8 = (a : Int) - 1 ∧ 1 ≤ a ∧ a ≤ 8 := ⟨(x % 8).toNat + 1, by omega, by omega, by omega⟩
  have m1 := fun W => mod_any x 8 W hx (by omega) (by omega)
  rw [ha] at m1
  have M1 := Lib.hid m1
  have ea : (1 : Int) + ((a : Int) - 1) = a := by omega
  clear m1 ha hx
  go_enter Try.func6, Try.ntmps6
  go_wp2_with (refine wpList_load_mid rfl 23 _ rfl _ _ rfl _ _ hrange Try.underlying23 rfl (key_info' HL.out) ?_)
  refine (tag_good key HL.out A n c xs 8 (by omega) (by omega) _ hR hnc (by omega) (by omega)).mono ?_
  rintro e W ⟨v, rfl, hW, hv⟩
  obtain ⟨A1, c1, rfl, hT, hn1, hc1⟩ := hv
  have hlen : (tagOf (sip key xs) 8).length = 8 := tagOf_length _ _
  rw [hlen] at hT hn1 ⊢
  have hr1 := range_ext hrange hW
  have hR1 := hR.ext hW
  have hE1 := hE0.trans hW
  clear hrange hR hE0 hW hlen
  obtain ⟨s, hs⟩ : ∃ s, sip key xs = s := ⟨_, rfl⟩
  have hs0 : 0 ≤ s := by rw [← hs]; exact (sip_range key xs).1
  have hs1 : s < 18446744073709551616 := by rw [← hs]; exact (sip_range key xs).2
  rw [hs] at hT
  have HS := Lib.hid hs
  clear hs
  have HT := Lib.hid hT.1
  obtain ⟨b1, off1, rfl, _, _⟩ := hT.2 (by omega)
  go_wp2
  go_loop [9, 10] (fun t i => ∃ k : Nat, k ≤ 8 ∧ i = .int .i64 (k - 1) ∧ t = .int .u64 (leNat ((tagOf s 8).drop k))) (fun _ i => (intOf i + 1).toNat)
  case atStart => exact ⟨8, Nat.le_refl _, rfl, by rw [List.drop_of_length_le (by rw [HT.out]; omega)]; rfl⟩
  case round =>
    obtain ⟨k, hk, rfl, rfl⟩ := hrel
    by_cases hlt : 0 < k
    · obtain ⟨j, rfl⟩ : ∃ j, k = j + 1 := ⟨k - 1, by omega⟩
      have hcl := hT.cell (k := j) (by omega)
      go_wp2
      rw [wrap_byte, number_step (by have := HT.out; omega) (by have := HT.out; omega)]
      exact ⟨⟨j, by omega, rfl, rfl⟩, by simp [intOf]⟩
    · obtain rfl : k = 0 := by omega
      have e8 : ((leNat ((tagOf s 8).drop 0) : Nat) : Int) = s := by rw [List.drop_zero]; exact leNat_tag8 hs0 hs1
      rw [e8]
      clear e8
      go_wp2_with fail
      refine (M1.out _).mono ?_
      rintro e w' ⟨rfl, rfl⟩
      go_wp2
      refine wp_region_monoL [(0, isV (.bool true)), (8, isV (.int .u64 s)), (22, isV (.bool true)), (27, isV (.bool false))] (by kernel_rfl) (by kernel_rfl) ⟨steady_isV _, steady_isV _, steady_isV _, steady_isV _, trivial⟩ ?_
      refine wpM_val _ lax_of rfl rfl (fun W hW => ?_) ?_
      · obtain ⟨g, rfl⟩ := hW
        go_simp
        exact fit_val (known_any _)
      simp only [Act.put, List.setIfInBounds_toArray, List.set_cons_zero, List.set_cons_succ]
      iterate 5
        refine wpM_quiet0 lax_of rfl rfl rfl (fun K hK => ?_)
        go_big_quiet_op
        refine hK _ ?_; clear hK K
      refine wpM_quiet0 lax_of rfl rfl rfl (fun K hK => ?_)
      refine quiet_load_row 23 _ rfl _ _ rfl _ _ hr1 Try.underlying23 rfl (key_info' HL.out) (hK _ ?_)
      clear hK K
      simp only [Act.put, List.setIfInBounds_toArray, List.set_cons_zero, List.set_cons_succ]
      refine wpM_quiet0 lax_of rfl rfl rfl (fun K hK => ?_)
      go_big_quiet_op
      refine hK _ ?_; clear hK K
      refine wpM_val _ lax_of rfl rfl (fun W hW => ?_) ?_
      · obtain ⟨g, rfl⟩ := hW
        go_simp
        exact fit_val (by have h1 := sum_any key HL.out A n c xs _ (hR1.ext (Ext.plus W g)) hnc (by omega) (by omega); rw [HS.out] at h1; exact h1)
      simp only [Act.put, List.setIfInBounds_toArray, List.set_cons_zero, List.set_cons_succ]
      iterate 8
        refine wpM_quiet0 lax_of rfl rfl rfl (fun K hK => ?_)
        go_big_quiet_op
        refine hK _ ?_; clear hK K
      refine wpM_quiet0 lax_of rfl rfl rfl (fun K hK => ?_)
      refine quiet_load_row 23 _ rfl _ _ rfl _ _ hr1 Try.underlying23 rfl (key_info' HL.out) (hK _ ?_)
      clear hK K
      simp only [Act.put, List.setIfInBounds_toArray, List.set_cons_zero, List.set_cons_succ]
      iterate 4
        refine wpM_quiet0 lax_of rfl rfl rfl (fun K hK => ?_)
        go_big_quiet_op
        refine hK _ ?_; clear hK K
      refine wpM_val _ lax_of rfl rfl (fun W hW => ?_) ?_
      · obtain ⟨g, rfl⟩ := hW
        go_simp
        exact fit_val (by have h1 := verify_any key HL.out A n c xs _ _ c1 _ _ (hR1.ext (Ext.plus W g)) hnc (by omega) (by omega) ((hT.ext (Ext.plus W g)).sub (i := 0) (m := a) (by omega)) (by omega); rw [List.drop_zero, tagOf_take _ (by omega), HS.out, verB_tag s ha1 ha8] at h1; exact h1)
      simp only [Act.put, List.setIfInBounds_toArray, List.set_cons_zero, List.set_cons_succ]
      iterate 2
        refine wpM_quiet0 lax_of rfl rfl rfl (fun K hK => ?_)
        go_big_quiet_op
        refine hK _ ?_; clear hK K
      refine wpM_quiet0 lax_of rfl rfl rfl (fun K hK => ?_)
      refine quiet_load_row 23 _ rfl _ _ rfl _ _ hr1 Try.underlying23 rfl (key_info' HL.out) (hK _ ?_)
      clear hK K
      simp only [Act.put, List.setIfInBounds_toArray, List.set_cons_zero, List.set_cons_succ]
      refine wpM_quiet0 lax_of rfl rfl rfl (fun K hK => ?_)
      go_big_quiet_op
      refine hK _ ?_; clear hK K
      refine wpM_val _ lax_of rfl rfl (fun W hW => ?_) ?_
      · obtain ⟨g, rfl⟩ := hW
        go_simp
        exact fit_val (by have h1 := verify_any key HL.out A n c xs none 0 0 [] _ (hR1.ext (Ext.plus W g)) hnc (by omega) (by omega) (Reads.nil _ _) (by omega); rw [verB_nil] at h1; exact h1)
      simp only [Act.put, List.setIfInBounds_toArray, List.set_cons_zero, List.set_cons_succ]
      iterate 3
        refine wpM_quiet0 lax_of rfl rfl rfl (fun K hK => ?_)
        go_big_quiet_op
        refine hK _ ?_; clear hK K
      refine wpM_nil (fun w3 hw3 _ => ?_)
      go_wp2
      go_ret
      exact ⟨rfl, hE1.trans hw3⟩

set_option maxRecDepth 100000 in
theorem siphashNumbers_lifted (os : Os) (started : os.Started) (H : Type) (enc : TypeId × Value → H) :
    ReturnsInHanded {} Try.checked os 6 .any (Rows.siphashNumbersSpec.pre6 enc Try.prog Try.f6 Rows.siphashNumbersRow.domain false) (Rows.siphashNumbersSpec.post enc Try.prog Try.f6 false true false false) := by
  refine returnsInHanded_of_change_sized (C := Try.checked) own started (by kernel_rfl) Try.func6
    (ChangeSpec.witness6 (enc := enc) (C := Try.checked) false ⟨#[], #[.agg (Array.replicate 16 (.int .u8 0)), .slice none 0 0, .int .i64 0], []⟩ 8 (by kernel_rfl) (by kernel_rfl) (by kernel_rfl) (by kernel_rfl)) ?_
  intro W base args ds gs before hval0 hW hcnd hsz0 _
  have hval : ∀ (j : Nat) t v, Try.f6.params[j]? = some t → args[j]? = some v → Value.okWide Try.prog W .any base t v := hval0
  have hsz : (DataW.weightsEach Try.prog (Try.f6.params.toList ++ Rows.siphashNumbersSpec.plain.varTypes Try.prog) (ds ++ gs)).all (· ≤ reachBytes) = true := hsz0
  have hW' := hW
  obtain ⟨p, q, hA0, hV, rfl, hfz, hnd⟩ := hW
  have hA : DataW.TrodAll enc Try.prog W 0 (fun _ => true) true Try.f6.params.toList args.toList ds p := hA0
  have hAll := hA
  rw [Try.params6] at hA hval hsz hAll
  obtain ⟨v0, vs0, d0, ds0, p0, q0, hargs, rfl, rfl, h0, r0⟩ := trodAll_cons hA
  obtain ⟨v1, vs1, d1, ds1, p1, q1, rfl, rfl, rfl, h1, r1⟩ := trodAll_cons r0
  obtain ⟨v2, vs2, d2, ds2, p2, q2, rfl, rfl, rfl, h2, r2⟩ := trodAll_cons r1
  obtain ⟨rfl, rfl, rfl⟩ := trodAll_nil r2
  obtain rfl : args = #[v0, v1, v2] := by cases args; simp_all
  obtain ⟨rfl, rfl⟩ := trodVars_none hV
  obtain ⟨key0, hk0, rfl⟩ := open_arr8 Try.underlying23 Try.underlying5 (by kernel_rfl) (by kernel_rfl) (hval 0 23 v0 rfl rfl) h0
  obtain ⟨A1, n1, c1, xs1, rfl, hR1, hnc1, hc1⟩ := open_bytes Try.underlying24 Try.underlying5 (by kernel_rfl) (by kernel_rfl) (hval 1 24 v1 rfl rfl) h1 hsz (j := 1) rfl rfl
  obtain ⟨x2, rfl, rfl, rfl, w2⟩ := open_int Try.underlying3 (hval 2 3 v2 rfl rfl) h2
  clear hA0 hval0 hsz0
  refine (numbers_walk key0 hk0 A1 n1 c1 xs1 x2 (i64_bd w2) W hR1 hnc1 hc1).mono fun e W' ⟨he, hx⟩ => ?_
  subst he
  have bel := hx.below
  exact ⟨_, rfl, _, _, _, [], _, [], hW', trodAll_mk1 (shut_bool Try.underlying4 _), trodAll_below laidOut bel (by kernel_rfl) hAll, rfl, bel.frame _, fun h => by cases h⟩

theorem siphashNumbers_holds : Rows.SiphashNumbersSaid :=
  OpenClaim.holds_of_wide 6 Try.f6 rfl rfl rfl rfl rfl rfl rfl ⟨rfl, rfl, rfl, rfl, rfl⟩ rfl rfl rfl rfl rfl (by kernel_rfl) Try.func6 (by kernel_rfl)
    (of_decide_eq_true (by kernel_rfl)) (by unfold Func.isWrapper; first | (rw [if_pos (by decide +kernel)]; kernel_rfl) | (rw [if_neg (by decide +kernel)]; exact ⟨rfl, rfl⟩))
    (fun os started H enc _ => siphashNumbers_lifted os started H enc)
#print axioms siphashNumbers_holds
end Go.Proofs.Ytbncbjblbdjddaa
