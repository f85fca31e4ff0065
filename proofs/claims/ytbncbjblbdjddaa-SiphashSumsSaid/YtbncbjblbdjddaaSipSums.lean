/-
  SiphashSums: siphash.Sum returns what the reference returns, for every key and all bytes. No condition.
-/
import Derived.Test.YtbncbjblbdjddaaSipKnown
import Derived.Test.YtbncbjblbdjddaaFrame
namespace Go.Proofs.Ytbncbjblbdjddaa
open Go.ChangeShapes Go.WideShapes Go.ChangeAt Go.RowKit

set_option maxRecDepth 100000 in
set_option maxHeartbeats 1000000 in
theorem sums_walk (key : List UInt8) (hk : key.length = 16) (A : Option Addr) (n c : Nat) (xs : List UInt8) (w : World) (h : Reads w A n xs) (hnc : n ≤ c) (hc : c ≤ 140737488351232) :
    Calls Try.prog 3 #[keyV key, .slice A n c] w fun e w' => e = .returned (.bool true) ∧ Ext w w' := by
  have HL := Lib.hid hk
  clear hk
  go_enter Try.func3, Try.ntmps3
  go_wp2
  have hrange := range_new w (key.map B8) 23
  have hE : Ext w (w.alloc (.cells (key.map B8).toArray 23)) := Ext.alloc _ _
  have hR := h.ext hE
  clear h
  generalize w.alloc (.cells (key.map B8).toArray 23) = W0 at *
  refine wp_region_monoL [(0, isV (.bool true)), (4, isV (.int .u64 (sip key xs))), (7, isV (.int .u64 (sip key xs)))] (by kernel_rfl) (by kernel_rfl) ⟨steady_isV _, steady_isV _, steady_isV _, trivial⟩ ?_
  refine wpM_call _ rfl rfl (fun W hW hF => ?_) (fun v hv => ?_)
  · obtain ⟨g, rfl⟩ := hW
    go_simp
    exact fit_val (known_any _)
  obtain rfl := isV_of hv
  simp only [Act.put, List.setIfInBounds_toArray, List.set_cons_zero, List.set_cons_succ]
  refine wpM_quiet lax_of rfl rfl rfl (fun K hK => ?_)
  go_big_quiet_op
  refine hK _ ?_; clear hK K
  refine wpM_quiet lax_of rfl rfl rfl (fun K hK => ?_)
  refine quiet_load_row 23 _ rfl _ _ rfl _ _ hrange Try.underlying23 rfl (key_info' HL.out) (hK _ ?_)
  clear hK K
  simp only [Act.put, List.setIfInBounds_toArray, List.set_cons_zero, List.set_cons_succ]
  refine wpM_quiet lax_of rfl rfl rfl (fun K hK => ?_)
  go_big_quiet_op
  refine hK _ ?_; clear hK K
  refine wpM_call _ rfl rfl (fun W hW hF => ?_) (fun v hv => ?_)
  · obtain ⟨g, rfl⟩ := hW
    go_simp
    exact fit_val (sum_any key HL.out _ _ _ xs _ (hR.ext (Ext.plus _ _)) hnc (by omega) (by omega))
  obtain rfl := isV_of hv
  simp only [Act.put, List.setIfInBounds_toArray, List.set_cons_zero, List.set_cons_succ]
  refine wpM_quiet lax_of rfl rfl rfl (fun K hK => ?_)
  refine quiet_load_row 23 _ rfl _ _ rfl _ _ hrange Try.underlying23 rfl (key_info' HL.out) (hK _ ?_)
  clear hK K
  simp only [Act.put, List.setIfInBounds_toArray, List.set_cons_zero, List.set_cons_succ]
  refine wpM_quiet lax_of rfl rfl rfl (fun K hK => ?_)
  go_big_quiet_op
  refine hK _ ?_; clear hK K
  refine wpM_call _ rfl rfl (fun W hW hF => ?_) (fun v hv => ?_)
  · obtain ⟨g, rfl⟩ := hW
    go_simp
    exact fit_val (refsum_any key HL.out _ _ _ xs _ (hR.ext (Ext.plus _ _)) hnc (by omega) (by omega))
  obtain rfl := isV_of hv
  simp only [Act.put, List.setIfInBounds_toArray, List.set_cons_zero, List.set_cons_succ]
  iterate 3
    refine wpM_quiet lax_of rfl rfl rfl (fun K hK => ?_)
    go_big_quiet_op
    refine hK _ ?_; clear hK K
  refine wpM_nil (fun w3 hw3 _ => ?_)
  go_wp2
  go_ret
  exact ⟨rfl, hE.trans hw3⟩

set_option maxRecDepth 100000 in
theorem sums_lifted (os : Os) (started : os.Started) (H : Type) (enc : TypeId × Value → H) :
    ReturnsInHanded {} Try.checked os 3 .any (Rows.siphashSumsSpec.pre6 enc Try.prog Try.f3 Rows.siphashSumsRow.domain false) (Rows.siphashSumsSpec.post enc Try.prog Try.f3 false true false false) := by
  refine returnsInHanded_of_change_sized (C := Try.checked) own started (by kernel_rfl) Try.func3
    (ChangeSpec.witness6 (enc := enc) (C := Try.checked) false ⟨#[], #[.agg (Array.replicate 16 (.int .u8 0)), .slice none 0 0], []⟩ 8 (by kernel_rfl) (by kernel_rfl) (by kernel_rfl) (by kernel_rfl)) ?_
  intro W base args ds gs before hval0 hW hcnd hsz0 _
  have hval : ∀ (j : Nat) t v, Try.f3.params[j]? = some t → args[j]? = some v → Value.okWide Try.prog W .any base t v := hval0
  have hsz : (DataW.weightsEach Try.prog (Try.f3.params.toList ++ Rows.siphashSumsSpec.plain.varTypes Try.prog) (ds ++ gs)).all (· ≤ reachBytes) = true := hsz0
  have hW' := hW
  obtain ⟨p, q, hA0, hV, rfl, hfz, hnd⟩ := hW
  have hA : DataW.TrodAll enc Try.prog W 0 (fun _ => true) true Try.f3.params.toList args.toList ds p := hA0
  have hAll := hA
  rw [Try.params3] at hA hval hsz hAll
  obtain ⟨v0, vs0, d0, ds0, p0, q0, hargs, rfl, rfl, h0, r0⟩ := trodAll_cons hA
  obtain ⟨v1, vs1, d1, ds1, p1, q1, rfl, rfl, rfl, h1, r1⟩ := trodAll_cons r0
  obtain ⟨rfl, rfl, rfl⟩ := trodAll_nil r1
  obtain rfl : args = #[v0, v1] := by cases args; simp_all
  obtain ⟨rfl, rfl⟩ := trodVars_none hV
  obtain ⟨key, hk, rfl⟩ := open_arr8 Try.underlying23 Try.underlying5 (by kernel_rfl) (by kernel_rfl) (hval 0 23 v0 rfl rfl) h0
  obtain ⟨A, n, c, xs, rfl, hR, hnc, hc⟩ := open_bytes Try.underlying24 Try.underlying5 (by kernel_rfl) (by kernel_rfl) (hval 1 24 v1 rfl rfl) h1 hsz (j := 1) rfl rfl
  clear hA0 hval0 hsz0
  refine (sums_walk key hk A n c xs W hR hnc hc).mono fun e W' ⟨he, hx⟩ => ?_
  subst he
  have bel := hx.below
  exact ⟨_, rfl, _, _, _, [], _, [], hW', trodAll_mk1 (shut_bool Try.underlying4 _), trodAll_below laidOut bel (by kernel_rfl) hAll, rfl, bel.frame _, fun h => by cases h⟩

theorem siphashSums_holds : Rows.SiphashSumsSaid :=
  OpenClaim.holds_of_wide 3 Try.f3 rfl rfl rfl rfl rfl rfl rfl ⟨rfl, rfl, rfl, rfl, rfl⟩ rfl rfl rfl rfl rfl (by kernel_rfl) Try.func3 (by kernel_rfl)
    (of_decide_eq_true (by kernel_rfl)) (by unfold Func.isWrapper; first | (rw [if_pos (by decide +kernel)]; kernel_rfl) | (rw [if_neg (by decide +kernel)]; exact ⟨rfl, rfl⟩))
    (fun os started H enc _ => sums_lifted os started H enc)
#print axioms siphashSums_holds
end Go.Proofs.Ytbncbjblbdjddaa
