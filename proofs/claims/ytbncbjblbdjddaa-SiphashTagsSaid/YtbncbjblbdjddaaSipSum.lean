/-
  siphash.Sum and the reference's Sum.
-/
import Derived.Test.YtbncbjblbdjddaaSipLittle
namespace Go.Proofs.Ytbncbjblbdjddaa
open Go.RowKit

abbrev keyV (key : List UInt8) : Value := .agg (key.map B8).toArray
theorem key_lo {key : List UInt8} (hk : key.length = 16) (w : World) (t : TypeId) : Reads (w.alloc (.cells (key.map B8).toArray t)) (some ⟨w.heap.size, 0, none⟩) 8 (key.take 8) := by
  refine ⟨by simp; omega, fun _ => ⟨_, _, rfl, by simp, fun j x hx => ?_⟩⟩
  rw [List.getElem?_take] at hx
  split at hx
  · simp [hx]
  · cases hx
theorem key_hi {key : List UInt8} (hk : key.length = 16) (w : World) (t : TypeId) : Reads (w.alloc (.cells (key.map B8).toArray t)) (some ⟨w.heap.size, 8, none⟩) 8 (key.drop 8) := by
  refine ⟨by simp; omega, fun _ => ⟨_, _, rfl, by simp, fun j x hx => ?_⟩⟩
  rw [List.getElem?_drop] at hx
  simp [hx]

set_option maxRecDepth 100000 in
set_option maxHeartbeats 1000000 in
theorem sum_any (key : List UInt8) (hk : key.length = 16) (A : Option Addr) (n c : Nat) (xs : List UInt8) (w : World) (h : Reads w A n xs) (hnc : n ≤ c) (hn : n ≤ 140737488355328) (_hc : c ≤ 9223372036854775807) :
    Calls Try.prog 9 #[keyV key, .slice A n c] w fun e w' => e = .returned (.int .u64 (sip key xs)) ∧ Ext w w' := by
  have HK := Lib.hid hk
  have HL := Lib.hid h.1
  have klo := key_lo hk w 23
  have khi := key_hi hk w 23
  clear hk
  go_enter Try.func9, Try.ntmps9
  go_wp2
  refine wp_region_monoL [(1, isV (.int .u64 (leNat (key.take 8)))), (3, isV (.int .u64 (leNat (key.drop 8))))] (by kernel_rfl) (by kernel_rfl) ⟨steady_isV _, steady_isV _, trivial⟩ ?_
  refine wpM_quiet lax_of rfl rfl rfl (fun K hK => ?_)
  go_big_quiet_op
  refine hK _ ?_; clear hK K
  refine wpM_call _ rfl rfl (fun W hW hF => ?_) (fun v hv => ?_)
  · obtain ⟨g, rfl⟩ := hW
    go_simp
    exact fit_same (little_any _ _ _ _ _ (klo.ext (Ext.plus _ _)) (by omega))
  obtain rfl := isV_of hv
  simp only [Act.put, List.setIfInBounds_toArray, List.set_cons_zero, List.set_cons_succ]
  refine wpM_quiet lax_of rfl rfl rfl (fun K hK => ?_)
  go_big_quiet_op
  refine hK _ ?_; clear hK K
  refine wpM_call _ rfl rfl (fun W hW hF => ?_) (fun v hv => ?_)
  · obtain ⟨g, rfl⟩ := hW
    go_simp
    exact fit_same (little_any _ _ _ _ _ (khi.ext (Ext.plus _ _)) (by omega))
  obtain rfl := isV_of hv
  simp only [Act.put, List.setIfInBounds_toArray, List.set_cons_zero, List.set_cons_succ]
  iterate 2
    refine wpM_quiet lax_of rfl rfl rfl (fun K hK => ?_)
    go_big_quiet_op
    refine hK _ ?_; clear hK K
  refine wpM_nil (fun W hW _ => ?_)
  have hE : Ext w W := (Ext.alloc _ _).trans hW
  have hR := h.ext hE
  clear klo khi hW h
  go_wp2
  go_loopw [27] (fun i wr => ∃ (k : Nat) (t : St) (g : Grow), k ≤ n / 8 ∧ i = .int .i64 k ∧ t = sipWords (sipInit (leNat (key.take 8)) (leNat (key.drop 8))) xs k ∧ wr = wplus (W.alloc (.cells #[.int .u64 t.a, .int .u64 t.b, .int .u64 t.c, .int .u64 t.d] 43)) g)
    (fun i _ => n - (intOf i).toNat)
  case atStart =>
    obtain ⟨g, hg⟩ := Ext.refl (W.alloc (.cells #[.int .u64 (sipInit (leNat (key.take 8)) (leNat (key.drop 8))).a, .int .u64 (sipInit (leNat (key.take 8)) (leNat (key.drop 8))).b, .int .u64 (sipInit (leNat (key.take 8)) (leNat (key.drop 8))).c, .int .u64 (sipInit (leNat (key.take 8)) (leNat (key.drop 8))).d] 43))
    exact ⟨0, _, g, Nat.zero_le _, rfl, rfl, hg⟩
  case round =>
    obtain ⟨k, t, g, hk, rfl, ht, rfl⟩ := hrel
    have HT := Lib.hid ht; clear ht
    obtain ⟨ta, tb, tc, td⟩ := t
    by_cases hlt : k < n / 8
    · obtain ⟨b, off, rfl, _, _⟩ := hR.2 (by omega)
      go_wp2
      obtain ⟨M, hM⟩ : ∃ M, (St.mk ta tb tc td).mix (leNat ((xs.drop (8 * k)).take 8)) = M := ⟨_, rfl⟩
      have HM := Lib.hid hM; clear hM
      refine wp_region_mono_tailL 10 [(8, isV (.int .u64 (leNat ((xs.drop (8 * k)).take 8)))), (9, isV (.agg #[.int .u64 M.a, .int .u64 M.b, .int .u64 M.c, .int .u64 M.d]))] (by kernel_rfl) (by kernel_rfl) ⟨steady_isV _, steady_isV _, trivial⟩ ?_
      simp only [List.take_succ_cons, List.take_zero, List.drop_succ_cons, List.drop_zero]
      iterate 8
        refine wpM_quiet lax_of rfl rfl rfl (fun K hK => ?_)
        go_big_quiet_op
        refine hK _ ?_; clear hK K
      refine wpM_call _ rfl rfl (fun W' hW hF => ?_) (fun v hv => ?_)
      · obtain ⟨g', rfl⟩ := hW
        clear hF
        have e8 : 8 * k + 8 - 8 * k = 8 := by omega
        have hs := hR.sub (i := 8 * k) (m := 8) (by omega)
        go_simp
        exact fit_same (little_any _ _ _ _ _ (by exact hs.ext ((Ext.alloc _ _).trans (Ext.plus _ _))) (by omega))
      obtain rfl := isV_of hv
      simp only [Act.put, List.setIfInBounds_toArray, List.set_cons_zero, List.set_cons_succ]
      refine wpM_call _ rfl rfl (fun W' hW hF => ?_) (fun v hv => ?_)
      · obtain ⟨g', rfl⟩ := hW
        clear hF
        have hm := mix_any (St.mk ta tb tc td) (leNat ((xs.drop (8 * k)).take 8))
        rw [HM.out] at hm
        go_simp
        exact fit_val (hm _)
      obtain rfl := isV_of hv
      simp only [Act.put, List.setIfInBounds_toArray, List.set_cons_zero, List.set_cons_succ]
      refine wpM_nil (fun w2 hw2 _ => ?_)
      obtain ⟨g2, rfl⟩ := hw2
      go_wp2
      go_roundw
      case rel => exact ⟨k + 1, M, g.and g2, by omega, by go_num, by rw [← HM.out, HT.out]; rfl, rfl⟩
      case measure => simp [intOf]; omega
    · obtain rfl : k = n / 8 := by omega
      clear hlt
      have hsub : Reads W (if c = 8 * (n / 8) then A else A.map (·.add (8 * (n / 8)))) (n - 8 * (n / 8)) (xs.drop (8 * (n / 8))) := by
        refine ⟨by have := hR.1; simp; omega, fun hp => ?_⟩
        obtain ⟨b, off, rfl, hb, hcc⟩ := hR.2 (by omega)
        rw [if_neg (by omega)]
        refine ⟨b, off + 8 * (n / 8), ?_, hb, fun j x hx => ?_⟩
        · simp only [Option.map_some, Addr.add]; split
          · rename_i h0; rw [h0]; rfl
          · rfl
        · rw [Nat.add_assoc]; exact hcc _ _ (by rw [List.getElem?_drop] at hx; exact hx)
      obtain ⟨M, hM⟩ : ∃ M, (St.mk ta tb tc td).mix (sipLast xs) = M := ⟨_, rfl⟩
      have HM := Lib.hid hM; clear hM
      go_wp2
      refine wp_region_mono_tailL 12 [(5, isV (.int .u64 (leNat (xs.drop (8 * (n / 8)))))), (11, isV (.agg #[.int .u64 M.a, .int .u64 M.b, .int .u64 M.c, .int .u64 M.d]))] (by kernel_rfl) (by kernel_rfl) ⟨steady_isV _, steady_isV _, trivial⟩ ?_
      simp only [List.take_succ_cons, List.take_zero, List.drop_succ_cons, List.drop_zero]
      iterate 5
        refine wpM_quiet lax_of rfl rfl rfl (fun K hK => ?_)
        go_big_quiet_op
        refine hK _ ?_; clear hK K
      generalize (if c = 8 * (n / 8) then A else A.map (·.add (8 * (n / 8)))) = A' at hsub ⊢
      refine wpM_call _ rfl rfl (fun W' hW hF => ?_) (fun v hv => ?_)
      · obtain ⟨g', rfl⟩ := hW
        clear hF
        go_simp
        exact fit_same (little_any _ _ _ _ _ (by exact hsub.ext ((Ext.alloc _ _).trans (Ext.plus _ _))) (by omega))
      obtain rfl := isV_of hv
      simp only [Act.put, List.setIfInBounds_toArray, List.set_cons_zero, List.set_cons_succ]
      have elast := last_or' HL.out
      iterate 5
        refine wpM_quiet lax_of rfl rfl rfl (fun K hK => ?_)
        go_big_quiet_op
        refine hK _ ?_; clear hK K
      refine wpM_call _ rfl rfl (fun W' hW hF => ?_) (fun v hv => ?_)
      · obtain ⟨g', rfl⟩ := hW
        clear hF
        have hm := mix_any (St.mk ta tb tc td) (sipLast xs)
        rw [HM.out] at hm
        go_simp
        exact fit_val (hm _)
      obtain rfl := isV_of hv
      simp only [Act.put, List.setIfInBounds_toArray, List.set_cons_zero, List.set_cons_succ]
      refine wpM_nil (fun w2 hw2 _ => ?_)
      obtain ⟨g2, rfl⟩ := hw2
      clear hsub elast
      go_wp2_with fail
      refine (rounds_any 4 (by omega) (St.mark M) _).mono ?_
      rintro e w3 ⟨rfl, g3, rfl⟩
      obtain ⟨U, hU⟩ : ∃ U, (St.mark M).rounds 4 = U := ⟨_, rfl⟩
      rw [hU, agg_eq]
      have HU := Lib.hid hU; clear hU
      go_wp2
      go_ret
      refine ⟨?_, hE.trans ((Ext.alloc _ _).trans (Ext.plus _ _))⟩
      show Ending.returned (.int .u64 (St.out U)) = _
      rw [← HU.out, ← HM.out, HT.out]
      have hl := HL.out
      subst hl
      rfl

set_option maxRecDepth 100000 in
set_option maxHeartbeats 1000000 in
theorem refsum_any (key : List UInt8) (hk : key.length = 16) (A : Option Addr) (n c : Nat) (xs : List UInt8) (w : World) (h : Reads w A n xs) (hnc : n ≤ c) (hn : n ≤ 140737488355328) (_hc : c ≤ 9223372036854775807) :
    Calls Try.prog 10 #[keyV key, .slice A n c] w fun e w' => e = .returned (.int .u64 (sip key xs)) ∧ Ext w w' := by
  have HK := Lib.hid hk
  have HL := Lib.hid h.1
  have klo := key_lo hk w 23
  have khi := key_hi hk w 23
  clear hk
  go_enter Try.func10, Try.ntmps10
  go_wp2
  refine wp_region_monoL [(1, isV (.int .u64 (leNat (key.take 8)))), (3, isV (.int .u64 (leNat (key.drop 8))))] (by kernel_rfl) (by kernel_rfl) ⟨steady_isV _, steady_isV _, trivial⟩ ?_
  refine wpM_quiet lax_of rfl rfl rfl (fun K hK => ?_)
  go_big_quiet_op
  refine hK _ ?_; clear hK K
  refine wpM_call _ rfl rfl (fun W hW hF => ?_) (fun v hv => ?_)
  · obtain ⟨g, rfl⟩ := hW
    go_simp
    exact fit_same (number_any _ _ _ _ _ (klo.ext (Ext.plus _ _)) (by omega))
  obtain rfl := isV_of hv
  simp only [Act.put, List.setIfInBounds_toArray, List.set_cons_zero, List.set_cons_succ]
  refine wpM_quiet lax_of rfl rfl rfl (fun K hK => ?_)
  go_big_quiet_op
  refine hK _ ?_; clear hK K
  refine wpM_call _ rfl rfl (fun W hW hF => ?_) (fun v hv => ?_)
  · obtain ⟨g, rfl⟩ := hW
    go_simp
    exact fit_same (number_any _ _ _ _ _ (khi.ext (Ext.plus _ _)) (by omega))
  obtain rfl := isV_of hv
  simp only [Act.put, List.setIfInBounds_toArray, List.set_cons_zero, List.set_cons_succ]
  iterate 2
    refine wpM_quiet lax_of rfl rfl rfl (fun K hK => ?_)
    go_big_quiet_op
    refine hK _ ?_; clear hK K
  refine wpM_nil (fun W hW _ => ?_)
  have hE : Ext w W := (Ext.alloc _ _).trans hW
  have hR := h.ext hE
  clear klo khi hW h
  go_wp2
  go_loopw [8] (fun i wr => ∃ (k : Nat) (t : St) (g : Grow), k ≤ n / 8 ∧ i = .int .i64 (8 * (k : Int)) ∧ t = sipWords (sipInit (leNat (key.take 8)) (leNat (key.drop 8))) xs k ∧ wr = wplus (W.alloc (.cells #[.int .u64 t.a, .int .u64 t.b, .int .u64 t.c, .int .u64 t.d] 47)) g)
    (fun i _ => n - (intOf i).toNat)
  case atStart =>
    obtain ⟨g, hg⟩ := Ext.refl (W.alloc (.cells #[.int .u64 (sipInit (leNat (key.take 8)) (leNat (key.drop 8))).a, .int .u64 (sipInit (leNat (key.take 8)) (leNat (key.drop 8))).b, .int .u64 (sipInit (leNat (key.take 8)) (leNat (key.drop 8))).c, .int .u64 (sipInit (leNat (key.take 8)) (leNat (key.drop 8))).d] 47))
    exact ⟨0, _, g, Nat.zero_le _, rfl, rfl, hg⟩
  case round =>
    obtain ⟨k, t, g, hk, rfl, ht, rfl⟩ := hrel
    have HT := Lib.hid ht; clear ht
    obtain ⟨ta, tb, tc, td⟩ := t
    by_cases hlt : k < n / 8
    · obtain ⟨b, off, rfl, _, _⟩ := hR.2 (by omega)
      go_wp2
      obtain ⟨M, hM⟩ : ∃ M, (St.mk ta tb tc td).mix (leNat ((xs.drop (8 * k)).take 8)) = M := ⟨_, rfl⟩
      have HM := Lib.hid hM; clear hM
      refine wp_region_mono_tailL 8 [(6, isV (.int .u64 (leNat ((xs.drop (8 * k)).take 8)))), (7, isV (.agg #[.int .u64 M.a, .int .u64 M.b, .int .u64 M.c, .int .u64 M.d]))] (by kernel_rfl) (by kernel_rfl) ⟨steady_isV _, steady_isV _, trivial⟩ ?_
      simp only [List.take_succ_cons, List.take_zero, List.drop_succ_cons, List.drop_zero]
      iterate 6
        refine wpM_quiet lax_of rfl rfl rfl (fun K hK => ?_)
        go_big_quiet_op
        refine hK _ ?_; clear hK K
      refine wpM_call _ rfl rfl (fun W' hW hF => ?_) (fun v hv => ?_)
      · obtain ⟨g', rfl⟩ := hW
        clear hF
        have e8 : 8 * k + 8 - 8 * k = 8 := by omega
        have hs := hR.sub (i := 8 * k) (m := 8) (by omega)
        go_simp
        exact fit_same (number_any _ _ _ _ _ (by exact hs.ext ((Ext.alloc _ _).trans (Ext.plus _ _))) (by omega))
      obtain rfl := isV_of hv
      simp only [Act.put, List.setIfInBounds_toArray, List.set_cons_zero, List.set_cons_succ]
      refine wpM_call _ rfl rfl (fun W' hW hF => ?_) (fun v hv => ?_)
      · obtain ⟨g', rfl⟩ := hW
        clear hF
        have hm := ref_word (St.mk ta tb tc td) (leNat ((xs.drop (8 * k)).take 8))
        rw [HM.out] at hm
        go_simp
        exact fit_val (hm _)
      obtain rfl := isV_of hv
      simp only [Act.put, List.setIfInBounds_toArray, List.set_cons_zero, List.set_cons_succ]
      refine wpM_nil (fun w2 hw2 _ => ?_)
      obtain ⟨g2, rfl⟩ := hw2
      go_wp2
      go_roundw
      case rel => exact ⟨k + 1, M, g.and g2, by omega, by go_num, by rw [← HM.out, HT.out]; rfl, rfl⟩
      case measure => simp [intOf]; omega
    · obtain rfl : k = n / 8 := by omega
      clear hlt
      have hsub : Reads W (if c = 8 * (n / 8) then A else A.map (·.add (8 * (n / 8)))) (n - 8 * (n / 8)) (xs.drop (8 * (n / 8))) := by
        refine ⟨by have := hR.1; simp; omega, fun hp => ?_⟩
        obtain ⟨b, off, rfl, hb, hcc⟩ := hR.2 (by omega)
        rw [if_neg (by omega)]
        refine ⟨b, off + 8 * (n / 8), ?_, hb, fun j x hx => ?_⟩
        · simp only [Option.map_some, Addr.add]; split
          · rename_i h0; rw [h0]; rfl
          · rfl
        · rw [Nat.add_assoc]; exact hcc _ _ (by rw [List.getElem?_drop] at hx; exact hx)
      obtain ⟨M, hM⟩ : ∃ M, (St.mk ta tb tc td).mix (sipLast xs) = M := ⟨_, rfl⟩
      have HM := Lib.hid hM; clear hM
      go_wp2
      refine wp_region_mono_tailL 12 [(4, isV (.int .u64 (leNat (xs.drop (8 * (n / 8)))))), (11, isV (.agg #[.int .u64 M.a, .int .u64 M.b, .int .u64 M.c, .int .u64 M.d]))] (by kernel_rfl) (by kernel_rfl) ⟨steady_isV _, steady_isV _, trivial⟩ ?_
      simp only [List.take_succ_cons, List.take_zero, List.drop_succ_cons, List.drop_zero]
      iterate 4
        refine wpM_quiet lax_of rfl rfl rfl (fun K hK => ?_)
        go_big_quiet_op
        refine hK _ ?_; clear hK K
      generalize (if c = 8 * (n / 8) then A else A.map (·.add (8 * (n / 8)))) = A' at hsub ⊢
      refine wpM_call _ rfl rfl (fun W' hW hF => ?_) (fun v hv => ?_)
      · obtain ⟨g', rfl⟩ := hW
        clear hF
        go_simp
        exact fit_same (number_any _ _ _ _ _ (by exact hsub.ext ((Ext.alloc _ _).trans (Ext.plus _ _))) (by omega))
      obtain rfl := isV_of hv
      simp only [Act.put, List.setIfInBounds_toArray, List.set_cons_zero, List.set_cons_succ]
      have elast := last_add'' HL.out
      iterate 6
        refine wpM_quiet lax_of rfl rfl rfl (fun K hK => ?_)
        go_big_quiet_op
        refine hK _ ?_; clear hK K
      refine wpM_call _ rfl rfl (fun W' hW hF => ?_) (fun v hv => ?_)
      · obtain ⟨g', rfl⟩ := hW
        clear hF
        have hm := ref_word (St.mk ta tb tc td) (sipLast xs)
        rw [HM.out] at hm
        go_simp
        exact fit_val (hm _)
      obtain rfl := isV_of hv
      simp only [Act.put, List.setIfInBounds_toArray, List.set_cons_zero, List.set_cons_succ]
      refine wpM_nil (fun w2 hw2 _ => ?_)
      obtain ⟨g2, rfl⟩ := hw2
      clear hsub elast
      go_wp2_with fail
      refine (ref_round (St.mark M) _).mono ?_
      rintro e w3 ⟨rfl, g3, rfl⟩
      go_wp2_with fail
      refine (ref_round ((St.mark M).rounds 1) _).mono ?_
      rintro e w3 ⟨rfl, g4, rfl⟩
      go_wp2_with fail
      refine (ref_round ((St.mark M).rounds 2) _).mono ?_
      rintro e w3 ⟨rfl, g5, rfl⟩
      go_wp2_with fail
      refine (ref_round ((St.mark M).rounds 3) _).mono ?_
      rintro e w3 ⟨rfl, g6, rfl⟩
      obtain ⟨U, hU⟩ : ∃ U, ((St.mark M).rounds 3).round = U := ⟨_, rfl⟩
      rw [hU, agg_eq]
      have HU := Lib.hid hU; clear hU
      go_wp2
      go_ret
      refine ⟨?_, hE.trans ((Ext.alloc _ _).trans (Ext.plus _ _))⟩
      show Ending.returned (.int .u64 (St.out U)) = _
      rw [← HU.out, ← HM.out, HT.out]
      have hl := HL.out
      subst hl
      rfl
end Go.Proofs.Ytbncbjblbdjddaa
