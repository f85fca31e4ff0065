/-
  The published values: ascending, known.
-/
import Derived.Test.YtbncbjblbdjddaaSipSum
namespace Go.Proofs.Ytbncbjblbdjddaa
open Go.RowKit

theorem u8_info : (Try.prog.info? 5).map (fun i => (i.zero, i.size, i.bytes)) = some (some (.int .u8 0), 1, 1) := by kernel_rfl

/-- 0, 1, 2 .. -/
def asc (n : Nat) : List UInt8 := (List.range n).map UInt8.ofNat
theorem asc_length (n : Nat) : (asc n).length = n := by simp [asc]
theorem asc_succ (n : Nat) : asc (n + 1) = asc n ++ [UInt8.ofNat n] := by simp [asc, List.range_succ]

set_option maxHeartbeats 400000 in
theorem ascending_any (n : Nat) (hn : n ≤ 100) (w : World) :
    Calls Try.prog 19 #[.int .i64 n] w fun e w' => ∃ v, e = .returned v ∧ Ext w w' ∧ IsBytes w' v (asc n) := by
  obtain ⟨i0, hi, hz0, hz1, hz2⟩ := info_parts u8_info
  go_enter Try.func19, Try.ntmps19
  go_wp2
  go_loopw [3, 4] (fun v i wr => ∃ k : Nat, k ≤ n ∧ i = .int .i64 k ∧ wr.ownsRow w.heap.size 5 1 v k ((asc k).map B8) ∧ Below w.heap.size w wr) (fun _ i _ => n - (intOf i).toNat)
  case atStart => exact ⟨0, Nat.zero_le _, rfl, ⟨by simp [asc], .inl ⟨rfl, rfl⟩⟩, Below.refl _ _⟩
  case round =>
    obtain ⟨k, hk, rfl, hown, hb⟩ := hrel
    by_cases hlt : k < n
    · go_wp2_with (at_builtin; refine wpList_append_own _ rfl _ _ 24 rfl w.heap.size 5 i0 (.int .u8 0) 1 1 Try.underlying24 hi hz0 hz1 hz2 rfl (by decide) _ _ _ rfl (hown.alloc _) ⟨wr.heap.size, 0, none⟩ 1 1 [.int .u8 k] rfl rfl (cell_one _ _ _) ?c2 ?c3 ?c4 ?c5 ?_)
      case c2 => intro u hu; simp at hu; subst hu; rfl
      case c3 => unfold maxLen; omega
      case c4 => omega
      case c5 => have := hb.size; simp; omega
      intro v' w' hown' hgrow _
      have hb' := (hb.alloc hb.size (.cells #[.int .u8 (k : Int)] 5)).grown hgrow (by have := hb.size; simp; omega) (own_block_ge hown)
      have e : (asc k).map B8 ++ [.int .u8 (k : Int)] = (asc (k + 1)).map B8 := by
        rw [asc_succ, List.map_append, List.map_cons, List.map_nil]
        simp only [B8, UInt8.toNat_ofNat']
        rw [Nat.mod_eq_of_lt (by omega)]
      rw [e] at hown'
      clear hgrow e hown hb
      go_wp2
      go_roundw
      case rel => exact ⟨k + 1, by omega, by go_num, hown', hb'⟩
      case measure => simp [intOf]; omega
    · obtain rfl : k = n := by omega
      go_wp2
      go_ret
      exact ⟨_, rfl, Ext.of_below hb, (reads_of_own hown).1⟩

theorem key_info : (Try.prog.info? 23).map (·.size) = some 16 := by kernel_rfl
theorem key_info' {key : List UInt8} (h : key.length = 16) : (Try.prog.info? 23).map (·.size) = some (key.map B8).length := by rw [key_info, List.length_map, h]
theorem u8_size : (Try.prog.info? 5).map (·.size) = some 1 := by kernel_rfl

theorem sip_known15 : sip (asc 16) (asc 15) = 11613035633349379557 := by decide +kernel
theorem sip_known0 : sip (asc 16) [] = 8246050544436514353 := by decide +kernel

set_option maxRecDepth 100000 in
set_option maxHeartbeats 1000000 in
theorem known_any (w : World) : Calls Try.prog 8 #[] w fun e w' => e = .returned (.bool true) ∧ Ext w w' := by
  go_enter Try.func8, Try.ntmps8
  go_wp2
  refine wp_region_mono_tailL 2 [(1, fun v w => IsBytes w v (asc 16))] (by kernel_rfl) (by kernel_rfl) ⟨IsBytes.steady _, trivial⟩ ?_
  simp only [List.take_succ_cons, List.take_zero, List.drop_succ_cons, List.drop_zero]
  refine wpM_quiet lax_of rfl rfl rfl (fun K hK => ?_)
  go_big_quiet_op
  refine hK _ ?_; clear hK K
  refine wpM_call _ rfl rfl (fun W hW hF => ?_) (fun v hv => ?_)
  · obtain ⟨g, rfl⟩ := hW
    go_simp
    exact fit_psi (ascending_any 16 (by omega) _)
  clear hv
  simp only [Act.put, List.setIfInBounds_toArray, List.set_cons_zero, List.set_cons_succ]
  refine wpM_nil (fun w2 hw2 hJ => ?_)
  obtain ⟨g2, rfl⟩ := hw2
  obtain ⟨_, A, c, rfl, hR, _, _⟩ := hJ
  obtain ⟨b, off, rfl, hb, hcc⟩ := hR.2 (by decide)
  refine wpList_copy_own rfl (.tmp 2) (.tmp 3) 24 24 rfl 5 Try.underlying24 u8_size w.heap.size 0 16 16 ⟨b, off, none⟩ _ _ rfl rfl _ _ (by rw [heap_plus _ _ (by simp)]; exact heap_alloc_last w _) ((asc 16).map B8) (by decide) ?_ (by simp [asc]) ?_ ?_
  · intro j v hv
    rw [List.getElem?_map] at hv
    cases hx : (asc 16)[j]? with
    | none => rw [hx] at hv; cases hv
    | some x =>
      rw [hx] at hv
      simp only [Option.map_some, Option.some.injEq] at hv
      subst hv
      rw [Addr.add_mid]
      exact hcc j x hx
  · intro v hv
    obtain ⟨x, _, rfl⟩ := List.mem_map.1 hv
    rfl
  rw [setRow_plus]
  clear hR hcc hb
  have er : (List.take 0 (Array.toList #[Value.int .u8 0, Value.int .u8 0, Value.int .u8 0, Value.int .u8 0, Value.int .u8 0, Value.int .u8 0, Value.int .u8 0, Value.int .u8 0, Value.int .u8 0, Value.int .u8 0, Value.int .u8 0, Value.int .u8 0, Value.int .u8 0, Value.int .u8 0, Value.int .u8 0, Value.int .u8 0]) ++ ((asc 16).map B8 ++ List.drop (0 + ((asc 16).map B8).length) (Array.toList #[Value.int .u8 0, Value.int .u8 0, Value.int .u8 0, Value.int .u8 0, Value.int .u8 0, Value.int .u8 0, Value.int .u8 0, Value.int .u8 0, Value.int .u8 0, Value.int .u8 0, Value.int .u8 0, Value.int .u8 0, Value.int .u8 0, Value.int .u8 0, Value.int .u8 0, Value.int .u8 0]))).toArray = ((asc 16).map B8).toArray := by
    simp [asc]
  rw [er]
  clear er
  obtain ⟨key, hkey⟩ : ∃ key, asc 16 = key := ⟨_, rfl⟩
  have hlen : key.length = 16 := by rw [← hkey, asc_length]
  rw [hkey]
  have hrange := range_ext (range_new w (key.map B8) 23) (Ext.plus _ g2)
  have hE : Ext w (wplus (w.alloc (.cells (key.map B8).toArray 23)) g2) := (Ext.alloc _ _).trans (Ext.plus _ _)
  have HK := Lib.hid hkey
  have HL := Lib.hid hlen
  clear hkey hlen
  generalize wplus (w.alloc (.cells (key.map B8).toArray 23)) g2 = W0 at *
  go_wp2
  refine wp_region_monoL [(1, fun v w => IsBytes w v (asc 15)), (2, isV (.int .u64 11613035633349379557)), (6, isV (.int .u64 8246050544436514353))] (by kernel_rfl) (by kernel_rfl) ⟨IsBytes.steady _, steady_isV _, steady_isV _, trivial⟩ ?_
  refine wpM_quiet lax_of rfl rfl rfl (fun K hK => ?_)
  refine quiet_load_row 23 _ rfl _ _ rfl _ _ hrange Try.underlying23 rfl (key_info' HL.out) (hK _ ?_)
  clear hK K
  simp only [Act.put, List.setIfInBounds_toArray, List.set_cons_zero, List.set_cons_succ]
  refine wpM_call _ rfl rfl (fun W hW hF => ?_) (fun v hv => ?_)
  · obtain ⟨g, rfl⟩ := hW
    go_simp
    exact fit_psi (ascending_any 15 (by omega) _)
  obtain ⟨_, _, _, A1, c1, rfl, _, _, _⟩ := hv
  simp only [Act.put, List.setIfInBounds_toArray, List.set_cons_zero, List.set_cons_succ]
  refine wpM_call _ rfl rfl (fun W hW hF => ?_) (fun v hv => ?_)
  · obtain ⟨g, rfl⟩ := hW
    have h6 : IsBytes _ _ (asc 15) := (hF 6 (by decide)).1
    obtain ⟨A2, c2, e2, hr2, hn2, hc2⟩ := h6
    injection e2 with e3 e4 e5
    subst e3 e5
    have hs := sum_any key HL.out A1 _ c1 (asc 15) _ hr2 hn2 (by decide) hc2
    rw [← HK.out, sip_known15, HK.out] at hs
    clear hF
    go_simp
    exact fit_val hs
  obtain rfl := isV_of hv
  simp only [Act.put, List.setIfInBounds_toArray, List.set_cons_zero, List.set_cons_succ]
  iterate 2
    refine wpM_quiet lax_of rfl rfl rfl (fun K hK => ?_)
    go_big_quiet_op
    refine hK _ ?_; clear hK K
  refine wpM_quiet lax_of rfl rfl rfl (fun K hK => ?_)
  refine quiet_load_row 23 _ rfl _ _ rfl _ _ hrange Try.underlying23 rfl (key_info' HL.out) (hK _ ?_)
  clear hK K
  simp only [Act.put, List.setIfInBounds_toArray, List.set_cons_zero, List.set_cons_succ]
  refine wpM_call _ rfl rfl (fun W hW hF => ?_) (fun v hv => ?_)
  · obtain ⟨g, rfl⟩ := hW
    have hs := sum_any key HL.out none 0 0 [] _ (Reads.nil (wplus W0 g) none) (by decide) (by decide) (by decide)
    rw [← HK.out, sip_known0, HK.out] at hs
    clear hF
    go_simp
    exact fit_val hs
  obtain rfl := isV_of hv
  simp only [Act.put, List.setIfInBounds_toArray, List.set_cons_zero, List.set_cons_succ]
  iterate 3
    refine wpM_quiet lax_of rfl rfl rfl (fun K hK => ?_)
    go_big_quiet_op
    refine hK _ ?_; clear hK K
  refine wpM_nil (fun w3 hw3 _ => ?_)
  go_wp2
  go_ret
  exact ⟨rfl, hE.trans hw3⟩
end Go.Proofs.Ytbncbjblbdjddaa
