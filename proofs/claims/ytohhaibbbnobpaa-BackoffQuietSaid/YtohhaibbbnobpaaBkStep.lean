/-
  backoff.Ended, drawn, Begin, sense and Step.
-/
import Derived.Test.YtohhaibbbnobpaaBkValid
namespace Go.Proofs.Ytohhaibbbnobpaa
open Go.RowKit

theorem bagg_eq (s : Bk) : s.agg = .agg #[.int .i64 s.st, .int .i64 s.bu, .int .i64 s.ex, .int .i64 s.cl, .int .i64 s.wt] := rfl
theorem bext2 (w : World) (o1 o2 : Obj) : Ext w ((w.alloc o1).alloc o2) := (Ext.alloc _ _).trans (Ext.alloc _ _)

set_option maxRecDepth 100000 in
set_option maxHeartbeats 1000000 in
theorem drawn_any (s : Bk) (d : Int) (w : World) (hx : s.ex = 3 ∨ s.ex = 4 ∨ s.ex = 5) (h0 : 0 ≤ d) (h1 : d ≤ 4294967295) :
    Calls Try.prog 28 #[s.agg, .int .u32 d] w fun e w' => e = .returned (s.drawn d).agg ∧ Ext w w' := by
  obtain ⟨st, bu, ex, cl, wt⟩ := s
  show Calls Try.prog 28 #[.agg #[.int .i64 st, .int .i64 bu, .int .i64 ex, .int .i64 cl, .int .i64 wt], .int .u32 d] w _
  rcases hx with hx | hx | hx
  · simp only [] at hx
    subst hx
    by_cases hz : d % 8 = 0
    · have hd : (Bk.mk st bu 3 cl wt).drawn d = ⟨2, bu, 3, 2, 0⟩ := by simp [Bk.drawn, powE, hz]
      rw [hd]
      clear hd
      go_enter Try.func28, Try.ntmps28
      go_wp2
      exact bodyPost_ret (v := (Bk.mk 2 bu 3 2 0).agg) (by simp [results, Try.results28, go_sem, Bk.agg]) rfl ⟨rfl, bext2 _ _ _⟩
    · have hd : (Bk.mk st bu 3 cl wt).drawn d = ⟨1, bu, 3, 2, d % 8⟩ := by simp [Bk.drawn, powE, hz]
      rw [hd]
      clear hd
      have hg : decide (0 < d % 8) = true := by simp; omega
      go_enter Try.func28, Try.ntmps28
      go_wp2
      exact bodyPost_ret (v := (Bk.mk 1 bu 3 2 (d % 8)).agg) (by simp [results, Try.results28, go_sem, Bk.agg]) rfl ⟨rfl, bext2 _ _ _⟩
  · simp only [] at hx
    subst hx
    by_cases hz : d % 16 = 0
    · have hd : (Bk.mk st bu 4 cl wt).drawn d = ⟨2, bu, 4, 2, 0⟩ := by simp [Bk.drawn, powE, hz]
      rw [hd]
      clear hd
      go_enter Try.func28, Try.ntmps28
      go_wp2
      exact bodyPost_ret (v := (Bk.mk 2 bu 4 2 0).agg) (by simp [results, Try.results28, go_sem, Bk.agg]) rfl ⟨rfl, bext2 _ _ _⟩
    · have hd : (Bk.mk st bu 4 cl wt).drawn d = ⟨1, bu, 4, 2, d % 16⟩ := by simp [Bk.drawn, powE, hz]
      rw [hd]
      clear hd
      have hg : decide (0 < d % 16) = true := by simp; omega
      go_enter Try.func28, Try.ntmps28
      go_wp2
      exact bodyPost_ret (v := (Bk.mk 1 bu 4 2 (d % 16)).agg) (by simp [results, Try.results28, go_sem, Bk.agg]) rfl ⟨rfl, bext2 _ _ _⟩
  · simp only [] at hx
    subst hx
    by_cases hz : d % 32 = 0
    · have hd : (Bk.mk st bu 5 cl wt).drawn d = ⟨2, bu, 5, 2, 0⟩ := by simp [Bk.drawn, powE, hz]
      rw [hd]
      clear hd
      go_enter Try.func28, Try.ntmps28
      go_wp2
      exact bodyPost_ret (v := (Bk.mk 2 bu 5 2 0).agg) (by simp [results, Try.results28, go_sem, Bk.agg]) rfl ⟨rfl, bext2 _ _ _⟩
    · have hd : (Bk.mk st bu 5 cl wt).drawn d = ⟨1, bu, 5, 2, d % 32⟩ := by simp [Bk.drawn, powE, hz]
      rw [hd]
      clear hd
      have hg : decide (0 < d % 32) = true := by simp; omega
      go_enter Try.func28, Try.ntmps28
      go_wp2
      exact bodyPost_ret (v := (Bk.mk 1 bu 5 2 (d % 32)).agg) (by simp [results, Try.results28, go_sem, Bk.agg]) rfl ⟨rfl, bext2 _ _ _⟩

set_option maxRecDepth 100000 in
set_option maxHeartbeats 1000000 in
theorem begin_any (d : Int) (w : World) (h0 : 0 ≤ d) (h1 : d ≤ 4294967295) :
    Calls Try.prog 19 #[.int .u32 d] w fun e w' => e = .returned (beginB d).agg ∧ Ext w w' := by
  obtain ⟨t, ht⟩ : ∃ t, beginB d = t := ⟨_, rfl⟩
  have HT := Lib.hid ht
  rw [ht]
  clear ht
  go_enter Try.func19, Try.ntmps19
  go_wp2_with fail
  refine (expo_any 0 _ (by omega) (by omega)).mono ?_
  rintro e w' ⟨rfl, rfl⟩
  rw [show expB 0 = 3 from rfl]
  go_wp2_with fail
  refine (drawn_any ⟨0, 0, 3, 0, 0⟩ d _ (.inl rfl) h0 h1).mono ?_
  rintro e w' ⟨rfl, g, rfl⟩
  rw [show Bk.drawn ⟨0, 0, 3, 0, 0⟩ d = beginB d from rfl, HT.out, bagg_eq]
  go_wp2
  exact bodyPost_ret (v := t.agg) (by simp [results, Try.results19, go_sem, Bk.agg]) rfl ⟨rfl, (Ext.alloc _ _).trans (Ext.plus _ _)⟩

set_option maxRecDepth 100000 in
set_option maxHeartbeats 1000000 in
theorem sense_any (s : Bk) (busy : Bool) (d : Int) (w : World) (hb : 0 ≤ s.bu ∧ s.bu ≤ 5) (hc : 1 ≤ s.cl ∧ s.cl ≤ 2) (h0 : 0 ≤ d) (h1 : d ≤ 4294967295) :
    Calls Try.prog 26 #[s.agg, .bool busy, .int .u32 d] w fun e w' => e = .returned (s.sense busy d).agg ∧ Ext w w' := by
  obtain ⟨st, bu, ex, cl, wt⟩ := s
  simp only [] at hb hc
  show Calls Try.prog 26 #[.agg #[.int .i64 st, .int .i64 bu, .int .i64 ex, .int .i64 cl, .int .i64 wt], .bool busy, .int .u32 d] w _
  cases busy with
  | false =>
    by_cases hcl : cl = 1
    · subst hcl
      have hd : (Bk.mk st bu ex 1 wt).sense false d = ⟨3, bu, ex, 0, wt⟩ := by simp [Bk.sense]
      rw [hd]
      clear hd
      go_enter Try.func26, Try.ntmps26
      go_wp2
      exact bodyPost_ret (v := (Bk.mk 3 bu ex 0 wt).agg) (by simp [results, Try.results26, go_sem, Bk.agg]) rfl ⟨rfl, bext2 _ _ _⟩
    · obtain rfl : cl = 2 := by omega
      have hd : (Bk.mk st bu ex 2 wt).sense false d = ⟨st, bu, ex, 1, wt⟩ := by simp [Bk.sense]
      rw [hd]
      clear hd
      go_enter Try.func26, Try.ntmps26
      go_wp2
      exact bodyPost_ret (v := (Bk.mk st bu ex 1 wt).agg) (by simp [results, Try.results26, go_sem, Bk.agg]) rfl ⟨rfl, bext2 _ _ _⟩
  | true =>
    by_cases h4 : bu + 1 ≤ 4
    · have hd : (Bk.mk st bu ex cl wt).sense true d = Bk.drawn ⟨st, bu + 1, expB (bu + 1), cl, wt⟩ d := by simp [Bk.sense, h4]
      rw [hd]
      clear hd
      have hle : decide (bu + 1 ≤ 4) = true := by simpa using h4
      obtain ⟨t, ht⟩ : ∃ t, Bk.drawn ⟨st, bu + 1, expB (bu + 1), cl, wt⟩ d = t := ⟨_, rfl⟩
      have HT := Lib.hid ht
      rw [ht]
      clear ht
      go_enter Try.func26, Try.ntmps26
      go_wp2_with fail
      refine (expo_any (bu + 1) _ (by omega) (by omega)).mono ?_
      rintro e w' ⟨rfl, rfl⟩
      go_wp2_with fail
      refine (drawn_any ⟨st, bu + 1, expB (bu + 1), cl, wt⟩ d _ (by unfold expB; dsimp only; omega) h0 h1).mono ?_
      rintro e w' ⟨rfl, g, rfl⟩
      rw [HT.out, bagg_eq]
      go_wp2
      exact bodyPost_ret (v := t.agg) (by simp [results, Try.results26, go_sem, Bk.agg]) rfl ⟨rfl, (bext2 _ _ _).trans (Ext.plus _ _)⟩
    · have hd : (Bk.mk st bu ex cl wt).sense true d = ⟨4, bu + 1, expB (bu + 1), 2, wt⟩ := by simp [Bk.sense, h4]
      rw [hd]
      clear hd
      have hle : decide (bu + 1 ≤ 4) = false := by simpa using h4
      go_enter Try.func26, Try.ntmps26
      go_wp2_with fail
      refine (expo_any (bu + 1) _ (by omega) (by omega)).mono ?_
      rintro e w' ⟨rfl, rfl⟩
      go_wp2
      exact bodyPost_ret (v := (Bk.mk 4 (bu + 1) (expB (bu + 1)) 2 wt).agg) (by simp [results, Try.results26, go_sem, Bk.agg]) rfl ⟨rfl, bext2 _ _ _⟩
end Go.Proofs.Ytohhaibbbnobpaa
