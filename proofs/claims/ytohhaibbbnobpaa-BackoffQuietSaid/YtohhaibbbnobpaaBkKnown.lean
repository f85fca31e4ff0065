/-
  The helpers of the laws: known, at, busy.
-/
import Derived.Test.YtohhaibbbnobpaaBkEnded
namespace Go.Proofs.Ytohhaibbbnobpaa
open Go.RowKit

/-- the slice '.slice A n c' holds the numbers zs -/
def IntsAt (k : IntKind) (w : World) (A : Option Addr) (n : Nat) (zs : List Int) : Prop :=
  zs.length = n ∧ (0 < n → ∃ b off, A = some ⟨b, off, none⟩ ∧ b < w.heap.size ∧ ∀ j x, zs[j]? = some x → w.cell? ⟨b, off + j, none⟩ = some (.int k x))
theorem IntsAt.ext {k : IntKind} {w w' : World} {A : Option Addr} {n : Nat} {zs : List Int} (h : IntsAt k w A n zs) (e : Ext w w') : IntsAt k w' A n zs := by
  refine ⟨h.1, fun hn => ?_⟩
  obtain ⟨b, off, rfl, hb, hc⟩ := h.2 hn
  obtain ⟨g, rfl⟩ := e
  exact ⟨b, off, rfl, by simp; omega, fun j u hu => by rw [cell_plus _ _ _ _ _ hb]; exact hc j u hu⟩

/-- an element, and 0 behind the end -/
def atZ (zs : List Int) (i : Nat) : Int := zs.getD i 0

set_option maxHeartbeats 400000 in
theorem at_any (A : Option Addr) (n c : Nat) (zs : List Int) (i : Nat) (w : World) (h : IntsAt .u32 w A n zs) :
    Calls Try.prog 21 #[.slice A n c, .int .i64 i] w fun e w' => e = .returned (.int .u32 (atZ zs i)) ∧ w = w' := by
  have hl := h.1
  by_cases hi : i < n
  · have hd : decide (i < n) = true := by simpa using hi
    obtain ⟨b, off, rfl, _, hc⟩ := h.2 (by omega)
    obtain ⟨z, hz⟩ : ∃ z, zs[i]? = some z := ⟨_, List.getElem?_eq_getElem (by omega : i < zs.length)⟩
    have hcell := hc i z hz
    have e : atZ zs i = z := by unfold atZ; rw [List.getD_eq_getElem?_getD, hz]; rfl
    rw [e]
    clear hz
    clear e hc h hl
    go_enter Try.func21, Try.ntmps21
    go_wp2
    go_ret
    exact ⟨rfl, rfl⟩
  · have hd : decide (i < n) = false := by simpa using hi
    have e : atZ zs i = 0 := by unfold atZ; rw [List.getD_eq_getElem?_getD, List.getElem?_eq_none (by omega)]; rfl
    rw [e]
    clear e h hl
    go_enter Try.func21, Try.ntmps21
    go_wp2
    go_ret
    exact ⟨rfl, rfl⟩

/-- so many quiet slots -/
def Bk.quiet (s : Bk) : Nat → Bk
  | 0 => s
  | k + 1 => (s.quiet k).step false 0

theorem known_state : (beginB 9).quiet 3 = ⟨3, 0, 3, 0, 0⟩ := by kernel_rfl
theorem known_ended : endedB ⟨3, 0, 3, 0, 0⟩ = true := by decide +kernel

set_option maxRecDepth 100000 in
set_option maxHeartbeats 1000000 in
theorem known_any (w : World) : Calls Try.prog 18 #[] w fun e w' => e = .returned (.bool true) ∧ Ext w w' := by
  obtain ⟨t0, ht0⟩ : ∃ t, beginB 9 = t := ⟨_, rfl⟩
  go_enter Try.func18, Try.ntmps18
  go_wp2_with fail
  refine (begin_any 9 _ (by omega) (by omega)).mono ?_
  rintro e W ⟨rfl, hW⟩
  rw [ht0, bagg_eq]
  have H0 := Lib.hid ht0
  clear ht0
  go_wp2
  go_loopw [2] (fun i wr => ∃ (k : Nat) (t : Bk) (g : Grow), k ≤ 3 ∧ i = .int .i64 k ∧ Hid (t = t0.quiet k) ∧ wr = wplus (W.alloc (.cells #[.int .i64 t.st, .int .i64 t.bu, .int .i64 t.ex, .int .i64 t.cl, .int .i64 t.wt] 23)) g) (fun i _ => 3 - (intOf i).toNat)
  case atStart =>
    obtain ⟨g, hg⟩ := Ext.refl (W.alloc (.cells #[.int .i64 t0.st, .int .i64 t0.bu, .int .i64 t0.ex, .int .i64 t0.cl, .int .i64 t0.wt] 23))
    exact ⟨0, t0, g, by omega, rfl, rfl, hg⟩
  case round =>
    obtain ⟨k, t, g, hk, rfl, HT, rfl⟩ := hrel
    by_cases hlt : k < 3
    · obtain ⟨u, hu⟩ : ∃ u, t.step false 0 = u := ⟨_, rfl⟩
      have HU := Lib.hid hu
      clear hu
      go_wp2_with fail
      refine (step_any t false 0 _ (by omega) (by omega)).mono ?_
      rintro e w2 ⟨rfl, g2, rfl⟩
      rw [HU.out, bagg_eq]
      go_wp2
      go_roundw
      case rel => exact ⟨k + 1, u, g.and g2, by omega, by go_num, by show u = _; rw [← HU.out, HT.out]; rfl, rfl⟩
      case measure => simp [intOf]; omega
    · obtain rfl : k = 3 := by omega
      have e3 : t = ⟨3, 0, 3, 0, 0⟩ := by rw [HT.out, ← H0.out, known_state]
      subst e3
      go_wp2_with fail
      refine (ended_any ⟨3, 0, 3, 0, 0⟩ _).mono ?_
      rw [known_ended]
      rintro e w2 ⟨rfl, g2, rfl⟩
      go_wp2
      go_ret
      exact ⟨rfl, hW.trans ((Ext.alloc _ _).trans (Ext.plus _ _))⟩
end Go.Proofs.Ytohhaibbbnobpaa
