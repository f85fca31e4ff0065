/-
  An argument that is a slice of integers.
-/
import Derived.Test.YtohhaibbbnobpaaFrame
import Derived.Test.YtohhaibbbnobpaaBkKnown
namespace Go.Proofs.Ytohhaibbbnobpaa
open Go.ChangeShapes Go.WideShapes Go.ChangeAt Go.RowKit

theorem open_intsl {H : Type} {enc : TypeId × Value → H} {P : Program} {W : World} {t e : TypeId} {k : IntKind} {by_ : Nat} {v : Value} {d : DataW H} {p : List MemPlace} {r : Reach} {b0 : Nat} (ht : P.underlying t = some (.slice e)) (he : P.underlying e = some (.int k)) (hc : P.cellsOf e = 1) (hby : P.bytesOf e = by_)
    (hv : Value.okWide P W r b0 t v) (h : DataW.Trod enc P W 0 (fun _ => true) true t v d p) {ts : List TypeId} {ds : List (DataW H)} (hsz : (DataW.weightsEach P ts ds).all (· ≤ reachBytes) = true) {j : Nat} (hj : ts[j]? = some t) (hd : ds[j]? = some d) :
    ∃ A n c zs, v = .slice A n c ∧ IntsAt k W A n zs ∧ (∀ z ∈ zs, (Lit.int k z).wf = true) ∧ n ≤ c ∧ c * by_ ≤ 140737488351232 := by
  obtain ⟨a0, len, cap, rfl⟩ := okWide_slice ht hv
  obtain ⟨fuel, hf⟩ := h
  rcases open_ints ht he hc hf with ⟨hcs, _⟩ | ⟨x, l, c, zs, hcs, _, hl, hm, hz, hx, hcell, hwz⟩
  · simp only [Value.cells, List.cons.injEq, Value.slice.injEq, and_true] at hcs
    obtain ⟨rfl, rfl, rfl⟩ := hcs
    exact ⟨none, 0, 0, [], rfl, ⟨rfl, fun h => absurd h (by omega)⟩, (fun z hz => absurd hz (by simp)), Nat.le_refl _, by omega⟩
  · simp only [Value.cells, List.cons.injEq, Value.slice.injEq, and_true] at hcs
    obtain ⟨rfl, rfl, rfl⟩ := hcs
    simp only [if_true] at hz
    injection hx with hx1 hx2
    subst hx1
    have hw := sized_slice hsz hj hd ht
    rw [hby] at hw
    simp only [lits, List.length_map, List.length_take, List.length_drop, reachBytes] at hw
    have hcap : min len zs.length + (zs.length - len) = cap := by omega
    rw [hcap] at hw
    refine ⟨some x, len, cap, zs.take len, rfl, ⟨by simp; omega, fun hp => ?_⟩, fun z hz' => hwz z (List.mem_of_mem_take hz'), hl, hw⟩
    have h0 := hcell 0 (by omega)
    obtain ⟨b, off, spot⟩ := x
    have hspot : spot = none := by simpa [Addr.add] using World.cell?_spot h0
    subst hspot
    refine ⟨b, off, rfl, ?_, fun i y hy => ?_⟩
    · have := World.block_lt_of_cell? _ _ h0; simpa [Addr.add] using this
    · rw [List.getElem?_take] at hy
      split at hy
      · rename_i hi
        have h1 := hcell i (by omega)
        rw [Addr.add_mid] at h1
        rw [h1]
        simp [List.getD, hy]
      · cases hy
theorem at_u32 {zs : List Int} (h : ∀ z ∈ zs, (Lit.int .u32 z).wf = true) (i : Nat) : 0 ≤ atZ zs i ∧ atZ zs i ≤ 4294967295 := by
  unfold atZ
  rw [List.getD_eq_getElem?_getD]
  cases hz : zs[i]? with
  | none => simp
  | some z =>
    obtain ⟨hi, rfl⟩ := List.getElem?_eq_some_iff.1 hz
    exact u32_bd (h _ (List.getElem_mem hi))
end Go.Proofs.Ytohhaibbbnobpaa
