/-
  The arguments of a law, as shadows.
-/
import Derived.Test.YtohhaibbbnobpaaFrame
import Derived.Test.YtohhaibbbnobpaaSh10
namespace Go.Proofs.Ytohhaibbbnobpaa
open Go.ChangeShapes Go.WideShapes Go.ChangeAt Go.RowKit

/-- the reader that sees all -/
def rdAll (w : World) : Rd := fun b o => w.cell? ⟨b, o, none⟩
def env0 : Env := ⟨fun _ => (0, 0), fun _ => .slice none 0 0⟩

theorem open_intsS {H : Type} {enc : TypeId × Value → H} {P : Program} {W : World} {t e : TypeId} {k : IntKind} {by_ : Nat} {v : Value} {d : DataW H} {p : List MemPlace} {r : Reach} {b0 : Nat} (ht : P.underlying t = some (.slice e)) (he : P.underlying e = some (.int k)) (hc : P.cellsOf e = 1) (hby : P.bytesOf e = by_) (hb1 : 1 ≤ by_)
    (hv : Value.okWide P W r b0 t v) (h : DataW.Trod enc P W 0 (fun _ => true) true t v d p) {ts : List TypeId} {ds : List (DataW H)} (hsz : (DataW.weightsEach P ts ds).all (· ≤ reachBytes) = true) {j : Nat} (hj : ts[j]? = some t) (hd : ds[j]? = some d) :
    ∃ zs : List Int, VRel (rdAll W) env0 v (.c (.slc 1 0 (List.map (ecI k) zs))) ∧ (∀ z ∈ zs, (Lit.int k z).wf = true) ∧ zs.length * by_ ≤ 140737488351232 := by
  obtain ⟨a0, len, cap, rfl⟩ := okWide_slice ht hv
  obtain ⟨fuel, hf⟩ := h
  rcases open_ints ht he hc hf with ⟨hcs, _⟩ | ⟨x, l, c, zs, hcs, _, hl, hm, hz, hx, hcell, hwz⟩
  · simp only [Value.cells, List.cons.injEq, Value.slice.injEq, and_true] at hcs
    obtain ⟨rfl, rfl, rfl⟩ := hcs
    exact ⟨[], ⟨.nil 1 none 0 (by decide), trivial⟩, (fun z hz => absurd hz (by simp)), by simp⟩
  · simp only [Value.cells, List.cons.injEq, Value.slice.injEq, and_true] at hcs
    obtain ⟨rfl, rfl, rfl⟩ := hcs
    simp only [if_true] at hz
    injection hx with hx1 hx2
    subst hx1
    have hw := sized_slice hsz hj hd ht
    rw [hby] at hw
    simp only [lits, List.length_map, List.length_take, List.length_drop, reachBytes] at hw
    have hcap : min len zs.length + (zs.length - len) = cap := by omega
    rw [hcap] at hw
    have hcm : cap ≤ maxLen := by
      have h1 := Nat.le_mul_of_pos_right cap (show 0 < by_ by omega)
      unfold maxLen
      omega
    refine ⟨zs.take len, ⟨?_, trivial⟩, fun z hz' => hwz z (List.mem_of_mem_take hz'), ?_⟩
    · by_cases hp : len = 0
      · subst hp
        exact .nil 1 _ cap hcm
      · have h0 := hcell 0 (by omega)
        obtain ⟨b, off, spot⟩ := x
        have hspot : spot = none := by simpa [Addr.add] using World.cell?_spot h0
        subst hspot
        refine .slc b off len cap 1 _ (fun i _ => .int k (zs.getD i 0)) (by simp; omega) hl hcm ?_ ?_ ?_
        · intro x hx
          obtain ⟨z, _, rfl⟩ := List.mem_map.1 hx
          rfl
        · intro i x j y hx hy
          rw [List.getElem?_map, List.getElem?_take] at hx
          split at hx
          · rename_i hi
            cases hzi : zs[i]? with
            | none => rw [hzi] at hx; cases hx
            | some z =>
              rw [hzi] at hx
              cases hx
              have hj0 : j = 0 := by
                rcases j with _ | j
                · rfl
                · simp [ecI] at hy
              subst hj0
              have h1 := hcell i (by omega)
              rw [Addr.add_mid] at h1
              simp only [rdAll, Nat.mul_one, Nat.add_zero]
              exact h1
          · cases hx
        · intro i x j y hx hy
          rw [List.getElem?_map, List.getElem?_take] at hx
          split at hx
          · cases hzi : zs[i]? with
            | none => rw [hzi] at hx; cases hx
            | some z =>
              rw [hzi] at hx
              cases hx
              have hj0 : j = 0 := by
                rcases j with _ | j
                · rfl
                · simp [ecI] at hy
              subst hj0
              simp only [ecI, List.getElem?_cons_zero, Option.some.injEq] at hy
              subst hy
              have : zs.getD i 0 = z := by simp [List.getD, hzi]
              rw [this]
              exact .lit _
          · cases hx
    · refine Nat.le_trans (Nat.mul_le_mul_right _ ?_) hw
      simp; omega
theorem vrel_lit (rd : Rd) (g : Env) (v : Value) : VRel rd g v (.c (.lit v)) := IRel.lit v

/-- a law that is true -/
theorem pure_true {P : Program} {f : FuncId} {args : List SV} (h : Pure P f args (.c (.lit (.bool true)))) {W : World} {us : Array Value} (hs : us.size = args.length) (ha : ∀ (i : Nat) (x : SV), args[i]? = some x → ∃ u, us[i]? = some u ∧ VRel (rdAll W) env0 u x) :
    Calls P f us W fun e w' => e = .returned (.bool true) ∧ Ext W w' := by
  refine (h (rdAll W) env0 W us (fun b o v hv => hv) hs ha).mono ?_
  rintro e w' ⟨u, rfl, hE, hu⟩
  refine ⟨?_, hE⟩
  have := hu (rdAll w') (by
    intro b o v hv
    obtain ⟨g, rfl⟩ := hE
    have hb := World.block_lt_of_cell? _ _ hv
    unfold rdAll
    rw [cell_plus _ _ _ _ _ hb]
    exact hv) (fun b o u _ hc => hc)
  cases this
  rfl
theorem args1 {rd : Rd} {g : Env} {u0 : Value} {x0 : SV} (h0 : VRel rd g u0 x0) : ∀ (i : Nat) (x : SV), [x0][i]? = some x → ∃ u, (#[u0] : Array Value)[i]? = some u ∧ VRel rd g u x := by
  intro i x hx
  rcases i with _ | i
  · cases hx; exact ⟨_, rfl, h0⟩
  · simp at hx
theorem args2 {rd : Rd} {g : Env} {u0 u1 : Value} {x0 x1 : SV} (h0 : VRel rd g u0 x0) (h1 : VRel rd g u1 x1) : ∀ (i : Nat) (x : SV), [x0, x1][i]? = some x → ∃ u, (#[u0, u1] : Array Value)[i]? = some u ∧ VRel rd g u x := by
  intro i x hx
  rcases i with _ | _ | i
  · cases hx; exact ⟨_, rfl, h0⟩
  · cases hx; exact ⟨_, rfl, h1⟩
  · simp at hx
end Go.Proofs.Ytohhaibbbnobpaa
