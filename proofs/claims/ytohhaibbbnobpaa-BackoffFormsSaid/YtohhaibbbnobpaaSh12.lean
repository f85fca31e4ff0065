/-
  SHADOWS: parts of slices; slices written out; append to a slice behind which there is no room.
-/
import Derived.Test.YtohhaibbbnobpaaSh11
import Derived.Laws.Append
namespace Go.Proofs.Ytohhaibbbnobpaa
open Go.RowKit

/-! ### l[lo:hi] -/
def boundI (d : Int) : Option SV → Option Int
  | none => some d
  | some (.c (.lit (.int _ n))) => some n
  | _ => none
theorem run_bound {P : Program} {w : World} (k : IntKind) (n : Int) (y : Nat) (c : BoundsCode) (h0 : 0 ≤ n) (h1 : n ≤ y) : (Instr.sliceBound (.int k n) y c).run P w = .ok n.toNat w := by
  simp [Instr.sliceBound, asIntOf, h0, h1]
theorem grow_slice {α : Type} {P : Program} {o : Oper} {s : St} {t e : TypeId} {x : Operand} {lo hi : Option Operand} {f : α → List SC} (sz tag : Nat) (l : List α) (vlo vhi : Option (IntKind × Int)) (a b : Int) (ho : o.op = .slice t x lo hi none) (hx : opd s x = some (.c (.slc sz tag (l.map f))))
    (hlo : lo.map (opd s) = vlo.map fun p => some (int p.1 p.2)) (hhi : hi.map (opd s) = vhi.map fun p => some (int p.1 p.2)) (ha : a = (vlo.map (·.2)).getD 0) (hb : b = (vhi.map (·.2)).getD (l.length : Int))
    (hu : P.underlying t = some (.slice e)) (hsz : (P.info? e).map (·.size) = some sz) (h0 : 0 ≤ a) (h1 : a ≤ b) (h2 : b ≤ l.length) : GrowOp P o s (.c (.slc sz 0 (((l.take b.toNat).drop a.toNat).map f))) := by
  refine PureOp.grow fun g rd A w hview => ?_
  have hv := hview.op x _ (by simp [ho, Op.operands]) hx
  simp only [VRel, CRel] at hv
  obtain ⟨i, hi', hsize⟩ := Option.map_eq_some_iff.1 hsz
  have key : ∀ (len cap : Nat), len = l.length → len ≤ cap → (Instr.sliceBounds true len cap (lo.map A.eval) (hi.map A.eval) (none : Option Value)).run P w = .ok (a.toNat, b.toNat, cap) w := by
    intro len cap hlen hcap
    have hb' : (match hi.map A.eval with | some v => Instr.sliceBound v cap .sliceAcap | none => pure len : Sem Nat).run P w = .ok b.toNat w := by
      cases hi with
      | none =>
        cases vhi with
        | none => simp at hb; subst hb; simp [hlen]
        | some p => simp at hhi
      | some y =>
        cases vhi with
        | none => simp at hhi
        | some p =>
          simp only [Option.map_some, Option.some.injEq, Option.getD_some] at hhi hb
          have := rel_lit (hview.op y _ (by simp [ho, Op.operands]) hhi)
          simp only [Option.map_some, this]
          rw [← hb]
          exact run_bound _ _ _ _ (by omega) (by omega)
    have ha' : (match lo.map A.eval with | some v => Instr.sliceBound v b.toNat .sliceB | none => pure 0 : Sem Nat).run P w = .ok a.toNat w := by
      cases lo with
      | none =>
        cases vlo with
        | none => simp at ha; subst ha; simp
        | some p => simp at hlo
      | some y =>
        cases vlo with
        | none => simp at hlo
        | some p =>
          simp only [Option.map_some, Option.some.injEq, Option.getD_some] at hlo ha
          have := rel_lit (hview.op y _ (by simp [ho, Op.operands]) hlo)
          simp only [Option.map_some, this]
          rw [← ha]
          exact run_bound _ _ _ _ (by omega) (by omega)
    unfold Instr.sliceBounds
    cases hi with
    | none =>
      cases lo with
      | none => simp at ha' hb' ⊢; exact ⟨ha', hb'⟩
      | some y => simp only [Option.map_none, Option.map_some, Sem.run_bind, Sem.run_pure, Result.andThen_ok, Option.isSome_none, Bool.false_eq_true, if_false] at ha' hb' ⊢; cases hb'; rw [ha']; simp
    | some z =>
      cases lo with
      | none => simp only [Option.map_none, Option.map_some, Sem.run_bind, Sem.run_pure, Result.andThen_ok, Option.isSome_none, Bool.false_eq_true, if_false, if_true] at ha' hb' ⊢; rw [hb']; simp at ha' ⊢; exact ha'
      | some y => simp only [Option.map_none, Option.map_some, Sem.run_bind, Sem.run_pure, Result.andThen_ok, Option.isSome_none, Bool.false_eq_true, if_false, if_true] at ha' hb' ⊢; rw [hb']; simp only [Result.andThen_ok]; rw [ha']; simp
  generalize hev : A.eval x = v at *
  obtain ⟨hv, _⟩ := hv
  generalize hxs : l.map f = xs at hv
  cases hv with
  | nil _ a0 c0 hm =>
    have hl0 : l = [] := by simpa using hxs
    subst hl0
    have hb0 : b.toNat = 0 := by simp at h2; omega
    have ha0 : a.toNat = 0 := by simp at h2; omega
    have hk := key 0 c0 rfl (Nat.zero_le _)
    refine ⟨_, by simp only [execOp, ho, Option.map_none, Instr.sliceAt, Instr.slice, run_underlying hu, hev, hk, sizeOf, typeInfo, program, hi', Sem.run_bind, Sem.run_pure, Sem.run, Result.andThen_ok]; rfl, ?_⟩
    rw [ha0, hb0]
    simp only [VRel, CRel, List.take_nil, List.drop_nil, List.map_nil]
    exact ⟨.nil _ _ _ (by omega), trivial⟩
  | slc bb oo n c s' xs' u hn hc hm hs hr hu' =>
    have hln : n = l.length := by rw [← hn, ← hxs]; simp
    have hk := key n c hln hc
    refine ⟨_, by simp only [execOp, ho, Option.map_none, Instr.sliceAt, Instr.slice, run_underlying hu, hev, hk, sizeOf, typeInfo, program, hi', Sem.run_bind, Sem.run_pure, Sem.run, Result.andThen_ok]; rfl, ?_⟩
    simp only [VRel, CRel]
    refine ⟨?_, trivial⟩
    by_cases hcl : c = a.toNat
    · rw [if_pos hcl]
      have hbl : b.toNat = a.toNat := by omega
      have : (l.take b.toNat).drop a.toNat = [] := by rw [hbl]; simp
      rw [this, hbl, Nat.sub_self]
      exact .nil _ _ _ (by omega)
    · rw [if_neg hcl]
      simp only [Option.map_some, addr_add, hsize]
      have hlen : ((l.take b.toNat).drop a.toNat).length = b.toNat - a.toNat := by simp; omega
      have get : ∀ (i : Nat) (z : List SC), (((l.take b.toNat).drop a.toNat).map f)[i]? = some z → xs[a.toNat + i]? = some z := by
        intro i z hz
        rw [← hxs, List.getElem?_map]
        rw [List.getElem?_map, List.getElem?_drop, List.getElem?_take] at hz
        split at hz
        · exact hz
        · cases hz
      refine .slc bb (oo + a.toNat * sz) (b.toNat - a.toNat) (c - a.toNat) sz _ (fun i j => u (a.toNat + i) j) (by simp only [List.length_map]; exact hlen) (by omega) (by omega) ?_ ?_ ?_
      · intro z hz
        obtain ⟨i, hi2⟩ := List.getElem?_of_mem hz
        exact hs z (List.mem_of_getElem? (get i z hi2))
      · intro i z j y hz hy
        have := hr _ _ _ _ (get i z hz) hy
        rw [show oo + a.toNat * sz + i * sz + j = oo + (a.toNat + i) * sz + j by rw [Nat.add_mul]; omega]
        exact this
      · intro i z j y hz hy
        exact hu' _ _ _ _ (get i z hz) hy

/-! ### the cells of a row -/
/-- the cells of a slice's elements, one behind the other, as they lie in memory -/
theorem row_cells {rd : Rd} {w : World} (hrd : ∀ b o v, rd b o = some v → w.cell? ⟨b, o, none⟩ = some v) {b o n c s : Nat} {xs : List (List SC)} (h : IRel rd (.slice (some ⟨b, o, none⟩) n c) (.slc s 0 xs)) :
    ∃ news : List Value, news.length = n * s ∧ (∀ j v, news[j]? = some v → w.cell? ((⟨b, o, none⟩ : Addr).add j) = some v) ∧ xs.length = n ∧ (∀ x ∈ xs, x.length = s) ∧
      ∀ i x j y, xs[i]? = some x → x[j]? = some y → ∃ u, news[i * s + j]? = some u ∧ IRel rd u y := by
  cases h with
  | nil =>
    exact ⟨[], by simp, by simp, rfl, by simp, by simp⟩
  | slc _ _ _ _ _ _ u hn hc hm hs hr hu =>
    refine ⟨(List.range (n * s)).map fun j => u (j / s) (j % s), by simp, ?_, hn, hs, ?_⟩
    · intro j v hv
      obtain ⟨k, hk, rfl⟩ := Option.map_eq_some_iff.1 ((List.getElem?_map ..).symm.trans hv)
      obtain ⟨hj, rfl⟩ := List.getElem?_eq_some_iff.1 hk
      simp only [List.length_range] at hj
      simp only [List.getElem_range]
      have hs0 : 0 < s := Nat.pos_of_ne_zero (fun h => by subst h; simp at hj)
      have h1 : j / s < n := Nat.div_lt_of_lt_mul (by rw [Nat.mul_comm]; exact hj)
      have h2 := Nat.mod_lt j hs0
      have hx := List.getElem?_eq_getElem (l := xs) (by omega : j / s < xs.length)
      have hl := hs _ (List.getElem_mem (by omega : j / s < xs.length))
      have := hr _ _ (j % s) _ hx (List.getElem?_eq_getElem (by omega))
      rw [show o + j / s * s + j % s = o + j by have := Nat.div_add_mod j s; rw [Nat.mul_comm] at this; omega] at this
      rw [addr_add]
      exact hrd _ _ _ this
    · intro i x j y hx hy
      have hi := (List.getElem?_eq_some_iff.1 hx).1
      have hl := hs x (List.mem_of_getElem? hx)
      have hj := (List.getElem?_eq_some_iff.1 hy).1
      have hlt : i * s + j < n * s := by
        have : (i + 1) * s ≤ n * s := Nat.mul_le_mul_right _ (by omega)
        rw [Nat.add_mul] at this
        omega
      refine ⟨u i j, ?_, hu _ _ _ _ hx hy⟩
      rw [List.getElem?_map, List.getElem?_eq_getElem (by simpa using hlt)]
      simp only [List.getElem_range, Option.map_some]
      have e1 : (i * s + j) / s = i := by rw [Nat.mul_comm, Nat.mul_add_div (by omega), Nat.div_eq_of_lt (by omega)]; omega
      have e2 : (i * s + j) % s = j := by rw [Nat.mul_comm, Nat.mul_add_mod, Nat.mod_eq_of_lt (by omega)]
      rw [e1, e2]
end Go.Proofs.Ytohhaibbbnobpaa
