/-
  StoringFills: there are at most MaxDowns routes. Proved for all numbers.
-/
import Derived.Test.YtonlajdaaljncaaPW
import Derived.Test.YtonlajdaaljncaaPM
import Derived.Test.YtonlajdaaljncaaStEq
import Derived.Test.YtonlajdaaljncaaLwStoringFills
namespace Go.Proofs.Ytonlajdaaljncaa
open Go.RowKit

def fillD (i : Nat) : S_Down := ⟨tgt (2 * (i : Int)), 2, 5, 10⟩
def fillL (n : Nat) : List S_Down := (List.range n).map fillD
theorem cmp_tgt (a b : Int) : cmpP (tgt a) (tgt b) = if IntKind.wrap .u8 a < IntKind.wrap .u8 b then -1 else if IntKind.wrap .u8 b < IntKind.wrap .u8 a then 1 else 0 := by
  simp only [cmpP, keyP, tgt, List.cons_append, List.nil_append, lexC]
  simp
theorem fill_good : GoodD (fillL 128) := by
  refine ⟨⟨by simp [fillL], ?_, ?_⟩, ?_⟩
  · intro d hd
    obtain ⟨i, _, rfl⟩ := List.mem_map.1 hd
    unfold okD fillD
    dsimp only
    rw [tgt_vp]
    rfl
  · unfold fillL
    rw [List.pairwise_map]
    refine List.Pairwise.imp_of_mem (R := fun a b => a < b) ?_ List.pairwise_lt_range
    intro a b ha hb hab
    have ha' := List.mem_range.1 ha
    have hb' := List.mem_range.1 hb
    unfold ltD fillD
    dsimp only
    rw [cmp_tgt, wu8 (by omega) (by omega), wu8 (by omega) (by omega), if_pos (by omega)]
    omega
  · intro d hd
    obtain ⟨i, _, rfl⟩ := List.mem_map.1 hd
    exact ⟨tgt_wf _, by simp [fillD], by simp [fillD]⟩
theorem fill_loop : loopO F_law33_StoringFills_l1 (([] : List S_Down), 0) = some (fillL 128) := by
  have := loop_run (step := F_law33_StoringFills_l1) (S := fun k => (fillL k, (k : Int))) 128 (r := fillL 128) (by
    intro k hk
    unfold F_law33_StoringFills_l1
    dsimp only
    rw [decT (by omega), wi (x := 2 * (k : Int)) (by omega) (by omega), target_eq, wk k (by omega)]
    simp only [cond_true, Option.bind_some]
    rw [appO_some (by simp [Cut.app, fillL]; omega) (by simp [Cut.app, fillL]; omega)]
    simp only [Option.bind_some]
    congr 3
    unfold fillL
    rw [List.range_succ, List.map_append]
    rfl) (by
    unfold F_law33_StoringFills_l1
    rw [decF (by dsimp only; omega)]
    rfl)
  exact this
theorem fills_true (n : Int) : F_law33_StoringFills n = some true := by
  unfold F_law33_StoringFills
  obtain ⟨v, ev, v0, v1⟩ := mod_spec n 128 (by omega) (by omega)
  rw [fill_loop, ev]
  simp only [Option.bind_some]
  rw [wi (x := 2 * v) (by omega) (by omega), wi (x := 2 * v + 1) (by omega) (by omega)]
  simp only [target_eq, Option.bind_some]
  have hvr : ∀ k s life, isT life = true → vrB (S_Register.mk (tgt k) s life) = true := by
    intro k s life h
    unfold vrB
    dsimp only
    rw [tgt_vp, h]
    rfl
  have hodd : ∀ x ∈ fillL 128, x.Target ≠ tgt (2 * v + 1) := by
    intro x hx he
    obtain ⟨i, hi, rfl⟩ := List.mem_map.1 hx
    have hi' := List.mem_range.1 hi
    have hc := cmpP_zero.2 he
    unfold fillD at hc
    dsimp only at hc
    rw [cmp_tgt, wu8 (by omega) (by omega), wu8 (by omega) (by omega)] at hc
    split at hc
    · cases hc
    · split at hc
      · cases hc
      · omega
  have hlen : (fillL 128).length = 128 := by simp [fillL]
  rcases part_spec fill_good.v (tgt (2 * v + 1)) with ⟨A, x, B, he, hA, hx, hB⟩ | ⟨A, B, he, hA, hB⟩
  · exact absurd hx (hodd x (by rw [he]; simp))
  · have hg := fill_good
    rw [he] at hg hlen
    have e1 := st_acceptN (now := 1) (via := 3) (r := S_Register.mk (tgt (2 * v + 1)) 5 4) hg.v hg.w (tgt_wf _) (hvr _ _ _ rfl) (by omega) rfl hA hB
    have e3 := st_acceptN (now := 1) (via := 3) (r := S_Register.mk (tgt (2 * v + 1)) 5 0) hg.v hg.w (tgt_wf _) (hvr _ _ _ rfl) (by omega) rfl hA hB
    have a1 : accN A B 1 3 (S_Register.mk (tgt (2 * v + 1)) 5 4) = ([], false, 10) := by
      unfold accN
      rw [decT (show (A ++ B).length ≥ 128 by omega)]
      rfl
    have a3 : accN A B 1 3 (S_Register.mk (tgt (2 * v + 1)) 5 0) = (A ++ B, false, 0) := rfl
    rw [a1, ← he] at e1
    rw [a3, ← he] at e3
    rw [e1, e3]
    simp only [Option.bind_some]
    clear hA hB hlen hg e1 e3 a1 a3 he
    rcases part_spec fill_good.v (tgt (2 * v)) with ⟨A, x, B, he, hA, hx, hB⟩ | ⟨A, B, he, hA, hB⟩
    · have hg := fill_good
      rw [he] at hg
      have e2 := st_acceptT (now := 1) (via := 3) (r := S_Register.mk (tgt (2 * v)) 6 4) hg.v hg.w (tgt_wf _) (hvr _ _ _ rfl) (by omega) rfl hA hx
      have hxs : x.Sequence = 5 ∧ x.Until = 10 ∧ x.Via = 2 := by
        have : x ∈ fillL 128 := by rw [he]; simp
        obtain ⟨i, _, rfl⟩ := List.mem_map.1 this
        exact ⟨rfl, rfl, rfl⟩
      have a2 : (accT A x B 1 3 (S_Register.mk (tgt (2 * v)) 6 4)).2.2 = 0 := by
        unfold accT stale
        rw [hxs.1, hxs.2.1, hxs.2.2]
        rfl
      rw [← he] at e2
      rw [e2]
      simp only [Option.bind_some]
      rw [a2, eqD_self fill_good.w (by simp [fillL]), known_eq]
      rfl
    · exfalso
      have hm : fillD v.toNat ∈ fillL 128 := List.mem_map.2 ⟨v.toNat, List.mem_range.2 (by omega), rfl⟩
      have ht : (fillD v.toNat).Target = tgt (2 * v) := by
        unfold fillD
        dsimp only
        congr 1
        omega
      rw [he] at hm
      rcases List.mem_append.1 hm with h | h
      · have := hA _ h
        rw [ht, cmpP_zero.2 rfl] at this
        omega
      · have := hB _ h
        rw [ht, cmpP_zero.2 rfl] at this
        omega
theorem storingFills_holds : Rows.StoringFillsSaid := storingFills_of fun a0 _ => fills_true a0
#print axioms storingFills_holds
end Go.Proofs.Ytonlajdaaljncaa
