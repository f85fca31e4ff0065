/-
  Settings: what management and the reference compute.
-/
import Derived.Test.YtcjoflgnifafiaaQDer
import Derived.Test.YtcjoflgnifafiaaQPut
namespace Go.Proofs.Ytcjoflgnifafiaa
open Go.RowKit

def labS : List UInt8 := [115, 101, 116, 116, 105, 110, 103, 115]
noncomputable def tagS (k : List Int) (v : Int) (d : List Int) : List Int := leB (sumS (deriveS k labS (IntKind.wrap .u64 v)) (beB (IntKind.wrap .u64 v) 4 ++ d)) 8
theorem tagS_len (k : List Int) (v : Int) (d : List Int) : (tagS k v d).length = 8 := leB_len _ _
theorem tagS_ok (k : List Int) (v : Int) (d : List Int) : okB (tagS k v d) := leB_ok _ _
theorem cpA_full {m : Nat} {l l2 : List Int} (h : l2.length = m) : cpA m l l2 = l2 := by
  apply List.ext_getElem?
  intro i
  rcases Nat.lt_or_ge i m with hi | hi
  · unfold cpA
    rw [List.getElem?_map, List.getElem?_range hi]
    simp only [Option.map_some]
    rw [if_pos (by omega), List.getElem?_eq_getElem (by omega), getD_get (by omega)]
  · rw [List.getElem?_eq_none (by simp [cpA]; omega), List.getElem?_eq_none (by omega)]
theorem prog_mtag {k : List Int} (hk : k.length = 16) (ok : okB k) (v : Int) {d : List Int} (od : okB d) (hd : d.length ≤ 100000000000) : F_management_tag k v d = some (tagS k v d) := by
  unfold F_management_tag
  rw [show ([115, 101, 116, 116, 105, 110, 103, 115] : List UInt8) = labS from rfl, prog_derive hk ok labS (by decide), Option.bind_some]
  have a2 := octets_append [] (IntKind.wrap .u64 v) 4 (by omega) (by simp)
  rw [show ((4 : Nat) : Int) = 4 from rfl, List.nil_append] at a2
  rw [a2, Option.bind_some]
  simp only [Cut.app]
  rw [appO_some (by simp [beB_len]; omega) (by simp [beB_len]; omega), Option.bind_some]
  have a3 := prog_tag (deriveS_len k labS (IntKind.wrap .u64 v)) (deriveS_ok _ _ _) ((beB_ok (IntKind.wrap .u64 v) 4).append od) (by simp [beB_len]; omega) 8 (by omega) (by omega)
  rw [show ((8 : Nat) : Int) = 8 from rfl] at a3
  rw [a3, Option.bind_some, cpA_full (leB_len _ _)]
  rfl
theorem ref_mtag {k : List Int} (hk : k.length = 16) (ok : okB k) (v : Int) {d : List Int} (od : okB d) (hd : d.length ≤ 100000000000) : F_ref39_tag k v d = some (tagS k v d) := by
  unfold F_ref39_tag
  rw [show ([115, 101, 116, 116, 105, 110, 103, 115] : List UInt8) = labS from rfl, ref_derive hk ok labS (by decide), Option.bind_some]
  have a2 := put_n (IntKind.wrap .u64 v) 4 (by omega)
  rw [show ((4 : Nat) : Int) = 4 from rfl] at a2
  rw [a2, Option.bind_some]
  simp only [Cut.app]
  rw [appO_some (by simp [beB_len]; omega) (by simp [beB_len]; omega), Option.bind_some]
  have a3 := ref_tag (deriveS_len k labS (IntKind.wrap .u64 v)) (deriveS_ok _ _ _) ((beB_ok (IntKind.wrap .u64 v) 4).append od) (by simp [beB_len]; omega) 8 (by omega) (by omega)
  rw [show ((8 : Nat) : Int) = 8 from rfl] at a3
  rw [a3, Option.bind_some]
  have ht : leB (sumS (deriveS k labS (IntKind.wrap .u64 v)) (beB (IntKind.wrap .u64 v) 4 ++ d)) 8 = tagS k v d := rfl
  rw [ht]
  have hlen := tagS_len k v d
  generalize tagS k v d = t at *
  have hl := loop_run (step := F_ref39_tag_l1 (t, true)) (S := fun j => ((j : Int), t.take j ++ List.replicate (8 - j) 0)) 8 (r := t) (fun j hj => by
    unfold F_ref39_tag_l1
    dsimp only
    rw [decT (show (j : Int) < 8 by omega), decT (show (j : Int) < (t.length : Int) by omega), idx_lt (by omega), decT (show (0 : Int) ≤ (j : Int) ∧ (j : Int) < (8 : Int) by omega)]
    simp only [cond_true, Option.bind_some, Int.toNat_natCast]
    rw [wk j (by omega)]
    congr 3
    have hl8 : (t.take j).length = j := by rw [List.length_take]; omega
    obtain ⟨m, hm⟩ : ∃ m, 8 - j = m + 1 := ⟨8 - j - 1, by omega⟩
    have := setA_mid (P := t.take j) (v := t[j]) (m := m) (n := 8) (by omega)
    rw [hl8] at this
    rw [hm, this, take_snoc (List.getElem?_eq_getElem (by omega)), show 8 - (j + 1) = m by omega]) (by
    unfold F_ref39_tag_l1
    dsimp only
    rw [decF (show ¬ ((8 : Nat) : Int) < 8 by omega)]
    simp only [cond_false]
    rw [List.take_of_length_le (by omega), Nat.sub_self]
    simp)
  have h0 : loopO (F_ref39_tag_l1 (t, true)) (0, [0, 0, 0, 0, 0, 0, 0, 0]) = some t := hl
  rw [h0]
  rfl

/-! ### settings -/
structure wfS (s : S_Settings) : Prop where
  data : okB s.Data
  tag : okB s.Tag
  len : s.Tag.length = 8
  small : s.Data.length ≤ 100000000000
noncomputable def validS (s : S_Settings) : Bool := (F_ref39_Valid s).getD false
theorem ref_valid (s : S_Settings) : F_ref39_Valid s = some (validS s) := by
  unfold validS
  unfold F_ref39_Valid
  grind
theorem prog_valid (s : S_Settings) : F_management_Valid s = some (validS s) := by
  have h := ref_valid s
  rw [← h]
  unfold F_management_Valid F_ref39_Valid F_management_validNumber F_management_noTag
  grind
theorem valid_iff (s : S_Settings) : validS s = true → 0 ≤ s.Version ∧ s.Version ≤ 1073741824 ∧ s.Data.length ≤ 64 := by
  intro h
  have := ref_valid s
  rw [h] at this
  unfold F_ref39_Valid at this
  grind
noncomputable def checkS (k : List Int) (s : S_Settings) : Bool := validS s && (s.Version != 0) && arrEq 8 s.Tag (tagS k s.Version s.Data)
theorem ref_check {k : List Int} (hk : k.length = 16) (ok : okB k) {s : S_Settings} (h : wfS s) : F_ref39_Check k s = some (checkS k s) := by
  unfold F_ref39_Check checkS
  rw [ref_valid, Option.bind_some, ref_mtag hk ok s.Version h.data h.small]
  grind
theorem prog_check {k : List Int} (hk : k.length = 16) (ok : okB k) {s : S_Settings} (h : wfS s) : F_management_Check k s = some (checkS k s) := by
  unfold F_management_Check checkS
  rw [prog_valid, Option.bind_some, prog_mtag hk ok s.Version h.data h.small]
  grind
theorem copy_nil {d : List Int} (hd : d.length ≤ 100000000000) : appO 1 ([] : List Int) (Cut.app .whole d) = some d := by
  simp only [Cut.app]
  rw [appO_some (by simp; omega) (by simp; omega), List.nil_append]
def emptyS : S_Settings := ⟨0, [], [0, 0, 0, 0, 0, 0, 0, 0]⟩
noncomputable def signS (k : List Int) (v : Int) (d : List Int) : S_Settings × Int := if v < 1 ∨ v > 1073741824 then (emptyS, 2) else if d.length > 64 then (emptyS, 3) else (⟨v, d, tagS k v d⟩, 0)
theorem ref_sign {k : List Int} (hk : k.length = 16) (ok : okB k) (v : Int) {d : List Int} (od : okB d) (hd : d.length ≤ 100000000000) : F_ref39_Sign k v d = some (signS k v d) := by
  unfold F_ref39_Sign signS F_ref39_Copy
  rw [ref_mtag hk ok v od hd, Option.bind_some]
  simp only [copy_nil hd, Option.bind_some]
  unfold emptyS
  grind
theorem prog_sign {k : List Int} (hk : k.length = 16) (ok : okB k) (v : Int) {d : List Int} (od : okB d) (hd : d.length ≤ 100000000000) : F_management_Sign k v d = some (signS k v d) := by
  unfold F_management_Sign signS
  rw [prog_mtag hk ok v od hd]
  simp only [copy_nil hd, Option.bind_some]
  unfold emptyS
  grind
noncomputable def takeS (own : S_Settings) (k : List Int) (s : S_Settings) : S_Settings × Int := if validS own = false ∨ validS s = false then (emptyS, 1) else if s.Version ≤ own.Version then (emptyS, 16) else if checkS k s then (s, 0) else (emptyS, 12)
theorem ref_take (own : S_Settings) {k : List Int} (hk : k.length = 16) (ok : okB k) {s : S_Settings} (h : wfS s) : F_ref39_Take own k s = some (takeS own k s) := by
  obtain ⟨v, d, g⟩ := s
  unfold F_ref39_Take takeS F_ref39_Copy
  rw [ref_valid, ref_valid, ref_check hk ok h]
  simp only [copy_nil h.small, Option.bind_some]
  unfold emptyS
  grind
theorem prog_take (own : S_Settings) {k : List Int} (hk : k.length = 16) (ok : okB k) {s : S_Settings} (h : wfS s) : F_management_Take own k s = some (takeS own k s) := by
  obtain ⟨v, d, g⟩ := s
  unfold F_management_Take takeS
  rw [prog_valid, prog_valid, prog_check hk ok h]
  simp only [copy_nil h.small, Option.bind_some]
  unfold emptyS
  grind
end Go.Proofs.Ytcjoflgnifafiaa
