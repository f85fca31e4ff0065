/-
  storing.Accept and its reference: what they return for a list that is parted by the target.
-/
import Derived.Test.YtonlajdaaljncaaPS1
namespace Go.Proofs.Ytonlajdaaljncaa
open Go.RowKit

noncomputable def newB (a b : Int) : Bool := (F_ref21_Newer a b).getD false
theorem ref_newer (a b : Int) : F_ref21_Newer a b = some (newB a b) := by
  unfold newB F_ref21_Newer
  simp only [Bool.cond_eq_ite]
  repeat' split
  all_goals rfl
theorem reg_newer (a b : Int) : F_registration_Newer a b = some (newB a b) := by
  rw [← ref_newer]
  unfold F_ref21_Newer F_registration_Newer
  rfl
def wfR (r : S_Register) : Prop := wfP r.Target ∧ 0 ≤ r.Sequence ∧ r.Sequence ≤ 255
def vrB (r : S_Register) : Bool := vpB r.Target && isT r.Lifetime
theorem st_validReg {r : S_Register} (h : wfP r.Target) : F_storing_ValidRegister r = some (vrB r) := by
  unfold F_storing_ValidRegister vrB
  rw [addr_vp h, st_isTime]
  cases vpB r.Target <;> rfl
theorem rf_validReg {r : S_Register} : F_ref33_ValidRegister r = some (vrB r) := by
  unfold F_ref33_ValidRegister vrB
  rw [ref_vp, ref_isTime]
  cases vpB r.Target <;> rfl
def upto (now life : Int) : Int := if 1099511627776 < now + life then 1099511627776 else now + life
theorem upto_wrap {now life : Int} (h1 : isT now = true) (h2 : isT life = true) : (if 1099511627776 < IntKind.wrap .i64 (now + life) then 1099511627776 else IntKind.wrap .i64 (now + life)) = upto now life := by
  rw [isT_iff] at h1 h2
  rw [wi (by omega) (by omega)]
  rfl
def newD (now via : Int) (r : S_Register) : S_Down := ⟨r.Target, via, r.Sequence, upto now r.Lifetime⟩
/-- a registration that is refused by the route that is there -/
noncomputable def stale (x : S_Down) (via : Int) (r : S_Register) : Bool := newB x.Sequence r.Sequence || ((x.Sequence == r.Sequence) && (x.Via != via))
noncomputable def accT (A : List S_Down) (x : S_Down) (B : List S_Down) (now via : Int) (r : S_Register) : List S_Down × Bool × Int :=
  bif decide (x.Until > now) && stale x via r then ([], false, 16)
  else bif r.Lifetime == 0 then (bif decide (x.Until > now) then (A ++ B, true, 0) else (A ++ x :: B, false, 0))
  else bif decide (x.Until > now) && (x.Via == via) && (x.Sequence == r.Sequence) && decide (x.Until ≥ upto now r.Lifetime) then (A ++ x :: B, false, 0)
  else (A ++ newD now via r :: B, true, 0)
def accN (A B : List S_Down) (now via : Int) (r : S_Register) : List S_Down × Bool × Int :=
  bif r.Lifetime == 0 then (A ++ B, false, 0)
  else bif decide ((A ++ B).length ≥ 128) then ([], false, 10)
  else (A ++ newD now via r :: B, true, 0)

theorem find_eq {l : List S_Down} {t : S_Prefix} (h : ∀ d ∈ l, wfD d) (ht : wfP t) (hlen : l.length ≤ 128) (n : Nat) (hn : n ≤ l.length) (h1 : ∀ k (hk : k < n), cmpP (l[k]'(by omega)).Target t < 0) (b : Bool) (h2 : (n = l.length ∧ b = false) ∨ ∃ hn' : n < l.length, cmpP (l[n]'hn').Target t ≥ 0 ∧ b = (cmpP (l[n]'hn').Target t == 0)) :
    F_storing_find l t = some ((n : Int), b) := by
  unfold F_storing_find
  have e := loop_to (step := F_storing_find_l1 l t) (S := fun k => (k : Int)) n (by
    intro k hk
    unfold F_storing_find_l1
    rw [decT (by omega), idx_lt (show k < l.length by omega)]
    simp only [cond_true, Option.bind_some]
    rw [st_compare (h _ (List.getElem_mem _)).1 ht]
    simp only [Option.bind_some]
    have := h1 k hk
    rw [decF (by omega), wk k (by omega)]
    rfl)
  rw [show ((0 : Nat) : Int) = 0 from rfl] at e
  rw [e]
  rcases h2 with ⟨rfl, rfl⟩ | ⟨hn', h3, rfl⟩
  · have e2 : F_storing_find_l1 l t ((l.length : Nat) : Int) = some (Sum.inr (Sum.inl ())) := by
      unfold F_storing_find_l1
      rw [decF (by omega)]
      rfl
    rw [loop_done e2]
    rfl
  · have e2 : F_storing_find_l1 l t (n : Int) = some (Sum.inr (Sum.inr ((n : Int), cmpP (l[n]'hn').Target t == 0))) := by
      unfold F_storing_find_l1
      rw [decT (by omega), idx_lt hn']
      simp only [cond_true, Option.bind_some]
      rw [st_compare (h _ (List.getElem_mem _)).1 ht]
      simp only [Option.bind_some]
      rw [decT h3]
      rfl
    rw [loop_done e2]
    rfl
theorem cut_rest {α : Type} (A : List α) (x : α) (B : List α) : Cut.app (.part (A.length + 1) ((A ++ x :: B).length - (A.length + 1))) (A ++ x :: B) = B := by
  simp only [Cut.app]
  have : (A ++ x :: B).drop (A.length + 1) = B := by simp
  rw [this]
  exact List.take_of_length_le (by simp; omega)
theorem cut_del {α : Type} (A : List α) (x : α) (B : List α) : List.take (A.length + B.length) (List.take A.length (A ++ x :: B) ++ B ++ List.drop (A.length + B.length) (A ++ x :: B)) = A ++ B := by
  rw [List.take_left' rfl, List.take_left' (by simp)]
theorem set_mid {α : Type} (A : List α) (x y : α) (B : List α) : (A ++ x :: B).set (0 + A.length) y = A ++ y :: B := by
  rw [Nat.zero_add, List.set_append_right _ _ (Nat.le_refl _)]
  simp
theorem ins_mid {α : Type} (A B : List α) (z d : α) : List.set (cpL (A ++ B ++ [z]) (A.length + 1) (Cut.app (.part (A.length + 1) ((A ++ B ++ [z]).length - (A.length + 1))) (A ++ B ++ [z])).length (Cut.app (.part A.length ((A ++ B ++ [z]).length - A.length)) (A ++ B ++ [z]))) (0 + A.length) d = A ++ d :: B := by
  have h1 : Cut.app (.part A.length ((A ++ B ++ [z]).length - A.length)) (A ++ B ++ [z]) = B ++ [z] := by
    simp only [Cut.app, List.append_assoc]
    rw [List.drop_left' rfl]
    exact List.take_of_length_le (by simp)
  have h2 : (Cut.app (.part (A.length + 1) ((A ++ B ++ [z]).length - (A.length + 1))) (A ++ B ++ [z])).length = B.length := by
    simp only [Cut.app, List.length_take, List.length_drop, List.length_append, List.length_cons, List.length_nil]
    omega
  rw [h1, h2]
  unfold cpL
  have h3 : min (B ++ [z]).length B.length = B.length := by simp
  rw [h3, List.take_left' rfl]
  have h4 : List.drop (A.length + 1 + B.length) (A ++ B ++ [z]) = [] := List.drop_eq_nil_of_le (by simp; omega)
  rw [h4, List.append_nil]
  cases B with
  | nil =>
    simp only [List.append_nil]
    rw [List.take_of_length_le (by simp)]
    exact set_mid A z d []
  | cons y B =>
    have h5 : List.take (A.length + 1) (A ++ (y :: B) ++ [z]) = A ++ [y] := by
      rw [show A ++ (y :: B) ++ [z] = (A ++ [y]) ++ (B ++ [z]) by simp]
      exact List.take_left' (by simp)
    rw [h5, List.append_assoc]
    exact set_mid A y d (y :: B)
theorem ins_get {α : Type} (A B : List α) (z : α) : ∃ e, (cpL (A ++ B ++ [z]) (A.length + 1) (Cut.app (.part (A.length + 1) ((A ++ B ++ [z]).length - (A.length + 1))) (A ++ B ++ [z])).length (Cut.app (.part A.length ((A ++ B ++ [z]).length - A.length)) (A ++ B ++ [z])))[A.length]? = some e := by
  refine ⟨_, List.getElem?_eq_getElem ?_⟩
  unfold cpL
  simp only [List.length_append, List.length_take, List.length_cons, List.length_nil]
  omega
end Go.Proofs.Ytonlajdaaljncaa
