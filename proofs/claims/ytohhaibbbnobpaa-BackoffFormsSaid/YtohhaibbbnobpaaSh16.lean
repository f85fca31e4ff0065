/-
  SHADOWS: functions that return the address of a new variable; a nil slice to which is appended; slices that are made.
-/
import Derived.Test.YtohhaibbbnobpaaSh15
import Derived.Laws.MakeOwn
namespace Go.Proofs.Ytohhaibbbnobpaa
open Go.RowKit

theorem TL_nilT {P : Program} {K : Ctx} {n : Nat} {ops : Array Oper} {l : List Oper} {Q : Exit → St → Prop} {s : St} (t tok e sz : Nat) (hl : look s.tmps t = some (.c (.lit (.slice none 0 0)))) (hf : s.freshK tok = true) (h : TL P K n ops l (s.nilT t tok e sz) Q) : TL P K n ops l s Q := by
  intro a w ⟨g, r⟩
  obtain ⟨h1, hle⟩ := r.hg.newTok (e := e) (sz := sz) hf
  refine h a w ⟨_, r.defers, r.size, h1, fun u v hv => ?_⟩
  simp only [St.freshK, Bool.and_eq_true, Option.isNone_iff_eq_none, List.all_eq_true] at hf
  simp only [St.nilT] at hv
  rw [look_cons, look_drop1] at hv
  by_cases hu : t = u
  · subst hu
    rw [if_pos rfl] at hv
    cases hv
    obtain ⟨z, h2, h3⟩ := r.tmps t _ hl
    have := rel_lit h3
    subst this
    exact ⟨_, h2, ⟨.nil _ _ _ (by decide), by simp [Tag, Env.setTk, vlen]⟩⟩
  · rw [if_neg hu, if_neg (Ne.symm hu)] at hv
    obtain ⟨z, h2, h3⟩ := r.tmps u v hv
    exact ⟨z, h2, VRel.imp (fun v x hx k => (k.mono hle).setTk hx) h3 (hf.1.2 _ (look_mem hv))⟩

end Go.Proofs.Ytohhaibbbnobpaa
