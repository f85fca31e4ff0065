/-
  Written by cc3.py: the frame of a law: what is left to show is that the plain function is true.
-/
import Derived.Test.YtcjoflgnifafiaaCe
import Derived.Test.YtcjoflgnifafiaaVLaw
namespace Go.Proofs.Ytcjoflgnifafiaa
open Go.ChangeShapes Go.WideShapes Go.ChangeAt Go.RowKit

def S_Settings.wf (x : S_Settings) : Prop := wfI .i64 x.Version ∧ wfL (wfI .u8) x.Data ∧ wfA .u8 8 x.Tag
theorem opens_S_Settings : Opens Try.prog 30 S_Settings.cs S_Settings.wf := by
  intro H enc W fuel cs x h
  have hl := (DataW.trod_struct Try.underlying30 h)
  obtain ⟨_, _, _, _, hl, _⟩ := hl
  obtain ⟨a0, s0, w0⟩ := opens_field Try.underlying30 h 0 _ rfl (n := 1) (off := 0) (by kernel_rfl) (by kernel_rfl) (by kernel_rfl) (opens_int (k := .i64) Try.underlying3)
  obtain ⟨a1, s1, w1⟩ := opens_field Try.underlying30 h 1 _ rfl (n := 1) (off := 1) (by kernel_rfl) (by kernel_rfl) (by kernel_rfl) (opens_slice (sz := 1) Try.underlying27 (by kernel_rfl) (opens_int (k := .u8) Try.underlying5) (fun _ => by kernel_rfl) (by kernel_rfl))
  obtain ⟨a2, s2, w2⟩ := opens_field Try.underlying30 h 2 _ rfl (n := 8) (off := 2) (by kernel_rfl) (by kernel_rfl) (by kernel_rfl) (opens_arr (n := 8) (k := .u8) Try.underlying28 Try.underlying5 (by kernel_rfl) (by kernel_rfl))
  refine ⟨⟨a0, a1, a2⟩, ?_, w0, w1, w2⟩
  have hl2 : cs.length = 10 := hl.trans (by kernel_rfl)
  rw [hl2]
  exact ((s0).append s1).append s2
def S_Diagnostic.wf (x : S_Diagnostic) : Prop := wfI .u64 x.Node ∧ wfI .i64 x.Number ∧ wfL (wfI .u8) x.Data
theorem opens_S_Diagnostic : Opens Try.prog 56 S_Diagnostic.cs S_Diagnostic.wf := by
  intro H enc W fuel cs x h
  have hl := (DataW.trod_struct Try.underlying56 h)
  obtain ⟨_, _, _, _, hl, _⟩ := hl
  obtain ⟨a0, s0, w0⟩ := opens_field Try.underlying56 h 0 _ rfl (n := 1) (off := 0) (by kernel_rfl) (by kernel_rfl) (by kernel_rfl) (opens_int (k := .u64) Try.underlying54)
  obtain ⟨a1, s1, w1⟩ := opens_field Try.underlying56 h 1 _ rfl (n := 1) (off := 1) (by kernel_rfl) (by kernel_rfl) (by kernel_rfl) (opens_int (k := .i64) Try.underlying3)
  obtain ⟨a2, s2, w2⟩ := opens_field Try.underlying56 h 2 _ rfl (n := 1) (off := 2) (by kernel_rfl) (by kernel_rfl) (by kernel_rfl) (opens_slice (sz := 1) Try.underlying27 (by kernel_rfl) (opens_int (k := .u8) Try.underlying5) (fun _ => by kernel_rfl) (by kernel_rfl))
  refine ⟨⟨a0, a1, a2⟩, ?_, w0, w1, w2⟩
  have hl2 : cs.length = 3 := hl.trans (by kernel_rfl)
  rw [hl2]
  exact ((s0).append s1).append s2
end Go.Proofs.Ytcjoflgnifafiaa
