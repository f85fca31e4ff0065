/-
  Written by cc3.py: the frame of a law: what is left to show is that the plain function is true.
-/
import Derived.Test.YtonlajdaaljncaaCe
import Derived.Test.YtonlajdaaljncaaVLaw
namespace Go.Proofs.Ytonlajdaaljncaa
open Go.ChangeShapes Go.WideShapes Go.ChangeAt Go.RowKit

def S_Prefix.wf (x : S_Prefix) : Prop := wfA .u8 16 x.IP ∧ wfI .i64 x.Bits
theorem opens_S_Prefix : Opens Try.prog 29 S_Prefix.cs S_Prefix.wf := by
  intro H enc W fuel cs x h
  have hl := (DataW.trod_struct Try.underlying29 h)
  obtain ⟨_, _, _, _, hl, _⟩ := hl
  obtain ⟨a0, s0, w0⟩ := opens_field Try.underlying29 h 0 _ rfl (n := 16) (off := 0) (by kernel_rfl) (by kernel_rfl) (by kernel_rfl) (opens_arr (n := 16) (k := .u8) Try.underlying27 Try.underlying5 (by kernel_rfl) (by kernel_rfl))
  obtain ⟨a1, s1, w1⟩ := opens_field Try.underlying29 h 1 _ rfl (n := 1) (off := 16) (by kernel_rfl) (by kernel_rfl) (by kernel_rfl) (opens_int (k := .i64) Try.underlying3)
  refine ⟨⟨a0, a1⟩, ?_, w0, w1⟩
  have hl2 : cs.length = 17 := hl.trans (by kernel_rfl)
  rw [hl2]
  exact (s0).append s1
def S_Down.wf (x : S_Down) : Prop := S_Prefix.wf x.Target ∧ wfI .u64 x.Via ∧ wfI .u8 x.Sequence ∧ wfI .i64 x.Until
theorem opens_S_Down : Opens Try.prog 39 S_Down.cs S_Down.wf := by
  intro H enc W fuel cs x h
  have hl := (DataW.trod_struct Try.underlying39 h)
  obtain ⟨_, _, _, _, hl, _⟩ := hl
  obtain ⟨a0, s0, w0⟩ := opens_field Try.underlying39 h 0 _ rfl (n := 17) (off := 0) (by kernel_rfl) (by kernel_rfl) (by kernel_rfl) opens_S_Prefix
  obtain ⟨a1, s1, w1⟩ := opens_field Try.underlying39 h 1 _ rfl (n := 1) (off := 17) (by kernel_rfl) (by kernel_rfl) (by kernel_rfl) (opens_int (k := .u64) Try.underlying34)
  obtain ⟨a2, s2, w2⟩ := opens_field Try.underlying39 h 2 _ rfl (n := 1) (off := 18) (by kernel_rfl) (by kernel_rfl) (by kernel_rfl) (opens_int (k := .u8) Try.underlying5)
  obtain ⟨a3, s3, w3⟩ := opens_field Try.underlying39 h 3 _ rfl (n := 1) (off := 19) (by kernel_rfl) (by kernel_rfl) (by kernel_rfl) (opens_int (k := .i64) Try.underlying3)
  refine ⟨⟨a0, a1, a2, a3⟩, ?_, w0, w1, w2, w3⟩
  have hl2 : cs.length = 20 := hl.trans (by kernel_rfl)
  rw [hl2]
  exact (((s0).append s1).append s2).append s3
def S_Register.wf (x : S_Register) : Prop := S_Prefix.wf x.Target ∧ wfI .u8 x.Sequence ∧ wfI .i64 x.Lifetime
theorem opens_S_Register : Opens Try.prog 31 S_Register.cs S_Register.wf := by
  intro H enc W fuel cs x h
  have hl := (DataW.trod_struct Try.underlying31 h)
  obtain ⟨_, _, _, _, hl, _⟩ := hl
  obtain ⟨a0, s0, w0⟩ := opens_field Try.underlying31 h 0 _ rfl (n := 17) (off := 0) (by kernel_rfl) (by kernel_rfl) (by kernel_rfl) opens_S_Prefix
  obtain ⟨a1, s1, w1⟩ := opens_field Try.underlying31 h 1 _ rfl (n := 1) (off := 17) (by kernel_rfl) (by kernel_rfl) (by kernel_rfl) (opens_int (k := .u8) Try.underlying5)
  obtain ⟨a2, s2, w2⟩ := opens_field Try.underlying31 h 2 _ rfl (n := 1) (off := 18) (by kernel_rfl) (by kernel_rfl) (by kernel_rfl) (opens_int (k := .i64) Try.underlying3)
  refine ⟨⟨a0, a1, a2⟩, ?_, w0, w1, w2⟩
  have hl2 : cs.length = 19 := hl.trans (by kernel_rfl)
  rw [hl2]
  exact ((s0).append s1).append s2
end Go.Proofs.Ytonlajdaaljncaa
