/-
  Written by cc3.py: the frame of a law: what is left to show is that the plain function is true.
-/
import Derived.Test.YtohfnlkjdjmipaaCe
import Derived.Test.YtohfnlkjdjmipaaVLawR
namespace Go.Proofs.Ytohfnlkjdjmipaa
open Go.ChangeShapes Go.WideShapes Go.ChangeAt Go.RowKit

def S_Addr.wf (x : S_Addr) : Prop := wfI .i64 x.Mode ∧ wfI .u16 x.Short ∧ wfI .u64 x.EUI
theorem opens_S_Addr : OpensR Try.prog 29 S_Addr.cs S_Addr.wf := by
  intro H enc W fuel cs x h hw
  have hl := (DataW.trod_struct Try.underlying29 h)
  obtain ⟨_, _, _, _, hl, _⟩ := hl
  obtain ⟨a0, s0, w0⟩ := opens_fieldR Try.underlying29 h 0 _ rfl (n := 1) (off := 0) (by kernel_rfl) (by kernel_rfl) (by kernel_rfl) (opens_int (k := .i64) Try.underlying3).r hw
  obtain ⟨a1, s1, w1⟩ := opens_fieldR Try.underlying29 h 1 _ rfl (n := 1) (off := 1) (by kernel_rfl) (by kernel_rfl) (by kernel_rfl) (opens_int (k := .u16) Try.underlying25).r hw
  obtain ⟨a2, s2, w2⟩ := opens_fieldR Try.underlying29 h 2 _ rfl (n := 1) (off := 2) (by kernel_rfl) (by kernel_rfl) (by kernel_rfl) (opens_int (k := .u64) Try.underlying27).r hw
  refine ⟨⟨a0, a1, a2⟩, ?_, w0, w1, w2⟩
  have hl2 : cs.length = 3 := hl.trans (by kernel_rfl)
  rw [hl2]
  exact ((s0).append s1).append s2
def S_Frame.wf (x : S_Frame) : Prop := wfI .i64 x.Kind ∧ wfB x.AckRequest ∧ wfB x.Pending ∧ wfB x.Secure ∧ wfI .u8 x.Seq ∧ wfI .u16 x.Pan ∧ S_Addr.wf x.Dst ∧ S_Addr.wf x.Src ∧ wfI .u32 x.Counter ∧ wfI .u8 x.Key ∧ wfR (wfI .u8) x.Payload ∧ wfR (wfI .u8) x.MIC
theorem opens_S_Frame : OpensR Try.prog 32 S_Frame.cs S_Frame.wf := by
  intro H enc W fuel cs x h hw
  have hl := (DataW.trod_struct Try.underlying32 h)
  obtain ⟨_, _, _, _, hl, _⟩ := hl
  obtain ⟨a0, s0, w0⟩ := opens_fieldR Try.underlying32 h 0 _ rfl (n := 1) (off := 0) (by kernel_rfl) (by kernel_rfl) (by kernel_rfl) (opens_int (k := .i64) Try.underlying3).r hw
  obtain ⟨a1, s1, w1⟩ := opens_fieldR Try.underlying32 h 1 _ rfl (n := 1) (off := 1) (by kernel_rfl) (by kernel_rfl) (by kernel_rfl) (opens_bool Try.underlying4).r hw
  obtain ⟨a2, s2, w2⟩ := opens_fieldR Try.underlying32 h 2 _ rfl (n := 1) (off := 2) (by kernel_rfl) (by kernel_rfl) (by kernel_rfl) (opens_bool Try.underlying4).r hw
  obtain ⟨a3, s3, w3⟩ := opens_fieldR Try.underlying32 h 3 _ rfl (n := 1) (off := 3) (by kernel_rfl) (by kernel_rfl) (by kernel_rfl) (opens_bool Try.underlying4).r hw
  obtain ⟨a4, s4, w4⟩ := opens_fieldR Try.underlying32 h 4 _ rfl (n := 1) (off := 4) (by kernel_rfl) (by kernel_rfl) (by kernel_rfl) (opens_int (k := .u8) Try.underlying5).r hw
  obtain ⟨a5, s5, w5⟩ := opens_fieldR Try.underlying32 h 5 _ rfl (n := 1) (off := 5) (by kernel_rfl) (by kernel_rfl) (by kernel_rfl) (opens_int (k := .u16) Try.underlying24).r hw
  obtain ⟨a6, s6, w6⟩ := opens_fieldR Try.underlying32 h 6 _ rfl (n := 3) (off := 6) (by kernel_rfl) (by kernel_rfl) (by kernel_rfl) opens_S_Addr hw
  obtain ⟨a7, s7, w7⟩ := opens_fieldR Try.underlying32 h 7 _ rfl (n := 3) (off := 9) (by kernel_rfl) (by kernel_rfl) (by kernel_rfl) opens_S_Addr hw
  obtain ⟨a8, s8, w8⟩ := opens_fieldR Try.underlying32 h 8 _ rfl (n := 1) (off := 12) (by kernel_rfl) (by kernel_rfl) (by kernel_rfl) (opens_int (k := .u32) Try.underlying30).r hw
  obtain ⟨a9, s9, w9⟩ := opens_fieldR Try.underlying32 h 9 _ rfl (n := 1) (off := 13) (by kernel_rfl) (by kernel_rfl) (by kernel_rfl) (opens_int (k := .u8) Try.underlying5).r hw
  obtain ⟨a10, s10, w10⟩ := opens_fieldR Try.underlying32 h 10 _ rfl (n := 1) (off := 14) (by kernel_rfl) (by kernel_rfl) (by kernel_rfl) (opens_sliceR (sz := 1) Try.underlying22 (by kernel_rfl) (opens_int (k := .u8) Try.underlying5).r (fun _ => by kernel_rfl) (by kernel_rfl) (by kernel_rfl)) hw
  obtain ⟨a11, s11, w11⟩ := opens_fieldR Try.underlying32 h 11 _ rfl (n := 1) (off := 15) (by kernel_rfl) (by kernel_rfl) (by kernel_rfl) (opens_sliceR (sz := 1) Try.underlying22 (by kernel_rfl) (opens_int (k := .u8) Try.underlying5).r (fun _ => by kernel_rfl) (by kernel_rfl) (by kernel_rfl)) hw
  refine ⟨⟨a0, a1, a2, a3, a4, a5, a6, a7, a8, a9, a10, a11⟩, ?_, w0, w1, w2, w3, w4, w5, w6, w7, w8, w9, w10, w11⟩
  have hl2 : cs.length = 16 := hl.trans (by kernel_rfl)
  rw [hl2]
  exact (((((((((((s0).append s1).append s2).append s3).append s4).append s5).append s6).append s7).append s8).append s9).append s10).append s11
end Go.Proofs.Ytohfnlkjdjmipaa
