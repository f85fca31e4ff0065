/-
  FrameForms, proved for all frames and tapes.
-/
import Derived.Test.YtohfnlkjdjmipaaMF10
import Derived.Test.YtohfnlkjdjmipaaLwFrameForms
namespace Go.Proofs.Ytohfnlkjdjmipaa
open Go.RowKit
theorem wf_addr {a : S_Addr} (h : S_Addr.wf a) : AdrWf a := by
  obtain ⟨_, h2, h3⟩ := h
  simp [wfI, Lit.wf, IntKind.min, IntKind.max, IntKind.bits, IntKind.signed] at h2 h3
  exact ⟨by omega, by omega⟩
theorem wf_frame {f : S_Frame} (h : S_Frame.wf f) : WfF f := by
  obtain ⟨_, _, _, _, h5, h6, h7, h8, h9, h10, h11, h12⟩ := h
  simp [wfI, Lit.wf, IntKind.min, IntKind.max, IntKind.bits, IntKind.signed] at h5 h6 h9 h10
  exact ⟨by omega, by omega, wf_addr h7, wf_addr h8, by omega, by omega, okB_wf h11.2, h11.1, okB_wf h12.2, h12.1⟩
theorem frameForms_holds : Rows.FrameFormsSaid := frameForms_of fun _ t h _ => forms_of_law (wf_frame h) t
#print axioms frameForms_holds
end Go.Proofs.Ytohfnlkjdjmipaa
