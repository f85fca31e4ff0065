/-
  Lists of records as bytes; the law ReportsEncode.
-/
import Derived.Test.YtcjoflgnifafiaaMR4
import Derived.Test.YtcjoflgnifafiaaMS3
namespace Go.Proofs.Ytcjoflgnifafiaa
open Go.RowKit

/-! ### encoding -/
def recB (d : DR) : List Int := beB d.Node 8 ++ beB (IntKind.wrap .u64 d.Number) 4 ++ [(d.Data.length : Int)] ++ d.Data
theorem recB_len (d : DR) : (recB d).length = 13 + d.Data.length := by simp [recB, beB_len]; omega
theorem recB_ok {d : DR} (h : okB d.Data) (hl : d.Data.length ≤ 64) : okB (recB d) := (((beB_ok _ _).append (beB_ok _ _)).append (okB_one (by omega))).append h
theorem enc_both {l : List DR} (hs : smallR l) {size : Int} (h0 : 0 ≤ size) (h1 : size ≤ 9223372036854775807) : ∀ (m i : Nat) (out : List Int), m + i = l.length → out.length ≤ 77 * i → okB out →
    ∃ (b : List Int) (n : Nat), n ≤ l.length ∧ okB b ∧ b.length ≤ 77 * l.length ∧ loopO (F_ref39_EncodeReports_l1 l size) (out, (i : Int)) = some (b, (n : Int)) ∧ loopO (F_management_EncodeReports_l1 l size) (out, (i : Int)) = some (if n = l.length then .inl b else .inr (b, (n : Int), 0)) := by
  intro m
  induction m with
  | zero =>
    intro i out hm hl ok
    obtain rfl : i = l.length := by omega
    refine ⟨out, l.length, Nat.le_refl _, ok, hl, loop_done ?_, ?_⟩
    · unfold F_ref39_EncodeReports_l1
      dsimp only
      rw [decF (by omega)]
      rfl
    · rw [if_pos rfl]
      refine loop_done ?_
      unfold F_management_EncodeReports_l1
      dsimp only
      rw [decF (by omega)]
      rfl
  | succ m ih =>
    intro i out hm hl ok
    have hi : i < l.length := by omega
    have h64 := hs.len
    obtain ⟨od, hd⟩ := hs.data _ (List.getElem_mem hi)
    have eR : F_ref39_EncodeReports_l1 l size (out, (i : Int)) = if (out.length : Int) + 13 + l[i].Data.length ≤ size then some (.inl (out ++ recB l[i], ((i + 1 : Nat) : Int))) else some (.inr (out, (i : Int))) := by
      unfold F_ref39_EncodeReports_l1
      dsimp only
      rw [decT (show (i : Int) < (l.length : Int) by omega), idx_lt hi]
      simp only [cond_true, Option.bind_some]
      rw [wi (x := (out.length : Int) + 13) (by omega) (by omega), wi (x := (out.length : Int) + 13 + (l[i].Data.length : Int)) (by omega) (by omega)]
      by_cases c : (out.length : Int) + 13 + (l[i].Data.length : Int) ≤ size
      · rw [decT c, if_pos c]
        simp only [cond_true]
        have p1 := put_g out l[i].Node 8 (by omega) (by omega)
        have p2 := put_g (out ++ beB l[i].Node 8) (IntKind.wrap .u64 l[i].Number) 4 (by omega) (by simp [beB_len]; omega)
        rw [show ((8 : Nat) : Int) = 8 from rfl] at p1
        rw [show ((4 : Nat) : Int) = 4 from rfl] at p2
        rw [p1, Option.bind_some, p2, Option.bind_some]
        simp only [Cut.app]
        rw [wu8 (by omega) (by omega), appO_some (by simp [beB_len]; omega) (by simp [beB_len]; omega), Option.bind_some, appO_some (by simp [beB_len]; omega) (by simp [beB_len]; omega), Option.bind_some, wk i (by omega)]
        simp [recB]
      · rw [decF c, if_neg c]; rfl
    have eP : F_management_EncodeReports_l1 l size (out, (i : Int)) = if (out.length : Int) + 13 + l[i].Data.length ≤ size then some (.inl (out ++ recB l[i], ((i + 1 : Nat) : Int))) else some (.inr (.inr (out, (i : Int), 0))) := by
      unfold F_management_EncodeReports_l1
      dsimp only
      rw [decT (show (i : Int) < (l.length : Int) by omega), idx_lt hi]
      simp only [cond_true, Option.bind_some]
      rw [wi (x := 13 + (l[i].Data.length : Int)) (by omega) (by omega), wi (x := size - (out.length : Int)) (by omega) (by omega)]
      by_cases c : (out.length : Int) + 13 + (l[i].Data.length : Int) ≤ size
      · rw [decF (show ¬ 13 + (l[i].Data.length : Int) > size - (out.length : Int) by omega), if_pos c]
        simp only [cond_false]
        have p1 := octets_append out l[i].Node 8 (by omega) (by omega)
        have p2 := octets_append (out ++ beB l[i].Node 8) (IntKind.wrap .u64 l[i].Number) 4 (by omega) (by simp [beB_len]; omega)
        rw [show ((8 : Nat) : Int) = 8 from rfl] at p1
        rw [show ((4 : Nat) : Int) = 4 from rfl] at p2
        rw [p1, Option.bind_some, p2, Option.bind_some]
        simp only [Cut.app]
        rw [wu8 (by omega) (by omega), appO_some (by simp [beB_len]; omega) (by simp [beB_len]; omega), Option.bind_some, appO_some (by simp [beB_len]; omega) (by simp [beB_len]; omega), Option.bind_some, wk i (by omega)]
        simp [recB]
      · rw [decT (show 13 + (l[i].Data.length : Int) > size - (out.length : Int) by omega), if_neg c]; rfl
    by_cases c : (out.length : Int) + 13 + l[i].Data.length ≤ size
    · rw [if_pos c] at eR eP
      obtain ⟨b, n, q1, q2, q3, q4, q5⟩ := ih (i + 1) (out ++ recB l[i]) (by omega) (by rw [List.length_append, recB_len]; omega) (ok.append (recB_ok od hd))
      exact ⟨b, n, q1, q2, q3, by rw [loop_next eR]; exact q4, by rw [loop_next eP]; exact q5⟩
    · rw [if_neg c] at eR eP
      refine ⟨out, i, by omega, ok, by omega, loop_done eR, ?_⟩
      rw [if_neg (by omega)]
      exact loop_done eP
theorem enc_spec {l : List DR} (h : wfL' l) {size : Int} (h1 : size ≤ 9223372036854775807) : ∃ b n e, F_management_EncodeReports l size = some (b, n, e) ∧ F_ref39_EncodeReports l size = some (b, n, e) ∧ okB b ∧ b.length ≤ 77 * 64 := by
  unfold F_management_EncodeReports F_ref39_EncodeReports
  rw [prog_validR h.r, ref_validR]
  simp only [Option.bind_some]
  cases hv : validR l with
  | false => exact ⟨_, _, _, rfl, rfl, okB_nil, by simp⟩
  | true =>
    simp only [cond_true]
    by_cases c : size < 0
    · rw [decT c]; exact ⟨_, _, _, rfl, rfl, okB_nil, by simp⟩
    rw [decF c]
    simp only [cond_false]
    have hs := small_of h hv
    obtain ⟨b, n, q1, q2, q3, q4, q5⟩ := enc_both hs (by omega) h1 l.length 0 [] (by omega) (by simp) okB_nil
    simp only [Int.natCast_zero] at q4 q5
    have := hs.len
    rw [q4, q5]
    simp only [Option.bind_some]
    by_cases c2 : n = l.length
    · subst c2
      rw [if_pos rfl]
      exact ⟨_, _, _, rfl, rfl, q2, by omega⟩
    · rw [if_neg c2]
      exact ⟨_, _, _, rfl, rfl, q2, by omega⟩

/-! ### decoding -/
def recN (b : List Int) : Nat := 13 + (b.getD 12 0).toNat
def recOf (b : List Int) : DR := ⟨beN (b.take 8), beN ((b.drop 8).take 4), (b.drop 13).take (recN b - 13)⟩
def parseR : Nat → List Int → Option (List DR)
  | 0, _ => some []
  | f + 1, b => if b.length = 0 then some [] else if b.length < 13 then none else if b.length < recN b then none else (parseR f (b.drop (recN b))).map (recOf b :: ·)
theorem i12 {b : List Int} (h : okB b) (hl : 13 ≤ b.length) : idx b 12 = some (b.getD 12 0) ∧ 0 ≤ b.getD 12 0 ∧ b.getD 12 0 ≤ 255 := by
  have := h.getD 12
  refine ⟨?_, this⟩
  have e := idx_lt (l := b) (k := 12) (by omega)
  rw [show ((12 : Nat) : Int) = 12 from rfl] at e
  rw [e, getD_get (by omega)]
theorem ends_spec : ∀ (f : Nat) {b : List Int}, okB b → b.length ≤ 100000 → b.length ≤ f → loopO F_management_ends_l1 b = some (if (parseR f b).isNone then .inr true else .inl ())
  | 0, b, _, _, hf => by
    have : b = [] := List.eq_nil_of_length_eq_zero (by omega)
    subst this
    exact loop_done rfl
  | f + 1, b, h, hb, hf => by
    unfold parseR
    by_cases c0 : b.length = 0
    · have : b = [] := List.eq_nil_of_length_eq_zero c0
      subst this
      exact loop_done rfl
    rw [if_neg c0]
    by_cases c1 : b.length < 13
    · rw [if_pos c1]
      refine loop_done ?_
      unfold F_management_ends_l1
      rw [decT (show (b.length : Int) > 0 by omega), decT (show (b.length : Int) < 13 by omega)]
      rfl
    rw [if_neg c1]
    obtain ⟨e1, e2, e3⟩ := i12 h (by omega)
    have en : IntKind.wrap .i64 (13 + IntKind.wrap .i64 (b.getD 12 0)) = (recN b : Int) := by rw [wi (x := b.getD 12 0) (by omega) (by omega), wi (by omega) (by omega)]; unfold recN; omega
    have hstep : F_management_ends_l1 b = if b.length < recN b then some (.inr (.inr true)) else some (.inl (b.drop (recN b))) := by
      unfold F_management_ends_l1
      rw [decT (show (b.length : Int) > 0 by omega), decF (show ¬ (b.length : Int) < 13 by omega), e1]
      simp only [cond_true, cond_false, Option.bind_some]
      rw [en]
      by_cases c2 : b.length < recN b
      · rw [decT (by omega), if_pos c2]; rfl
      · rw [decF (by omega), if_neg c2, subO_some (by omega) (by omega) (by omega)]
        simp
    by_cases c2 : b.length < recN b
    · rw [if_pos c2] at hstep ⊢
      exact loop_done hstep
    · rw [if_neg c2] at hstep ⊢
      have hr : 13 ≤ recN b := by unfold recN; omega
      rw [loop_next hstep, ends_spec f (h.drop _) (by rw [List.length_drop]; omega) (by rw [List.length_drop]; omega)]
      simp
structure okRec (b : List Int) : Prop where
  ok : okB b
  len : 13 ≤ b.length
  fits : recN b ≤ b.length
  small : b.length ≤ 100000
theorem num4 {b : List Int} (h : okB b) : 0 ≤ beN ((b.drop 8).take 4) ∧ beN ((b.drop 8).take 4) < 4294967296 := beN4 (h.drop 8)
theorem recOf_wf {b : List Int} (h : okB b) : wfR (recOf b) := ⟨(beN_bd (h.take 8)).1, (h.drop 13).take _⟩
theorem ref_dstep {b : List Int} (h : okRec b) {l : List DR} (hl : l.length ≤ 100000) : F_ref39_DecodeReports_l1 (b, l) = some (.inl (b.drop (recN b), l ++ [recOf b])) := by
  unfold F_ref39_DecodeReports_l1
  have h1 := h.len
  have h2 := h.fits
  have h3 := h.small
  obtain ⟨e1, e2, e3⟩ := i12 h.ok (by omega)
  have en : IntKind.wrap .i64 (13 + IntKind.wrap .i64 (b.getD 12 0)) = (recN b : Int) := by rw [wi (x := b.getD 12 0) (by omega) (by omega), wi (by omega) (by omega)]; unfold recN; omega
  have hr : 13 ≤ recN b := by unfold recN; omega
  dsimp only
  rw [decT (show (b.length : Int) > 0 by omega), decF (show ¬ (b.length : Int) < 13 by omega), e1]
  simp only [cond_true, cond_false, Option.bind_some]
  rw [en, decF (by omega)]
  have g1 := get_some h.ok (by omega) 0 8 (by omega) (by omega)
  have g2 := get_some h.ok (by omega) 8 4 (by omega) (by omega)
  rw [show ((8 : Nat) : Int) = 8 from rfl, show ((0 : Nat) : Int) = 0 from rfl, List.drop_zero] at g1
  rw [show ((8 : Nat) : Int) = 8 from rfl, show ((4 : Nat) : Int) = 4 from rfl] at g2
  have n4 := num4 h.ok
  rw [g1, g2]
  simp only [cond_false, Option.bind_some]
  rw [subO_some (by omega) (by omega) (by omega), Option.bind_some, copy_nil (by simp; omega), Option.bind_some, wi (x := beN ((b.drop 8).take 4)) (by omega) (by omega)]
  simp only [Cut.app]
  rw [appO_some (by simp; omega) (by simp; omega), Option.bind_some, subO_some (by omega) (by omega) (by omega), Option.bind_some]
  simp only [Int.toNat_natCast, List.take_length]
  have ed : (b.take (recN b)).drop (13 : Int).toNat = (b.drop 13).take (recN b - 13) := by rw [List.drop_take]; rfl
  rw [ed]
  rfl
theorem prog_dstep {b : List Int} (h : okRec b) {l : List DR} (hl : l.length < 64) : F_management_DecodeReports_l1 (b, l) = some (.inl (b.drop (recN b), l ++ [recOf b])) := by
  unfold F_management_DecodeReports_l1
  have h1 := h.len
  have h2 := h.fits
  have h3 := h.small
  obtain ⟨e1, e2, e3⟩ := i12 h.ok (by omega)
  have en : IntKind.wrap .i64 (13 + IntKind.wrap .i64 (b.getD 12 0)) = (recN b : Int) := by rw [wi (x := b.getD 12 0) (by omega) (by omega), wi (by omega) (by omega)]; unfold recN; omega
  have hr : 13 ≤ recN b := by unfold recN; omega
  dsimp only
  rw [decT (show (b.length : Int) > 0 by omega), decF (show ¬ (l.length : Int) ≥ 64 by omega)]
  simp only [cond_true, cond_false]
  have g1 := uint_some h.ok (by omega) 0 8 (by omega) (by omega) (by omega)
  have g2 := uint_some h.ok (by omega) 8 4 (by omega) (by omega) (by omega)
  rw [show ((8 : Nat) : Int) = 8 from rfl, show ((0 : Nat) : Int) = 0 from rfl, List.drop_zero] at g1
  rw [show ((8 : Nat) : Int) = 8 from rfl, show ((4 : Nat) : Int) = 4 from rfl] at g2
  have n4 := num4 h.ok
  rw [g1, g2, e1]
  simp only [Option.bind_some]
  rw [en, subO_some (by omega) (by omega) (by omega), Option.bind_some, copy_nil (by simp; omega), Option.bind_some, wi (x := beN ((b.drop 8).take 4)) (by omega) (by omega)]
  simp only [Cut.app]
  rw [appO_some (by simp; omega) (by simp; omega), Option.bind_some, subO_some (by omega) (by omega) (by omega), Option.bind_some]
  simp only [Int.toNat_natCast, List.take_length]
  have ed : (b.take (recN b)).drop (13 : Int).toNat = (b.drop 13).take (recN b - 13) := by rw [List.drop_take]; rfl
  rw [ed]
  rfl
theorem ref_dloop : ∀ (f : Nat) {b : List Int} {l : List DR}, okB b → b.length ≤ 100000 → b.length ≤ f → l.length + b.length ≤ 100000 → loopO F_ref39_DecodeReports_l1 (b, l) = some (match parseR f b with | none => .inr ([], 4) | some m => .inl (l ++ m))
  | 0, b, l, _, _, hf, _ => by
    have : b = [] := List.eq_nil_of_length_eq_zero (by omega)
    subst this
    simp only [parseR, List.append_nil]
    exact loop_done rfl
  | f + 1, b, l, h, hb, hf, hl => by
    unfold parseR
    by_cases c0 : b.length = 0
    · have : b = [] := List.eq_nil_of_length_eq_zero c0
      subst this
      simp only [List.length_nil, if_true, List.append_nil]
      exact loop_done rfl
    rw [if_neg c0]
    by_cases c1 : b.length < 13
    · rw [if_pos c1]
      refine loop_done ?_
      unfold F_ref39_DecodeReports_l1
      dsimp only
      rw [decT (show (b.length : Int) > 0 by omega), decT (show (b.length : Int) < 13 by omega)]
      rfl
    rw [if_neg c1]
    by_cases c2 : b.length < recN b
    · rw [if_pos c2]
      refine loop_done ?_
      obtain ⟨e1, e2, e3⟩ := i12 h (by omega)
      have en : IntKind.wrap .i64 (13 + IntKind.wrap .i64 (b.getD 12 0)) = (recN b : Int) := by rw [wi (x := b.getD 12 0) (by omega) (by omega), wi (by omega) (by omega)]; unfold recN; omega
      unfold F_ref39_DecodeReports_l1
      dsimp only
      rw [decT (show (b.length : Int) > 0 by omega), decF (show ¬ (b.length : Int) < 13 by omega), e1]
      simp only [cond_true, cond_false, Option.bind_some]
      rw [en, decT (by omega)]
      rfl
    · rw [if_neg c2]
      have hr : 13 ≤ recN b := by unfold recN; omega
      rw [loop_next (ref_dstep ⟨h, by omega, by omega, hb⟩ (by omega)), ref_dloop f (h.drop _) (by rw [List.length_drop]; omega) (by rw [List.length_drop]; omega) (by rw [List.length_drop]; simp; omega)]
      cases parseR f (b.drop (recN b)) <;> simp
theorem prog_dloop : ∀ (f : Nat) {b : List Int} {l m : List DR}, okB b → b.length ≤ 100000 → b.length ≤ f → l.length ≤ 64 → parseR f b = some m → loopO F_management_DecodeReports_l1 (b, l) = some (if (l ++ m).length > 64 then .inr ([], 5) else .inl (l ++ m))
  | 0, b, l, m, _, _, hf, hl, hm => by
    have : b = [] := List.eq_nil_of_length_eq_zero (by omega)
    subst this
    cases hm
    rw [List.append_nil, if_neg (by omega)]
    exact loop_done rfl
  | f + 1, b, l, m, h, hb, hf, hl, hm => by
    unfold parseR at hm
    by_cases c0 : b.length = 0
    · have : b = [] := List.eq_nil_of_length_eq_zero c0
      subst this
      rw [if_pos c0] at hm
      cases hm
      rw [List.append_nil, if_neg (by omega)]
      exact loop_done rfl
    rw [if_neg c0] at hm
    by_cases c1 : b.length < 13
    · rw [if_pos c1] at hm; cases hm
    rw [if_neg c1] at hm
    by_cases c2 : b.length < recN b
    · rw [if_pos c2] at hm; cases hm
    rw [if_neg c2] at hm
    obtain ⟨m', hm', rfl⟩ := Option.map_eq_some_iff.1 hm
    by_cases c3 : l.length = 64
    · rw [if_pos (by simp; omega)]
      refine loop_done ?_
      unfold F_management_DecodeReports_l1
      dsimp only
      rw [decT (show (b.length : Int) > 0 by omega), decT (show (l.length : Int) ≥ 64 by omega)]
      rfl
    · have hr : 13 ≤ recN b := by unfold recN; omega
      rw [loop_next (prog_dstep ⟨h, by omega, by omega, hb⟩ (by omega)), prog_dloop f (h.drop _) (by rw [List.length_drop]; omega) (by rw [List.length_drop]; omega) (by simp; omega) hm']
      simp
theorem parse_wf : ∀ (f : Nat) {b : List Int} {m : List DR}, okB b → parseR f b = some m → wfL' m
  | 0, b, m, _, hm => by cases hm; exact ⟨by simp, by simp⟩
  | f + 1, b, m, h, hm => by
    unfold parseR at hm
    split at hm
    · cases hm; exact ⟨by simp, by simp⟩
    · split at hm
      · cases hm
      · split at hm
        · cases hm
        · obtain ⟨m', hm', rfl⟩ := Option.map_eq_some_iff.1 hm
          have ih := parse_wf f (h.drop _) hm'
          have hr := recOf_wf h
          refine ⟨fun d hd => ?_, fun d hd => ?_⟩
          · rcases List.mem_cons.1 hd with rfl | hd
            · exact hr.node
            · exact ih.node d hd
          · rcases List.mem_cons.1 hd with rfl | hd
            · exact hr.data
            · exact ih.data d hd
def decR (b : List Int) : List DR × Int := match parseR b.length b with
  | none => ([], 4)
  | some m => if validR m then (m, 0) else ([], 5)
theorem prog_decR {b : List Int} (h : okB b) (hb : b.length ≤ 100000) : F_management_DecodeReports b = some (decR b) := by
  unfold F_management_DecodeReports F_management_ends decR
  rw [ends_spec b.length h hb (Nat.le_refl _)]
  cases hp : parseR b.length b with
  | none => rfl
  | some m =>
    simp only [Option.isNone_some, Bool.false_eq_true, if_false, Option.bind_some, Sum.elim_inl, cond_false]
    rw [prog_dloop b.length h hb (Nat.le_refl _) (by simp) hp]
    simp only [List.nil_append]
    by_cases c : m.length > 64
    · have : validR m = false := by
        cases hv : validR m with
        | false => rfl
        | true => have := valid_len hv; omega
      rw [if_pos c, this]; rfl
    · rw [if_neg c]
      simp only [Option.bind_some, Sum.elim_inl]
      rw [prog_validR (parse_wf _ h hp).r, Option.bind_some]
      cases validR m <;> rfl
theorem ref_decR {b : List Int} (h : okB b) (hb : b.length ≤ 100000) : F_ref39_DecodeReports b = some (decR b) := by
  unfold F_ref39_DecodeReports decR
  rw [ref_dloop b.length h hb (Nat.le_refl _) (by simp; omega)]
  cases hp : parseR b.length b with
  | none => rfl
  | some m =>
    simp only [List.nil_append, Option.bind_some, Sum.elim_inl]
    rw [ref_validR, Option.bind_some]
    cases validR m <;> rfl
theorem decR_len (b : List Int) : (decR b).1.length ≤ 64 := by
  unfold decR
  split
  · simp
  · split
    · rename_i h; exact valid_len h
    · simp
theorem clone_bytes {l : List Int} (h : l.length ≤ 100000) : F_slices_Clone_byte_byte l = some l := by
  unfold F_slices_Clone_byte_byte
  rw [copy_nil (by omega)]
  rfl
theorem rencode_law {raw : List DR} (hraw : wfL' raw) (lraw : raw.length ≤ 9223372036854775807) {size : Int} (s0 : -9223372036854775808 ≤ size) (s1 : size ≤ 9223372036854775807) {b : List Int} (hb : okB b) (t : List Int) : F_law39_ReportsEncode raw size b t = some true := by
  unfold F_law39_ReportsEncode
  obtain ⟨b1, sb⟩ := small_some lraw
  rw [sb, Option.bind_some, known_true]
  cases b1 with
  | false => rfl
  | true =>
  simp only [cond_true]
  by_cases c1 : (b.length : Int) > 400
  · rw [decT c1]; rfl
  rw [decF c1]
  simp only [cond_false]
  obtain ⟨t0, e0, k0⟩ := new_spec t
  obtain ⟨l, t1, e1, hl, k1⟩ := reports_spec k0
  obtain ⟨sp, t2, e2, hsp, lsp, k2⟩ := spoiled_spec k1 hl
  rw [e0, Option.bind_some, e1, Option.bind_some]
  dsimp only
  rw [e2, Option.bind_some]
  have hloop : loopO (F_law39_ReportsEncode_l1 raw (l, t1) (sp, t2) size) 0 = some (.inl ()) := by
    generalize hL : ([raw, l, sp] : List (List DR)) = L
    have hlen3 : L.length = 3 := by rw [← hL]; rfl
    have hw : ∀ y ∈ L, wfL' y := by
      intro y hy
      rw [← hL] at hy
      simp only [List.mem_cons, List.not_mem_nil, or_false] at hy
      rcases hy with rfl | rfl | rfl
      · exact hraw
      · exact hl.wf
      · exact hsp
    refine loop_run (step := F_law39_ReportsEncode_l1 raw (l, t1) (sp, t2) size) (S := fun j => ((j : Nat) : Int)) L.length (fun j hj => ?_) ?_
    · unfold F_law39_ReportsEncode_l1
      dsimp only
      rw [hL, decT (show (j : Int) < (L.length : Int) by omega), idx_lt hj, wk j (by omega)]
      simp only [cond_true, Option.bind_some]
      have hE := hw _ (List.getElem_mem hj)
      generalize L[j] = E at hE ⊢
      obtain ⟨m, em, m0, m1⟩ := mod_spec size 120 (by omega) (by omega)
      rw [em, Option.bind_some]
      have hin : loopO (F_law39_ReportsEncode_l2 size m E) 0 = some (.inl ()) := by
        generalize hM : ([size, m, 94, 10000] : List Int) = M
        have hlen4 : M.length = 4 := by rw [← hM]; rfl
        have hwM : ∀ y ∈ M, y ≤ 9223372036854775807 := by
          intro y hy
          rw [← hM] at hy
          simp only [List.mem_cons, List.not_mem_nil, or_false] at hy
          rcases hy with rfl | rfl | rfl | rfl <;> omega
        refine loop_run (step := F_law39_ReportsEncode_l2 size m E) (S := fun i => ((i : Nat) : Int)) M.length (fun i hi => ?_) ?_
        · unfold F_law39_ReportsEncode_l2
          rw [hM, decT (show (i : Int) < (M.length : Int) by omega), idx_lt hi, wk i (by omega)]
          simp only [cond_true, Option.bind_some]
          obtain ⟨bb, n, ee, q1, q2, q3, q4⟩ := enc_spec hE (hwM _ (List.getElem_mem hi))
          rw [q1, q2]
          simp only [Option.bind_some, bne_self_eq_false, cond_false]
          rw [equal_spec q3 q3]
          simp
        · unfold F_law39_ReportsEncode_l2
          rw [hM, decF (by omega)]
          rfl
      rw [hin]
      rfl
    · unfold F_law39_ReportsEncode_l1
      dsimp only
      rw [hL, decF (by omega)]
      rfl
  rw [hloop, Option.bind_some]
  simp only [Sum.elim_inl]
  obtain ⟨c, n, ee, q1, q2, q3, q4⟩ := enc_spec hl.wf (size := 10000) (by omega)
  rw [q2, Option.bind_some]
  dsimp only
  rw [wi (by omega) (by omega)]
  obtain ⟨m, em, m0, m1⟩ := mod_spec size ((c.length : Int) + 1) (by omega) (by omega)
  rw [em, Option.bind_some, subO_some (by omega) (by omega) (by omega), Option.bind_some, clone_bytes (by omega)]
  simp only [Option.bind_some, Cut.app]
  rw [appO_some (by omega) (by omega), Option.bind_some, appO_some (by omega) (by omega), Option.bind_some]
  generalize hcut : (c.take m.toNat).drop (0 : Int).toNat = cut
  have hloop2 : loopO (F_law39_ReportsEncode_l3 b (c, n, ee) cut (c ++ c) (c ++ b)) 0 = some (.inl ()) := by
    generalize hL : ([b, c, cut, c ++ c, c ++ b] : List (List Int)) = L
    have hlen5 : L.length = 5 := by rw [← hL]; rfl
    have hw : ∀ y ∈ L, okB y ∧ y.length ≤ 100000 := by
      intro y hy
      rw [← hL] at hy
      simp only [List.mem_cons, List.not_mem_nil, or_false] at hy
      rcases hy with rfl | rfl | rfl | rfl | rfl
      · exact ⟨hb, by omega⟩
      · exact ⟨q3, by omega⟩
      · rw [← hcut]; exact ⟨(q3.take _).drop _, by simp; omega⟩
      · exact ⟨q3.append q3, by simp; omega⟩
      · exact ⟨q3.append hb, by simp; omega⟩
    refine loop_run (step := F_law39_ReportsEncode_l3 b (c, n, ee) cut (c ++ c) (c ++ b)) (S := fun j => ((j : Nat) : Int)) L.length (fun j hj => ?_) ?_
    · unfold F_law39_ReportsEncode_l3
      dsimp only
      rw [hL, decT (show (j : Int) < (L.length : Int) by omega), idx_lt hj, wk j (by omega)]
      simp only [cond_true, Option.bind_some]
      obtain ⟨w1, w2⟩ := hw _ (List.getElem_mem hj)
      rw [prog_decR w1 w2, ref_decR w1 w2]
      simp only [Option.bind_some, bne_self_eq_false, cond_false]
      rw [same_reports _ (by have := decR_len L[j]; omega)]
      rfl
    · unfold F_law39_ReportsEncode_l3
      dsimp only
      rw [hL, decF (by omega)]
      rfl
  rw [hloop2]
  rfl
end Go.Proofs.Ytcjoflgnifafiaa
