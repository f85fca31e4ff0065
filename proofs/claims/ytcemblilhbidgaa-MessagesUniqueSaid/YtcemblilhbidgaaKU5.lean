/-
  MessagesUnique, proved for all arguments.
-/
import Derived.Test.YtcemblilhbidgaaKU4
namespace Go.Proofs.Ytcemblilhbidgaa
section
open Go.RowKit

theorem el_len (k : Int) (b : List Int) : (el k b).length = b.length + 2 := by simp [el]
theorem encN_len (r : Int) (d : List Int) {n : S_Notice} (g : GoodN n) : (encN r d n).length ≤ 51 := by
  have w := good_wf g
  have h1 := pfx_le w.dst
  have h2 := pfx_le w.src
  have b2 := beB_len n.Seq 2
  have b8 := beB_len n.To.Router 8
  have n8 := beB_len n.Neighbour 8
  have m2 := beB_len n.Metric 2
  unfold encN
  split
  · simp only [el_len]; omega
  split
  · simp only [el_len, List.length_append]; omega
  split
  · split <;> simp only [el_len, List.length_append, List.length_cons, List.length_nil, List.length_drop] <;> omega
  split <;> simp only [el_len, List.length_append, List.length_cons, List.length_nil] <;> omega
theorem wlen {a : List Int} (h : a.length ≤ 255) : IntKind.wrap .u8 (a.length : Int) = (a.length : Int) := wu8 (by omega) (by omega)
theorem el_p {s : S_messages_state} (hs : s.elements.length ≤ 1000000) (k : Int) {b : List Int} (hb : b.length ≤ 255) : F_messages_state_element_H00 s k b = some (S_messages_state.mk (s.elements ++ el k b) s.router s.dst) := by
  unfold F_messages_state_element_H00
  simp only [Cut.app]
  rw [appO_some (by simp; omega) (by simp; omega), Option.bind_some, appO_some (by simp; omega) (by simp; omega), Option.bind_some, wlen hb]
  simp [el]
theorem el_r {a : List Int} (hs : a.length ≤ 1000000) (k : Int) {b : List Int} (hb : b.length ≤ 255) : F_ref29_element_G0 a k b = some (a ++ el k b) := by
  unfold F_ref29_element_G0
  simp only [Cut.app]
  rw [appO_some (by simp; omega) (by simp; omega), Option.bind_some, appO_some (by simp; omega) (by simp; omega), Option.bind_some, wlen hb]
  simp [el]
theorem vb {p : S_Prefix} (v : vpB p = true) : 0 ≤ p.Bits ∧ p.Bits ≤ 128 := ⟨(vpB_iff.1 v).1, (vpB_iff.1 v).2.1⟩
theorem part_r {p : S_Prefix} (w : wfP p) (v : vpB p = true) {k : Nat} (hk : k ≤ (pfx p).length) : F_ref29_part p k = some ((pfx p).drop k) := by
  have hv := vb v
  have hl := pfx_len w v
  have h16 := sz_le hv.1 hv.2
  unfold F_ref29_part
  have hl' := loop_run (step := F_ref29_part_l1 p) (S := fun i => (((pfx p).drop k).take i, ((k + i : Nat) : Int))) ((pfx p).length - k) (r := (pfx p).drop k) (fun i hi => by
    unfold F_ref29_part_l1
    rw [size_r hv.1 (by omega), Option.bind_some]
    dsimp only
    rw [decT (by omega), decT (by omega)]
    simp only [cond_true, Cut.app]
    have e : p.IP.getD (Int.toNat ((k + i : Nat) : Int)) 0 = ((pfx p).drop k)[i]'(by rw [List.length_drop]; exact hi) := by
      rw [Int.toNat_natCast, getD_get (by rw [w.1]; omega)]
      simp [pfx]
    rw [e, appO_some (by simp; omega) (by simp; omega), Option.bind_some, wk (k + i) (by omega), ← List.take_append_getElem (by rw [List.length_drop]; exact hi)]
    rfl) (by
    unfold F_ref29_part_l1
    rw [size_r hv.1 (by omega), Option.bind_some]
    dsimp only
    rw [decF (by omega), List.take_of_length_le (by rw [List.length_drop]; omega)]
    rfl)
  have hl2 : loopO (F_ref29_part_l1 p) (([] : List Int), (k : Int)) = some ((pfx p).drop k) := hl'
  rw [hl2]
  rfl
theorem comm_p {a d : List Int} (h : a.length ≤ 16) (hd : d.length = 16) (s : S_messages_state) (hs : s.dst = d) : loopO (F_messages_state_update_H00_l2 a s) 0 = some (comm a d : Int) := by
  have hl := loop_first (step := F_messages_state_update_H00_l2 a s) (S := fun k => (k : Int)) a.length (fun k => a.getD k 0 == d.getD k 0) (fun k => (k : Int)) (re := (a.length : Int)) (fun k hk hp => by
    unfold F_messages_state_update_H00_l2
    rw [decT (by omega), idx_lt hk, decT (by omega), hs, Int.toNat_natCast]
    rw [getD_get hk] at hp
    simp only [cond_true, Option.bind_some, hp, wk k (by omega)]) (fun k hk hp => by
    unfold F_messages_state_update_H00_l2
    rw [decT (by omega), idx_lt hk, decT (by omega), hs, Int.toNat_natCast]
    rw [getD_get hk] at hp
    simp only [cond_true, Option.bind_some, hp, cond_false]) (by
    unfold F_messages_state_update_H00_l2
    rw [decF (by omega)]
    rfl)
  simp only [Int.natCast_zero] at hl
  rcases hl with ⟨k, hk, hp, hj, e⟩ | ⟨hj, e⟩
  · rw [e, comm_iff a d k (by omega) (by omega) (fun j hjk => by simpa using hj j hjk) (fun _ => by simpa using hp)]
  · rw [e, comm_iff a d a.length (by omega) (by omega) (fun j hjk => by simpa using hj j hjk) (fun h => absurd h (by omega))]
theorem comm_r {n : S_Notice} (w : wfP n.To.Dst) (v : vpB n.To.Dst = true) (s : (List Int) × Int × Int × (List Int)) (hd : s.2.2.2.length = 16) : loopO (F_ref29_Body_l4 n s) 0 = some (comm (pfx n.To.Dst) s.2.2.2 : Int) := by
  have hv := vb v
  have hl := pfx_len w v
  have h16 := sz_le hv.1 hv.2
  have key : ∀ k, k < (pfx n.To.Dst).length → n.To.Dst.IP.getD k 0 = (pfx n.To.Dst).getD k 0 := fun k hk => by
    rw [getD_get hk, getD_get (by rw [w.1]; omega)]
    simp [pfx]
  have hl := loop_first (step := F_ref29_Body_l4 n s) (S := fun k => (k : Int)) (pfx n.To.Dst).length (fun k => (pfx n.To.Dst).getD k 0 == s.2.2.2.getD k 0) (fun k => (k : Int)) (re := ((pfx n.To.Dst).length : Int)) (fun k hk hp => by
    unfold F_ref29_Body_l4
    rw [size_r hv.1 (by omega), Option.bind_some, decT (by omega), decT (by omega), Int.toNat_natCast, key k hk]
    simp only [cond_true, hp, wk k (by omega)]) (fun k hk hp => by
    unfold F_ref29_Body_l4
    rw [size_r hv.1 (by omega), Option.bind_some, decT (by omega), decT (by omega), Int.toNat_natCast, key k hk]
    simp only [cond_true, hp, cond_false]) (by
    unfold F_ref29_Body_l4
    rw [size_r hv.1 (by omega), Option.bind_some, decF (by omega)]
    rfl)
  simp only [Int.natCast_zero] at hl
  have c := pfx_le w
  rcases hl with ⟨k, hk, hp, hj, e⟩ | ⟨hj, e⟩
  · rw [e, comm_iff _ s.2.2.2 k (by omega) (by omega) (fun j hjk => by simpa using hj j hjk) (fun _ => by simpa using hp)]
  · rw [e, comm_iff _ s.2.2.2 (pfx n.To.Dst).length (by omega) (by omega) (fun j hjk => by simpa using hj j hjk) (fun h => absurd h (by omega))]
theorem appb {a b : List Int} (ha : a.length ≤ 1000000000) (hb : b.length ≤ 1000000000) : appO 1 a b = some (a ++ b) := appO_some (by omega) (by omega)
theorem not_p {n : S_Notice} (g : GoodN n) {s : S_messages_state} (hs : s.elements.length ≤ 900000) (hd : s.dst.length = 16) : F_messages_state_notice_H00 s n = some (S_messages_state.mk (s.elements ++ encN s.router s.dst n) (nxR s.router n) (nxD s.dst n)) := by
  have w := good_wf g
  unfold F_messages_state_notice_H00
  cases g with
  | hello q h =>
    simp only [show ((1 : Int) == 1) = true from rfl, cond_true]
    rw [show (2 : Int) = ((2 : Nat) : Int) from rfl, wu h.1 (by omega), octets_append _ _ _ (by omega) (by simp), Option.bind_some, List.nil_append, el_p (by omega) 1 (by rw [beB_len]; omega)]
    rfl
  | heard m b h hb h0 =>
    simp only [show ((2 : Int) == 1) = false from rfl, show ((2 : Int) == 2) = true from rfl, cond_false, cond_true]
    rw [show (8 : Int) = ((8 : Nat) : Int) from rfl, octets_append _ _ _ (by omega) (by simp), Option.bind_some, List.nil_append, wu h.1 (by omega), show (2 : Int) = ((2 : Nat) : Int) from rfl, octets_append _ _ _ (by omega) (by rw [beB_len]; omega), Option.bind_some, el_p (by omega) _ (by rw [List.length_append, beB_len, beB_len]; omega)]
    rfl
  | update q m d c r hq h wd wc vd vc hr h0 =>
    simp only [show ((3 : Int) == 1) = false from rfl, show ((3 : Int) == 2) = false from rfl, show ((3 : Int) == 3) = true from rfl, cond_false, cond_true]
    have c1 := comm_le (pfx d) s.dst
    have c2 := pfx_le wd
    have c3 := pfx_le wc
    have core : ∀ v1 : S_messages_state, v1.elements.length ≤ 950000 → v1.dst = s.dst → F_messages_state_update_H00_j1 (S_Notice.mk 3 q m 0 (S_Destination.mk d c r) 0) v1 = some (S_messages_state.mk (v1.elements ++ el 3 ([(comm (pfx d) s.dst : Int), d.Bits, c.Bits] ++ beB q 2 ++ beB m 2 ++ (pfx d).drop (comm (pfx d) s.dst) ++ pfx c)) v1.router d.IP) := by
      intro v1 he hdst
      unfold F_messages_state_update_H00_j1
      dsimp only
      simp only [pb_p wd vd, pb_p wc vc, Option.bind_some, comm_p c2 hd v1 hdst, Cut.app]
      rw [wu hq.1 (by omega), wu h.1 (by omega), wu8 (by omega) (by omega), wu8 (vb vd).1 (by have := (vb vd).2; omega), wu8 (vb vc).1 (by have := (vb vc).2; omega), show (2 : Int) = ((2 : Nat) : Int) from rfl, octets_append _ _ _ (by omega) (by simp), Option.bind_some, octets_append _ _ _ (by omega) (by simp [beB_len]), Option.bind_some, subO_some (by omega) (by omega) (by omega), Option.bind_some]
      have e2 : ((pfx d).take (((pfx d).length : Nat) : Int).toNat).drop ((comm (pfx d) s.dst : Nat) : Int).toNat = (pfx d).drop (comm (pfx d) s.dst) := by simp
      rw [e2, appb (by simp [beB_len]) (by simp; omega), Option.bind_some, appb (by simp [beB_len]; omega) (by omega), Option.bind_some, el_p (by dsimp only; omega) 3 (by simp [beB_len]; omega)]
      rfl
    unfold F_messages_state_update_H00
    dsimp only
    by_cases hrr : r = s.router
    · rw [show (r != s.router) = false by simp [hrr], cond_false, core s (by omega) rfl]
      simp only [encN, nxR, nxD, show ¬ ((3 : Int) = 1) by omega, show ¬ ((3 : Int) = 2) by omega, if_true, if_false, hrr, ne_eq, not_true, List.nil_append, Option.bind_some]
    · rw [show (r != s.router) = true by simp [hrr], cond_true, show (8 : Int) = ((8 : Nat) : Int) from rfl, octets_append _ _ _ (by omega) (by simp), Option.bind_some, List.nil_append, el_p (by omega) 6 (by rw [beB_len]; omega), Option.bind_some]
      dsimp only
      rw [core (S_messages_state.mk (s.elements ++ el 6 (beB r 8)) r s.dst) (by dsimp only; rw [List.length_append, el_len, beB_len]; omega) rfl]
      simp only [encN, nxR, nxD, show ¬ ((3 : Int) = 1) by omega, show ¬ ((3 : Int) = 2) by omega, if_true, if_false, ne_eq, hrr, not_false_eq_true, List.append_assoc, Option.bind_some]
  | route d c wd wc vd vc =>
    simp only [show ((4 : Int) == 1) = false from rfl, show ((4 : Int) == 2) = false from rfl, show ((4 : Int) == 3) = false from rfl, show ((4 : Int) == 5) = false from rfl, cond_false]
    have c2 := pfx_le wd
    have c3 := pfx_le wc
    unfold F_messages_state_notice_H00_j1
    dsimp only
    simp only [pb_p wd vd, pb_p wc vc, Option.bind_some, Cut.app]
    rw [wu8 (vb vd).1 (by have := (vb vd).2; omega), wu8 (vb vc).1 (by have := (vb vc).2; omega), appb (by simp) (by omega), Option.bind_some, appb (by simp; omega) (by omega), Option.bind_some, el_p (by omega) 4 (by simp; omega)]
    rfl
  | seqr q h d c r hq hh wd wc vd vc hr h0 =>
    simp only [show ((5 : Int) == 1) = false from rfl, show ((5 : Int) == 2) = false from rfl, show ((5 : Int) == 3) = false from rfl, show ((5 : Int) == 5) = true from rfl, cond_false, cond_true]
    have c2 := pfx_le wd
    have c3 := pfx_le wc
    rw [wu hq.1 (by omega), wu8 (vb vd).1 (by have := (vb vd).2; omega), wu8 (vb vc).1 (by have := (vb vc).2; omega), wu8 (by omega) (by omega), show (2 : Int) = ((2 : Nat) : Int) from rfl, octets_append _ _ _ (by omega) (by simp), Option.bind_some]
    simp only [Cut.app]
    rw [appb (by simp [beB_len]) (by simp), Option.bind_some, show (8 : Int) = ((8 : Nat) : Int) from rfl, octets_append _ _ _ (by omega) (by simp [beB_len]), Option.bind_some]
    unfold F_messages_state_notice_H00_j1
    dsimp only
    simp only [pb_p wd vd, pb_p wc vc, Option.bind_some, Cut.app]
    rw [appb (by simp [beB_len]) (by omega), Option.bind_some, appb (by simp [beB_len]; omega) (by omega), Option.bind_some, el_p (by omega) 5 (by simp [beB_len]; omega)]
    rfl
theorem body_step {l : List S_Notice} {i : Nat} (hi : i < l.length) (g : GoodN l[i]) (hn : l.length ≤ 10000) {out : List Int} (ho : out.length ≤ 900000) (r : Int) {d : List Int} (hd : d.length = 16) :
    F_ref29_Body_l1 l (out, r, (i : Int), d) = some (.inl (out ++ encN r d l[i], nxR r l[i], ((i + 1 : Nat) : Int), nxD d l[i])) := by
  unfold F_ref29_Body_l1
  dsimp only
  rw [decT (by omega), idx_lt hi]
  simp only [cond_true, Option.bind_some]
  have wi1 := wk i (by omega)
  generalize l[i] = n at *
  have w := good_wf g
  cases g with
  | hello q h =>
    simp only [show ((1 : Int) == 1) = true from rfl, cond_true]
    rw [show (2 : Int) = ((2 : Nat) : Int) from rfl, wu h.1 (by omega), put_n _ _ (by omega), Option.bind_some, el_r (by omega) 1 (by rw [beB_len]; omega), Option.bind_some]
    unfold F_ref29_Body_j2
    dsimp only
    rw [wi1]
    rfl
  | heard m b h hb h0 =>
    simp only [show ((2 : Int) == 1) = false from rfl, show ((2 : Int) == 2) = true from rfl, cond_false, cond_true]
    rw [show (8 : Int) = ((8 : Nat) : Int) from rfl, put_n _ _ (by omega), Option.bind_some, wu h.1 (by omega), show (2 : Int) = ((2 : Nat) : Int) from rfl, put_g _ _ _ (by omega) (by rw [beB_len]; omega), Option.bind_some, el_r (by omega) _ (by rw [List.length_append, beB_len, beB_len]; omega), Option.bind_some]
    unfold F_ref29_Body_j2
    dsimp only
    rw [wi1]
    rfl
  | update q m p c r' hq h wd wc vd vc hr h0 =>
    simp only [show ((3 : Int) == 1) = false from rfl, show ((3 : Int) == 2) = false from rfl, show ((3 : Int) == 3) = true from rfl, cond_false, cond_true]
    have c1 := comm_le (pfx p) d
    have c2 := pfx_le wd
    have c3 := pfx_le wc
    have core : ∀ v15 : (List Int) × Int, v15.1.length ≤ 950000 → F_ref29_Body_j3 (S_Notice.mk 3 q m 0 (S_Destination.mk p c r') 0) (out, r, (i : Int), d) v15 = some (.inl (v15.1 ++ el 3 ([(comm (pfx p) d : Int), p.Bits, c.Bits] ++ beB q 2 ++ beB m 2 ++ (pfx p).drop (comm (pfx p) d) ++ pfx c), v15.2, ((i + 1 : Nat) : Int), p.IP)) := by
      intro v15 he
      unfold F_ref29_Body_j3
      rw [comm_r (n := S_Notice.mk 3 q m 0 (S_Destination.mk p c r') 0) wd vd (out, r, (i : Int), d) hd]
      dsimp only
      simp only [Option.bind_some, Cut.app]
      rw [wu hq.1 (by omega), wu h.1 (by omega), wu8 (by omega) (by omega), wu8 (vb vd).1 (by have := (vb vd).2; omega), wu8 (vb vc).1 (by have := (vb vc).2; omega), appb (by simp) (by simp), Option.bind_some, show (2 : Int) = ((2 : Nat) : Int) from rfl, put_g _ _ _ (by omega) (by simp), Option.bind_some, put_g _ _ _ (by omega) (by simp [beB_len]), Option.bind_some, part_r wd vd c1, Option.bind_some, appb (by simp [beB_len]) (by simp; omega), Option.bind_some, show (0 : Int) = ((0 : Nat) : Int) from rfl, part_r wc vc (by omega), Option.bind_some, appb (by simp [beB_len]; omega) (by simp; omega), Option.bind_some, el_r (by omega) 3 (by simp [beB_len]; omega), Option.bind_some]
      unfold F_ref29_Body_j2
      dsimp only
      rw [wi1]
      rfl
    by_cases hrr : r' = r
    · rw [show (r' != r) = false by simp [hrr], cond_false, core (out, r) (by dsimp only; omega)]
      simp only [encN, nxR, nxD, show ¬ ((3 : Int) = 1) by omega, show ¬ ((3 : Int) = 2) by omega, if_true, if_false, hrr, ne_eq, not_true, List.nil_append]
    · rw [show (r' != r) = true by simp [hrr], cond_true, show (8 : Int) = ((8 : Nat) : Int) from rfl, put_n _ _ (by omega), Option.bind_some, el_r (by omega) 6 (by rw [beB_len]; omega), Option.bind_some]
      rw [core _ (by dsimp only; rw [List.length_append, el_len, beB_len]; omega)]
      simp only [encN, nxR, nxD, show ¬ ((3 : Int) = 1) by omega, show ¬ ((3 : Int) = 2) by omega, if_true, if_false, ne_eq, hrr, not_false_eq_true, List.append_assoc]
  | route p c wd wc vd vc =>
    simp only [show ((4 : Int) == 1) = false from rfl, show ((4 : Int) == 2) = false from rfl, show ((4 : Int) == 3) = false from rfl, show ((4 : Int) == 4) = true from rfl, cond_false, cond_true]
    have c2 := pfx_le wd
    have c3 := pfx_le wc
    simp only [Cut.app]
    rw [wu8 (vb vd).1 (by have := (vb vd).2; omega), wu8 (vb vc).1 (by have := (vb vc).2; omega), appb (by simp) (by simp), Option.bind_some, show (0 : Int) = ((0 : Nat) : Int) from rfl, part_r wd vd (by omega), Option.bind_some, appb (by simp) (by simp; omega), Option.bind_some, part_r wc vc (by omega), Option.bind_some, appb (by simp; omega) (by simp; omega), Option.bind_some, el_r (by omega) 4 (by simp; omega), Option.bind_some]
    unfold F_ref29_Body_j2
    dsimp only
    rw [wi1]
    rfl
  | seqr q h p c r' hq hh wd wc vd vc hr h0 =>
    simp only [show ((5 : Int) == 1) = false from rfl, show ((5 : Int) == 2) = false from rfl, show ((5 : Int) == 3) = false from rfl, show ((5 : Int) == 4) = false from rfl, show ((5 : Int) == 5) = true from rfl, cond_false, cond_true]
    have c2 := pfx_le wd
    have c3 := pfx_le wc
    simp only [Cut.app]
    rw [wu hq.1 (by omega), wu8 (vb vd).1 (by have := (vb vd).2; omega), wu8 (vb vc).1 (by have := (vb vc).2; omega), wu8 (by omega) (by omega), appb (by simp) (by simp), Option.bind_some, show (2 : Int) = ((2 : Nat) : Int) from rfl, put_g _ _ _ (by omega) (by simp), Option.bind_some, appb (by simp [beB_len]) (by simp), Option.bind_some, show (8 : Int) = ((8 : Nat) : Int) from rfl, put_g _ _ _ (by omega) (by simp [beB_len]), Option.bind_some, show (0 : Int) = ((0 : Nat) : Int) from rfl, part_r wd vd (by omega), Option.bind_some, appb (by simp [beB_len]) (by simp; omega), Option.bind_some, part_r wc vc (by omega), Option.bind_some, appb (by simp [beB_len]; omega) (by simp; omega), Option.bind_some, el_r (by omega) 5 (by simp [beB_len]; omega), Option.bind_some]
    unfold F_ref29_Body_j2
    dsimp only
    rw [wi1]
    rfl
end
section
open Go.RowKit

theorem encL_append (r : Int) (d : List Int) : ∀ a b : List S_Notice, encL r d (a ++ b) = encL r d a ++ encL (a.foldl nxR r) (a.foldl nxD d) b
  | [], b => rfl
  | n :: a, b => by simp only [List.cons_append, encL, List.foldl_cons, encL_append (nxR r n) (nxD d n) a b, List.append_assoc]
theorem encL_len (r : Int) (d : List Int) : ∀ l : List S_Notice, (∀ n ∈ l, GoodN n) → (encL r d l).length ≤ 51 * l.length
  | [], _ => by simp [encL]
  | n :: l, h => by
    have h1 := encN_len r d (h n (by simp))
    have h2 := encL_len (nxR r n) (nxD d n) l (fun m hm => h m (by simp [hm]))
    simp only [encL, List.length_append, List.length_cons]
    omega
theorem nxD_len {d : List Int} (hd : d.length = 16) {n : S_Notice} (w : WfN n) : (nxD d n).length = 16 := by
  unfold nxD
  split
  · exact w.dst.1
  · exact hd
theorem foldD_len : ∀ (l : List S_Notice) {d : List Int}, d.length = 16 → (∀ n ∈ l, WfN n) → (l.foldl nxD d).length = 16
  | [], _, h, _ => h
  | n :: l, _, h, w => foldD_len l (nxD_len h (w n (by simp))) (fun m hm => w m (by simp [hm]))
def stP (l : List S_Notice) (k : Nat) : S_messages_state := S_messages_state.mk (encL 0 ad0 (l.take k)) ((l.take k).foldl nxR 0) ((l.take k).foldl nxD ad0)
theorem take_good {l : List S_Notice} (g : ∀ n ∈ l, GoodN n) (k : Nat) : ∀ n ∈ l.take k, GoodN n := fun n hn => g n (List.mem_of_mem_take hn)
theorem stP_len {l : List S_Notice} (g : ∀ n ∈ l, GoodN n) (k : Nat) : (stP l k).elements.length ≤ 51 * k := by
  have := encL_len 0 ad0 (l.take k) (take_good g k)
  have h2 : (l.take k).length ≤ k := by rw [List.length_take]; omega
  unfold stP
  dsimp only
  omega
theorem stP_dst {l : List S_Notice} (g : ∀ n ∈ l, GoodN n) (k : Nat) : (stP l k).dst.length = 16 := foldD_len _ rfl fun n hn => good_wf (take_good g k n hn)
theorem take_succ' {α : Type} {l : List α} {k : Nat} (hk : k < l.length) : l.take (k + 1) = l.take k ++ [l[k]] := (List.take_append_getElem hk).symm
theorem stP_next {l : List S_Notice} {k : Nat} (hk : k < l.length) : stP l (k + 1) = S_messages_state.mk ((stP l k).elements ++ encN (stP l k).router (stP l k).dst l[k]) (nxR (stP l k).router l[k]) (nxD (stP l k).dst l[k]) := by
  unfold stP
  rw [take_succ' hk, encL_append, List.foldl_append, List.foldl_append]
  simp [encL]
theorem not_k {l : List S_Notice} (g : ∀ n ∈ l, GoodN n) {k : Nat} (hk : k < l.length) (hn : k ≤ 10000) : F_messages_state_notice_H00 (stP l k) l[k] = some (stP l (k + 1)) := by
  rw [not_p (g _ (List.getElem_mem hk)) (by have := stP_len g k; omega) (stP_dst g k), stP_next hk]
def pk (at_ : Int) (l : List S_Notice) : List Int := [42, 1] ++ beB at_ 5 ++ beB ((encL 0 ad0 l).length : Int) 2 ++ encL 0 ad0 l
theorem pk_len (at_ : Int) (l : List S_Notice) : (pk at_ l).length = (encL 0 ad0 l).length + 9 := by
  simp [pk, beB_len]
  omega
theorem packet_p {s : S_messages_state} (hs : s.elements.length ≤ 1000000) {at_ : Int} (h0 : 0 ≤ at_) (h1 : at_ < 1099511627776) : F_messages_state_packet s at_ = some ([42, 1] ++ beB at_ 5 ++ beB (s.elements.length : Int) 2 ++ s.elements) := by
  unfold F_messages_state_packet
  rw [wu h0 (by omega), show (5 : Int) = ((5 : Nat) : Int) from rfl, octets_append _ _ _ (by omega) (by simp), Option.bind_some, wu (by omega) (by omega), show (2 : Int) = ((2 : Nat) : Int) from rfl, octets_append _ _ _ (by omega) (by simp [beB_len]), Option.bind_some]
  simp only [Cut.app]
  rw [appb (by simp [beB_len]) (by omega)]
  rfl
noncomputable def encS (at_ : Int) (l : List S_Notice) : List Int × Int :=
  if l.length > 64 then ([], 3) else if l.all validN = false then ([], 1) else if at_ < 0 ∨ at_ ≥ 1099511627776 then ([], 2) else (pk at_ l, 0)
theorem all_p {l : List S_Notice} (w : ∀ n ∈ l, WfN n) (hl : l.length ≤ 4611686018427387904) : F_messages_allValid l = some (l.all validN) := by
  unfold F_messages_allValid
  have h := loop_all (step := F_messages_allValid_l1 l) (S := fun k => (k : Int)) l.length (fun k => (l[k]?.map validN).getD true) (rt := Sum.inl ()) (rf := Sum.inr false) (fun k hk hp => by
    unfold F_messages_allValid_l1
    rw [decT (by omega), idx_lt hk]
    rw [List.getElem?_eq_getElem hk] at hp
    simp only [Option.map_some, Option.getD_some] at hp
    simp only [cond_true, Option.bind_some, valid_p (w _ (List.getElem_mem hk)), hp, wk k (by omega)]) (fun k hk hp => by
    unfold F_messages_allValid_l1
    rw [decT (by omega), idx_lt hk]
    rw [List.getElem?_eq_getElem hk] at hp
    simp only [Option.map_some, Option.getD_some] at hp
    simp only [cond_true, Option.bind_some, valid_p (w _ (List.getElem_mem hk)), hp, cond_false]) (by
    unfold F_messages_allValid_l1
    rw [decF (by omega)]
    rfl)
  simp only [Int.natCast_zero] at h
  rw [h]
  have e : (∀ k, k < l.length → (l[k]?.map validN).getD true = true) ↔ l.all validN = true := by
    rw [List.all_eq_true]
    constructor
    · intro hk n hn
      obtain ⟨k, hk', rfl⟩ := List.getElem_of_mem hn
      have := hk k hk'
      rw [List.getElem?_eq_getElem hk'] at this
      simpa using this
    · intro hn k hk
      rw [List.getElem?_eq_getElem hk]
      simpa using hn _ (List.getElem_mem hk)
  by_cases ha : l.all validN = true
  · rw [if_pos (e.2 ha), ha]; rfl
  · rw [if_neg (fun h => ha (e.1 h))]
    rw [Bool.not_eq_true] at ha
    rw [ha]; rfl
theorem all_r {l : List S_Notice} (hl : l.length ≤ 4611686018427387904) : loopO (F_ref29_Encode_l1 l) 0 = some (if l.all validN = true then Sum.inl () else Sum.inr (([] : List Int), 1)) := by
  have h := loop_all (step := F_ref29_Encode_l1 l) (S := fun k => (k : Int)) l.length (fun k => (l[k]?.map validN).getD true) (rt := Sum.inl ()) (rf := Sum.inr (([] : List Int), 1)) (fun k hk hp => by
    unfold F_ref29_Encode_l1
    rw [decT (by omega), idx_lt hk]
    rw [List.getElem?_eq_getElem hk] at hp
    simp only [Option.map_some, Option.getD_some] at hp
    simp only [cond_true, Option.bind_some, valid_r, hp, wk k (by omega)]) (fun k hk hp => by
    unfold F_ref29_Encode_l1
    rw [decT (by omega), idx_lt hk]
    rw [List.getElem?_eq_getElem hk] at hp
    simp only [Option.map_some, Option.getD_some] at hp
    simp only [cond_true, Option.bind_some, valid_r, hp, cond_false]) (by
    unfold F_ref29_Encode_l1
    rw [decF (by omega)]
    rfl)
  simp only [Int.natCast_zero] at h
  rw [h]
  have e : (∀ k, k < l.length → (l[k]?.map validN).getD true = true) ↔ l.all validN = true := by
    rw [List.all_eq_true]
    constructor
    · intro hk n hn
      obtain ⟨k, hk', rfl⟩ := List.getElem_of_mem hn
      have := hk k hk'
      rw [List.getElem?_eq_getElem hk'] at this
      simpa using this
    · intro hn k hk
      rw [List.getElem?_eq_getElem hk]
      simpa using hn _ (List.getElem_mem hk)
  by_cases ha : l.all validN = true
  · rw [if_pos (e.2 ha), if_pos ha]
  · rw [if_neg (fun h => ha (e.1 h)), if_neg ha]
theorem all_good {l : List S_Notice} (w : ∀ n ∈ l, WfN n) (h : l.all validN = true) : ∀ n ∈ l, GoodN n := fun n hn => valid_good (w n hn) (List.all_eq_true.1 h n hn)
theorem good_all {l : List S_Notice} (g : ∀ n ∈ l, GoodN n) : l.all validN = true := List.all_eq_true.2 fun n hn => good_valid (g n hn)
theorem enc_p {l : List S_Notice} (w : ∀ n ∈ l, WfN n) (at_ : Int) : F_messages_Encode at_ l = some (encS at_ l) := by
  unfold F_messages_Encode encS
  by_cases h64 : l.length > 64
  · rw [decT (show (l.length : Int) > 64 by omega), if_pos h64]
    rfl
  rw [decF (show ¬ (l.length : Int) > 64 by omega), if_neg h64, cond_false, all_p w (by omega), Option.bind_some]
  by_cases ha : l.all validN = true
  rotate_left
  · rw [Bool.not_eq_true] at ha
    rw [ha, if_pos rfl]
    rfl
  have g := all_good w ha
  rw [ha, cond_true, if_neg (by simp)]
  unfold F_messages_isCreation
  by_cases h0 : at_ < 0
  · rw [decF (show ¬ at_ ≥ 0 by omega), if_pos (.inl h0)]
    rfl
  rw [decT (show at_ ≥ 0 by omega)]
  by_cases h1 : at_ ≥ 1099511627776
  · rw [decF (show ¬ at_ < 1099511627776 by omega), if_pos (.inr h1)]
    rfl
  rw [decT (show at_ < 1099511627776 by omega), if_neg (by omega)]
  simp only [cond_true, Option.bind_some]
  have hl := loop_run (step := F_messages_Encode_l1 l) (S := fun k => ((k : Int), stP l k)) l.length (r := stP l l.length) (fun k hk => by
    unfold F_messages_Encode_l1
    dsimp only
    rw [decT (by omega), idx_lt hk]
    simp only [cond_true, Option.bind_some, not_k g hk (by omega)]
    rw [wk k (by omega)]) (by
    unfold F_messages_Encode_l1
    dsimp only
    rw [decF (by omega)]
    rfl)
  have hl' : loopO (F_messages_Encode_l1 l) (0, S_messages_state.mk [] 0 [0, 0, 0, 0, 0, 0, 0, 0, 0, 0, 0, 0, 0, 0, 0, 0]) = some (stP l l.length) := hl
  rw [hl', Option.bind_some, packet_p (by have := stP_len g l.length; omega) (by omega) (by omega), Option.bind_some]
  unfold stP pk
  rw [List.take_length]
theorem body_r {l : List S_Notice} (g : ∀ n ∈ l, GoodN n) (hn : l.length ≤ 10000) : F_ref29_Body l = some (encL 0 ad0 l) := by
  unfold F_ref29_Body
  have hl := loop_run (step := F_ref29_Body_l1 l) (S := fun k => ((stP l k).elements, (stP l k).router, (k : Int), (stP l k).dst)) l.length (r := encL 0 ad0 l) (fun k hk => by
    rw [body_step hk (g _ (List.getElem_mem hk)) hn (by have := stP_len g k; omega) _ (stP_dst g k), stP_next hk]) (by
    unfold F_ref29_Body_l1
    dsimp only
    rw [decF (by omega)]
    unfold stP
    rw [List.take_length]
    rfl)
  have hl' : loopO (F_ref29_Body_l1 l) (([] : List Int), 0, 0, [0, 0, 0, 0, 0, 0, 0, 0, 0, 0, 0, 0, 0, 0, 0, 0]) = some (encL 0 ad0 l) := hl
  rw [hl']
  rfl
end
section
open Go.RowKit

theorem ior_comm (x y : Int) : ior .u64 x y = ior .u64 y x := by unfold ior; rw [BitVec.or_comm]
theorem be_step {v c : Int} (h0 : 0 ≤ v) (h1 : v < 72057594037927936) (c0 : 0 ≤ c) (c1 : c ≤ 255) : ior .u64 (ishl .u64 v 8) (IntKind.wrap .u64 c) = v * 256 + c := by
  have e : (2 : Int) ^ (8 : Int).toNat = 2 ^ 8 := rfl
  have e2 : (256 : Int) = 2 ^ 8 := rfl
  rw [ishl_eq (by omega) (by omega), wu c0 (by omega), e, Int.emod_eq_of_lt (Int.mul_nonneg h0 (by decide)) (by rw [← e2]; omega), ior_comm, ior_add 8 c0 (by omega) h0 (by rw [← e2]; omega)]
  omega
theorem be_fold (l : List Int) (h : okB l) (h8 : l.length ≤ 8) (k : Nat) (hk : k < l.length) : ior .u64 (ishl .u64 (beN (l.take k)) 8) (IntKind.wrap .u64 l[k]) = beN (l.take (k + 1)) := by
  have hb := beN_bd (h.take k)
  have hl : (l.take k).length = k := by rw [List.length_take]; omega
  have hp : (256 : Int) ^ k ≤ 72057594037927936 := by
    have : k ≤ 7 := by omega
    rcases k with _ | _ | _ | _ | _ | _ | _ | _ | k
    all_goals first | decide | omega
  rw [hl] at hb
  have hx := h.get hk
  rw [be_step hb.1 (by omega) hx.1 hx.2, take_snoc (List.getElem?_eq_getElem hk), beN_snoc]
theorem beN_beB (v : Int) (n : Nat) : beN (beB v n) = v % 256 ^ n := by
  induction n generalizing v with
  | zero => simp [beB, beN, Int.emod_one]
  | succ n ih =>
    have e : beB v (n + 1) = beB (v / 256) n ++ [v % 256] := by
      apply List.ext_getElem?
      intro i
      rcases Nat.lt_trichotomy i n with hi | hi | hi
      · rw [beB_get (by omega), List.getElem?_append_left (by rw [beB_len]; exact hi), beB_get hi]
        congr 2
        rw [show n + 1 - 1 - i = (n - 1 - i) + 1 by omega, Nat.mul_add, Int.pow_add]
        rw [Int.mul_comm, ← Int.ediv_ediv_of_nonneg (by decide)]
        rfl
      · subst hi
        rw [beB_get (by omega), List.getElem?_append_right (by rw [beB_len]; exact Nat.le_refl _), beB_len]
        simp
      · rw [List.getElem?_eq_none (by rw [beB_len]; omega), List.getElem?_eq_none (by simp [beB_len]; omega)]
    rw [e, beN_snoc, ih, Int.pow_succ]
    have h1 := Int.emod_add_mul_ediv v 256
    have h2 := Int.emod_add_mul_ediv (v / 256) (256 ^ n)
    have hp : (0 : Int) < 256 ^ n := Int.pow_pos (by decide)
    have h3 := Int.emod_nonneg (v / 256) (Int.ne_of_gt hp)
    have h4 := Int.emod_lt_of_pos (v / 256) hp
    have h5 := Int.emod_nonneg v (show (256 : Int) ≠ 0 by decide)
    have h6 := Int.emod_lt_of_pos v (show (0 : Int) < 256 by decide)
    have h7 : v = (v / 256 % 256 ^ n * 256 + v % 256) + (256 ^ n * 256) * (v / 256 / 256 ^ n) := by
      have : 256 * (256 ^ n * (v / 256 / 256 ^ n)) = (256 ^ n * 256) * (v / 256 / 256 ^ n) := by
        rw [← Int.mul_assoc, Int.mul_comm (256 : Int) (256 ^ n)]
      omega
    have h8 : (0 : Int) ≤ v / 256 % 256 ^ n * 256 + v % 256 := by omega
    have h9 : v / 256 % 256 ^ n * 256 + v % 256 < 256 ^ n * 256 := by omega
    conv => rhs; rw [h7]
    rw [Int.add_mul_emod_self_left, Int.emod_eq_of_lt h8 h9]
theorem uint_loop {l : List Int} (h : okB l) (h8 : l.length ≤ 8) : loopO (F_octets_Uint_l1 l) (0, 0) = some (beN l) := by
  have hl := loop_run (step := F_octets_Uint_l1 l) (S := fun k => (beN (l.take k), (k : Int))) l.length (r := beN l) (fun k hk => by
    unfold F_octets_Uint_l1
    dsimp only
    rw [decT (show (k : Int) < (l.length : Int) by omega), idx_lt hk]
    simp only [cond_true, Option.bind_some]
    rw [be_fold l h h8 k hk, wk k (by omega)]) (by
    unfold F_octets_Uint_l1
    dsimp only
    rw [decF (show ¬ (l.length : Int) < (l.length : Int) by omega)]
    simp only [cond_false, List.take_length])
  exact hl
/-- octets.Uint within the list -/
theorem uint_some {b : List Int} (h : okB b) (hb : b.length ≤ 1000000000000) (i n : Nat) (h1 : 1 ≤ n) (h8 : n ≤ 8) (hi : i + n ≤ b.length) : F_octets_Uint b i n = some (beN ((b.drop i).take n), true) := by
  unfold F_octets_Uint
  rw [decF (show ¬ (n : Int) < 1 by omega), decF (show ¬ (n : Int) > 8 by omega), decF (show ¬ (i : Int) < 0 by omega), wi (by omega) (by omega), decF (show ¬ (i : Int) > (b.length : Int) - (n : Int) by omega), wi (by omega) (by omega), subO_some (by omega) (by omega) (by omega)]
  simp only [cond_false, Option.bind_some]
  rw [show (b.take ((i : Int) + (n : Int)).toNat).drop (i : Int).toNat = (b.drop i).take n by rw [show ((i : Int) + (n : Int)).toNat = i + n by omega, Int.toNat_natCast, List.drop_take, Nat.add_sub_cancel_left]]
  rw [uint_loop ((h.drop i).take n) (by rw [List.length_take]; omega)]
  rfl
/-- octets.Uint behind the end -/
theorem uint_none {b : List Int} (hb : b.length ≤ 1000000000000) (i n : Nat) (h1 : 1 ≤ n) (h8 : n ≤ 8) (hi : b.length < i + n) : F_octets_Uint b i n = some (0, false) := by
  unfold F_octets_Uint
  rw [decF (show ¬ (n : Int) < 1 by omega), decF (show ¬ (n : Int) > 8 by omega), decF (show ¬ (i : Int) < 0 by omega), wi (by omega) (by omega), decT (show (i : Int) > (b.length : Int) - (n : Int) by omega)]
  rfl
end
section
open Go.RowKit

/-- sixteen bytes that begin with these -/
def fillA (l : List Int) : List Int := l ++ List.replicate (16 - l.length) 0
theorem fillA_len {l : List Int} (h : l.length ≤ 16) : (fillA l).length = 16 := by
  unfold fillA
  rw [List.length_append, List.length_replicate]
  omega
theorem fillA_get (l : List Int) (j : Nat) : (fillA l).getD j 0 = l.getD j 0 := by
  unfold fillA
  simp only [List.getD_eq_getElem?_getD, List.getElem?_append]
  split
  · rfl
  · rename_i h
    rw [List.getElem?_eq_none (l := l) (by omega)]
    by_cases h2 : j - l.length < 16 - l.length
    · rw [List.getElem?_replicate_of_lt h2]; rfl
    · rw [List.getElem?_eq_none (by simp; omega)]
theorem fillA_ok {l : List Int} (h : okB l) : Bytes (fillA l) := fun z hz => by
  rcases List.mem_append.1 hz with h1 | h1
  · exact h z h1
  · rw [(List.mem_replicate.1 h1).2]; exact ⟨by omega, by omega⟩
theorem fillA_wf {l : List Int} (h : okB l) (hl : l.length ≤ 16) (b : Int) : wfP (S_Prefix.mk (fillA l) b) := ⟨fillA_len hl, fillA_ok h⟩
theorem arr_ext {a b : List Int} (ha : a.length = 16) (hb : b.length = 16) (h : ∀ j, j < 16 → a.getD j 0 = b.getD j 0) : a = b := by
  refine List.ext_getElem (by omega) fun i h1 h2 => ?_
  have := h i (by omega)
  rwa [getD_get h1, getD_get h2] at this
theorem ad0_get (j : Nat) : ad0.getD j 0 = 0 := by
  unfold ad0
  by_cases h : j < 16
  · have : j = 0 ∨ j = 1 ∨ j = 2 ∨ j = 3 ∨ j = 4 ∨ j = 5 ∨ j = 6 ∨ j = 7 ∨ j = 8 ∨ j = 9 ∨ j = 10 ∨ j = 11 ∨ j = 12 ∨ j = 13 ∨ j = 14 ∨ j = 15 := by omega
    rcases this with rfl | rfl | rfl | rfl | rfl | rfl | rfl | rfl | rfl | rfl | rfl | rfl | rfl | rfl | rfl | rfl <;> rfl
  · rw [List.getD_eq_getElem?_getD, List.getElem?_eq_none (by simp; omega)]
    rfl
theorem rg_get (f : Nat → Int) {j : Nat} (h : j < 16) : ((List.range 16).map f).getD j 0 = f j := by
  rw [getD_get (by simpa using h)]
  simp
theorem cpA_fill {l : List Int} (h : l.length ≤ 16) : cpA 16 ad0 l = fillA l := by
  refine arr_ext (by simp [cpA]) (fillA_len h) fun j hj => ?_
  rw [fillA_get]
  unfold cpA
  rw [rg_get _ hj, ad0_get]
  split
  · rfl
  · rename_i h
    rw [List.getD_eq_getElem?_getD, List.getElem?_eq_none (by omega)]
    rfl
theorem cpAt_fill {a m : List Int} (h : a.length + m.length ≤ 16) : cpAt 16 (fillA a) a.length (16 - a.length) m = fillA (a ++ m) := by
  refine arr_ext (by simp [cpAt]) (fillA_len (by rw [List.length_append]; exact h)) fun j hj => ?_
  rw [fillA_get]
  unfold cpAt
  rw [rg_get _ hj, fillA_get]
  simp only [List.getD_eq_getElem?_getD, List.getElem?_append]
  split
  · rw [if_neg (by omega)]
  · split
    · omega
    · rw [List.getElem?_eq_none (l := a) (by omega), List.getElem?_eq_none (l := m) (by omega)]
/-- a valid prefix is its own bytes and zeros -/
theorem pfx_fill {p : S_Prefix} (w : wfP p) (v : vpB p = true) : fillA (pfx p) = p.IP := by
  have hv := vpB_iff.1 v
  have hm := (mask_eq_self w.1 w.2 p.Bits.toNat).2 hv.2.2
  refine arr_ext (fillA_len (pfx_le w)) w.1 fun j hj => ?_
  rw [fillA_get]
  by_cases h : j < sz p.Bits
  · rw [getD_get (by rw [pfx_len w v]; exact h), getD_get (by rw [w.1]; exact hj)]
    simp [pfx]
  · rw [List.getD_eq_getElem?_getD, List.getElem?_eq_none (by rw [pfx_len w v]; omega)]
    rw [← hm, maskL_get _ _ hj]
    have hc : clamp p.Bits.toNat j = 0 := by unfold clamp; unfold sz at h; omega
    rw [hc]
    have key : ∀ x : Fin 256, maskB x 0 = 0 := by decide +kernel
    obtain ⟨x, hx⟩ := byte_fin (getD_byte w.2 j)
    rw [hx, key x]
    rfl
def numB (b : List Int) (i n : Nat) : Int := if i + n ≤ b.length then beN ((b.drop i).take n) else 0
theorem num_p {b : List Int} (h : okB b) (hb : b.length ≤ 1000000) (i n : Nat) (h1 : 1 ≤ n) (h8 : n ≤ 8) : F_messages_read_1_R472 i n b = some (numB b i n) := by
  unfold F_messages_read_1_R472 numB
  by_cases hi : i + n ≤ b.length
  · rw [uint_some h (by omega) i n h1 h8 hi, if_pos hi]
    rfl
  · rw [uint_none (by omega) i n h1 h8 (by omega), if_neg hi]
    rfl
theorem num_bd {b : List Int} (h : okB b) (i n : Nat) : 0 ≤ numB b i n ∧ numB b i n < 256 ^ n := by
  unfold numB
  have hp : (0 : Int) < 256 ^ n := Int.pow_pos (by omega)
  split
  · rename_i hi
    have := beN_bd (l := (b.drop i).take n) (fun z hz => h z (List.mem_of_mem_drop (List.mem_of_mem_take hz)))
    rwa [List.length_take, List.length_drop, Nat.min_eq_left (by omega)] at this
  · omega
theorem num_at {a b c : List Int} (n : Nat) (hb : b.length = n) : numB (a ++ b ++ c) a.length n = beN b := by
  unfold numB
  rw [if_pos (by simp; omega)]
  congr 1
  rw [List.append_assoc, List.drop_left, List.take_append_of_le_length (by omega), List.take_of_length_le (by omega)]
theorem beN_one (v : Int) : beN [v] = v := by simp [beN]
def badN : S_Notice := S_Notice.mk 0 0 0 0 t0 0
theorem badN_wf : WfN badN := ⟨by decide, by decide, by decide, wfP0, wfP0⟩
def fits (x y k : Int) (len a : Nat) : Prop := x ≤ 128 ∧ y ≤ 128 ∧ k ≤ sz x ∧ a ≤ len ∧ len = a + (sz x - k.toNat) + sz y
instance (x y k : Int) (len a : Nat) : Decidable (fits x y k len a) := by unfold fits; infer_instance
def dstL (before body : List Int) (x k : Int) (a : Nat) : List Int := fillA (before.take k.toNat ++ (body.drop a).take (sz x - k.toNat))
def srcL (body : List Int) (x k : Int) (a : Nat) : List Int := fillA (body.drop (a + (sz x - k.toNat)))
theorem pfs_p {n : S_Notice} (e1 : n.To.Dst.IP = ad0) (e2 : n.To.Src.IP = ad0) {x y k : Int} (hx : 0 ≤ x ∧ x ≤ 255) (hy : 0 ≤ y ∧ y ≤ 255) (hk : 0 ≤ k ∧ k ≤ 255) {before : List Int} (hbf : before.length = 16) {body : List Int} (hb : body.length ≤ 1000000) (a : Nat) (ha : a ≤ 13) :
    F_messages_prefixes n x y k before body a = some (if fits x y k body.length a then (S_Notice.mk n.Kind n.Seq n.Metric n.Neighbour (S_Destination.mk (S_Prefix.mk (dstL before body x k a) x) (S_Prefix.mk (srcL body x k a) y) n.To.Router) n.Hops, true) else (badN, false)) := by
  unfold F_messages_prefixes
  by_cases h1 : x > 128
  · rw [decT h1, if_neg (show ¬ fits x y k body.length a by unfold fits; omega)]
    rfl
  rw [decF h1]
  by_cases h2 : y > 128
  · rw [decT h2, if_neg (show ¬ fits x y k body.length a by unfold fits; omega)]
    rfl
  rw [decF h2]
  simp only [cond_false]
  have z1 := sz_le hx.1 (by omega : x ≤ 128)
  have z2 := sz_le hy.1 (by omega : y ≤ 128)
  rw [wi (x := x) (by omega) (by omega), wi (x := y) (by omega) (by omega), wi (x := k) (by omega) (by omega), size_p hx.1 hx.2, size_p hy.1 hy.2]
  simp only [Option.bind_some]
  rw [wu (by omega) (by omega)]
  by_cases h3 : k > sz x
  · rw [decT h3, if_neg (show ¬ fits x y k body.length a by unfold fits; omega)]
    rfl
  rw [decF h3]
  by_cases h4 : (body.length : Int) < a
  · rw [decT h4, if_neg (show ¬ fits x y k body.length a by unfold fits; omega)]
    rfl
  rw [decF h4]
  simp only [cond_false]
  rw [wi (x := (sz x : Int) - k) (by omega) (by omega), wi (x := (a : Int) + ((sz x : Int) - k)) (by omega) (by omega), wi (x := (a : Int) + ((sz x : Int) - k) + sz y) (by omega) (by omega)]
  by_cases h5 : (body.length : Int) = (a : Int) + ((sz x : Int) - k) + sz y
  rotate_left
  · rw [show ((body.length : Int) != (a : Int) + ((sz x : Int) - k) + sz y) = true by simp [h5], if_neg (show ¬ fits x y k body.length a by unfold fits; omega)]
    rfl
  rw [show ((body.length : Int) != (a : Int) + ((sz x : Int) - k) + sz y) = false by simp [h5], if_pos (show fits x y k body.length a by unfold fits; omega), arrL_id hbf, subO_some (by omega) (by omega) (by omega), decT (by omega), decT (by omega), subO_some (by omega) (by omega) (by omega), subO_some (by omega) (by omega) (by omega)]
  simp only [cond_false, cond_true, Option.bind_some, Cut.app, e1, e2]
  have q1 : ((a : Int) + ((sz x : Int) - k)).toNat = a + (sz x - k.toNat) := by omega
  have q2 : (((body.length : Nat) : Int)).toNat = body.length := Int.toNat_natCast _
  have q3 : ((a : Nat) : Int).toNat = a := Int.toNat_natCast _
  rw [q1, q2, q3, List.take_length]
  have l1 : (before.take k.toNat).length = k.toNat := by rw [List.length_take, hbf]; omega
  have d1 : (before.take k.toNat).drop (Int.toNat 0) = before.take k.toNat := by simp
  have d2 : (body.take (a + (sz x - k.toNat))).drop a = (body.drop a).take (sz x - k.toNat) := by
    rw [List.drop_take]
    congr 1
    omega
  have l2 : ((body.drop a).take (sz x - k.toNat)).length = sz x - k.toNat := by rw [List.length_take, List.length_drop]; omega
  have c1 := cpAt_fill (a := before.take k.toNat) (m := (body.drop a).take (sz x - k.toNat)) (by omega)
  rw [l1] at c1
  rw [d1, d2, cpA_fill (by omega), cpA_fill (by rw [List.length_drop]; omega), show (Int.toNat (16 : Int) - k.toNat) = 16 - k.toNat from rfl, c1]
  rfl
def readS (k : Int) (b : List Int) (r : Int) (d : List Int) : S_Notice × Bool :=
  if k = 1 then (S_Notice.mk 1 (numB b 0 2) 0 0 t0 0, true)
  else if k = 2 then (S_Notice.mk 2 0 (numB b 8 2) (numB b 0 8) t0 0, true)
  else if k = 3 then (if fits (numB b 1 1) (numB b 2 1) (numB b 0 1) b.length 7 then (S_Notice.mk 3 (numB b 3 2) (numB b 5 2) 0 (S_Destination.mk (S_Prefix.mk (dstL d b (numB b 1 1) (numB b 0 1) 7) (numB b 1 1)) (S_Prefix.mk (srcL b (numB b 1 1) (numB b 0 1) 7) (numB b 2 1)) r) 0, true) else (badN, false))
  else if k = 4 then (if fits (numB b 0 1) (numB b 1 1) 0 b.length 2 then (S_Notice.mk 4 0 0 0 (S_Destination.mk (S_Prefix.mk (dstL d b (numB b 0 1) 0 2) (numB b 0 1)) (S_Prefix.mk (srcL b (numB b 0 1) 0 2) (numB b 1 1)) 0) 0, true) else (badN, false))
  else if k = 5 then (if fits (numB b 0 1) (numB b 1 1) 0 b.length 13 then (S_Notice.mk 5 (numB b 2 2) 0 0 (S_Destination.mk (S_Prefix.mk (dstL d b (numB b 0 1) 0 13) (numB b 0 1)) (S_Prefix.mk (srcL b (numB b 0 1) 0 13) (numB b 1 1)) (numB b 5 8)) (numB b 4 1), true) else (badN, false))
  else (badN, false)
theorem read_p {b : List Int} (h : okB b) (hb : b.length ≤ 255) (k : Int) {s : S_messages_state} (hd : s.dst.length = 16) : F_messages_read k b s = some (readS k b s.router s.dst) := by
  have n1 := fun i => num_bd h i 1
  have n2 := fun i => num_bd h i 2
  have e1 := fun i => num_p h (by omega) i 1 (by omega) (by omega)
  have e2 := fun i => num_p h (by omega) i 2 (by omega) (by omega)
  have e8 := fun i => num_p h (by omega) i 8 (by omega) (by omega)
  have b1 : ∀ i, 0 ≤ numB b i 1 ∧ numB b i 1 ≤ 255 := fun i => by have := n1 i; omega
  have b2 : ∀ i, 0 ≤ numB b i 2 ∧ numB b i 2 ≤ 65535 := fun i => by have := n2 i; omega
  unfold F_messages_read readS
  by_cases k1 : k = 1
  · subst k1
    have := e2 0
    simp only [Int.natCast_zero, show ((2 : Nat) : Int) = 2 from rfl] at this
    simp only [show ((1 : Int) == 1) = true from rfl, cond_true, this, Option.bind_some, if_true, wu16 (b2 0).1 (by have := b2 0; omega)]
    rfl
  rw [beqF k1, if_neg k1, cond_false]
  by_cases k2 : k = 2
  · subst k2
    have h0 := e8 0
    have h1 := e2 8
    simp only [Int.natCast_zero, show ((2 : Nat) : Int) = 2 from rfl, show ((8 : Nat) : Int) = 8 from rfl] at h0 h1
    simp only [show ((2 : Int) == 2) = true from rfl, cond_true, h0, h1, Option.bind_some, if_true, wi (x := numB b 8 2) (by have := b2 8; omega) (by have := b2 8; omega)]
    rfl
  rw [beqF k2, if_neg k2, cond_false]
  by_cases k3 : k = 3
  · subst k3
    have h0 := e2 3
    have h1 := e2 5
    have h2 := e1 1
    have h3 := e1 2
    have h4 := e1 0
    simp only [Int.natCast_zero, show ((1 : Nat) : Int) = 1 from rfl, show ((2 : Nat) : Int) = 2 from rfl, show ((3 : Nat) : Int) = 3 from rfl, show ((5 : Nat) : Int) = 5 from rfl] at h0 h1 h2 h3 h4
    simp only [show ((3 : Int) == 3) = true from rfl, cond_true, h0, h1, h2, h3, h4, Option.bind_some, if_true]
    have hp := pfs_p (n := S_Notice.mk 3 (IntKind.wrap .u16 (numB b 3 2)) (IntKind.wrap .i64 (numB b 5 2)) 0 (S_Destination.mk (S_Prefix.mk ad0 0) (S_Prefix.mk ad0 0) s.router) 0) rfl rfl (b1 1) (b1 2) (b1 0) hd (by omega : b.length ≤ 1000000) 7 (by omega)
    have hp' : F_messages_prefixes (S_Notice.mk 3 (IntKind.wrap .u16 (numB b 3 2)) (IntKind.wrap .i64 (numB b 5 2)) 0 (S_Destination.mk (S_Prefix.mk [0, 0, 0, 0, 0, 0, 0, 0, 0, 0, 0, 0, 0, 0, 0, 0] 0) (S_Prefix.mk [0, 0, 0, 0, 0, 0, 0, 0, 0, 0, 0, 0, 0, 0, 0, 0] 0) s.router) 0) (numB b 1 1) (numB b 2 1) (numB b 0 1) s.dst b 7 = _ := hp
    rw [hp', Option.bind_some, wu16 (b2 3).1 (by have := b2 3; omega), wi (x := numB b 5 2) (by have := b2 5; omega) (by have := b2 5; omega)]
  rw [beqF k3, if_neg k3, cond_false]
  by_cases k4 : k = 4
  · subst k4
    have h2 := e1 0
    have h3 := e1 1
    simp only [Int.natCast_zero, show ((1 : Nat) : Int) = 1 from rfl] at h2 h3
    simp only [show ((4 : Int) == 4) = true from rfl, cond_true, h2, h3, Option.bind_some, if_true]
    have hp := pfs_p (n := S_Notice.mk 4 0 0 0 (S_Destination.mk (S_Prefix.mk ad0 0) (S_Prefix.mk ad0 0) 0) 0) rfl rfl (b1 0) (b1 1) (k := 0) (by omega) hd (by omega : b.length ≤ 1000000) 2 (by omega)
    have hp' : F_messages_prefixes (S_Notice.mk 4 0 0 0 (S_Destination.mk (S_Prefix.mk [0, 0, 0, 0, 0, 0, 0, 0, 0, 0, 0, 0, 0, 0, 0, 0] 0) (S_Prefix.mk [0, 0, 0, 0, 0, 0, 0, 0, 0, 0, 0, 0, 0, 0, 0, 0] 0) 0) 0) (numB b 0 1) (numB b 1 1) 0 s.dst b 2 = _ := hp
    rw [hp', Option.bind_some]
  rw [beqF k4, if_neg k4, cond_false]
  by_cases k5 : k = 5
  · subst k5
    have h0 := e2 2
    have h1 := e1 4
    have h2 := e8 5
    have h3 := e1 0
    have h4 := e1 1
    simp only [Int.natCast_zero, show ((1 : Nat) : Int) = 1 from rfl, show ((2 : Nat) : Int) = 2 from rfl, show ((4 : Nat) : Int) = 4 from rfl, show ((5 : Nat) : Int) = 5 from rfl, show ((8 : Nat) : Int) = 8 from rfl] at h0 h1 h2 h3 h4
    simp only [show ((5 : Int) == 5) = true from rfl, cond_true, h0, h1, h2, h3, h4, Option.bind_some, if_true]
    have hp := pfs_p (n := S_Notice.mk 5 (IntKind.wrap .u16 (numB b 2 2)) 0 0 (S_Destination.mk (S_Prefix.mk ad0 0) (S_Prefix.mk ad0 0) (numB b 5 8)) (IntKind.wrap .i64 (numB b 4 1))) rfl rfl (b1 0) (b1 1) (k := 0) (by omega) hd (by omega : b.length ≤ 1000000) 13 (by omega)
    have hp' : F_messages_prefixes (S_Notice.mk 5 (IntKind.wrap .u16 (numB b 2 2)) 0 0 (S_Destination.mk (S_Prefix.mk [0, 0, 0, 0, 0, 0, 0, 0, 0, 0, 0, 0, 0, 0, 0, 0] 0) (S_Prefix.mk [0, 0, 0, 0, 0, 0, 0, 0, 0, 0, 0, 0, 0, 0, 0, 0] 0) (numB b 5 8)) (IntKind.wrap .i64 (numB b 4 1))) (numB b 0 1) (numB b 1 1) 0 s.dst b 13 = _ := hp
    rw [hp', Option.bind_some, wu16 (b2 2).1 (by have := b2 2; omega), wi (x := numB b 4 1) (by have := b1 4; omega) (by have := b1 4; omega)]
  rw [beqF k5, if_neg k5, cond_false]
  rfl
end
section
open Go.RowKit

theorem num_eq {b a v c : List Int} {i n : Nat} (h : b = a ++ v ++ c) (ha : a.length = i) (hv : v.length = n) : numB b i n = beN v := by
  subst h ha
  exact num_at n hv
theorem beN_v {v : Int} {n : Nat} (h0 : 0 ≤ v) (h1 : v < 256 ^ n) : beN (beB v n) = v := by
  rw [beN_beB, Int.emod_eq_of_lt h0 h1]
theorem dst_wf {d body : List Int} (hd : d.length = 16) (od : okB d) (ob : okB body) {x y k : Int} {a : Nat} (hk : 0 ≤ k) (hx : 0 ≤ x) (h : fits x y k body.length a) : wfP (S_Prefix.mk (dstL d body x k a) x) := by
  obtain ⟨h1, h2, h3, h4, h5⟩ := h
  have z1 := sz_le hx h1
  unfold dstL
  refine fillA_wf (okB.append (okB.take od _) (okB.take (okB.drop ob _) _)) ?_ _
  rw [List.length_append, List.length_take, List.length_take, List.length_drop]
  omega
theorem src_wf {body : List Int} (ob : okB body) {x y k : Int} {a : Nat} (hy : 0 ≤ y) (h : fits x y k body.length a) : wfP (S_Prefix.mk (srcL body x k a) y) := by
  obtain ⟨h1, h2, h3, h4, h5⟩ := h
  have z1 := sz_le hy h2
  unfold srcL
  refine fillA_wf (okB.drop ob _) ?_ _
  rw [List.length_drop]
  omega
theorem read_wf {b : List Int} (h : okB b) (k : Int) {r : Int} (hr : 0 ≤ r ∧ r ≤ 18446744073709551615) {d : List Int} (hd : d.length = 16) (od : okB d) : WfN (readS k b r d).1 := by
  have n1 := fun i => num_bd h i 1
  have n2 := fun i => num_bd h i 2
  have n8 := fun i => num_bd h i 8
  have b1 : ∀ i, 0 ≤ numB b i 1 ∧ numB b i 1 ≤ 255 := fun i => by have := n1 i; omega
  have b2 : ∀ i, 0 ≤ numB b i 2 ∧ numB b i 2 ≤ 65535 := fun i => by have := n2 i; omega
  have b8 : ∀ i, 0 ≤ numB b i 8 ∧ numB b i 8 ≤ 18446744073709551615 := fun i => by have := n8 i; omega
  have o0 : (0 : Int) ≤ 0 ∧ (0 : Int) ≤ 65535 := by omega
  have o1 : (0 : Int) ≤ 0 ∧ (0 : Int) ≤ 18446744073709551615 := by omega
  unfold readS
  split
  · exact ⟨b2 0, o1, o1, wfP0, wfP0⟩
  split
  · exact ⟨o0, b8 0, o1, wfP0, wfP0⟩
  split
  · split
    · rename_i hf
      exact ⟨b2 3, o1, hr, dst_wf hd od h (b1 0).1 (b1 1).1 hf, src_wf h (b1 2).1 hf⟩
    · exact badN_wf
  split
  · split
    · rename_i hf
      exact ⟨o0, o1, o1, dst_wf hd od h (by omega) (b1 0).1 hf, src_wf h (b1 1).1 hf⟩
    · exact badN_wf
  split
  · split
    · rename_i hf
      exact ⟨b2 2, o1, b8 5, dst_wf hd od h (by omega) (b1 0).1 hf, src_wf h (b1 1).1 hf⟩
    · exact badN_wf
  · exact badN_wf
noncomputable def stepM (k : Int) (body t : List Int) (out : List S_Notice) (s : S_messages_state) : ((List Int) × (List S_Notice) × S_messages_state) ⊕ ((List S_Notice) ⊕ ((List S_Notice) × Bool)) :=
  if k = 6 then (if 8 ≤ body.length then .inl (t, out, S_messages_state.mk s.elements (numB body 0 8) s.dst) else .inr (.inr ([], false)))
  else if (readS k body s.router s.dst).2 = true then .inl (t, out ++ [(readS k body s.router s.dst).1], S_messages_state.mk s.elements s.router (nxD s.dst (readS k body s.router s.dst).1))
  else .inr (.inr ([], false))
theorem stepm_p {k m : Int} {rest : List Int} (hm : 0 ≤ m ∧ m ≤ 255) (hl : m ≤ rest.length) (hr : rest.length ≤ 1000000) (ok : okB rest) {out : List S_Notice} (ho : out.length ≤ 64) {s : S_messages_state} (hd : s.dst.length = 16) :
    F_messages_parse_l1 (k :: m :: rest, out, s) = some (stepM k (rest.take m.toNat) (rest.drop m.toNat) out s) := by
  unfold F_messages_parse_l1
  dsimp only
  have e0 : idx (k :: m :: rest) 0 = some k := rfl
  have e1 : idx (k :: m :: rest) 1 = some m := rfl
  have hbl : (rest.take m.toNat).length = m.toNat := by rw [List.length_take]; omega
  rw [decT (show ((k :: m :: rest).length : Int) > 0 by simp; omega), decF (show ¬ ((k :: m :: rest).length : Int) < 2 by simp; omega), e0, e1]
  simp only [cond_true, cond_false, Option.bind_some]
  rw [wi (x := m) (by omega) (by omega), wi (x := ((k :: m :: rest).length : Int) - 2) (by simp; omega) (by simp; omega), decF (show ¬ ((k :: m :: rest).length : Int) - 2 < m by simp; omega), decF (show ¬ ((out.length : Nat) : Int) > 64 by omega), wi (x := 2 + m) (by omega) (by omega), subO_some (l := k :: m :: rest) (a := 2) (by omega) (by omega) (by simp; omega)]
  simp only [cond_false, Option.bind_some]
  have e2 : ((k :: m :: rest).take (2 + m).toNat).drop (2 : Int).toNat = rest.take m.toNat := by
    rw [show (2 + m).toNat = m.toNat + 1 + 1 by omega]
    simp
  rw [e2, hbl, wi (x := 2 + ((m.toNat : Nat) : Int)) (by omega) (by omega), subO_some (l := k :: m :: rest) (by omega) (by simp; omega) (by omega)]
  have e3 : ((k :: m :: rest).take (((k :: m :: rest).length : Nat) : Int).toNat).drop (2 + ((m.toNat : Nat) : Int)).toNat = rest.drop m.toNat := by
    rw [Int.toNat_natCast, List.take_length, show (2 + ((m.toNat : Nat) : Int)).toNat = m.toNat + 1 + 1 by omega]
    simp
  rw [e3, Option.bind_some]
  have okb : okB (rest.take m.toNat) := okB.take ok _
  unfold stepM
  by_cases k6 : k = 6
  · subst k6
    rw [if_pos rfl, show ((6 : Int) == 6) = true from rfl, cond_true]
    by_cases h8 : 8 ≤ (rest.take m.toNat).length
    · have hu := uint_some okb (by omega) 0 8 (by omega) (by omega) (by omega)
      have hu' : F_octets_Uint (rest.take m.toNat) 0 8 = some (beN (((rest.take m.toNat).drop 0).take 8), true) := hu
      rw [hu', if_pos h8]
      unfold numB
      rw [if_pos (by omega)]
      rfl
    · have hu := uint_none (b := rest.take m.toNat) (by omega) 0 8 (by omega) (by omega) (by omega)
      have hu' : F_octets_Uint (rest.take m.toNat) 0 8 = some (0, false) := hu
      rw [hu', if_neg h8]
      rfl
  · rw [if_neg k6, beqF k6, cond_false, read_p okb (by omega) k hd, Option.bind_some]
    unfold F_messages_parse_j2
    simp only [Cut.app]
    rw [appO_some (by simp; omega) (by simp; omega)]
    simp only [Option.bind_some]
    cases h2 : (readS k (rest.take m.toNat) s.router s.dst).2
    · rfl
    · simp only [cond_true, if_true, nxD]
      by_cases h3 : (readS k (rest.take m.toNat) s.router s.dst).1.Kind = 3
      · rw [if_pos h3, h3]
        rfl
      · rw [if_neg h3, beqF h3]
        rfl
theorem parse_tot {b : List Int} (ok : okB b) (hb : b.length ≤ 1000000) : (∃ l, F_messages_parse b = some (l, true) ∧ ∀ n ∈ l, WfN n) ∨ F_messages_parse b = some ([], false) := by
  unfold F_messages_parse
  obtain ⟨r, e, hq⟩ := loop_inv (step := F_messages_parse_l1) (fun s => okB s.1 ∧ s.1.length ≤ 1000000 ∧ (∀ n ∈ s.2.1, WfN n) ∧ s.2.2.dst.length = 16 ∧ okB s.2.2.dst ∧ 0 ≤ s.2.2.router ∧ s.2.2.router ≤ 18446744073709551615) (fun r => (∃ l, r = .inl l ∧ ∀ n ∈ l, WfN n) ∨ r = .inr ([], false)) (fun s => s.1.length) (fun s ⟨i1, i2, i3, i4, i5, i6, i7⟩ => by
    obtain ⟨b, out, st⟩ := s
    dsimp only at i1 i2 i3 i4 i5 i6 i7 ⊢
    match b, i1, i2 with
    | [], _, _ => exact .inr ⟨.inl out, rfl, .inl ⟨out, rfl, i3⟩⟩
    | [x], _, _ => exact .inr ⟨.inr ([], false), rfl, .inr rfl⟩
    | k :: m :: rest, i1, i2 =>
      have hm := i1 m (by simp)
      simp only [List.length_cons] at i2
      by_cases hl : m ≤ rest.length
      rotate_left
      · right
        refine ⟨.inr ([], false), ?_, .inr rfl⟩
        unfold F_messages_parse_l1
        dsimp only
        have e1 : idx (k :: m :: rest) 1 = some m := rfl
        rw [decT (show ((k :: m :: rest).length : Int) > 0 by simp; omega), decF (show ¬ ((k :: m :: rest).length : Int) < 2 by simp; omega), e1]
        simp only [cond_true, cond_false, Option.bind_some]
        rw [wi (x := m) (by omega) (by omega), wi (x := ((k :: m :: rest).length : Int) - 2) (by simp; omega) (by simp; omega), decT (show ((k :: m :: rest).length : Int) - 2 < m by simp; omega)]
        rfl
      by_cases ho : out.length ≤ 64
      rotate_left
      · right
        refine ⟨.inr ([], false), ?_, .inr rfl⟩
        unfold F_messages_parse_l1
        dsimp only
        have e1 : idx (k :: m :: rest) 1 = some m := rfl
        rw [decT (show ((k :: m :: rest).length : Int) > 0 by simp; omega), decF (show ¬ ((k :: m :: rest).length : Int) < 2 by simp; omega), e1]
        simp only [cond_true, cond_false, Option.bind_some]
        rw [wi (x := m) (by omega) (by omega), wi (x := ((k :: m :: rest).length : Int) - 2) (by simp; omega) (by simp; omega), decF (show ¬ ((k :: m :: rest).length : Int) - 2 < m by simp; omega), decT (show ((out.length : Nat) : Int) > 64 by omega)]
        rfl
      have okr : okB rest := fun z hz => i1 z (by simp [hz])
      have okb : okB (rest.take m.toNat) := okB.take okr _
      rw [stepm_p hm hl (by omega) okr ho i4]
      have hw := read_wf okb k ⟨i6, i7⟩ i4 i5
      have n8 := num_bd okb 0 8
      unfold stepM
      split
      · split
        · exact .inl ⟨_, rfl, ⟨okB.drop okr _, by dsimp only; rw [List.length_drop]; omega, i3, i4, i5, by dsimp only; omega, by dsimp only; omega⟩, by dsimp only; rw [List.length_drop]; simp; omega⟩
        · exact .inr ⟨_, rfl, .inr rfl⟩
      · split
        · refine .inl ⟨_, rfl, ⟨okB.drop okr _, by dsimp only; rw [List.length_drop]; omega, ?_, nxD_len i4 hw, ?_, i6, i7⟩, by dsimp only; rw [List.length_drop]; simp; omega⟩
          · intro n hn
            rcases List.mem_append.1 hn with h | h
            · exact i3 n h
            · rw [List.mem_singleton.1 h]; exact hw
          · dsimp only
            unfold nxD
            split
            · exact hw.dst.2
            · exact i5
        · exact .inr ⟨_, rfl, .inr rfl⟩) (b, [], S_messages_state.mk [] 0 ad0) ⟨ok, hb, by simp, rfl, wfP0.2, by dsimp only; omega, by dsimp only; omega⟩
  have e' : loopO F_messages_parse_l1 (b, ([] : List S_Notice), S_messages_state.mk [] 0 [0, 0, 0, 0, 0, 0, 0, 0, 0, 0, 0, 0, 0, 0, 0, 0]) = some r := e
  rw [e']
  rcases hq with ⟨l, rfl, h⟩ | rfl
  · exact .inl ⟨l, rfl, h⟩
  · exact .inr rfl
def bdN (d : List Int) (n : S_Notice) : List Int :=
  if n.Kind = 1 then beB n.Seq 2
  else if n.Kind = 2 then beB n.Neighbour 8 ++ beB n.Metric 2
  else if n.Kind = 3 then [(comm (pfx n.To.Dst) d : Int), n.To.Dst.Bits, n.To.Src.Bits] ++ beB n.Seq 2 ++ beB n.Metric 2 ++ (pfx n.To.Dst).drop (comm (pfx n.To.Dst) d) ++ pfx n.To.Src
  else if n.Kind = 5 then [n.To.Dst.Bits, n.To.Src.Bits] ++ beB n.Seq 2 ++ [n.Hops] ++ beB n.To.Router 8 ++ pfx n.To.Dst ++ pfx n.To.Src
  else [n.To.Dst.Bits, n.To.Src.Bits] ++ pfx n.To.Dst ++ pfx n.To.Src
theorem encN_eq (r : Int) (d : List Int) {n : S_Notice} (g : GoodN n) : encN r d n = (if n.Kind = 3 ∧ n.To.Router ≠ r then el 6 (beB n.To.Router 8) else []) ++ el n.Kind (bdN d n) := by
  unfold encN bdN
  cases g <;> simp
theorem bdN_len (d : List Int) {n : S_Notice} (g : GoodN n) : (bdN d n).length ≤ 50 := by
  have w := good_wf g
  have h1 := pfx_le w.dst
  have h2 := pfx_le w.src
  unfold bdN
  cases g <;> simp [beB_len] at * <;> omega
theorem bdN_ok (d : List Int) {n : S_Notice} (g : GoodN n) : okB (bdN d n) := by
  have w := good_wf g
  have h1 := pfx_ok w.dst
  have h2 := pfx_ok w.src
  have h3 := beB_ok
  have h4 := comm_le (pfx n.To.Dst) d
  have h5 := pfx_le w.dst
  unfold bdN
  cases g with
  | hello s h => exact h3 _ _
  | heard m b h hb h0 => exact okB.append (h3 _ _) (h3 _ _)
  | update s m p c r hs h wd wc vd vc hr h0 =>
    have v1 := vb vd
    have v2 := vb vc
    refine okB.append (okB.append (okB.append (okB.append ?_ (h3 _ _)) (h3 _ _)) (okB.drop h1 _)) h2
    exact okB_cons ⟨by omega, by dsimp only at h4 h5 ⊢; omega⟩ (okB_cons ⟨by dsimp only; omega, by dsimp only; omega⟩ (okB_one ⟨by dsimp only; omega, by dsimp only; omega⟩))
  | route p c wd wc vd vc =>
    have v1 := vb vd
    have v2 := vb vc
    refine okB.append (okB.append ?_ h1) h2
    exact okB_cons ⟨by dsimp only; omega, by dsimp only; omega⟩ (okB_one ⟨by dsimp only; omega, by dsimp only; omega⟩)
  | seqr s h p c r hs hh wd wc vd vc hr h0 =>
    have v1 := vb vd
    have v2 := vb vc
    refine okB.append (okB.append (okB.append (okB.append (okB.append ?_ (h3 _ _)) (okB_one ?_)) (h3 _ _)) h1) h2
    · exact okB_cons ⟨by dsimp only; omega, by dsimp only; omega⟩ (okB_one ⟨by dsimp only; omega, by dsimp only; omega⟩)
    · dsimp only; omega
theorem read_good {n : S_Notice} (g : GoodN n) {r : Int} (hr : n.Kind = 3 → r = n.To.Router) {d : List Int} (hd : d.length = 16) : readS n.Kind (bdN d n) r d = (n, true) := by
  unfold readS
  cases g with
  | hello s h =>
    have e : numB (beB s 2) 0 2 = s := by
      rw [num_eq (i := 0) (n := 2) (a := []) (v := beB s 2) (c := []) (by simp) rfl (beB_len _ _), beN_v h.1 (by omega)]
    simp only [bdN, if_true, e]
  | heard m b h hb h0 =>
    have e1 : numB (beB b 8 ++ beB m 2) 0 8 = b := by
      rw [num_eq (i := 0) (n := 8) (a := []) (v := beB b 8) (c := beB m 2) (by simp) rfl (beB_len _ _), beN_v hb.1 (by omega)]
    have e2 : numB (beB b 8 ++ beB m 2) 8 2 = m := by
      rw [num_eq (i := 8) (n := 2) (a := beB b 8) (v := beB m 2) (c := []) (by simp) (beB_len _ _) (beB_len _ _), beN_v h.1 (by omega)]
    simp only [bdN, show ¬ ((2 : Int) = 1) by omega, if_true, if_false, e1, e2]
  | update s m p c r' hs h wd wc vd vc hr' h0 =>
    have v1 := vb vd
    have v2 := vb vc
    have c1 := comm_le (pfx p) d
    have lp := pfx_len wd vd
    have lc := pfx_len wc vc
    have hbd : bdN d (S_Notice.mk 3 s m 0 (S_Destination.mk p c r') 0) = [(comm (pfx p) d : Int), p.Bits, c.Bits] ++ beB s 2 ++ beB m 2 ++ (pfx p).drop (comm (pfx p) d) ++ pfx c := rfl
    rw [hbd, hr rfl]
    generalize hK : comm (pfx p) d = K at *
    generalize hB : [(K : Int), p.Bits, c.Bits] ++ beB s 2 ++ beB m 2 ++ (pfx p).drop K ++ pfx c = B
    have e0 : numB B 0 1 = (K : Int) := by
      rw [num_eq (i := 0) (n := 1) (a := []) (v := [(K : Int)]) (c := [p.Bits, c.Bits] ++ beB s 2 ++ beB m 2 ++ (pfx p).drop K ++ pfx c) (by rw [← hB]; simp) rfl rfl, beN_one]
    have e1 : numB B 1 1 = p.Bits := by
      rw [num_eq (i := 1) (n := 1) (a := [(K : Int)]) (v := [p.Bits]) (c := [c.Bits] ++ beB s 2 ++ beB m 2 ++ (pfx p).drop K ++ pfx c) (by rw [← hB]; simp) rfl rfl, beN_one]
    have e2 : numB B 2 1 = c.Bits := by
      rw [num_eq (i := 2) (n := 1) (a := [(K : Int), p.Bits]) (v := [c.Bits]) (c := beB s 2 ++ beB m 2 ++ (pfx p).drop K ++ pfx c) (by rw [← hB]; simp) rfl rfl, beN_one]
    have e3 : numB B 3 2 = s := by
      rw [num_eq (i := 3) (n := 2) (a := [(K : Int), p.Bits, c.Bits]) (v := beB s 2) (c := beB m 2 ++ (pfx p).drop K ++ pfx c) (by rw [← hB]; simp) rfl (beB_len _ _), beN_v hs.1 (by omega)]
    have e5 : numB B 5 2 = m := by
      rw [num_eq (i := 5) (n := 2) (a := [(K : Int), p.Bits, c.Bits] ++ beB s 2) (v := beB m 2) (c := (pfx p).drop K ++ pfx c) (by rw [← hB]; simp) (by simp [beB_len]) (beB_len _ _), beN_v h.1 (by omega)]
    have hlen : B.length = 7 + (sz p.Bits - K) + sz c.Bits := by
      rw [← hB]
      simp only [List.length_append, List.length_cons, List.length_nil, beB_len, List.length_drop, lp, lc]
    have hdrop : B.drop 7 = (pfx p).drop K ++ pfx c := by
      have : ([(K : Int), p.Bits, c.Bits] ++ beB s 2 ++ beB m 2).length = 7 := by simp [beB_len]
      rw [← hB, List.append_assoc, ← this, List.drop_left]
    have e6 : dstL d B p.Bits (K : Int) 7 = p.IP := by
      unfold dstL
      have hk2 := comm_take (pfx p) d
      rw [hK] at hk2
      have t1 : ((pfx p).drop K).take (sz p.Bits - K) = (pfx p).drop K := List.take_of_length_le (by rw [List.length_drop]; omega)
      rw [hdrop, Int.toNat_natCast, ← hk2, List.take_append_of_le_length (by rw [List.length_drop]; omega), t1, List.take_append_drop]
      exact pfx_fill wd vd
    have e7 : srcL B p.Bits (K : Int) 7 = c.IP := by
      unfold srcL
      rw [Int.toNat_natCast, ← List.drop_drop, hdrop, List.drop_append_of_le_length (by rw [List.length_drop]; omega), List.drop_of_length_le (by rw [List.length_drop]; omega), List.nil_append]
      exact pfx_fill wc vc
    have hf : fits p.Bits c.Bits (K : Int) B.length 7 := ⟨v1.2, v2.2, by omega, by omega, by rw [hlen]; omega⟩
    simp only [e0, e1, e2, e3, e5, e6, e7, if_pos hf, show ¬ ((3 : Int) = 1) by omega, show ¬ ((3 : Int) = 2) by omega, if_true, if_false]
  | route p c wd wc vd vc =>
    have v1 := vb vd
    have v2 := vb vc
    have lp := pfx_len wd vd
    have lc := pfx_len wc vc
    have hbd : bdN d (S_Notice.mk 4 0 0 0 (S_Destination.mk p c 0) 0) = [p.Bits, c.Bits] ++ pfx p ++ pfx c := rfl
    rw [hbd]
    generalize hB : [p.Bits, c.Bits] ++ pfx p ++ pfx c = B
    have e1 : numB B 0 1 = p.Bits := by
      rw [num_eq (i := 0) (n := 1) (a := []) (v := [p.Bits]) (c := [c.Bits] ++ pfx p ++ pfx c) (by rw [← hB]; simp) rfl rfl, beN_one]
    have e2 : numB B 1 1 = c.Bits := by
      rw [num_eq (i := 1) (n := 1) (a := [p.Bits]) (v := [c.Bits]) (c := pfx p ++ pfx c) (by rw [← hB]; simp) rfl rfl, beN_one]
    have hlen : B.length = 2 + (sz p.Bits - 0) + sz c.Bits := by
      rw [← hB]
      simp only [List.length_append, List.length_cons, List.length_nil, lp, lc]
      omega
    have hdrop : B.drop 2 = pfx p ++ pfx c := by
      rw [← hB]
      rfl
    have e6 : dstL d B p.Bits 0 2 = p.IP := by
      unfold dstL
      have t1 : (pfx p ++ pfx c).take (sz p.Bits - Int.toNat 0) = pfx p := by rw [show sz p.Bits - Int.toNat 0 = (pfx p).length by rw [lp]; rfl, List.take_left]
      rw [hdrop, t1]
      exact pfx_fill wd vd
    have e7 : srcL B p.Bits 0 2 = c.IP := by
      unfold srcL
      have t1 : (pfx p ++ pfx c).drop (sz p.Bits - Int.toNat 0) = pfx c := by rw [show sz p.Bits - Int.toNat 0 = (pfx p).length by rw [lp]; rfl, List.drop_left]
      rw [← List.drop_drop, hdrop, t1]
      exact pfx_fill wc vc
    have hf : fits p.Bits c.Bits 0 B.length 2 := ⟨v1.2, v2.2, by omega, by omega, hlen⟩
    simp only [e1, e2, e6, e7, if_pos hf, show ¬ ((4 : Int) = 1) by omega, show ¬ ((4 : Int) = 2) by omega, show ¬ ((4 : Int) = 3) by omega, if_true, if_false]
  | seqr s h p c r' hs hh wd wc vd vc hr' h0 =>
    have v1 := vb vd
    have v2 := vb vc
    have lp := pfx_len wd vd
    have lc := pfx_len wc vc
    have hbd : bdN d (S_Notice.mk 5 s 0 0 (S_Destination.mk p c r') h) = [p.Bits, c.Bits] ++ beB s 2 ++ [h] ++ beB r' 8 ++ pfx p ++ pfx c := rfl
    rw [hbd]
    generalize hB : [p.Bits, c.Bits] ++ beB s 2 ++ [h] ++ beB r' 8 ++ pfx p ++ pfx c = B
    have e1 : numB B 0 1 = p.Bits := by
      rw [num_eq (i := 0) (n := 1) (a := []) (v := [p.Bits]) (c := [c.Bits] ++ beB s 2 ++ [h] ++ beB r' 8 ++ pfx p ++ pfx c) (by rw [← hB]; simp) rfl rfl, beN_one]
    have e2 : numB B 1 1 = c.Bits := by
      rw [num_eq (i := 1) (n := 1) (a := [p.Bits]) (v := [c.Bits]) (c := beB s 2 ++ [h] ++ beB r' 8 ++ pfx p ++ pfx c) (by rw [← hB]; simp) rfl rfl, beN_one]
    have e3 : numB B 2 2 = s := by
      rw [num_eq (i := 2) (n := 2) (a := [p.Bits, c.Bits]) (v := beB s 2) (c := [h] ++ beB r' 8 ++ pfx p ++ pfx c) (by rw [← hB]; simp) rfl (beB_len _ _), beN_v hs.1 (by omega)]
    have e4 : numB B 4 1 = h := by
      rw [num_eq (i := 4) (n := 1) (a := [p.Bits, c.Bits] ++ beB s 2) (v := [h]) (c := beB r' 8 ++ pfx p ++ pfx c) (by rw [← hB]; simp) (by simp [beB_len]) rfl, beN_one]
    have e5 : numB B 5 8 = r' := by
      rw [num_eq (i := 5) (n := 8) (a := [p.Bits, c.Bits] ++ beB s 2 ++ [h]) (v := beB r' 8) (c := pfx p ++ pfx c) (by rw [← hB]; simp) (by simp [beB_len]) (beB_len _ _), beN_v hr'.1 (by omega)]
    have hlen : B.length = 13 + (sz p.Bits - 0) + sz c.Bits := by
      rw [← hB]
      simp only [List.length_append, List.length_cons, List.length_nil, beB_len, lp, lc]
      omega
    have hdrop : B.drop 13 = pfx p ++ pfx c := by
      have : ([p.Bits, c.Bits] ++ beB s 2 ++ [h] ++ beB r' 8).length = 13 := by simp [beB_len]
      rw [← hB, List.append_assoc, ← this, List.drop_left]
    have e6 : dstL d B p.Bits 0 13 = p.IP := by
      unfold dstL
      have t1 : (pfx p ++ pfx c).take (sz p.Bits - Int.toNat 0) = pfx p := by rw [show sz p.Bits - Int.toNat 0 = (pfx p).length by rw [lp]; rfl, List.take_left]
      rw [hdrop, t1]
      exact pfx_fill wd vd
    have e7 : srcL B p.Bits 0 13 = c.IP := by
      unfold srcL
      have t1 : (pfx p ++ pfx c).drop (sz p.Bits - Int.toNat 0) = pfx c := by rw [show sz p.Bits - Int.toNat 0 = (pfx p).length by rw [lp]; rfl, List.drop_left]
      rw [← List.drop_drop, hdrop, t1]
      exact pfx_fill wc vc
    have hf : fits p.Bits c.Bits 0 B.length 13 := ⟨v1.2, v2.2, by omega, by omega, hlen⟩
    simp only [e1, e2, e3, e4, e5, e6, e7, if_pos hf, show ¬ ((5 : Int) = 1) by omega, show ¬ ((5 : Int) = 2) by omega, show ¬ ((5 : Int) = 3) by omega, show ¬ ((5 : Int) = 4) by omega, if_true, if_false]
theorem step_el {k : Int} {b t : List Int} (hb : b.length ≤ 255) (ht : t.length ≤ 900000) (ob : okB b) (ot : okB t) {out : List S_Notice} (ho : out.length ≤ 64) {s : S_messages_state} (hd : s.dst.length = 16) :
    F_messages_parse_l1 (el k b ++ t, out, s) = some (stepM k b t out s) := by
  have := stepm_p (k := k) (m := (b.length : Int)) (rest := b ++ t) (by omega) (by rw [List.length_append]; omega) (by rw [List.length_append]; omega) (okB.append ob ot) ho hd
  rw [Int.toNat_natCast, List.take_left, List.drop_left] at this
  exact this
theorem encL_ok : ∀ (l : List S_Notice) (r : Int) (d : List Int), (∀ n ∈ l, GoodN n) → okB (encL r d l)
  | [], _, _, _ => okB_nil
  | n :: l, r, d, g => by
    have gn := g n (by simp)
    rw [encL, encN_eq r d gn]
    have hl := bdN_len d gn
    have hk : 0 ≤ n.Kind ∧ n.Kind ≤ 255 := by cases gn <;> simp
    refine okB.append (okB.append ?_ ?_) (encL_ok l _ _ fun m hm => g m (by simp [hm]))
    · split
      · exact okB_cons (by omega) (okB_cons (by rw [beB_len]; omega) (beB_ok _ _))
      · exact okB_nil
    · exact okB_cons hk (okB_cons (by omega) (bdN_ok d gn))
theorem parse_enc : ∀ (l : List S_Notice) (out : List S_Notice) (r : Int) (d e t : List Int), (∀ n ∈ l, GoodN n) → out.length + l.length ≤ 64 → d.length = 16 → t.length ≤ 100000 → okB t →
    loopO F_messages_parse_l1 (encL r d l ++ t, out, S_messages_state.mk e r d) = loopO F_messages_parse_l1 (t, out ++ l, S_messages_state.mk e (l.foldl nxR r) (l.foldl nxD d))
  | [], out, r, d, e, t, _, _, _, _, _ => by simp [encL]
  | n :: l, out, r, d, e, t, g, hn, hd, ht, ot => by
    have gn := g n (by simp)
    have gl : ∀ m ∈ l, GoodN m := fun m hm => g m (by simp [hm])
    simp only [List.length_cons] at hn
    have ih := parse_enc l (out ++ [n]) (nxR r n) (nxD d n) e t gl (by simp; omega) (nxD_len hd (good_wf gn)) ht ot
    have hlen := encL_len (nxR r n) (nxD d n) l gl
    have hT : (encL (nxR r n) (nxD d n) l ++ t).length ≤ 200000 := by rw [List.length_append]; omega
    have oT : okB (encL (nxR r n) (nxD d n) l ++ t) := okB.append (encL_ok l _ _ gl) ot
    have hbl := bdN_len d gn
    have hbo := bdN_ok d gn
    have main : loopO F_messages_parse_l1 (el n.Kind (bdN d n) ++ (encL (nxR r n) (nxD d n) l ++ t), out, S_messages_state.mk e (nxR r n) d) = loopO F_messages_parse_l1 (encL (nxR r n) (nxD d n) l ++ t, out ++ [n], S_messages_state.mk e (nxR r n) (nxD d n)) := by
      refine loop_next ?_
      rw [step_el (by omega) (by omega) hbo oT (by omega) hd]
      have hk6 : ¬ n.Kind = 6 := by cases gn <;> simp
      have hr := read_good gn (r := nxR r n) (fun h => by unfold nxR; rw [if_pos h]) hd
      unfold stepM
      rw [if_neg hk6]
      dsimp only
      rw [hr]
      simp
    rw [encL, encN_eq r d gn, List.append_assoc, List.append_assoc]
    have fin : out ++ [n] ++ l = out ++ n :: l := by simp
    rw [fin] at ih
    by_cases h6 : n.Kind = 3 ∧ n.To.Router ≠ r
    · rw [if_pos h6]
      have hro := (good_wf gn).ro
      have hnr : nxR r n = n.To.Router := by unfold nxR; rw [if_pos h6.1]
      have first : loopO F_messages_parse_l1 (el 6 (beB n.To.Router 8) ++ (el n.Kind (bdN d n) ++ (encL (nxR r n) (nxD d n) l ++ t)), out, S_messages_state.mk e r d) = loopO F_messages_parse_l1 (el n.Kind (bdN d n) ++ (encL (nxR r n) (nxD d n) l ++ t), out, S_messages_state.mk e (nxR r n) d) := by
        refine loop_next ?_
        have hk : 0 ≤ n.Kind ∧ n.Kind ≤ 255 := by cases gn <;> simp
        have oke : okB (el n.Kind (bdN d n)) := okB_cons hk (okB_cons (by omega) hbo)
        rw [step_el (k := 6) (b := beB n.To.Router 8) (by rw [beB_len]; omega) (by rw [List.length_append, el_len]; omega) (beB_ok _ _) (okB.append oke oT) (by omega) hd]
        unfold stepM
        rw [if_pos rfl, if_pos (by rw [beB_len]; omega), num_eq (i := 0) (n := 8) (a := []) (v := beB n.To.Router 8) (c := []) (by simp) rfl (beB_len _ _), beN_v hro.1 (by omega), hnr]
      rw [first, main, ih]
      rfl
    · rw [if_neg h6, List.nil_append]
      have hnr : nxR r n = r := by
        unfold nxR
        split
        · rename_i h3
          have : ¬ n.To.Router ≠ r := fun h => h6 ⟨h3, h⟩
          simpa using this
        · rfl
      rw [hnr] at main ih ⊢
      rw [main, ih]
      rw [List.foldl_cons, List.foldl_cons, hnr]
theorem parse_back {l : List S_Notice} (g : ∀ n ∈ l, GoodN n) (hl : l.length ≤ 64) : F_messages_parse (encL 0 ad0 l) = some (l, true) := by
  unfold F_messages_parse
  have h := parse_enc l [] 0 ad0 [] [] g (by simpa using hl) rfl (by simp) okB_nil
  rw [List.append_nil, List.nil_append] at h
  have h' : loopO F_messages_parse_l1 (encL 0 ad0 l, ([] : List S_Notice), S_messages_state.mk [] 0 [0, 0, 0, 0, 0, 0, 0, 0, 0, 0, 0, 0, 0, 0, 0, 0]) = some (.inl l) := by
    refine Eq.trans h (loop_done ?_)
    rfl
  rw [h']
  rfl
end
section
open Go.RowKit

def okR (k : Int) (b : List Int) : Prop := (k = 1 ∧ b.length = 2) ∨ (k = 2 ∧ b.length = 10) ∨ (k = 3 ∧ 7 ≤ b.length) ∨ (k = 4 ∧ 2 ≤ b.length) ∨ (k = 5 ∧ 13 ≤ b.length)
instance (k : Int) (b : List Int) : Decidable (okR k b) := by unfold okR; infer_instance
theorem sub_n {b : List Int} (a : Nat) (ha : a ≤ b.length) : subO b a (b.length : Int) = some (b.drop a) := by
  rw [subO_some (by omega) (by omega) (by omega)]
  simp
end
section
open Go.RowKit

/-- the packet of this time and these notices -/
structure Pk (at_ : Int) (l : List S_Notice) : Prop where
  good : ∀ n ∈ l, GoodN n
  len : l.length ≤ 64
  lo : 0 ≤ at_
  hi : at_ < 1099511627776
theorem Pk.enc {at_ : Int} {l : List S_Notice} (h : Pk at_ l) : encS at_ l = (pk at_ l, 0) := by
  unfold encS
  have := h.len
  have := h.lo
  have := h.hi
  rw [if_neg (by omega), good_all h.good, if_neg (by simp), if_neg (by omega)]
theorem enc_pk {at_ : Int} {l : List S_Notice} (w : ∀ n ∈ l, WfN n) (h : (encS at_ l).2 = 0) : Pk at_ l := by
  unfold encS at h
  split at h
  · simp at h
  split at h
  · simp at h
  split at h
  · simp at h
  · rename_i h1 h2 h3
    exact ⟨all_good w (by simpa using h2), by omega, by omega, by omega⟩
theorem pk_ok {at_ : Int} {l : List S_Notice} (h : Pk at_ l) : okB (pk at_ l) := by
  unfold pk
  exact okB.append (okB.append (okB.append (okB_cons (by omega) (okB_one (by omega))) (beB_ok _ _)) (beB_ok _ _)) (encL_ok _ _ _ h.good)
theorem pk_small {at_ : Int} {l : List S_Notice} (h : Pk at_ l) : (pk at_ l).length ≤ 3273 ∧ 9 ≤ (pk at_ l).length := by
  have := encL_len 0 ad0 l h.good
  have := h.len
  rw [pk_len]
  omega
theorem pk_at {at_ : Int} {l : List S_Notice} (h : Pk at_ l) : beN (((pk at_ l).drop 2).take 5) = at_ := by
  have e : ((pk at_ l).drop 2).take 5 = beB at_ 5 := by
    have e0 : (pk at_ l).drop 2 = beB at_ 5 ++ (beB ((encL 0 ad0 l).length : Int) 2 ++ encL 0 ad0 l) := by
      unfold pk
      rw [List.append_assoc, List.append_assoc]
      rfl
    rw [e0, List.take_append_of_le_length (by rw [beB_len]; omega), List.take_of_length_le (by rw [beB_len]; omega)]
  rw [e, beN_v h.lo (by have := h.hi; omega)]
theorem pk_size {at_ : Int} {l : List S_Notice} (h : Pk at_ l) (t : List Int) : beN (((pk at_ l ++ t).drop 7).take 2) = ((encL 0 ad0 l).length : Int) := by
  have e : ((pk at_ l ++ t).drop 7).take 2 = beB ((encL 0 ad0 l).length : Int) 2 := by
    have h7 : ([42, 1] ++ beB at_ 5).length = 7 := by simp [beB_len]
    unfold pk
    rw [List.append_assoc, List.append_assoc, ← h7, List.drop_left, List.take_append_of_le_length (by rw [beB_len]; omega), List.take_of_length_le (by rw [beB_len]; omega)]
  have := encL_len 0 ad0 l h.good
  have := h.len
  rw [e, beN_v (by omega) (by omega)]
theorem pk_rest {at_ : Int} {l : List S_Notice} (t : List Int) : (pk at_ l ++ t).drop 9 = encL 0 ad0 l ++ t := by
  have h9 : ([42, 1] ++ beB at_ 5 ++ beB ((encL 0 ad0 l).length : Int) 2).length = 9 := by simp [beB_len]
  unfold pk
  rw [List.append_assoc, ← h9, List.drop_left]
def short (b : List Int) : Prop := b.length < 9 ∨ (b.length : Int) - 9 < beN ((b.drop 7).take 2)
theorem pk_not_short {at_ : Int} {l : List S_Notice} (h : Pk at_ l) : ¬ short (pk at_ l) := by
  have := pk_small h
  have hs := pk_size h []
  rw [List.append_nil] at hs
  unfold short
  rw [hs, pk_len]
  omega
theorem equal_spec {a b : List Int} (ha : okB a) (hb : okB b) : F_bytes_Equal a b = some (decide (a = b)) := by
  unfold F_bytes_Equal
  simp only [Cut.app]
  rw [u8L_beq ha hb]
theorem dec_p {b : List Int} (ok : okB b) (hb : b.length ≤ 1000000) : (short b → F_messages_Decode b = some (0, [], 4)) ∧
    (∀ at_ l, Pk at_ l → b = pk at_ l → F_messages_Decode b = some (at_, l, 0)) ∧
    (¬ short b → (¬ ∃ at_ l, Pk at_ l ∧ b = pk at_ l) → F_messages_Decode b = some (0, [], 5)) := by
  by_cases h9 : b.length < 9
  · have hs : short b := .inl h9
    refine ⟨fun _ => ?_, fun at_ l hp he => ?_, fun hn => absurd hs hn⟩
    · unfold F_messages_Decode
      rw [decT (show (b.length : Int) < 9 by omega)]
      rfl
    · rw [he] at hs
      exact absurd hs (pk_not_short hp)
  have u1 := uint_some ok (by omega) 2 5 (by omega) (by omega) (by omega)
  have u2 := uint_some ok (by omega) 7 2 (by omega) (by omega) (by omega)
  simp only [show ((2 : Nat) : Int) = 2 from rfl, show ((5 : Nat) : Int) = 5 from rfl, show ((7 : Nat) : Int) = 7 from rfl] at u1 u2
  have bd1 := beN_bd (l := (b.drop 2).take 5) (okB.take (okB.drop ok _) _)
  have bd2 := beN_bd (l := (b.drop 7).take 2) (okB.take (okB.drop ok _) _)
  rw [List.length_take, List.length_drop, Nat.min_eq_left (by omega)] at bd1 bd2
  have hsub := sub_n (b := b) 9 (by omega)
  simp only [show ((9 : Nat) : Int) = 9 from rfl] at hsub
  have base : F_messages_Decode b = (bif decide ((b.length : Int) - 9 < beN ((b.drop 7).take 2)) then some (0, [], 4) else (F_messages_parse (b.drop 9)).bind fun v6 => bif v6.2 then (F_messages_Encode (beN ((b.drop 2).take 5)) v6.1).bind fun v8 => bif v8.2 != 0 then some (0, [], 5) else (F_bytes_Equal v8.1 b).bind fun v10 => bif v10 then some (beN ((b.drop 2).take 5), v6.1, 0) else some (0, [], 5) else some (0, [], 5)) := by
    unfold F_messages_Decode
    rw [decF (show ¬ (b.length : Int) < 9 by omega), u1, u2, hsub]
    simp only [cond_false, Option.bind_some]
    rw [wi (x := (b.length : Int) - 9) (by omega) (by omega), wi (x := beN ((b.drop 7).take 2)) (by omega) (by omega), wi (x := beN ((b.drop 2).take 5)) (by omega) (by omega)]
  rw [base]
  by_cases hs2 : (b.length : Int) - 9 < beN ((b.drop 7).take 2)
  · have hs : short b := .inr hs2
    refine ⟨fun _ => ?_, fun at_ l hp he => ?_, fun hn => absurd hs hn⟩
    · rw [decT hs2]
      rfl
    · rw [he] at hs
      exact absurd hs (pk_not_short hp)
  have hns : ¬ short b := by unfold short; omega
  rw [decF hs2, cond_false]
  refine ⟨fun h => absurd h hns, fun at_ l hp he => ?_, fun _ hno => ?_⟩
  · have e9 := pk_rest (at_ := at_) (l := l) []
    rw [List.append_nil, List.append_nil, ← he] at e9
    have ea := pk_at hp
    rw [← he] at ea
    rw [e9, parse_back hp.good hp.len, ea]
    simp only [Option.bind_some, cond_true]
    rw [enc_p (fun n hn => good_wf (hp.good n hn)), hp.enc]
    simp only [Option.bind_some]
    rw [show ((0 : Int) != 0) = false from rfl, cond_false, equal_spec (pk_ok hp) ok, ← he]
    simp
  · rcases parse_tot (okB.drop ok 9) (by rw [List.length_drop]; omega) with ⟨l, e, w⟩ | e
    · rw [e]
      simp only [Option.bind_some, cond_true]
      rw [enc_p w, Option.bind_some]
      by_cases h0 : (encS (beN ((b.drop 2).take 5)) l).2 = 0
      · have hp := enc_pk w h0
        rw [hp.enc]
        simp only
        rw [show ((0 : Int) != 0) = false from rfl, cond_false, equal_spec (pk_ok hp) ok, decF (fun he => hno ⟨_, l, hp, he.symm⟩)]
        rfl
      · rw [show ((encS (beN ((b.drop 2).take 5)) l).2 != 0) = true by simpa using h0]
        rfl
    · rw [e]
      rfl
end
section
open Go.RowKit

structure TapeOk (t : S_multihopmade_Tape) : Prop where
  at0 : 0 ≤ t.at_
  at1 : t.at_ ≤ t.l.length
  len : t.l.length ≤ 400
theorem new_spec (l : List Int) : ∃ t, F_made_New l = some t ∧ TapeOk t := by
  unfold F_made_New F_made_New_j1
  by_cases h : (l.length : Int) > 400
  · rw [decT h, subO_some (by omega) (by omega) (by omega)]
    exact ⟨_, rfl, by simp, by simp, by simp; omega⟩
  · rw [decF h]
    exact ⟨_, rfl, by simp, by simp, by simp; omega⟩
theorem rem_spec (x n : Int) (h1 : 1 ≤ n) (h2 : n ≤ 4611686018427387904) : -4611686018427387904 < Int.tmod x n ∧ Int.tmod x n < n ∧ -n < Int.tmod x n := by
  have a := Int.tmod_lt_of_pos x (show 0 < n by omega)
  have b := Int.lt_tmod_of_pos x (show 0 < n by omega)
  omega
theorem next_spec {t : S_multihopmade_Tape} (h : TapeOk t) (n : Int) (h1 : 1 ≤ n) (h2 : n ≤ 4611686018427387904) : ∃ v t', F_made_Tape_Next t n = some (v, t') ∧ 0 ≤ v ∧ v < n ∧ TapeOk t' := by
  unfold F_made_Tape_Next F_made_Tape_Next_j1
  have a0 := h.at0
  have a1 := h.at1
  have a2 := h.len
  by_cases hc : t.at_ ≥ (t.l.length : Int)
  · rw [decT hc]
    exact ⟨0, t, rfl, by omega, by omega, h⟩
  · rw [decF hc, idx_int a0 (by omega)]
    simp only [cond_false, Option.bind_some, show decide (n ≠ 0) = true by simp; omega, cond_true]
    obtain ⟨r1, r2, r3⟩ := rem_spec (t.l[t.at_.toNat]'(by omega)) n h1 h2
    generalize Int.tmod (t.l[t.at_.toNat]'(by omega)) n = q at *
    have ew : IntKind.wrap .i64 (t.at_ + 1) = t.at_ + 1 := wi (by omega) (by omega)
    have hok : TapeOk ⟨t.l, t.at_ + 1⟩ := ⟨by dsimp only; omega, by dsimp only; omega, h.len⟩
    rw [ew]
    by_cases hq : q < 0
    · rw [decT hq, wi (by omega) (by omega)]
      exact ⟨q + n, _, rfl, by omega, by omega, hok⟩
    · rw [decF hq]
      exact ⟨q, _, rfl, by omega, by omega, hok⟩
end
section
open Go.RowKit
theorem mod_spec (x n : Int) (h1 : 1 ≤ n) (h2 : n ≤ 4611686018427387904) : ∃ v, F_made_Mod x n = some v ∧ 0 ≤ v ∧ v < n := by
  unfold F_made_Mod F_made_Mod_j1
  obtain ⟨r1, r2, r3⟩ := rem_spec x n h1 h2
  generalize Int.tmod x n = q at *
  rw [show decide (n ≠ 0) = true by simp; omega]
  by_cases hq : q < 0
  · rw [decT hq, wi (by omega) (by omega)]
    exact ⟨q + n, rfl, by omega, by omega⟩
  · rw [decF hq]
    exact ⟨q, rfl, by omega, by omega⟩
end
section
open Go.RowKit

theorem bool_spec {t : S_multihopmade_Tape} (h : TapeOk t) (n : Int) (h1 : 1 ≤ n) (h2 : n ≤ 4611686018427387904) : ∃ v t', F_made_Tape_Bool t n = some (v, t') ∧ TapeOk t' := by
  unfold F_made_Tape_Bool
  obtain ⟨v, t', e, _, _, k⟩ := next_spec h n h1 h2
  rw [e]
  exact ⟨_, _, rfl, k⟩
end
section
open Go.RowKit

theorem word_spec {t : S_multihopmade_Tape} (h : TapeOk t) : ∃ v t', F_made_Tape_Word t = some (v, t') ∧ TapeOk t' := by
  unfold F_made_Tape_Word
  obtain ⟨v1, t1, e1, _, _, k1⟩ := next_spec h 65536 (by omega) (by omega)
  obtain ⟨v2, t2, e2, _, _, k2⟩ := next_spec k1 5 (by omega) (by omega)
  simp only [e1, e2, Option.bind_some]
  cases v2 == 0
  · cases v2 == 1
    · cases v2 == 2
      · cases v2 == 3
        · exact ⟨_, _, rfl, k2⟩
        · exact ⟨_, _, rfl, k2⟩
      · exact ⟨_, _, rfl, k2⟩
    · exact ⟨_, _, rfl, k2⟩
  · exact ⟨_, _, rfl, k2⟩
end
section
open Go.RowKit

theorem eui_spec {t : S_multihopmade_Tape} (h : TapeOk t) : ∃ v t', F_world_EUI t = some (v, t') ∧ 1 ≤ v ∧ v ≤ 5 ∧ TapeOk t' := by
  unfold F_world_EUI
  obtain ⟨v1, t1, e1, a1, b1, k1⟩ := next_spec h 5 (by omega) (by omega)
  rw [e1]
  simp only [Option.bind_some]
  rw [wi (by omega) (by omega), wu (by omega) (by omega)]
  exact ⟨_, t1, rfl, by omega, by omega, k1⟩
theorem ip_spec {t : S_multihopmade_Tape} (h : TapeOk t) : ∃ v t', F_world_IP t = some (v, t') ∧ v.length = 16 ∧ Bytes v ∧ TapeOk t' := by
  unfold F_world_IP F_world_IP_j1
  obtain ⟨v1, t1, e1, a1, b1, k1⟩ := next_spec h 2 (by omega) (by omega)
  obtain ⟨v2, t2, e2, a2, b2, k2⟩ := next_spec k1 2 (by omega) (by omega)
  obtain ⟨v3, t3, e3, a3, b3, k3⟩ := next_spec k2 6 (by omega) (by omega)
  obtain ⟨v4, t4, e4, k4⟩ := bool_spec k3 9 (by omega) (by omega)
  obtain ⟨v5, t5, e5, a5, b5, k5⟩ := next_spec k4 16 (by omega) (by omega)
  obtain ⟨v6, t6, e6, a6, b6, k6⟩ := next_spec k5 8 (by omega) (by omega)
  simp only [e1, Option.bind_some, e2, e3, e4, e5, e6]
  have w1 := wrap8_bd v1
  have w2 := wrap8_bd v2
  have w3 := wrap8_bd v3
  have hB : Bytes [32, 1, 13, 184, 0, IntKind.wrap .u8 v1, IntKind.wrap .u8 v2, 0, 0, 0, 0, 0, 0, 0, 0, IntKind.wrap .u8 v3] := by
    intro z hz
    simp only [List.mem_cons, List.not_mem_nil, or_false] at hz
    omega
  cases v4 with
  | false => exact ⟨_, t4, rfl, rfl, hB, k4⟩
  | true =>
    rw [decT (show (0 : Int) ≤ v5 ∧ v5 < 16 by omega), wu (x := v6) (by omega) (by omega), decT (show (0 : Int) ≤ v6 by omega)]
    refine ⟨_, t6, rfl, setA_len _ _ _ _, ?_, k6⟩
    rw [setA_set (n := 16) rfl]
    exact set_bytes hB _ (wrap8_bd _)
theorem or_bit0 : ∀ x : Fin 256, ∀ v : Fin 2, ∀ j : Fin 8, ∀ l : Fin 8, (l ≠ j → bit8 (ior .u8 ((x : Nat) : Int) (ishl .u8 ((v : Nat) : Int) (7 - ((j : Nat) : Int)))) l = bit8 ((x : Nat) : Int) l) := by decide +kernel
theorem or_bit {x v : Int} (hx : 0 ≤ x ∧ x ≤ 255) (hv : v = 0 ∨ v = 1) {j l : Nat} (hj : j < 8) (hl : l < 8) (h : l ≠ j) : bit8 (ior .u8 x (ishl .u8 v (7 - (j : Int)))) l = bit8 x l := by
  obtain ⟨x, rfl⟩ := byte_fin hx
  have := or_bit0 x
  rcases hv with rfl | rfl
  · exact this 0 ⟨j, hj⟩ ⟨l, hl⟩ (by intro e; exact h (by simpa using e))
  · exact this 1 ⟨j, hj⟩ ⟨l, hl⟩ (by intro e; exact h (by simpa using e))
theorem mask_good {a : List Int} (ha : Bytes a) (b : Int) : ∃ p, F_ref04_Mask a b = some p ∧ wfP p ∧ vpB p = true := by
  unfold F_ref04_Mask
  generalize hc : (if (128 : Int) < if b < 0 then 0 else b then 128 else if b < 0 then 0 else b) = c
  have hc0 : 0 ≤ c ∧ c ≤ 128 := by rw [← hc]; split <;> split at * <;> omega
  obtain ⟨r, e, hr⟩ := loop_inv (step := F_ref04_Mask_l1 b a) (fun s => 0 ≤ s.1 ∧ s.1 ≤ c ∧ wfP s.2 ∧ s.2.Bits = c ∧ ∀ k : Nat, k < 128 → s.1 ≤ (k : Int) → bitA s.2.IP k = 0) (fun p => wfP p ∧ vpB p = true) (fun s => (c - s.1).toNat) (by
    rintro ⟨i, p⟩ ⟨h0, h1, hp, hB, hz⟩
    dsimp only at h0 h1 hp hB hz
    unfold F_ref04_Mask_l1
    dsimp only
    rw [hc]
    by_cases hi : i < c
    · left
      obtain ⟨k, rfl⟩ : ∃ k : Nat, i = (k : Int) := ⟨i.toNat, by omega⟩
      rw [decT hi, quo8 k (by omega), sh7 k, bit_eq _ (by omega), wk k (by omega), decT (show (0 : Int) ≤ ((k / 8 : Nat) : Int) ∧ ((k / 8 : Nat) : Int) < 16 by omega), decT (show (0 : Int) ≤ 7 - ((k % 8 : Nat) : Int) by omega)]
      refine ⟨_, rfl, ⟨by dsimp only; omega, by dsimp only; omega, ⟨setA_len _ _ _ _, ?_⟩, hB, ?_⟩, by dsimp only; omega⟩
      · dsimp only
        rw [setA_set hp.1]
        exact set_bytes hp.2 _ (wrap8_bd _)
      · intro m hm hkm
        dsimp only at hkm ⊢
        have hold := hz m hm (by omega)
        have hv : bitA a k = 0 ∨ bitA a k = 1 := by unfold bitA; exact bit8_01 (getD_byte ha _) (by omega)
        generalize bitA a k = V at hv ⊢
        unfold bitA at hold ⊢
        rw [Int.toNat_natCast, setA_set hp.1]
        have hlen : m / 8 < p.IP.length := by rw [hp.1]; omega
        by_cases h8 : m / 8 = k / 8
        · have hg : (p.IP.set (k / 8) (ior .u8 (p.IP.getD (k / 8) 0) (ishl .u8 V (7 - ((k % 8 : Nat) : Int))))).getD (m / 8) 0 = ior .u8 (p.IP.getD (k / 8) 0) (ishl .u8 V (7 - ((k % 8 : Nat) : Int))) := by
            rw [h8, List.getD_eq_getElem?_getD, List.getElem?_set_self (by omega)]
            rfl
          rw [hg, or_bit (getD_byte hp.2 _) hv (by omega) (by omega) (by omega), ← h8]
          exact hold
        · have hg : ∀ v, (p.IP.set (k / 8) v).getD (m / 8) 0 = p.IP.getD (m / 8) 0 := fun v => by
            rw [List.getD_eq_getElem?_getD, List.getElem?_set_ne (by omega), List.getD_eq_getElem?_getD]
          rw [hg]
          exact hold
    · right
      rw [decF hi]
      exact ⟨p, rfl, hp, vpB_iff.2 ⟨by omega, by omega, fun k hk hbk => hz k hk (by omega)⟩⟩) (0, S_Prefix.mk [0, 0, 0, 0, 0, 0, 0, 0, 0, 0, 0, 0, 0, 0, 0, 0] c) ⟨by dsimp only; omega, by dsimp only; omega, ⟨rfl, zero_bytes 16⟩, rfl, fun k hk _ => by
        unfold bitA
        have : ([0, 0, 0, 0, 0, 0, 0, 0, 0, 0, 0, 0, 0, 0, 0, 0] : List Int).getD (k / 8) 0 = 0 := ad0_get _
        dsimp only
        rw [this]
        have key : ∀ j : Fin 8, bit8 0 j = 0 := by decide +kernel
        exact key ⟨k % 8, by omega⟩⟩
  rw [e]
  exact ⟨r, rfl, hr⟩
theorem vp0 : vpB p0 = true := vpB_iff.2 ⟨by decide, by decide, by decide +kernel⟩
theorem seq_spec {t : S_multihopmade_Tape} (h : TapeOk t) : ∃ v t', F_world_Seq t = some (v, t') ∧ (0 ≤ v ∧ v ≤ 65535) ∧ TapeOk t' := by
  unfold F_world_Seq
  obtain ⟨v1, t1, e1, a1, b1, k1⟩ := next_spec h 6 (by omega) (by omega)
  rw [e1]
  refine ⟨_, t1, rfl, ?_, k1⟩
  rw [wrap16]
  omega
theorem cost_spec {t : S_multihopmade_Tape} (h : TapeOk t) : ∃ v t', F_world_Cost t = some (v, t') ∧ (0 ≤ v ∧ v ≤ 65535) ∧ TapeOk t' := by
  unfold F_world_Cost
  obtain ⟨v1, t1, e1, a1, b1, k1⟩ := next_spec h 6 (by omega) (by omega)
  obtain ⟨v2, t2, e2, a2, b2, k2⟩ := next_spec k1 4 (by omega) (by omega)
  obtain ⟨v3, t3, e3, a3, b3, k3⟩ := next_spec k1 600 (by omega) (by omega)
  obtain ⟨v4, t4, e4, a4, b4, k4⟩ := next_spec k1 30 (by omega) (by omega)
  simp only [e1, e2, e3, e4, Option.bind_some]
  cases v1 == 0
  · cases v1 == 1
    · refine ⟨_, t4, rfl, ?_, k4⟩
      rw [wi (x := 32 * v4) (by omega) (by omega), wi (by omega) (by omega)]
      omega
    · refine ⟨_, t3, rfl, ?_, k3⟩
      rw [wi (by omega) (by omega)]
      omega
  · exact ⟨_, t2, rfl, by omega, k2⟩
theorem prefix_spec {t : S_multihopmade_Tape} (h : TapeOk t) : ∃ p t', F_world_Prefix t = some (p, t') ∧ (wfP p ∧ vpB p = true) ∧ TapeOk t' := by
  unfold F_world_Prefix F_world_Prefix_j1
  obtain ⟨v1, t1, e1, a1, b1, k1⟩ := next_spec h 10 (by omega) (by omega)
  obtain ⟨v2, t2, e2, k2⟩ := bool_spec k1 7 (by omega) (by omega)
  have hi : idx ([128, 128, 64, 56, 48, 32, 0, 127, 3, 60] : List Int) v1 = some (([128, 128, 64, 56, 48, 32, 0, 127, 3, 60] : List Int)[v1.toNat]'(by simp; omega)) := idx_int a1 (by simpa using b1)
  rw [e1, Option.bind_some, hi, Option.bind_some, e2, Option.bind_some]
  cases v2
  · obtain ⟨ip, t3, e3, l3, B3, k3⟩ := ip_spec k2
    obtain ⟨p, e4, w4⟩ := mask_good B3 (([128, 128, 64, 56, 48, 32, 0, 127, 3, 60] : List Int)[v1.toNat]'(by simp; omega))
    simp only [cond_false, e3, Option.bind_some, e4]
    exact ⟨_, _, rfl, w4, k3⟩
  · obtain ⟨v5, t5, e5, a5, b5, k5⟩ := next_spec k2 129 (by omega) (by omega)
    obtain ⟨ip, t3, e3, l3, B3, k3⟩ := ip_spec k5
    obtain ⟨p, e4, w4⟩ := mask_good B3 v5
    simp only [cond_true, e5, e3, Option.bind_some, e4]
    exact ⟨_, _, rfl, w4, k3⟩
theorem to_spec {t : S_multihopmade_Tape} (h : TapeOk t) : ∃ d t', F_world_To t = some (d, t') ∧ (wfP d.Dst ∧ wfP d.Src ∧ vpB d.Dst = true ∧ vpB d.Src = true ∧ 1 ≤ d.Router ∧ d.Router ≤ 5) ∧ TapeOk t' := by
  unfold F_world_To F_world_To_j1
  obtain ⟨ip, t1, e1, l1, B1, k1⟩ := ip_spec h
  obtain ⟨v2, t2, e2, a2, b2, k2⟩ := next_spec k1 4 (by omega) (by omega)
  have hi : idx ([128, 128, 64, 0] : List Int) v2 = some (([128, 128, 64, 0] : List Int)[v2.toNat]'(by simp; omega)) := idx_int a2 (by simpa using b2)
  obtain ⟨p, e3, w3, v3⟩ := mask_good B1 (([128, 128, 64, 0] : List Int)[v2.toNat]'(by simp; omega))
  obtain ⟨u, t4, e4, a4, b4, k4⟩ := eui_spec k2
  obtain ⟨v5, t5, e5, k5⟩ := bool_spec k4 3 (by omega) (by omega)
  rw [e1, Option.bind_some, e2, Option.bind_some, hi, Option.bind_some, e3, Option.bind_some, e4, Option.bind_some, e5, Option.bind_some]
  cases v5
  · exact ⟨_, _, rfl, ⟨w3, wfP0, v3, vp0, a4, b4⟩, k5⟩
  · obtain ⟨q, t6, e6, ⟨w6, v6⟩, k6⟩ := prefix_spec k5
    simp only [cond_true, e6, Option.bind_some]
    exact ⟨_, _, rfl, ⟨w3, w6, v3, v6, a4, b4⟩, k6⟩
theorem or_one (x : Int) : 0 ≤ ior .u64 x 1 ∧ ior .u64 x 1 ≤ 18446744073709551615 ∧ ior .u64 x 1 ≠ 0 := by
  unfold ior
  rw [wrap64]
  refine ⟨by omega, by omega, ?_⟩
  have h1 : (BitVec.ofInt IntKind.u64.bits x ||| BitVec.ofInt IntKind.u64.bits 1).toNat < 2 ^ 64 := BitVec.isLt _
  have h2 : (BitVec.ofInt IntKind.u64.bits x ||| BitVec.ofInt IntKind.u64.bits 1).toNat ≠ 0 := by
    intro h
    have h3 : (BitVec.ofInt IntKind.u64.bits x ||| BitVec.ofInt IntKind.u64.bits 1) = 0 := BitVec.eq_of_toNat_eq (by simpa using h)
    have h4 : (BitVec.ofInt IntKind.u64.bits x ||| BitVec.ofInt IntKind.u64.bits 1).getLsbD 0 = false := by rw [h3]; simp
    rw [BitVec.getLsbD_or] at h4
    have h5 : (BitVec.ofInt IntKind.u64.bits 1).getLsbD 0 = true := by decide
    rw [h5, Bool.or_true] at h4
    cases h4
  omega
theorem notice_spec {t : S_multihopmade_Tape} (h : TapeOk t) : ∃ n t', F_world_Notice t = some (n, t') ∧ GoodN n ∧ TapeOk t' := by
  unfold F_world_Notice F_world_Notice_j1
  obtain ⟨v1, t1, e1, a1, b1, k1⟩ := next_spec h 5 (by omega) (by omega)
  rw [e1, Option.bind_some]
  dsimp only
  rw [wi (x := 1 + v1) (by omega) (by omega)]
  have hv : v1 = 0 ∨ v1 = 1 ∨ v1 = 2 ∨ v1 = 3 ∨ v1 = 4 := by omega
  rcases hv with rfl | rfl | rfl | rfl | rfl
  · simp only [Int.reduceAdd, Int.reduceBEq, cond_true]
    obtain ⟨s, t2, e2, hs, k2⟩ := seq_spec k1
    rw [e2, Option.bind_some]
    exact ⟨_, _, rfl, .hello _ hs, k2⟩
  · simp only [Int.reduceAdd, Int.reduceBEq, cond_true, cond_false]
    obtain ⟨u, t2, e2, a2, b2, k2⟩ := eui_spec k1
    obtain ⟨m, t3, e3, hm, k3⟩ := cost_spec k2
    obtain ⟨v4, t4, e4, k4⟩ := bool_spec k3 5 (by omega) (by omega)
    rw [e2, Option.bind_some, e3, Option.bind_some, e4, Option.bind_some]
    cases v4
    · exact ⟨_, _, rfl, .heard _ _ hm (by dsimp only; omega) (by dsimp only; omega), k4⟩
    · obtain ⟨w, t5, e5, k5⟩ := word_spec k4
      simp only [cond_true, e5, Option.bind_some]
      have ho := or_one w
      exact ⟨_, _, rfl, .heard _ _ hm ⟨ho.1, ho.2.1⟩ ho.2.2, k5⟩
  · simp only [Int.reduceAdd, Int.reduceBEq, cond_true, cond_false]
    obtain ⟨⟨d, c, r⟩, t2, e2, ⟨w1, w2, u1, u2, r1, r5⟩, k2⟩ := to_spec k1
    obtain ⟨s, t3, e3, hs, k3⟩ := seq_spec k2
    obtain ⟨m, t4, e4, hm, k4⟩ := cost_spec k3
    obtain ⟨v5, t5, e5, k5⟩ := bool_spec k4 5 (by omega) (by omega)
    rw [e2, Option.bind_some, e3, Option.bind_some, e4, Option.bind_some, e5, Option.bind_some]
    dsimp only at w1 w2 u1 u2 r1 r5
    cases v5
    · exact ⟨_, _, rfl, .update _ _ _ _ _ hs hm w1 w2 u1 u2 (by omega) (by omega), k5⟩
    · exact ⟨_, _, rfl, .update _ _ _ _ _ hs (by omega) w1 w2 u1 u2 (by omega) (by omega), k5⟩
  · simp only [Int.reduceAdd, Int.reduceBEq, cond_true, cond_false]
    obtain ⟨⟨d, c, r⟩, t2, e2, ⟨w1, w2, u1, u2, r1, r5⟩, k2⟩ := to_spec k1
    obtain ⟨v5, t5, e5, k5⟩ := bool_spec k2 3 (by omega) (by omega)
    rw [e2, Option.bind_some, e5, Option.bind_some]
    dsimp only at w1 w2 u1 u2 r1 r5
    cases v5
    · exact ⟨_, _, rfl, .route _ _ w1 w2 u1 u2, k5⟩
    · exact ⟨_, _, rfl, .route p0 p0 wfP0 wfP0 vp0 vp0, k5⟩
  · simp only [Int.reduceAdd, Int.reduceBEq, cond_true, cond_false]
    obtain ⟨⟨d, c, r⟩, t2, e2, ⟨w1, w2, u1, u2, r1, r5⟩, k2⟩ := to_spec k1
    obtain ⟨s, t3, e3, hs, k3⟩ := seq_spec k2
    obtain ⟨v4, t4, e4, a4, b4, k4⟩ := next_spec k3 32 (by omega) (by omega)
    rw [e2, Option.bind_some, e3, Option.bind_some, e4, Option.bind_some]
    dsimp only at w1 w2 u1 u2 r1 r5
    rw [wi (by dsimp only; omega) (by dsimp only; omega)]
    exact ⟨_, _, rfl, .seqr _ _ _ _ _ hs (by dsimp only; omega) w1 w2 u1 u2 (by omega) (by omega), k4⟩
theorem notices_spec {t : S_multihopmade_Tape} (h : TapeOk t) {n : Int} (n0 : 0 ≤ n) (n1 : n ≤ 60) : ∃ l t', F_world_Notices t n = some (l, t') ∧ (∀ x ∈ l, GoodN x) ∧ (l.length : Int) ≤ n ∧ TapeOk t' := by
  unfold F_world_Notices
  rw [wi (x := n + 1) (by omega) (by omega)]
  obtain ⟨v1, t1, e1, a1, b1, k1⟩ := next_spec h (n + 1) (by omega) (by omega)
  rw [e1, Option.bind_some]
  obtain ⟨b, e2, g2, l2, k2⟩ := loop_inv (step := F_world_Notices_l1) (fun s => 0 ≤ s.2.1 ∧ (s.1.length : Int) + s.2.1 ≤ n ∧ (∀ x ∈ s.1, GoodN x) ∧ TapeOk s.2.2) (fun r => (∀ x ∈ r.1, GoodN x) ∧ (r.1.length : Int) ≤ n ∧ TapeOk r.2) (fun s => s.2.1.toNat) (fun s ⟨i0, i1, hg, ht⟩ => by
    unfold F_world_Notices_l1
    by_cases hi : s.2.1 > 0
    · left
      obtain ⟨x, t2, e3, gx, k3⟩ := notice_spec ht
      rw [decT hi, cond_true, e3, Option.bind_some]
      simp only [Cut.app]
      rw [appO_some (by simp; omega) (by simp; omega), Option.bind_some, wi (by omega) (by omega)]
      refine ⟨_, rfl, ⟨by dsimp only; omega, by dsimp only; simp; omega, ?_, k3⟩, by dsimp only; omega⟩
      intro y hy
      rcases List.mem_append.1 hy with h | h
      · exact hg y h
      · rw [List.mem_singleton.1 h]; exact gx
    · right
      rw [decF hi]
      exact ⟨_, rfl, hg, by dsimp only; omega, ht⟩) ([], v1, t1) ⟨by dsimp only; omega, by dsimp only; simp; omega, by simp, k1⟩
  have e2' : loopO F_world_Notices_l1 (([] : List S_Notice), (v1, t1).1, (v1, t1).2) = some b := e2
  rw [e2', Option.bind_some]
  exact ⟨_, _, rfl, g2, l2, k2⟩
end
section
open Go.RowKit

def hi1 : S_Notice := S_Notice.mk 1 258 0 0 t0 0
theorem hi1_pk : Pk 7 [hi1] := ⟨fun n hn => by rw [List.mem_singleton.1 hn]; exact .hello _ (by omega), by simp, by omega, by omega⟩
theorem known_true : F_law29_known = some true := by
  unfold F_law29_known
  have hw : ∀ n ∈ [hi1], WfN n := fun n hn => good_wf (hi1_pk.good n hn)
  have e1 : F_messages_Encode 7 [S_Notice.mk 1 258 0 0 (S_Destination.mk (S_Prefix.mk [0, 0, 0, 0, 0, 0, 0, 0, 0, 0, 0, 0, 0, 0, 0, 0] 0) (S_Prefix.mk [0, 0, 0, 0, 0, 0, 0, 0, 0, 0, 0, 0, 0, 0, 0, 0] 0) 0) 0] = some (pk 7 [hi1], 0) := by
    have := enc_p hw 7
    rw [hi1_pk.enc] at this
    exact this
  rw [e1, Option.bind_some]
  have hs := pk_small hi1_pk
  have e2 := (dec_p (pk_ok hi1_pk) (by omega)).2.1 7 [hi1] hi1_pk rfl
  simp only [e2, Option.bind_some, BEq.rfl, cond_true]
  have e3 : pk 7 [hi1] = [42, 1, 0, 0, 0, 0, 7, 0, 4, 1, 2, 1, 2] := by decide
  rw [e3]
  rfl
theorem good_wfs {l : List S_Notice} (g : ∀ n ∈ l, GoodN n) : ∀ n ∈ l, WfN n := fun n hn => good_wf (g n hn)
theorem concat_spec {a b : List Int} (ha : a.length ≤ 100000) (hb : b.length ≤ 100000) (h1 : 1 ≤ a.length) : F_slices_Concat_byte_byte [a, b] = some (a ++ b) := by
  unfold F_slices_Concat_byte_byte
  have h := loop_run (step := F_slices_Concat_byte_byte_l1 [a, b]) (S := fun k => (if k = 0 then 0 else if k = 1 then (a.length : Int) else ((a.length + b.length : Nat) : Int), (k : Int))) 2 (r := ((a.length + b.length : Nat) : Int)) (fun k hk => by
    have : k = 0 ∨ k = 1 := by omega
    rcases this with rfl | rfl
    · unfold F_slices_Concat_byte_byte_l1
      have e : idx ([a, b] : List (List Int)) ((0 : Nat) : Int) = some a := rfl
      dsimp only
      rw [decT (by simp), e]
      simp only [cond_true, Option.bind_some, if_true, Int.zero_add]
      rw [wi (by omega) (by omega), decF (by omega)]
      rfl
    · unfold F_slices_Concat_byte_byte_l1
      have e : idx ([a, b] : List (List Int)) ((1 : Nat) : Int) = some b := rfl
      dsimp only
      rw [decT (by simp), e]
      simp only [cond_true, Option.bind_some, if_true, show ¬ (1 = 0) by omega, if_false]
      rw [wi (by omega) (by omega), decF (by omega)]
      simp only [cond_false, show ¬ (1 + 1 = 0) by omega, show ¬ (1 + 1 = 1) by omega, if_false]
      rw [show (a.length : Int) + (b.length : Int) = ((a.length + b.length : Nat) : Int) by omega]
      rfl) (by
    unfold F_slices_Concat_byte_byte_l1
    dsimp only
    rw [decF (by simp)]
    rfl)
  have h' : loopO (F_slices_Concat_byte_byte_l1 [a, b]) (0, 0) = some ((a.length + b.length : Nat) : Int) := h
  rw [h', Option.bind_some, decF (by omega), cond_false, show (0 : Int) - 0 = 0 from rfl, wi (x := 0) (by omega) (by omega), Int.sub_zero, wi (by omega) (by omega), decT (by omega), cond_true]
  have hz : ∃ z, appZO 1 ([] : List Int) (0 : Int) ((a.length + b.length : Nat) : Int) = some z := by
    unfold appZO
    rw [if_pos (by simp; omega)]
    exact ⟨_, appb (by simp) (by simp; omega)⟩
  obtain ⟨z, hz⟩ := hz
  rw [hz, Option.bind_some, decT (by omega), cond_true, show Int.toNat 0 = 0 from rfl, List.take_zero]
  unfold F_slices_Concat_byte_byte_j2
  have h2 := loop_run (step := F_slices_Concat_byte_byte_l3 [a, b]) (S := fun k => ((k : Int), if k = 0 then [] else if k = 1 then a else a ++ b)) 2 (r := a ++ b) (fun k hk => by
    have : k = 0 ∨ k = 1 := by omega
    rcases this with rfl | rfl
    · unfold F_slices_Concat_byte_byte_l3
      have e : idx ([a, b] : List (List Int)) ((0 : Nat) : Int) = some a := rfl
      dsimp only
      rw [decT (by simp), e]
      simp only [cond_true, Option.bind_some, if_true, Cut.app, List.take_nil]
      rw [appb (by simp) (by omega)]
      rfl
    · unfold F_slices_Concat_byte_byte_l3
      have e : idx ([a, b] : List (List Int)) ((1 : Nat) : Int) = some b := rfl
      dsimp only
      rw [decT (by simp), e]
      simp only [cond_true, Option.bind_some, if_true, Cut.app, show ¬ (1 = 0) by omega, if_false, List.take_length]
      rw [appb (by omega) (by omega)]
      rfl) (by
    unfold F_slices_Concat_byte_byte_l3
    dsimp only
    rw [decF (by simp)]
    rfl)
  have h2' : loopO (F_slices_Concat_byte_byte_l3 [a, b]) (0, []) = some (a ++ b) := h2
  rw [h2']
  rfl
theorem head9 (n : Nat) : okB [42, 1, 0, 0, 0, 0, 9, IntKind.wrap .u8 (ishr .i64 (n : Int) 8), IntKind.wrap .u8 (n : Int)] := by
  have h1 := wrap8_bd (ishr .i64 (n : Int) 8)
  have h2 := wrap8_bd (n : Int)
  intro z hz
  simp only [List.mem_cons, List.not_mem_nil, or_false] at hz
  omega
end
section
open Go.RowKit

theorem put2 (at_ : Int) {a : List Int} (ha : a.length ≤ 1000) : loopO (F_ref29_Encode_R_l2 at_) (4, a) = some (a ++ beB (IntKind.wrap .u64 at_) 5) := by
  generalize hv : IntKind.wrap .u64 at_ = v
  have hl := loop_run (step := F_ref29_Encode_R_l2 at_) (S := fun k => (((5 : Nat) : Int) - 1 - (k : Int), a ++ (beB v 5).take k)) 5 (r := a ++ beB v 5) (fun k hk => by
    unfold F_ref29_Encode_R_l2
    dsimp only
    have w1 : IntKind.wrap .i64 (8 * (((5 : Nat) : Int) - 1 - (k : Int))) = ((8 * (5 - 1 - k) : Nat) : Int) := by rw [wi (by omega) (by omega)]; omega
    have w2 : IntKind.wrap .u64 ((8 * (5 - 1 - k) : Nat) : Int) = ((8 * (5 - 1 - k) : Nat) : Int) := wu (by omega) (by omega)
    have w3 : IntKind.wrap .i64 (((5 : Nat) : Int) - 1 - (k : Int) - 1) = ((5 : Nat) : Int) - 1 - ((k + 1 : Nat) : Int) := by rw [wi (by omega) (by omega)]; omega
    rw [hv, decT (show ((5 : Nat) : Int) - 1 - (k : Int) ≥ 0 by omega), w1, w2, w3, decT (show (0 : Int) ≤ ((8 * (5 - 1 - k) : Nat) : Int) by omega)]
    simp only [cond_true, Cut.app, List.take_length]
    rw [appb (by simp only [List.length_append, List.length_take, beB_len]; omega) (by simp), Option.bind_some, byte_eq (by omega) (by omega), Int.toNat_natCast, take_snoc (beB_get hk), List.append_assoc]) (by
    unfold F_ref29_Encode_R_l2
    dsimp only
    rw [decF (show ¬ ((5 : Nat) : Int) - 1 - ((5 : Nat) : Int) ≥ 0 by omega)]
    simp only [cond_false]
    rw [List.take_of_length_le (by rw [beB_len]; exact Nat.le_refl _)])
  simpa using hl
theorem put3 (w a : List Int) (ha : a.length ≤ 1000) : loopO (F_ref29_Encode_R_l3 w) (1, a) = some (a ++ beB (IntKind.wrap .u64 (w.length : Int)) 2) := by
  generalize hv : IntKind.wrap .u64 (w.length : Int) = v
  have hl := loop_run (step := F_ref29_Encode_R_l3 w) (S := fun k => (((2 : Nat) : Int) - 1 - (k : Int), a ++ (beB v 2).take k)) 2 (r := a ++ beB v 2) (fun k hk => by
    unfold F_ref29_Encode_R_l3
    dsimp only
    have w1 : IntKind.wrap .i64 (8 * (((2 : Nat) : Int) - 1 - (k : Int))) = ((8 * (2 - 1 - k) : Nat) : Int) := by rw [wi (by omega) (by omega)]; omega
    have w2 : IntKind.wrap .u64 ((8 * (2 - 1 - k) : Nat) : Int) = ((8 * (2 - 1 - k) : Nat) : Int) := wu (by omega) (by omega)
    have w3 : IntKind.wrap .i64 (((2 : Nat) : Int) - 1 - (k : Int) - 1) = ((2 : Nat) : Int) - 1 - ((k + 1 : Nat) : Int) := by rw [wi (by omega) (by omega)]; omega
    rw [hv, decT (show ((2 : Nat) : Int) - 1 - (k : Int) ≥ 0 by omega), w1, w2, w3, decT (show (0 : Int) ≤ ((8 * (2 - 1 - k) : Nat) : Int) by omega)]
    simp only [cond_true, Cut.app, List.take_length]
    rw [appb (by simp only [List.length_append, List.length_take, beB_len]; omega) (by simp), Option.bind_some, byte_eq (by omega) (by omega), Int.toNat_natCast, take_snoc (beB_get hk), List.append_assoc]) (by
    unfold F_ref29_Encode_R_l3
    dsimp only
    rw [decF (show ¬ ((2 : Nat) : Int) - 1 - ((2 : Nat) : Int) ≥ 0 by omega)]
    simp only [cond_false]
    rw [List.take_of_length_le (by rw [beB_len]; exact Nat.le_refl _)])
  simpa using hl
theorem enc_R {at_ : Int} {l : List S_Notice} (h : Pk at_ l) : F_ref29_Encode_R at_ l = some (pk at_ l, 0) := by
  unfold F_ref29_Encode_R
  have h1 := h.len
  have h2 := h.lo
  have h3 := h.hi
  have hlen := encL_len 0 ad0 l h.good
  have e : F_ref29_Encode_R_l1 l = F_ref29_Encode_l1 l := rfl
  rw [decF (show ¬ (l.length : Int) > 64 by omega), cond_false, e, all_r (by omega), Option.bind_some, if_pos (good_all h.good), Sum.elim_inl, decF (show ¬ at_ < 0 by omega), cond_false, decF (show ¬ at_ ≥ 1099511627776 by omega), cond_false, body_r h.good (by omega), Option.bind_some]
  have q1 : IntKind.wrap .i64 (5 - 1) = 4 := by decide
  have q2 : IntKind.wrap .i64 (2 - 1) = 1 := by decide
  rw [q1, q2, put2 at_ (by simp), Option.bind_some, put3 _ _ (by simp [beB_len]), Option.bind_some, wu (by omega) (by omega), wu (by omega) (by omega)]
  simp only [Cut.app, List.take_length]
  rw [appb (by simp [beB_len]) (by omega)]
  rfl
theorem unique_step {x : List Int} (ok : okB x) (hx : x.length ≤ 100000) : (∃ v, F_messages_Decode x = some v ∧ v.2.2 ≠ 0) ∨ (∃ at_ l, F_messages_Decode x = some (at_, l, 0) ∧ Pk at_ l ∧ x = pk at_ l) := by
  obtain ⟨p1, p2, p3⟩ := dec_p ok (by omega)
  by_cases hs : short x
  · exact .inl ⟨_, p1 hs, by simp⟩
  · by_cases he : ∃ at_ l, Pk at_ l ∧ x = pk at_ l
    · obtain ⟨at_, l, hp, e⟩ := he
      exact .inr ⟨at_, l, p2 at_ l hp e, hp, e⟩
    · exact .inl ⟨_, p3 hs he, by simp⟩
theorem unique_law {raw : List Int} (ok : okB raw) (t : List Int) (at_ : Int) {by_ : Int} (hb : 0 ≤ by_ ∧ by_ ≤ 255) : F_law29_MessagesUnique raw t at_ by_ = some true := by
  unfold F_law29_MessagesUnique
  by_cases h : (raw.length : Int) > 2000
  · rw [decT h, cond_true, known_true]
    rfl
  rw [decF h, cond_false]
  obtain ⟨k, e1, k1⟩ := new_spec t
  obtain ⟨a, t1, e2, a0, a1, k2⟩ := next_spec k1 1000 (by omega) (by omega)
  obtain ⟨l, t2, e3, g2, l2, k3⟩ := notices_spec k2 (n := 8) (by omega) (by omega)
  have hp : Pk a l := ⟨g2, by omega, a0, by omega⟩
  have hs := pk_small hp
  have okp := pk_ok hp
  obtain ⟨q, e5, q0, q1⟩ := mod_spec at_ ((pk a l).length : Int) (by omega) (by omega)
  obtain ⟨Q, rfl⟩ : ∃ Q : Nat, q = (Q : Int) := ⟨q.toNat, by omega⟩
  have hQ : Q < (pk a l).length := by omega
  have eg : (pk a l)[0 + Int.toNat (Q : Int)]? = some ((pk a l)[Q]) := by
    rw [Int.toNat_natCast, Nat.zero_add]
    exact List.getElem?_eq_getElem hQ
  rw [e1, Option.bind_some, e2, Option.bind_some, e3, Option.bind_some, enc_R hp, Option.bind_some]
  dsimp only
  simp only [Option.bind_some, e5, Cut.app, idx_lt hQ, eg]
  rw [concat_spec (by simp) (by omega) (by simp), Option.bind_some]
  have okc : okB ([42, 1, 0, 0, 0, 0, 9, IntKind.wrap .u8 (ishr .i64 (raw.length : Int) 8), IntKind.wrap .u8 (raw.length : Int)] ++ raw) := okB.append (head9 _) ok
  have lc : ([42, 1, 0, 0, 0, 0, 9, IntKind.wrap .u8 (ishr .i64 (raw.length : Int) 8), IntKind.wrap .u8 (raw.length : Int)] ++ raw).length ≤ 100000 := by simp; omega
  generalize [42, 1, 0, 0, 0, 0, 9, IntKind.wrap .u8 (ishr .i64 (raw.length : Int) 8), IntKind.wrap .u8 (raw.length : Int)] ++ raw = C at *
  have oks : okB ((pk a l).set (0 + Int.toNat (Q : Int)) by_) := okB.set okp _ hb
  have ls : ((pk a l).set (0 + Int.toNat (Q : Int)) by_).length ≤ 100000 := by rw [List.length_set]; omega
  have hl := loop_run (step := F_law29_MessagesUnique_l1 raw (pk a l, 0) (Q : Int) by_ C) (S := fun k => (k : Int)) 3 (r := Sum.inl ()) (fun k hk => by
    have key : ∃ x, idx ([raw, (pk a l).set (0 + Int.toNat (Q : Int)) by_, C] : List (List Int)) (k : Int) = some x ∧ okB x ∧ x.length ≤ 100000 := by
      have hk3 : k = 0 ∨ k = 1 ∨ k = 2 := by omega
      rcases hk3 with rfl | rfl | rfl
      · exact ⟨_, rfl, ok, by omega⟩
      · exact ⟨_, rfl, oks, ls⟩
      · exact ⟨_, rfl, okc, lc⟩
    obtain ⟨x, ex, ox, lx⟩ := key
    unfold F_law29_MessagesUnique_l1 F_law29_MessagesUnique_j2
    dsimp only
    rw [decT (by simp; omega), ex]
    simp only [cond_true, Option.bind_some]
    rcases unique_step ox lx with ⟨v, ev, h0⟩ | ⟨at2, l2, ev, hp2, he⟩
    · rw [ev, Option.bind_some, show (v.2.2 != 0) = true by simpa using h0, cond_true, wk k (by omega)]
    · rw [ev, Option.bind_some]
      dsimp only
      rw [show ((0 : Int) != 0) = false from rfl, cond_false, enc_p (good_wfs hp2.good), hp2.enc, Option.bind_some]
      dsimp only
      rw [show ((0 : Int) != 0) = false from rfl, cond_false, equal_spec ox (pk_ok hp2), ← he]
      simp only [Option.bind_some, decide_true, cond_true, wk k (by omega)]) (by
    unfold F_law29_MessagesUnique_l1
    rw [decF (by simp)]
    rfl)
  simp only [Int.natCast_zero] at hl
  rw [hl]
  simp only [Option.bind_some, Sum.elim_inl, known_true]
def fitB (size : Int) (l : List S_Notice) (j : Nat) : Bool := decide (9 + ((encL 0 ad0 (l.take j)).length : Int) ≤ size)
def cnt (size : Int) (l : List S_Notice) : Nat → Nat → Nat
  | k, 0 => k
  | k, f + 1 => if fitB size l (k + 1) then cnt size l (k + 1) f else k
def c0 (size : Int) (l : List S_Notice) : Nat := cnt size l 0 (min l.length 64)
/-- the notices of each packet -/
def chk (size : Int) : Nat → List S_Notice → List (List S_Notice)
  | 0, _ => []
  | f + 1, l => if l = [] then [] else l.take (c0 size l) :: chk size f (l.drop (c0 size l))
end
section
open Go.RowKit

theorem messagesUnique_holds : Rows.MessagesUniqueSaid := messagesUnique_of fun _ _ _ _ h1 _ _ h4 => unique_law (okB_wf h1.2) _ _ (u8_bd h4)
end
end Go.Proofs.Ytcemblilhbidgaa
