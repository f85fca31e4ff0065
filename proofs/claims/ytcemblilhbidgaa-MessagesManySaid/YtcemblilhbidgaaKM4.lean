/-
  MessagesMany, proved for all arguments.
-/
import Derived.Test.YtcemblilhbidgaaKM3
namespace Go.Proofs.Ytcemblilhbidgaa
section
open Go.RowKit

theorem num_eq {b a v c : List Int} {i n : Nat} (h : b = a ++ v ++ c) (ha : a.length = i) (hv : v.length = n) : numB b i n = beN v := by
  subst h ha
  exact num_at n hv
theorem beN_v {v : Int} {n : Nat} (h0 : 0 ≤ v) (h1 : v < 256 ^ n) : beN (beB v n) = v := by
  rw [beN_beB, Int.emod_eq_of_lt h0 h1]
theorem dst_wf {d body : List Int} (hd : d.length = 16) (od : okB d) (ob : okB body) {x y k : Int} {a : Nat} (hk : 0 ≤ k) (hx : 0 ≤ x) (h : fits x y k body.length a) : wfP (S_Prefix.mk (dstL d body x k a) x) := by
  obtain ⟨h1, h2, h3, h4, h5⟩ := h
  have z1 := sz_le hx h1
  unfold dstL
  refine fillA_wf (okB.append (okB.take od _) (okB.take (okB.drop ob _) _)) ?_ _
  rw [List.length_append, List.length_take, List.length_take, List.length_drop]
  omega
theorem src_wf {body : List Int} (ob : okB body) {x y k : Int} {a : Nat} (hy : 0 ≤ y) (h : fits x y k body.length a) : wfP (S_Prefix.mk (srcL body x k a) y) := by
  obtain ⟨h1, h2, h3, h4, h5⟩ := h
  have z1 := sz_le hy h2
  unfold srcL
  refine fillA_wf (okB.drop ob _) ?_ _
  rw [List.length_drop]
  omega
theorem read_wf {b : List Int} (h : okB b) (k : Int) {r : Int} (hr : 0 ≤ r ∧ r ≤ 18446744073709551615) {d : List Int} (hd : d.length = 16) (od : okB d) : WfN (readS k b r d).1 := by
  have n1 := fun i => num_bd h i 1
  have n2 := fun i => num_bd h i 2
  have n8 := fun i => num_bd h i 8
  have b1 : ∀ i, 0 ≤ numB b i 1 ∧ numB b i 1 ≤ 255 := fun i => by have := n1 i; omega
  have b2 : ∀ i, 0 ≤ numB b i 2 ∧ numB b i 2 ≤ 65535 := fun i => by have := n2 i; omega
  have b8 : ∀ i, 0 ≤ numB b i 8 ∧ numB b i 8 ≤ 18446744073709551615 := fun i => by have := n8 i; omega
  have o0 : (0 : Int) ≤ 0 ∧ (0 : Int) ≤ 65535 := by omega
  have o1 : (0 : Int) ≤ 0 ∧ (0 : Int) ≤ 18446744073709551615 := by omega
  unfold readS
  split
  · exact ⟨b2 0, o1, o1, wfP0, wfP0⟩
  split
  · exact ⟨o0, b8 0, o1, wfP0, wfP0⟩
  split
  · split
    · rename_i hf
      exact ⟨b2 3, o1, hr, dst_wf hd od h (b1 0).1 (b1 1).1 hf, src_wf h (b1 2).1 hf⟩
    · exact badN_wf
  split
  · split
    · rename_i hf
      exact ⟨o0, o1, o1, dst_wf hd od h (by omega) (b1 0).1 hf, src_wf h (b1 1).1 hf⟩
    · exact badN_wf
  split
  · split
    · rename_i hf
      exact ⟨b2 2, o1, b8 5, dst_wf hd od h (by omega) (b1 0).1 hf, src_wf h (b1 1).1 hf⟩
    · exact badN_wf
  · exact badN_wf
noncomputable def stepM (k : Int) (body t : List Int) (out : List S_Notice) (s : S_messages_state) : ((List Int) × (List S_Notice) × S_messages_state) ⊕ ((List S_Notice) ⊕ ((List S_Notice) × Bool)) :=
  if k = 6 then (if 8 ≤ body.length then .inl (t, out, S_messages_state.mk s.elements (numB body 0 8) s.dst) else .inr (.inr ([], false)))
  else if (readS k body s.router s.dst).2 = true then .inl (t, out ++ [(readS k body s.router s.dst).1], S_messages_state.mk s.elements s.router (nxD s.dst (readS k body s.router s.dst).1))
  else .inr (.inr ([], false))
theorem stepm_p {k m : Int} {rest : List Int} (hm : 0 ≤ m ∧ m ≤ 255) (hl : m ≤ rest.length) (hr : rest.length ≤ 1000000) (ok : okB rest) {out : List S_Notice} (ho : out.length ≤ 64) {s : S_messages_state} (hd : s.dst.length = 16) :
    F_messages_parse_l1 (k :: m :: rest, out, s) = some (stepM k (rest.take m.toNat) (rest.drop m.toNat) out s) := by
  unfold F_messages_parse_l1
  dsimp only
  have e0 : idx (k :: m :: rest) 0 = some k := rfl
  have e1 : idx (k :: m :: rest) 1 = some m := rfl
  have hbl : (rest.take m.toNat).length = m.toNat := by rw [List.length_take]; omega
  rw [decT (show ((k :: m :: rest).length : Int) > 0 by simp; omega), decF (show ¬ ((k :: m :: rest).length : Int) < 2 by simp; omega), e0, e1]
  simp only [cond_true, cond_false, Option.bind_some]
  rw [wi (x := m) (by omega) (by omega), wi (x := ((k :: m :: rest).length : Int) - 2) (by simp; omega) (by simp; omega), decF (show ¬ ((k :: m :: rest).length : Int) - 2 < m by simp; omega), decF (show ¬ ((out.length : Nat) : Int) > 64 by omega), wi (x := 2 + m) (by omega) (by omega), subO_some (l := k :: m :: rest) (a := 2) (by omega) (by omega) (by simp; omega)]
  simp only [cond_false, Option.bind_some]
  have e2 : ((k :: m :: rest).take (2 + m).toNat).drop (2 : Int).toNat = rest.take m.toNat := by
    rw [show (2 + m).toNat = m.toNat + 1 + 1 by omega]
    simp
  rw [e2, hbl, wi (x := 2 + ((m.toNat : Nat) : Int)) (by omega) (by omega), subO_some (l := k :: m :: rest) (by omega) (by simp; omega) (by omega)]
  have e3 : ((k :: m :: rest).take (((k :: m :: rest).length : Nat) : Int).toNat).drop (2 + ((m.toNat : Nat) : Int)).toNat = rest.drop m.toNat := by
    rw [Int.toNat_natCast, List.take_length, show (2 + ((m.toNat : Nat) : Int)).toNat = m.toNat + 1 + 1 by omega]
    simp
  rw [e3, Option.bind_some]
  have okb : okB (rest.take m.toNat) := okB.take ok _
  unfold stepM
  by_cases k6 : k = 6
  · subst k6
    rw [if_pos rfl, show ((6 : Int) == 6) = true from rfl, cond_true]
    by_cases h8 : 8 ≤ (rest.take m.toNat).length
    · have hu := uint_some okb (by omega) 0 8 (by omega) (by omega) (by omega)
      have hu' : F_octets_Uint (rest.take m.toNat) 0 8 = some (beN (((rest.take m.toNat).drop 0).take 8), true) := hu
      rw [hu', if_pos h8]
      unfold numB
      rw [if_pos (by omega)]
      rfl
    · have hu := uint_none (b := rest.take m.toNat) (by omega) 0 8 (by omega) (by omega) (by omega)
      have hu' : F_octets_Uint (rest.take m.toNat) 0 8 = some (0, false) := hu
      rw [hu', if_neg h8]
      rfl
  · rw [if_neg k6, beqF k6, cond_false, read_p okb (by omega) k hd, Option.bind_some]
    unfold F_messages_parse_j2
    simp only [Cut.app]
    rw [appO_some (by simp; omega) (by simp; omega)]
    simp only [Option.bind_some]
    cases h2 : (readS k (rest.take m.toNat) s.router s.dst).2
    · rfl
    · simp only [cond_true, if_true, nxD]
      by_cases h3 : (readS k (rest.take m.toNat) s.router s.dst).1.Kind = 3
      · rw [if_pos h3, h3]
        rfl
      · rw [if_neg h3, beqF h3]
        rfl
theorem parse_tot {b : List Int} (ok : okB b) (hb : b.length ≤ 1000000) : (∃ l, F_messages_parse b = some (l, true) ∧ ∀ n ∈ l, WfN n) ∨ F_messages_parse b = some ([], false) := by
  unfold F_messages_parse
  obtain ⟨r, e, hq⟩ := loop_inv (step := F_messages_parse_l1) (fun s => okB s.1 ∧ s.1.length ≤ 1000000 ∧ (∀ n ∈ s.2.1, WfN n) ∧ s.2.2.dst.length = 16 ∧ okB s.2.2.dst ∧ 0 ≤ s.2.2.router ∧ s.2.2.router ≤ 18446744073709551615) (fun r => (∃ l, r = .inl l ∧ ∀ n ∈ l, WfN n) ∨ r = .inr ([], false)) (fun s => s.1.length) (fun s ⟨i1, i2, i3, i4, i5, i6, i7⟩ => by
    obtain ⟨b, out, st⟩ := s
    dsimp only at i1 i2 i3 i4 i5 i6 i7 ⊢
    match b, i1, i2 with
    | [], _, _ => exact .inr ⟨.inl out, rfl, .inl ⟨out, rfl, i3⟩⟩
    | [x], _, _ => exact .inr ⟨.inr ([], false), rfl, .inr rfl⟩
    | k :: m :: rest, i1, i2 =>
      have hm := i1 m (by simp)
      simp only [List.length_cons] at i2
      by_cases hl : m ≤ rest.length
      rotate_left
      · right
        refine ⟨.inr ([], false), ?_, .inr rfl⟩
        unfold F_messages_parse_l1
        dsimp only
        have e1 : idx (k :: m :: rest) 1 = some m := rfl
        rw [decT (show ((k :: m :: rest).length : Int) > 0 by simp; omega), decF (show ¬ ((k :: m :: rest).length : Int) < 2 by simp; omega), e1]
        simp only [cond_true, cond_false, Option.bind_some]
        rw [wi (x := m) (by omega) (by omega), wi (x := ((k :: m :: rest).length : Int) - 2) (by simp; omega) (by simp; omega), decT (show ((k :: m :: rest).length : Int) - 2 < m by simp; omega)]
        rfl
      by_cases ho : out.length ≤ 64
      rotate_left
      · right
        refine ⟨.inr ([], false), ?_, .inr rfl⟩
        unfold F_messages_parse_l1
        dsimp only
        have e1 : idx (k :: m :: rest) 1 = some m := rfl
        rw [decT (show ((k :: m :: rest).length : Int) > 0 by simp; omega), decF (show ¬ ((k :: m :: rest).length : Int) < 2 by simp; omega), e1]
        simp only [cond_true, cond_false, Option.bind_some]
        rw [wi (x := m) (by omega) (by omega), wi (x := ((k :: m :: rest).length : Int) - 2) (by simp; omega) (by simp; omega), decF (show ¬ ((k :: m :: rest).length : Int) - 2 < m by simp; omega), decT (show ((out.length : Nat) : Int) > 64 by omega)]
        rfl
      have okr : okB rest := fun z hz => i1 z (by simp [hz])
      have okb : okB (rest.take m.toNat) := okB.take okr _
      rw [stepm_p hm hl (by omega) okr ho i4]
      have hw := read_wf okb k ⟨i6, i7⟩ i4 i5
      have n8 := num_bd okb 0 8
      unfold stepM
      split
      · split
        · exact .inl ⟨_, rfl, ⟨okB.drop okr _, by dsimp only; rw [List.length_drop]; omega, i3, i4, i5, by dsimp only; omega, by dsimp only; omega⟩, by dsimp only; rw [List.length_drop]; simp; omega⟩
        · exact .inr ⟨_, rfl, .inr rfl⟩
      · split
        · refine .inl ⟨_, rfl, ⟨okB.drop okr _, by dsimp only; rw [List.length_drop]; omega, ?_, nxD_len i4 hw, ?_, i6, i7⟩, by dsimp only; rw [List.length_drop]; simp; omega⟩
          · intro n hn
            rcases List.mem_append.1 hn with h | h
            · exact i3 n h
            · rw [List.mem_singleton.1 h]; exact hw
          · dsimp only
            unfold nxD
            split
            · exact hw.dst.2
            · exact i5
        · exact .inr ⟨_, rfl, .inr rfl⟩) (b, [], S_messages_state.mk [] 0 ad0) ⟨ok, hb, by simp, rfl, wfP0.2, by dsimp only; omega, by dsimp only; omega⟩
  have e' : loopO F_messages_parse_l1 (b, ([] : List S_Notice), S_messages_state.mk [] 0 [0, 0, 0, 0, 0, 0, 0, 0, 0, 0, 0, 0, 0, 0, 0, 0]) = some r := e
  rw [e']
  rcases hq with ⟨l, rfl, h⟩ | rfl
  · exact .inl ⟨l, rfl, h⟩
  · exact .inr rfl
def bdN (d : List Int) (n : S_Notice) : List Int :=
  if n.Kind = 1 then beB n.Seq 2
  else if n.Kind = 2 then beB n.Neighbour 8 ++ beB n.Metric 2
  else if n.Kind = 3 then [(comm (pfx n.To.Dst) d : Int), n.To.Dst.Bits, n.To.Src.Bits] ++ beB n.Seq 2 ++ beB n.Metric 2 ++ (pfx n.To.Dst).drop (comm (pfx n.To.Dst) d) ++ pfx n.To.Src
  else if n.Kind = 5 then [n.To.Dst.Bits, n.To.Src.Bits] ++ beB n.Seq 2 ++ [n.Hops] ++ beB n.To.Router 8 ++ pfx n.To.Dst ++ pfx n.To.Src
  else [n.To.Dst.Bits, n.To.Src.Bits] ++ pfx n.To.Dst ++ pfx n.To.Src
theorem encN_eq (r : Int) (d : List Int) {n : S_Notice} (g : GoodN n) : encN r d n = (if n.Kind = 3 ∧ n.To.Router ≠ r then el 6 (beB n.To.Router 8) else []) ++ el n.Kind (bdN d n) := by
  unfold encN bdN
  cases g <;> simp
theorem bdN_len (d : List Int) {n : S_Notice} (g : GoodN n) : (bdN d n).length ≤ 50 := by
  have w := good_wf g
  have h1 := pfx_le w.dst
  have h2 := pfx_le w.src
  unfold bdN
  cases g <;> simp [beB_len] at * <;> omega
theorem bdN_ok (d : List Int) {n : S_Notice} (g : GoodN n) : okB (bdN d n) := by
  have w := good_wf g
  have h1 := pfx_ok w.dst
  have h2 := pfx_ok w.src
  have h3 := beB_ok
  have h4 := comm_le (pfx n.To.Dst) d
  have h5 := pfx_le w.dst
  unfold bdN
  cases g with
  | hello s h => exact h3 _ _
  | heard m b h hb h0 => exact okB.append (h3 _ _) (h3 _ _)
  | update s m p c r hs h wd wc vd vc hr h0 =>
    have v1 := vb vd
    have v2 := vb vc
    refine okB.append (okB.append (okB.append (okB.append ?_ (h3 _ _)) (h3 _ _)) (okB.drop h1 _)) h2
    exact okB_cons ⟨by omega, by dsimp only at h4 h5 ⊢; omega⟩ (okB_cons ⟨by dsimp only; omega, by dsimp only; omega⟩ (okB_one ⟨by dsimp only; omega, by dsimp only; omega⟩))
  | route p c wd wc vd vc =>
    have v1 := vb vd
    have v2 := vb vc
    refine okB.append (okB.append ?_ h1) h2
    exact okB_cons ⟨by dsimp only; omega, by dsimp only; omega⟩ (okB_one ⟨by dsimp only; omega, by dsimp only; omega⟩)
  | seqr s h p c r hs hh wd wc vd vc hr h0 =>
    have v1 := vb vd
    have v2 := vb vc
    refine okB.append (okB.append (okB.append (okB.append (okB.append ?_ (h3 _ _)) (okB_one ?_)) (h3 _ _)) h1) h2
    · exact okB_cons ⟨by dsimp only; omega, by dsimp only; omega⟩ (okB_one ⟨by dsimp only; omega, by dsimp only; omega⟩)
    · dsimp only; omega
theorem read_good {n : S_Notice} (g : GoodN n) {r : Int} (hr : n.Kind = 3 → r = n.To.Router) {d : List Int} (hd : d.length = 16) : readS n.Kind (bdN d n) r d = (n, true) := by
  unfold readS
  cases g with
  | hello s h =>
    have e : numB (beB s 2) 0 2 = s := by
      rw [num_eq (i := 0) (n := 2) (a := []) (v := beB s 2) (c := []) (by simp) rfl (beB_len _ _), beN_v h.1 (by omega)]
    simp only [bdN, if_true, e]
  | heard m b h hb h0 =>
    have e1 : numB (beB b 8 ++ beB m 2) 0 8 = b := by
      rw [num_eq (i := 0) (n := 8) (a := []) (v := beB b 8) (c := beB m 2) (by simp) rfl (beB_len _ _), beN_v hb.1 (by omega)]
    have e2 : numB (beB b 8 ++ beB m 2) 8 2 = m := by
      rw [num_eq (i := 8) (n := 2) (a := beB b 8) (v := beB m 2) (c := []) (by simp) (beB_len _ _) (beB_len _ _), beN_v h.1 (by omega)]
    simp only [bdN, show ¬ ((2 : Int) = 1) by omega, if_true, if_false, e1, e2]
  | update s m p c r' hs h wd wc vd vc hr' h0 =>
    have v1 := vb vd
    have v2 := vb vc
    have c1 := comm_le (pfx p) d
    have lp := pfx_len wd vd
    have lc := pfx_len wc vc
    have hbd : bdN d (S_Notice.mk 3 s m 0 (S_Destination.mk p c r') 0) = [(comm (pfx p) d : Int), p.Bits, c.Bits] ++ beB s 2 ++ beB m 2 ++ (pfx p).drop (comm (pfx p) d) ++ pfx c := rfl
    rw [hbd, hr rfl]
    generalize hK : comm (pfx p) d = K at *
    generalize hB : [(K : Int), p.Bits, c.Bits] ++ beB s 2 ++ beB m 2 ++ (pfx p).drop K ++ pfx c = B
    have e0 : numB B 0 1 = (K : Int) := by
      rw [num_eq (i := 0) (n := 1) (a := []) (v := [(K : Int)]) (c := [p.Bits, c.Bits] ++ beB s 2 ++ beB m 2 ++ (pfx p).drop K ++ pfx c) (by rw [← hB]; simp) rfl rfl, beN_one]
    have e1 : numB B 1 1 = p.Bits := by
      rw [num_eq (i := 1) (n := 1) (a := [(K : Int)]) (v := [p.Bits]) (c := [c.Bits] ++ beB s 2 ++ beB m 2 ++ (pfx p).drop K ++ pfx c) (by rw [← hB]; simp) rfl rfl, beN_one]
    have e2 : numB B 2 1 = c.Bits := by
      rw [num_eq (i := 2) (n := 1) (a := [(K : Int), p.Bits]) (v := [c.Bits]) (c := beB s 2 ++ beB m 2 ++ (pfx p).drop K ++ pfx c) (by rw [← hB]; simp) rfl rfl, beN_one]
    have e3 : numB B 3 2 = s := by
      rw [num_eq (i := 3) (n := 2) (a := [(K : Int), p.Bits, c.Bits]) (v := beB s 2) (c := beB m 2 ++ (pfx p).drop K ++ pfx c) (by rw [← hB]; simp) rfl (beB_len _ _), beN_v hs.1 (by omega)]
    have e5 : numB B 5 2 = m := by
      rw [num_eq (i := 5) (n := 2) (a := [(K : Int), p.Bits, c.Bits] ++ beB s 2) (v := beB m 2) (c := (pfx p).drop K ++ pfx c) (by rw [← hB]; simp) (by simp [beB_len]) (beB_len _ _), beN_v h.1 (by omega)]
    have hlen : B.length = 7 + (sz p.Bits - K) + sz c.Bits := by
      rw [← hB]
      simp only [List.length_append, List.length_cons, List.length_nil, beB_len, List.length_drop, lp, lc]
    have hdrop : B.drop 7 = (pfx p).drop K ++ pfx c := by
      have : ([(K : Int), p.Bits, c.Bits] ++ beB s 2 ++ beB m 2).length = 7 := by simp [beB_len]
      rw [← hB, List.append_assoc, ← this, List.drop_left]
    have e6 : dstL d B p.Bits (K : Int) 7 = p.IP := by
      unfold dstL
      have hk2 := comm_take (pfx p) d
      rw [hK] at hk2
      have t1 : ((pfx p).drop K).take (sz p.Bits - K) = (pfx p).drop K := List.take_of_length_le (by rw [List.length_drop]; omega)
      rw [hdrop, Int.toNat_natCast, ← hk2, List.take_append_of_le_length (by rw [List.length_drop]; omega), t1, List.take_append_drop]
      exact pfx_fill wd vd
    have e7 : srcL B p.Bits (K : Int) 7 = c.IP := by
      unfold srcL
      rw [Int.toNat_natCast, ← List.drop_drop, hdrop, List.drop_append_of_le_length (by rw [List.length_drop]; omega), List.drop_of_length_le (by rw [List.length_drop]; omega), List.nil_append]
      exact pfx_fill wc vc
    have hf : fits p.Bits c.Bits (K : Int) B.length 7 := ⟨v1.2, v2.2, by omega, by omega, by rw [hlen]; omega⟩
    simp only [e0, e1, e2, e3, e5, e6, e7, if_pos hf, show ¬ ((3 : Int) = 1) by omega, show ¬ ((3 : Int) = 2) by omega, if_true, if_false]
  | route p c wd wc vd vc =>
    have v1 := vb vd
    have v2 := vb vc
    have lp := pfx_len wd vd
    have lc := pfx_len wc vc
    have hbd : bdN d (S_Notice.mk 4 0 0 0 (S_Destination.mk p c 0) 0) = [p.Bits, c.Bits] ++ pfx p ++ pfx c := rfl
    rw [hbd]
    generalize hB : [p.Bits, c.Bits] ++ pfx p ++ pfx c = B
    have e1 : numB B 0 1 = p.Bits := by
      rw [num_eq (i := 0) (n := 1) (a := []) (v := [p.Bits]) (c := [c.Bits] ++ pfx p ++ pfx c) (by rw [← hB]; simp) rfl rfl, beN_one]
    have e2 : numB B 1 1 = c.Bits := by
      rw [num_eq (i := 1) (n := 1) (a := [p.Bits]) (v := [c.Bits]) (c := pfx p ++ pfx c) (by rw [← hB]; simp) rfl rfl, beN_one]
    have hlen : B.length = 2 + (sz p.Bits - 0) + sz c.Bits := by
      rw [← hB]
      simp only [List.length_append, List.length_cons, List.length_nil, lp, lc]
      omega
    have hdrop : B.drop 2 = pfx p ++ pfx c := by
      rw [← hB]
      rfl
    have e6 : dstL d B p.Bits 0 2 = p.IP := by
      unfold dstL
      have t1 : (pfx p ++ pfx c).take (sz p.Bits - Int.toNat 0) = pfx p := by rw [show sz p.Bits - Int.toNat 0 = (pfx p).length by rw [lp]; rfl, List.take_left]
      rw [hdrop, t1]
      exact pfx_fill wd vd
    have e7 : srcL B p.Bits 0 2 = c.IP := by
      unfold srcL
      have t1 : (pfx p ++ pfx c).drop (sz p.Bits - Int.toNat 0) = pfx c := by rw [show sz p.Bits - Int.toNat 0 = (pfx p).length by rw [lp]; rfl, List.drop_left]
      rw [← List.drop_drop, hdrop, t1]
      exact pfx_fill wc vc
    have hf : fits p.Bits c.Bits 0 B.length 2 := ⟨v1.2, v2.2, by omega, by omega, hlen⟩
    simp only [e1, e2, e6, e7, if_pos hf, show ¬ ((4 : Int) = 1) by omega, show ¬ ((4 : Int) = 2) by omega, show ¬ ((4 : Int) = 3) by omega, if_true, if_false]
  | seqr s h p c r' hs hh wd wc vd vc hr' h0 =>
    have v1 := vb vd
    have v2 := vb vc
    have lp := pfx_len wd vd
    have lc := pfx_len wc vc
    have hbd : bdN d (S_Notice.mk 5 s 0 0 (S_Destination.mk p c r') h) = [p.Bits, c.Bits] ++ beB s 2 ++ [h] ++ beB r' 8 ++ pfx p ++ pfx c := rfl
    rw [hbd]
    generalize hB : [p.Bits, c.Bits] ++ beB s 2 ++ [h] ++ beB r' 8 ++ pfx p ++ pfx c = B
    have e1 : numB B 0 1 = p.Bits := by
      rw [num_eq (i := 0) (n := 1) (a := []) (v := [p.Bits]) (c := [c.Bits] ++ beB s 2 ++ [h] ++ beB r' 8 ++ pfx p ++ pfx c) (by rw [← hB]; simp) rfl rfl, beN_one]
    have e2 : numB B 1 1 = c.Bits := by
      rw [num_eq (i := 1) (n := 1) (a := [p.Bits]) (v := [c.Bits]) (c := beB s 2 ++ [h] ++ beB r' 8 ++ pfx p ++ pfx c) (by rw [← hB]; simp) rfl rfl, beN_one]
    have e3 : numB B 2 2 = s := by
      rw [num_eq (i := 2) (n := 2) (a := [p.Bits, c.Bits]) (v := beB s 2) (c := [h] ++ beB r' 8 ++ pfx p ++ pfx c) (by rw [← hB]; simp) rfl (beB_len _ _), beN_v hs.1 (by omega)]
    have e4 : numB B 4 1 = h := by
      rw [num_eq (i := 4) (n := 1) (a := [p.Bits, c.Bits] ++ beB s 2) (v := [h]) (c := beB r' 8 ++ pfx p ++ pfx c) (by rw [← hB]; simp) (by simp [beB_len]) rfl, beN_one]
    have e5 : numB B 5 8 = r' := by
      rw [num_eq (i := 5) (n := 8) (a := [p.Bits, c.Bits] ++ beB s 2 ++ [h]) (v := beB r' 8) (c := pfx p ++ pfx c) (by rw [← hB]; simp) (by simp [beB_len]) (beB_len _ _), beN_v hr'.1 (by omega)]
    have hlen : B.length = 13 + (sz p.Bits - 0) + sz c.Bits := by
      rw [← hB]
      simp only [List.length_append, List.length_cons, List.length_nil, beB_len, lp, lc]
      omega
    have hdrop : B.drop 13 = pfx p ++ pfx c := by
      have : ([p.Bits, c.Bits] ++ beB s 2 ++ [h] ++ beB r' 8).length = 13 := by simp [beB_len]
      rw [← hB, List.append_assoc, ← this, List.drop_left]
    have e6 : dstL d B p.Bits 0 13 = p.IP := by
      unfold dstL
      have t1 : (pfx p ++ pfx c).take (sz p.Bits - Int.toNat 0) = pfx p := by rw [show sz p.Bits - Int.toNat 0 = (pfx p).length by rw [lp]; rfl, List.take_left]
      rw [hdrop, t1]
      exact pfx_fill wd vd
    have e7 : srcL B p.Bits 0 13 = c.IP := by
      unfold srcL
      have t1 : (pfx p ++ pfx c).drop (sz p.Bits - Int.toNat 0) = pfx c := by rw [show sz p.Bits - Int.toNat 0 = (pfx p).length by rw [lp]; rfl, List.drop_left]
      rw [← List.drop_drop, hdrop, t1]
      exact pfx_fill wc vc
    have hf : fits p.Bits c.Bits 0 B.length 13 := ⟨v1.2, v2.2, by omega, by omega, hlen⟩
    simp only [e1, e2, e3, e4, e5, e6, e7, if_pos hf, show ¬ ((5 : Int) = 1) by omega, show ¬ ((5 : Int) = 2) by omega, show ¬ ((5 : Int) = 3) by omega, show ¬ ((5 : Int) = 4) by omega, if_true, if_false]
theorem step_el {k : Int} {b t : List Int} (hb : b.length ≤ 255) (ht : t.length ≤ 900000) (ob : okB b) (ot : okB t) {out : List S_Notice} (ho : out.length ≤ 64) {s : S_messages_state} (hd : s.dst.length = 16) :
    F_messages_parse_l1 (el k b ++ t, out, s) = some (stepM k b t out s) := by
  have := stepm_p (k := k) (m := (b.length : Int)) (rest := b ++ t) (by omega) (by rw [List.length_append]; omega) (by rw [List.length_append]; omega) (okB.append ob ot) ho hd
  rw [Int.toNat_natCast, List.take_left, List.drop_left] at this
  exact this
theorem encL_ok : ∀ (l : List S_Notice) (r : Int) (d : List Int), (∀ n ∈ l, GoodN n) → okB (encL r d l)
  | [], _, _, _ => okB_nil
  | n :: l, r, d, g => by
    have gn := g n (by simp)
    rw [encL, encN_eq r d gn]
    have hl := bdN_len d gn
    have hk : 0 ≤ n.Kind ∧ n.Kind ≤ 255 := by cases gn <;> simp
    refine okB.append (okB.append ?_ ?_) (encL_ok l _ _ fun m hm => g m (by simp [hm]))
    · split
      · exact okB_cons (by omega) (okB_cons (by rw [beB_len]; omega) (beB_ok _ _))
      · exact okB_nil
    · exact okB_cons hk (okB_cons (by omega) (bdN_ok d gn))
theorem parse_enc : ∀ (l : List S_Notice) (out : List S_Notice) (r : Int) (d e t : List Int), (∀ n ∈ l, GoodN n) → out.length + l.length ≤ 64 → d.length = 16 → t.length ≤ 100000 → okB t →
    loopO F_messages_parse_l1 (encL r d l ++ t, out, S_messages_state.mk e r d) = loopO F_messages_parse_l1 (t, out ++ l, S_messages_state.mk e (l.foldl nxR r) (l.foldl nxD d))
  | [], out, r, d, e, t, _, _, _, _, _ => by simp [encL]
  | n :: l, out, r, d, e, t, g, hn, hd, ht, ot => by
    have gn := g n (by simp)
    have gl : ∀ m ∈ l, GoodN m := fun m hm => g m (by simp [hm])
    simp only [List.length_cons] at hn
    have ih := parse_enc l (out ++ [n]) (nxR r n) (nxD d n) e t gl (by simp; omega) (nxD_len hd (good_wf gn)) ht ot
    have hlen := encL_len (nxR r n) (nxD d n) l gl
    have hT : (encL (nxR r n) (nxD d n) l ++ t).length ≤ 200000 := by rw [List.length_append]; omega
    have oT : okB (encL (nxR r n) (nxD d n) l ++ t) := okB.append (encL_ok l _ _ gl) ot
    have hbl := bdN_len d gn
    have hbo := bdN_ok d gn
    have main : loopO F_messages_parse_l1 (el n.Kind (bdN d n) ++ (encL (nxR r n) (nxD d n) l ++ t), out, S_messages_state.mk e (nxR r n) d) = loopO F_messages_parse_l1 (encL (nxR r n) (nxD d n) l ++ t, out ++ [n], S_messages_state.mk e (nxR r n) (nxD d n)) := by
      refine loop_next ?_
      rw [step_el (by omega) (by omega) hbo oT (by omega) hd]
      have hk6 : ¬ n.Kind = 6 := by cases gn <;> simp
      have hr := read_good gn (r := nxR r n) (fun h => by unfold nxR; rw [if_pos h]) hd
      unfold stepM
      rw [if_neg hk6]
      dsimp only
      rw [hr]
      simp
    rw [encL, encN_eq r d gn, List.append_assoc, List.append_assoc]
    have fin : out ++ [n] ++ l = out ++ n :: l := by simp
    rw [fin] at ih
    by_cases h6 : n.Kind = 3 ∧ n.To.Router ≠ r
    · rw [if_pos h6]
      have hro := (good_wf gn).ro
      have hnr : nxR r n = n.To.Router := by unfold nxR; rw [if_pos h6.1]
      have first : loopO F_messages_parse_l1 (el 6 (beB n.To.Router 8) ++ (el n.Kind (bdN d n) ++ (encL (nxR r n) (nxD d n) l ++ t)), out, S_messages_state.mk e r d) = loopO F_messages_parse_l1 (el n.Kind (bdN d n) ++ (encL (nxR r n) (nxD d n) l ++ t), out, S_messages_state.mk e (nxR r n) d) := by
        refine loop_next ?_
        have hk : 0 ≤ n.Kind ∧ n.Kind ≤ 255 := by cases gn <;> simp
        have oke : okB (el n.Kind (bdN d n)) := okB_cons hk (okB_cons (by omega) hbo)
        rw [step_el (k := 6) (b := beB n.To.Router 8) (by rw [beB_len]; omega) (by rw [List.length_append, el_len]; omega) (beB_ok _ _) (okB.append oke oT) (by omega) hd]
        unfold stepM
        rw [if_pos rfl, if_pos (by rw [beB_len]; omega), num_eq (i := 0) (n := 8) (a := []) (v := beB n.To.Router 8) (c := []) (by simp) rfl (beB_len _ _), beN_v hro.1 (by omega), hnr]
      rw [first, main, ih]
      rfl
    · rw [if_neg h6, List.nil_append]
      have hnr : nxR r n = r := by
        unfold nxR
        split
        · rename_i h3
          have : ¬ n.To.Router ≠ r := fun h => h6 ⟨h3, h⟩
          simpa using this
        · rfl
      rw [hnr] at main ih ⊢
      rw [main, ih]
      rw [List.foldl_cons, List.foldl_cons, hnr]
theorem parse_back {l : List S_Notice} (g : ∀ n ∈ l, GoodN n) (hl : l.length ≤ 64) : F_messages_parse (encL 0 ad0 l) = some (l, true) := by
  unfold F_messages_parse
  have h := parse_enc l [] 0 ad0 [] [] g (by simpa using hl) rfl (by simp) okB_nil
  rw [List.append_nil, List.nil_append] at h
  have h' : loopO F_messages_parse_l1 (encL 0 ad0 l, ([] : List S_Notice), S_messages_state.mk [] 0 [0, 0, 0, 0, 0, 0, 0, 0, 0, 0, 0, 0, 0, 0, 0, 0]) = some (.inl l) := by
    refine Eq.trans h (loop_done ?_)
    rfl
  rw [h']
  rfl
end
section
open Go.RowKit

def okR (k : Int) (b : List Int) : Prop := (k = 1 ∧ b.length = 2) ∨ (k = 2 ∧ b.length = 10) ∨ (k = 3 ∧ 7 ≤ b.length) ∨ (k = 4 ∧ 2 ≤ b.length) ∨ (k = 5 ∧ 13 ≤ b.length)
instance (k : Int) (b : List Int) : Decidable (okR k b) := by unfold okR; infer_instance
theorem sub_n {b : List Int} (a : Nat) (ha : a ≤ b.length) : subO b a (b.length : Int) = some (b.drop a) := by
  rw [subO_some (by omega) (by omega) (by omega)]
  simp
end
section
open Go.RowKit

/-- the packet of this time and these notices -/
structure Pk (at_ : Int) (l : List S_Notice) : Prop where
  good : ∀ n ∈ l, GoodN n
  len : l.length ≤ 64
  lo : 0 ≤ at_
  hi : at_ < 1099511627776
theorem Pk.enc {at_ : Int} {l : List S_Notice} (h : Pk at_ l) : encS at_ l = (pk at_ l, 0) := by
  unfold encS
  have := h.len
  have := h.lo
  have := h.hi
  rw [if_neg (by omega), good_all h.good, if_neg (by simp), if_neg (by omega)]
theorem enc_pk {at_ : Int} {l : List S_Notice} (w : ∀ n ∈ l, WfN n) (h : (encS at_ l).2 = 0) : Pk at_ l := by
  unfold encS at h
  split at h
  · simp at h
  split at h
  · simp at h
  split at h
  · simp at h
  · rename_i h1 h2 h3
    exact ⟨all_good w (by simpa using h2), by omega, by omega, by omega⟩
theorem pk_ok {at_ : Int} {l : List S_Notice} (h : Pk at_ l) : okB (pk at_ l) := by
  unfold pk
  exact okB.append (okB.append (okB.append (okB_cons (by omega) (okB_one (by omega))) (beB_ok _ _)) (beB_ok _ _)) (encL_ok _ _ _ h.good)
theorem pk_small {at_ : Int} {l : List S_Notice} (h : Pk at_ l) : (pk at_ l).length ≤ 3273 ∧ 9 ≤ (pk at_ l).length := by
  have := encL_len 0 ad0 l h.good
  have := h.len
  rw [pk_len]
  omega
theorem pk_at {at_ : Int} {l : List S_Notice} (h : Pk at_ l) : beN (((pk at_ l).drop 2).take 5) = at_ := by
  have e : ((pk at_ l).drop 2).take 5 = beB at_ 5 := by
    have e0 : (pk at_ l).drop 2 = beB at_ 5 ++ (beB ((encL 0 ad0 l).length : Int) 2 ++ encL 0 ad0 l) := by
      unfold pk
      rw [List.append_assoc, List.append_assoc]
      rfl
    rw [e0, List.take_append_of_le_length (by rw [beB_len]; omega), List.take_of_length_le (by rw [beB_len]; omega)]
  rw [e, beN_v h.lo (by have := h.hi; omega)]
theorem pk_size {at_ : Int} {l : List S_Notice} (h : Pk at_ l) (t : List Int) : beN (((pk at_ l ++ t).drop 7).take 2) = ((encL 0 ad0 l).length : Int) := by
  have e : ((pk at_ l ++ t).drop 7).take 2 = beB ((encL 0 ad0 l).length : Int) 2 := by
    have h7 : ([42, 1] ++ beB at_ 5).length = 7 := by simp [beB_len]
    unfold pk
    rw [List.append_assoc, List.append_assoc, ← h7, List.drop_left, List.take_append_of_le_length (by rw [beB_len]; omega), List.take_of_length_le (by rw [beB_len]; omega)]
  have := encL_len 0 ad0 l h.good
  have := h.len
  rw [e, beN_v (by omega) (by omega)]
theorem pk_rest {at_ : Int} {l : List S_Notice} (t : List Int) : (pk at_ l ++ t).drop 9 = encL 0 ad0 l ++ t := by
  have h9 : ([42, 1] ++ beB at_ 5 ++ beB ((encL 0 ad0 l).length : Int) 2).length = 9 := by simp [beB_len]
  unfold pk
  rw [List.append_assoc, ← h9, List.drop_left]
def short (b : List Int) : Prop := b.length < 9 ∨ (b.length : Int) - 9 < beN ((b.drop 7).take 2)
theorem pk_not_short {at_ : Int} {l : List S_Notice} (h : Pk at_ l) : ¬ short (pk at_ l) := by
  have := pk_small h
  have hs := pk_size h []
  rw [List.append_nil] at hs
  unfold short
  rw [hs, pk_len]
  omega
theorem equal_spec {a b : List Int} (ha : okB a) (hb : okB b) : F_bytes_Equal a b = some (decide (a = b)) := by
  unfold F_bytes_Equal
  simp only [Cut.app]
  rw [u8L_beq ha hb]
theorem dec_p {b : List Int} (ok : okB b) (hb : b.length ≤ 1000000) : (short b → F_messages_Decode b = some (0, [], 4)) ∧
    (∀ at_ l, Pk at_ l → b = pk at_ l → F_messages_Decode b = some (at_, l, 0)) ∧
    (¬ short b → (¬ ∃ at_ l, Pk at_ l ∧ b = pk at_ l) → F_messages_Decode b = some (0, [], 5)) := by
  by_cases h9 : b.length < 9
  · have hs : short b := .inl h9
    refine ⟨fun _ => ?_, fun at_ l hp he => ?_, fun hn => absurd hs hn⟩
    · unfold F_messages_Decode
      rw [decT (show (b.length : Int) < 9 by omega)]
      rfl
    · rw [he] at hs
      exact absurd hs (pk_not_short hp)
  have u1 := uint_some ok (by omega) 2 5 (by omega) (by omega) (by omega)
  have u2 := uint_some ok (by omega) 7 2 (by omega) (by omega) (by omega)
  simp only [show ((2 : Nat) : Int) = 2 from rfl, show ((5 : Nat) : Int) = 5 from rfl, show ((7 : Nat) : Int) = 7 from rfl] at u1 u2
  have bd1 := beN_bd (l := (b.drop 2).take 5) (okB.take (okB.drop ok _) _)
  have bd2 := beN_bd (l := (b.drop 7).take 2) (okB.take (okB.drop ok _) _)
  rw [List.length_take, List.length_drop, Nat.min_eq_left (by omega)] at bd1 bd2
  have hsub := sub_n (b := b) 9 (by omega)
  simp only [show ((9 : Nat) : Int) = 9 from rfl] at hsub
  have base : F_messages_Decode b = (bif decide ((b.length : Int) - 9 < beN ((b.drop 7).take 2)) then some (0, [], 4) else (F_messages_parse (b.drop 9)).bind fun v6 => bif v6.2 then (F_messages_Encode (beN ((b.drop 2).take 5)) v6.1).bind fun v8 => bif v8.2 != 0 then some (0, [], 5) else (F_bytes_Equal v8.1 b).bind fun v10 => bif v10 then some (beN ((b.drop 2).take 5), v6.1, 0) else some (0, [], 5) else some (0, [], 5)) := by
    unfold F_messages_Decode
    rw [decF (show ¬ (b.length : Int) < 9 by omega), u1, u2, hsub]
    simp only [cond_false, Option.bind_some]
    rw [wi (x := (b.length : Int) - 9) (by omega) (by omega), wi (x := beN ((b.drop 7).take 2)) (by omega) (by omega), wi (x := beN ((b.drop 2).take 5)) (by omega) (by omega)]
  rw [base]
  by_cases hs2 : (b.length : Int) - 9 < beN ((b.drop 7).take 2)
  · have hs : short b := .inr hs2
    refine ⟨fun _ => ?_, fun at_ l hp he => ?_, fun hn => absurd hs hn⟩
    · rw [decT hs2]
      rfl
    · rw [he] at hs
      exact absurd hs (pk_not_short hp)
  have hns : ¬ short b := by unfold short; omega
  rw [decF hs2, cond_false]
  refine ⟨fun h => absurd h hns, fun at_ l hp he => ?_, fun _ hno => ?_⟩
  · have e9 := pk_rest (at_ := at_) (l := l) []
    rw [List.append_nil, List.append_nil, ← he] at e9
    have ea := pk_at hp
    rw [← he] at ea
    rw [e9, parse_back hp.good hp.len, ea]
    simp only [Option.bind_some, cond_true]
    rw [enc_p (fun n hn => good_wf (hp.good n hn)), hp.enc]
    simp only [Option.bind_some]
    rw [show ((0 : Int) != 0) = false from rfl, cond_false, equal_spec (pk_ok hp) ok, ← he]
    simp
  · rcases parse_tot (okB.drop ok 9) (by rw [List.length_drop]; omega) with ⟨l, e, w⟩ | e
    · rw [e]
      simp only [Option.bind_some, cond_true]
      rw [enc_p w, Option.bind_some]
      by_cases h0 : (encS (beN ((b.drop 2).take 5)) l).2 = 0
      · have hp := enc_pk w h0
        rw [hp.enc]
        simp only
        rw [show ((0 : Int) != 0) = false from rfl, cond_false, equal_spec (pk_ok hp) ok, decF (fun he => hno ⟨_, l, hp, he.symm⟩)]
        rfl
      · rw [show ((encS (beN ((b.drop 2).take 5)) l).2 != 0) = true by simpa using h0]
        rfl
    · rw [e]
      rfl
end
section
open Go.RowKit

theorem rem_spec (x n : Int) (h1 : 1 ≤ n) (h2 : n ≤ 4611686018427387904) : -4611686018427387904 < Int.tmod x n ∧ Int.tmod x n < n ∧ -n < Int.tmod x n := by
  have a := Int.tmod_lt_of_pos x (show 0 < n by omega)
  have b := Int.lt_tmod_of_pos x (show 0 < n by omega)
  omega
end
section
open Go.RowKit
theorem mod_spec (x n : Int) (h1 : 1 ≤ n) (h2 : n ≤ 4611686018427387904) : ∃ v, F_made_Mod x n = some v ∧ 0 ≤ v ∧ v < n := by
  unfold F_made_Mod F_made_Mod_j1
  obtain ⟨r1, r2, r3⟩ := rem_spec x n h1 h2
  generalize Int.tmod x n = q at *
  rw [show decide (n ≠ 0) = true by simp; omega]
  by_cases hq : q < 0
  · rw [decT hq, wi (by omega) (by omega)]
    exact ⟨q + n, rfl, by omega, by omega⟩
  · rw [decF hq]
    exact ⟨q, rfl, by omega, by omega⟩
end
section
open Go.RowKit

def hi1 : S_Notice := S_Notice.mk 1 258 0 0 t0 0
theorem hi1_pk : Pk 7 [hi1] := ⟨fun n hn => by rw [List.mem_singleton.1 hn]; exact .hello _ (by omega), by simp, by omega, by omega⟩
theorem known_true : F_law29_known = some true := by
  unfold F_law29_known
  have hw : ∀ n ∈ [hi1], WfN n := fun n hn => good_wf (hi1_pk.good n hn)
  have e1 : F_messages_Encode 7 [S_Notice.mk 1 258 0 0 (S_Destination.mk (S_Prefix.mk [0, 0, 0, 0, 0, 0, 0, 0, 0, 0, 0, 0, 0, 0, 0, 0] 0) (S_Prefix.mk [0, 0, 0, 0, 0, 0, 0, 0, 0, 0, 0, 0, 0, 0, 0, 0] 0) 0) 0] = some (pk 7 [hi1], 0) := by
    have := enc_p hw 7
    rw [hi1_pk.enc] at this
    exact this
  rw [e1, Option.bind_some]
  have hs := pk_small hi1_pk
  have e2 := (dec_p (pk_ok hi1_pk) (by omega)).2.1 7 [hi1] hi1_pk rfl
  simp only [e2, Option.bind_some, BEq.rfl, cond_true]
  have e3 : pk 7 [hi1] = [42, 1, 0, 0, 0, 0, 7, 0, 4, 1, 2, 1, 2] := by decide
  rw [e3]
  rfl
theorem good_wfs {l : List S_Notice} (g : ∀ n ∈ l, GoodN n) : ∀ n ∈ l, WfN n := fun n hn => good_wf (g n hn)
end
section
open Go.RowKit

def fitB (size : Int) (l : List S_Notice) (j : Nat) : Bool := decide (9 + ((encL 0 ad0 (l.take j)).length : Int) ≤ size)
def cnt (size : Int) (l : List S_Notice) : Nat → Nat → Nat
  | k, 0 => k
  | k, f + 1 => if fitB size l (k + 1) then cnt size l (k + 1) f else k
theorem cnt_bd (size : Int) (l : List S_Notice) : ∀ f k, k ≤ cnt size l k f ∧ cnt size l k f ≤ k + f
  | 0, k => by simp [cnt]
  | f + 1, k => by
    have := cnt_bd size l f (k + 1)
    unfold cnt
    split <;> omega
theorem cnt_fit (size : Int) (l : List S_Notice) : ∀ f k, fitB size l k = true → fitB size l (cnt size l k f) = true
  | 0, k, h => h
  | f + 1, k, h => by
    unfold cnt
    split
    · exact cnt_fit size l f (k + 1) (by assumption)
    · exact h
theorem cnt_all (size : Int) (l : List S_Notice) : ∀ f k, (∀ j, k < j → j ≤ k + f → fitB size l j = true) → cnt size l k f = k + f
  | 0, k, _ => rfl
  | f + 1, k, h => by
    unfold cnt
    rw [if_pos (h (k + 1) (by omega) (by omega)), cnt_all size l f (k + 1) (fun j h1 h2 => h j (by omega) (by omega))]
    omega
def c0 (size : Int) (l : List S_Notice) : Nat := cnt size l 0 (min l.length 64)
theorem fit1 {size : Int} (h : 72 ≤ size) {l : List S_Notice} (g : ∀ n ∈ l, GoodN n) (hl : l ≠ []) : fitB size l 1 = true := by
  have := encL_len 0 ad0 (l.take 1) (take_good g 1)
  have h2 : (l.take 1).length ≤ 1 := by rw [List.length_take]; omega
  unfold fitB
  refine decide_eq_true ?_
  omega
theorem c0_eq {size : Int} (h : 72 ≤ size) {l : List S_Notice} (g : ∀ n ∈ l, GoodN n) (hl : l ≠ []) : c0 size l = cnt size l 1 (min l.length 64 - 1) := by
  have hp : 0 < l.length := List.length_pos_iff.2 hl
  unfold c0
  rw [show min l.length 64 = (min l.length 64 - 1) + 1 by omega, cnt, if_pos (fit1 h g hl)]
  rfl
theorem c0_bd {size : Int} (h : 72 ≤ size) {l : List S_Notice} (g : ∀ n ∈ l, GoodN n) (hl : l ≠ []) : 1 ≤ c0 size l ∧ c0 size l ≤ 64 ∧ c0 size l ≤ l.length ∧ fitB size l (c0 size l) = true := by
  have hp : 0 < l.length := List.length_pos_iff.2 hl
  rw [c0_eq h g hl]
  have := cnt_bd size l (min l.length 64 - 1) 1
  exact ⟨by omega, by omega, by omega, cnt_fit size l _ _ (fit1 h g hl)⟩
theorem loop_p {size : Int} {l : List S_Notice} (hs : size ≤ 1280) (g : ∀ n ∈ l, GoodN n) (hn : l.length ≤ 1000) (acc : List (List Int)) : ∀ f k, k + f = min l.length 64 → loopO (F_messages_Pack_l2 (l, acc) size) ((k : Int), stP l k) = some ((cnt size l k f : Int), stP l (cnt size l k f))
  | 0, k, hk => by
    refine loop_done ?_
    unfold F_messages_Pack_l2
    dsimp only
    rw [decF (by split <;> omega)]
    rfl
  | f + 1, k, hk => by
    have hkl : k < l.length := by omega
    have hlen := stP_len g (k + 1)
    have key : F_messages_Pack_l2 (l, acc) size ((k : Int), stP l k) = if fitB size l (k + 1) then some (.inl (((k + 1 : Nat) : Int), stP l (k + 1))) else some (.inr ((k : Int), stP l k)) := by
      unfold F_messages_Pack_l2
      dsimp only
      rw [decT (by split <;> omega), idx_lt hkl]
      simp only [cond_true, Option.bind_some, not_k g hkl (by omega)]
      rw [wi (by omega) (by omega), wk k (by omega)]
      have e : (stP l (k + 1)).elements = encL 0 ad0 (l.take (k + 1)) := rfl
      rw [e]
      unfold fitB
      by_cases hf : 9 + ((encL 0 ad0 (l.take (k + 1))).length : Int) ≤ size
      · rw [decF (by omega), decT hf]
        rfl
      · rw [decT (by omega), decF hf]
        rfl
    unfold cnt
    by_cases hf : fitB size l (k + 1) = true
    · rw [if_pos hf] at key ⊢
      rw [loop_next key]
      exact loop_p hs g hn acc f (k + 1) (by omega)
    · rw [if_neg hf] at key ⊢
      exact loop_done key
/-- the notices of each packet -/
def chk (size : Int) : Nat → List S_Notice → List (List S_Notice)
  | 0, _ => []
  | f + 1, l => if l = [] then [] else l.take (c0 size l) :: chk size f (l.drop (c0 size l))
theorem drop_good {l : List S_Notice} (g : ∀ n ∈ l, GoodN n) (k : Nat) : ∀ n ∈ l.drop k, GoodN n := fun n hn => g n (List.mem_of_mem_drop hn)
theorem sub_N {α : Type} {b : List α} (a : Nat) (ha : a ≤ b.length) : subO b a (b.length : Int) = some (b.drop a) := by
  rw [subO_some (by omega) (by omega) (by omega)]
  simp
theorem cap_some {acc : List (List Int)} {x : List Int} (h : acc.length ≤ 100000) : appO 24 acc [x] = some (acc ++ [x]) := appO_some (by simp; omega) (by simp; omega)
theorem pack_lp {size at_ : Int} (h72 : 72 ≤ size) (hs : size ≤ 1280) (h0 : 0 ≤ at_) (h1 : at_ < 1099511627776) : ∀ (f : Nat) {l : List S_Notice} (acc : List (List Int)), (∀ n ∈ l, GoodN n) → l.length ≤ f → l.length + acc.length ≤ 1000 → loopO (F_messages_Pack_l1 size at_) (l, acc) = some (acc ++ (chk size f l).map (pk at_))
  | 0, l, acc, _, hf, _ => by
    have : l = [] := List.length_eq_zero_iff.1 (by omega)
    subst this
    simp only [chk, List.map_nil, List.append_nil]
    exact loop_done rfl
  | f + 1, l, acc, g, hf, hn => by
    by_cases hl : l = []
    · subst hl
      simp only [chk, if_true, List.map_nil, List.append_nil]
      exact loop_done rfl
    · obtain ⟨b1, b2, b3, b4⟩ := c0_bd h72 g hl
      have hp : 0 < l.length := List.length_pos_iff.2 hl
      have hlp := loop_p (size := size) hs g (by omega) acc (min l.length 64) 0 (by omega)
      have hst := stP_len g (c0 size l)
      have key : F_messages_Pack_l1 size at_ (l, acc) = some (.inl (l.drop (c0 size l), acc ++ [pk at_ (l.take (c0 size l))])) := by
        unfold F_messages_Pack_l1
        dsimp only
        have hlp' : loopO (F_messages_Pack_l2 (l, acc) size) (0, S_messages_state.mk [] 0 [0, 0, 0, 0, 0, 0, 0, 0, 0, 0, 0, 0, 0, 0, 0, 0]) = some ((c0 size l : Int), stP l (c0 size l)) := hlp
        rw [decT (by omega), cond_true, hlp', Option.bind_some]
        dsimp only
        rw [packet_p (by omega) h0 h1, Option.bind_some]
        simp only [Cut.app]
        rw [cap_some (by omega), Option.bind_some, sub_N _ b3]
        rfl
      rw [loop_next key, pack_lp h72 hs h0 h1 f _ (drop_good g _) (by rw [List.length_drop]; omega) (by rw [List.length_drop, List.length_append, List.length_singleton]; omega)]
      rw [show chk size (f + 1) l = l.take (c0 size l) :: chk size f (l.drop (c0 size l)) by rw [chk, if_neg hl]]
      simp
noncomputable def packS (at_ : Int) (l : List S_Notice) (size : Int) : List (List Int) × Int :=
  if l.all validN = false then ([], 1) else if at_ < 0 ∨ at_ ≥ 1099511627776 ∨ size < 72 ∨ size > 1280 then ([], 2) else ((chk size l.length l).map (pk at_), 0)
theorem pack_p {l : List S_Notice} (w : ∀ n ∈ l, WfN n) (hl : l.length ≤ 1000) (at_ size : Int) : F_messages_Pack at_ l size = some (packS at_ l size) := by
  unfold F_messages_Pack packS
  rw [all_p w (by omega), Option.bind_some]
  by_cases ha : l.all validN = true
  rotate_left
  · rw [Bool.not_eq_true] at ha
    rw [ha, if_pos rfl]
    rfl
  have g := all_good w ha
  rw [ha, cond_true, if_neg (by simp)]
  unfold F_messages_isCreation
  by_cases h0 : at_ < 0
  · rw [decF (show ¬ at_ ≥ 0 by omega), if_pos (.inl h0)]
    rfl
  rw [decT (show at_ ≥ 0 by omega)]
  by_cases h1 : at_ ≥ 1099511627776
  · rw [decF (show ¬ at_ < 1099511627776 by omega), if_pos (.inr (.inl h1))]
    rfl
  rw [decT (show at_ < 1099511627776 by omega)]
  simp only [cond_true, Option.bind_some]
  by_cases h2 : size < 72
  · rw [decT h2, if_pos (.inr (.inr (.inl h2)))]
    rfl
  rw [decF h2, cond_false]
  by_cases h3 : size > 1280
  · rw [decT h3, if_pos (.inr (.inr (.inr h3)))]
    rfl
  rw [decF h3, cond_false, if_neg (by omega), pack_lp (by omega) (by omega) (by omega) (by omega) l.length [] g (by omega) (by simpa using hl)]
  rfl
end
section
open Go.RowKit

theorem hello_len {l : List S_Notice} : ∀ (r : Int) (d : List Int), (∀ n ∈ l, n.Kind = 1) → (encL r d l).length = 4 * l.length := by
  induction l with
  | nil => intro r d _; rfl
  | cons n l ih =>
    intro r d h
    have h1 := h n (by simp)
    have e : encN r d n = el 1 (beB n.Seq 2) := by unfold encN; rw [if_pos h1]
    rw [encL, e, List.length_append, el_len, beB_len, ih _ _ (fun m hm => h m (by simp [hm])), List.length_cons]
    omega
theorem hello_c0 {l : List S_Notice} (h : ∀ n ∈ l, n.Kind = 1) : c0 1280 l = min l.length 64 := by
  unfold c0
  rw [cnt_all, Nat.zero_add]
  intro j h0 hj
  unfold fitB
  refine decide_eq_true ?_
  rw [hello_len 0 ad0 (fun n hn => h n (List.mem_of_mem_take hn)), List.length_take]
  omega
theorem many_law (n0 s : Int) : F_law29_MessagesMany n0 s = some true := by
  unfold F_law29_MessagesMany
  obtain ⟨v, e1, v0, v1⟩ := mod_spec n0 10 (by omega) (by omega)
  obtain ⟨V, rfl⟩ : ∃ V : Nat, v = (V : Int) := ⟨v.toNat, by omega⟩
  rw [e1, Option.bind_some]
  generalize hS : (fun k : Nat => S_Notice.mk 1 (IntKind.wrap .u16 (s + IntKind.wrap .u16 (k : Int))) 0 0 t0 0) = nt
  have hl := loop_run (step := F_law29_MessagesMany_l1 (V : Int) s) (S := fun k => ((List.range k).map nt, (k : Int))) (60 + V) (r := (List.range (60 + V)).map nt) (fun k hk => by
    unfold F_law29_MessagesMany_l1
    dsimp only
    rw [wi (x := 60 + (V : Int)) (by omega) (by omega), decT (by omega), cond_true]
    simp only [Cut.app]
    rw [appO_some (by simp; omega) (by simp; omega), Option.bind_some, wk k (by omega), List.range_succ, List.map_append]
    simp only [← hS, List.map_singleton]
    rfl) (by
    unfold F_law29_MessagesMany_l1
    dsimp only
    rw [wi (x := 60 + (V : Int)) (by omega) (by omega), decF (by omega)]
    rfl)
  have hl' : loopO (F_law29_MessagesMany_l1 (V : Int) s) (([] : List S_Notice), 0) = some ((List.range (60 + V)).map nt) := by simpa using hl
  have hk1 : ∀ n ∈ (List.range (60 + V)).map nt, n.Kind = 1 := fun n hn => by
    obtain ⟨k, _, rfl⟩ := List.mem_map.1 hn
    rw [← hS]
  have hg : ∀ n ∈ (List.range (60 + V)).map nt, GoodN n := fun n hn => by
    obtain ⟨k, _, rfl⟩ := List.mem_map.1 hn
    rw [← hS]
    exact .hello _ (by rw [wrap16]; omega)
  have hlen : ((List.range (60 + V)).map nt).length = 60 + V := by simp
  generalize (List.range (60 + V)).map nt = l at *
  rw [hl', Option.bind_some, enc_p (good_wfs hg), Option.bind_some, pack_p (good_wfs hg) (by omega), Option.bind_some, wi (x := 60 + (V : Int)) (by omega) (by omega), wi (x := 60 + (V : Int) - 1) (by omega) (by omega)]
  have hpk : packS 3 l 1280 = ((chk 1280 l.length l).map (pk 3), 0) := by
    unfold packS
    rw [good_all hg, if_neg (by simp), if_neg (by omega)]
  have hq : iquo .i64 (60 + (V : Int) - 1) 64 = (((59 + V) / 64 : Nat) : Int) := by
    unfold iquo
    rw [show 60 + (V : Int) - 1 = ((59 + V : Nat) : Int) by omega, show (((59 + V : Nat) : Int)).tdiv 64 = (((59 + V) / 64 : Nat) : Int) from rfl, wi (by omega) (by omega)]
  have hne : l ≠ [] := fun h => by rw [h] at hlen; simp at hlen; omega
  have hne2 : ∀ m : List S_Notice, m.length = 0 → m = [] := fun m h => List.length_eq_zero_iff.1 h
  have hcl : (chk 1280 l.length l).length = 1 + (59 + V) / 64 := by
    have h2 := hello_c0 hk1
    rw [show chk 1280 l.length l = chk 1280 (59 + V + 1) l by rw [hlen]; congr 1; omega, chk, if_neg hne, h2, hlen, List.length_cons]
    by_cases h64 : 60 + V ≤ 64
    · have hd : l.drop (min (60 + V) 64) = [] := hne2 _ (by rw [List.length_drop]; omega)
      rw [hd, show 59 + V = 58 + V + 1 by omega, chk, if_pos rfl]
      simp
      omega
    · have hd : l.drop (min (60 + V) 64) ≠ [] := fun h => by
        have := congrArg List.length h
        rw [List.length_drop, List.length_nil] at this
        omega
      have h3 := hello_c0 (l := l.drop (min (60 + V) 64)) (fun n hn => hk1 n (List.mem_of_mem_drop hn))
      rw [show chk 1280 (59 + V) (l.drop (min (60 + V) 64)) = chk 1280 (58 + V + 1) (l.drop (min (60 + V) 64)) by congr 1; omega, chk, if_neg hd, h3, List.length_cons]
      have hd2 : (l.drop (min (60 + V) 64)).drop (min (l.drop (min (60 + V) 64)).length 64) = [] := hne2 _ (by rw [List.length_drop, List.length_drop]; omega)
      rw [hd2, show 58 + V = 57 + V + 1 by omega, chk, if_pos rfl]
      simp
      omega
  rw [hpk]
  dsimp only
  rw [List.length_map, hcl, hq, wi (by omega) (by omega)]
  have he : ((encS 3 l).2 == 0) = decide (60 + (V : Int) ≤ 64) ∧ ((encS 3 l).2 == 3) = decide (60 + (V : Int) > 64) := by
    unfold encS
    rw [good_all hg]
    by_cases h64 : l.length > 64
    · rw [if_pos h64, decF (by omega), decT (by omega)]
      exact ⟨rfl, rfl⟩
    · rw [if_neg h64, decT (by omega), decF (by omega), if_neg (by simp), if_neg (by omega)]
      exact ⟨rfl, rfl⟩
  rw [he.1, he.2, known_true]
  simp
end
section
open Go.RowKit

theorem messagesMany_holds : Rows.MessagesManySaid := messagesMany_of fun _ _ _ h2 => many_law _ _
end
end Go.Proofs.Ytcemblilhbidgaa
