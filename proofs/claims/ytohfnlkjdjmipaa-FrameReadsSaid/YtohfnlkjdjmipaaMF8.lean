/-
  A frame in which bits within 16 consecutive bits are inverted is not decoded.
-/
import Derived.Test.YtohfnlkjdjmipaaMF6
import Derived.Test.YtohfnlkjdjmipaaQTMod
namespace Go.Proofs.Ytohfnlkjdjmipaa
open Go.RowKit

theorem tB_xor (a b : BitVec 16) : tB (a ^^^ b) = tB a ^^^ tB b := by
  unfold tB
  rw [BitVec.getLsbD_xor, BitVec.ushiftRight_xor_distrib]
  cases a.getLsbD 0 <;> cases b.getLsbD 0
  · rfl
  · simp only [Bool.xor_true, Bool.not_false, cond_true, cond_false, BitVec.xor_assoc]
  · simp only [Bool.xor_false, cond_true, cond_false]
    rw [BitVec.xor_assoc, BitVec.xor_assoc, BitVec.xor_comm (b >>> 1)]
  · simp only [Bool.xor_true, Bool.not_true, cond_true, cond_false]
    rw [BitVec.xor_assoc (a >>> 1), ← BitVec.xor_assoc (33800#16), BitVec.xor_comm (33800#16) (b >>> 1), BitVec.xor_assoc (b >>> 1), BitVec.xor_self, BitVec.xor_zero]
theorem tB_zero : tB 0#16 = 0#16 := by decide
theorem tB_inj {a : BitVec 16} (h : tB a = 0#16) : a = 0#16 := by
  unfold tB at h
  cases hb : a.getLsbD 0
  · rw [hb] at h
    simp only [cond_false] at h
    apply BitVec.eq_of_getLsbD_eq
    intro i hi
    rw [BitVec.getLsbD_zero]
    cases i with
    | zero => exact hb
    | succ i =>
      have := congrArg (fun v => v.getLsbD i) h
      simp only [BitVec.getLsbD_ushiftRight, BitVec.getLsbD_zero] at this
      rw [Nat.add_comm] at this
      exact this
  · rw [hb] at h
    simp only [cond_true] at h
    have := congrArg (fun v => v.getLsbD 15) h
    simp only [BitVec.getLsbD_xor, BitVec.getLsbD_ushiftRight, BitVec.getLsbD_zero] at this
    rw [BitVec.getLsbD_of_ge a (1 + 15) (by omega), show (33800#16).getLsbD 15 = true by decide] at this
    cases this
theorem rep_xor (n : Nat) (a b : BitVec 16) : rep n (a ^^^ b) = rep n a ^^^ rep n b := by
  induction n with
  | zero => rfl
  | succ n ih => unfold rep; rw [ih, tB_xor]
theorem rep_zero (n : Nat) : rep n 0#16 = 0#16 := by
  induction n with
  | zero => rfl
  | succ n ih => unfold rep; rw [ih, tB_zero]
theorem rep_inj {n : Nat} {a : BitVec 16} (h : rep n a = 0#16) : a = 0#16 := by
  induction n with
  | zero => exact h
  | succ n ih => unfold rep at h; exact ih (tB_inj h)
theorem rep_add (n m : Nat) (a : BitVec 16) : rep (n + m) a = rep n (rep m a) := by
  induction n with
  | zero => rw [Nat.zero_add]; rfl
  | succ n ih => rw [Nat.succ_add]; unfold rep; rw [ih]
theorem rep_one (k : Nat) (h : k < 16) : rep k (1#16 <<< k) = 1#16 := by
  have : ∀ i : Fin 16, rep i.val (1#16 <<< i.val) = 1#16 := by decide +kernel
  exact this ⟨k, h⟩
theorem rep_bit {n k : Nat} (h : k < 16) (hn : k ≤ n) : rep n (1#16 <<< k) = rep (n - k) 1#16 := by
  rw [show n = (n - k) + k by omega, rep_add, rep_one k h, Nat.add_sub_cancel]
theorem fold_xor : ∀ (l : List Int) (s e : BitVec 16), l.foldl sB (s ^^^ e) = l.foldl sB s ^^^ rep (8 * l.length) e
  | [], _, _ => rfl
  | x :: l, s, e => by
    simp only [List.foldl_cons, List.length_cons]
    have e1 : sB (s ^^^ e) x = sB s x ^^^ rep 8 e := by
      unfold sB
      rw [← rep_xor, BitVec.xor_assoc, BitVec.xor_comm e, ← BitVec.xor_assoc]
    rw [e1, fold_xor l, ← rep_add, show 8 * (l.length + 1) = 8 * l.length + 8 by omega]
theorem fold_set : ∀ (l : List Int) (s : BitVec 16) (p : Nat) (hp : p < l.length) (y : Int), (l.set p y).foldl sB s = l.foldl sB s ^^^ rep (8 * (l.length - p)) (BitVec.ofInt 16 l[p] ^^^ BitVec.ofInt 16 y)
  | [], _, p, hp, _ => by simp at hp
  | x :: l, s, 0, _, y => by
    simp only [List.set_cons_zero, List.foldl_cons, List.length_cons, List.getElem_cons_zero, Nat.sub_zero]
    have e1 : sB s y = sB s x ^^^ rep 8 (BitVec.ofInt 16 x ^^^ BitVec.ofInt 16 y) := by
      unfold sB
      rw [← rep_xor, BitVec.xor_assoc, ← BitVec.xor_assoc (BitVec.ofInt 16 x), BitVec.xor_self, BitVec.zero_xor]
    rw [e1, fold_xor, ← rep_add, show 8 * (l.length + 1) = 8 * l.length + 8 by omega]
  | x :: l, s, p + 1, hp, y => by
    simp only [List.set_cons_succ, List.foldl_cons, List.length_cons, List.getElem_cons_succ]
    rw [fold_set l _ p (by simpa using hp) y, Nat.add_sub_add_right]
theorem flip_bit {x : Int} (h : 0 ≤ x ∧ x ≤ 255) {r : Nat} (hr : r < 8) : BitVec.ofInt 16 x ^^^ BitVec.ofInt 16 (ixor .u8 x (ishl .u8 1 r)) = 1#16 <<< r ∧ 0 ≤ ixor .u8 x (ishl .u8 1 r) ∧ ixor .u8 x (ishl .u8 1 r) ≤ 255 := by
  have a : ∀ i : Fin 256, ∀ r : Fin 8, BitVec.ofInt 16 (i.val : Int) ^^^ BitVec.ofInt 16 (ixor .u8 (i.val : Int) (ishl .u8 1 (r.val : Int))) = 1#16 <<< r.val := by decide +kernel
  obtain ⟨n, rfl⟩ := Int.eq_ofNat_of_zero_le h.1
  exact ⟨a ⟨n, by omega⟩ ⟨r, hr⟩, wrap8_bd _⟩
theorem rep_hi {y : Int} (h : 0 ≤ y ∧ y ≤ 255) : rep 8 (BitVec.ofInt 16 (256 * y)) = BitVec.ofInt 16 y := by
  have a : ∀ i : Fin 256, rep 8 (BitVec.ofInt 16 (256 * (i.val : Int))) = BitVec.ofInt 16 (i.val : Int) := by decide +kernel
  obtain ⟨n, rfl⟩ := Int.eq_ofNat_of_zero_le h.1
  exact a ⟨n, by omega⟩
theorem xor_parts {x y : Int} (hx : 0 ≤ x ∧ x ≤ 255) (hy : 0 ≤ y ∧ y ≤ 255) : BitVec.ofInt 16 x ^^^ BitVec.ofInt 16 (256 * y) = BitVec.ofInt 16 (x + 256 * y) := by
  obtain ⟨a, rfl⟩ := Int.eq_ofNat_of_zero_le hx.1
  obtain ⟨b, rfl⟩ := Int.eq_ofNat_of_zero_le hy.1
  have e1 : (256 : Int) * (b : Int) = ((2 ^ 8 * b : Nat) : Int) := by omega
  have e2 : (a : Int) + ((2 ^ 8 * b : Nat) : Int) = ((2 ^ 8 * b + a : Nat) : Int) := by omega
  rw [e1, e2, BitVec.ofInt_natCast, BitVec.ofInt_natCast, BitVec.ofInt_natCast]
  apply BitVec.eq_of_getLsbD_eq
  intro i hi
  rw [BitVec.getLsbD_xor, BitVec.getLsbD_ofNat, BitVec.getLsbD_ofNat, BitVec.getLsbD_ofNat, Nat.testBit_two_pow_mul_add b (by omega), Nat.testBit_two_pow_mul]
  by_cases h8 : i < 8
  · rw [if_pos h8, show decide (i ≥ 8) = false by simp; omega]; simp
  · have : a.testBit i = false := Nat.testBit_lt_two_pow (Nat.lt_of_lt_of_le (show a < 2 ^ 8 by omega) (Nat.pow_le_pow_right (by omega) (by omega)))
    rw [if_neg h8, show decide (i ≥ 8) = true by simp; omega, this]; simp
theorem xor_eq_zero {a b : BitVec 16} (h : a ^^^ b = 0#16) : a = b := by
  have : a = a ^^^ b ^^^ b := by rw [BitVec.xor_assoc, BitVec.xor_self, BitVec.xor_zero]
  rw [this, h, BitVec.zero_xor]
/-- the check holds exactly if the whole has the rest zero -/
theorem check_iff {l : List Int} {x y : Int} (hx : 0 ≤ x ∧ x ≤ 255) (hy : 0 ≤ y ∧ y ≤ 255) : [x, y] = crcL l ↔ crcV (l ++ [x, y]) = 0#16 := by
  have e : crcV (l ++ [x, y]) = rep 8 (rep 8 (crcV l ^^^ BitVec.ofInt 16 x) ^^^ BitVec.ofInt 16 y) := by
    unfold crcV
    rw [List.foldl_append]
    rfl
  have hc := toI_bd (crcV l)
  rw [e]
  unfold crcL
  constructor
  · intro h
    injection h with h1 h2
    injection h2 with h2 _
    have ec : crcV l = BitVec.ofInt 16 x ^^^ BitVec.ofInt 16 (256 * y) := by
      rw [xor_parts hx hy, ← ofInt_toI (crcV l)]
      congr 1
      omega
    rw [ec, BitVec.xor_comm (BitVec.ofInt 16 x), BitVec.xor_assoc, BitVec.xor_self, BitVec.xor_zero, rep_hi hy, BitVec.xor_self, rep_zero]
  · intro h
    have h1 := rep_inj h
    rw [← rep_hi hy, ← rep_xor] at h1
    have h2 := rep_inj h1
    rw [BitVec.xor_assoc, xor_parts hx hy] at h2
    have h3 := xor_eq_zero h2
    rw [h3]
    have : toI (BitVec.ofInt 16 (x + 256 * y)) = x + 256 * y := by
      obtain ⟨n, hn⟩ := Int.eq_ofNat_of_zero_le (show 0 ≤ x + 256 * y by omega)
      rw [hn]
      unfold toI
      rw [BitVec.ofInt_natCast, BitVec.toNat_ofNat, Nat.mod_eq_of_lt (by omega)]
    rw [this]
    congr 1
    · omega
    · congr 1; omega
/-- the first k bits -/
def pre (p : BitVec 16) : Nat → BitVec 16
  | 0 => 0#16
  | k + 1 => bif p.getLsbD k then pre p k ^^^ (1#16 <<< k) else pre p k
theorem pre_hi (p : BitVec 16) (k j : Nat) (hj : k ≤ j) : (pre p k).getLsbD j = false := by
  induction k generalizing j with
  | zero => simp [pre]
  | succ k ih =>
    unfold pre
    cases p.getLsbD k
    · exact ih j (by omega)
    · simp only [cond_true, BitVec.getLsbD_xor]
      rw [ih j (by omega), BitVec.getLsbD_shiftLeft]
      by_cases hj2 : j < 16
      · have : (1#16).getLsbD (j - k) = false := by
          rw [BitVec.getLsbD_one]; simp; omega
        simp [this]
      · simp; omega
theorem pre_step {p : BitVec 16} {k : Nat} (hk : k < 16) : pre p k ^^^ (1#16 <<< k) ≠ 0#16 := by
  intro e
  have := congrArg (fun v => v.getLsbD k) e
  simp only [BitVec.getLsbD_xor, BitVec.getLsbD_zero] at this
  rw [pre_hi p k k (Nat.le_refl _), BitVec.getLsbD_shiftLeft] at this
  simp [hk] at this

theorem append_R (l : List Int) : F_checksum_Append_R l = F_checksum_Append l := by
  unfold F_checksum_Append_R F_checksum_Append
  simp only [List.take_length]
theorem encode_R (f : S_Frame) : F_frame_Encode_R f = F_frame_Encode f := by
  unfold F_frame_Encode_R F_frame_Encode
  simp only [append_R]
theorem enc_rest (f : S_Frame) : crcV (encL f) = 0#16 := by
  have hc := toI_bd (crcV (bodyL f))
  exact (check_iff (l := bodyL f) (x := toI (crcV (bodyL f)) % 256) (y := toI (crcV (bodyL f)) / 256) (by omega) (by omega)).1 rfl
theorem split2 {l : List Int} (h : 2 ≤ l.length) : ∃ b x y, l = b ++ [x, y] ∧ b.length + 2 = l.length := by
  refine ⟨l.take (l.length - 2), l[l.length - 2], l[l.length - 1], ?_, by rw [List.length_take]; omega⟩
  apply List.ext_getElem?
  intro i
  by_cases h1 : i < l.length - 2
  · rw [List.getElem?_append_left (by rw [List.length_take]; omega), List.getElem?_take_of_lt h1]
  · rw [List.getElem?_append_right (by rw [List.length_take]; omega), List.length_take, show min (l.length - 2) l.length = l.length - 2 by omega]
    by_cases h2 : i = l.length - 2
    · subst h2
      rw [List.getElem?_eq_getElem (by omega), Nat.sub_self]; rfl
    · by_cases h3 : i = l.length - 1
      · subst h3
        rw [List.getElem?_eq_getElem (by omega), show l.length - 1 - (l.length - 2) = 1 by omega]; rfl
      · rw [List.getElem?_eq_none (by omega), List.getElem?_eq_none (by simp; omega)]
theorem bad_check {l : List Int} (h : okB l) (h2 : 2 ≤ l.length) (hl : l.length ≤ 1000) (hc : crcV l ≠ 0#16) : F_checksum_Check l = some false := by
  obtain ⟨b, x, y, rfl, hn⟩ := split2 h2
  have hx := h x (by simp)
  have hy := h y (by simp)
  have hb : okB b := fun z hz => h z (List.mem_append_left _ hz)
  rw [crc_check hb (by omega)]
  congr 1
  refine decide_eq_false fun e => hc ((check_iff hx hy).1 e)
theorem bad_decode {l : List Int} (h : okB l) (h5 : 5 ≤ l.length) (h127 : l.length ≤ 127) (hc : crcV l ≠ 0#16) : ∃ g, F_frame_Decode l = some (g, 6) := by
  unfold F_frame_Decode
  rw [decF (show ¬ (l.length : Int) > 127 by omega), decF (show ¬ (l.length : Int) < 5 by omega), bad_check h (by omega) (by omega) hc]
  exact ⟨_, rfl⟩
theorem bit_of {p : BitVec 16} {k : Nat} (hk : k < 16) : (iand .u16 (ishr .u16 (toI p) (IntKind.wrap .u64 (k : Int))) 1 == 1) = p.getLsbD k := by
  rw [wu (by omega) (by omega), ishr_I p k (by omega), iand_I, BitVec.getLsbD_ushiftRight, Nat.add_zero]
/-- one round -/
theorem burst_step {b : List Int} (p : BitVec 16) {at' k : Nat} {ch : Bool} {l : List Int} (hk : k < 16) (hat : at' + k < 8 * l.length) (hl : l.length ≤ 127) (ho : okB l) (hc : crcV l = rep (8 * l.length - at') (pre p k)) (hch : ch = decide (pre p k ≠ 0#16)) (hb : ch = false → l = b) : ∃ ch' l', F_law05_FrameNotices_l1 (at' : Int) (toI p) (ch, (k : Int), l) = some (Sum.inl (ch', ((k + 1 : Nat) : Int), l')) ∧ l'.length = l.length ∧ okB l' ∧ crcV l' = rep (8 * l.length - at') (pre p (k + 1)) ∧ ch' = decide (pre p (k + 1) ≠ 0#16) ∧ (ch' = false → l' = b) := by
  unfold F_law05_FrameNotices_l1 F_law05_FrameNotices_j2
  dsimp only
  have w1 : IntKind.wrap .i64 ((at' : Int) + (k : Int)) = ((at' + k : Nat) : Int) := by rw [wi (by omega) (by omega)]; rfl
  have w2 : IntKind.wrap .i64 (8 * (l.length : Int)) = ((8 * l.length : Nat) : Int) := by rw [wi (by omega) (by omega)]; rfl
  have w3 : (0 : Int) ≤ IntKind.wrap .u64 (k : Int) := by rw [wu (by omega) (by omega)]; omega
  have w4 : Int.tmod ((at' + k : Nat) : Int) 8 = (((at' + k) % 8 : Nat) : Int) := by rw [Int.tmod_eq_emod_of_nonneg (by omega)]; omega
  have w5 : iquo .i64 ((at' + k : Nat) : Int) 8 = (((at' + k) / 8 : Nat) : Int) := by
    unfold iquo
    rw [Int.tdiv_eq_ediv_of_nonneg (by omega), wi (by omega) (by omega)]; omega
  have w6 : IntKind.wrap .u64 (((at' + k) % 8 : Nat) : Int) = (((at' + k) % 8 : Nat) : Int) := wu (by omega) (by omega)
  rw [decT (show (k : Int) < 16 by omega), w1, w2, decT (show ((at' + k : Nat) : Int) < ((8 * l.length : Nat) : Int) by omega), decT w3, bit_of hk, w4, w5, w6, decT (show (0 : Int) ≤ (((at' + k) % 8 : Nat) : Int) by omega), wk k (by omega)]
  simp only [cond_true]
  cases hp : p.getLsbD k
  · have e : pre p (k + 1) = pre p k := by show (bif p.getLsbD k then _ else _) = _; rw [hp]; rfl
    rw [e]
    exact ⟨_, _, rfl, rfl, ho, hc, hch, hb⟩
  · have e : pre p (k + 1) = pre p k ^^^ (1#16 <<< k) := by show (bif p.getLsbD k then _ else _) = _; rw [hp]; rfl
    have hlt : (at' + k) / 8 < l.length := by omega
    obtain ⟨f1, f2⟩ := flip_bit (ho.get hlt) (show (at' + k) % 8 < 8 by omega)
    simp only [cond_true, Cut.app, Nat.zero_add, Int.toNat_natCast]
    rw [idx_lt hlt, Option.bind_some, List.getElem?_eq_getElem hlt, Option.bind_some, e]
    refine ⟨_, _, rfl, by rw [List.length_set], ho.set _ f2, ?_, ?_, fun e => by cases e⟩
    · unfold crcV at hc ⊢
      rw [fold_set l 0#16 _ hlt, hc, f1, rep_xor, rep_bit (n := 8 * l.length - at') hk (by omega), rep_bit (n := 8 * (l.length - (at' + k) / 8)) (show (at' + k) % 8 < 16 by omega) (by omega)]
      congr 2
      omega
    · exact (decide_eq_true (pre_step hk)).symm
theorem burst_loop {b : List Int} (p : BitVec 16) {at' : Nat} (hat : at' < 8 * b.length) (hl : b.length ≤ 127) (ho : okB b) (hc : crcV b = 0#16) : ∃ ch l, loopO (F_law05_FrameNotices_l1 (at' : Int) (toI p)) (false, 0, b) = some (ch, l) ∧ l.length = b.length ∧ okB l ∧ (ch = true → crcV l ≠ 0#16) ∧ (ch = false → l = b) := by
  obtain ⟨r, hr, q⟩ := loop_inv (step := F_law05_FrameNotices_l1 (at' : Int) (toI p)) (fun s => ∃ k : Nat, s.2.1 = (k : Int) ∧ k ≤ 16 ∧ s.2.2.length = b.length ∧ okB s.2.2 ∧ crcV s.2.2 = rep (8 * b.length - at') (pre p k) ∧ s.1 = decide (pre p k ≠ 0#16) ∧ (s.1 = false → s.2.2 = b)) (fun r => r.2.length = b.length ∧ okB r.2 ∧ (r.1 = true → crcV r.2 ≠ 0#16) ∧ (r.1 = false → r.2 = b)) (fun s => (16 - s.2.1).toNat) (by
    rintro ⟨ch, i, l⟩ ⟨k, a0, a1, a2, a3, a4, a5, a6⟩
    dsimp only at a0 a2 a3 a4 a5 a6
    subst a0
    have hq : crcV l ≠ 0#16 ∨ ch = false := by
      cases hch : ch
      · exact Or.inr rfl
      · refine Or.inl fun e => ?_
        rw [a4] at e
        have := rep_inj e
        rw [hch] at a5
        exact of_decide_eq_true a5.symm this
    have hout : (ch = true → crcV l ≠ 0#16) := fun e => hq.elim id (fun e' => by rw [e] at e'; cases e')
    by_cases h1 : k < 16
    · by_cases h2 : at' + k < 8 * l.length
      · left
        obtain ⟨ch', l', e1, e2, e3, e4, e5, e6⟩ := burst_step (b := b) p (at' := at') h1 h2 (by omega) a3 (by rw [a2]; exact a4) a5 a6
        refine ⟨_, e1, ⟨k + 1, rfl, by omega, by rw [e2, a2], e3, by rw [e4, a2], e5, e6⟩, ?_⟩
        dsimp only
        omega
      · right
        unfold F_law05_FrameNotices_l1
        dsimp only
        rw [decT (show (k : Int) < 16 by omega), wi (x := (at' : Int) + (k : Int)) (by omega) (by omega), wi (by omega) (by omega), decF (show ¬ (at' : Int) + (k : Int) < 8 * (l.length : Int) by omega)]
        exact ⟨_, rfl, a2, a3, hout, a6⟩
    · right
      unfold F_law05_FrameNotices_l1
      dsimp only
      rw [decF (show ¬ (k : Int) < 16 by omega)]
      exact ⟨_, rfl, a2, a3, hout, a6⟩) (false, 0, b) ⟨0, rfl, by omega, rfl, ho, by rw [hc]; exact (rep_zero _).symm, rfl, fun _ => rfl⟩
  exact ⟨r.1, r.2, hr, q⟩
theorem notices_law (t : List Int) (a : Int) (p : Int) (hp : wfI .u16 p) : F_law05_FrameNotices t a p = some true := by
  unfold F_law05_FrameNotices
  obtain ⟨k, e1, k1⟩ := new_spec t
  obtain ⟨f, k2, e2, g, _⟩ := any_spec k1
  have hb := bodyL_len g
  have hl := encL_len (f := f)
  have e3 : F_frame_Encode_R f = some (encL f, 0) := by rw [encode_R, f_encode g]
  have w8 : IntKind.wrap .i64 (8 * ((encL f).length : Int)) = 8 * ((encL f).length : Int) := wi (by omega) (by omega)
  obtain ⟨v, ev, v0, v1⟩ := mod_spec a (8 * ((encL f).length : Int)) (by omega) (by omega)
  obtain ⟨at', rfl⟩ := Int.eq_ofNat_of_zero_le v0
  have hp' : toI (BitVec.ofInt 16 p) = p := by
    simp [wfI, Lit.wf, IntKind.min, IntKind.max, IntKind.bits, IntKind.signed] at hp
    obtain ⟨n, rfl⟩ := Int.eq_ofNat_of_zero_le hp.1
    unfold toI
    rw [BitVec.ofInt_natCast, BitVec.toNat_ofNat, Nat.mod_eq_of_lt (by omega)]
  obtain ⟨ch, l, el, q1, q2, q3, q4⟩ := burst_loop (b := encL f) (BitVec.ofInt 16 p) (at' := at') (by omega) (by omega) (encL_ok g) (enc_rest f)
  rw [hp'] at el
  simp only [e1, e2, e3, Option.bind_some, w8]
  rw [show ((0 : Int) != 0) = false by rfl, decF (show ¬ ((encL f).length : Int) < 5 by omega)]
  simp only [cond_false, ev, Option.bind_some, el, known_true, cond_true]
  cases hch : ch
  · rw [q4 hch, f_decode g]
    rfl
  · obtain ⟨x, ex⟩ := bad_decode q2 (by omega) (by omega) (q3 hch)
    rw [ex]
    rfl
end Go.Proofs.Ytohfnlkjdjmipaa
