/-
  TransmitPlays, proved for all tapes and slots.
-/
import Derived.Test.YtleadcbdbfjefaaKP4
namespace Go.Proofs.Ytleadcbdbfjefaa
section
open Go.RowKit

def B0 : S_Backoff := S_Backoff.mk 0 0 0 0 0
def L0 : S_Link := S_Link.mk [] 0 0 B0 0
structure WfL (l : S_Link) : Prop where
  fr : ∀ f ∈ l.Queue, WfF f
  len : l.Queue.length ≤ 140737488351232
noncomputable def sendB (f : S_Frame) : Bool := validB f && (f.Kind != 2)
def headAck (q : List S_Frame) : Bool := match q with
  | [] => false
  | f :: _ => f.AckRequest
noncomputable def linkB (l : S_Link) : Bool := decide (l.Queue.length ≤ 16) && l.Queue.all sendB &&
  (if l.Queue.length = 0 then (l.Phase == 0) && (l.Attempts == 0) && S_Backoff.eqb l.Backoff B0 && (l.Left == 0)
   else if l.Phase = 1 then decide (0 ≤ l.Attempts) && decide (l.Attempts ≤ 3) && bvB (bk l.Backoff) && !endedB (bk l.Backoff) && (l.Left == 0)
   else if l.Phase = 2 then headAck l.Queue && decide (1 ≤ l.Attempts) && decide (l.Attempts ≤ 4) && S_Backoff.eqb l.Backoff B0 && decide (1 ≤ l.Left) && decide (l.Left ≤ 3)
   else false)
theorem send_p {f : S_Frame} (w : WfF f) : F_transmit_validFrame f = some (sendB f) := by
  unfold F_transmit_validFrame sendB
  rw [f_valid_eq w]
  cases validB f <;> rfl
theorem send_r {f : S_Frame} (w : WfF f) : F_ref09_sendable f = some (sendB f) := by
  unfold F_ref09_sendable sendB
  rw [r_valid_eq w]
  cases validB f <;> rfl
/-- a loop that asks something of every element -/
theorem loop_every {α : Type} (q : List α) (p : α → Bool) (hq : q.length ≤ 4611686018427387904) {step : Int → Option (Int ⊕ (Unit ⊕ Bool))}
    (h : ∀ k (hk : k < q.length), step (k : Int) = if p q[k] then some (.inl (IntKind.wrap .i64 ((k : Int) + 1))) else some (.inr (.inr false))) (he : step (q.length : Int) = some (.inr (.inl ()))) : loopO step 0 = some (if q.all p then .inl () else .inr false) := by
  have hl := loop_all (step := step) (S := fun k => (k : Int)) q.length (fun k => if hk : k < q.length then p q[k] else true) (rt := .inl ()) (rf := .inr false) (fun k hk hp => by
    rw [dif_pos hk] at hp
    rw [h k hk, if_pos hp, wk k (by omega)]) (fun k hk hp => by
    rw [dif_pos hk] at hp
    rw [h k hk, if_neg (by rw [hp]; simp)]) he
  simp only [Int.natCast_zero] at hl
  rw [hl]
  congr 1
  by_cases ha : q.all p = true
  · rw [if_pos ha, if_pos]
    intro k hk
    rw [dif_pos hk]
    exact List.all_eq_true.1 ha _ (List.getElem_mem hk)
  · rw [if_neg ha, if_neg]
    intro hh
    apply ha
    rw [List.all_eq_true]
    intro x hx
    obtain ⟨k, hk, rfl⟩ := List.getElem_of_mem hx
    have := hh k hk
    rwa [dif_pos hk] at this
theorem idxK {α : Type} {l : List α} {k : Nat} (h : k < l.length) : idx l (k : Int) = some l[k] := by
  unfold idx
  rw [if_pos (by omega), Int.toNat_natCast, List.getElem?_eq_getElem h]
theorem vl_p {l : S_Link} (w : WfL l) : loopO (F_transmit_Valid_l1 l) 0 = some (if l.Queue.all sendB then .inl () else .inr false) := by
  have hl := w.len
  refine loop_every l.Queue sendB (by omega) (fun k hk => ?_) ?_
  · unfold F_transmit_Valid_l1
    rw [decT (show (k : Int) < (l.Queue.length : Int) by omega), idxK hk, Option.bind_some, send_p (w.fr _ (List.getElem_mem hk))]
    simp only [cond_true, Option.bind_some]
    cases sendB l.Queue[k] <;> rfl
  · unfold F_transmit_Valid_l1
    rw [decF (by omega)]
    rfl
theorem vl_r {l : S_Link} (w : WfL l) : loopO (F_ref09_Valid_l1 l) 0 = some (if l.Queue.all sendB then .inl () else .inr false) := by
  have hl := w.len
  refine loop_every l.Queue sendB (by omega) (fun k hk => ?_) ?_
  · unfold F_ref09_Valid_l1
    rw [decT (show (k : Int) < (l.Queue.length : Int) by omega), idxK hk, Option.bind_some, send_r (w.fr _ (List.getElem_mem hk))]
    simp only [cond_true, Option.bind_some]
    cases sendB l.Queue[k] <;> rfl
  · unfold F_ref09_Valid_l1
    rw [decF (by omega)]
    rfl
theorem valid_p {l : S_Link} (w : WfL l) : F_transmit_Valid l = some (linkB l) := by
  unfold F_transmit_Valid linkB
  by_cases h16 : l.Queue.length ≤ 16
  · rw [decF (show ¬ (l.Queue.length : Int) > 16 by omega), vl_p w, decT h16]
    simp only [cond_false, Option.bind_some, Bool.true_and]
    cases ha : l.Queue.all sendB
    · rfl
    simp only [if_true, Sum.elim_inl, Bool.true_and, valid_eq, ended_eq, Option.bind_some]
    by_cases h0 : l.Queue.length = 0
    · rw [if_pos h0, show ((l.Queue.length : Int) == 0) = true by simp [h0], cond_true]
      cases (l.Phase == 0) <;> cases (l.Attempts == 0) <;> (unfold B0; cases S_Backoff.eqb l.Backoff (S_Backoff.mk 0 0 0 0 0)) <;> simp
    · rw [if_neg h0, show ((l.Queue.length : Int) == 0) = false from beqF (by omega), cond_false]
      by_cases p1 : l.Phase = 1
      · rw [if_pos p1, show (l.Phase == 1) = true by simp [p1], cond_true]
        cases h1 : decide (0 ≤ l.Attempts) <;> simp only [ge_iff_le, h1, cond_true, cond_false, Bool.false_and, Bool.true_and]
        cases h2 : decide (l.Attempts ≤ 3) <;> simp only [cond_true, cond_false, Bool.false_and, Bool.true_and]
        cases bvB (bk l.Backoff) <;> cases endedB (bk l.Backoff) <;> simp
      · rw [if_neg p1, show (l.Phase == 1) = false by simp [p1], cond_false]
        by_cases p2 : l.Phase = 2
        · rw [if_pos p2, show (l.Phase == 2) = true by simp [p2], cond_true]
          obtain ⟨q, ph, at_, b, lf⟩ := l
          cases q with
          | nil => simp at h0
          | cons f r =>
            have e0 : idx (f :: r) 0 = some f := rfl
            simp only [e0, Option.bind_some, headAck]
            cases f.AckRequest <;> simp only [cond_true, cond_false, Bool.false_and, Bool.true_and]
            cases h1 : decide (1 ≤ at_) <;> simp only [ge_iff_le, h1, cond_true, cond_false, Bool.false_and, Bool.true_and]
            cases h2 : decide (at_ ≤ 4) <;> simp only [cond_true, cond_false, Bool.false_and, Bool.true_and]
            unfold B0
            cases S_Backoff.eqb b (S_Backoff.mk 0 0 0 0 0) <;> simp only [cond_true, cond_false, Bool.false_and, Bool.true_and]
            cases h3 : decide (1 ≤ lf) <;> rfl
        · rw [if_neg p2, show (l.Phase == 2) = false by simp [p2], cond_false]
  · rw [decT (show (l.Queue.length : Int) > 16 by omega), decF h16]
    simp
theorem valid_r {l : S_Link} (w : WfL l) : F_ref09_Valid l = some (linkB l) := by
  rw [← valid_p w]
  unfold F_transmit_Valid F_ref09_Valid
  rw [vl_p w, vl_r w]
  simp only [valid_eq, ended_eq, rvalid_eq, rended_eq]
structure LinkOk (l : S_Link) : Prop where
  len : l.Queue.length ≤ 16
  send : ∀ f ∈ l.Queue, sendB f = true
theorem link_ok {l : S_Link} (h : linkB l = true) : LinkOk l := by
  unfold linkB at h
  simp only [Bool.and_eq_true, decide_eq_true_eq, List.all_eq_true] at h
  exact ⟨h.1.1, h.1.2⟩
theorem own_f {f : S_Frame} (w : WfF f) : F_transmit_ownFrame f = some f := by
  have h1 := w.payl
  have h2 := w.micl
  unfold F_transmit_ownFrame
  simp only [Cut.app]
  rw [appO_some (by simp; omega) (by simp; omega), Option.bind_some, appO_some (by simp; omega) (by simp; omega), Option.bind_some]
  rfl
theorem cop_f {f : S_Frame} (w : WfF f) : F_ref09_copied f = some f := by
  have h1 := w.payl
  have h2 := w.micl
  unfold F_ref09_copied
  simp only [Cut.app]
  rw [appO_some (by simp; omega) (by simp; omega), Option.bind_some, appO_some (by simp; omega) (by simp; omega), Option.bind_some]
  rfl
theorem own_l {l : S_Link} (w : WfL l) (h : l.Queue.length ≤ 16) : F_transmit_own l = some l := by
  unfold F_transmit_own
  have hl := loop_run (step := F_transmit_own_l1 l) (S := fun k => (l.Queue.take k, (k : Int))) l.Queue.length (r := l.Queue) (fun k hk => by
    unfold F_transmit_own_l1
    dsimp only
    rw [decT (show (k : Int) < (l.Queue.length : Int) by omega), idxK hk, Option.bind_some, own_f (w.fr _ (List.getElem_mem hk))]
    simp only [cond_true, Option.bind_some, Cut.app]
    rw [appO_some (by simp; omega) (by simp; omega), Option.bind_some, wk k (by omega), take_snoc (List.getElem?_eq_getElem hk)]) (by
    unfold F_transmit_own_l1
    dsimp only
    rw [decF (by omega), List.take_length]
    rfl)
  simp only [Int.natCast_zero, List.take_zero] at hl
  rw [hl]
  rfl
theorem rest_l {l : S_Link} (w : WfL l) (h : l.Queue.length ≤ 16) : F_ref09_rest l.Queue = some l.Queue := by
  unfold F_ref09_rest
  have hl := loop_run (step := F_ref09_rest_l1 l.Queue) (S := fun k => (l.Queue.take k, (k : Int))) l.Queue.length (r := l.Queue) (fun k hk => by
    unfold F_ref09_rest_l1
    dsimp only
    rw [decT (show (k : Int) < (l.Queue.length : Int) by omega), idxK hk, Option.bind_some, cop_f (w.fr _ (List.getElem_mem hk))]
    simp only [cond_true, Option.bind_some, Cut.app]
    rw [appO_some (by simp; omega) (by simp; omega), Option.bind_some, wk k (by omega), take_snoc (List.getElem?_eq_getElem hk)]) (by
    unfold F_ref09_rest_l1
    dsimp only
    rw [decF (by omega), List.take_length]
    rfl)
  simp only [Int.natCast_zero, List.take_zero] at hl
  rw [hl]
  rfl
def startL (q : List S_Frame) (d : Int) : S_Link := if q = [] then L0 else S_Link.mk q 1 0 (sb (beginB d)) 0
noncomputable def enqS (l : S_Link) (f : S_Frame) (d : Int) : S_Link × Int := if linkB l = true ∧ sendB f = true then
    (if l.Queue.length = 16 then (L0, 10) else if l.Queue = [] then (S_Link.mk [f] 1 0 (sb (beginB d)) 0, 0) else (S_Link.mk (l.Queue ++ [f]) l.Phase l.Attempts l.Backoff l.Left, 0))
  else (L0, 1)
theorem enq_p {l : S_Link} (w : WfL l) {f : S_Frame} (wf : WfF f) {d : Int} (d0 : 0 ≤ d) (d1 : d ≤ 4294967295) : F_transmit_Enqueue l f d = some (enqS l f d) := by
  unfold F_transmit_Enqueue F_transmit_Enqueue_j1 enqS
  rw [valid_p w, Option.bind_some]
  cases hv : linkB l
  · simp [L0, B0]
  have hk := link_ok hv
  have hk1 := hk.len
  rw [send_p wf, cond_true, Option.bind_some]
  cases hs : sendB f
  · simp [L0, B0]
  simp only [cond_true, and_self, if_true]
  by_cases h16 : l.Queue.length = 16
  · rw [if_pos h16, show ((l.Queue.length : Int) == 16) = true by simp; omega]
    rfl
  · rw [if_neg h16, show ((l.Queue.length : Int) == 16) = false from beqF (by omega), own_l w hk.len, own_f wf]
    simp only [cond_false, Option.bind_some, Cut.app]
    rw [appO_some (by simp; omega) (by simp; omega), Option.bind_some, begin_eq d d0 d1]
    by_cases h0 : l.Queue = []
    · rw [if_pos h0, h0]
      rfl
    · have hp : 0 < l.Queue.length := List.length_pos_iff.2 h0
      rw [if_neg h0, show (((l.Queue ++ [f]).length : Int) == 1) = false from beqF (by rw [List.length_append, List.length_singleton]; omega)]
      rfl
theorem enq_r {l : S_Link} (w : WfL l) {f : S_Frame} (wf : WfF f) {d : Int} (d0 : 0 ≤ d) (d1 : d ≤ 4294967295) : F_ref09_Enqueue l f d = some (enqS l f d) := by
  unfold F_ref09_Enqueue F_ref09_Enqueue_j1 enqS
  rw [valid_r w, Option.bind_some]
  cases hv : linkB l
  · simp [L0, B0]
  have hk := link_ok hv
  have hk1 := hk.len
  rw [send_r wf, cond_true, Option.bind_some]
  cases hs : sendB f
  · simp [L0, B0]
  simp only [cond_true, and_self, if_true]
  by_cases h16 : l.Queue.length = 16
  · rw [if_pos h16, show ((l.Queue.length : Int) == 16) = true by simp; omega]
    rfl
  · rw [if_neg h16, show ((l.Queue.length : Int) == 16) = false from beqF (by omega), rest_l w hk.len, cop_f wf, rbegin_eq d d0 d1]
    simp only [cond_false, Option.bind_some, Cut.app]
    rw [appO_some (by simp; omega) (by simp; omega), Option.bind_some]
    by_cases h0 : l.Queue = []
    · rw [if_pos h0, h0]
      rfl
    · have hp : 0 < l.Queue.length := List.length_pos_iff.2 h0
      rw [if_neg h0, show ((l.Queue.length : Int) == 0) = false from beqF (by omega)]
      rfl
def failL (f : S_Frame) (r : List S_Frame) (n d : Int) : S_Link × List S_Outcome := if n > 3 then (startL r d, [S_Outcome.mk f false n]) else (S_Link.mk (f :: r) 1 n (sb (beginB d)) 0, [])
noncomputable def stpS (l : S_Link) (x : S_Slot) : S_Link × Bool × List S_Outcome := if linkB l then
    (match l.Queue with
    | [] => (l, false, [])
    | f :: r => if l.Phase = 1 then
        (let b := (bk l.Backoff).step x.Busy x.Draw
         if b.st = 3 then (if f.AckRequest then (S_Link.mk (f :: r) 2 (l.Attempts + 1) B0 3, true, []) else (startL r x.Draw, true, [S_Outcome.mk f true (l.Attempts + 1)]))
         else if b.st = 4 then ((failL f r (l.Attempts + 1) x.Draw).1, false, (failL f r (l.Attempts + 1) x.Draw).2)
         else (S_Link.mk (f :: r) 1 l.Attempts (sb b) l.Left, false, []))
      else if x.Ack = true ∧ x.Seq = f.Seq then (startL r x.Draw, false, [S_Outcome.mk f true l.Attempts])
      else if l.Left - 1 = 0 then ((failL f r l.Attempts x.Draw).1, false, (failL f r l.Attempts x.Draw).2)
      else (S_Link.mk (f :: r) l.Phase l.Attempts l.Backoff (l.Left - 1), false, []))
  else (L0, false, [])
theorem link_cases {f : S_Frame} {r : List S_Frame} {ph a lf : Int} {b : S_Backoff} (h : linkB (S_Link.mk (f :: r) ph a b lf) = true) : (ph = 1 ∧ 0 ≤ a ∧ a ≤ 3 ∧ (bk b).Valid ∧ (b.State = 1 ∨ b.State = 2) ∧ lf = 0) ∨ (ph = 2 ∧ f.AckRequest = true ∧ 1 ≤ a ∧ a ≤ 4 ∧ b = B0 ∧ 1 ≤ lf ∧ lf ≤ 3) := by
  unfold linkB at h
  simp only [Bool.and_eq_true] at h
  have h2 := h.2
  rw [if_neg (by simp)] at h2
  by_cases p1 : ph = 1
  · rw [if_pos p1] at h2
    simp only [Bool.and_eq_true, decide_eq_true_eq, beq_iff_eq, Bool.not_eq_true'] at h2
    obtain ⟨⟨⟨⟨q1, q2⟩, q3⟩, q4⟩, q5⟩ := h2
    have q3' : (bk b).Valid := by simpa [bvB] using q3
    have q4' : ¬ (b.State = 3 ∨ b.State = 4) := by
      intro hh
      have : endedB (bk b) = true := by unfold endedB; exact decide_eq_true ⟨q3', hh⟩
      rw [this] at q4; cases q4
    refine .inl ⟨p1, q1, q2, q3', ?_, q5⟩
    obtain ⟨_, _, _, hs⟩ := q3'
    simp only [bk] at hs
    omega
  · rw [if_neg p1] at h2
    by_cases p2 : ph = 2
    · rw [if_pos p2] at h2
      simp only [Bool.and_eq_true, decide_eq_true_eq, headAck] at h2
      obtain ⟨⟨⟨⟨⟨q1, q2⟩, q3⟩, q4⟩, q5⟩, q6⟩ := h2
      refine .inr ⟨p2, q1, q2, q3, ?_, q5, q6⟩
      obtain ⟨b1, b2, b3, b4, b5⟩ := b
      simp only [S_Backoff.eqb, B0, Bool.and_true, Bool.and_eq_true, beq_iff_eq] at q4
      obtain ⟨rfl, rfl, rfl, rfl, rfl⟩ := q4
      rfl
    · rw [if_neg p2] at h2; cases h2
theorem link_nil {ph a lf : Int} {b : S_Backoff} (h : linkB (S_Link.mk [] ph a b lf) = true) : S_Link.mk [] ph a b lf = L0 := by
  unfold linkB at h
  simp only [Bool.and_eq_true] at h
  have h2 := h.2
  rw [if_pos (by simp)] at h2
  simp only [Bool.and_eq_true, beq_iff_eq] at h2
  obtain ⟨⟨⟨rfl, rfl⟩, q⟩, rfl⟩ := h2
  obtain ⟨b1, b2, b3, b4, b5⟩ := b
  simp only [S_Backoff.eqb, B0, Bool.and_true, Bool.and_eq_true, beq_iff_eq] at q
  obtain ⟨rfl, rfl, rfl, rfl, rfl⟩ := q
  rfl
theorem tail_p (f : S_Frame) (r : List S_Frame) : subO (f :: r) 1 ((f :: r).length : Int) = some r := by
  rw [subO_some (by omega) (by simp; omega) (by omega)]
  simp
theorem head_i (f : S_Frame) (r : List S_Frame) : idx (f :: r) 0 = some f := rfl
theorem one_o (o : S_Outcome) : appO 136 ([] : List S_Outcome) (Cut.app .whole ([o] : List S_Outcome)) = some [o] := rfl
theorem tail_o {r : List S_Frame} (h : r.length ≤ 16) : appO 120 ([] : List S_Frame) (Cut.app .whole r) = some r := by
  simp only [Cut.app]
  rw [appO_some (by simp; omega) (by simp; omega), List.nil_append]
theorem isnil (r : List S_Frame) : ((r.length : Int) == 0) = decide (r = []) := by
  cases r with
  | nil => rfl
  | cons f r => exact beqF (by simp; omega)
theorem stp_p {l : S_Link} (w : WfL l) {x : S_Slot} (d0 : 0 ≤ x.Draw) (d1 : x.Draw ≤ 4294967295) : F_transmit_Step l x = some (stpS l x) := by
  unfold F_transmit_Step F_transmit_Step_j3 F_transmit_Step_j2 F_transmit_Step_j1 stpS
  rw [valid_p w, Option.bind_some]
  cases hv : linkB l
  · rfl
  have hk := link_ok hv
  rw [own_l w hk.len]
  simp only [cond_true, Option.bind_some, if_true]
  obtain ⟨q, ph, a, b, lf⟩ := l
  cases q with
  | nil =>
    have := link_nil hv
    simp only [L0, S_Link.mk.injEq, true_and] at this
    obtain ⟨rfl, rfl, rfl, rfl⟩ := this
    rfl
  | cons f r =>
    have hlen := hk.len
    simp only [List.length_cons] at hlen
    have e2 := tail_o (r := r) (by omega)
    have e3 := tail_p f r
    have eb := begin_eq x.Draw d0 d1
    rcases link_cases hv with ⟨rfl, a0, a3, hb, hbs, rfl⟩ | ⟨rfl, hack, a1, a4, rfl, l1, l3⟩
    · have w1 : IntKind.wrap .i64 (a + 1) = a + 1 := wi (by omega) (by omega)
      simp only [show ((1 : Int) == 1) = true from rfl, cond_true, step_eq b x.Busy x.Draw d0 d1, Option.bind_some, w1, head_i, one_o, e3, e2, eb, isnil, if_true, failL, startL]
      generalize (bk b).step x.Busy x.Draw = B
      by_cases s3 : B.st = 3
      · simp only [sb, s3, show ((3 : Int) == 3) = true from rfl, cond_true, if_true]
        cases f.AckRequest
        · simp only [cond_false, Bool.false_eq_true, if_false]
          by_cases hr : r = [] <;> simp only [hr, decide_true, decide_false, cond_true, cond_false, if_true, if_false, sb, L0, B0]
        · rfl
      · have s3' : (B.st == 3) = false := beqF s3
        simp only [sb, s3', s3, cond_false, if_false]
        by_cases s4 : B.st = 4
        · simp only [s4, show ((4 : Int) == 4) = true from rfl, cond_true, if_true]
          by_cases ha : a + 1 > 3
          · simp only [ha, decide_true, cond_true, if_true]
            by_cases hr : r = [] <;> simp only [hr, decide_true, decide_false, cond_true, cond_false, if_true, if_false, sb, L0, B0]
          · simp only [ha, decide_false, cond_false, if_false, sb]
        · have s4' : (B.st == 4) = false := beqF s4
          simp only [s4', s4, cond_false, if_false]
    · have w1 : IntKind.wrap .i64 (lf - 1) = lf - 1 := wi (by omega) (by omega)
      simp only [show ((2 : Int) == 1) = false from rfl, show ((2 : Int) == 2) = true from rfl, cond_true, cond_false, Option.bind_some, w1, head_i, one_o, e3, e2, eb, isnil, failL, startL, show ¬ ((2 : Int) = 1) by omega, if_false]
      cases hA : x.Ack
      · simp only [cond_false, Bool.false_eq_true, false_and, if_false]
        by_cases h1 : lf - 1 = 0
        · simp only [h1, show ((0 : Int) == 0) = true from rfl, cond_true, if_true]
          by_cases ha : a > 3
          · simp only [ha, decide_true, cond_true, if_true]
            by_cases hr : r = [] <;> simp only [hr, decide_true, decide_false, cond_true, cond_false, if_true, if_false, sb, L0, B0]
          · simp only [ha, decide_false, cond_false, if_false, sb]
        · simp only [beqF h1, h1, cond_false, if_false]
      · simp only [cond_true, true_and]
        by_cases hs : x.Seq = f.Seq
        · simp only [hs, BEq.rfl, cond_true, if_true]
          by_cases hr : r = [] <;> simp only [hr, decide_true, decide_false, cond_true, cond_false, if_true, if_false, sb, L0, B0]
        · simp only [beqF hs, hs, cond_false, if_false]
          by_cases h1 : lf - 1 = 0
          · simp only [h1, show ((0 : Int) == 0) = true from rfl, cond_true, if_true]
            by_cases ha : a > 3
            · simp only [ha, decide_true, cond_true, if_true]
              by_cases hr : r = [] <;> simp only [hr, decide_true, decide_false, cond_true, cond_false, if_true, if_false, sb, L0, B0]
            · simp only [ha, decide_false, cond_false, if_false, sb]
          · simp only [beqF h1, h1, cond_false, if_false]
theorem begin_r (q : List S_Frame) {d : Int} (d0 : 0 ≤ d) (d1 : d ≤ 4294967295) : F_ref09_begin q d = some (startL q d) := by
  unfold F_ref09_begin startL
  rw [rbegin_eq d d0 d1, isnil]
  by_cases h : q = [] <;> simp only [h, decide_true, decide_false, cond_true, cond_false, if_true, if_false, Option.bind_some, L0, B0]
theorem finish_r (f : S_Frame) (r : List S_Frame) (ph a lf : Int) (b : S_Backoff) (s : Bool) {d : Int} (d0 : 0 ≤ d) (d1 : d ≤ 4294967295) : F_ref09_finish (S_Link.mk (f :: r) ph a b lf) s d = some (startL r d, [S_Outcome.mk f s a]) := by
  unfold F_ref09_finish
  simp only [head_i, tail_p, begin_r r d0 d1, Option.bind_some]
theorem stp_r {l : S_Link} (w : WfL l) {x : S_Slot} (d0 : 0 ≤ x.Draw) (d1 : x.Draw ≤ 4294967295) : F_ref09_Step l x = some (stpS l x) := by
  unfold F_ref09_Step F_ref09_Step_j4 F_ref09_Step_j3 F_ref09_Step_j2 F_ref09_Step_j1 stpS
  rw [valid_r w, Option.bind_some]
  cases hv : linkB l
  · rfl
  have hk := link_ok hv
  rw [rest_l w hk.len]
  simp only [cond_true, Option.bind_some, if_true]
  obtain ⟨q, ph, a, b, lf⟩ := l
  cases q with
  | nil =>
    have := link_nil hv
    simp only [L0, S_Link.mk.injEq, true_and] at this
    obtain ⟨rfl, rfl, rfl, rfl⟩ := this
    rfl
  | cons f r =>
    have eb := rbegin_eq x.Draw d0 d1
    have ef := fun ph a lf b s => finish_r f r ph a lf b s d0 d1
    rcases link_cases hv with ⟨rfl, a0, a3, hb, hbs, rfl⟩ | ⟨rfl, hack, a1, a4, rfl, l1, l3⟩
    · have w1 : IntKind.wrap .i64 (a + 1) = a + 1 := wi (by omega) (by omega)
      simp only [show ((1 : Int) == 1) = true from rfl, cond_true, rstep_eq b x.Busy x.Draw d0 d1, Option.bind_some, w1, head_i, ef, eb, if_true, failL]
      generalize (bk b).step x.Busy x.Draw = B
      by_cases s3 : B.st = 3
      · simp only [sb, s3, show ((3 : Int) == 4) = false from rfl, show ((3 : Int) != 3) = false from rfl, cond_false, if_true]
        cases f.AckRequest <;> rfl
      · have s3' : (B.st != 3) = true := by simp [s3]
        simp only [sb, s3', s3, if_false]
        by_cases s4 : B.st = 4
        · simp only [s4, show ((4 : Int) == 4) = true from rfl, cond_true, if_true]
          by_cases ha : a + 1 > 3 <;> simp only [ha, decide_true, decide_false, cond_true, cond_false, if_true, if_false, sb]
        · have s4' : (B.st == 4) = false := beqF s4
          simp only [s4', s4, cond_false, cond_true, if_false]
    · have w1 : IntKind.wrap .i64 (lf - 1) = lf - 1 := wi (by omega) (by omega)
      simp only [show ((2 : Int) == 1) = false from rfl, show ((2 : Int) == 2) = true from rfl, cond_true, cond_false, Option.bind_some, w1, head_i, ef, eb, failL, show ¬ ((2 : Int) = 1) by omega, if_false]
      cases hA : x.Ack
      · simp only [cond_false, Bool.false_eq_true, false_and, if_false]
        by_cases h1 : lf - 1 = 0
        · simp only [h1, show ((0 : Int) == 0) = true from rfl, cond_true, if_true]
          by_cases ha : a > 3 <;> simp only [ha, decide_true, decide_false, cond_true, cond_false, if_true, if_false, sb]
        · simp only [beqF h1, h1, cond_false, if_false]
      · simp only [cond_true, true_and]
        by_cases hs : x.Seq = f.Seq
        · simp only [hs, BEq.rfl, cond_true, if_true]
        · simp only [beqF hs, hs, cond_false, if_false]
          by_cases h1 : lf - 1 = 0
          · simp only [h1, show ((0 : Int) == 0) = true from rfl, cond_true, if_true]
            by_cases ha : a > 3 <;> simp only [ha, decide_true, decide_false, cond_true, cond_false, if_true, if_false, sb]
          · simp only [beqF h1, h1, cond_false, if_false]
end
section
open Go.RowKit

structure GoodL (l : S_Link) : Prop where
  fr : ∀ f ∈ l.Queue, GoodF f
  len : l.Queue.length ≤ 16
theorem GoodL.wf {l : S_Link} (h : GoodL l) : WfL l := ⟨fun f hf => good_wf (h.fr f hf), by have := h.len; omega⟩
theorem goodL0 : GoodL L0 := ⟨fun f hf => by simp [L0] at hf, by simp [L0]⟩
theorem send_good {f : S_Frame} (w : WfF f) (h : sendB f = true) : GoodF f := good_of w (by
  unfold sendB at h
  simp only [Bool.and_eq_true] at h
  exact h.1)
theorem enq_good {l : S_Link} (w : WfL l) {f : S_Frame} (wf : WfF f) (d : Int) : GoodL (enqS l f d).1 := by
  unfold enqS
  split
  · rename_i h
    obtain ⟨hv, hs⟩ := h
    have hk := link_ok hv
    have gf := send_good wf hs
    have gq : ∀ g ∈ l.Queue, GoodF g := fun g hg => send_good (w.fr g hg) (hk.send g hg)
    split
    · exact goodL0
    · rename_i h16
      have := hk.len
      split
      · exact ⟨fun g hg => by rw [List.mem_singleton.1 hg]; exact gf, by simp⟩
      · refine ⟨fun g hg => ?_, by simp; omega⟩
        rcases List.mem_append.1 hg with h | h
        · exact gq g h
        · rw [List.mem_singleton.1 h]; exact gf
  · exact goodL0
theorem start_good {r : List S_Frame} (h : ∀ f ∈ r, GoodF f) (hl : r.length ≤ 16) (d : Int) : GoodL (startL r d) := by
  unfold startL
  split
  · exact goodL0
  · exact ⟨h, hl⟩
theorem fail_good {f : S_Frame} {r : List S_Frame} (h : ∀ g ∈ f :: r, GoodF g) (hl : (f :: r).length ≤ 16) (n d : Int) : GoodL (failL f r n d).1 ∧ (failL f r n d).2.length ≤ 1 ∧ ∀ o ∈ (failL f r n d).2, GoodF o.Frame := by
  unfold failL
  split
  · exact ⟨start_good (fun g hg => h g (List.mem_cons_of_mem _ hg)) (by simp at hl ⊢; omega) d, by simp, fun o ho => by rw [List.mem_singleton.1 ho]; exact h f List.mem_cons_self⟩
  · exact ⟨⟨h, hl⟩, by simp, fun o ho => by simp at ho⟩
theorem stp_good {l : S_Link} (w : WfL l) (x : S_Slot) : GoodL (stpS l x).1 ∧ (stpS l x).2.2.length ≤ 1 ∧ ∀ o ∈ (stpS l x).2.2, GoodF o.Frame := by
  unfold stpS
  split
  rotate_left
  · exact ⟨goodL0, by simp, fun o ho => by simp at ho⟩
  rename_i hv
  have hk := link_ok hv
  have gq : ∀ g ∈ l.Queue, GoodF g := fun g hg => send_good (w.fr g hg) (hk.send g hg)
  have hlen := hk.len
  obtain ⟨q, ph, a, b, lf⟩ := l
  cases q with
  | nil => exact ⟨⟨gq, hlen⟩, by simp, fun o ho => by simp at ho⟩
  | cons f r =>
    have gr : ∀ g ∈ r, GoodF g := fun g hg => gq g (List.mem_cons_of_mem _ hg)
    have hr : r.length ≤ 16 := by simp at hlen; omega
    have g1 : ∀ n, GoodF (S_Outcome.mk f true n).Frame := fun n => gq f List.mem_cons_self
    dsimp only
    split
    · split
      · split
        · exact ⟨⟨gq, hlen⟩, by simp, fun o ho => by simp at ho⟩
        · exact ⟨start_good gr hr _, by simp, fun o ho => by rw [List.mem_singleton.1 ho]; exact g1 _⟩
      · split
        · exact fail_good gq hlen _ _
        · exact ⟨⟨gq, hlen⟩, by simp, fun o ho => by simp at ho⟩
    · split
      · exact ⟨start_good gr hr _, by simp, fun o ho => by rw [List.mem_singleton.1 ho]; exact g1 _⟩
      · split
        · exact fail_good gq hlen _ _
        · exact ⟨⟨gq, hlen⟩, by simp, fun o ho => by simp at ho⟩
theorem same_l {l : S_Link} (g : GoodL l) : F_ref09_Same l l = some true := by
  have hl := g.len
  unfold F_ref09_Same
  simp only [bne_self_eq_false, cond_false, eqb_self, cond_true]
  rw [loop_every l.Queue (fun _ => true) (by omega) (step := F_ref09_Same_l1 l l) (fun k hk => by
    unfold F_ref09_Same_l1
    rw [decT (show (k : Int) < (l.Queue.length : Int) by omega), idxK hk]
    simp only [cond_true, Option.bind_some, fsame_refl (g.fr _ (List.getElem_mem hk)), if_true]) (by
    unfold F_ref09_Same_l1
    rw [decF (by omega)]
    rfl)]
  simp
theorem same_o {l : List S_Outcome} (g : ∀ o ∈ l, GoodF o.Frame) (hl : l.length ≤ 1) : F_ref09_SameOutcomes l l = some true := by
  unfold F_ref09_SameOutcomes
  simp only [bne_self_eq_false, cond_false]
  rw [loop_every l (fun _ => true) (by omega) (step := F_ref09_SameOutcomes_l1 l l) (fun k hk => by
    unfold F_ref09_SameOutcomes_l1
    rw [decT (show (k : Int) < (l.length : Int) by omega), idxK hk]
    simp only [cond_true, Option.bind_some, fsame_refl (g _ (List.getElem_mem hk)), if_true, BEq.rfl, bne_self_eq_false, cond_false]) (by
    unfold F_ref09_SameOutcomes_l1
    rw [decF (by omega)]
    rfl)]
  simp
theorem samp_eq (s : Int) (a : Bool) : F_law09_sample s a = some (S_Frame.mk 1 a false false s 0 (S_Addr.mk 2 2 0) (S_Addr.mk 2 1 0) 0 0 [] []) := rfl
def samp (s : Int) (a : Bool) : S_Frame := S_Frame.mk 1 a false false s 0 (S_Addr.mk 2 2 0) (S_Addr.mk 2 1 0) 0 0 [] []
theorem samp_good {s : Int} (h : 0 ≤ s ∧ s ≤ 255) (a : Bool) : GoodF (samp s a) := by
  refine good_plain (.inl rfl) h (by omega) (by unfold AdrOk; decide) (by unfold AdrOk; decide) (by unfold bcast; decide) (fun _ => by unfold bcast; decide) okB_nil (by simp)
theorem samp_send {s : Int} (h : 0 ≤ s ∧ s ≤ 255) (a : Bool) : sendB (samp s a) = true := by
  unfold sendB
  rw [valid_good (samp_good h a)]
  rfl
theorem link0 : linkB L0 = true := by simp [linkB, L0, B0, S_Backoff.eqb]
theorem link_back {f : S_Frame} {r : List S_Frame} (hs : ∀ g ∈ f :: r, sendB g = true) (hl : (f :: r).length ≤ 16) {a : Int} (a0 : 0 ≤ a) (a3 : a ≤ 3) {b : Bk} (hb : b.Valid) (hst : b.st = 1 ∨ b.st = 2) : linkB (S_Link.mk (f :: r) 1 a (sb b) 0) = true := by
  have he : endedB b = false := by
    unfold endedB
    refine decide_eq_false ?_
    rintro ⟨_, h⟩
    omega
  have hv : bvB b = true := decide_eq_true hb
  unfold linkB
  dsimp only
  rw [decT hl, List.all_eq_true.2 hs, if_neg (by simp), if_pos rfl, decT a0, decT a3, bk_sb, hv, he]
  rfl
theorem known_true9 : F_law09_known = some true := by
  unfold F_law09_known
  rw [samp_eq, Option.bind_some]
  have hs := samp_send (s := 1) (by omega) false
  have gs := samp_good (s := 1) (by omega) false
  have e1 : enqS L0 (samp 1 false) 0 = (S_Link.mk [samp 1 false] 1 0 (sb ⟨2, 0, 3, 2, 0⟩) 0, 0) := by
    unfold enqS
    rw [if_pos ⟨link0, hs⟩]
    rfl
  have p1 : F_transmit_Enqueue (S_Link.mk [] 0 0 (S_Backoff.mk 0 0 0 0 0) 0) (S_Frame.mk 1 false false false 1 0 (S_Addr.mk 2 2 0) (S_Addr.mk 2 1 0) 0 0 [] []) 0 = some (S_Link.mk [samp 1 false] 1 0 (sb ⟨2, 0, 3, 2, 0⟩) 0, 0) := by
    rw [← e1]
    exact enq_p goodL0.wf (good_wf gs) (by omega) (by omega)
  rw [p1, Option.bind_some]
  have all1 : ∀ g ∈ [samp 1 false], sendB g = true := fun g hg => by rw [List.mem_singleton.1 hg]; exact hs
  have w1 : ∀ b, WfL (S_Link.mk [samp 1 false] 1 0 b 0) := fun b => ⟨fun g hg => by rw [List.mem_singleton.1 hg]; exact good_wf gs, by simp⟩
  have v1 := link_back all1 (by simp) (a := 0) (by omega) (by omega) (b := ⟨2, 0, 3, 2, 0⟩) (by decide) (by decide)
  have v2 := link_back all1 (by simp) (a := 0) (by omega) (by omega) (b := ⟨2, 0, 3, 1, 0⟩) (by decide) (by decide)
  have s1 : stpS (S_Link.mk [samp 1 false] 1 0 (sb ⟨2, 0, 3, 2, 0⟩) 0) (S_Slot.mk false false 0 0) = (S_Link.mk [samp 1 false] 1 0 (sb ⟨2, 0, 3, 1, 0⟩) 0, false, []) := by
    unfold stpS
    rw [if_pos v1]
    rfl
  have s2 : stpS (S_Link.mk [samp 1 false] 1 0 (sb ⟨2, 0, 3, 1, 0⟩) 0) (S_Slot.mk false false 0 0) = (L0, true, [S_Outcome.mk (samp 1 false) true 1]) := by
    unfold stpS
    rw [if_pos v2]
    rfl
  rw [stp_p (w1 _) (by simp) (by simp), s1, Option.bind_some, stp_p (w1 _) (by simp) (by simp), s2]
  rfl
theorem slot_eq (v : Int) : ∃ x, F_law09_slot v = some x ∧ 0 ≤ x.Draw ∧ x.Draw ≤ 4294967295 := by
  unfold F_law09_slot
  refine ⟨_, rfl, ?_, ?_⟩ <;> (dsimp only; rw [wrap32]; omega)
theorem plays_j {x : S_Slot} (x0 : 0 ≤ x.Draw) (x1 : x.Draw ≤ 4294967295) (s : Int × S_multihopmade_Tape × S_Link) (v : S_multihopmade_Tape × S_Link) (g : GoodL v.2) : F_law09_TransmitPlays_j2 x s v = some (Sum.inl (IntKind.wrap .i64 (s.1 + 1), v.1, (stpS v.2 x).1)) := by
  unfold F_law09_TransmitPlays_j2
  have sg := stp_good g.wf x
  simp only [stp_p g.wf x0 x1, stp_r g.wf x0 x1, Option.bind_some, BEq.rfl, cond_true, same_l sg.1, same_o sg.2.2 sg.2.1]
theorem plays_law (t sl : List Int) : F_law09_TransmitPlays t sl = some true := by
  unfold F_law09_TransmitPlays
  obtain ⟨k, e1, k1⟩ := new_spec t
  rw [e1, Option.bind_some]
  obtain ⟨r, e2, hr⟩ := loop_inv (step := F_law09_TransmitPlays_l1 sl) (fun s => 0 ≤ s.1 ∧ s.1 ≤ 300 ∧ TapeOk s.2.1 ∧ GoodL s.2.2) (fun r => r = Sum.inl ()) (fun s => (300 - s.1).toNat) (fun s ⟨i0, i1, ht, g⟩ => by
    unfold F_law09_TransmitPlays_l1
    by_cases h1 : s.1 < (sl.length : Int)
    rotate_left
    · right; rw [decF h1]; exact ⟨_, rfl, rfl⟩
    by_cases h2 : s.1 < 300
    rotate_left
    · right; rw [decT h1, decF h2]; exact ⟨_, rfl, rfl⟩
    left
    obtain ⟨x, ex, x0, x1⟩ := slot_eq (sl[s.1.toNat]'(by omega))
    rw [decT h1, decT h2, idx_int i0 (by omega)]
    simp only [cond_true, Option.bind_some, ex]
    have w1 : IntKind.wrap .i64 (s.1 + 1) = s.1 + 1 := wi (by omega) (by omega)
    cases h11 : (Int.tmod (sl[s.1.toNat]'(by omega)) 11 == 0)
    · simp only [cond_false]
      rw [plays_j x0 x1 s (s.2.1, s.2.2) g, w1]
      exact ⟨_, rfl, ⟨by dsimp only; omega, by dsimp only; omega, ht, (stp_good g.wf x).1⟩, by dsimp only; omega⟩
    · simp only [cond_true]
      obtain ⟨f, t2, e3, gf, _, _, _, k3⟩ := frame_spec ht 2 (by omega)
      have e3' : F_made_Tape_Frame s.2.1 2 = some (f, t2) := e3
      rw [e3', Option.bind_some]
      have wf := good_wf gf
      have hs := wf.seq
      have wg : WfF (S_Frame.mk f.Kind f.AckRequest f.Pending f.Secure (Int.tmod f.Seq 4) f.Pan f.Dst f.Src f.Counter f.Key f.Payload f.MIC) :=
        ⟨by dsimp only; rw [Int.tmod_eq_emod_of_nonneg hs.1]; omega, wf.pan, wf.dst, wf.src, wf.cnt, wf.key, wf.pay, wf.payl, wf.mic, wf.micl⟩
      have ge := enq_good g.wf wg x.Draw
      simp only [enq_p g.wf wg x0 x1, enq_r g.wf wg x0 x1, Option.bind_some, bne_self_eq_false, cond_false, same_l ge, cond_true]
      cases h0 : ((enqS s.2.2 (S_Frame.mk f.Kind f.AckRequest f.Pending f.Secure (Int.tmod f.Seq 4) f.Pan f.Dst f.Src f.Counter f.Key f.Payload f.MIC) x.Draw).2 == 0)
      · simp only [cond_false]
        rw [plays_j x0 x1 s (t2, s.2.2) g, w1]
        exact ⟨_, rfl, ⟨by dsimp only; omega, by dsimp only; omega, k3, (stp_good g.wf x).1⟩, by dsimp only; omega⟩
      · simp only [cond_true]
        rw [plays_j x0 x1 s (t2, _) ge, w1]
        exact ⟨_, rfl, ⟨by dsimp only; omega, by dsimp only; omega, k3, (stp_good ge.wf x).1⟩, by dsimp only; omega⟩) (0, k, L0) ⟨by simp, by simp, k1, goodL0⟩
  have e2' : loopO (F_law09_TransmitPlays_l1 sl) (0, k, S_Link.mk [] 0 0 (S_Backoff.mk 0 0 0 0 0) 0) = some r := e2
  rw [e2', hr, Option.bind_some, Sum.elim_inl, known_true9]
  rfl
end
section
open Go.RowKit
theorem transmitPlays_holds : Rows.TransmitPlaysSaid := transmitPlays_of fun t s _ _ => plays_law t s
end
end Go.Proofs.Ytleadcbdbfjefaa
