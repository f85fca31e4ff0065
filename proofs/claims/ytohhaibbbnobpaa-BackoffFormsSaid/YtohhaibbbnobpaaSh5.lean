/-
  SHADOWS: variables that are written; slices that are written out; contracts; calls.
-/
import Derived.Test.YtohhaibbbnobpaaSh4
namespace Go.Proofs.Ytohhaibbbnobpaa
open Go.RowKit

/-! ### a variable is written -/
def St.setBox (s : St) (d : Nat) (cs : List SC) : St := { s with hp := { s.hp with boxes := (d, cs) :: drop1 s.hp.boxes d } }
def over (cs : List SC) (off : Nat) (ds : List SC) : List SC := cs.take off ++ ds ++ cs.drop (off + ds.length)
theorem over_length {cs ds : List SC} {off : Nat} (h : off + ds.length ≤ cs.length) : (over cs off ds).length = cs.length := by
  simp [over]; omega
theorem over_get {cs ds : List SC} {off : Nat} (h : off + ds.length ≤ cs.length) (j : Nat) : (over cs off ds)[j]? = if off ≤ j ∧ j < off + ds.length then ds[j - off]? else cs[j]? := by
  unfold over
  rw [List.append_assoc, List.getElem?_append]
  simp only [List.length_take, Nat.min_eq_left (by omega : off ≤ cs.length)]
  by_cases h1 : j < off
  · rw [if_pos h1, List.getElem?_take, if_pos h1, if_neg (by omega)]
  · rw [if_neg h1, List.getElem?_append]
    by_cases h2 : j - off < ds.length
    · rw [if_pos h2, if_pos (by omega)]
    · rw [if_neg h2, List.getElem?_drop, if_neg (by omega)]
      congr 1
      omega
theorem look_setBox (s : St) (d : Nat) (cs : List SC) (e : Nat) : look (s.setBox d cs).hp.boxes e = if d = e then some cs else look s.hp.boxes e := by
  simp only [St.setBox, look_cons, look_drop1]
  by_cases h : d = e
  · simp [h]
  · simp [h, Ne.symm h]

theorem RG.store {K : Ctx} {g : Env} {n : Nat} {a : Act} {w : World} {s : St} (h : RG K g n a w s) {d off : Nat} {cs ds : List SC} (hl : look s.hp.boxes d = some cs) (hsz : off + ds.length ≤ cs.length) {vs : Array Value} (hv : CsRel (rdOf K g s.hp w) g vs ds) :
    RG K g n a (w.setCells (g.pos d).1 ((g.pos d).2 + off) vs.toList) (s.setBox d (over cs off ds)) := by
  have hlen : vs.toList.length = ds.length := by simpa using hv.1
  have hex : ∀ b o, Ex g (s.setBox d (over cs off ds)).hp b o → Ex g s.hp b o := by
    rintro b o (⟨e, cs', h1, h2, h3, h4⟩ | k)
    · rw [look_setBox] at h1
      by_cases he : d = e
      · subst he
        rw [if_pos rfl] at h1
        cases h1
        rw [over_length hsz] at h4
        exact .inl ⟨d, cs, hl, h2, h3, h4⟩
      · rw [if_neg he] at h1
        exact .inl ⟨e, cs', h1, h2, h3, h4⟩
    · exact .inr k
  have hin : ∀ o, (g.pos d).2 + off ≤ o → o < (g.pos d).2 + off + ds.length → Ex g s.hp (g.pos d).1 o := fun o h1 h2 => .inl ⟨d, cs, hl, rfl, by omega, by omega⟩
  have hout : ∀ b o, ¬ Ex g s.hp b o → (w.setCells (g.pos d).1 ((g.pos d).2 + off) vs.toList).cell? ⟨b, o, none⟩ = w.cell? ⟨b, o, none⟩ := by
    intro b o hx
    refine World.cell?_setCells_out _ _ _ _ _ (fun hb _ => ?_)
    simp only at hb ⊢
    subst hb
    rw [hlen]
    rcases Nat.lt_or_ge o ((g.pos d).2 + off) with h1 | h1
    · exact .inl h1
    · rcases Nat.lt_or_ge o ((g.pos d).2 + off + ds.length) with h2 | h2
      · exact absurd (hin o h1 h2) hx
      · exact .inr h2
  have hle : (rdOf K g s.hp w).le (rdOf K g (s.setBox d (over cs off ds)).hp (w.setCells (g.pos d).1 ((g.pos d).2 + off) vs.toList)) := by
    intro b o v hvv
    unfold rdOf at *
    split at hvv
    · cases hvv
    · rename_i hx
      rw [if_neg (fun k => hx (hex b o k))]
      split at hvv
      · rename_i hb; rw [if_pos hb]; exact hvv
      · rename_i hb
        rw [if_neg hb, hout b o hx]
        exact hvv
  have hthere : ∀ j, j < vs.toList.length → (w.cell? ⟨(g.pos d).1, (g.pos d).2 + off + j, none⟩).isSome = true := fun j hj => by
    rw [hlen] at hj
    obtain ⟨u, k1, _⟩ := h.hg.box d cs hl (off + j) cs[off + j] (List.getElem?_eq_getElem (by omega))
    rw [← Nat.add_assoc] at k1
    rw [k1]; rfl
  refine ⟨h.defers, h.size, ?_, fun t x hx => let ⟨u, h1, h2⟩ := h.tmps t x hx; ⟨u, h1, h2.mono hle⟩⟩
  refine ⟨?_, ?_, ?_, ?_, ?_, ?_, ?_, h.hg.fix⟩
  · refine h.hg.keep.trans (Keep.setCells _ _ _ _) (fun b o hb k => ?_)
    obtain ⟨rfl, k1, k2⟩ := k
    rw [hlen] at k2
    have := h.hg.may d cs hl (o - (g.pos d).2) (by omega) hb
    rwa [show (g.pos d).2 + (o - (g.pos d).2) = o by omega] at this
  · intro e cs' hl' j y hy
    rw [look_setBox] at hl'
    by_cases he : d = e
    · subst he
      rw [if_pos rfl] at hl'
      cases hl'
      rw [over_get hsz] at hy
      by_cases hj : off ≤ j ∧ j < off + ds.length
      · rw [if_pos hj] at hy
        obtain ⟨u, h1, h2⟩ := hv.2 _ y hy
        have hjl : j - off < vs.toList.length := by omega
        have := World.cell?_setCells_in (g.pos d).1 vs.toList ((g.pos d).2 + off) w hthere (j - off) hjl
        rw [show (g.pos d).2 + off + (j - off) = (g.pos d).2 + j by omega] at this
        refine ⟨u, ?_, ?_, h2.mono hle⟩
        · rw [this]
          rw [← List.getElem?_eq_getElem hjl]
          simpa using h1
        · rw [World.frozen?_setCells]
          obtain ⟨u', _, k2, _⟩ := h.hg.box d cs hl j cs[j] (List.getElem?_eq_getElem (by omega))
          exact k2
      · rw [if_neg hj] at hy
        obtain ⟨u, h1, h2, h3⟩ := h.hg.box d cs hl j y hy
        refine ⟨u, ?_, by rw [World.frozen?_setCells]; exact h2, h3.mono hle⟩
        rw [World.cell?_setCells_out _ _ _ _ _ (fun _ _ => by rw [hlen]; simp only; omega)]
        exact h1
    · rw [if_neg he] at hl'
      obtain ⟨u, h1, h2, h3⟩ := h.hg.box e cs' hl' j y hy
      refine ⟨u, ?_, by rw [World.frozen?_setCells]; exact h2, h3.mono hle⟩
      rw [World.cell?_setCells_out _ _ _ _ _ (fun hb _ => ?_)]
      · exact h1
      · simp only at hb ⊢
        rw [hlen]
        have hjl := (List.getElem?_eq_some_iff.1 hy).1
        rcases Nat.lt_or_ge ((g.pos e).2 + j) ((g.pos d).2 + off) with k1 | k1
        · exact .inl k1
        · rcases Nat.lt_or_ge ((g.pos e).2 + j) ((g.pos d).2 + off + ds.length) with k2 | k2
          · exact absurd rfl (h.hg.dis e d cs' cs (Ne.symm he) hl' hl j ((g.pos e).2 + j - (g.pos d).2) hjl (by omega) hb |> fun k => by
              rw [show (g.pos d).2 + ((g.pos e).2 + j - (g.pos d).2) = (g.pos e).2 + j by omega] at k
              exact k)
          · exact .inr k2
  · intro e cs' hl' j hj hb
    rw [look_setBox] at hl'
    by_cases he : d = e
    · subst he
      rw [if_pos rfl] at hl'
      cases hl'
      rw [over_length hsz] at hj
      exact h.hg.may d cs hl j hj hb
    · rw [if_neg he] at hl'
      exact h.hg.may e cs' hl' j hj hb
  · have len : ∀ e cs', look (s.setBox d (over cs off ds)).hp.boxes e = some cs' → ∃ cs0, look s.hp.boxes e = some cs0 ∧ cs0.length = cs'.length := by
      intro e cs' hl'
      rw [look_setBox] at hl'
      by_cases he : d = e
      · subst he
        rw [if_pos rfl] at hl'
        cases hl'
        exact ⟨cs, hl, (over_length hsz).symm⟩
      · rw [if_neg he] at hl'
        exact ⟨cs', hl', rfl⟩
    intro d1 d2 cs1 cs2 hne h1 h2 j j' hj hj'
    obtain ⟨c1, k1, e1⟩ := len d1 cs1 h1
    obtain ⟨c2, k2, e2⟩ := len d2 cs2 h2
    exact h.hg.dis d1 d2 c1 c2 hne k1 k2 j j' (by omega) (by omega)
  · intro t e sz xs ht
    obtain ⟨us, hu⟩ := h.hg.tok t e sz xs ht
    have hks := Keep.setCells (g.pos d).1 vs.toList ((g.pos d).2 + off) w
    by_cases hz : ds.length = 0
    · have : vs.toList = [] := List.eq_nil_of_length_eq_zero (by omega)
      rw [this]
      exact ⟨us, hu⟩
    · refine ⟨us, hu.kept (row := some (g.pos d).1) ⟨hks.os, hks.tape, hks.output, hks.size, fun k hk hne => ?_⟩ (.inr (h.hg.tbox t _ d cs ht hl (by omega)))⟩
      rcases hks.block k hk with e | ⟨c, c', e, f, h1, h2, h3, h4⟩
      · exact e
      · rw [h1, h2]
        congr 2
        exact Array.ext_getElem? (fun j => h4 j (fun x => hne (by rw [x.1])))
  · exact h.hg.tdis
  · intro t x e cs' ht hl' hpos
    rw [look_setBox] at hl'
    by_cases he : d = e
    · subst he
      rw [if_pos rfl] at hl'
      cases hl'
      rw [over_length hsz] at hpos
      exact h.hg.tbox t x d cs ht hl hpos
    · rw [if_neg he] at hl'
      exact h.hg.tbox t x e cs' ht hl' hpos

def SC.one : SC → Bool
  | .lit (.agg _) => false
  | .lit (.tuple _) => false
  | _ => true
theorem one_cell {rd : Rd} {g : Env} {u : Value} {x : SC} (h : CRel rd g u x) (h1 : x.one = true) : u.oneCell' = true := by
  cases x <;> simp only [CRel] at h
  case lit v => cases h; cases u <;> simp_all [SC.one, Value.oneCell']
  case slc => cases h.1 <;> rfl
  case ref => cases h; rfl
  case box => subst h; rfl
  case bsl => rw [h.1]; rfl

theorem TL_store {P : Program} {K : Ctx} {n : Nat} {ops : Array Oper} {l : List Oper} {o : Oper} {s : St} {Q : Exit → St → Prop} {t : TypeId} {p x : Operand} {v : SV} (d off : Nat) (cs ds : List SC) (ho : o.op = .store t p x) (hdst : o.dst = none) (hgd : guardOf ops o s = some true)
    (hp : opd s p = some (.c (.box d off))) (hx : opd s x = some v) (hc : cellsOf v = some ds) (hl : look s.hp.boxes d = some cs) (hi : (P.info? t).map (·.size) = some ds.length) (h1 : ds.all SC.one = true) (hsz : decide (off + ds.length ≤ cs.length) = true)
    (h : TL P K n ops l (s.setBox d (over cs off ds)) Q) : TL P K n ops (o :: l) s Q := by
  refine TL_step hgd fun g a w r K' hK => ?_
  have hv := rel_cells (r.view.opd hx) hc
  have hpp := r.view.opd hp
  simp only [VRel, CRel] at hpp
  obtain ⟨i, hi', hsize⟩ := Option.map_eq_some_iff.1 hi
  have hsz' := of_decide_eq_true hsz
  have hlen : (a.eval x).cells.toList.length = ds.length := by simpa using hv.1
  have hst := run_storeCells_cells (P := P) (g.pos d).1 ((g.pos d).2 + off) (a.eval x).cells.toList 0 w
    (fun j hj => by
      obtain ⟨u, k1, _⟩ := r.hg.box d cs hl (off + j) cs[off + j] (List.getElem?_eq_getElem (by omega))
      rw [← Nat.add_assoc] at k1
      rw [Nat.add_zero, k1]; rfl)
    (fun j hj => by
      obtain ⟨u, _, k2, _⟩ := r.hg.box d cs hl (off + j) cs[off + j] (List.getElem?_eq_getElem (by omega))
      rw [← Nat.add_assoc] at k2
      rw [Nat.add_zero]; exact k2)
    (fun u hu => by
      obtain ⟨j, hj, rfl⟩ := List.getElem_of_mem hu
      obtain ⟨u', k1, k2⟩ := hv.2 j ds[j] (List.getElem?_eq_getElem (by omega))
      have : u' = (a.eval x).cells.toList[j] := by
        have : (a.eval x).cells.toList[j]? = some u' := by simpa using k1
        rw [List.getElem?_eq_getElem hj] at this
        exact (Option.some.inj this).symm
      rw [← this]
      exact one_cell k2 (List.all_eq_true.1 h1 _ (List.getElem_mem _)))
  rw [Nat.add_zero] at hst
  unfold Oper.wp
  have hsz2 : (a.eval x).cells.size = i.size := by rw [hsize]; exact hv.1
  simp only [execOp, ho, Instr.storeAt, Instr.sureAddr, hpp, storeVar, sizeOf, typeInfo, program, hi', hsz2, ne_eq, not_true_eq_false, if_false, Sem.run_bind, Sem.run_pure, Sem.run, Result.andThen_ok, hst, Oper.upon, hdst]
  exact hK _ _ (h _ _ ⟨g, r.store hl hsz' hv⟩)
end Go.Proofs.Ytohhaibbbnobpaa
