/-
  A contract for a function that is handed a row with the spare room behind it, and hands it back grown.
-/
import Derived.Test.YtbncbjblbdjddaaV25
namespace Go.Proofs.Ytbncbjblbdjddaa
open Go.RowKit

def SC.renG (d : Nat) : SC → SC
  | .slc s tag n xs => .slc s (if tag = 1000003 then d + 2 else tag) n xs
  | x => x
def SC.okG : SC → Bool
  | .slc s tag n xs => tag == 1000003 || (SC.slc s tag n xs).closed
  | x => x.closed
theorem okG_cases {x : SC} (h : x.okG = true) : (∃ s n xs, x = .slc s 1000003 n xs) ∨ (x.closed = true ∧ ∀ d, x.renG d = x) := by
  cases x with
  | slc s tag n xs =>
    by_cases ht : tag = 1000003
    · subst ht; exact .inl ⟨s, n, xs, rfl⟩
    · exact .inr ⟨by simpa [SC.okG, ht] using h, fun d => by simp [SC.renG, ht]⟩
  | _ => exact .inr ⟨h, fun d => rfl⟩
/-- the function, called with a row and the room behind it, returns this, and leaves the row so long -/
def ConG (P : Program) (f : FuncId) (args : List SV) (el sz N : Nat) (r : SV) (N' : Nat) : Prop :=
  ∀ (rd : Rd) (g : Env) (w : World) (us : Array Value), (∀ b o v, rd b o = some v → w.cell? ⟨b, o, none⟩ = some v) → us.size = args.length → (∀ (i : Nat) (x : SV), args[i]? = some x → ∃ u, us[i]? = some u ∧ VRel rd g u x) →
    Holds rd g w 1000001 (.spare el sz N) → (∀ b o, Foot g 1000001 (.spare el sz N) b o → rd b o = none) →
    Calls P f us w fun e w' => ∃ u g', e = .returned u ∧ Keep w (Foot g 1000001 (.spare el sz N)) w' ∧ (∀ b o, Foot g' 1000001 (.spare el sz N') b o → Foot g 1000001 (.spare el sz N) b o ∨ w.heap.size ≤ b) ∧ ((g'.tk 1000001).2 = (g.tk 1000001).2 ∨ vlen (g.tk 1000001).2 < vlen (g'.tk 1000001).2) ∧
      ∀ rd', rd.le rd' → SeesX w (Foot g 1000001 (.spare el sz N)) rd' w' (Foot g' 1000001 (.spare el sz N')) → VRel rd' g' u r ∧ Holds rd' g' w' 1000001 (.spare el sz N')
theorem infoot_one {g : Env} {d : Nat} {r : Res} {b o : Nat} : InFoot g [(d, r)] b o ↔ Foot g d r b o := by
  constructor
  · rintro ⟨e, x, h1, h2⟩
    rw [look_cons] at h1
    split at h1
    · rename_i h; subst h; cases h1; exact h2
    · simp [look] at h1
  · intro h
    exact ⟨d, r, by rw [look_cons, if_pos rfl], h⟩
theorem look_app_none {α : Type} : ∀ (l l' : List (Nat × α)) (t : Nat), look l t = none → look (l ++ l') t = look l' t
  | [], _, _, _ => rfl
  | (k, x) :: l, l', t, h => by
    rw [List.cons_append, look_cons]
    rw [look_cons] at h
    split at h
    · cases h
    · rename_i hk; rw [if_neg hk]; exact look_app_none l l' t h
/-- where the row waits -/
def ghostOf (sz N : Nat) (xs : List (List SC)) : List (Nat × SV) := [(2000000, .c (.slc sz 1000003 N xs))]
def retG (P : Program) (fn : Func) (kss : List (List Nat)) (el sz N : Nat) (r : SV) (N' : Nat) : Exit → St → Prop
  | .normal, s => (∃ xs, resL P s kss fn.results.toList = some xs ∧ resV xs = some r) ∧ look s.hp 1000001 = some (.spare el sz N') ∧ ∃ sz1 xs, look s.tmps 2000000 = some (.c (.slc sz1 1000003 N xs))
  | .ret, s => (∃ xs, resL P s kss fn.results.toList = some xs ∧ resV xs = some r) ∧ look s.hp 1000001 = some (.spare el sz N') ∧ ∃ sz1 xs, look s.tmps 2000000 = some (.c (.slc sz1 1000003 N xs))
  | _, _ => False
theorem vlen_spare {rd : Rd} {g : Env} {w : World} {d e s n : Nat} (h : Holds rd g w d (.spare e s n)) : vlen (g.tk d).2 = n := by
  obtain ⟨us, h1⟩ := h
  obtain ⟨_, _, _, _, _, h2, _⟩ := tk_sliceM h1
  exact h2

theorem con_ofG {P : Program} {f : FuncId} {fn : Func} {c : Code} {args : List SV} {el sz N N' : Nat} {xs0 : List (List SC)} {r : SV} (kss : List (List Nat)) (n i : Nat) (hf : P.funcs[f]? = some fn) (hb : fn.body = some c) (hn : fn.ntmps = n) (hl : decide (args.length ≤ n ∧ n ≤ 2000000) = true) (hi : args[i]? = some (.c (.slc sz 1000003 N xs0)))
    (ht : ∀ K, TS P K n (.mk [.code c] .normal ⟨initT 0 args ++ ghostOf sz N xs0, [(1000001, .spare el sz N)]⟩) (retG P fn kss el sz N r N')) : ConG P f args el sz N r N' := by
  intro rd g w us hrd hus hargs hhold hnot
  obtain ⟨hl', hfew⟩ := of_decide_eq_true hl
  have hvN := vlen_spare hhold
  let h : Hp := [(1000001, .spare el sz N)]
  let K : Ctx := ⟨w, InFoot g h, rd, g.pos, fun j => if j = 0 then some (g.tk 1000001).2 else none, fun b o v hv => ⟨hrd b o v hv, fun x => by rw [hnot b o (infoot_one.1 x)] at hv; cases hv⟩⟩
  have hrdle : rd.le (rdOf K g h w) := by
    intro b o v hv
    unfold rdOf
    rw [if_neg (fun x => by rw [hnot b o (infoot_one.1 x)] at hv; cases hv), if_pos ⟨World.block_lt_of_cell? w _ (hrd b o v hv), fun x => by rw [hnot b o (infoot_one.1 x)] at hv; cases hv⟩]
    exact hv
  have hlk : ∀ d x, look h d = some x → d = 1000001 ∧ x = .spare el sz N := by
    intro d x hx
    rw [look_cons] at hx
    split at hx
    · rename_i hd; cases hx; exact ⟨hd.symm, rfl⟩
    · simp [look] at hx
  have hgh : VRel (rdOf K g h w) g (g.tk 1000001).2 (.c (.slc sz 1000003 N xs0)) := by
    obtain ⟨u, q1, q2⟩ := hargs i _ hi
    have q3 := q2.mono hrdle
    obtain ⟨q4, q5⟩ := q3
    have hu : u = (g.tk 1000001).2 := q5.2 hvN.symm
    rw [← hu]
    exact q2.mono hrdle
  have hR : RG K g n { tmps := us ++ Array.replicate (fn.ntmps - us.size) undef, defers := [] } w ⟨initT 0 args ++ ghostOf sz N xs0, h⟩ := by
    refine ⟨rfl, by simp; omega, hfew, ⟨Keep.refl _ _, fun d x hx => ?_, fun b o x _ => x, fun d d' r r' b o hne h1 h2 => absurd ((hlk d r h1).1.trans (hlk d' r' h2).1.symm) hne, fun d cs _ hx => (by cases (hlk d _ hx).2), fun d r hd _ b o hf => .inr ⟨d, r, hd, hf⟩⟩, fun t v hv => ?_⟩
    · obtain ⟨rfl, rfl⟩ := hlk d x hx
      exact hhold.mono hrdle
    · rcases look_append _ _ _ _ hv with hv1 | hv1
      · obtain ⟨_, h2⟩ := look_initT args 0 t v hv1
        obtain ⟨u, h3, h4⟩ := hargs (t - 0) v h2
        simp only [Nat.sub_zero] at h3
        refine ⟨u, ?_, h4.mono hrdle⟩
        have htn := (Array.getElem?_eq_some_iff.1 h3).1
        rw [slotAt, if_pos (by omega)]
        rw [Array.getElem?_append_left (Array.getElem?_eq_some_iff.1 h3).1]
        exact h3
      · simp only [ghostOf, look_cons] at hv1
        split at hv1
        · rename_i ht
          obtain rfl := Option.some.inj hv1
          refine ⟨_, ?_, hgh⟩
          rw [← ht, slotAt, if_neg (by omega)]
          simp [K]
        · simp [look] at hv1
  refine calls_of_wp hf hb (wp_mono (ht K _ w ⟨g, hR⟩) fun e a' w' hq => ?_)
  obtain ⟨s', ⟨g', r'⟩, q⟩ := hq
  have fin : ((∃ xs, resL P s' kss fn.results.toList = some xs ∧ resV xs = some r) ∧ look s'.hp 1000001 = some (.spare el sz N') ∧ ∃ sz1 xs, look s'.tmps 2000000 = some (.c (.slc sz1 1000003 N xs))) → a'.defers = [] ∧ ∃ v, (results fn a'.tmps).run P w' = .ok v w' ∧ ∃ u g', Ending.returned v = .returned u ∧ Keep w (Foot g 1000001 (.spare el sz N)) w' ∧ (∀ b o, Foot g' 1000001 (.spare el sz N') b o → Foot g 1000001 (.spare el sz N) b o ∨ w.heap.size ≤ b) ∧ ((g'.tk 1000001).2 = (g.tk 1000001).2 ∨ vlen (g.tk 1000001).2 < vlen (g'.tk 1000001).2) ∧
      ∀ rd', rd.le rd' → SeesX w (Foot g 1000001 (.spare el sz N)) rd' w' (Foot g' 1000001 (.spare el sz N')) → VRel rd' g' u r ∧ Holds rd' g' w' 1000001 (.spare el sz N') := by
    rintro ⟨⟨xs, h1, h2⟩, h3, sz1, xs1, h6⟩
    obtain ⟨u, h4, h5⟩ := run_results r'.view h1 h2
    have hin : ∀ b o, Foot g' 1000001 (.spare el sz N') b o → InFoot g' s'.hp b o := fun b o x => ⟨_, _, h3, x⟩
    obtain ⟨V, q1, q2⟩ := r'.tmps _ _ h6
    have hV : V = (g.tk 1000001).2 := by
      rw [slotAt, if_neg (by omega)] at q1
      simpa [K] using q1.symm
    obtain ⟨_, q4⟩ := q2
    have q5 : N ≤ vlen (g'.tk 1000001).2 := q4.1
    have q6 : N = vlen (g'.tk 1000001).2 → V = (g'.tk 1000001).2 := q4.2
    refine ⟨r'.defers, u, h4, u, g', rfl, r'.hg.keep.weak (fun b o x => infoot_one.1 x), ?_, ?_, ?_⟩
    · intro b o hx
      rcases Nat.lt_or_ge b w.heap.size with hb' | hb'
      · exact .inl (infoot_one.1 (r'.hg.may b o (hin b o hx) hb'))
      · exact .inr hb'
    · by_cases hN : N = vlen (g'.tk 1000001).2
      · left; rw [← hV]; exact (q6 hN).symm
      · right; rw [hvN]; omega
    · intro rd' hle hs
      have hle' : (rdOf K g' s'.hp w').le rd' := by
        intro b o v hv
        have hcell := rdOf_le g' s'.hp r'.hg.keep b o v hv
        unfold rdOf at hv
        split at hv
        · cases hv
        · rename_i hx
          split at hv
          · exact hle b o v hv
          · rename_i hbb
            refine hs b o v ?_ (fun q => hx (hin b o q)) hcell
            rcases Nat.lt_or_ge b w.heap.size with h6 | h6
            · exact .inr (infoot_one.1 (Classical.byContradiction fun h7 => hbb ⟨h6, h7⟩))
            · exact .inl h6
      exact ⟨h5.mono hle', (r'.hg.holds _ _ h3).mono hle'⟩
  cases e <;> simp only [QS, retG] at q <;> simp only [bodyPost]
  case normal => exact fin q
  case ret => exact fin q
theorem TS_retG {P : Program} {K : Ctx} {n : Nat} {C : Cfg} {fn : Func} {kss : List (List Nat)} {el sz N sz1 : Nat} {xs1 : List (List SC)} {r : SV} {N' : Nat} (he : C.fin = true) (h : (resL P C.st kss fn.results.toList).bind resV = some r) (hh : look C.st.hp 1000001 = some (.spare el sz N')) (hgh : look C.st.tmps 2000000 = some (.c (.slc sz1 1000003 N xs1))) : TS P K n C (retG P fn kss el sz N r N') := by
  obtain ⟨xs, h1, h2⟩ := Option.bind_eq_some_iff.1 h
  unfold Cfg.fin at he
  split at he
  · exact ⟨⟨xs, h1, h2⟩, hh, sz1, xs1, hgh⟩
  · exact ⟨⟨xs, h1, h2⟩, hh, sz1, xs1, hgh⟩
  · cases he

/-! ### the call -/
section
variable {P : Program} {K : Ctx} {n : Nat} {Q : Exit → St → Prop} {C : Cfg} {D : Dr} {ops : Array Oper} {o : Oper} {need : St}
theorem renG_rel {rd : Rd} {g : Env} {d : Nat} {v : Value} {x : SC} (hx : x.okG = true) (h : CRel rd g v (x.renG d)) : CRel rd (g.setTk 1000001 (g.tk d) (0, 0)) v x := by
  rcases okG_cases hx with ⟨s, m, xs, rfl⟩ | ⟨h1, h2⟩
  · have h' : CRel rd g v (.slc s (d + 2) m xs) := by simpa [SC.renG] using h
    obtain ⟨h1, h2⟩ := h'
    refine ⟨h1, ?_⟩
    simp only [Tag, Env.setTk, if_true] at h2 ⊢
    exact h2
  · rw [h2] at h
    exact closed_rel v x h1 h
theorem renG_rel' {rd : Rd} {g g' : Env} {d : Nat} (he : (g.tk d).2 = (g'.tk 1000001).2) {v : Value} {x : SC} (hx : x.okG = true) (h : CRel rd g' v x) : CRel rd g v (x.renG d) := by
  rcases okG_cases hx with ⟨s, m, xs, rfl⟩ | ⟨h1, h2⟩
  · obtain ⟨h1, h2⟩ := h
    have h' : CRel rd g v (.slc s (d + 2) m xs) := by
      refine ⟨h1, ?_⟩
      simp only [Tag, he] at h2 ⊢
      exact h2
    simpa [SC.renG] using h'
  · rw [h2]
    exact closed_rel v x h1 h
theorem vd_conG {f : FuncId} {vs A : List SV} {r : SV} {d el sz N N' : Nat} (kss : List (List Nat)) (hgd : guardOf ops o need = some true) (hd : dstOk n o = true) (hc : calleeOf need o = some (f, vs)) (hb : hasBody P f = true) (hargs : castArgs kss vs = A.map (SV.map (SC.renG d))) (hok : A.all (fun v => v.every SC.okG) = true) (hr : r.every SC.okG = true) (hl : look need.hp d = some (.spare el sz N)) (hp : ConG P f A el sz N r N') :
    VD P n ops o ⟨need, o.dst, r.map (SC.renG d), some (d, .spare el sz N'), false⟩ := by
  intro K s hs _
  refine Stp_mk (hs.guard hgd) fun g a w rg K' Q hK => ?_
  have hview := rg.view.o o
  obtain ⟨us, h1, h2, h3⟩ := callee_spec (hs.callee hc) hb hview
  have hls := hs.h _ _ hl
  have hold := rg.hg.holds d _ hls
  let gc : Env := g.setTk 1000001 (g.tk d) (0, 0)
  have htk : gc.tk 1000001 = g.tk d := by simp [gc, Env.setTk]
  have hfoot : ∀ b o, Foot gc 1000001 (.spare el sz N) b o ↔ Foot g d (.spare el sz N) b o := fun b o => by simp only [Foot, htk]
  have hcalls := hp (rdOf K g s.hp w) gc w us hview.reads (by
    rw [h1]
    have := congrArg List.length hargs
    rw [castArgs_length, List.length_map] at this
    exact this) (fun i y hy => by
    have hy2 : (A.map (SV.map (SC.renG d)))[i]? = some (y.map (SC.renG d)) := by rw [List.getElem?_map, hy]; rfl
    rw [← hargs] at hy2
    obtain ⟨ks, x, hx, hxe⟩ := castArgs_get kss vs i _ hy2
    obtain ⟨u, q1, q2⟩ := h2 i x hx
    have hrel := castV_rel ks q2
    rw [← hxe] at hrel
    refine ⟨u, q1, ?_⟩
    have hyo := List.all_eq_true.1 hok y (List.mem_of_getElem? hy)
    cases y with
    | c x => exact renG_rel (by simpa [SV.every] using hyo) hrel
    | agg cs =>
      obtain ⟨vs', e1, e2, e3⟩ := hrel
      refine ⟨vs', e1, by simpa using e2, fun j y hj => ?_⟩
      obtain ⟨u', k1, k2⟩ := e3 j (y.renG d) (by rw [List.getElem?_map, hj]; rfl)
      exact ⟨u', k1, renG_rel (List.all_eq_true.1 (by simpa [SV.every] using hyo) y (List.mem_of_getElem? hj)) k2⟩
    | tup ts =>
      obtain ⟨vs', e1, e2, e3⟩ := hrel
      refine ⟨vs', e1, by simpa using e2, fun j y hj => ?_⟩
      obtain ⟨u', k1, k2⟩ := e3 j (y.1, y.2.map (SC.renG d)) (by rw [List.getElem?_map, hj]; rfl)
      refine ⟨u', k1, ?_⟩
      have hyo' : (ts.all fun x => x.2.all SC.okG) = true := hyo
      have hall := List.all_eq_true.1 hyo' y (List.mem_of_getElem? hj)
      unfold FRel at k2 ⊢
      simp only at k2
      split at k2
      · rename_i hb; rw [if_pos hb]
        obtain ⟨vs2, m1, m2, m3⟩ := k2
        refine ⟨vs2, m1, by simpa using m2, fun j2 y2 hj2 => ?_⟩
        obtain ⟨u2, k3, k4⟩ := m3 j2 (y2.renG d) (by rw [List.getElem?_map, hj2]; rfl)
        exact ⟨u2, k3, renG_rel (List.all_eq_true.1 hall y2 (List.mem_of_getElem? hj2)) k4⟩
      · rename_i hb; rw [if_neg hb]
        obtain ⟨y2, m1, m2⟩ := k2
        have : ∃ y3, y.2 = [y3] ∧ y2 = y3.renG d := by
          cases hy : y.2 with
          | nil => rw [hy] at m1; cases m1
          | cons y3 t =>
            rw [hy] at m1
            cases t with
            | nil => simp at m1; exact ⟨y3, rfl, m1.symm⟩
            | cons _ _ => simp at m1
        obtain ⟨y3, m3, rfl⟩ := this
        rw [m3] at hall
        exact ⟨y3, m3, renG_rel (by simpa using hall) m2⟩) (by
    obtain ⟨us', q⟩ := hold
    exact ⟨us', by rw [htk]; exact q⟩) (fun b o' x => rdOf_none ⟨d, _, hls, (hfoot b o').1 x⟩)
  unfold Oper.wp
  rw [h3]
  simp only [Oper.upon]
  refine hcalls.mono fun e w' hq => ?_
  obtain ⟨u, g', rfl, hkeep, hin, hgr, hpost⟩ := hq
  simp only
  rw [htk] at hgr
  let g2 : Env := { pos := g.pos, tk := fun e => if e = d then ((g.tk d).1, (g'.tk 1000001).2) else g.tk e }
  have hg2 : g2.tk d = ((g.tk d).1, (g'.tk 1000001).2) := by simp [g2]
  have hgrew : Grew g g2 d := by
    refine ⟨fun _ => rfl, fun e => ?_, fun e he => ?_, ?_⟩
    · simp only [g2]; split
      · rename_i h; subst h; rfl
      · rfl
    · simp only [g2]; rw [if_neg he]
    · rw [hg2]
      rcases hgr with h | h
      · left; rw [h]
      · right; exact h
  have hfoot2 : ∀ b o, Foot g2 d (.spare el sz N') b o ↔ Foot g' 1000001 (.spare el sz N') b o := fun b o => by simp only [Foot, hg2]
  have hk : Keep w (Foot g d (.spare el sz N)) w' := hkeep.weak (fun b o x => (hfoot b o).1 x)
  have hf : ∀ b o, Foot g2 d (.spare el sz N') b o → Foot g d (.spare el sz N) b o ∨ w.heap.size ≤ b := fun b o x => (hin b o ((hfoot2 b o).1 x)).imp (fun q => (hfoot b o).1 q) id
  have key : (rdOf K g s.hp w).le (rdOf K g2 (setL d (.spare el sz N') s.hp) w') → VRel (rdOf K g2 (setL d (.spare el sz N') s.hp) w') g' u r ∧ Holds (rdOf K g2 (setL d (.spare el sz N') s.hp) w') g' w' 1000001 (.spare el sz N') := by
    intro hle
    refine hpost _ hle ?_
    intro b o' u' hb0 hx hcell
    have hlt := World.block_lt_of_cell? w' _ hcell
    have hns : ∀ e x, e ≠ d → look s.hp e = some x → Foot g e x b o' → False := by
      intro e x hne hx2 hfo
      rcases hb0 with h4 | h4
      · have := (rg.hg.holds e x hx2).lt hfo; omega
      · exact rg.hg.dis e d x _ b o' hne hx2 hls hfo ((hfoot b o').1 h4)
    unfold rdOf
    rw [if_neg]
    · split
      · rename_i hb
        exfalso
        rcases hb0 with h4 | h4
        · have := rg.hg.keep.size; omega
        · exact hb.2 (rg.hg.may b o' ⟨d, _, hls, (hfoot b o').1 h4⟩ hb.1)
      · exact hcell
    · rintro ⟨e, x, q1, q2⟩
      rw [look_setL] at q1
      split at q1
      · rename_i he; subst he; cases q1; exact hx ((hfoot2 b o').1 q2)
      · rename_i he
        refine hns e x (Ne.symm he) q1 ?_
        have := foot_env (g := g) (g' := g2) (d := e) ⟨rfl, hgrew.tk e (Ne.symm he)⟩ x
        rw [this] at q2
        exact q2
  obtain ⟨r1, hle⟩ := rg.grow (r := .spare el sz N') hls hgrew hk hf (fun _ q => by cases q) rfl (fun hle => by
    obtain ⟨us', q⟩ := (key hle).2
    exact ⟨us', by rw [hg2]; exact q⟩)
  obtain ⟨hres, _⟩ := key hle
  exact hK _ _ ⟨g2, r1.put o.dst (dstOk_spec hd) (hres.imp (fun v x hx k => renG_rel' (by rw [hg2]) hx k) hr)⟩
theorem TD_conG {f : FuncId} {A : List SV} {r : SV} {el sz N N' : Nat} (d : Nat) (kss : List (List Nat)) (hp : ConG P f A el sz N r N') (hc : D.callee kss = some (f, A.map (SV.map (SC.renG d)))) (hg : (D.go1 n && hasBody P f && A.all (fun v => v.every SC.okG) && r.every SC.okG) = true) (hl : look D.need.hp d = some (.spare el sz N))
    (k : TD P K n (D.push ⟨D.need, D.dst, r.map (SC.renG d), some (d, .spare el sz N'), false⟩) Q) : TD P K n D Q := by
  simp only [Bool.and_eq_true] at hg
  obtain ⟨⟨⟨g1, g2⟩, g3⟩, g4⟩ := hg
  obtain ⟨os, o, ho, h1, h2, h3⟩ := go1D_spec g1
  obtain ⟨vs, h5, h6⟩ := calleeD_op hc ho
  rw [h3] at k
  exact push_ok ho (vd_conG kss h1 h2 h5 g2 h6 g3 g4 hl hp) rfl k
theorem TS_conG {f : FuncId} {A : List SV} {r : SV} {el sz N N' : Nat} (d : Nat) (kss : List (List Nat)) (hp : ConG P f A el sz N r N') (hc : C.callee kss = some (f, A.map (SV.map (SC.renG d)))) (hg : (C.go1 n && hasBody P f && A.all (fun v => v.every SC.okG) && r.every SC.okG) = true) (hl : look C.st.hp d = some (.spare el sz N))
    (k : TS P K n (C.next ((C.st.setR d (.spare el sz N')).put C.dst (r.map (SC.renG d)))) Q) : TS P K n C Q := by
  simp only [Bool.and_eq_true] at hg
  obtain ⟨⟨⟨g1, g2⟩, g3⟩, g4⟩ := hg
  obtain ⟨os, o, ho, h1, h2, h3⟩ := go1_spec g1
  obtain ⟨vs, h5, h6⟩ := callee_op hc ho
  rw [h3] at k
  exact TS_stp ho (vd_conG (need := C.st) kss h1 h2 h5 g2 h6 g3 g4 hl hp K C.st ⟨fun _ _ h => h, fun _ _ h => h⟩ (fun h => by cases h)) k
end

/-! ### a new row in place of the one that was handed in -/
section
variable {P : Program} {K : Ctx} {n : Nat} {Q : Exit → St → Prop} {C : Cfg}
def ghostArgs (s : St) (d2 : Nat) : Option (Nat × Nat × List (List SC) × Nat) := match look s.tmps 2000000, look s.hp d2 with
  | some (.c (.slc sz _ N xs)), some (.spare _ _ N2) => some (sz, N, xs, N2)
  | _, _ => none
theorem TS_ghost (d2 : Nat) {sz N N2 : Nat} {xs : List (List SC)} (hlt : decide (N < N2) = true) (h : ghostArgs C.st d2 = some (sz, N, xs, N2)) (he : C.pre = true) (k : TS P K n (C.withS (C.st.put (some 2000000) (.c (.slc sz (d2 + 2) N xs)))) Q) : TS P K n C Q := by
  unfold ghostArgs at h
  split at h
  · rename_i sz1 tg N1 xs1 e1 s1 N3 h1 h2
    cases h
    have hlt := of_decide_eq_true hlt
    refine TS_state _ (fun a w r => ?_) he k
    obtain ⟨g, r⟩ := r
    have hv := vlen_spare (r.hg.holds _ _ h2)
    refine ⟨g, r.recast h1 (fun u hu => ?_)⟩
    obtain ⟨q1, _⟩ := hu
    exact ⟨q1, by simp only [Tag]; rw [hv]; exact ⟨by omega, fun q => by omega⟩⟩
  · cases h
end
end Go.Proofs.Ytbncbjblbdjddaa
