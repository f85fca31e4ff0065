/-
  StoringPasses: a parent that takes all that a child exports reaches every target that the child reaches, for as long; and after the child is dropped, and this is passed on, it reaches none of them by it. Proved for all tapes.
-/
import Derived.Test.YtonlajdaaljncaaPS6
import Derived.Test.YtonlajdaaljncaaPW
import Derived.Test.YtonlajdaaljncaaLwStoringPasses
namespace Go.Proofs.Ytonlajdaaljncaa
open Go.RowKit

theorem newB_self {s : Int} (h0 : 0 ≤ s) (h1 : s ≤ 255) : newB s s = false := by
  unfold newB F_ref21_Newer
  rw [wi (x := s) (by omega) (by omega)]
  by_cases h : s ≥ 128
  · rw [decT h, decF (show ¬ s > s by omega)]
    rfl
  · rw [decF h, decT (show s < 128 by omega), show s - s = 0 by omega]
    rfl
def upD (d : S_Down) : S_Down := ⟨d.Target, 9, d.Sequence, d.Until⟩
structure Cur (now : Int) (C : List S_Down) : Prop where
  g : GoodD C
  c : ∀ d ∈ C, d.Until > now
theorem up_good {C : List S_Down} (hg : GoodD C) : GoodD (C.map upD) := by
  refine ⟨⟨by rw [List.length_map]; exact hg.v.len, ?_, ?_⟩, ?_⟩
  · intro d hd
    obtain ⟨x, hx, rfl⟩ := List.mem_map.1 hd
    have := hg.v.ok x hx
    unfold okD at this ⊢
    simp only [Bool.and_eq_true] at this
    simp only [upD]
    rw [this.1.1, this.2]
    rfl
  · rw [List.pairwise_map]
    exact hg.v.ord
  · intro d hd
    obtain ⟨x, hx, rfl⟩ := List.mem_map.1 hd
    exact hg.w x hx
theorem upto_until {now u : Int} (hn : isT now = true) (hu : isT u = true) (h : u > now) : upto now (u - now) = u := by
  rw [isT_iff] at hn hu
  unfold upto
  rw [if_neg (by omega)]
  omega
theorem ok_until {d : S_Down} (h : okD d = true) : vpB d.Target = true ∧ isT d.Until = true := by
  unfold okD at h
  simp only [Bool.and_eq_true] at h
  exact ⟨h.1.1, h.2⟩
theorem pass1 {C : List S_Down} {now : Int} (hC : Cur now C) (hn : isT now = true) {k : Nat} (hk : k < C.length) : F_storing_Accept ((C.take k).map upD) now 9 (exR now C[k]) = some ((C.take (k + 1)).map upD, true, 0) := by
  have hmem := List.getElem_mem hk
  have hok := ok_until (hC.g.v.ok _ hmem)
  have hcur := hC.c _ hmem
  have hu := isT_iff.1 hok.2
  have hn' := isT_iff.1 hn
  have hg : GoodD ((C.take k).map upD) := good_sub (up_good hC.g) ((List.take_sublist k C).map upD)
  have hA : ∀ a ∈ (C.take k).map upD, cmpP a.Target (exR now C[k]).Target < 0 := by
    intro a ha
    obtain ⟨x, hx, rfl⟩ := List.mem_map.1 ha
    have hp := hC.g.v.ord
    rw [← List.take_append_drop k C, List.pairwise_append] at hp
    have := hp.2.2 x hx C[k] (by rw [List.drop_eq_getElem_cons hk]; exact List.mem_cons_self)
    exact this
  have hwr : IntKind.wrap .i64 (C[k].Until - now) = C[k].Until - now := wi (by omega) (by omega)
  have hvr : vrB (exR now C[k]) = true := by
    unfold vrB exR
    dsimp only
    rw [hok.1, hwr, Bool.true_and, isT_iff]
    omega
  have e := st_acceptN (A := (C.take k).map upD) (B := []) (now := now) (via := 9) (r := exR now C[k]) (by simpa using hg.v) (by simpa using hg.w) (hC.g.w _ hmem).1 hvr (by omega) hn hA (by simp)
  rw [List.append_nil] at e
  rw [e]
  unfold accN
  have hl : ((exR now C[k]).Lifetime == 0) = false := by
    refine beqF ?_
    unfold exR
    dsimp only
    rw [hwr]
    omega
  rw [hl, decF (by have := hC.g.v.len; simp; omega)]
  simp only [cond_false]
  congr 2
  rw [List.take_succ_eq_append_getElem hk, List.map_append]
  congr 1
  unfold newD exR upD
  dsimp only
  rw [hwr, upto_until hn hok.2 hcur]
  rfl
def keepE (E : List S_Down) (y : S_Down) : Bool := E.all fun e => !decide (y.Target = e.Target)
theorem keepE_snoc (E : List S_Down) (x y : S_Down) : keepE (E ++ [x]) y = (keepE E y && !decide (y.Target = x.Target)) := by
  unfold keepE
  simp [List.all_append]
theorem uniq {C : List S_Down} (hg : GoodD C) {x y : S_Down} (hx : x ∈ C) (hy : y ∈ C) (h : x.Target = y.Target) : x = y := by
  have hp := hg.v.ord
  clear hg
  induction C with
  | nil => cases hx
  | cons a C ih =>
    rw [List.pairwise_cons] at hp
    rcases List.mem_cons.1 hx with rfl | hx'
    · rcases List.mem_cons.1 hy with rfl | hy'
      · rfl
      · have := hp.1 y hy'
        unfold ltD at this
        rw [h, cmpP_zero.2 rfl] at this
        omega
    · rcases List.mem_cons.1 hy with rfl | hy'
      · have := hp.1 x hx'
        unfold ltD at this
        rw [h, cmpP_zero.2 rfl] at this
        omega
      · exact ih hx' hy' hp.2
theorem pass3 {C E : List S_Down} {now : Int} (hC : Cur now C) (hn : isT now = true) {x : S_Down} (hx : x ∈ C) (hE : ∀ e ∈ E, e.Target ≠ x.Target) : F_storing_Accept ((C.map upD).filter (keepE E)) now 9 (endR x) = some ((C.map upD).filter (keepE (E ++ [x])), true, 0) := by
  have hg : GoodD ((C.map upD).filter (keepE E)) := good_sub (up_good hC.g) List.filter_sublist
  have hok := ok_until (hC.g.v.ok _ hx)
  have hvr : vrB (endR x) = true := by
    unfold vrB endR
    dsimp only
    rw [hok.1]
    rfl
  have hmem : upD x ∈ (C.map upD).filter (keepE E) := by
    rw [List.mem_filter]
    refine ⟨List.mem_map.2 ⟨x, hx, rfl⟩, ?_⟩
    unfold keepE
    rw [List.all_eq_true]
    intro e he
    rw [decF (fun h => hE e he h.symm)]
    rfl
  have hfil : (C.map upD).filter (keepE (E ++ [x])) = ((C.map upD).filter (keepE E)).filter fun y => !decide (y.Target = x.Target) := by
    rw [List.filter_filter]
    apply List.filter_congr
    intro y _
    rw [keepE_snoc, Bool.and_comm]
  rw [hfil]
  have hall : ∀ y ∈ (C.map upD).filter (keepE E), y.Until > now ∧ y.Via = 9 ∧ (y.Target = x.Target → y.Sequence = x.Sequence) := by
    intro y hy
    obtain ⟨z, hz, rfl⟩ := List.mem_map.1 (List.mem_filter.1 hy).1
    refine ⟨hC.c z hz, rfl, fun h => ?_⟩
    rw [uniq hC.g hz hx h]
    rfl
  generalize (C.map upD).filter (keepE E) = u at *
  rcases part_spec hg.v x.Target with ⟨A, y, B, rfl, hA, hy, hB⟩ | ⟨A, B, rfl, hA, hB⟩
  · obtain ⟨h1, h2, h3⟩ := hall y (by simp)
    rw [st_acceptT (r := endR x) hg.v hg.w (hC.g.w x hx).1 hvr (by omega) hn hA hy, filtT hA hy hB]
    unfold accT stale endR
    dsimp only
    have hseq := hC.g.w x hx
    rw [decT h1, h2, h3 hy, newB_self hseq.2.1 hseq.2.2]
    simp
  · exfalso
    rcases List.mem_append.1 hmem with h | h
    · have := hA _ h
      rw [show (upD x).Target = x.Target from rfl, cmpP_zero.2 rfl] at this
      omega
    · have := hB _ h
      rw [show (upD x).Target = x.Target from rfl, cmpP_zero.2 rfl] at this
      omega
theorem passes_true (l : List Int) : F_law33_StoringPasses l = some true := by
  unfold F_law33_StoringPasses
  obtain ⟨t1, e1, k1⟩ := new_spec l
  obtain ⟨v2, t2, e2, c2, k2⟩ := base_spec k1
  have hn : isT (Int.tmod v2 1000) = true := by
    have := isT_iff.1 c2
    obtain ⟨q1, q2, q3⟩ := rem_spec v2 1000 (by omega) (by omega)
    have := Int.tmod_nonneg 1000 this.1
    exact isT_iff.2 (by omega)
  obtain ⟨m, t3, e3, hg, k3⟩ := downs_spec k2 hn
  obtain ⟨v5, t5, e5, _, _, k5⟩ := eui_spec k3
  simp only [e1, Option.bind_some, e2, e3, st_export hg.w, st_expire hg.w]
  generalize hnow : Int.tmod v2 1000 = now at *
  obtain ⟨C, hCe⟩ : ∃ C, expS m now = C := ⟨_, rfl⟩
  rw [hCe]
  have hC : Cur now C := by
    rw [← hCe]
    refine ⟨good_sub hg (expS_sub m now), fun d hd => ?_⟩
    unfold expS at hd
    rw [validB_iff.2 hg.v, hn] at hd
    have := (List.mem_filter.1 hd).2
    exact of_decide_eq_true this
  have hlen := hC.g.v.len
  have l1 : loopO (F_law33_StoringPasses_l1 (C.map (exR now)) (v2, t2)) (([] : List S_Down), 0) = some (Sum.inl (C.map upD)) := by
    have := loop_run (step := F_law33_StoringPasses_l1 (C.map (exR now)) (v2, t2)) (S := fun k => ((C.take k).map upD, (k : Int))) C.length (r := Sum.inl (C.map upD)) (by
      intro k hk
      unfold F_law33_StoringPasses_l1
      dsimp only
      rw [hnow, decT (by rw [List.length_map]; omega), idx_nat, List.getElem?_map, List.getElem?_eq_getElem hk]
      simp only [cond_true, Option.map_some, Option.bind_some]
      rw [pass1 hC hn hk, wk k (by omega)]
      rfl) (by
      unfold F_law33_StoringPasses_l1
      rw [decF (by dsimp only; rw [List.length_map]; omega)]
      simp only [cond_false, List.take_length])
    exact this
  rw [l1]
  simp only [Option.bind_some, Sum.elim_inl]
  rw [show (((C.map upD).length : Int) != (C.length : Int)) = false by simp]
  have l2 : loopO (F_law33_StoringPasses_l2 (C.map upD) C) 0 = some (Sum.inl ()) := by
    have := loop_run (step := F_law33_StoringPasses_l2 (C.map upD) C) (S := fun k => (k : Int)) C.length (r := Sum.inl ()) (by
      intro k hk
      unfold F_law33_StoringPasses_l2
      rw [decT (by rw [List.length_map]; omega), idx_nat, idx_nat, List.getElem?_map, List.getElem?_eq_getElem hk]
      simp only [cond_true, Option.map_some, Option.bind_some]
      have hw := (hC.g.w _ (List.getElem_mem hk)).1
      rw [show (upD C[k]).Target = C[k].Target from rfl, eqb_P hw hw, decT rfl, show (upD C[k]).Until = C[k].Until from rfl, show (upD C[k]).Via = 9 from rfl, wk k (by omega)]
      simp) (by
      unfold F_law33_StoringPasses_l2
      rw [decF (by rw [List.length_map]; omega)]
      rfl)
    exact this
  rw [l2]
  simp only [cond_false, Option.bind_some, Sum.elim_inl, e5]
  rw [st_drop hC.g.w]
  unfold dropS
  rw [validB_iff.2 hC.g.v]
  simp only [cond_true, Option.bind_some]
  obtain ⟨E, hE⟩ : ∃ E, C.filter (fun y => y.Via == v5) = E := ⟨_, rfl⟩
  rw [hE]
  have hEC : E.Sublist C := by rw [← hE]; exact List.filter_sublist
  have hEg : GoodD E := good_sub hC.g hEC
  have hElen := hEg.v.len
  have l3 : loopO (F_law33_StoringPasses_l3 (C.filter (fun y => !(y.Via == v5)), E.map endR) (v2, t2)) (C.map upD, 0) = some (Sum.inl ((C.map upD).filter (keepE E))) := by
    have := loop_run (step := F_law33_StoringPasses_l3 (C.filter (fun y => !(y.Via == v5)), E.map endR) (v2, t2)) (S := fun k => ((C.map upD).filter (keepE (E.take k)), (k : Int))) E.length (r := Sum.inl ((C.map upD).filter (keepE E))) (by
      intro k hk
      unfold F_law33_StoringPasses_l3
      dsimp only
      rw [hnow, decT (by rw [List.length_map]; omega), idx_nat, List.getElem?_map, List.getElem?_eq_getElem hk]
      simp only [cond_true, Option.map_some, Option.bind_some]
      have hp := hEg.v.ord
      rw [← List.take_append_drop k E, List.pairwise_append] at hp
      rw [pass3 hC hn (hEC.subset (List.getElem_mem hk)) (fun e he h => by
        have := hp.2.2 e he E[k] (by rw [List.drop_eq_getElem_cons hk]; exact List.mem_cons_self)
        unfold ltD at this
        rw [h, cmpP_zero.2 rfl] at this
        omega), wk k (by omega), ← List.take_succ_eq_append_getElem hk]
      rfl) (by
      unfold F_law33_StoringPasses_l3
      rw [decF (by dsimp only; rw [List.length_map]; omega)]
      simp only [cond_false, List.take_length])
    have h0 : (C.map upD).filter (keepE (E.take 0)) = C.map upD := List.filter_eq_self.2 (fun _ _ => rfl)
    rw [h0] at this
    exact this
  rw [l3]
  simp only [Option.bind_some, Sum.elim_inl]
  have hug : GoodD ((C.map upD).filter (keepE E)) := good_sub (up_good hC.g) List.filter_sublist
  have l4 : loopO (F_law33_StoringPasses_l4 C ((C.map upD).filter (keepE E)) (v2, t2) (v5, t5)) 0 = some (Sum.inl ()) := by
    have := loop_run (step := F_law33_StoringPasses_l4 C ((C.map upD).filter (keepE E)) (v2, t2) (v5, t5)) (S := fun k => (k : Int)) C.length (r := Sum.inl ()) (by
      intro k hk
      unfold F_law33_StoringPasses_l4
      dsimp only
      have hmem := List.getElem_mem hk
      rw [hnow, decT (by omega), idx_lt hk, wk k (by omega)]
      simp only [cond_true, Option.bind_some]
      rw [rf_find hug.w (hC.g.w _ hmem).1 (by have := hug.v.len; simp [maxLen]; omega)]
      simp only [Option.bind_some]
      generalize C[k] = x at *
      have hfd : (findD ((C.map upD).filter (keepE E)) now x.Target).2 = (x.Via != v5) := by
        have h2 : (findD ((C.map upD).filter (keepE E)) now x.Target).2 = (((C.map upD).filter (keepE E)).find? (isAt now x.Target)).isSome := by
          unfold findD
          cases ((C.map upD).filter (keepE E)).find? (isAt now x.Target) <;> rfl
        rw [h2, Bool.eq_iff_iff, List.find?_isSome]
        constructor
        · rintro ⟨y, hy, hat⟩
          obtain ⟨hy1, hy2⟩ := List.mem_filter.1 hy
          obtain ⟨z, hz, rfl⟩ := List.mem_map.1 hy1
          unfold isAt at hat
          simp only [Bool.and_eq_true, decide_eq_true_eq] at hat
          have hzx := uniq hC.g hz hmem hat.1
          subst hzx
          cases hv : (z.Via == v5) with
          | false => simp [bne, hv]
          | true =>
            exfalso
            have hzE : z ∈ E := by rw [← hE]; exact List.mem_filter.2 ⟨hz, hv⟩
            unfold keepE at hy2
            have := List.all_eq_true.1 hy2 z hzE
            rw [decT (show (upD z).Target = z.Target from rfl)] at this
            cases this
        · intro hv
          refine ⟨upD x, List.mem_filter.2 ⟨List.mem_map.2 ⟨x, hmem, rfl⟩, ?_⟩, ?_⟩
          · unfold keepE
            rw [List.all_eq_true]
            intro e he
            rw [decF ?_]
            · rfl
            · intro h
              have hex := uniq hC.g hmem (hEC.subset he) h
              subst hex
              rw [← hE] at he
              have := (List.mem_filter.1 he).2
              simp [bne, this] at hv
          · unfold isAt
            rw [decT (show (upD x).Target = x.Target from rfl), decT (show (upD x).Until > now from hC.c x hmem)]
            rfl
      rw [hfd]
      simp) (by
      unfold F_law33_StoringPasses_l4
      rw [decF (by omega)]
      rfl)
    exact this
  rw [l4, known_eq]
  rfl
theorem storingPasses_holds : Rows.StoringPassesSaid := storingPasses_of fun a0 _ => passes_true a0
#print axioms storingPasses_holds
end Go.Proofs.Ytonlajdaaljncaa
