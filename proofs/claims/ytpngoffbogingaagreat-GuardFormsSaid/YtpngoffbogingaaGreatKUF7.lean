/-
  GuardForms, proved for all guards, frames, tapes, numbers and indices.
-/
import Derived.Test.YtpngoffbogingaaGreatKUF6
namespace Go.Proofs.YtpngoffbogingaaGreat
section
open Go.ChangeShapes Go.WideShapes Go.ChangeAt Go.RowKit

def Wt (P : Program) (t : TypeId) {H : Type} (d : DataW H) : Prop := ∀ n ∈ d.weights P t, n ≤ reachBytes
def OpensR (P : Program) (t : TypeId) {α : Type} (f : α → List SC) (wf : α → Prop) : Prop :=
  ∀ (H : Type) (enc : TypeId × Value → H) (W : World) (fuel : Nat) (cs : List Value) (x : DataW H × List MemPlace), DataW.trod enc P W 0 (fun _ => true) true fuel t cs = some x → Wt P t x.1 → ∃ a : α, Seg (rdAll W) cs 0 cs.length (f a) ∧ wf a
theorem Opens.r {P : Program} {t : TypeId} {α : Type} {f : α → List SC} {wf : α → Prop} (h : Opens P t f wf) : OpensR P t f wf := fun H enc W fuel cs x h1 _ => h H enc W fuel cs x h1
def wfR {α : Type} (p : α → Prop) (l : List α) : Prop := l.length ≤ 140737488351232 ∧ ∀ z ∈ l, p z
theorem mem_weightsAll {H : Type} {P : Program} {e : TypeId} : ∀ {l : List (DataW H)} {d : DataW H}, d ∈ l → ∀ n ∈ d.weights P e, n ∈ DataW.weightsAll P e l
  | x :: l, d, h, n, hn => by
    simp only [DataW.weightsAll, List.mem_append]
    rcases List.mem_cons.1 h with rfl | h
    · exact Or.inl hn
    · exact Or.inr (mem_weightsAll h n hn)
theorem wt_of {H : Type} {P : Program} {ts : List TypeId} {ds : List (DataW H)} (h : (DataW.weightsEach P ts ds).all (· ≤ reachBytes) = true) {j : Nat} {t : TypeId} {d : DataW H} (ht : ts[j]? = some t) (hd : ds[j]? = some d) : Wt P t d := fun n hn => by
  have := List.all_eq_true.1 h _ (DataW.weights_mem_each ht hd n hn)
  simpa using this
theorem opens_fieldR {P : Program} {H : Type} {enc : TypeId × Value → H} {W : World} {fuel : Nat} {cs : List Value} {x : DataW H × List MemPlace} {t : TypeId} {fs : Array Field} (ht : P.underlying t = some (.struct fs)) (h : DataW.trod enc P W 0 (fun _ => true) true fuel t cs = some x) (i : Nat) (fd : Field) (hf : fs.toList[i]? = some fd) {α : Type} {f : α → List SC} {wf : α → Prop} {n off : Nat} (hn : P.cellsOf fd.type = n) (ho : fd.offset = off) (hfit : decide (off + n ≤ P.cellsOf t) = true) (hop : OpensR P fd.type f wf) (hw : Wt P t x.1) :
    ∃ a, Seg (rdAll W) cs off n (f a) ∧ wf a := by
  obtain ⟨xs, m, _, rfl, hl, hlen, hg⟩ := DataW.trod_struct ht h
  have hfit' := of_decide_eq_true hfit
  have h1 := hg i fd (by simpa using hf)
  have hi := (List.getElem?_eq_some_iff.1 hf).1
  obtain ⟨y, hy⟩ : ∃ y, xs[i]? = some y := ⟨_, List.getElem?_eq_getElem (by rw [hlen]; simpa using hi)⟩
  rw [hy, hn, ho] at h1
  have hwy : Wt P fd.type y.1 := fun n hn => hw n (by
    have e : DataW.weights P t (.agg (xs.map (·.1))) = DataW.weightsEach P (fs.toList.map (·.type)) (xs.map (·.1)) := by simp [DataW.weights, ht]
    rw [e]
    exact DataW.weights_mem_each (j := i) (t := fd.type) (d := y.1) (by rw [List.getElem?_map, hf]; rfl) (by rw [List.getElem?_map, hy]; rfl) n hn)
  obtain ⟨a, hs, hw⟩ := hop H enc W m _ y h1 hwy
  have hcl : ((cs.drop off).take n).length = n := by simp; omega
  rw [hcl] at hs
  refine ⟨a, ⟨hs.1, fun j z hz => ?_⟩, hw⟩
  obtain ⟨u, k1, k2⟩ := hs.2 j z hz
  have hj := (List.getElem?_eq_some_iff.1 hz).1
  rw [hs.1] at hj
  rw [Nat.zero_add, List.getElem?_take, if_pos hj, List.getElem?_drop] at k1
  exact ⟨u, k1, k2⟩


theorem opens_sliceR {P : Program} {t e : TypeId} {sz : Nat} (ht : P.underlying t = some (.slice e)) (hsz : P.cellsOf e = sz) {α : Type} {f : α → List SC} {wf : α → Prop} (hop : OpensR P e f wf) (hlen : ∀ a, (f a).length = sz) (hpos : decide (0 < sz) = true) (hby : decide (0 < P.bytesOf e) = true) : OpensR P t (ecS sz f) (wfR wf) := by
  intro H enc W fuel cs x h hw
  have hb := of_decide_eq_true hby
  have hp := of_decide_eq_true hpos
  rcases DataW.trod_slice ht h with ⟨rfl, _⟩ | ⟨a, len, cap, elems, rest, m, _, rfl, rfl, _, hlc, hcm, hel, hg, _⟩
  · refine ⟨[], ⟨rfl, fun j y hy => ?_⟩, by simp, fun z hz => absurd hz (by simp)⟩
    rcases j with _ | j
    · simp only [ecS, List.map_nil, List.getElem?_cons_zero, Option.some.injEq] at hy
      subst hy
      exact ⟨_, rfl, .nil _ _ _ (by decide)⟩
    · simp [ecS] at hy
  · have e0 : DataW.weights P t (.slice (elems.map (·.1)) (rest.map (·.1)) : DataW H) = (((elems.map (·.1)).length + (rest.map (·.1)).length) * P.bytesOf e :: (DataW.weightsAll P e (elems.map (·.1)) ++ DataW.weightsAll P e (rest.map (·.1)))) := by simp [DataW.weights, ht]
    have hlen' : len ≤ 140737488351232 := by
      have h2 := hw (((elems.map (·.1)).length + (rest.map (·.1)).length) * P.bytesOf e) (by rw [e0]; exact List.mem_cons_self)
      have h3 : len * 1 ≤ ((elems.map (·.1)).length + (rest.map (·.1)).length) * P.bytesOf e := Nat.mul_le_mul (by rw [List.length_map, hel]; omega) hb
      have h4 : reachBytes = 140737488351232 := rfl
      omega
    have key : ∀ i, i < len → ∃ (us : List Value) (b : α), W.cells? 0 (a.add (i * sz)) sz = some us ∧ Seg (rdAll W) us 0 us.length (f b) ∧ wf b := by
      intro i hi
      have h1 := hg i hi
      rw [hsz] at h1
      obtain ⟨y, hy⟩ : ∃ y, elems[i]? = some y := ⟨_, List.getElem?_eq_getElem (by omega)⟩
      rw [hy] at h1
      obtain ⟨us, k1, k2⟩ := Option.bind_eq_some_iff.1 h1
      obtain ⟨b, k3, k4⟩ := hop H enc W m us y k2 (fun n hn => hw n (by
        rw [e0]
        exact List.mem_cons_of_mem _ (List.mem_append_left _ (mem_weightsAll (d := y.1) (List.mem_map.2 ⟨y, List.mem_of_getElem? hy, rfl⟩) n hn))))
      exact ⟨us, b, k1, k3, k4⟩
    have key2 : ∃ l : List α, l.length = len ∧ ∀ i b, l[i]? = some b → wf b ∧ ∃ us, W.cells? 0 (a.add (i * sz)) sz = some us ∧ Seg (rdAll W) us 0 us.length (f b) := by
      have : ∀ q, q ≤ len → ∃ l : List α, l.length = q ∧ ∀ i b, l[i]? = some b → wf b ∧ ∃ us, W.cells? 0 (a.add (i * sz)) sz = some us ∧ Seg (rdAll W) us 0 us.length (f b) := by
        intro q
        induction q with
        | zero => exact fun _ => ⟨[], rfl, fun i b hb => by simp at hb⟩
        | succ q ih =>
          intro hq
          obtain ⟨l, hl, hall⟩ := ih (by omega)
          obtain ⟨us, b, k1, k2, k3⟩ := key q (by omega)
          refine ⟨l ++ [b], by simp [hl], fun i c hc => ?_⟩
          by_cases hi : i < l.length
          · rw [List.getElem?_append_left hi] at hc
            exact hall i c hc
          · rw [List.getElem?_append_right (by omega)] at hc
            have hi0 : i - l.length = 0 := by
              have := (List.getElem?_eq_some_iff.1 hc).1
              simp at this
              omega
            rw [hi0] at hc
            cases hc
            have : i = q := by omega
            subst this
            exact ⟨k3, us, k1, k2⟩
      exact this len (Nat.le_refl _)
    obtain ⟨l, hl, hall⟩ := key2
    refine ⟨l, ⟨rfl, fun j y hy => ?_⟩, by omega, fun z hz => ?_⟩
    · rcases j with _ | j
      · simp only [ecS, List.getElem?_cons_zero, Option.some.injEq] at hy
        subst hy
        refine ⟨_, rfl, ?_⟩
        rw [hl]
        by_cases hz : len = 0
        · subst hz
          have : l = [] := List.eq_nil_of_length_eq_zero hl
          subst this
          exact .nil _ _ _ hcm
        · obtain ⟨b0, hb0⟩ : ∃ b, l[0]? = some b := ⟨_, List.getElem?_eq_getElem (by omega)⟩
          obtain ⟨_, us0, k0, _⟩ := hall 0 b0 hb0
          obtain ⟨hlen0, _, hc0⟩ := World.cells?_some k0
          have hcell0 := hc0 0 (by omega)
          obtain ⟨bl, off, spot⟩ := a
          have hspot : spot = none := by
            obtain ⟨z, hz0⟩ : ∃ z, us0[0]? = some z := ⟨_, List.getElem?_eq_getElem (by omega)⟩
            rw [hz0] at hcell0
            simpa [Addr.add] using World.cell?_spot hcell0
          subst hspot
          have cellAt : ∀ i b, l[i]? = some b → ∀ j y, (f b)[j]? = some y → ∃ u, W.cell? ⟨bl, off + i * sz + j, none⟩ = some u ∧ IRel (rdAll W) u y := by
            intro i b hb j y hy
            obtain ⟨_, us, k1, k2⟩ := hall i b hb
            obtain ⟨hlen1, _, hc1⟩ := World.cells?_some k1
            obtain ⟨u, q1, q2⟩ := k2.2 j y hy
            rw [Nat.zero_add] at q1
            have hj : j < sz := by have := (List.getElem?_eq_some_iff.1 hy).1; rw [hlen b] at this; exact this
            have := hc1 j (by omega)
            rw [q1] at this
            refine ⟨u, ?_, q2⟩
            rw [Addr.add_mid, Addr.add_mid] at this
            exact this
          refine .slc bl off len cap sz (l.map f) (fun i j => (W.cell? ⟨bl, off + i * sz + j, none⟩).getD (.bool false)) (by simp [hl]) hlc hcm ?_ ?_ ?_
          · intro x hx
            obtain ⟨b, _, rfl⟩ := List.mem_map.1 hx
            exact hlen b
          · intro i x j y hx hy
            rw [List.getElem?_map] at hx
            obtain ⟨b, hb, rfl⟩ := Option.map_eq_some_iff.1 hx
            obtain ⟨u, q1, _⟩ := cellAt i b hb j y hy
            simp only [rdAll, q1, Option.getD_some]
          · intro i x j y hx hy
            rw [List.getElem?_map] at hx
            obtain ⟨b, hb, rfl⟩ := Option.map_eq_some_iff.1 hx
            obtain ⟨u, q1, q2⟩ := cellAt i b hb j y hy
            simp only [q1, Option.getD_some]
            exact q2
      · simp [ecS] at hy
    · obtain ⟨i, hi⟩ := List.getElem?_of_mem hz
      exact (hall i z hi).1

/-- a struct as an argument -/
theorem open_aggR {P : Program} {t : TypeId} {fs : Array Field} {H : Type} {enc : TypeId × Value → H} {W : World} {v : Value} {d : DataW H} {p : List MemPlace} {r : Reach} {b0 : Nat} {α : Type} {f : α → List SC} {wf : α → Prop} (hop : OpensR P t f wf) (ht : P.underlying t = some (.struct fs))
    (hv : Value.okWide P W r b0 t v) (h : DataW.Trod enc P W 0 (fun _ => true) true t v d p) (hw : Wt P t d) : ∃ a, VRel (rdAll W) env0 v (.agg (f a)) ∧ wf a := by
  obtain ⟨cs, rfl, _⟩ := okWide_struct ht hv
  obtain ⟨fuel, hf⟩ := h
  obtain ⟨a, hs, hw2⟩ := hop H enc W fuel _ _ hf hw
  simp only [Value.cells] at hs
  refine ⟨a, ⟨cs, rfl, ⟨by simpa using hs.1.symm, fun j y hy => ?_⟩⟩, hw2⟩
  obtain ⟨u, k1, k2⟩ := hs.2 j y hy
  exact ⟨u, by simpa using k1, k2.c⟩
/-- a single cell as an argument -/
theorem open_cellR {P : Program} {t : TypeId} {H : Type} {enc : TypeId × Value → H} {W : World} {v : Value} {d : DataW H} {p : List MemPlace} {α : Type} {f : α → List SC} {wf : α → Prop} {c : α → SC} (hop : OpensR P t f wf) (hc : ∀ a, f a = [c a]) (hv : v.cells = #[v]) (h : DataW.Trod enc P W 0 (fun _ => true) true t v d p) (hw : Wt P t d) : ∃ a, VRel (rdAll W) env0 v (.c (c a)) ∧ wf a := by
  obtain ⟨fuel, hf⟩ := h
  obtain ⟨a, hs, hw2⟩ := hop H enc W fuel _ _ hf hw
  rw [hv] at hs
  refine ⟨a, ?_, hw2⟩
  obtain ⟨u, k1, k2⟩ := hs.2 0 (c a) (by rw [hc]; rfl)
  simp at k1
  subst k1
  exact k2.c
/-- a slice as an argument -/
theorem open_slcR {P : Program} {t e : TypeId} {H : Type} {enc : TypeId × Value → H} {W : World} {v : Value} {d : DataW H} {p : List MemPlace} {r : Reach} {b0 : Nat} {α : Type} {sz : Nat} {f : α → List SC} {wf : List α → Prop} (hop : OpensR P t (ecS sz f) wf) (ht : P.underlying t = some (.slice e))
    (hv : Value.okWide P W r b0 t v) (h : DataW.Trod enc P W 0 (fun _ => true) true t v d p) (hw : Wt P t d) : ∃ a, VRel (rdAll W) env0 v (.c (eS sz f a)) ∧ wf a := by
  obtain ⟨a0, len, cap, rfl⟩ := okWide_slice ht hv
  exact open_cellR hop (fun a => rfl) rfl h hw
end
section
open Go.ChangeShapes Go.WideShapes Go.ChangeAt Go.RowKit

def S_LinkKey.wf (x : S_LinkKey) : Prop := wfI .u8 x.Index ∧ wfA .u8 16 x.Key
theorem opens_S_LinkKey : OpensR Tryz.prog 53 S_LinkKey.cs S_LinkKey.wf := by
  intro H enc W fuel cs x h hw
  have hl := (DataW.trod_struct Tryz.underlying53 h)
  obtain ⟨_, _, _, _, hl, _⟩ := hl
  obtain ⟨a0, s0, w0⟩ := opens_fieldR Tryz.underlying53 h 0 _ rfl (n := 1) (off := 0) (by kernel_rfl) (by kernel_rfl) (by kernel_rfl) (opens_int (k := .u8) Tryz.underlying5).r hw
  obtain ⟨a1, s1, w1⟩ := opens_fieldR Tryz.underlying53 h 1 _ rfl (n := 16) (off := 1) (by kernel_rfl) (by kernel_rfl) (by kernel_rfl) (opens_arr (n := 16) (k := .u8) Tryz.underlying50 Tryz.underlying5 (by kernel_rfl) (by kernel_rfl)).r hw
  refine ⟨⟨a0, a1⟩, ?_, w0, w1⟩
  have hl2 : cs.length = 17 := hl.trans (by kernel_rfl)
  rw [hl2]
  exact (s0).append s1
def S_Addr.wf (x : S_Addr) : Prop := wfI .i64 x.Mode ∧ wfI .u16 x.Short ∧ wfI .u64 x.EUI
theorem opens_S_Addr : OpensR Tryz.prog 32 S_Addr.cs S_Addr.wf := by
  intro H enc W fuel cs x h hw
  have hl := (DataW.trod_struct Tryz.underlying32 h)
  obtain ⟨_, _, _, _, hl, _⟩ := hl
  obtain ⟨a0, s0, w0⟩ := opens_fieldR Tryz.underlying32 h 0 _ rfl (n := 1) (off := 0) (by kernel_rfl) (by kernel_rfl) (by kernel_rfl) (opens_int (k := .i64) Tryz.underlying3).r hw
  obtain ⟨a1, s1, w1⟩ := opens_fieldR Tryz.underlying32 h 1 _ rfl (n := 1) (off := 1) (by kernel_rfl) (by kernel_rfl) (by kernel_rfl) (opens_int (k := .u16) Tryz.underlying28).r hw
  obtain ⟨a2, s2, w2⟩ := opens_fieldR Tryz.underlying32 h 2 _ rfl (n := 1) (off := 2) (by kernel_rfl) (by kernel_rfl) (by kernel_rfl) (opens_int (k := .u64) Tryz.underlying30).r hw
  refine ⟨⟨a0, a1, a2⟩, ?_, w0, w1, w2⟩
  have hl2 : cs.length = 3 := hl.trans (by kernel_rfl)
  rw [hl2]
  exact ((s0).append s1).append s2
def S_Peer.wf (x : S_Peer) : Prop := S_Addr.wf x.Src ∧ wfI .u8 x.Key ∧ wfI .u32 x.Last ∧ wfI .u32 x.Window
theorem opens_S_Peer : OpensR Tryz.prog 57 S_Peer.cs S_Peer.wf := by
  intro H enc W fuel cs x h hw
  have hl := (DataW.trod_struct Tryz.underlying57 h)
  obtain ⟨_, _, _, _, hl, _⟩ := hl
  obtain ⟨a0, s0, w0⟩ := opens_fieldR Tryz.underlying57 h 0 _ rfl (n := 3) (off := 0) (by kernel_rfl) (by kernel_rfl) (by kernel_rfl) opens_S_Addr hw
  obtain ⟨a1, s1, w1⟩ := opens_fieldR Tryz.underlying57 h 1 _ rfl (n := 1) (off := 3) (by kernel_rfl) (by kernel_rfl) (by kernel_rfl) (opens_int (k := .u8) Tryz.underlying5).r hw
  obtain ⟨a2, s2, w2⟩ := opens_fieldR Tryz.underlying57 h 2 _ rfl (n := 1) (off := 4) (by kernel_rfl) (by kernel_rfl) (by kernel_rfl) (opens_int (k := .u32) Tryz.underlying23).r hw
  obtain ⟨a3, s3, w3⟩ := opens_fieldR Tryz.underlying57 h 3 _ rfl (n := 1) (off := 5) (by kernel_rfl) (by kernel_rfl) (by kernel_rfl) (opens_int (k := .u32) Tryz.underlying23).r hw
  refine ⟨⟨a0, a1, a2, a3⟩, ?_, w0, w1, w2, w3⟩
  have hl2 : cs.length = 6 := hl.trans (by kernel_rfl)
  rw [hl2]
  exact (((s0).append s1).append s2).append s3
def S_Guard.wf (x : S_Guard) : Prop := wfR S_LinkKey.wf x.Keys ∧ wfI .u32 x.Counter ∧ wfI .u32 x.Reserved ∧ wfI .u32 x.Nonce ∧ wfR S_Peer.wf x.Peers
theorem opens_S_Guard : OpensR Tryz.prog 26 S_Guard.cs S_Guard.wf := by
  intro H enc W fuel cs x h hw
  have hl := (DataW.trod_struct Tryz.underlying26 h)
  obtain ⟨_, _, _, _, hl, _⟩ := hl
  obtain ⟨a0, s0, w0⟩ := opens_fieldR Tryz.underlying26 h 0 _ rfl (n := 1) (off := 0) (by kernel_rfl) (by kernel_rfl) (by kernel_rfl) (opens_sliceR (sz := 17) Tryz.underlying22 (by kernel_rfl) opens_S_LinkKey (fun _ => by kernel_rfl) (by kernel_rfl) (by kernel_rfl)) hw
  obtain ⟨a1, s1, w1⟩ := opens_fieldR Tryz.underlying26 h 1 _ rfl (n := 1) (off := 1) (by kernel_rfl) (by kernel_rfl) (by kernel_rfl) (opens_int (k := .u32) Tryz.underlying23).r hw
  obtain ⟨a2, s2, w2⟩ := opens_fieldR Tryz.underlying26 h 2 _ rfl (n := 1) (off := 2) (by kernel_rfl) (by kernel_rfl) (by kernel_rfl) (opens_int (k := .u32) Tryz.underlying23).r hw
  obtain ⟨a3, s3, w3⟩ := opens_fieldR Tryz.underlying26 h 3 _ rfl (n := 1) (off := 3) (by kernel_rfl) (by kernel_rfl) (by kernel_rfl) (opens_int (k := .u32) Tryz.underlying23).r hw
  obtain ⟨a4, s4, w4⟩ := opens_fieldR Tryz.underlying26 h 4 _ rfl (n := 1) (off := 4) (by kernel_rfl) (by kernel_rfl) (by kernel_rfl) (opens_sliceR (sz := 6) Tryz.underlying24 (by kernel_rfl) opens_S_Peer (fun _ => by kernel_rfl) (by kernel_rfl) (by kernel_rfl)) hw
  refine ⟨⟨a0, a1, a2, a3, a4⟩, ?_, w0, w1, w2, w3, w4⟩
  have hl2 : cs.length = 5 := hl.trans (by kernel_rfl)
  rw [hl2]
  exact ((((s0).append s1).append s2).append s3).append s4
def S_Frame.wf (x : S_Frame) : Prop := wfI .i64 x.Kind ∧ wfB x.AckRequest ∧ wfB x.Pending ∧ wfB x.Secure ∧ wfI .u8 x.Seq ∧ wfI .u16 x.Pan ∧ S_Addr.wf x.Dst ∧ S_Addr.wf x.Src ∧ wfI .u32 x.Counter ∧ wfI .u8 x.Key ∧ wfR (wfI .u8) x.Payload ∧ wfR (wfI .u8) x.MIC
theorem opens_S_Frame : OpensR Tryz.prog 35 S_Frame.cs S_Frame.wf := by
  intro H enc W fuel cs x h hw
  have hl := (DataW.trod_struct Tryz.underlying35 h)
  obtain ⟨_, _, _, _, hl, _⟩ := hl
  obtain ⟨a0, s0, w0⟩ := opens_fieldR Tryz.underlying35 h 0 _ rfl (n := 1) (off := 0) (by kernel_rfl) (by kernel_rfl) (by kernel_rfl) (opens_int (k := .i64) Tryz.underlying3).r hw
  obtain ⟨a1, s1, w1⟩ := opens_fieldR Tryz.underlying35 h 1 _ rfl (n := 1) (off := 1) (by kernel_rfl) (by kernel_rfl) (by kernel_rfl) (opens_bool Tryz.underlying4).r hw
  obtain ⟨a2, s2, w2⟩ := opens_fieldR Tryz.underlying35 h 2 _ rfl (n := 1) (off := 2) (by kernel_rfl) (by kernel_rfl) (by kernel_rfl) (opens_bool Tryz.underlying4).r hw
  obtain ⟨a3, s3, w3⟩ := opens_fieldR Tryz.underlying35 h 3 _ rfl (n := 1) (off := 3) (by kernel_rfl) (by kernel_rfl) (by kernel_rfl) (opens_bool Tryz.underlying4).r hw
  obtain ⟨a4, s4, w4⟩ := opens_fieldR Tryz.underlying35 h 4 _ rfl (n := 1) (off := 4) (by kernel_rfl) (by kernel_rfl) (by kernel_rfl) (opens_int (k := .u8) Tryz.underlying5).r hw
  obtain ⟨a5, s5, w5⟩ := opens_fieldR Tryz.underlying35 h 5 _ rfl (n := 1) (off := 5) (by kernel_rfl) (by kernel_rfl) (by kernel_rfl) (opens_int (k := .u16) Tryz.underlying27).r hw
  obtain ⟨a6, s6, w6⟩ := opens_fieldR Tryz.underlying35 h 6 _ rfl (n := 3) (off := 6) (by kernel_rfl) (by kernel_rfl) (by kernel_rfl) opens_S_Addr hw
  obtain ⟨a7, s7, w7⟩ := opens_fieldR Tryz.underlying35 h 7 _ rfl (n := 3) (off := 9) (by kernel_rfl) (by kernel_rfl) (by kernel_rfl) opens_S_Addr hw
  obtain ⟨a8, s8, w8⟩ := opens_fieldR Tryz.underlying35 h 8 _ rfl (n := 1) (off := 12) (by kernel_rfl) (by kernel_rfl) (by kernel_rfl) (opens_int (k := .u32) Tryz.underlying23).r hw
  obtain ⟨a9, s9, w9⟩ := opens_fieldR Tryz.underlying35 h 9 _ rfl (n := 1) (off := 13) (by kernel_rfl) (by kernel_rfl) (by kernel_rfl) (opens_int (k := .u8) Tryz.underlying5).r hw
  obtain ⟨a10, s10, w10⟩ := opens_fieldR Tryz.underlying35 h 10 _ rfl (n := 1) (off := 14) (by kernel_rfl) (by kernel_rfl) (by kernel_rfl) (opens_sliceR (sz := 1) Tryz.underlying33 (by kernel_rfl) (opens_int (k := .u8) Tryz.underlying5).r (fun _ => by kernel_rfl) (by kernel_rfl) (by kernel_rfl)) hw
  obtain ⟨a11, s11, w11⟩ := opens_fieldR Tryz.underlying35 h 11 _ rfl (n := 1) (off := 15) (by kernel_rfl) (by kernel_rfl) (by kernel_rfl) (opens_sliceR (sz := 1) Tryz.underlying33 (by kernel_rfl) (opens_int (k := .u8) Tryz.underlying5).r (fun _ => by kernel_rfl) (by kernel_rfl) (by kernel_rfl)) hw
  refine ⟨⟨a0, a1, a2, a3, a4, a5, a6, a7, a8, a9, a10, a11⟩, ?_, w0, w1, w2, w3, w4, w5, w6, w7, w8, w9, w10, w11⟩
  have hl2 : cs.length = 16 := hl.trans (by kernel_rfl)
  rw [hl2]
  exact (((((((((((s0).append s1).append s2).append s3).append s4).append s5).append s6).append s7).append s8).append s9).append s10).append s11
end
section
open Go.ChangeShapes Go.WideShapes Go.ChangeAt Go.RowKit

set_option maxRecDepth 100000 in
theorem guardForms_lifted (hF : ∀ (a0 : S_Guard) (a1 : S_Frame) (a2 : List Int) (a3 : Int) (a4 : Int) (a5 : Int), S_Guard.wf a0 → S_Frame.wf a1 → wfR (wfI .i64) a2 → wfI .u32 a3 → wfI .u32 a4 → wfI .u8 a5 → F_law06_GuardForms a0 a1 a2 a3 a4 a5 = some true) (os : Os) (started : os.Started) (H : Type) (enc : TypeId × Value → H) :
    ReturnsInHanded {} Tryz.checked os 3 .any (Rows.guardFormsSpec.pre6 enc Tryz.prog Tryz.f3 Rows.guardFormsRow.domain false) (Rows.guardFormsSpec.post enc Tryz.prog Tryz.f3 false true false false) := by
  refine returnsInHanded_of_change_sized (C := Tryz.checked) own started (by kernel_rfl) Tryz.func3
    (ChangeSpec.witness6 (enc := enc) (C := Tryz.checked) false ⟨#[], #[.agg #[.slice none 0 0, .int .u32 0, .int .u32 0, .int .u32 0, .slice none 0 0], .agg #[.int .i64 0, .bool false, .bool false, .bool false, .int .u8 0, .int .u16 0, .int .i64 0, .int .u16 0, .int .u64 0, .int .i64 0, .int .u16 0, .int .u64 0, .int .u32 0, .int .u8 0, .slice none 0 0, .slice none 0 0], .slice none 0 0, .int .u32 0, .int .u32 0, .int .u8 0], []⟩ 8 (by kernel_rfl) (by kernel_rfl) (by kernel_rfl) (by kernel_rfl)) ?_
  intro W base args ds gs before hval0 hW hcnd hsz0 _
  have hval : ∀ (j : Nat) t v, Tryz.f3.params[j]? = some t → args[j]? = some v → Value.okWide Tryz.prog W .any base t v := hval0
  have hW' := hW
  obtain ⟨p, q, hA0, hV, rfl, hfz, hnd⟩ := hW
  have hA : DataW.TrodAll enc Tryz.prog W 0 (fun _ => true) true Tryz.f3.params.toList args.toList ds p := hA0
  have hAll := hA
  rw [Tryz.params3] at hA hval hAll
  obtain ⟨v0, vs0, d0, ds0, p0, q0, hargs, rfl, rfl, h0, r0⟩ := trodAll_cons hA
  obtain ⟨v1, vs1, d1, ds1, p1, q1, rfl, rfl, rfl, h1, r1⟩ := trodAll_cons r0
  obtain ⟨v2, vs2, d2, ds2, p2, q2, rfl, rfl, rfl, h2, r2⟩ := trodAll_cons r1
  obtain ⟨v3, vs3, d3, ds3, p3, q3, rfl, rfl, rfl, h3, r3⟩ := trodAll_cons r2
  obtain ⟨v4, vs4, d4, ds4, p4, q4, rfl, rfl, rfl, h4, r4⟩ := trodAll_cons r3
  obtain ⟨v5, vs5, d5, ds5, p5, q5, rfl, rfl, rfl, h5, r5⟩ := trodAll_cons r4
  obtain ⟨rfl, rfl, rfl⟩ := trodAll_nil r5
  obtain rfl : args = #[v0, v1, v2, v3, v4, v5] := by cases args; simp_all
  obtain ⟨rfl, rfl⟩ := trodVars_none hV
  obtain ⟨x0, hR0, w0⟩ := open_aggR opens_S_Guard Tryz.underlying26 (hval 0 26 v0 rfl rfl) h0 (wt_of hsz0 (j := 0) (by kernel_rfl) rfl)
  obtain ⟨x1, hR1, w1⟩ := open_aggR opens_S_Frame Tryz.underlying35 (hval 1 35 v1 rfl rfl) h1 (wt_of hsz0 (j := 1) (by kernel_rfl) rfl)
  obtain ⟨x2, hR2, w2⟩ := open_slcR (opens_sliceR (sz := 1) Tryz.underlying36 (by kernel_rfl) (opens_int (k := .i64) Tryz.underlying3).r (fun _ => by kernel_rfl) (by kernel_rfl) (by kernel_rfl)) Tryz.underlying36 (hval 2 36 v2 rfl rfl) h2 (wt_of hsz0 (j := 2) (by kernel_rfl) rfl)
  obtain ⟨x3, rfl, rfl, rfl, w3⟩ := open_int Tryz.underlying23 (hval 3 23 v3 rfl rfl) h3
  obtain ⟨x4, rfl, rfl, rfl, w4⟩ := open_int Tryz.underlying23 (hval 4 23 v4 rfl rfl) h4
  obtain ⟨x5, rfl, rfl, rfl, w5⟩ := open_int Tryz.underlying5 (hval 5 5 v5 rfl rfl) h5
  clear hA0 hval0 hsz0
  refine (con_true (us := [v0, v1, v2, .int .u32 x3, .int .u32 x4, .int .u8 x5]) (ok_law06_GuardForms x0 x1 x2 x3 x4 x5 true (hF x0 x1 x2 x3 x4 x5 w0 w1 w2 w3 w4 w5)) ⟨hR0, hR1, hR2, vrel_lit _ _ _, vrel_lit _ _ _, vrel_lit _ _ _, trivial⟩).mono fun e W' ⟨he, hx⟩ => ?_
  subst he
  have bel := hx.below
  exact ⟨_, rfl, _, _, _, [], _, [], hW', trodAll_mk1 (shut_bool Tryz.underlying4 _), trodAll_below laidOut bel (by kernel_rfl) hAll, rfl, bel.frame _, fun h => by cases h⟩

theorem guardForms_of (hF : ∀ (a0 : S_Guard) (a1 : S_Frame) (a2 : List Int) (a3 : Int) (a4 : Int) (a5 : Int), S_Guard.wf a0 → S_Frame.wf a1 → wfR (wfI .i64) a2 → wfI .u32 a3 → wfI .u32 a4 → wfI .u8 a5 → F_law06_GuardForms a0 a1 a2 a3 a4 a5 = some true) : Rows.GuardFormsSaid :=
  OpenClaim.holds_of_wide 3 Tryz.f3 rfl rfl rfl rfl rfl rfl rfl ⟨rfl, rfl, rfl, rfl, rfl⟩ rfl rfl rfl rfl rfl (by kernel_rfl) Tryz.func3 (by kernel_rfl)
    (of_decide_eq_true (by kernel_rfl)) (by unfold Func.isWrapper; first | (rw [if_pos (by decide +kernel)]; kernel_rfl) | (rw [if_neg (by decide +kernel)]; exact ⟨rfl, rfl⟩))
    (fun os started H enc _ => guardForms_lifted hF os started H enc)
end
section
open Go.RowKit
theorem wf_addr {a : S_Addr} (h : S_Addr.wf a) : AdrWf a ∧ (-9223372036854775808 ≤ a.Mode ∧ a.Mode ≤ 9223372036854775807) := by
  obtain ⟨h1, h2, h3⟩ := h
  simp [wfI, Lit.wf, IntKind.min, IntKind.max, IntKind.bits, IntKind.signed] at h1 h2 h3
  exact ⟨⟨by omega, by omega⟩, by omega⟩
theorem wf_frame {f : S_Frame} (h : S_Frame.wf f) : WfF f := by
  obtain ⟨_, _, _, _, h5, h6, h7, h8, h9, h10, h11, h12⟩ := h
  simp [wfI, Lit.wf, IntKind.min, IntKind.max, IntKind.bits, IntKind.signed] at h5 h6 h9 h10
  exact ⟨by omega, by omega, (wf_addr h7).1, (wf_addr h8).1, by omega, by omega, okB_wf h11.2, h11.1, okB_wf h12.2, h12.1⟩
theorem wf_guard {g : S_Guard} (h : S_Guard.wf g) : WfG g := by
  obtain ⟨h1, h2, h3, h4, h5⟩ := h
  simp [wfI, Lit.wf, IntKind.min, IntKind.max, IntKind.bits, IntKind.signed] at h2 h3 h4
  refine ⟨fun k hk => ?_, h1.1, fun p hp => ?_, h5.1, by omega, by omega, by omega⟩
  · obtain ⟨a, b, c⟩ := h1.2 k hk
    simp [wfI, Lit.wf, IntKind.min, IntKind.max, IntKind.bits, IntKind.signed] at a
    exact ⟨by omega, b, okB_wf c⟩
  · obtain ⟨a, b, c, d⟩ := h5.2 p hp
    simp [wfI, Lit.wf, IntKind.min, IntKind.max, IntKind.bits, IntKind.signed] at b c d
    exact ⟨(wf_addr a).1, (wf_addr a).2, by omega, by omega, by omega⟩
theorem gu32_bd {x : Int} (h : wfI .u32 x) : 0 ≤ x ∧ x ≤ 4294967295 := by
  simp [wfI, Lit.wf, IntKind.min, IntKind.max, IntKind.bits, IntKind.signed] at h
  omega
theorem gu8_bd {x : Int} (h : wfI .u8 x) : 0 ≤ x ∧ x ≤ 255 := by
  simp [wfI, Lit.wf, IntKind.min, IntKind.max, IntKind.bits, IntKind.signed] at h
  omega
theorem guardForms_holds : Rows.GuardFormsSaid := guardForms_of fun _ _ t _ _ _ hg hf _ hn ho hi => gforms_law (wf_guard hg) (wf_frame hf) t (gu32_bd hn) (gu32_bd ho) (gu8_bd hi)
end
end Go.Proofs.YtpngoffbogingaaGreat
