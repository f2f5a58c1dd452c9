/- Part of the proof of TellLines: its text AmLines4. Conditions: none. -/
import Derived.Test.YtcaaedohfmdikaaGreatDoorAmLines3
set_option linter.unusedVariables false
set_option linter.unusedSimpArgs false
open Go Go.Am Go.Proofs Go.RowKit
namespace Go.Am

/-! ### TellLines: what its text calls, by the machine of the seat -/
theorem Bld.bump {N m : Nat} {h : Heap} {l : Nat} {s : List UInt8} (hb : Bld N h l s) (hm : h.next ≤ m) : Bld N { h with next := m } l s := by
  rcases hb with ⟨h1, h2⟩ | ⟨h1, b, fz, h2, h3, h4, h5, h6, h7, h8⟩
  · exact .inl ⟨h1, h2⟩
  · exact .inr ⟨h1, b, fz, h2, Nat.lt_of_lt_of_le h3 hm, h4, h5, h6, h7, h8⟩

theorem IT_none5 {f : FuncId} (args : List AV) (h : Heap) (hf : (f == 5 || f == 24 || f == 25 || f == 67 || f == 68 || f == 126) = true) : IT f args h = none := by
  simp only [Bool.or_eq_true, beq_iff_eq] at hf
  rcases hf with ((((rfl | rfl) | rfl) | rfl) | rfl) | rfl <;> exact IT_none (by decide) (by decide) (by decide) (by decide) (by decide) (by decide) (by decide) (by decide) (by simp [keysNo]) (by simp [extsOf])

theorem escape_IT (n : Nat) (l : Nat) (h : Heap) : callA Tryz.prog IT (n + 1) 211 [.ptr (some (l, 0))] h = .ok (.ptr (some (l, 0)), h) := by
  refine callA_some ?_
  simp [IT, I1, I0, keysNo, extsOf, extA]

set_option maxRecDepth 100000 in
theorem bcall_IT (n : Nat) (hn : 2 < n) : BCall (callA Tryz.prog IT n) := by
  obtain ⟨k, rfl⟩ : ∃ k, n = k + 1 := ⟨n - 1, by omega⟩
  obtain ⟨j, hj⟩ : ∃ j, k = j + 1 := ⟨k - 1, by omega⟩
  have he : ∀ (l : Nat) (h : Heap), callA Tryz.prog IT k 211 [.ptr (some (l, 0))] h = .ok (.ptr (some (l, 0)), h) := by
    intro l h; rw [hj]; exact escape_IT j l h
  refine ⟨fun l h x hg => ?_, fun l h x hg => ?_⟩
  · have hI := IT_none5 (f := 126) [.ptr (some (l, 0))] h rfl
    exact check_new IT k l h x hI hg (he l)
  · have hI := IT_none5 (f := 126) [.ptr (some (l, 0))] h rfl
    exact check_old IT k l h x hI hg

theorem strsOf_map (l : List (List UInt8)) : strsOf (l.map .str) = some l := by
  induction l with
  | nil => rfl
  | cons a l ih => simp [strsOf, ih]

theorem join_row {h : Heap} {N : Nat} {r : RowIn} (hr : RowOk h N r) (h1 : r.words.length ≤ 10) (h2 : ∀ w ∈ r.words, w.length ≤ 40) (m : Nat) : joinA [r.av, .str [32]] { h with next := m } = some (.str (Lib.join r.words [32]), { h with next := m }) := by
  obtain ⟨a, c, words⟩ := r
  simp only [RowIn.av]
  by_cases hw : words = []
  · subst hw
    cases a with
    | none => simp [joinA, Lib.join]
    | some p => obtain ⟨id, off⟩ := p; simp [joinA, Lib.join]
  · obtain ⟨id, el, hid, ha, hg⟩ := hr.2 hw
    simp only at ha hg
    subst ha
    have hlen : words.length ≠ 0 := fun e => hw (List.eq_nil_of_length_eq_zero e)
    have hc : getC (ones (words.map .str)) 1 0 words.length = some (words.map .str) := by
      have := getC_ones (l := words.map AV.str) (by simpa using hw)
      rwa [List.length_map] at this
    have hj : (Lib.join words [32]).length ≤ 410 := join_410 h1 h2
    have hg' : ({ h with next := m } : Heap).get id = some (.cells (ones (words.map .str)) 1 el true 0) := hg
    have hjl : (Lib.join words [32]).length ≤ 140737488355328 := by omega
    have h1' : words.length ≤ 1000 := by simp only at h1; omega
    simp [joinA, loadCellsA, hg', hc, strsOf_map, hlen, hjl, h1']

set_option maxRecDepth 100000 in
theorem lcall_IT (n : Nat) (hn : 60 < n) : LCall (callA Tryz.prog IT n) := by
  obtain ⟨k, rfl⟩ : ∃ k, n = k + 1 := ⟨n - 1, by omega⟩
  obtain ⟨j, hj⟩ : ∃ j, k = j + 1 := ⟨k - 1, by omega⟩
  have hB : BCall (callA Tryz.prog IT j) := bcall_IT j (by omega)
  refine ⟨?_, ?_⟩
  · intro h l N want r hb hN hl hr h1 h2 hw
    have hI := IT_none5 (f := 24) [.ptr (some (l, 0)), r.av] h rfl
    have hjl := join_410 h1 h2
    refine say_run IT k l h (fun h' => Bld N h' l (want ++ (Lib.join r.words [32] ++ [10])) ∧ Same N h h') r.av (Lib.join r.words [32]) (by omega) hI (by simp [RowIn.av, AV.same]) ?_ ?_
    · intro m
      rw [hj]
      exact join_IT j _ _ _ (join_row hr h1 h2 m)
    · intro m hm
      rw [hj]
      have hI2 := IT_none5 (f := 67) [.ptr (some (l, 0)), .str (Lib.join r.words [32] ++ [10])] { h with next := m } rfl
      obtain ⟨h', e1, e2, e3⟩ := write_run IT j l N want (Lib.join r.words [32] ++ [10]) { h with next := m } hI2 hB (hb.bump hm) (Nat.lt_of_lt_of_le hl hm) hN (by simp) (by omega) (by rw [List.length_append]; simp only [List.length_cons, List.length_nil]; omega)
      exact ⟨_, h', e1, e2, Nat.le_trans hm e3.1, e3.2⟩
  · intro h l N s hb hN hl hs
    have hI := IT_none5 (f := 25) [.ptr (some (l, 0))] h rfl
    have hI2 := IT_none5 (f := 68) [.ptr (some (l, 0))] h rfl
    have hq : (callA Tryz.prog IT k 68 [.ptr (some (l, 0))] h).all fun o => o.1 = .str s ∧ (o.1 = .str s ∧ (Bld N o.2 l s ∧ Same N h o.2)) := by
      rw [hj]
      by_cases h0 : s = []
      · subst h0
        exact Res.all_mono (fun o ho => ⟨ho.1, ho⟩) (bstr_run0 IT j l N h hI2 hb hl hN)
      · exact Res.all_mono (fun o ho => ⟨ho.1, ho⟩) (bstr_run IT j l N s h hI2 hb hl hN h0 hs)
    exact lstr_run IT k l h _ s hI hq
/-! ### What comes in, as objects that are only read -/
/-- A line that comes in, in the real memory. -/
structure InRow (w : World) (v : Value) (A : Option Addr) (C : Nat) (ws : List ByteArray) : Prop where
  val : v = .slice A ws.length C
  isnil : A = none → ws = [] ∧ C = 0
  le : ws.length ≤ C
  spot : ∀ a, A = some a → C ≠ 0 → a.spot = none
  cells : ∀ a, A = some a → ∀ j s, ws[j]? = some s → w.cell? (a.add j) = some (.string s)

theorem add_off (a : Addr) (h : a.spot = none) (j : Nat) : a.add j = ⟨a.block, a.off + j, none⟩ := by
  obtain ⟨b, o, s⟩ := a
  simp only at h
  subst h
  exact Addr.add_lit b o j

def totAt (hp : Array Obj) (b : Nat) : Nat := match hp[b]? with
  | some (.cells cs _ _) => cs.size
  | _ => 0
def elAt (hp : Array Obj) (b : Nat) : TypeId := match hp[b]? with
  | some (.cells _ e _) => e
  | _ => 0

/-- Cells that are known, as an object that is only read. -/
theorem orel_ro {ι : Inj} {h : Heap} {w : World} {a : Addr} {vs : List AV} (hne : vs ≠ []) (hsp : a.spot = none) {f : Nat → Value} (hc : ∀ j, j < vs.length → w.cell? (a.add j) = some (f j)) (hv : ∀ j v, vs[j]? = some v → VRel ι v (f j)) :
    a.block < w.heap.size ∧ ORel ι h w.heap ⟨a.block, a.off, totAt w.heap a.block, vs.length, 1⟩ (.cells (ones vs) 1 (elAt w.heap a.block) true 0) := by
  have hpos : 0 < vs.length := List.length_pos_iff.2 hne
  have h0 := hc 0 hpos
  rw [add_off a hsp 0] at h0
  obtain ⟨cs, e, fr, hb⟩ : ∃ cs e fr, w.heap[a.block]? = some (.cells cs e fr) := by
    unfold World.cell? at h0
    split at h0
    · rename_i cs e fr hh; exact ⟨cs, e, fr, hh⟩
    · cases h0
  have hat : ∀ j, j < vs.length → cs[a.off + j]? = some (f j) := by
    intro j hj
    have := hc j hj
    rw [add_off a hsp j] at this
    simpa [World.cell?, hb] using this
  have hlast := hat (vs.length - 1) (by omega)
  have hsz : a.off + vs.length ≤ cs.size := by
    have := (Array.getElem?_eq_some_iff.1 hlast).1
    omega
  refine ⟨(Array.getElem?_eq_some_iff.1 hb).1, cs, fr, by simp [elAt, hb], by omega, ?_, rfl, by rw [ones_flat], by simp [totAt, hb], by simpa [totAt, hb] using hsz, ?_, fun e => (by cases e), Nat.mod_one _⟩
  · intro x hx
    simp only [ones, List.mem_map] at hx
    obtain ⟨v, _, rfl⟩ := hx
    rfl
  · rw [ones_flat]
    have key : (cs.toList.drop a.off).take vs.length = (List.range vs.length).map f := by
      apply List.ext_getElem?
      intro j
      rw [List.getElem?_take]
      by_cases hj : j < vs.length
      · rw [if_pos hj, List.getElem?_drop, List.getElem?_map, List.getElem?_range hj]
        have := hat j hj
        simpa using this
      · rw [if_neg hj, List.getElem?_eq_none (by simpa using hj)]
    rw [key]
    clear key hlast hsz hat h0 hc hpos hne hb
    have gen : ∀ (l : List AV) (g : Nat → Value), (∀ j v, l[j]? = some v → VRel ι v (g j)) → F2 (VRel ι) l ((List.range l.length).map g) := by
      intro l
      induction l with
      | nil => intro g _; exact .nil
      | cons a r ih =>
        intro g hg
        rw [List.length_cons, List.range_succ_eq_map, List.map_cons, List.map_map]
        exact .cons (hg 0 a rfl) (ih _ fun j v hj => hg (j + 1) v (by simpa using hj))
    exact gen vs f hv

theorem heapOf_get {l : List (Nat × AObj)} {n id : Nat} {o : AObj} (hm : (id, o) ∈ l) (hd : l.Pairwise fun p q => p.1 ≠ q.1) : (heapOf l n).get id = some o := by
  show (l.foldr (fun p (t : Tr AObj) => t.set p.1 p.2) Tr.nil).get id = some o
  induction l with
  | nil => cases hm
  | cons p l ih =>
    rw [List.foldr_cons, Tr.get_set]
    rw [List.pairwise_cons] at hd
    rcases List.mem_cons.1 hm with rfl | hm
    · rw [if_pos rfl]
    · rw [if_neg (fun e => hd.1 _ hm e.symm)]
      exact ih hm hd.2
theorem heapOf_mem {l : List (Nat × AObj)} {n id : Nat} {o : AObj} (hg : (heapOf l n).get id = some o) : (id, o) ∈ l := foldr_get hg

/-- From a run on the machine to a call, where what is known of memory is only read. -/
theorem calls_of_ro {f : FuncId} {args : List AV} {us : List Value} {w : World} {v : AV} {u : Value} {ι : Inj} {h : Heap} (hf : (callFunc f us.toArray).run Tryz.prog w = .ok (.enter f us.toArray) w) (hT : TabAt ⟨w.heap.size, fun b => w.heap[b]?⟩) {n : Nat} (hA : F2 (VRel ι) args us)
    (hR : R ⟨w.heap.size, fun b => w.heap[b]?⟩ ι h w.heap) (hro : ∀ id o, h.get id = some o → o.owns = false)
    (hr : (callA Tryz.prog IT n f args h).all fun o => o.1 = v) (hv : ∀ ι u', VRel ι v u' → u' = u) : Calls Tryz.prog f us.toArray w fun e w' => e = .returned u ∧ Below w.heap.size w w' := by
  rcases callT hT n ι h w f args us _ hR hA hr with ⟨_, hc⟩ | ⟨v', w', hc, _⟩
  · refine hc.mono ?_
    intro e w' he
    cases e with
    | returned v' =>
      obtain ⟨v2, h2, ι', hv2, k1, k2, k3⟩ := he
      simp only at hv2
      subst hv2
      have := hv _ _ k1
      subst this
      refine ⟨rfl, k3.os, k3.tape, k3.output, k3.size, fun b hb => k3.frame b hb ?_⟩
      rintro ⟨id, o, l, hg, ho, _⟩
      rw [hro id o hg] at ho
      cases ho
    | _ => cases he
  · exfalso
    rw [hf] at hc
    cases hc
end Go.Am
