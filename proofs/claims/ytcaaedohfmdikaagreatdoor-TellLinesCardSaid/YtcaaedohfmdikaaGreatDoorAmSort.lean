/- Part of the proof of TellLines: its text AmSort. Conditions: none. -/
import Derived.Test.YtcaaedohfmdikaaGreatDoorAmIso2
import Derived.Sort.KeysCollected
set_option linter.unusedVariables false
set_option linter.unusedSimpArgs false
noncomputable section
namespace Go.Am
open Go.RowKit Go.Maps Go.WideElems
open Go.Proofs (encStr)

section
variable {P : Program} {B : Floor} {ι : Inj} {h : Heap} {w w' : World}

/-- The world grows; nothing of ours turns. -/
theorem R.grow (hR : R B ι h w.heap) (hb : Below w.heap.size w w') : R B ι h w'.heap ∧ Step ι h w ι h w' := by
  refine ⟨hR.frameHeap hb.size (fun b hlt => hb.block b (Nat.lt_of_lt_of_le hlt hR.size)) fun id o l hg hd hl => ?_, fun _ _ => rfl, Nat.le_refl _, hb.size, fun b hlt _ => hb.block b hlt, fun _ _ ho => ho, fun _ _ hn => hn, fun _ _ hg _ _ => hg, hb.os, hb.tape, hb.output⟩
  obtain ⟨l', h1, h2, _⟩ := hR.obj id o hg hd
  rw [hl] at h1; cases h1
  exact hb.block _ h2

/-- Something new lies in the grown world. -/
theorem R.newAt (hR : R B ι h w.heap) (hb : Below w.heap.size w w') {l : Loc} {o : AObj} (hl : w.heap.size ≤ l.block) (hlt : l.block < w'.heap.size)
    (hown : o.owns = true) (ho : ORel (ι.add h.next l) (h.new o) w'.heap l o) :
    R B (ι.add h.next l) (h.new o) w'.heap ∧ Step ι h w (ι.add h.next l) (h.new o) w' := by
  have hn : ι h.next = none := (hR.fresh _ (Nat.le_refl _)).2
  have hBs := hR.size
  have h1 := (hR.grow hb).1.bump (h.next + 1) (by omega)
  have h2 := h1.place (id := h.next) (l := l) (by simp) hn
  have hput : h.new o = ({ h with next := h.next + 1 } : Heap).put h.next o := rfl
  have hget : ({ h with next := h.next + 1 } : Heap).get h.next = none := (hR.fresh _ (Nat.le_refl _)).1
  refine ⟨?_, ?_⟩
  · rw [hput]
    refine h2.commit (Inj.add_same _ _ _) (.inl hget) (by omega) hlt (by simp) (by rw [← hput]; exact ho) ?_
    intro j oj lj hj hgj hd hlj
    rw [Inj.add_ne hj] at hlj
    obtain ⟨l1, e1, e2, _⟩ := hR.obj j oj hgj hd
    rw [hlj] at e1; cases e1
    omega
  · refine ⟨fun id hid => Inj.add_ne (by omega), by simp, hb.size, fun b hlt _ => hb.block b hlt, ?_, fun id hid hg => by rw [Heap.get_new_ne (by omega)]; exact hg, ?_, hb.os, hb.tape, hb.output⟩
    · intro b hb' hown'
      rw [hput] at hown'
      rcases Own.put hown' with ⟨l', _, e1, e2⟩ | hown'
      · rw [Inj.add_same] at e1; cases e1; omega
      · exact Own.place (h := h) hR hn hown'
    · intro id oj hgj hd hoj
      rw [Heap.get_new] at hgj
      by_cases e : id = h.next
      · subst e; simp only [if_true, Option.some.injEq] at hgj; subst hgj; rw [hown] at hoj; cases hoj
      · rw [if_neg e] at hgj; exact hgj

/-! ### maps.Keys -/
/-- What maps.Keys does, at whatever map. -/
def KeysAt (P : Program) (f g : FuncId) (T : TypeId) : Prop :=
  (∃ fn, P.funcs[f]? = some fn ∧ fn.body.isNone = false) ∧
  ∀ (mb : Option Nat) (W : World), Calls P f #[.map mb] W fun e w' => e = .returned (.func (.func g) #[] #[.pointer (some ⟨W.heap.size, 0, none⟩)]) ∧ w' = W.alloc (.cells #[.map mb] T)

def keysA (g : FuncId) (T : TypeId) (args : List AV) (h : Heap) : Option (AV × Heap) :=
  match args with
  | [.map m] => some (.func (.func g) [] [.ptr (some (h.next, 0))], h.new (.key (.map m) T))
  | _ => none

theorem keys_sound {f g : FuncId} {T : TypeId} (hk : KeysAt P f g T) (hR : R B ι h w.heap) {args : List AV} {us : List Value} {v : AV} {h' : Heap} (ha : F2 (VRel ι) args us) (hv : keysA g T args h = some (v, h')) {Q : AV × Heap → Prop} (hq : Q (v, h')) :
    CallRes P f us w (RetOk B ι h w Q) := by
  unfold keysA at hv
  split at hv
  · rename_i m
    simp only [Option.some.injEq, Prod.mk.injEq] at hv
    obtain ⟨rfl, rfl⟩ := hv
    cases ha with
    | cons h1 ha =>
      cases ha
      rename_i u
      obtain ⟨mb, rfl⟩ : ∃ mb, u = .map mb := by
        cases m with
        | none => rw [VRel] at h1; exact ⟨none, h1⟩
        | some r => rw [VRel] at h1; obtain ⟨l, _, rfl⟩ := h1; exact ⟨some l.block, rfl⟩
      have hn : ι h.next = none := (hR.fresh _ (Nat.le_refl _)).2
      refine .inl ⟨hk.1, (hk.2 mb w).mono ?_⟩
      rintro e w' ⟨rfl, rfl⟩
      obtain ⟨l, hl⟩ : ∃ l : Loc, l = ⟨w.heap.size, 0, 1, 1, 1⟩ := ⟨_, rfl⟩
      have hlb : l.block = w.heap.size := by rw [hl]
      have hor : ORel (ι.add h.next l) (h.new (.key (.map m) T)) (w.heap.push (.cells #[.map mb] T)) l (.key (.map m) T) :=
        ⟨by rw [hl], .map mb, h1.mono (Inj.le_add hn), by rw [hlb]; simp⟩
      obtain ⟨g1, g2, g3⟩ := R.new hR (.cells #[.map mb] T) hlb rfl hor
      refine ⟨_, _, _, hq, ?_, g1, g2⟩
      rw [VRel]
      refine ⟨[], [.pointer (some ⟨w.heap.size, 0, none⟩)], rfl, by rw [VRelL], ?_⟩
      rw [VRelL]
      refine ⟨_, [], rfl, ?_, by rw [VRelL]⟩
      rw [VRel]
      exact ⟨l, Inj.add_same _ _ _, by rw [hl]⟩
  · cases hv

/-! ### slices.Sorted of them -/
def insK (x : List UInt8) : List (List UInt8) → List (List UInt8)
  | [] => [x]
  | y :: r => cond (leB x y) (x :: y :: r) (y :: insK x r)
def sortK : List (List UInt8) → List (List UInt8)
  | [] => []
  | x :: r => insK x (sortK r)

theorem insK_perm (x : List UInt8) : ∀ l, (insK x l).Perm (x :: l)
  | [] => .refl _
  | y :: r => by
    simp only [insK]
    cases leB x y with
    | true => exact .refl _
    | false => exact ((insK_perm x r).cons y).trans (.swap _ _ _)
theorem sortK_perm : ∀ l, (sortK l).Perm l
  | [] => .refl _
  | x :: r => (insK_perm x _).trans ((sortK_perm r).cons x)
theorem insK_pw (x : List UInt8) : ∀ l : List (List UInt8), (l.Pairwise fun a b => leB a b = true) → (insK x l).Pairwise fun a b => leB a b = true
  | [], _ => by simp [insK]
  | y :: r, hp => by
    simp only [insK]
    obtain ⟨h1, h2⟩ := List.pairwise_cons.1 hp
    cases hxy : leB x y with
    | true =>
      refine List.pairwise_cons.2 ⟨fun z hz => ?_, hp⟩
      rcases List.mem_cons.1 hz with rfl | hz
      · exact hxy
      · have := h1 z hz
        simp only [leB, decide_eq_true_eq] at *
        exact List.le_trans hxy this
    | false =>
      refine List.pairwise_cons.2 ⟨fun z hz => ?_, insK_pw x r h2⟩
      rcases List.mem_cons.1 ((insK_perm x r).subset hz) with rfl | hz
      · have := List.le_total z y
        simp only [leB, decide_eq_true_eq, decide_eq_false_iff_not] at *
        exact this.resolve_left hxy
      · exact h1 z hz
theorem sortK_pw : ∀ l : List (List UInt8), (sortK l).Pairwise fun a b => leB a b = true
  | [] => .nil
  | x :: r => insK_pw x _ (sortK_pw r)

theorem sortK_eq (l : List (List UInt8)) {l' : List (List UInt8)} (hp : l'.Perm l) : l'.mergeSort leB = sortK l := by
  have tr : ∀ a b c : List UInt8, leB a b = true → leB b c = true → leB a c = true := fun a b c h1 h2 => by simp only [leB, decide_eq_true_eq] at *; exact List.le_trans h1 h2
  have to : ∀ a b : List UInt8, (leB a b || leB b a) = true := fun a b => by simp only [leB, Bool.or_eq_true, decide_eq_true_eq]; exact List.le_total a b
  refine List.Perm.eq_of_pairwise (le := fun a b => leB a b = true) (fun a b _ _ h1 h2 => ?_) (List.pairwise_mergeSort tr to l') (sortK_pw l) (((List.mergeSort_perm l' leB).trans hp).trans (sortK_perm l).symm)
  simp only [leB, decide_eq_true_eq] at h1 h2
  exact List.le_antisymm h1 h2

/-- A map's keys, as strings. -/
def keyStr : AV → List UInt8
  | .str s => s
  | _ => []
def isStrK (v : AV) : Bool :=
  match v with
  | .str s => Nat.ble s.length 1000
  | _ => false

theorem VRel_key {k : AV} {u : Value} (hk : isStrK k = true) (hv : VRel ι k u) : u = encStr (keyStr k) ∧ (keyStr k).length ≤ 1000 := by
  cases k <;> simp [isStrK] at hk
  rw [VRel] at hv
  exact ⟨hv, hk⟩

theorem keys_map {es : List (AV × AV)} {l : List MapEntry} (hk : ∀ p ∈ es, isStrK p.1 = true) (hf : F2 (ERel ι) es l) : l.map (·.key) = (es.map fun p => keyStr p.1).map encStr := by
  induction hf with
  | nil => rfl
  | cons h1 _ ih =>
    rw [List.map_cons, List.map_cons, List.map_cons, ih (fun p hp => hk p (List.mem_cons_of_mem _ hp)), (VRel_key (hk _ (List.mem_cons_self ..)) h1.1).1]

/-- A reader that looks at nothing. -/
def noElem : Value → Option (DataW Unit × List MemPlace) := fun _ => some (.nil, [])

theorem insert_perm {H : Type} (x : Lit × DataW H) : ∀ l, (DataW.insert x l).Perm (x :: l)
  | [] => .refl _
  | y :: r => by
    simp only [DataW.insert]
    split
    · exact .refl _
    · exact ((insert_perm x r).cons y).trans (.swap _ _ _)
theorem foldr_insert_perm {H : Type} : ∀ l : List (Lit × DataW H), (l.foldr DataW.insert []).Perm l
  | [] => .refl _
  | x :: r => (insert_perm x _).trans ((foldr_insert_perm r).cons x)

theorem ownsMap_of {kt : TypeId} (hkt : P.underlying kt = some .string) {b : Nat} {es : List (AV × AV)} {res : Array MapEntry} {clock : Nat} (hb : w.heap[b]? = some (.map res clock)) (hm : MapRel ι es res clock)
    (hk : ∀ p ∈ es, isStrK p.1 = true) (hlen : es.length ≤ 1000) :
    ∃ D : DataW Unit, w.ownsMap P kt noElem b res.size D ∧ (strKeys D).Perm (es.map fun p => keyStr p.1) ∧ Maps.size D = es.length := by
  obtain ⟨l, hl1, hl2⟩ := hm.perm
  have hkm := keys_map hk hl2
  have hmax : (1000 : Nat) ≤ maxLen := by decide
  have hrd : ∀ x ∈ res.toList, ∃ s : List UInt8, x.key = encStr s ∧ rd P kt noElem x = some (.string s, .nil) := by
    intro x hx
    obtain ⟨p, hp, hr⟩ := hl2.mem' (hl1.symm.subset hx)
    obtain ⟨e1, e2⟩ := VRel_key (hk p hp) hr.1
    refine ⟨keyStr p.1, e1, ?_⟩
    have hko : keyOf P kt x.key = some (.string (keyStr p.1)) := by
      rw [e1]
      have := Go.WideMaps.keyOf_string_mk (P := P) (k := kt) hkt (s := ⟨(keyStr p.1).toArray⟩) (by show (keyStr p.1).toArray.size ≤ maxLen; simp; omega)
      simpa using this
    simp [rd, hko, noElem]
  have hln : res.size = es.length := by
    rw [hl2.length, ← Array.length_toList]; exact hl1.length_eq.symm
  have hnd : (es.map fun p => keyStr p.1).Nodup := by
    have := hm.keys
    refine List.pairwise_map.2 (this.imp_of_mem ?_)
    intro p q hp hq hne e
    have h1 := hk p hp
    have h2 := hk q hq
    obtain ⟨a, ha⟩ : ∃ a, p.1 = .str a := by revert h1; cases p.1 <;> simp [isStrK]
    obtain ⟨b, hb⟩ : ∃ b, q.1 = .str b := by revert h2; cases q.1 <;> simp [isStrK]
    rw [ha, hb] at hne e
    simp only [keyStr] at e
    subst e
    simp only [keyEq, eqB_refl] at hne
    cases hne
  refine ⟨_, ⟨res, clock, hb, ⟨by omega, ⟨hm.lt, hm.born, ?_⟩, fun x hx => let ⟨s, _, h2⟩ := hrd x hx; ⟨_, h2⟩⟩, Nat.le_refl _, rfl⟩, ?_, ?_⟩
  · refine ((hl1.map (·.key)).nodup_iff).1 ?_
    rw [hkm]
    exact List.pairwise_map.2 (hnd.imp fun hne e => hne (encStr_inj e))
  · show ((res.toList.map (rg P kt noElem)).foldr DataW.insert [] |>.map fun p => strOf p.1).Perm _
    refine ((foldr_insert_perm _).map _).trans ?_
    rw [List.map_map]
    have e1 : (res.toList.map ((fun p : Lit × DataW Unit => strOf p.1) ∘ rg P kt noElem)).map encStr = res.toList.map (·.key) := by
      rw [List.map_map]
      apply List.map_congr_left
      intro x hx
      obtain ⟨s, h1, h2⟩ := hrd x hx
      simp only [Function.comp]
      rw [rg_of h2, h1]
      rfl
    have e2 : (res.toList.map (·.key)).Perm ((es.map fun p => keyStr p.1).map encStr) := by
      rw [← hkm]; exact (hl1.map _).symm
    rw [← e1] at e2
    have e3 := e2.map (fun v : Value => match v with | .string s => s.data.toList | _ => [])
    simpa [List.map_map, Function.comp_def, encStr] using e3
  · show ((res.toList.map (rg P kt noElem)).foldr DataW.insert []).length = _
    rw [(foldr_insert_perm _).length_eq, List.length_map, Array.length_toList, hln]

/-- What slices.Sorted does with the keys of a map. -/
def SortedAt (P : Program) (f : FuncId) (g : FuncId) (T K : TypeId) : Prop :=
  (∃ fn, P.funcs[f]? = some fn ∧ fn.body.isNone = false) ∧ P.underlying K = some .string ∧
  (∀ (c : Nat) (W : World) (hc : W.heap[c]? = some (.cells #[.map none] T)), Calls P f #[.func (.func g) #[] #[.pointer (some ⟨c, 0, none⟩)]] W fun e w' => ∃ (v : Value) (ss : List (List UInt8)), e = .returned v ∧ ss = [] ∧
      w'.ownsRow W.heap.size K 1 v ss.length ((ss.mergeSort leB).map encStr) ∧ (v = .slice none 0 0 ↔ ss = []) ∧ Below W.heap.size W w') ∧
  (∀ (c b nn : Nat) (D : DataW Unit) (W : World) (hc : W.heap[c]? = some (.cells #[.map (some b)] T)) (hown : W.ownsMap P K noElem b nn D) (hmax : Maps.size D ≤ 1000), Calls P f #[.func (.func g) #[] #[.pointer (some ⟨c, 0, none⟩)]] W fun e w' =>
      ∃ (v : Value) (ss : List (List UInt8)), e = .returned v ∧ ss.Perm (strKeys D) ∧
      w'.ownsRow W.heap.size K 1 v ss.length ((ss.mergeSort leB).map encStr) ∧ (v = .slice none 0 0 ↔ ss = []) ∧ Below W.heap.size W w')

def rowOf (K : TypeId) (ks : List (List UInt8)) (h : Heap) : AV × Heap :=
  match ks with
  | [] => (.slice none 0 (some 0), h)
  | _ => (.slice (some (h.next, 0)) ks.length none, h.new (.cells (ks.map fun s => [.str s]) 1 K false 0))

def sortedA (gs : FuncId → Option TypeId) (K : TypeId) (args : List AV) (h : Heap) : Option (AV × Heap) :=
  match args with
  | [.func (.func g) [] [.ptr (some (c, 0))]] =>
    match gs g, h.get c with
    | some T, some (.key (.map m) T') =>
      match entriesA h m with
      | some es => if Nat.beq T T' && Nat.ble es.length 1000 && es.all (fun p => isStrK p.1) then some (rowOf K (sortK (es.map fun p => keyStr p.1)) h) else none
      | none => none
    | _, _ => none
  | _ => none

theorem row_rel {K : TypeId} (hR : R B ι h w.heap) {v : Value} {ks : List (List UInt8)} (hrow : w'.ownsRow w.heap.size K 1 v ks.length (ks.map encStr)) (hnil : v = .slice none 0 0 ↔ ks = []) (hb : Below w.heap.size w w') {Q : AV × Heap → Prop} (hq : Q (rowOf K ks h)) :
    RetOk B ι h w Q (.returned v) w' := by
  have hn : ι h.next = none := (hR.fresh _ (Nat.le_refl _)).2
  cases ks with
  | nil =>
    have := hnil.2 rfl
    subst this
    obtain ⟨g1, g2⟩ := hR.grow hb
    exact ⟨_, _, _, hq, ⟨rfl, rfl, rfl⟩, g1, g2⟩
  | cons k ks =>
    have hne : v ≠ .slice none 0 0 := fun e => by have := hnil.1 e; cases this
    obtain ⟨hlen, hrow⟩ := hrow
    rcases hrow with ⟨e, _⟩ | ⟨g, cap, cur, rfl, hge, hgb, hle, hcap, hsz, htake⟩
    · exact absurd e hne
    · obtain ⟨n, hnn⟩ : ∃ n, n = (k :: ks).length := ⟨_, rfl⟩
      obtain ⟨l, hl⟩ : ∃ l : Loc, l = ⟨g, 0, cur.size, n, 1⟩ := ⟨_, rfl⟩
      have hcur : n ≤ cur.size := by rw [hnn]; omega
      have hflat : ((k :: ks).map fun s => [AV.str s]).flatten = (k :: ks).map AV.str := by
        rw [← List.flatMap_def]
        induction (k :: ks) with
        | nil => rfl
        | cons a r ih => rw [List.flatMap_cons, ih]; rfl
      have hor : ORel (ι.add h.next l) (h.new (.cells ((k :: ks).map fun s => [.str s]) 1 K false 0)) w'.heap l (.cells ((k :: ks).map fun s => [.str s]) 1 K false 0) := by
        refine ⟨cur, (0, 0), by rw [hl]; exact hgb, by omega, ?_, by rw [hl], ?_, by rw [hl], ?_, ?_, fun _ => ⟨frOk_zero _ _, fun _ => rfl, frHi_zero _ _⟩, by rw [hl]; rfl⟩
        · intro e he
          obtain ⟨s, _, rfl⟩ := List.mem_map.1 he
          rfl
        · rw [hl, hflat, List.length_map]; exact hnn
        · rw [hl]; simpa using hcur
        · rw [hflat, hl]
          simp only [List.drop_zero]
          rw [Nat.mul_one] at htake
          rw [hnn, htake]
          have : ∀ x : List (List UInt8), F2 (VRel (ι.add h.next ⟨g, 0, cur.size, n, 1⟩)) (x.map AV.str) (x.map encStr) := by
            intro x
            induction x with
            | nil => exact .nil
            | cons a x ih => exact .cons (by rw [VRel]) ih
          simpa [hnn] using this (k :: ks)
      have hlt : l.block < w'.heap.size := by
        rw [hl]
        exact (Array.getElem?_eq_some_iff.1 hgb).1
      obtain ⟨g1, g2⟩ := R.newAt hR hb (l := l) (by rw [hl]; exact hge) hlt rfl hor
      refine ⟨_, _, _, hq, ?_, g1, g2⟩
      show VRel _ (.slice (some (h.next, 0)) (k :: ks).length none) _
      rw [VRel]
      refine ⟨l, ⟨g, 0, none⟩, cap, Inj.add_same _ _ _, rfl, hle, .inl ⟨by rw [hl], ?_, ?_⟩⟩
      · rw [hl]; simp; omega
      · rw [hl]; simp; omega

theorem sorted_sound {f : FuncId} {gs : FuncId → Option TypeId} {K : TypeId} (hs : ∀ g T, gs g = some T → SortedAt P f g T K) (hR : R B ι h w.heap) {args : List AV} {us : List Value} {v : AV} {h' : Heap} (ha : F2 (VRel ι) args us) (hv : sortedA gs K args h = some (v, h')) {Q : AV × Heap → Prop} (hq : Q (v, h')) :
    CallRes P f us w (RetOk B ι h w Q) := by
  unfold sortedA at hv
  split at hv
  rotate_left
  · cases hv
  rename_i g c
  split at hv
  rotate_left
  · cases hv
  rename_i T m T' hgs hgc
  split at hv
  rotate_left
  · cases hv
  rename_i es hes
  split at hv
  rotate_left
  · cases hv
  rename_i hcond
  simp only [Bool.and_eq_true, List.all_eq_true] at hcond
  obtain ⟨⟨hT, hlen⟩, hk⟩ := hcond
  have hT := Nat.eq_of_beq_eq_true hT
  subst hT
  have hlen := Nat.le_of_ble_eq_true hlen
  obtain ⟨hfn, hK, hnone, hsome⟩ := hs g T hgs
  simp only [Option.some.injEq] at hv
  cases ha with
  | cons h1 ha =>
    cases ha
    rw [VRel] at h1
    obtain ⟨fs, cs, rfl, h2, h3⟩ := h1
    rw [VRelL] at h2; subst h2
    rw [VRelL] at h3
    obtain ⟨y, r, rfl, h3, h4⟩ := h3
    rw [VRelL] at h4; subst h4
    rw [VRel] at h3
    obtain ⟨l, hl, rfl⟩ := h3
    obtain ⟨l', hl', hlt, hb0, u, hu, hcell⟩ := hR.obj c _ hgc rfl
    rw [hl] at hl'; cases hl'
    rw [hb0]
    refine .inl ⟨hfn, ?_⟩
    cases m with
    | none =>
      rw [VRel] at hu; subst hu
      simp only [entriesA, Option.some.injEq] at hes; subst hes
      refine (hnone l.block w hcell).mono ?_
      rintro e w' ⟨v', ss, rfl, rfl, hrow, hnil, hb⟩
      have : ([] : List (List UInt8)).mergeSort leB = [] := by simp
      rw [this] at hrow
      exact row_rel (ks := []) hR hrow hnil hb (by rw [← hv] at hq; exact hq)
    | some r =>
      obtain ⟨ver, hm⟩ : ∃ ver, h.get r = some (.map es ver) := by
        simp only [entriesA] at hes
        split at hes
        · rename_i es' ver he
          cases hes
          exact ⟨ver, he⟩
        · cases hes
      obtain ⟨lm, res, clock, hlm, rfl, hbm, hmr⟩ := map_of hR hm hu
      obtain ⟨D, hD1, hD2, hD3⟩ := ownsMap_of (P := P) (w := w) hK hbm hmr hk hlen
      refine (hsome l.block lm.block res.size D w hcell hD1 (by omega)).mono ?_
      rintro e w' ⟨v', ss, rfl, hp, hrow, hnil, hb⟩
      have hsort := sortK_eq (es.map fun p => keyStr p.1) (hp.trans hD2)
      have hlen2 : ss.length = (sortK (es.map fun p => keyStr p.1)).length := by
        rw [(sortK_perm _).length_eq, (hp.trans hD2).length_eq]
      rw [hsort, hlen2] at hrow
      refine row_rel hR hrow ?_ hb (by rw [hv]; exact hq)
      rw [hnil]
      constructor
      · rintro rfl
        exact List.eq_nil_of_length_eq_zero hlen2.symm
      · intro e
        rw [e] at hlen2
        exact List.eq_nil_of_length_eq_zero hlen2
end
end Go.Am
end
