/- Part of the proof of TellLines: its text AmClone. Conditions: none. -/
import Derived.Test.YtcaaedohfmdikaaGreatDoorAmIso2
set_option linter.unusedVariables false
set_option linter.unusedSimpArgs false
noncomputable section
namespace Go.Am

/-! ### A tree's clone: nodes by numbers, each with a map of its own -/
/-- A node: is it a directory, its links, its bytes, its map. -/
def nodeA (h : Heap) (p : AV × AV) : Option (AV × AV × AV × Option Nat) :=
  match p.2 with
  | .ptr (some (x, xo)) => match h.get x with
    | some (.cells els sz _ _ _) => match getC els sz xo 1, getC els sz (xo + 1) 1, getC els sz (xo + 2) 1, getC els sz (xo + 3) 1 with
      | some [d], some [l], some [b], some [.map k] => if d.cellOk && l.cellOk && b.cellOk && (AV.same d d && AV.same l l && AV.same b b) then some (d, l, b, k) else none
      | _, _, _, _ => none
    | _ => none
  | _ => none

def kidsA (h : Heap) : Option Nat → Option (Option AObj)
  | none => some none
  | some r => match h.get r with
    | some (.map es _) => some (some (.map es 0))
    | _ => none

def cloneEnt : Nat → List (AV × AV) → List (AV × AV)
  | _, [] => []
  | i, p :: r => (p.1, .ptr (some (i, 0))) :: cloneEnt (i + 2) r

def cloneObs (N : TypeId) (h : Heap) : Nat → List (AV × AV) → Option (List (Option AObj))
  | _, [] => some []
  | i, p :: r => match nodeA h p with
    | some (d, l, b, k) => match kidsA h k with
      | some ko => match cloneObs N h (i + 2) r with
        | some t => some (some (.cells [[d, l, b, .map (k.map fun _ => i + 1)]] 4 N false 0) :: ko :: t)
        | none => none
      | none => none
    | none => none

def cloneObjs (T : TypeId) (nx qt : AV) (b : Nat) (es : List (AV × AV)) (t : List (Option AObj)) : List (Option AObj) :=
  some (.cells [[.map (some (b + 1)), nx, qt]] 3 T false 0) :: some (.map (cloneEnt (b + 2) es) 0) :: t

def cloneHeap (T : TypeId) (nx qt : AV) (h : Heap) (es : List (AV × AV)) (t : List (Option AObj)) : Heap :=
  { putAll (cloneObjs T nx qt h.next es t) h.next h with next := h.next + (t.length + 2) }

/-- The numbers of what is new. -/
def idsOf (u M : Nat) (D : List ((AV × AV) × Nat × Nat)) : List Nat := u :: M :: D.flatMap fun d => [d.2.1, d.2.2]

def NodeEnd (N : TypeId) (h0 g1 : Heap) (d : (AV × AV) × Nat × Nat) : Prop :=
  ∃ dir lk by_ k, nodeA h0 d.1 = some (dir, lk, by_, k) ∧ g1.get d.2.1 = some (.cells [[dir, lk, by_, .map (k.map fun _ => d.2.2)]] 4 N false 0) ∧
    ∀ r, k = some r → ∃ es ver ver', h0.get r = some (.map es ver) ∧ g1.get d.2.2 = some (.map es ver')

/-- What the machine comes to, in whatever order. -/
structure CloneEnd (T N : TypeId) (h0 : Heap) (es : List (AV × AV)) (nx qt v : AV) (g1 : Heap) (D : List ((AV × AV) × Nat × Nat)) (u M : Nat) : Prop where
  val : v = .ptr (some (u, 0))
  old : ∀ id, id < h0.next → g1.get id = h0.get id
  obj : g1.get u = some (.cells [[.map (some M), nx, qt]] 3 T false 0)
  map : ∃ ver, g1.get M = some (.map (D.map fun d => (d.1.1, .ptr (some (d.2.1, 0)))) ver)
  perm : (D.map (·.1)).Perm es
  node : ∀ d ∈ D, NodeEnd N h0 g1 d
  nodup : (idsOf u M D).Nodup
  ge : ∀ id ∈ idsOf u M D, h0.next ≤ id

theorem perm_map_inv {α β : Type} (f : α → β) : ∀ {l : List α} {m : List β}, (l.map f).Perm m → ∃ l' : List α, l'.Perm l ∧ l'.map f = m := by
  intro l m hp
  generalize he : l.map f = x at hp
  induction hp generalizing l with
  | nil => exact ⟨[], by rw [List.map_eq_nil_iff] at he; subst he; exact .refl _, rfl⟩
  | cons a _ ih =>
    obtain ⟨b, l2, rfl, rfl, rfl⟩ := List.map_eq_cons_iff.1 he
    obtain ⟨l', h1, h2⟩ := ih rfl
    exact ⟨b :: l', h1.cons _, by rw [List.map_cons, h2]⟩
  | swap a b r =>
    obtain ⟨c, l2, rfl, rfl, h2⟩ := List.map_eq_cons_iff.1 he
    obtain ⟨d, l3, rfl, rfl, rfl⟩ := List.map_eq_cons_iff.1 h2
    exact ⟨d :: c :: l3, .swap _ _ _, rfl⟩
  | trans _ _ ih1 ih2 =>
    obtain ⟨l1, h1, h2⟩ := ih1 he
    obtain ⟨l2, h3, h4⟩ := ih2 h2
    exact ⟨l2, h3.trans h1, h4⟩

theorem CloneEnd.reorder {T N : TypeId} {h0 : Heap} {es : List (AV × AV)} {nx qt v : AV} {g1 : Heap} {D : List ((AV × AV) × Nat × Nat)} {u M : Nat} (hc : CloneEnd T N h0 es nx qt v g1 D u M) :
    ∃ D' : List ((AV × AV) × Nat × Nat), D'.Perm D ∧ D'.map (·.1) = es ∧ (∀ d ∈ D', NodeEnd N h0 g1 d) ∧ (idsOf u M D').Nodup ∧ (∀ id ∈ idsOf u M D', h0.next ≤ id) := by
  obtain ⟨D', h1, h2⟩ := perm_map_inv _ hc.perm
  have hids : (idsOf u M D').Perm (idsOf u M D) := ((h1.flatMap_right _).cons M).cons u
  exact ⟨D', h1, h2, fun d hd => hc.node d (h1.subset hd), hids.nodup_iff.2 hc.nodup, fun id hid => hc.ge id (hids.subset hid)⟩

theorem cloneObs_length {N : TypeId} {h : Heap} : ∀ {es : List (AV × AV)} {i : Nat} {t : List (Option AObj)}, cloneObs N h i es = some t → t.length = 2 * es.length
  | [], i, t, ht => by simp only [cloneObs, Option.some.injEq] at ht; subst ht; rfl
  | p :: r, i, t, ht => by
    simp only [cloneObs] at ht
    split at ht
    · split at ht
      · split at ht
        · rename_i t' ht'
          simp only [Option.some.injEq] at ht; subst ht
          simp [cloneObs_length ht']; omega
        · cases ht
      · cases ht
    · cases ht

section
variable {B B0 : Floor} {ι0 ι1 ι2 : Inj} {h0 g1 g2 : Heap} {hp0 hp : Array Obj}

/-- Objects told anew. -/
def Retold (ι1 ι2 : Inj) (g1 g2 : Heap) (hp : Array Obj) (x : Nat) (o : AObj) : Prop :=
  o.owns = true ∧ ∃ o1, g1.get x = some o1 ∧ o1.owns = true ∧ ∀ l, ORel ι1 g1 hp l o1 → ORel ι2 g2 hp l o

theorem goes_old (hR0 : R B0 ι0 h0 hp0) (hle1 : ι0.le ι1) (hle2 : ι0.le ι2) {p : AV × AV} {d l b : AV} {k : Option Nat} (hn : nodeA h0 p = some (d, l, b, k)) :
    Goes ι1 ι2 d d ∧ Goes ι1 ι2 l l ∧ Goes ι1 ι2 b b := by
  unfold nodeA at hn
  split at hn
  rotate_left
  · cases hn
  rename_i x xo hpx
  split at hn
  rotate_left
  · cases hn
  rename_i els sz el ro fz hx
  split at hn
  rotate_left
  · cases hn
  rename_i d' l' b' k' e1 e2 e3 e4
  split at hn
  rotate_left
  · cases hn
  rename_i hok
  simp only [Option.some.injEq, Prod.mk.injEq] at hn
  obtain ⟨rfl, rfl, rfl, rfl⟩ := hn
  simp only [Bool.and_eq_true] at hok
  obtain ⟨lx, hlx, _, cs, fr, h1, h2, h3, h4, h5, h6, h7, h8, h9⟩ := hR0.obj x _ hx rfl
  have key : ∀ off y, getC els sz off 1 = some [y] → Goes ι1 ι2 y y := by
    intro off y hg v hv
    obtain ⟨q1, q2⟩ := getC_spec h2 h3 hg
    have : y ∈ els.flatten := by
      have : y ∈ (els.flatten.drop off).take 1 := by rw [← q2]; simp
      exact List.mem_of_mem_drop (List.mem_of_mem_take this)
    obtain ⟨u, _, hu⟩ := h8.mem this
    exact VRel.swap hle1 hle2 hu hv
  exact ⟨key _ _ e1, key _ _ e2, key _ _ e3⟩

theorem nodeA_spec {p : AV × AV} {d l b : AV} {k : Option Nat} (hn : nodeA h0 p = some (d, l, b, k)) : ∃ x xo els sz el ro fz, p.2 = .ptr (some (x, xo)) ∧ h0.get x = some (.cells els sz el ro fz) ∧
    getC els sz xo 1 = some [d] ∧ getC els sz (xo + 1) 1 = some [l] ∧ getC els sz (xo + 2) 1 = some [b] ∧ getC els sz (xo + 3) 1 = some [.map k] ∧
    d.cellOk = true ∧ l.cellOk = true ∧ b.cellOk = true ∧ AV.same d d = true ∧ AV.same l l = true ∧ AV.same b b = true := by
  unfold nodeA at hn
  split at hn
  rotate_left
  · cases hn
  rename_i x xo hpx
  split at hn
  rotate_left
  · cases hn
  rename_i els sz el ro fz hx
  split at hn
  rotate_left
  · cases hn
  rename_i d' l' b' k' e1 e2 e3 e4
  split at hn
  rotate_left
  · cases hn
  rename_i hok
  simp only [Option.some.injEq, Prod.mk.injEq] at hn
  obtain ⟨rfl, rfl, rfl, rfl⟩ := hn
  simp only [Bool.and_eq_true] at hok
  exact ⟨x, xo, els, sz, el, ro, fz, hpx, hx, e1, e2, e3, e4, hok.1.1.1, hok.1.1.2, hok.1.2, hok.2.1.1, hok.2.1.2, hok.2.2⟩

theorem map_old (hR0 : R B0 ι0 h0 hp0) (hle1 : ι0.le ι1) (hle2 : ι0.le ι2) {r : Nat} {es : List (AV × AV)} {ver : Nat} (hm : h0.get r = some (.map es ver)) {res : Array MapEntry} {clock : Nat} (ho : MapRel ι1 es res clock) : MapRel ι2 es res clock := by
  obtain ⟨l, _, _, r0, c0, _, hmr⟩ := hR0.obj r _ hm rfl
  exact MapRel.swap hle1 hle2 hmr ho

theorem clone_nodes {N : TypeId} (hR0 : R B0 ι0 h0 hp0) (hle1 : ι0.le ι1) (hle2 : ι0.le ι2) : ∀ (D : List ((AV × AV) × Nat × Nat)) (i : Nat) (t : List (Option AObj)), cloneObs N h0 i (D.map (·.1)) = some t → (∀ d ∈ D, NodeEnd N h0 g1 d) →
    (∀ (k x : Nat), (D.flatMap fun d => [d.2.1, d.2.2])[k]? = some x → ι2 (i + k) = ι1 x) →
    ∀ (k : Nat) (o : AObj), t[k]? = some (some o) → ∃ x, (D.flatMap fun d => [d.2.1, d.2.2])[k]? = some x ∧ Retold ι1 ι2 g1 g2 hp x o
  | [], i, t, ht, hn, hf, k, o, hk => by
    simp only [List.map_nil, cloneObs, Option.some.injEq] at ht; subst ht
    simp at hk
  | d :: D, i, t, ht, hn, hf, k, o, hk => by
    simp only [List.map_cons, cloneObs] at ht
    split at ht
    rotate_left
    · cases ht
    rename_i dir lk by_ kk hnode
    split at ht
    rotate_left
    · cases ht
    rename_i ko hko
    split at ht
    rotate_left
    · cases ht
    rename_i t' ht'
    simp only [Option.some.injEq] at ht; subst ht
    obtain ⟨dir', lk', by', kk', q1, q2, q3⟩ := hn d (by simp)
    rw [hnode] at q1
    simp only [Option.some.injEq, Prod.mk.injEq] at q1
    obtain ⟨rfl, rfl, rfl, rfl⟩ := q1
    have hf0 : ι2 i = ι1 d.2.1 := hf 0 d.2.1 (by simp)
    have hf1 : ι2 (i + 1) = ι1 d.2.2 := hf 1 d.2.2 (by simp)
    match k with
    | 0 =>
      simp only [List.getElem?_cons_zero, Option.some.injEq] at hk; subst hk
      refine ⟨d.2.1, by simp, rfl, _, q2, rfl, fun l ho => ?_⟩
      obtain ⟨k1, k2, k3⟩ := goes_old hR0 hle1 hle2 hnode
      refine ORel.row (.cons k1 (.cons k2 (.cons k3 (.cons ?_ .nil)))) ho
      intro v hv
      cases kk with
      | none => exact hv
      | some r =>
        simp only [Option.map_some] at hv ⊢
        rw [VRel] at hv ⊢
        obtain ⟨l', hl', rfl⟩ := hv
        exact ⟨l', by rw [hf1]; exact hl', rfl⟩
    | 1 =>
      simp only [List.getElem?_cons_succ, List.getElem?_cons_zero, Option.some.injEq] at hk; subst hk
      cases kk with
      | none => simp [kidsA] at hko
      | some r =>
        obtain ⟨es, ver, ver', m1, m2⟩ := q3 r rfl
        simp only [kidsA, m1, Option.some.injEq] at hko; subst hko
        refine ⟨d.2.2, by simp, rfl, _, m2, rfl, fun l ho => ?_⟩
        obtain ⟨res, clock, k1, k2⟩ := ho
        exact ⟨res, clock, k1, map_old hR0 hle1 hle2 m1 k2⟩
    | k + 2 =>
      simp only [List.getElem?_cons_succ] at hk
      obtain ⟨x, hx, hr⟩ := clone_nodes hR0 hle1 hle2 D (i + 2) t' ht' (fun e he => hn e (by simp [he])) (fun k x hx => by
        have := hf (k + 2) x (by simpa using hx)
        rw [show i + 2 + k = i + (k + 2) by omega]; exact this) k o hk
      exact ⟨x, by simpa using hx, hr⟩

theorem clone_ent : ∀ (D : List ((AV × AV) × Nat × Nat)) (i : Nat), (∀ (k x : Nat), (D.flatMap fun d => [d.2.1, d.2.2])[k]? = some x → ι2 (i + k) = ι1 x) →
    F2 (fun a b => a.1 = b.1 ∧ Goes ι1 ι2 a.2 b.2) (cloneEnt i (D.map (·.1))) (D.map fun d => (d.1.1, .ptr (some (d.2.1, 0))))
  | [], i, hf => .nil
  | d :: D, i, hf => by
    simp only [List.map_cons, cloneEnt]
    refine .cons ⟨rfl, ?_⟩ (clone_ent D (i + 2) fun k x hx => by
      have := hf (k + 2) x (by simpa using hx)
      rw [show i + 2 + k = i + (k + 2) by omega]; exact this)
    intro v hv
    have hf0 : ι2 i = ι1 d.2.1 := hf 0 d.2.1 (by simp)
    rw [VRel] at hv ⊢
    obtain ⟨l, hl, rfl⟩ := hv
    exact ⟨l, by rw [hf0]; exact hl, rfl⟩

theorem cloneEnt_keys : ∀ (es : List (AV × AV)) (i : Nat), (cloneEnt i es).map (·.1) = es.map (·.1)
  | [], _ => rfl
  | p :: r, i => by simp only [cloneEnt, List.map_cons, cloneEnt_keys r]

/-- The clone, told in its one way. -/
theorem clone_recast {T N : TypeId} {es : List (AV × AV)} {nx qt v : AV} {D : List ((AV × AV) × Nat × Nat)} {u M : Nat} {t : List (Option AObj)} {w w' : World} (hR0 : R B ι0 h0 w.heap) (hR1 : R B ι1 g1 w'.heap) (hS : Step ι0 h0 w ι1 g1 w')
    (hc : CloneEnd T N h0 es nx qt v g1 D u M) (ht : cloneObs N h0 (h0.next + 2) es = some t) (hkeys : es.Pairwise fun p q => keyEq p.1 q.1 = some false) (hnx : ∀ ι2 : Inj, ι0.le ι2 → Goes ι1 ι2 nx nx ∧ Goes ι1 ι2 qt qt) {y : Value} (hy : VRel ι1 v y) :
    ∃ ι2, VRel ι2 (.ptr (some (h0.next, 0))) y ∧ R B ι2 (cloneHeap T nx qt h0 es t) w'.heap ∧ Step ι0 h0 w ι2 (cloneHeap T nx qt h0 es t) w' := by
  obtain ⟨D', hp', rfl, hnode, hnd, hge⟩ := hc.reorder
  have hle := hS.le hR0
  have hlen := cloneObs_length ht
  obtain ⟨g2, hg2⟩ : ∃ g2, g2 = cloneHeap T nx qt h0 (D'.map (·.1)) t := ⟨_, rfl⟩
  obtain ⟨f, hf⟩ : ∃ f : Nat → Nat, f = fun id => if id < h0.next then id else (idsOf u M D').getD (id - h0.next) 0 := ⟨_, rfl⟩
  have hidl : (idsOf u M D').length = t.length + 2 := by
    rw [hlen]
    simp only [idsOf, List.length_cons, List.length_map]
    have : ∀ D : List ((AV × AV) × Nat × Nat), (D.flatMap fun d => [d.2.1, d.2.2]).length = 2 * D.length := by
      intro D
      induction D with
      | nil => rfl
      | cons a r ih => rw [List.flatMap_cons, List.length_append, ih]; simp; omega
    rw [this]
  have hn2 : g2.next = h0.next + (t.length + 2) := by rw [hg2]; rfl
  have hfk : ∀ k x, (idsOf u M D')[k]? = some x → f (h0.next + k) = x := by
    intro k x hk
    rw [hf]
    simp only
    rw [if_neg (by omega), show h0.next + k - h0.next = k by omega, List.getD_eq_getElem?_getD, hk]
    rfl
  have hιk : ∀ k x, (idsOf u M D')[k]? = some x → InjBy ι1 f g2.next (h0.next + k) = ι1 x := by
    intro k x hk
    simp only [InjBy]
    have : k < t.length + 2 := by rw [← hidl]; exact (List.getElem?_eq_some_iff.1 hk).1
    rw [if_pos (by omega), hfk k x hk]
  have hle2 : ι0.le (InjBy ι1 f g2.next) := by
    intro id l hl
    have hid : id < h0.next := by
      rcases Nat.lt_or_ge id h0.next with h | h
      · exact h
      · rw [(hR0.fresh id h).2] at hl; cases hl
    simp only [InjBy]
    rw [if_pos (by omega)]
    have : f id = id := by rw [hf]; simp only; rw [if_pos hid]
    rw [this]
    exact hle _ _ hl
  have hιD : ∀ k x, (D'.flatMap fun d => [d.2.1, d.2.2])[k]? = some x → InjBy ι1 f g2.next (h0.next + 2 + k) = ι1 x := by
    intro k x hk
    rw [show h0.next + 2 + k = h0.next + (k + 2) by omega]
    exact hιk (k + 2) x (by simpa [idsOf] using hk)
  have hget : ∀ id, g2.get id = if id < h0.next then h0.get id else match (cloneObjs T nx qt h0.next (D'.map (·.1)) t)[id - h0.next]? with
      | some (some o) => some o
      | _ => h0.get id := by
    intro id
    rw [hg2]
    exact putAll_get _ _ _ _
  have hnew : ∀ id o, h0.next ≤ id → g2.get id = some o → ∃ x, (idsOf u M D')[id - h0.next]? = some x ∧ Retold ι1 (InjBy ι1 f g2.next) g1 g2 w'.heap x o := by
    intro id o hid hg
    rw [hget, if_neg (by omega)] at hg
    obtain ⟨k, hk⟩ : ∃ k, k = id - h0.next := ⟨_, rfl⟩
    rw [← hk] at hg ⊢
    have hob : (cloneObjs T nx qt h0.next (D'.map (·.1)) t)[k]? = some (some o) := by
      split at hg
      · rename_i o' ho'
        cases hg
        exact ho'
      · rw [(hR0.fresh id hid).1] at hg; cases hg
    clear hk
    rcases k with _ | _ | k
    · -- the tree
      simp only [cloneObjs, List.getElem?_cons_zero, Option.some.injEq] at hob; subst hob
      refine ⟨u, rfl, rfl, _, hc.obj, rfl, fun l ho => ?_⟩
      refine ORel.row (.cons ?_ (.cons (hnx _ hle2).1 (.cons (hnx _ hle2).2 .nil))) ho
      intro v hv
      rw [VRel] at hv ⊢
      obtain ⟨l', hl', rfl⟩ := hv
      exact ⟨l', by rw [hιk 1 M rfl]; exact hl', rfl⟩
    · -- its nodes
      simp only [cloneObjs, List.getElem?_cons_succ, List.getElem?_cons_zero, Option.some.injEq] at hob; subst hob
      obtain ⟨ver, hM⟩ := hc.map
      refine ⟨M, rfl, rfl, _, hM, rfl, fun l ho => ?_⟩
      obtain ⟨res, clock, k1, k2⟩ := ho
      refine ⟨res, clock, k1, MapRel.recast (hp'.map _) (clone_ent D' _ hιD) ?_ k2⟩
      have hk2 : ((D'.map (·.1)).map (·.1)).Pairwise fun p q => keyEq p q = some false := List.pairwise_map.2 hkeys
      rw [← cloneEnt_keys _ (h0.next + 2)] at hk2
      exact List.pairwise_map.1 hk2
    · -- a node
      simp only [cloneObjs, List.getElem?_cons_succ] at hob
      obtain ⟨x, hx, hr⟩ := clone_nodes hR0 hle hle2 (g2 := g2) (hp := w'.heap) D' _ t ht hnode hιD k o hob
      exact ⟨x, by simpa [idsOf] using hx, hr⟩
  have hrec : Recast ι1 h0 g1 g2 w'.heap f := by
    refine ⟨by omega, fun id hid => by rw [hf]; simp only; rw [if_pos hid], hc.old, fun id hid => by rw [hget, if_pos hid], fun id hid => ?_, ?_, ?_⟩
    · rw [hget, if_neg (by omega)]
      have : (cloneObjs T nx qt h0.next (D'.map (·.1)) t)[id - h0.next]? = none := by
        rw [List.getElem?_eq_none_iff]
        simp only [cloneObjs, List.length_cons]
        omega
      rw [this]
      exact (hR0.fresh id (by omega)).1
    · intro i j oi oj hi hj hgi hgj hfij
      obtain ⟨x, hx, _⟩ := hnew i oi hi hgi
      obtain ⟨y, hy, _⟩ := hnew j oj hj hgj
      have h1 := hfk _ _ hx
      have h2 := hfk _ _ hy
      rw [show h0.next + (i - h0.next) = i by omega] at h1
      rw [show h0.next + (j - h0.next) = j by omega] at h2
      have hxy : x = y := by rw [← h1, ← h2, hfij]
      subst hxy
      have := (List.getElem?_inj (List.getElem?_eq_some_iff.1 hx).1 hnd).1 (hx.trans hy.symm)
      omega
    · intro id o hid hg
      obtain ⟨x, hx, hr1, o1, hr2, hr3, hr4⟩ := hnew id o hid hg
      have h1 := hfk _ _ hx
      rw [show h0.next + (id - h0.next) = id by omega] at h1
      rw [h1]
      exact ⟨hge x (List.mem_of_getElem? hx), hr1, o1, hr2, hr3, fun l _ ho => hr4 l ho⟩
  refine ⟨InjBy ι1 f g2.next, ?_, ?_, ?_⟩
  · have := hc.val
    subst this
    rw [VRel] at hy ⊢
    obtain ⟨l, hl, rfl⟩ := hy
    exact ⟨l, by rw [show h0.next = h0.next + 0 from rfl, hιk 0 u rfl]; exact hl, rfl⟩
  · rw [← hg2]; exact hrec.rel hR0 hle hR1
  · rw [← hg2]; exact hrec.step hR0 hS
end
end Go.Am
end
