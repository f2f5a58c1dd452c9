/- Part of the proof of TellLines: its text AmIso2. Conditions: none. -/
import Derived.Test.YtcaaedohfmdikaaGreatDoorAmIso
set_option linter.unusedSimpArgs false
set_option linter.unusedVariables false
noncomputable section
namespace Go.Am

/-- Another numbering of one memory. -/
def InjBy (ι : Inj) (f : Nat → Nat) (n : Nat) : Inj := fun id => if id < n then ι (f id) else none

/-- A heap g1 that came of g0, told anew as g2: what is old lies as it lay; what is new in g2 is something new in g1. -/
structure Recast (ι1 : Inj) (g0 g1 g2 : Heap) (hp : Array Obj) (f : Nat → Nat) : Prop where
  n1 : g0.next ≤ g2.next
  fid : ∀ id, id < g0.next → f id = id
  old1 : ∀ id, id < g0.next → g1.get id = g0.get id
  old2 : ∀ id, id < g0.next → g2.get id = g0.get id
  top : ∀ id, g2.next ≤ id → g2.get id = none
  inj : ∀ i j oi oj, g0.next ≤ i → g0.next ≤ j → g2.get i = some oi → g2.get j = some oj → f i = f j → i = j
  new : ∀ id o, g0.next ≤ id → g2.get id = some o → g0.next ≤ f id ∧ o.owns = true ∧ ∃ o1, g1.get (f id) = some o1 ∧ o1.owns = true ∧
    ∀ l, ι1 (f id) = some l → ORel ι1 g1 hp l o1 → ORel (InjBy ι1 f g2.next) g2 hp l o

section
variable {B B0 : Floor} {ι0 ι1 : Inj} {g0 g1 g2 : Heap} {hp0 hp : Array Obj} {f : Nat → Nat}

theorem Recast.lt (hc : Recast ι1 g0 g1 g2 hp f) {id : Nat} {o : AObj} (hg : g2.get id = some o) : id < g2.next := by
  rcases Nat.lt_or_ge id g2.next with h | h
  · exact h
  · rw [hc.top id h] at hg; cases hg

theorem Recast.le (hR0 : R B0 ι0 g0 hp0) (hle : ι0.le ι1) (hc : Recast ι1 g0 g1 g2 hp f) : ι0.le (InjBy ι1 f g2.next) := by
  intro id l hl
  have hid : id < g0.next := by
    rcases Nat.lt_or_ge id g0.next with h | h
    · exact h
    · rw [(hR0.fresh id h).2] at hl; cases hl
  simp only [InjBy]
  rw [if_pos (Nat.lt_of_lt_of_le hid hc.n1), hc.fid id hid]
  exact hle _ _ hl

theorem Recast.src (hc : Recast ι1 g0 g1 g2 hp f) {id : Nat} {o : AObj} (hg : g2.get id = some o) : ∃ o1, g1.get (f id) = some o1 ∧ o1.owns = o.owns ∧ o1.isDead = o.isDead := by
  rcases Nat.lt_or_ge id g0.next with h | h
  · refine ⟨o, ?_, rfl, rfl⟩
    rw [hc.fid id h, hc.old1 id h, ← hc.old2 id h]; exact hg
  · obtain ⟨_, h2, o1, h3, h4, _⟩ := hc.new id o h hg
    exact ⟨o1, h3, by rw [h2, h4], by rw [AObj.alive_of_owns h2, AObj.alive_of_owns h4]⟩

theorem Recast.own (hc : Recast ι1 g0 g1 g2 hp f) {b : Nat} (ho : Own (InjBy ι1 f g2.next) g2 b) : Own ι1 g1 b := by
  obtain ⟨id, o, l, h1, h2, h3, h4⟩ := ho
  obtain ⟨o1, k1, k2, _⟩ := hc.src h1
  simp only [InjBy] at h3
  rw [if_pos (hc.lt h1)] at h3
  exact ⟨f id, o1, l, k1, by rw [k2]; exact h2, h3, h4⟩

theorem Recast.finj (hc : Recast ι1 g0 g1 g2 hp f) {i j : Nat} {oi oj : AObj} (hi : g2.get i = some oi) (hj : g2.get j = some oj) (h : f i = f j) : i = j := by
  rcases Nat.lt_or_ge i g0.next with h1 | h1 <;> rcases Nat.lt_or_ge j g0.next with h2 | h2
  · rw [hc.fid i h1, hc.fid j h2] at h; exact h
  · have := (hc.new j oj h2 hj).1
    rw [hc.fid i h1] at h; omega
  · have := (hc.new i oi h1 hi).1
    rw [hc.fid j h2] at h; omega
  · exact hc.inj i j oi oj h1 h2 hi hj h

theorem Recast.rel (hR0 : R B0 ι0 g0 hp0) (hle : ι0.le ι1) (hR1 : R B ι1 g1 hp) (hc : Recast ι1 g0 g1 g2 hp f) : R B (InjBy ι1 f g2.next) g2 hp where
  obj id o hg hd := by
    have hlt := hc.lt hg
    rcases Nat.lt_or_ge id g0.next with h | h
    · have hg0 : g0.get id = some o := by rw [← hc.old2 id h]; exact hg
      have hg1 : g1.get id = some o := by rw [hc.old1 id h]; exact hg0
      obtain ⟨l, k1, k2, k3⟩ := hR1.obj id o hg1 hd
      obtain ⟨l0, j1, j2, j3⟩ := hR0.obj id o hg0 hd
      refine ⟨l, by simp only [InjBy]; rw [if_pos hlt, hc.fid id h]; exact k1, k2, ?_⟩
      refine ORel.swap hle (hc.le hR0 hle) j3 k3 ?_
      intro m es ver hm
      have hm0 : m < g0.next := by
        rcases Nat.lt_or_ge m g0.next with h | h
        · exact h
        · rw [(hR0.fresh m h).1] at hm; cases hm
      exact ⟨hc.old1 m hm0, hc.old2 m hm0⟩
    · obtain ⟨h1, h2, o1, h3, h4, h5⟩ := hc.new id o h hg
      obtain ⟨l, k1, k2, k3⟩ := hR1.obj (f id) o1 h3 (AObj.alive_of_owns h4)
      exact ⟨l, by simp only [InjBy]; rw [if_pos hlt]; exact k1, k2, h5 l k1 k3⟩
  sep i j oi oj li lj hne hi hj ho hd hli hlj := by
    obtain ⟨o1, k1, k2, k3⟩ := hc.src hi
    obtain ⟨o2, j1, j2, j3⟩ := hc.src hj
    simp only [InjBy] at hli hlj
    rw [if_pos (hc.lt hi)] at hli
    rw [if_pos (hc.lt hj)] at hlj
    exact hR1.sep (f i) (f j) o1 o2 li lj (fun e => hne (hc.finj hi hj e)) k1 j1 (by rw [k2]; exact ho) (by rw [j3]; exact hd) hli hlj
  fresh id hid := ⟨hc.top id hid, by simp only [InjBy]; rw [if_neg (by omega)]⟩
  base b hb := hR1.base b (hc.own hb)
  size := hR1.size
  low := hR1.low

theorem Recast.step {w w' : World} (hR0 : R B0 ι0 g0 hp0) (hS : Step ι0 g0 w ι1 g1 w') (hc : Recast ι1 g0 g1 g2 hp f) : Step ι0 g0 w (InjBy ι1 f g2.next) g2 w' where
  same id hid := by
    simp only [InjBy]
    rw [if_pos (Nat.lt_of_lt_of_le hid hc.n1), hc.fid id hid]
    exact hS.same id hid
  next := hc.n1
  size := hS.size
  frame := hS.frame
  own b hb ho := hS.own b hb (hc.own ho)
  free id hid hn := by rw [hc.old2 id hid]; exact hn
  ro id o hg hd ho := by
    rcases Nat.lt_or_ge id g0.next with h | h
    · rw [← hc.old2 id h]; exact hg
    · have := (hc.new id o h hg).2.1
      rw [this] at ho; cases ho
  os := hS.os
  tape := hS.tape
  output := hS.output
end

/-- What stands there by one numbering, stands there by the other. -/
def Goes (ι1 ι2 : Inj) (a b : AV) : Prop := ∀ v, VRel ι1 b v → VRel ι2 a v

theorem F2.goes {ι1 ι2 : Inj} {x y : List AV} {z : List Value} (h : F2 (Goes ι1 ι2) x y) (k : F2 (VRel ι1) y z) : F2 (VRel ι2) x z := by
  induction h generalizing z with
  | nil => cases k; exact .nil
  | cons h1 _ ih => cases k with | cons k1 k2 => exact .cons (h1 _ k1) (ih k2)

theorem F2.perm_left {α β : Type} {R : α → β → Prop} {x y : List α} (hp : x.Perm y) {z : List β} (h : F2 R y z) : ∃ z', z'.Perm z ∧ F2 R x z' := by
  induction hp generalizing z with
  | nil => cases h; exact ⟨[], .refl _, .nil⟩
  | cons a _ ih =>
    cases h with
    | cons h1 h2 =>
      obtain ⟨z', k1, k2⟩ := ih h2
      exact ⟨_ :: z', k1.cons _, .cons h1 k2⟩
  | swap a b l =>
    cases h with
    | cons h1 h2 =>
      cases h2 with
      | cons h2 h3 => exact ⟨_ :: _ :: _, .swap _ _ _, .cons h2 (.cons h1 h3)⟩
  | trans _ _ ih1 ih2 =>
    obtain ⟨z1, k1, k2⟩ := ih2 h
    obtain ⟨z2, k3, k4⟩ := ih1 k2
    exact ⟨z2, k3.trans k1, k4⟩

theorem ORel.row {ι1 ι2 : Inj} {g1 g2 : Heap} {hp : Array Obj} {l : Loc} {e2 e1 : List AV} {sz : Nat} {el : TypeId} {ro : Bool} {fz : Nat} (hg : F2 (Goes ι1 ι2) e2 e1)
    (ho : ORel ι1 g1 hp l (.cells [e1] sz el ro fz)) : ORel ι2 g2 hp l (.cells [e2] sz el ro fz) := by
  obtain ⟨cs, fr, h1, h2, h3, h4, h5, h6, h7, h8, h9⟩ := ho
  have hl := hg.length
  refine ⟨cs, fr, h1, h2, ?_, h4, ?_, h6, h7, ?_, h9⟩
  · intro e he
    have := h3 e1 (by simp)
    rw [List.mem_singleton] at he
    subst he
    rw [hl]; exact this
  · rw [h5]; simp [hl]
  · simp only [List.flatten_cons, List.flatten_nil, List.append_nil] at h8 ⊢
    exact hg.goes h8

theorem F2.entries {ι1 ι2 : Inj} {x y : List (AV × AV)} (hg : F2 (fun a b => a.1 = b.1 ∧ Goes ι1 ι2 a.2 b.2) x y) {z : List MapEntry} (hok : ∀ p ∈ y, keyOk p.1 = true) (k : F2 (ERel ι1) y z) : F2 (ERel ι2) x z := by
  induction hg generalizing z with
  | nil => cases k; exact .nil
  | @cons a b x y h1 _ ih =>
    cases k with
    | cons m1 m2 =>
      refine .cons ⟨?_, h1.2 _ m1.2⟩ (ih (fun p hp => hok p (List.mem_cons_of_mem _ hp)) m2)
      have hb := hok b (List.mem_cons_self ..)
      rw [h1.1]
      have := m1.1
      revert this hb
      cases b.1 <;> simp [keyOk, VRel]

theorem MapRel.recast {ι1 ι2 : Inj} {es2 es1 es1' : List (AV × AV)} {res : Array MapEntry} {clock : Nat} (hp : es1'.Perm es1) (hg : F2 (fun a b => a.1 = b.1 ∧ Goes ι1 ι2 a.2 b.2) es2 es1')
    (hk : es2.Pairwise fun p q => keyEq p.1 q.1 = some false) (ho : MapRel ι1 es1 res clock) : MapRel ι2 es2 res clock where
  perm := by
    obtain ⟨l, k1, k2⟩ := ho.perm
    obtain ⟨l', k3, k4⟩ := k2.perm_left hp
    exact ⟨l', k3.trans k1, hg.entries (fun p hp' => ho.ok p (hp.subset hp')) k4⟩
  born := ho.born
  lt := ho.lt
  keys := hk
  ok p hp' := by
    obtain ⟨b, h1, h2⟩ := hg.mem hp'
    rw [h2.1]
    exact ho.ok b (hp.subset h1)
  vals _ _ := .inr trivial

/-! ### Many new objects -/
def putAll : List (Option AObj) → Nat → Heap → Heap
  | [], _, h => h
  | o :: r, i, h => putAll r (i + 1) (putOb h i o)

theorem putAll_get : ∀ (l : List (Option AObj)) (i : Nat) (h : Heap) (id : Nat), (putAll l i h).get id = if id < i then h.get id else match l[id - i]? with
    | some (some o) => some o
    | _ => h.get id
  | [], i, h, id => by simp [putAll]
  | o :: r, i, h, id => by
    rw [putAll, putAll_get r]
    rcases Nat.lt_trichotomy id i with h1 | h1 | h1
    · rw [if_pos (by omega), if_pos h1]
      cases o with
      | none => rfl
      | some ob => exact Heap.get_put_ne (by omega)
    · subst h1
      rw [if_pos (by omega), if_neg (by omega)]
      cases o with
      | none => simp [putOb]
      | some ob => simp [putOb]
    · rw [if_neg (by omega), if_neg (by omega)]
      have e : id - i = (id - (i + 1)) + 1 := by omega
      rw [e, List.getElem?_cons_succ]
      have : (putOb h i o).get id = h.get id := by
        cases o with
        | none => rfl
        | some ob => exact Heap.get_put_ne (by omega)
      rw [this]

theorem putAll_next : ∀ (l : List (Option AObj)) (i : Nat) (h : Heap), (putAll l i h).next = h.next
  | [], _, _ => rfl
  | o :: r, i, h => by rw [putAll, putAll_next r]; cases o <;> rfl
end Go.Am
end
