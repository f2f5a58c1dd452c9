/- Part of the proof of TellLines: its text AmSortInt. Conditions: none. -/
import Derived.Test.YtcaaedohfmdikaaGreatDoorAmSort
import Derived.Sort.Grow
set_option linter.unusedVariables false
set_option linter.unusedSimpArgs false
noncomputable section
namespace Go.Am
open Go.RowKit Go.Sort

/-! ### slices.Sort at ints -/
def insZ (x : Int) : List Int → List Int
  | [] => [x]
  | y :: r => cond (decide (x ≤ y)) (x :: y :: r) (y :: insZ x r)
def sortZ : List Int → List Int
  | [] => []
  | x :: r => insZ x (sortZ r)

theorem insZ_perm (x : Int) : ∀ l, (insZ x l).Perm (x :: l)
  | [] => .refl _
  | y :: r => by
    simp only [insZ]
    cases decide (x ≤ y) with
    | true => exact .refl _
    | false => exact ((insZ_perm x r).cons y).trans (.swap _ _ _)
theorem sortZ_perm : ∀ l, (sortZ l).Perm l
  | [] => .refl _
  | x :: r => (insZ_perm x _).trans ((sortZ_perm r).cons x)
theorem insZ_pw (x : Int) : ∀ l : List Int, (l.Pairwise fun a b => a ≤ b) → (insZ x l).Pairwise fun a b => a ≤ b
  | [], _ => by simp [insZ]
  | y :: r, hp => by
    simp only [insZ]
    obtain ⟨h1, h2⟩ := List.pairwise_cons.1 hp
    by_cases hxy : x ≤ y
    · simp only [hxy, decide_true, cond_true]
      refine List.pairwise_cons.2 ⟨fun z hz => ?_, hp⟩
      rcases List.mem_cons.1 hz with rfl | hz
      · exact hxy
      · have := h1 z hz; omega
    · simp only [hxy, decide_false, cond_false]
      refine List.pairwise_cons.2 ⟨fun z hz => ?_, insZ_pw x r h2⟩
      rcases List.mem_cons.1 ((insZ_perm x r).subset hz) with rfl | hz
      · omega
      · exact h1 z hz
theorem sortZ_pw : ∀ l : List Int, (sortZ l).Pairwise fun a b => a ≤ b
  | [] => .nil
  | x :: r => insZ_pw x _ (sortZ_pw r)
theorem sortZ_congr {l l' : List Int} (h : l.Perm l') : sortZ l = sortZ l' :=
  List.Perm.eq_of_pairwise (le := fun a b => a ≤ b) (fun a b _ _ h1 h2 => by omega) (sortZ_pw l) (sortZ_pw l') (((sortZ_perm l).trans h).trans (sortZ_perm l').symm)
theorem sortZ_eq (l : List Int) : (l.mergeSort fun x y => decide (x ≤ y)) = sortZ l := by
  have h1 := List.pairwise_mergeSort (le := fun x y : Int => decide (x ≤ y)) (fun a b c h1 h2 => by simp only [decide_eq_true_eq] at *; omega) (fun a b => by simp only [Bool.or_eq_true, decide_eq_true_eq]; omega) l
  exact List.Perm.eq_of_pairwise (le := fun a b => a ≤ b) (fun a b _ _ h1 h2 => by omega) (h1.imp fun h => by simpa using h) (sortZ_pw l) ((List.mergeSort_perm l _).trans (sortZ_perm l).symm)

def intsOf : List AV → Option (List Int)
  | [] => some []
  | .int .i64 z :: r => (intsOf r).map (z :: ·)
  | _ => none
theorem intsOf_eq : ∀ {l : List AV} {zs : List Int}, intsOf l = some zs → l = zs.map (AV.int .i64)
  | [], zs, h => by simp only [intsOf, Option.some.injEq] at h; subst h; rfl
  | .int k z :: r, zs, h => by
    cases k <;> simp only [intsOf, Option.map_eq_some_iff, reduceCtorEq] at h
    obtain ⟨zs', h1, rfl⟩ := h
    rw [List.map_cons, intsOf_eq h1]
  | .undef :: _, _, h | .bool _ :: _, _, h | .str _ :: _, _, h | .ptr _ :: _, _, h | .slice _ _ _ :: _, _, h | .map _ :: _, _, h | .func _ _ _ :: _, _, h | .nilFunc :: _, _, h | .iface _ _ :: _, _, h | .nilIface :: _, _, h | .agg _ :: _, _, h | .tuple _ :: _, _, h => by simp [intsOf] at h
theorem intsOf_map : ∀ zs : List Int, intsOf (zs.map (AV.int .i64)) = some zs
  | [] => rfl
  | z :: r => by simp [intsOf, intsOf_map r]

def rowZ (zs : List Int) : List (List AV) := zs.map fun z => [AV.int .i64 z]
theorem rowZ_flat (zs : List Int) : (rowZ zs).flatten = zs.map (AV.int .i64) := by
  induction zs with
  | nil => rfl
  | cons z r ih => simp only [rowZ, List.map_cons, List.flatten_cons] at ih ⊢; rw [ih]; rfl

def SortIntAt (P : Program) (f : FuncId) : Prop :=
  (∃ fn, P.funcs[f]? = some fn ∧ fn.body.isNone = false) ∧
  (∀ (blk off cap : Nat) (zs : List Int) (w : World), Holds (Value.int .i64) w blk off zs.toArray → blk < w.heap.size → zs.length < 4611686018427387904 →
    Calls P f #[.slice (some ⟨blk, off, none⟩) zs.length cap] w fun e w' => e = .returned (.tuple #[]) ∧ ∃ n os, w' = grow (putRow (Value.int .i64) (Sort.ahead w n) blk off (zs.mergeSort fun x y => decide (x ≤ y)).toArray) os) ∧
  (∀ (p : Option Addr) (cap : Nat) (w : World), Calls P f #[.slice p 0 cap] w fun e w' => e = .returned (.tuple #[]) ∧ w' = w)

def sortIntA (args : List AV) (h : Heap) : Option (AV × Heap) :=
  match args with
  | [.slice none 0 _] => some (.tuple [], h)
  | [.slice (some (id, 0)) n _] => match h.get id with
    | some (.cells els 1 el false 0) => match intsOf els.flatten with
      | some zs => if Nat.beq zs.length n && (Nat.blt 0 n && Nat.blt n 1000) then some (.tuple [], h.put id (.cells (rowZ (sortZ zs)) 1 el false 0)) else none
      | none => none
    | _ => none
  | _ => none

section
variable {P : Program} {B : Floor} {ι : Inj} {h : Heap} {w : World}

theorem F2_ints (ι : Inj) (zs : List Int) : F2 (VRel ι) (zs.map (AV.int .i64)) (zs.map (Value.int .i64)) := by
  induction zs with
  | nil => exact .nil
  | cons z r ih => exact .cons (by rw [VRel]) ih
theorem F2_ints_eq {ι : Inj} : ∀ {zs : List Int} {ys : List Value}, F2 (VRel ι) (zs.map (AV.int .i64)) ys → ys = zs.map (Value.int .i64)
  | [], ys, h => by cases h; rfl
  | z :: r, ys, h => by
    cases h with
    | cons h1 h2 => rw [VRel] at h1; rw [h1, F2_ints_eq h2]; rfl

theorem sortInt_sound {f : FuncId} (hs : SortIntAt P f) (hR : R B ι h w.heap) {args : List AV} {us : List Value} {v : AV} {h' : Heap} (ha : F2 (VRel ι) args us) (hv : sortIntA args h = some (v, h')) {Q : AV × Heap → Prop} (hq : Q (v, h')) :
    CallRes P f us w (RetOk B ι h w Q) := by
  obtain ⟨hfn, hsort, hnone⟩ := hs
  unfold sortIntA at hv
  split at hv
  · rename_i c
    simp only [Option.some.injEq, Prod.mk.injEq] at hv
    obtain ⟨rfl, rfl⟩ := hv
    cases ha with
    | cons h1 ha =>
      cases ha
      rw [VRel] at h1
      obtain ⟨_, _, rfl⟩ := h1
      refine .inl ⟨hfn, (hnone none 0 w).mono ?_⟩
      rintro e w' ⟨rfl, rfl⟩
      exact ⟨_, _, ι, hq, by rw [VRel]; exact ⟨[], rfl, by rw [VRelL]⟩, hR, Step.refl ι h _⟩
  · rename_i id n c
    split at hv
    rotate_left
    · cases hv
    rename_i els el hg
    split at hv
    rotate_left
    · cases hv
    rename_i zs hz
    split at hv
    rotate_left
    · cases hv
    rename_i hc
    simp only [Bool.and_eq_true, Nat.blt_eq] at hc
    obtain ⟨hzn, hn0, hn1⟩ := hc
    have hzn := Nat.eq_of_beq_eq_true hzn
    simp only [Option.some.injEq, Prod.mk.injEq] at hv
    obtain ⟨rfl, rfl⟩ := hv
    cases ha with
    | cons h1 ha =>
      cases ha
      obtain ⟨l, hl, hlt, cs, fr, k1, k2, k3, k4, k5, k6, k7, k8, k9, k10⟩ := hR.obj id _ hg rfl
      obtain ⟨cap, hu⟩ : ∃ cap, ‹Value› = .slice (some ⟨l.block, l.base, none⟩) n cap := by
        cases c with
        | none =>
          rw [VRel] at h1
          obtain ⟨l', a, cap, e1, rfl, _, h3⟩ := h1
          rw [hl] at e1; cases e1
          rcases h3 with ⟨rfl, _⟩ | ⟨h0, _⟩
          · exact ⟨cap, rfl⟩
          · omega
        | some c =>
          rw [VRel] at h1
          obtain ⟨l', a, e1, hle, rfl, h3⟩ := h1
          rw [hl] at e1; cases e1
          rcases h3 with rfl | h0
          · exact ⟨c, rfl⟩
          · omega
      subst hu
      have hflat := intsOf_eq hz
      rw [hflat] at k8 k5
      simp only [List.length_map] at k5
      have hcells := F2_ints_eq k8
      have hfr : fr = (0, 0) := (k9 rfl).2.1 rfl
      subst hfr
      have hcell : ∀ j, j < zs.length → cs[l.base + j]? = some (Value.int .i64 zs[j]!) := by
        intro j hj
        have h1 : (zs.map (Value.int .i64))[j]? = some (Value.int .i64 zs[j]!) := by
          rw [List.getElem?_map, List.getElem?_eq_getElem hj]
          simp [getElem!_pos, hj]
        rw [← hcells, List.getElem?_take, if_pos (by omega), List.getElem?_drop] at h1
        simpa using h1
      have hH : Holds (Value.int .i64) w l.block l.base zs.toArray := by
        intro j hj
        have hj' : j < zs.length := by simpa using hj
        refine ⟨?_, ?_⟩
        · simp only [World.cell?, k1]
          simpa using hcell j hj'
        · simp [World.frozen?, k1]
      subst hzn
      refine .inl ⟨hfn, (hsort l.block l.base cap zs w hH hlt (by omega)).mono ?_⟩
      rintro e w' ⟨rfl, nd, os, rfl⟩
      rw [sortZ_eq]
      obtain ⟨w1, hw1⟩ : ∃ w1, w1 = putRow (Value.int .i64) (Sort.ahead w nd) l.block l.base (sortZ zs).toArray := ⟨_, rfl⟩
      rw [← hw1]
      have hlen : (sortZ zs).length = zs.length := (sortZ_perm zs).length_eq
      have hheap : w1.heap = w.heap.modify l.block (onCells (putCells (Value.int .i64) l.base (sortZ zs).toArray)) := by rw [hw1]; rfl
      have hsz : w1.heap.size = w.heap.size := by rw [hheap]; simp
      have hother : ∀ b, b ≠ l.block → w1.heap[b]? = w.heap[b]? := by
        intro b hb
        rw [hheap, Array.getElem?_modify, if_neg (fun e => hb e.symm)]
      have hat : w1.heap[l.block]? = some (.cells (putCells (Value.int .i64) l.base (sortZ zs).toArray cs) el (0, 0)) := by
        rw [hheap, Array.getElem?_modify, if_pos rfl, k1]; rfl
      have hpsz : (putCells (Value.int .i64) l.base (sortZ zs).toArray cs).size = cs.size := by simp [putCells]
      have hput : ((putCells (Value.int .i64) l.base (sortZ zs).toArray cs).toList.drop l.base).take l.ext = (sortZ zs).map (Value.int .i64) := by
        apply List.ext_getElem?
        intro j
        rw [List.getElem?_take]
        by_cases hj : j < zs.length
        · rw [if_pos (by omega), List.getElem?_drop, List.getElem?_map]
          have hjs : j < (sortZ zs).length := by omega
          have hcj : l.base + j < cs.size := by omega
          rw [List.getElem?_eq_getElem hjs, Option.map_some]
          rw [Array.getElem?_toList, putCells, Array.getElem?_mapIdx, Array.getElem?_eq_getElem hcj, Option.map_some]
          have : l.base + j - l.base = j := by omega
          simp [this, hlen, hj, getElem!_pos, hjs]
        · rw [if_neg (by omega), List.getElem?_map, List.getElem?_eq_none (by omega)]; rfl
      have hor : ORel ι (h.put id (.cells (rowZ (sortZ zs)) 1 el false 0)) w1.heap l (.cells (rowZ (sortZ zs)) 1 el false 0) := by
        refine ⟨_, _, hat, k2, ?_, k4, by rw [rowZ_flat, List.length_map]; omega, by rw [hpsz]; exact k6, k7, ?_, fun _ => ⟨frOk_zero _ _, fun _ => rfl, frHi_zero _ _⟩, k10⟩
        · intro e he
          obtain ⟨z, _, rfl⟩ := List.mem_map.1 he
          rfl
        · rw [hput, rowZ_flat]
          exact F2_ints ι _
      have hR1 := R.put (o' := .cells (rowZ (sortZ zs)) 1 el false 0) hR hg rfl hl hsz hother hor rfl (by intro _ _ e; cases e)
      have hS1 := Step.put (w' := w1) (o' := .cells (rowZ (sortZ zs)) 1 el false 0) hR hg rfl rfl hl hsz hother (by rw [hw1]; rfl) (by rw [hw1]; rfl) (by rw [hw1]; rfl)
      have hbel : Below w1.heap.size w1 (grow w1 os) := ⟨rfl, rfl, rfl, by simp [grow], fun k hk => by simp only [grow]; rw [Array.getElem?_append_left hk]⟩
      obtain ⟨g1, g2⟩ := R.grow hR1 hbel
      exact ⟨_, _, ι, hq, by rw [VRel]; exact ⟨[], rfl, by rw [VRelL]⟩, g1, hS1.trans g2⟩
  · cases hv
end
end Go.Am
end
