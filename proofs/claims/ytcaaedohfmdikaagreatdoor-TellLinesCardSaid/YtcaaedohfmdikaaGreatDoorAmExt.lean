/- Part of the proof of TellLines: its text AmExt. Conditions: none. -/
import Derived.Test.YtcaaedohfmdikaaGreatDoorAmRegs
import Derived.Laws.Externs
import Derived.Lib.Bytealg
import Derived.Lib.MakeNoZero
set_option linter.unusedVariables false
set_option linter.unusedSimpArgs false
noncomputable section
namespace Go.Am
open Go.RowKit

/-- Functions without a body that the model answers. -/
inductive Ext where
  | indexByte
  | count
  | noEscape
  | makeNoZero (t e : TypeId)
  | clone

def semOf : Ext → Array Value → Sem Value
  | .indexByte => Extern.BytealgIndexByte.indexByte
  | .count => Extern.BytealgCount.count
  | .noEscape => Extern.AbiNoEscape.same
  | .makeNoZero t _ => Extern.BytealgMakeNoZero.makeNoZero #[] #[t]
  | .clone => Extern.MapsClone.clone

def idxB (c : Nat) : List UInt8 → Nat → Int
  | [], _ => -1
  | b :: r, i => cond (Nat.beq b.toNat c) (i : Int) (idxB c r (i + 1))

def cntB (c : Nat) : List UInt8 → Nat
  | [] => 0
  | b :: r => cond (Nat.beq b.toNat c) (cntB c r + 1) (cntB c r)

def extA (e : Ext) (args : List AV) (h : Heap) : Option (AV × Heap) :=
  match e, args with
  | .indexByte, [.str s, .int .u8 c] => some (.int .i64 (idxB (c.toNat % 256) s 0), h)
  | .count, [.str s, .int .u8 c] => some (.int .i64 (cntB (c.toNat % 256) s), h)
  | .noEscape, [x] => some (x, h)
  | .makeNoZero _ e, [.int .i64 n] =>
    if 0 ≤ n ∧ n ≤ (2 ^ 20 : Nat) then
      some (.slice (some (h.next, 0)) n.toNat none, h.new (.cells (List.replicate n.toNat [.undef]) 1 e false 0))
    else none
  | .clone, [.iface t (.map (some r))] => match h.get r with
    | some (.map es _) => some (.iface t (.map (some h.next)), h.new (.map es 0))
    | _ => none
  | _, _ => none

/-- What the model answers there. -/
def ExtAt (P : Program) (f : FuncId) (e : Ext) : Prop :=
  (∀ (us : Array Value) (w : World), (callFunc f us).run P w = ((semOf e us).run P w).andThen fun v w' => .ok (.value v) w') ∧
  match e with
  | .makeNoZero t e => P.underlying t = some (.slice e)
  | _ => True

theorem beq_byte (b : UInt8) (c : Nat) : (b == c.toUInt8) = Nat.beq b.toNat (c % 256) := by
  rw [Bool.eq_iff_iff, beq_iff_eq, Nat.beq_eq]
  constructor
  · rintro rfl; simp
  · intro h; apply UInt8.toNat_inj.1; rw [h]; simp

theorem idxB_eq (c : Nat) : ∀ (l : List UInt8) (i : Nat), idxB (c % 256) l i = if Lib.indexByte l c.toUInt8 == -1 then -1 else (i : Int) + Lib.indexByte l c.toUInt8
  | [], i => by simp [idxB, Lib.indexByte]
  | b :: l, i => by
    simp only [idxB, Lib.indexByte]
    rw [← beq_byte, idxB_eq c l (i + 1)]
    have hge := Lib.indexByte_ge l c.toUInt8
    by_cases hb : (b == c.toUInt8) = true
    · simp only [hb, cond_true, if_true]
      simp
    · have hb' : (b == c.toUInt8) = false := by simpa using hb
      simp only [hb', cond_false, Bool.false_eq_true, if_false]
      by_cases h1 : (Lib.indexByte l c.toUInt8 == -1) = true
      · simp only [h1, if_true]; simp
      · have h1' : (Lib.indexByte l c.toUInt8 == -1) = false := by simpa using h1
        have hne : Lib.indexByte l c.toUInt8 ≠ -1 := by simpa using h1
        have h2 : (Lib.indexByte l c.toUInt8 + 1 == -1) = false := by rw [beq_eq_false_iff_ne]; omega
        simp only [h1', h2, Bool.false_eq_true, if_false]
        omega

theorem flat_one (n : Nat) (x : AV) : (List.replicate n [x]).flatten = List.replicate n x := by
  induction n with
  | zero => rfl
  | succ n ih => rw [List.replicate_succ, List.flatten_cons, ih, List.replicate_succ]; rfl

theorem cntB_eq (c : Nat) : ∀ l : List UInt8, cntB (c % 256) l = Lib.countByte l c.toUInt8
  | [] => rfl
  | b :: l => by
    have ih := cntB_eq c l
    unfold Lib.countByte at ih ⊢
    rw [List.count_cons, cntB, ih, ← beq_byte]
    cases b == c.toUInt8 <;> simp

section
variable {P : Program} {B : Floor} {ι : Inj} {h : Heap} {w : World}

theorem run_clone {r : Nat} {es : Array MapEntry} {clock : Nat} (t : TypeId) (hb : w.heap[r]? = some (.map es clock)) :
    (Extern.MapsClone.clone #[.iface t (.map (some r))]).run P w = .ok (.iface t (.map (some w.heap.size))) (w.alloc (.map es clock)) := by
  show (getObj r >>= _ : Sem Value).run P w = _
  simp [run_getObj_map hb]

theorem ext_sound {f : FuncId} {e : Ext} (he : ExtAt P f e) (hR : R B ι h w.heap) {args : List AV} {us : List Value} {v : AV} {h' : Heap} (ha : F2 (VRel ι) args us) (hv : extA e args h = some (v, h')) {Q : AV × Heap → Prop} (hq : Q (v, h')) :
    CallRes P f us w (RetOk B ι h w Q) := by
  obtain ⟨he, hx⟩ := he
  have hn : ι h.next = none := (hR.fresh _ (Nat.le_refl _)).2
  refine .inr ?_
  unfold extA at hv
  split at hv
  · rename_i s c
    simp only [Option.some.injEq, Prod.mk.injEq] at hv
    obtain ⟨rfl, rfl⟩ := hv
    cases ha with
    | cons h1 ha =>
      cases ha with
      | cons h2 ha =>
        cases ha
        rw [VRel] at h1; rw [VRel] at h2; subst h1; subst h2
        refine ⟨.int .i64 (firstIdx ⟨s.toArray⟩ c.toNat.toUInt8), w, by rw [he]; simp only [semOf]; rw [run_indexByte_string]; rfl, _, _, ι, hq, ?_, hR, Step.refl ι h w⟩
        show VRel ι (.int .i64 (idxB (c.toNat % 256) s 0)) (.int .i64 (firstIdx ⟨s.toArray⟩ c.toNat.toUInt8))
        rw [VRel, Lib.firstIdx_eq, idxB_eq]
        cases h1 : Lib.indexByte s c.toNat.toUInt8 == -1 with
        | true => simp at h1; simp [h1]
        | false => simp
  · rename_i s c
    simp only [Option.some.injEq, Prod.mk.injEq] at hv
    obtain ⟨rfl, rfl⟩ := hv
    cases ha with
    | cons h1 ha =>
      cases ha with
      | cons h2 ha =>
        cases ha
        rw [VRel] at h1; rw [VRel] at h2; subst h1; subst h2
        refine ⟨.int .i64 (Lib.countByte s c.toNat.toUInt8), w, by rw [he]; simp only [semOf]; rw [Lib.run_countString]; rfl, _, _, ι, hq, ?_, hR, Step.refl ι h w⟩
        show VRel ι (.int .i64 (cntB (c.toNat % 256) s)) (.int .i64 (Lib.countByte s c.toNat.toUInt8))
        rw [VRel, cntB_eq]
  · rename_i x
    simp only [Option.some.injEq, Prod.mk.injEq] at hv
    obtain ⟨rfl, rfl⟩ := hv
    cases ha with
    | cons h1 ha =>
      cases ha
      exact ⟨_, w, by rw [he]; rfl, _, _, ι, hq, h1, hR, Step.refl ι h w⟩
  · rename_i t el n
    split at hv
    rotate_left
    · cases hv
    rename_i hc
    simp only [Option.some.injEq, Prod.mk.injEq] at hv
    obtain ⟨rfl, rfl⟩ := hv
    cases ha with
    | cons h1 ha =>
      cases ha
      rw [VRel] at h1; subst h1
      obtain ⟨n', rfl⟩ := Int.eq_ofNat_of_zero_le hc.1
      have hn2 : n' ≤ 2 ^ 20 := by have := hc.2; omega
      obtain ⟨cs, hrun, hle, _⟩ := Lib.run_makeNoZero (P := P) w #[] t el hx n' (by omega)
      have hflat := flat_one n' AV.undef
      have hF : F2 (VRel ι) (List.replicate n' [AV.undef]).flatten (cs.toList.take n') := by
        rw [hflat]
        have : ∀ (l : List Value), F2 (VRel ι) (List.replicate l.length AV.undef) l := by
          intro l
          induction l with
          | nil => exact .nil
          | cons a l ih => exact .cons (by simp [VRel]) ih
        have h2 := this (cs.toList.take n')
        rwa [List.length_take, Nat.min_eq_left (by simpa using hle)] at h2
      obtain ⟨l, hl⟩ : ∃ l : Loc, l = ⟨w.heap.size, 0, cs.size, n', 1⟩ := ⟨_, rfl⟩
      have hlb : l.block = w.drew.drew.heap.size := by rw [hl]; rfl
      have hor : ORel (ι.add h.next l) (h.new (.cells (List.replicate n' [.undef]) 1 el false 0)) (w.drew.drew.heap.push (.cells cs el)) l (.cells (List.replicate n' [.undef]) 1 el false 0) := by
        refine ⟨cs, (0, 0), by rw [hlb]; exact Array.getElem?_push_size, by omega, fun x hx => by rw [List.eq_of_mem_replicate hx]; rfl, by rw [hl], by rw [hl, hflat]; simp, by rw [hl], by rw [hl]; simpa using hle, ?_, fun _ => ⟨frOk_zero _ _, fun _ => rfl, frHi_zero _ _⟩, by rw [hl]; rfl⟩
        rw [hl]
        simpa using hF.mono fun _ _ => VRel.mono (Inj.le_add hn)
      obtain ⟨g1, g2, g3⟩ := R.new (w := w.drew.drew) hR (.cells cs el) hlb rfl hor
      refine ⟨_, _, by rw [he]; simp only [semOf]; rw [hrun]; rfl, _, _, _, hq, ?_, g1, ((Step.drew ι h w).trans (Step.drew ι h w.drew)).trans g2⟩
      rw [VRel]
      refine ⟨l, ⟨w.heap.size, 0, none⟩, cs.size, Inj.add_same _ _ _, rfl, by simpa using hle, .inl ⟨by rw [hl], ?_, ?_⟩⟩
      · rw [hl]; simpa using hle
      · rw [hl]; simp
  · rename_i t r
    split at hv
    rotate_left
    · cases hv
    rename_i es ver hg
    simp only [Option.some.injEq, Prod.mk.injEq] at hv
    obtain ⟨rfl, rfl⟩ := hv
    cases ha with
    | cons h1 ha =>
      cases ha
      rw [VRel] at h1
      obtain ⟨y, rfl, h1⟩ := h1
      obtain ⟨l0, res, clock, hl0, rfl, hb, hmr⟩ := map_of hR hg h1
      obtain ⟨l, hl⟩ : ∃ l : Loc, l = ⟨w.heap.size, 0, 0, 0, 0⟩ := ⟨_, rfl⟩
      have hlb : l.block = w.heap.size := by rw [hl]
      have hor : ORel (ι.add h.next l) (h.new (.map es 0)) (w.heap.push (.map res clock)) l (.map es 0) := by
        obtain ⟨L, q1, q2⟩ := hmr.perm
        exact ⟨res, clock, by rw [hlb]; simp, ⟨⟨L, q1, q2.mono fun _ _ => ERel.mono (Inj.le_add hn)⟩, hmr.born, hmr.lt, hmr.keys, hmr.ok, hmr.vals⟩⟩
      obtain ⟨g1, g2, g3⟩ := R.new hR (.map res clock) hlb rfl hor
      refine ⟨_, _, by rw [he]; simp only [semOf]; rw [run_clone t hb]; rfl, _, _, _, hq, ?_, g1, g2⟩
      rw [VRel]
      refine ⟨_, rfl, ?_⟩
      rw [VRel]
      exact ⟨l, Inj.add_same _ _ _, by rw [hlb]⟩
  · cases hv
end
end Go.Am
end
