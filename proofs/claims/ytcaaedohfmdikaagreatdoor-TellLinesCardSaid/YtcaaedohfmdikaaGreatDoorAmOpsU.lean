/- The machine's operations are sound, first half: part of the proof of TellLines. Conditions: none. -/
import Derived.Test.YtcaaedohfmdikaaGreatDoorAmBase
import Derived.Laws.StructEq
import Derived.ChangeKeysEq
set_option linter.unusedVariables false
set_option linter.unusedSimpArgs false
noncomputable section
namespace Go.Am
open Go.RowKit

section
variable {P : Program} {B : Floor} {ι : Inj} {h : Heap} {w : World}

@[simp] theorem add_lit (b o n : Nat) : (⟨b, o, none⟩ : Addr).add n = ⟨b, o + n, none⟩ := Addr.add_lit b o n

theorem info_of_szT {t : TypeId} (hs : szT P t ≠ 0) : ∃ i, P.info? t = some i ∧ i.size = szT P t := by
  unfold szT Program.cellsOf at *
  cases hi : P.info? t with
  | none => simp [hi] at hs
  | some i => exact ⟨i, rfl, by simp⟩

theorem run_sizeOf' {t : TypeId} {i : TypeInfo} (hi : P.info? t = some i) : (sizeOf t).run P w = .ok (szT P t) w := by
  simp [sizeOf, typeInfo, hi, szT, Program.cellsOf]

theorem run_sizeOf_ne {t : TypeId} (hs : szT P t ≠ 0) : (sizeOf t).run P w = .ok (szT P t) w := by
  obtain ⟨i, hi, _⟩ := info_of_szT hs
  exact run_sizeOf' hi

theorem info_of_underlying {t : TypeId} {d : TypeDesc} (hu : P.underlying t = some d) : ∃ i, P.info? t = some i := by
  unfold Program.underlying at hu
  cases hi : P.info? t with
  | none => simp [hi] at hu
  | some i => exact ⟨i, rfl⟩

theorem run_sizeOf_u {t : TypeId} {d : TypeDesc} (hu : P.underlying t = some d) : (sizeOf t).run P w = .ok (szT P t) w := by
  obtain ⟨i, hi⟩ := info_of_underlying hu
  exact run_sizeOf' hi

theorem run_isAgg {t : TypeId} {b : Bool} (ha : aggT P t = some b) : (isAgg t).run P w = .ok b w ∧ (sizeOf t).run P w = .ok (szT P t) w := by
  unfold aggT at ha
  cases hu : P.underlying t with
  | none => simp [hu] at ha
  | some d =>
    refine ⟨?_, run_sizeOf_u hu⟩
    unfold isAgg
    rw [Sem.run_bind, run_underlying hu w]
    cases d <;> simp [hu] at ha <;> subst ha <;> rfl

theorem run_zeroValue {t : TypeId} {z : AV} (hz : zeroT P t = some z) : ∃ v, (zeroValue t).run P w = .ok v w ∧ (P.info? t).bind (·.zero) = some v ∧ z = ofConst v := by
  unfold zeroT at hz
  cases hi : P.info? t with
  | none => simp [hi] at hz
  | some i =>
    cases hv : i.zero with
    | none => simp [hi, hv] at hz
    | some v =>
      simp [hi, hv] at hz
      exact ⟨v, by simp [zeroValue, typeInfo, hi, hv], by simp [hv], hz.symm⟩

theorem seg_get {α : Type} {l : List α} {b e o n j : Nat} {v : α} (hv : ((((l.drop b).take e).drop o).take n)[j]? = some v) : l[b + o + j]? = some v ∧ j < n := by
  rw [List.getElem?_take] at hv
  split at hv
  · rename_i hj
    rw [List.getElem?_drop, List.getElem?_take] at hv
    split at hv
    · rw [List.getElem?_drop] at hv
      exact ⟨by rw [← hv]; congr 1; omega, hj⟩
    · cases hv
  · cases hv

/-- Cells that are read. -/
theorem R.loadCells (hR : R B ι h w.heap) {id off n : Nat} {cs : List AV} (hc : loadCellsA h id off n = some cs) :
    ∃ l ys, ι id = some l ∧ F2 (VRel ι) cs ys ∧ cs.length = n ∧ (∀ W : World, W.heap = w.heap → (Go.loadCells ⟨l.block, l.base + off, none⟩ n).run P W = .ok ys.toArray W) ∧
      (∀ j v, ys[j]? = some v → w.cell? ⟨l.block, l.base + off + j, none⟩ = some v) ∧ l.base + off + n ≤ l.tot ∧ off + n ≤ l.ext := by
  unfold loadCellsA at hc
  split at hc
  · rename_i els sz e ro fz hg
    obtain ⟨l, hl, hlt, cs', fr, h1, h2, h3, h4, h5, h6, h7, h8, h9⟩ := hR.obj id _ hg rfl
    obtain ⟨g1, g2⟩ := getC_spec h2 h3 hc
    have hlen : cs.length = n := by rw [g2, List.length_take, List.length_drop]; omega
    have hf := (h8.drop off).take n
    rw [← g2] at hf
    obtain ⟨ys, hys⟩ : ∃ ys, ys = (((cs'.toList.drop l.base).take l.ext).drop off).take n := ⟨_, rfl⟩
    rw [← hys] at hf
    have hcell : ∀ j v, ys[j]? = some v → w.cell? ⟨l.block, l.base + off + j, none⟩ = some v := by
      intro j v hv
      rw [hys] at hv
      have := (seg_get hv).1
      simp only [World.cell?, h1]
      simpa using this
    refine ⟨l, ys, hl, hf, hlen, ?_, hcell, by omega, by omega⟩
    have hy := hf.length
    intro W hW
    have hrun := run_loadCells_list (P := P) W ⟨l.block, l.base + off, none⟩ ys (fun j v hv => by
      rw [add_lit]
      have := hcell j v hv
      unfold World.cell? at this ⊢
      rw [hW]; exact this)
    rw [← hy, hlen] at hrun
    exact hrun
  · cases hc

theorem load_sound (hR : R B ι h w.heap) {t : TypeId} {x v : AV} {u : Value} (hx : VRel ι x u) (hv : loadA P t x h = some v) :
    ∃ v', (Instr.loadAt t u).run P w = .ok v' w ∧ VRel ι v v' := by
  unfold loadA at hv
  split at hv
  · rename_i id off
    rw [VRel] at hx
    obtain ⟨l, hl, rfl⟩ := hx
    split at hv
    · rename_i ha
      obtain ⟨a1, a2⟩ := run_isAgg (w := w) ha
      simp only [Instr.loadAt, Instr.sureAddr, Sem.run_bind, Sem.run_pure, Result.andThen_ok, loadVar, a1]
      rw [Option.map_eq_some_iff] at hv
      obtain ⟨cs, hc, rfl⟩ := hv
      obtain ⟨l', ys, e1, e2, e3, e4, _⟩ := hR.loadCells (P := P) hc
      rw [hl] at e1; cases e1
      refine ⟨.agg ys.toArray, ?_, ?_⟩
      · simp [a2, e4 w rfl]
      · rw [VRel]; exact ⟨ys, rfl, VRelL_iff.2 e2⟩
    · rename_i ha
      obtain ⟨a1, a2⟩ := run_isAgg (w := w) ha
      simp only [Instr.loadAt, Instr.sureAddr, Sem.run_bind, Sem.run_pure, Result.andThen_ok, loadVar, a1]
      split at hv
      · rename_i v1 hc
        simp only [Option.some.injEq] at hv
        subst hv
        obtain ⟨l', ys, e1, e2, e3, e4, e5, _⟩ := hR.loadCells (P := P) hc
        rw [hl] at e1; cases e1
        cases e2 with
        | cons r1 r2 =>
          cases r2
          rename_i y
          refine ⟨y, ?_, r1⟩
          have := e5 0 y rfl
          simp only [Nat.add_zero] at this
          simp [this]
      · cases hv
    · cases hv
  · cases hv

theorem part_sound {t : TypeId} {cs : List AV} {ys : List Value} (hr : F2 (VRel ι) cs ys) {off : Nat} {v : AV} (hv : partA P t cs off = some v) :
    ∃ v', (part t ys.toArray off).run P w = .ok v' w ∧ VRel ι v v' := by
  unfold partA at hv
  split at hv
  · rename_i ha
    obtain ⟨a1, a2⟩ := run_isAgg (w := w) ha
    split at hv
    · rename_i hle
      simp only [Option.some.injEq] at hv
      subst hv
      refine ⟨.agg ((ys.drop off).take (szT P t)).toArray, ?_, ?_⟩
      · simp [part, a1, a2]
      · rw [VRel]; exact ⟨_, rfl, VRelL_iff.2 ((hr.drop off).take _)⟩
    · cases hv
  · rename_i ha
    obtain ⟨a1, a2⟩ := run_isAgg (w := w) ha
    obtain ⟨v', h1, h2⟩ := hr.get hv
    refine ⟨v', ?_, h2⟩
    simp [part, a1, h1]
  · cases hv

theorem field_sound {t : TypeId} {x v : AV} {u : Value} (hx : VRel ι x u) {f : Nat} (hv : fieldA P t x f = some v) :
    ∃ v', (Instr.field t u f).run P w = .ok v' w ∧ VRel ι v v' := by
  unfold fieldA at hv
  split at hv
  · rename_i fs cs hu
    rw [VRel] at hx
    obtain ⟨ys, rfl, hy⟩ := hx
    split at hv
    · rename_i g hg
      obtain ⟨v', h1, h2⟩ := part_sound (P := P) (w := w) (VRelL_iff.1 hy) hv
      refine ⟨v', ?_, h2⟩
      simp [Instr.field, run_underlying hu, hg, asAgg, h1]
    · cases hv
  · cases hv

theorem fieldAddr_sound {t : TypeId} {x v : AV} {u : Value} (hx : VRel ι x u) {f : Nat} (hv : fieldAddrA P t x f = some v) :
    ∃ v', (Instr.fieldAt t u f).run P w = .ok v' w ∧ VRel ι v v' := by
  unfold fieldAddrA at hv
  split at hv
  · rename_i fs id off hu
    rw [VRel] at hx
    obtain ⟨l, hl, rfl⟩ := hx
    split at hv
    · rename_i g hg
      split at hv
      · cases hv
      · rename_i hs
        simp only [Option.some.injEq] at hv
        subst hv
        refine ⟨.pointer (some ⟨l.block, l.base + off + g.offset, none⟩), ?_, ?_⟩
        · simp [Instr.fieldAt, run_underlying hu, hg, Instr.sureAddr, fieldPlace, run_sizeOf_ne hs, hs]
        · rw [VRel]; exact ⟨l, hl, by rw [Nat.add_assoc]⟩
    · cases hv
  · cases hv

theorem intOf_sound {x : AV} {i : Int} {u : Value} (hx : VRel ι x u) (hi : intOf? x = some i) : ∃ k, u = .int k i := by
  cases x <;> simp [intOf?] at hi
  subst hi
  rw [VRel] at hx
  exact ⟨_, hx⟩

theorem indexAddr_sound {t : TypeId} {x y v : AV} {u z : Value} (hx : VRel ι x u) (hy : VRel ι y z) (hv : indexAddrA P t x y = some v) :
    ∃ v', (Instr.indexAt t u z).run P w = .ok v' w ∧ VRel ι v v' := by
  unfold indexAddrA at hv
  split at hv
  · rename_i n e id off i hu hi
    rw [VRel] at hx
    obtain ⟨l, hl, rfl⟩ := hx
    obtain ⟨k, rfl⟩ := intOf_sound hy hi
    split at hv
    · rename_i hin
      obtain ⟨ie, hie⟩ := Option.isSome_iff_exists.1 hin.2.2
      simp only [Option.some.injEq] at hv
      subst hv
      refine ⟨.pointer (some ⟨l.block, l.base + off + i.toNat * szT P e, none⟩), ?_, ?_⟩
      · simp [Instr.indexAt, asIntOf, run_underlying hu, Instr.sureAddr, hin.1, hin.2.1, run_sizeOf' hie]
      · rw [VRel]; exact ⟨l, hl, by rw [Nat.add_assoc]⟩
    · cases hv
  · rename_i e id off n c i hu hi
    obtain ⟨k, rfl⟩ := intOf_sound hy hi
    split at hv
    · rename_i hin
      obtain ⟨ie, hie⟩ := Option.isSome_iff_exists.1 hin.2.2
      simp only [Option.some.injEq] at hv
      subst hv
      cases c with
      | some c =>
        rw [VRel] at hx
        obtain ⟨l, a, hl, hc, rfl, rfl | ⟨h0, _⟩⟩ := hx
        case inr => omega
        refine ⟨.pointer (some ⟨l.block, l.base + off + i.toNat * szT P e, none⟩), ?_, ?_⟩
        · simp [Instr.indexAt, asIntOf, run_underlying hu, hin.1, hin.2.1, run_sizeOf' hie]
        · rw [VRel]; exact ⟨l, hl, by rw [Nat.add_assoc]⟩
      | none =>
        rw [VRel] at hx
        obtain ⟨l, a, c, hl, rfl, hc, h2⟩ := hx
        rcases h2 with ⟨rfl, h3, h4⟩ | ⟨h3, h4, _⟩
        · refine ⟨.pointer (some ⟨l.block, l.base + off + i.toNat * szT P e, none⟩), ?_, ?_⟩
          · simp [Instr.indexAt, asIntOf, run_underlying hu, hin.1, hin.2.1, run_sizeOf' hie]
          · rw [VRel]; exact ⟨l, hl, by rw [Nat.add_assoc]⟩
        · omega
    · cases hv
  · cases hv

theorem index_sound {t : TypeId} {x y v : AV} {u z : Value} (hx : VRel ι x u) (hy : VRel ι y z) (hv : indexA P t x y = some v) :
    ∃ v', (Instr.index t u z).run P w = .ok v' w ∧ VRel ι v v' := by
  unfold indexA at hv
  split at hv
  · rename_i n e cs i hu hi
    rw [VRel] at hx
    obtain ⟨ys, rfl, hys⟩ := hx
    obtain ⟨k, rfl⟩ := intOf_sound hy hi
    split at hv
    · rename_i hin
      obtain ⟨ie, hie⟩ := Option.isSome_iff_exists.1 hin.2.2
      obtain ⟨v', h1, h2⟩ := part_sound (P := P) (w := w) (VRelL_iff.1 hys) hv
      refine ⟨v', ?_, h2⟩
      simp [Instr.index, asIntOf, run_underlying hu, hin.1, hin.2.1, run_sizeOf' hie, h1]
    · cases hv
  · rename_i s i hu hi
    rw [VRel] at hx
    subst hx
    obtain ⟨k, rfl⟩ := intOf_sound hy hi
    split at hv
    · rename_i hin
      rw [Option.map_eq_some_iff] at hv
      obtain ⟨b, hb, rfl⟩ := hv
      refine ⟨.int .u8 b.toNat, ?_, by rw [VRel]⟩
      have hb' : (⟨s.toArray⟩ : ByteArray)[i.toNat]? = some b := by
        obtain ⟨hlt, he⟩ := List.getElem?_eq_some_iff.1 hb
        rw [getElem?_pos (⟨s.toArray⟩ : ByteArray) i.toNat (by simpa [ByteArray.size] using hlt)]
        simp [ByteArray.getElem_eq_getElem_data, he]
      simp [Instr.index, asIntOf, run_underlying hu, hin, hb']
    · cases hv
  · cases hv
end
end Go.Am
end
noncomputable section
namespace Go.Am
open Go.RowKit

theorem wrapA_eq (k : IntKind) (n : Int) : wrapA k n = k.wrap n := by
  cases k <;> simp [wrapA, wrapS, wrapU, IntKind.wrap, IntKind.bits, IntKind.signed]

theorem bitsA_eq (k : IntKind) (n : Int) : bitsA k n = (BitVec.ofInt k.bits n).toNat := by
  rw [BitVec.toNat_ofInt]; rfl

section
variable {P : Program} {B : Floor} {ι : Inj} {h : Heap} {w : World}

theorem cmp_sound {op : BinOp} {a b : Int} {v : AV} (hv : cmpA op a b = some v) : ∃ v', (Op.intCmp op a b).run P w = .ok v' w ∧ VRel ι v v' := by
  unfold cmpA at hv
  cases op <;> simp at hv <;> subst hv <;> exact ⟨_, rfl, by simp [VRel]⟩

theorem int_sound {op : BinOp} {t : TypeId} {k : IntKind} {a b : Int} {v : AV} (hop : op ≠ .shl ∧ op ≠ .shr) (hv : intA op k a b = some v) :
    ∃ v', (binOp op t (.int k a) (.int k b)).run P w = .ok v' w ∧ VRel ι v v' := by
  unfold intA at hv
  have hc : ∀ o, (o = op) → cmpA o a b = some v → ∃ v', (Op.intCmp o a b).run P w = .ok v' w ∧ VRel ι v v' := fun o _ h => cmp_sound h
  cases op
  case shl => exact absurd rfl hop.1
  case shr => exact absurd rfl hop.2
  case add => simp at hv; subst hv; exact ⟨.int k (k.wrap (a + b)), by simp [binOp, Op.intArith], by rw [VRel, wrapA_eq]⟩
  case sub => simp at hv; subst hv; exact ⟨.int k (k.wrap (a - b)), by simp [binOp, Op.intArith], by rw [VRel, wrapA_eq]⟩
  case mul => simp at hv; subst hv; exact ⟨.int k (k.wrap (a * b)), by simp [binOp, Op.intArith], by rw [VRel, wrapA_eq]⟩
  case quo =>
    simp at hv; obtain ⟨h0, rfl⟩ := hv
    exact ⟨.int k (k.wrap (a.tdiv b)), by simp [binOp, Op.intDiv, h0], by rw [VRel, wrapA_eq]⟩
  case rem =>
    simp at hv; obtain ⟨h0, rfl⟩ := hv
    exact ⟨.int k (a.tmod b), by simp [binOp, Op.intDiv, h0], by rw [VRel]⟩
  case and => simp at hv; subst hv; exact ⟨_, by simp [binOp, Op.intBits]; rfl, by rw [VRel, wrapA_eq, bitsA_eq, bitsA_eq]; simp⟩
  case or => simp at hv; subst hv; exact ⟨_, by simp [binOp, Op.intBits]; rfl, by rw [VRel, wrapA_eq, bitsA_eq, bitsA_eq]; simp⟩
  case xor => simp at hv; subst hv; exact ⟨_, by simp [binOp, Op.intBits]; rfl, by rw [VRel, wrapA_eq, bitsA_eq, bitsA_eq]; simp⟩
  case andNot => simp at hv
  all_goals
    first
      | (simp at hv; done)
      | (obtain ⟨v', h1, h2⟩ := hc _ rfl hv; exact ⟨v', by simpa [binOp] using h1, h2⟩)

theorem shift_sound {op : BinOp} {t : TypeId} {k k' : IntKind} {a b : Int} {v : AV} (hop : op = .shl ∨ op = .shr) (hv : shiftA op k a b = some v) :
    ∃ v', (binOp op t (.int k a) (.int k' b)).run P w = .ok v' w ∧ VRel ι v v' := by
  unfold shiftA at hv
  split at hv
  · cases hv
  · rename_i h0
    have hpow : ∀ n : Nat, ((2 ^ n : Nat) : Int) = (2 : Int) ^ n := fun n => by rw [Int.natCast_pow]; rfl
    rcases hop with rfl | rfl
    · simp only [Option.some.injEq] at hv
      subst hv
      refine ⟨.int k (k.wrap (a * 2 ^ (min b.toNat k.bits))), ?_, ?_⟩
      · simp [binOp, Op.shift, h0]
      · rw [VRel, wrapA_eq, hpow]
    · simp only [Option.some.injEq] at hv
      subst hv
      refine ⟨.int k (a.fdiv (2 ^ (min b.toNat k.bits))), ?_, ?_⟩
      · simp [binOp, Op.shift, h0]
      · rw [VRel, hpow]

theorem eqB_eq : ∀ x y : List UInt8, eqB x y = (x == y)
  | [], [] => rfl
  | [], _ :: _ => rfl
  | _ :: _, [] => rfl
  | a :: x, b :: y => by
    have : Nat.beq a.toNat b.toNat = (a == b) := by
      rw [Bool.eq_iff_iff]
      simp [UInt8.toNat_inj]
    simp [eqB, eqB_eq x y, this]

theorem eqB_refl (x : List UInt8) : eqB x x = true := by rw [eqB_eq]; simp
theorem eqB_true {x y : List UInt8} (h : eqB x y = true) : x = y := by rw [eqB_eq] at h; simpa using h

theorem ltB_eq : ∀ x y : List UInt8, ltB x y = Op.bytesLess x y
  | x, [] => by cases x <;> rfl
  | [], _ :: _ => rfl
  | a :: x, b :: y => by
    have h1 : Nat.beq a.toNat b.toNat = (a == b) := by
      rw [Bool.eq_iff_iff]; simp [UInt8.toNat_inj]
    have h2 : Nat.blt a.toNat b.toNat = decide (a < b) := by
      rw [Bool.eq_iff_iff]; simp [Nat.blt, UInt8.lt_iff_toNat_lt, Nat.succ_le_iff]
    simp [ltB, Op.bytesLess, ltB_eq x y, h1, h2]

theorem toList_mk (s : List UInt8) : (⟨s.toArray⟩ : ByteArray).toList = s := by rw [ByteArray.toList_eq]

theorem str_sound {op : BinOp} {t : TypeId} {a b : List UInt8} {v : AV} (hv : strA op a b = some v) :
    ∃ v', (binOp op t (.string ⟨a.toArray⟩) (.string ⟨b.toArray⟩)).run P w = .ok v' w ∧ VRel ι v v' := by
  have hb : binOp op t (.string ⟨a.toArray⟩) (.string ⟨b.toArray⟩) = Op.stringOp op ⟨a.toArray⟩ ⟨b.toArray⟩ := by cases op <;> rfl
  rw [hb]
  unfold strA at hv
  cases op <;> simp at hv
  case add =>
    obtain ⟨h1, rfl⟩ := hv
    refine ⟨.string (⟨a.toArray⟩ ++ ⟨b.toArray⟩), ?_, ?_⟩
    · have : ¬ ((a.length + b.length : Nat) : Int) > 9223372036854775807 := by omega
      have hs : ∀ l : List UInt8, (⟨l.toArray⟩ : ByteArray).size = l.length := fun l => by simp [ByteArray.size]
      simp only [Op.stringOp, hs, IntKind.max_i64]
      rw [if_neg (by omega)]
      rfl
    · rw [VRel]
      congr 1
  all_goals
    subst hv
    refine ⟨_, rfl, ?_⟩
    simp [VRel, toList_mk, eqB_eq, ltB_eq]

theorem fields_sound {d D : Nat} {xs ys : List AV} {us zs : List Value} (hx : F2 (VRel ι) xs us) (hy : F2 (VRel ι) ys zs)
    (ih : ∀ (t : TypeId) (x y : AV) (u z : Value) (b : Bool), VRel ι x u → VRel ι y z → eqA P h d t x y = some b → (Op.equalIn D t u z).run P w = .ok b w) :
    ∀ (fs : List Field) (b : Bool), fs.foldr (fun f r => if f.name ≠ "_" then
          match partA P f.type xs f.offset, partA P f.type ys f.offset with
          | some a, some b => match eqA P h d f.type a b with
            | some true => r
            | r' => r'
          | _, _ => none
        else r) (some true) = some b → (Op.eqFields D us.toArray zs.toArray fs).run P w = .ok b w
  | [], b, hb => by simp at hb; subst hb; simp [Op.eqFields]
  | f :: fs, b, hb => by
    simp only [List.foldr_cons] at hb
    simp only [Op.eqFields]
    split at hb
    · rename_i hn
      rw [if_pos hn]
      split at hb
      · rename_i a c ha hc
        obtain ⟨a', g1, g2⟩ := part_sound (P := P) (w := w) hx ha
        obtain ⟨c', g3, g4⟩ := part_sound (P := P) (w := w) hy hc
        split at hb
        · rename_i he
          have := ih f.type a c a' c' true g2 g4 he
          simp only [Sem.run_bind, g1, g3, Result.andThen_ok, this]
          simpa using fields_sound hx hy ih fs b hb
        · rename_i r' hne
          have hbb : b = false := by cases b with
            | false => rfl
            | true => exact absurd hb hne
          subst hbb
          have := ih f.type a c a' c' false g2 g4 hb
          simp [Sem.run_bind, g1, g3, Result.andThen_ok, this]
      · cases hb
    · rename_i hn
      rw [if_neg hn]
      exact fields_sound hx hy ih fs b hb

theorem items_sound {d D : Nat} {e : TypeId} {xs ys : List AV} {us zs : List Value} (hx : F2 (VRel ι) xs us) (hy : F2 (VRel ι) ys zs)
    (ih : ∀ (t : TypeId) (x y : AV) (u z : Value) (b : Bool), VRel ι x u → VRel ι y z → eqA P h d t x y = some b → (Op.equalIn D t u z).run P w = .ok b w) :
    ∀ (is : List Nat) (b : Bool), is.foldr (fun i r =>
          match partA P e xs (i * szT P e), partA P e ys (i * szT P e) with
          | some a, some b => match eqA P h d e a b with
            | some true => r
            | r' => r'
          | _, _ => none) (some true) = some b → (Op.eqItems D e (P.cellsOf e) us.toArray zs.toArray is).run P w = .ok b w
  | [], b, hb => by simp at hb; subst hb; simp [Op.eqItems]
  | i :: is, b, hb => by
    simp only [List.foldr_cons] at hb
    simp only [Op.eqItems]
    split at hb
    · rename_i a c ha hc
      obtain ⟨a', g1, g2⟩ := part_sound (P := P) (w := w) hx ha
      obtain ⟨c', g3, g4⟩ := part_sound (P := P) (w := w) hy hc
      unfold szT at g1 g3
      split at hb
      · rename_i he
        have := ih e a c a' c' true g2 g4 he
        simp only [Sem.run_bind, g1, g3, Result.andThen_ok, this]
        simpa using items_sound hx hy ih is b hb
      · rename_i r' hne
        have hbb : b = false := by cases b with
          | false => rfl
          | true => exact absurd hb hne
        subst hbb
        have := ih e a c a' c' false g2 g4 hb
        simp [Sem.run_bind, g1, g3, Result.andThen_ok, this]
    · cases hb

theorem alive_spec (hR : R B ι h w.heap) {i : Nat} {l : Loc} (hl : ι i = some l) (ha : alive h i = true) :
    ∃ o, h.get i = some o ∧ o.owns = true ∧ ∃ cs e, w.heap[l.block]? = some (.cells cs e (0, 0)) := by
  unfold alive at ha
  split at ha
  · rename_i els sz e hg
    obtain ⟨q, hq, _, cs, fr, k1, k2, k3, k4, k5, k6, k7, k8, k9⟩ := hR.obj i _ hg rfl
    rw [hl] at hq; cases hq
    have := (k9.1 rfl).2.1 rfl
    subst this
    exact ⟨_, hg, rfl, cs, e, k1⟩
  · cases ha

set_option maxHeartbeats 2000000 in
/-- Two values that are compared. -/
theorem eq_sound (hR : R B ι h w.heap) : ∀ (d : Nat) (D : Nat) (t : TypeId) (x y : AV) (u z : Value) (b : Bool), d ≤ D → VRel ι x u → VRel ι y z → eqA P h d t x y = some b →
    (Op.equalIn D t u z).run P w = .ok b w := by
  intro d
  induction d with
  | zero => intro D t x y u z b _ _ _ he; simp [eqA] at he
  | succ d ih =>
    intro D t x y u z b hD hx hy he
    obtain ⟨D, rfl⟩ : ∃ m, D = m + 1 := ⟨D - 1, by omega⟩
    have hd : d ≤ D := by omega
    unfold eqA at he
    split at he
    · rename_i hu
      rw [VRel] at hx; rw [VRel] at hy; subst hx; subst hy
      simp only [Option.some.injEq] at he; subst he
      simp [Op.equalIn, run_underlying hu]
    · rename_i hu
      rw [VRel] at hx; rw [VRel] at hy; subst hx; subst hy
      split at he
      · rename_i hk
        simp only [Option.some.injEq] at he; subst he; subst hk
        simp [Op.equalIn, run_underlying hu]
      · cases he
    · rename_i a c hu
      rw [VRel] at hx; rw [VRel] at hy; subst hx; subst hy
      simp only [Option.some.injEq] at he; subst he
      have hbb : ((⟨a.toArray⟩ : ByteArray) == ⟨c.toArray⟩) = eqB a c := by rw [beq_toListBytes, toList_mk, toList_mk, eqB_eq]
      simp [Op.equalIn, run_underlying hu, hbb]
    · rename_i b' hu
      rw [VRel] at hx; subst hx
      simp only [Option.some.injEq] at he; subst he
      rcases b' with _ | ⟨i, o⟩
      · rw [VRel] at hy; subst hy; simp [Op.equalIn, run_underlying hu]
      · rw [VRel] at hy; obtain ⟨l, _, rfl⟩ := hy; simp [Op.equalIn, run_underlying hu]
    · rename_i p hu
      obtain ⟨i, o⟩ := p
      rw [VRel] at hx; rw [VRel] at hy; obtain ⟨l, _, rfl⟩ := hx; subst hy
      simp only [Option.some.injEq] at he; subst he
      simp [Op.equalIn, run_underlying hu]
    · rename_i e i a j c hu
      rw [VRel] at hx; rw [VRel] at hy
      obtain ⟨l, hl, rfl⟩ := hx
      obtain ⟨l2, hl2, rfl⟩ := hy
      split at he
      · rename_i hc
        obtain ⟨hs, ha1, ha2⟩ := hc
        simp only [Option.some.injEq] at he; subst he
        obtain ⟨o1, hg1, ho1, cs1, e1, k1⟩ := alive_spec hR hl ha1
        obtain ⟨o2, hg2, ho2, cs2, e2, k2⟩ := alive_spec hR hl2 ha2
        by_cases hij : i = j
        · subst hij
          rw [hl] at hl2; cases hl2
          have : (a == c) = (({ block := l.block, off := l.base + a, spot := none } : Addr) == { block := l.block, off := l.base + c, spot := none }) := by
            rw [Bool.eq_iff_iff]; simp
          simp [Op.equalIn, run_underlying hu, run_sizeOf_ne hs, hs, sameAddr, this]
        · have hne := hR.sep i j _ _ l l2 hij hg1 hg2 ho1 (AObj.alive_of_owns ho2) hl hl2
          simp [Op.equalIn, run_underlying hu, run_sizeOf_ne hs, hs, sameAddr, hne, hij, World.frozen?, k1, k2, noView, viewAt, World.shape?, mayBeOne, stringish]
      · cases he
    · rw [VRel] at hx; rw [VRel] at hy; subst hx; subst hy
      rename_i hu
      simp only [Option.some.injEq] at he; subst he
      simp [Op.equalIn, run_underlying hu]
    · rw [VRel] at hx; rw [VRel] at hy; rename_i hu
      subst hx; obtain ⟨_, rfl, _⟩ := hy
      simp only [Option.some.injEq] at he; subst he
      simp [Op.equalIn, run_underlying hu]
    · rw [VRel] at hx; rw [VRel] at hy; rename_i hu
      subst hy; obtain ⟨_, rfl, _⟩ := hx
      simp only [Option.some.injEq] at he; subst he
      simp [Op.equalIn, run_underlying hu]
    · rename_i fs xs ys hu
      rw [VRel] at hx; rw [VRel] at hy
      obtain ⟨us, rfl, hus⟩ := hx
      obtain ⟨zs, rfl, hzs⟩ := hy
      split at he
      · cases he
      · rename_i hp
        have hf : P.fieldsOf t = fs := by simp [Program.fieldsOf, hu]
        rw [run_equalIn_struct w D t us.toArray zs.toArray (by rw [hf]; exact hu) (by simpa using hp), hf]
        exact fields_sound (VRelL_iff.1 hus) (VRelL_iff.1 hzs) (fun t x y u z b h1 h2 h3 => ih D t x y u z b hd h1 h2 h3) fs.toList b he
    · rename_i n e xs ys hu
      rw [VRel] at hx; rw [VRel] at hy
      obtain ⟨us, rfl, hus⟩ := hx
      obtain ⟨zs, rfl, hzs⟩ := hy
      split at he
      · rename_i hi
        obtain ⟨ie, hie⟩ := Option.isSome_iff_exists.1 hi
        rw [run_equalIn_array w D us.toArray zs.toArray hu hie]
        exact items_sound (VRelL_iff.1 hus) (VRelL_iff.1 hzs) (fun t x y u z b h1 h2 h3 => ih D t x y u z b hd h1 h2 h3) _ b he
      · cases he
    · rename_i b' _ cc hu
      rw [VRel] at hx; obtain ⟨_, _, rfl⟩ := hx
      simp only [Option.some.injEq] at he; subst he
      rcases b' with _ | ⟨i, o⟩
      · rw [VRel] at hy; obtain ⟨_, _, rfl⟩ := hy; simp [Op.equalIn, run_underlying hu]
      · cases cc with
        | none => rw [VRel] at hy; obtain ⟨l, a, c, _, rfl, _⟩ := hy; simp [Op.equalIn, run_underlying hu]
        | some c => rw [VRel] at hy; obtain ⟨l, _, _, _, rfl, _⟩ := hy; simp [Op.equalIn, run_underlying hu]
    · rename_i p _ cc _ _ hu
      obtain ⟨i, o⟩ := p
      rw [VRel] at hy; obtain ⟨_, _, rfl⟩ := hy
      simp only [Option.some.injEq] at he; subst he
      cases cc with
      | none => rw [VRel] at hx; obtain ⟨l, a, c, _, rfl, _⟩ := hx; simp [Op.equalIn, run_underlying hu]
      | some c => rw [VRel] at hx; obtain ⟨l, _, _, _, rfl, _⟩ := hx; simp [Op.equalIn, run_underlying hu]
    · rename_i b' hu
      rw [VRel] at hx; subst hx
      simp only [Option.some.injEq] at he; subst he
      cases b' with
      | none => rw [VRel] at hy; subst hy; simp [Op.equalIn, run_underlying hu]
      | some r => rw [VRel] at hy; obtain ⟨l, _, rfl⟩ := hy; simp [Op.equalIn, run_underlying hu]
    · rename_i r hu
      rw [VRel] at hx; rw [VRel] at hy; obtain ⟨l, _, rfl⟩ := hx; subst hy
      simp only [Option.some.injEq] at he; subst he
      simp [Op.equalIn, run_underlying hu]
    · rename_i hu
      rw [VRel] at hx; rw [VRel] at hy; subst hx; subst hy
      simp only [Option.some.injEq] at he; subst he
      simp [Op.equalIn, run_underlying hu]
    · rename_i hu
      rw [VRel] at hx; rw [VRel] at hy; subst hx; obtain ⟨_, _, rfl, _⟩ := hy
      simp only [Option.some.injEq] at he; subst he
      simp [Op.equalIn, run_underlying hu]
    · rename_i hu
      rw [VRel] at hx; rw [VRel] at hy; subst hy; obtain ⟨_, _, rfl, _⟩ := hx
      simp only [Option.some.injEq] at he; subst he
      simp [Op.equalIn, run_underlying hu]
    · cases he
end
end Go.Am
end
noncomputable section
namespace Go.Am
open Go.RowKit

section
variable {P : Program} {B : Floor} {ι : Inj} {h : Heap} {w : World}

/-! ### Comparisons of any kind -/
theorem eqA_not_int {d : Nat} {t : TypeId} {k : IntKind} {a : Int} {y : AV} {b : Bool} (he : eqA P h d t (.int k a) y = some b) : ∃ k' c, y = .int k' c := by
  cases d with
  | zero => simp [eqA] at he
  | succ d => unfold eqA at he; split at he <;> simp_all

theorem eqA_not_str {d : Nat} {t : TypeId} {a : List UInt8} {y : AV} {b : Bool} (he : eqA P h d t (.str a) y = some b) : ∃ c, y = .str c := by
  cases d with
  | zero => simp [eqA] at he
  | succ d => unfold eqA at he; split at he <;> simp_all

theorem eqA_not_undef {d : Nat} {t : TypeId} {y : AV} {b : Bool} (he : eqA P h d t .undef y = some b) : False := by
  cases d with
  | zero => simp [eqA] at he
  | succ d => unfold eqA at he; split at he <;> simp_all

theorem eqA_nilIface {d : Nat} {t : TypeId} {y : AV} {b : Bool} (he : eqA P h d t .nilIface y = some b) : y = .nilIface ∨ ∃ t v, y = .iface t v := by
  cases d with
  | zero => simp [eqA] at he
  | succ d => unfold eqA at he; split at he <;> simp_all

theorem eqA_agg {d : Nat} {t : TypeId} {xs : List AV} {y : AV} {b : Bool} (he : eqA P h d t (.agg xs) y = some b) : ∃ ys, y = .agg ys := by
  cases d with
  | zero => simp [eqA] at he
  | succ d => unfold eqA at he; split at he <;> simp_all

def Value.plainEq : Value → Bool
  | .int _ _ | .float _ _ | .complex _ _ _ | .string _ => false
  | _ => true

theorem binOp_eql_plain {t : TypeId} {u z : Value} (hu : Value.plainEq u = true) : binOp .eql t u z = (do pure (.bool (← Op.equal t u z))) := by
  cases u <;> simp [Value.plainEq] at hu <;> cases z <;> rfl
theorem binOp_neq_plain {t : TypeId} {u z : Value} (hu : Value.plainEq u = true) : binOp .neq t u z = (do pure (.bool (!(← Op.equal t u z)))) := by
  cases u <;> simp [Value.plainEq] at hu <;> cases z <;> rfl

theorem guard_sound {op : BinOp} {t : TypeId} {xo yo : Operand} {x y : AV} {u z : Value} {b : Bool} (hx : VRel ι x u) (hy : VRel ι y z) (hg : guardOk P t xo yo x y = true)
    (he : eqA P h 8 t x y = some b) (hni : ∀ k n, x ≠ .int k n) (hns : ∀ s, x ≠ .str s) :
    (eqGuard op t xo yo u z).run P w = .ok () w ∧ Value.plainEq u = true := by
  cases x with
  | undef => exact (eqA_not_undef he).elim
  | bool a => rw [VRel] at hx; subst hx; exact ⟨by rw [eqGuard_at_bool]; rfl, rfl⟩
  | int k n => exact absurd rfl (hni k n)
  | str s => exact absurd rfl (hns s)
  | ptr a => rcases a with _ | ⟨i, o⟩
             · rw [VRel] at hx; subst hx; exact ⟨by rw [eqGuard_at_pointer]; rfl, rfl⟩
             · rw [VRel] at hx; obtain ⟨l, _, rfl⟩ := hx; exact ⟨by rw [eqGuard_at_pointer]; rfl, rfl⟩
  | slice a n c =>
    rcases a with _ | ⟨i, o⟩
    · rw [VRel] at hx; obtain ⟨_, _, rfl⟩ := hx; exact ⟨by rw [eqGuard_at_slice]; rfl, rfl⟩
    · cases c with
      | none => rw [VRel] at hx; obtain ⟨_, _, _, _, rfl, _⟩ := hx; exact ⟨by rw [eqGuard_at_slice]; rfl, rfl⟩
      | some c => rw [VRel] at hx; obtain ⟨_, _, _, _, rfl, _⟩ := hx; exact ⟨by rw [eqGuard_at_slice]; rfl, rfl⟩
  | map r => cases r with
    | none => rw [VRel] at hx; subst hx; exact ⟨by rw [eqGuard_at_map]; rfl, rfl⟩
    | some r => rw [VRel] at hx; obtain ⟨_, _, rfl⟩ := hx; exact ⟨by rw [eqGuard_at_map]; rfl, rfl⟩
  | func f a c => rw [VRel] at hx; obtain ⟨_, _, rfl, _⟩ := hx; exact ⟨by rw [eqGuard_at_func]; rfl, rfl⟩
  | nilFunc => rw [VRel] at hx; subst hx; exact ⟨by rw [eqGuard_at_nilFunc]; rfl, rfl⟩
  | iface d v => rw [VRel] at hx; obtain ⟨_, rfl, _⟩ := hx; exact ⟨by rw [eqGuard_at_iface]; rfl, rfl⟩
  | nilIface =>
    rw [VRel] at hx; subst hx
    rcases eqA_nilIface he with rfl | ⟨d, v, rfl⟩
    · rw [VRel] at hy; subst hy
      simp only [guardOk, Bool.or_eq_true] at hg
      refine ⟨?_, rfl⟩
      rcases hg with hg | hg
      · cases xo <;> simp [isConstO] at hg
        rw [eqGuard_nil_constL]; rfl
      · cases yo <;> simp [isConstO] at hg
        rw [eqGuard_nil_constR]; rfl
    · rw [VRel] at hy; obtain ⟨_, rfl, _⟩ := hy
      exact ⟨by rw [eqGuard_nil_iface]; rfl, rfl⟩
  | agg xs =>
    obtain ⟨ys, rfl⟩ := eqA_agg he
    rw [VRel] at hx; rw [VRel] at hy
    obtain ⟨_, rfl, _⟩ := hx
    obtain ⟨_, rfl, _⟩ := hy
    simp only [guardOk, Bool.not_eq_true'] at hg
    exact ⟨run_eqGuard_agg w op t xo yo _ _ hg, rfl⟩
  | tuple xs => rw [VRel] at hx; obtain ⟨_, rfl, _⟩ := hx; exact ⟨by rw [eqGuard_at_tuple]; rfl, rfl⟩

theorem bin_sound (hR : R B ι h w.heap) {op : BinOp} {t : TypeId} {xo yo : Operand} {x y : AV} {u z : Value} {v : AV} (hx : VRel ι x u) (hy : VRel ι y z) (hv : binA P h op t xo yo x y = some v) :
    ∃ v', (do eqGuard op t xo yo u z; binOp op t u z : Sem Value).run P w = .ok v' w ∧ VRel ι v v' := by
  unfold binA at hv
  split at hv
  · rename_i k a k' b
    rw [VRel] at hx; rw [VRel] at hy; subst hx; subst hy
    rw [eqGuard_at_int]
    split at hv
    · obtain ⟨v', h1, h2⟩ := shift_sound (P := P) (ι := ι) (w := w) (t := t) (k' := k') (.inl rfl) hv
      exact ⟨v', by simpa using h1, h2⟩
    · obtain ⟨v', h1, h2⟩ := shift_sound (P := P) (ι := ι) (w := w) (t := t) (k' := k') (.inr rfl) hv
      exact ⟨v', by simpa using h1, h2⟩
    · rename_i hn1 hn2
      split at hv
      · rename_i hk; subst hk
        obtain ⟨v', h1, h2⟩ := int_sound (P := P) (ι := ι) (w := w) (t := t) ⟨hn1, hn2⟩ hv
        exact ⟨v', by simpa using h1, h2⟩
      · cases hv
  · rename_i a b
    rw [VRel] at hx; rw [VRel] at hy; subst hx; subst hy
    rw [eqGuard_at_string]
    obtain ⟨v', h1, h2⟩ := str_sound (P := P) (ι := ι) (w := w) (t := t) hv
    exact ⟨v', by simpa using h1, h2⟩
  · rename_i hn1 hn2
    split at hv
    · split at hv
      · rename_i hg
        rw [Option.map_eq_some_iff] at hv
        obtain ⟨b, hb, rfl⟩ := hv
        have hni : ∀ k n, x ≠ .int k n := by
          rintro k n rfl
          obtain ⟨k', c, rfl⟩ := eqA_not_int hb
          exact hn1 _ _ _ _ rfl rfl
        have hns : ∀ s, x ≠ .str s := by
          rintro s rfl
          obtain ⟨c, rfl⟩ := eqA_not_str hb
          exact hn2 _ _ rfl rfl
        obtain ⟨g1, g2⟩ := guard_sound (w := w) (op := .eql) hx hy hg hb hni hns
        refine ⟨.bool b, ?_, by rw [VRel]⟩
        rw [Sem.run_bind, g1, Result.andThen_ok, binOp_eql_plain g2]
        simp [Op.equal, eq_sound hR 8 Op.maxDepth t x y u z b (by simp [Op.maxDepth]) hx hy hb]
      · cases hv
    · split at hv
      · rename_i hg
        rw [Option.map_eq_some_iff] at hv
        obtain ⟨b, hb, rfl⟩ := hv
        have hni : ∀ k n, x ≠ .int k n := by
          rintro k n rfl
          obtain ⟨k', c, rfl⟩ := eqA_not_int hb
          exact hn1 _ _ _ _ rfl rfl
        have hns : ∀ s, x ≠ .str s := by
          rintro s rfl
          obtain ⟨c, rfl⟩ := eqA_not_str hb
          exact hn2 _ _ rfl rfl
        obtain ⟨g1, g2⟩ := guard_sound (w := w) (op := .neq) hx hy hg hb hni hns
        refine ⟨.bool (!b), ?_, by rw [VRel]⟩
        rw [Sem.run_bind, g1, Result.andThen_ok, binOp_neq_plain g2]
        simp [Op.equal, eq_sound hR 8 Op.maxDepth t x y u z b (by simp [Op.maxDepth]) hx hy hb]
      · cases hv
    · cases hv

theorem un_sound {op : UnOp} {x : AV} {u : Value} {v : AV} (hx : VRel ι x u) (hv : unA op x = some v) : ∃ v', (Op.unary op u).run P w = .ok v' w ∧ VRel ι v v' := by
  unfold unA at hv
  split at hv
  · rw [VRel] at hx; subst hx; simp only [Option.some.injEq] at hv; subst hv
    exact ⟨_, rfl, by rw [VRel]⟩
  · rename_i k n
    rw [VRel] at hx; subst hx; simp only [Option.some.injEq] at hv; subst hv
    exact ⟨.int k (k.wrap (0 - n)), by simp [Op.unary, Op.intArith], by rw [VRel, wrapA_eq]⟩
  · rename_i k n
    rw [VRel] at hx; subst hx; simp only [Option.some.injEq] at hv; subst hv
    exact ⟨_, by simp [Op.unary, Op.intBits]; rfl, by rw [VRel, wrapA_eq, bitsA_eq, bitsA_eq]; simp⟩
  · cases hv

/-! ### Bytes and strings -/
theorem bytes_sound {cs : List AV} {ys : List Value} (hf : F2 (VRel ι) cs ys) {s : List UInt8} (hs : bytesOfCells cs = some s) :
    ∃ ns : List Int, ys = ns.map (Value.int .u8) ∧ s = ns.map fun n => UInt8.ofNat n.toNat := by
  induction hf generalizing s with
  | nil => simp [bytesOfCells] at hs; subst hs; exact ⟨[], rfl, rfl⟩
  | cons h1 h2 ih =>
    rename_i a b x y
    cases a <;> try (simp [bytesOfCells] at hs; done)
    rename_i k n
    cases k <;> try (simp [bytesOfCells] at hs; done)
    simp only [bytesOfCells, Option.map_eq_some_iff] at hs
    obtain ⟨s', h3, rfl⟩ := hs
    obtain ⟨ns, rfl, rfl⟩ := ih h3
    rw [VRel] at h1
    subst h1
    exact ⟨n :: ns, rfl, rfl⟩

theorem run_bytesLoop (f : Value → ByteArray → Sem (ForInStep ByteArray)) (hf : ∀ n r, f (.int .u8 n) r = pure (.yield (r.push (UInt8.ofNat n.toNat)))) (ns : List Int) (acc : ByteArray) :
    (forIn (ns.map (Value.int .u8)).toArray acc f : Sem ByteArray).run P w = .ok ⟨acc.data ++ (ns.map fun n => UInt8.ofNat n.toNat).toArray⟩ w := by
  rw [← Array.forIn_toList]
  induction ns generalizing acc with
  | nil => simp
  | cons n ns ih =>
    simp only [List.map_cons, List.forIn_cons, hf, Sem.run_bind, Sem.run_pure, Result.andThen_ok]
    rw [ih]
    congr 1
    apply ByteArray.ext
    simp [ByteArray.push]
end
end Go.Am
end
noncomputable section
namespace Go.Am
open Go.RowKit

section
variable {P : Program} {B : Floor} {ι : Inj} {h : Heap} {w : World}

theorem u8cells_sound (s : List UInt8) : F2 (VRel ι) (cellsOfBytes s) (s.map fun b => Value.int .u8 b.toNat) := by
  unfold cellsOfBytes
  exact F2.map_both (by
    induction s with
    | nil => exact .nil
    | cons b s ih => exact .cons (by rw [VRel]) ih)

/-- The first cells of a slice or a string. -/
theorem first_sound (hR : R B ι h w.heap) {size n : Nat} {x : AV} {u : Value} {cs : List AV} (hx : VRel ι x u) (hn : ∀ a k c, x = .slice a k c → n ≤ k) (hc : firstA h size n x = some cs) :
    ∃ ys, (∀ W : World, W.heap = w.heap → (Builtin.firstCells size n u).run P W = .ok ys.toArray W) ∧ F2 (VRel ι) cs ys ∧ (∀ a k c, x = .slice (some a) k c → cs.length = n * size) := by
  unfold firstA at hc
  split at hc
  · rename_i id off k c
    obtain ⟨l, ys, hl, h1, h2, h3, h4, h5, h6⟩ := hR.loadCells (P := P) hc
    cases c with
    | some c =>
      rw [VRel] at hx
      obtain ⟨l', a, e1, hkc, rfl, hor⟩ := hx
      rw [hl] at e1; cases e1
      rcases hor with rfl | h0
      · exact ⟨ys, fun W hW => by simp [Builtin.firstCells, h3 W hW], h1, fun _ _ _ _ => h2⟩
      · have hn0 : n = 0 := by have := hn _ _ _ rfl; omega
        subst hn0
        have hnil : cs = [] := List.eq_nil_of_length_eq_zero (by omega)
        subst hnil
        cases h1
        exact ⟨[], fun W _ => by simp [Builtin.firstCells, Go.loadCells, loadCellsFrom], .nil, fun _ _ _ _ => h2⟩
    | none =>
      rw [VRel] at hx
      obtain ⟨l', a, c, e1, rfl, hk, h7⟩ := hx
      rw [hl] at e1; cases e1
      rcases h7 with ⟨rfl, _⟩ | ⟨rfl, rfl, h9, _⟩
      · exact ⟨ys, fun W hW => by simp [Builtin.firstCells, h3 W hW], h1, fun _ _ _ _ => h2⟩
      · by_cases hz : n * size = 0
        · have hnil : cs = [] := List.eq_nil_of_length_eq_zero (by omega)
          subst hnil
          cases h1
          exact ⟨[], fun W _ => by simp [Builtin.firstCells, hz, Go.loadCells, loadCellsFrom], .nil, fun _ _ _ _ => h2⟩
        · exfalso; omega
  · simp only [Option.some.injEq] at hc; subst hc
    rw [VRel] at hx; obtain ⟨rfl, rfl, rfl⟩ := hx
    exact ⟨[], fun W _ => by simp [Builtin.firstCells], .nil, fun _ _ _ e => by cases e⟩
  · rename_i s
    simp only [Option.some.injEq] at hc; subst hc
    rw [VRel] at hx; subst hx
    refine ⟨(s.take n).map fun b => Value.int .u8 b.toNat, fun W _ => ?_, u8cells_sound _, fun _ _ _ e => by cases e⟩
    simp only [Builtin.firstCells, Sem.run_pure]
    congr 1
    apply Array.ext'
    simp [ByteArray.data_extract]
  · cases hc

theorem len_sound {x : AV} {n : Nat} {u : Value} (hx : VRel ι x u) (hn : lenA x = some n) : (Builtin.lenOf u).run P w = .ok n w := by
  unfold lenA at hn
  split at hn
  · rename_i a k c
    simp only [Option.some.injEq] at hn; subst hn
    rcases a with _ | ⟨i, o⟩
    · rw [VRel] at hx; obtain ⟨rfl, _, rfl⟩ := hx; rfl
    · cases c with
      | none => rw [VRel] at hx; obtain ⟨_, _, _, _, rfl, _⟩ := hx; rfl
      | some c => rw [VRel] at hx; obtain ⟨_, _, _, _, rfl, _⟩ := hx; rfl
  · simp only [Option.some.injEq] at hn; subst hn
    rw [VRel] at hx; subst hx
    simp [Builtin.lenOf, ByteArray.size]
  · cases hn

theorem in_row {u : TypeId} : ∀ (d D : Nat) (e : TypeId) (r : Nat), inA P u d e r = true → d ≤ D → ∀ count a : Nat, a % P.cellsOf e = r → a / P.cellsOf e < count → rowAt P (sameLayout P P.depth · u) D e count a 1 = true
  | 0, _, _, _, h, _, _, _, _, _ => by simp [inA] at h
  | d + 1, D, e, r, h, hD, count, a, har, hac => by
    obtain ⟨D, rfl⟩ : ∃ D', D = D' + 1 := ⟨D - 1, by omega⟩
    simp only [inA, Bool.or_eq_true, Bool.and_eq_true] at h
    obtain ⟨hs, h⟩ := h
    have hs0 : P.cellsOf e ≠ 0 := by
      intro h0
      have : szT P e = 0 := h0
      rw [this] at hs; simp at hs
    have hsame : sameLayout P P.depth u u = true := by
      have hd : P.depth = (2 * (P.types.size + Made.depth) + 1) + 1 := rfl
      rw [hd]; simp [sameLayout]
    rcases h with ⟨hr, heu⟩ | h
    · have hr := Nat.eq_of_beq_eq_true hr
      have heu := Nat.eq_of_beq_eq_true heu
      subst heu
      simp only [rowAt, hs0, if_false]
      rw [har, hr, hsame]
      have : a / P.cellsOf e + 1 ≤ count := hac
      simp [this]
    · cases hu : P.underlying e with
      | none => rw [hu] at h; cases h
      | some td =>
        rw [hu] at h
        cases td with
        | struct fs =>
          simp only [Bool.and_eq_true, List.any_eq_true, Nat.ble_eq, Nat.blt_eq] at h
          obtain ⟨hheld, f, hf, ⟨h1, h2⟩, h3⟩ := h
          have hlt : r - f.offset < P.cellsOf f.type := by
            have : szT P f.type = P.cellsOf f.type := rfl
            omega
          have ih := in_row d D f.type (r - f.offset) h3 (by omega) 1 (r - f.offset) (Nat.mod_eq_of_lt hlt) (by rw [Nat.div_eq_of_lt hlt]; omega)
          simp only [rowAt, hs0, if_false, har, hu, hac, decide_true, Bool.true_and]
          rw [Bool.or_eq_true]
          right
          simp only [Bool.and_eq_true, Array.any_eq_true']
          refine ⟨hheld, f, by simpa using hf, ?_⟩
          have h2' : r < f.offset + P.cellsOf f.type := h2
          simp [h1, h2', ih]
        | _ => cases h

theorem lies_row {u el : TypeId} {count a : Nat} (h : rowAt P (sameLayout P P.depth · u) P.depth el count a 1 = true) : ∀ D, 0 < D → liesAt P D el count a u 1 = true
  | D + 1, _ => by simp only [liesAt, h, Bool.true_or]

theorem lies_of {u el : TypeId} {count a r : Nat} (h : inA P u 4 el r = true) (ha : a % P.cellsOf el = r) (hc : a / P.cellsOf el < count) : liesAt P P.depth el count a u 1 = true := by
  have hd : P.depth = (2 * (P.types.size + Made.depth) + 1) + 1 := rfl
  have hm : Made.depth = 100 := rfl
  exact lies_row (in_row 4 P.depth el r h (by rw [hd, hm]; omega) count a ha hc) _ (by rw [hd]; omega)

theorem conv_sound (hR : R B ι h w.heap) {s d : TypeId} {x v : AV} {u : Value} (hx : VRel ι x u) (hv : convA P h s d x = some v) :
    ∃ v', (convert s d u).run P w = .ok v' w ∧ VRel ι v v' := by
  unfold convA at hv
  split at hv
  · rename_i ds k j n hus hud
    rw [VRel] at hx; subst hx
    simp only [Option.some.injEq] at hv; subst hv
    refine ⟨.int k (k.wrap n), ?_, by rw [VRel, wrapA_eq]⟩
    simp [convert, run_underlying hus, run_underlying hud, Conv.intToInt]
  · rename_i ds j n hus hud
    rw [VRel] at hx; subst hx
    simp only [Option.some.injEq] at hv; subst hv
    refine ⟨.string (Utf8.encode n), ?_, by rw [VRel]⟩
    simp [convert, run_underlying hus, run_underlying hud, Conv.intToString]
  · rename_i ds s' hus hud
    rw [VRel] at hx; subst hx
    simp only [Option.some.injEq] at hv; subst hv
    refine ⟨_, ?_, by rw [VRel]⟩
    simp [convert, run_underlying hus, run_underlying hud]
  · rename_i e hus hud
    simp only [Option.some.injEq] at hv; subst hv
    rw [VRel] at hx; subst hx
    exact ⟨.pointer none, by simp [convert, run_underlying hus, run_underlying hud, Conv.unsafePointer], by rw [VRel]⟩
  · rename_i t id off hus hud
    split at hv
    · rename_i els sz el ro fz hg
      split at hv
      · rename_i hc
        simp only [Option.some.injEq] at hv; subst hv
        have hx' := hx
        rw [VRel] at hx
        obtain ⟨l, hl, rfl⟩ := hx
        obtain ⟨l2, e2, hlt, cs', fr, k1, k2, k3, k4, k5, k6, k7, k8, k9⟩ := hR.obj id _ hg rfl
        rw [hl] at e2; cases e2
        rw [length_flatten_sz k3] at k5
        have hsh : w.shape? l.block = some (el, cs'.size) := by unfold World.shape?; rw [k1]
        have hlt' : ¬ (cs'.size ≤ l.base + off) := by omega
        refine ⟨.pointer (some ⟨l.block, l.base + off, none⟩), ?_, hx'⟩
        simp [convert, run_underlying hus, run_underlying hud, Conv.unsafePointer, Conv.seenAt, viewAt, hsh, cellsIn, run_sizeOf_ne hc.1, hlt', hc.1]
      · cases hv
    · cases hv
  · rename_i t id off hus hud
    split at hv
    · rename_i els sz el ro fz hg
      split at hv
      · rename_i hc
        simp only [Option.some.injEq] at hv; subst hv
        obtain ⟨rfl, hu0, hext, hin⟩ := hc
        have hx' := hx
        rw [VRel] at hx
        obtain ⟨l, hl, rfl⟩ := hx
        obtain ⟨l2, e2, hlt, cs', fr, k1, k2, k3, k4, k5, k6, k7, k8, k9⟩ := hR.obj id _ hg rfl
        rw [hl] at e2; cases e2
        rw [length_flatten_sz k3] at k5
        have hsz : szT P el = P.cellsOf el := rfl
        rw [hsz] at k5 hext
        have hsh : w.shape? l.block = some (el, cs'.size) := by unfold World.shape?; rw [k1]
        have hlies := lies_of (P := P) (count := cs'.size / P.cellsOf el) (a := l.base + off) hin (by
          rw [Nat.add_mod, show l.base % P.cellsOf el = 0 from k9.2]; simp [szT]) (by
          have hc0 : 0 < P.cellsOf el := k2
          have h1 : l.base % P.cellsOf el = 0 := k9.2
          have h2 : l.base + off < P.cellsOf el * (cs'.size / P.cellsOf el) := by
            have h3 : l.base = P.cellsOf el * (l.base / P.cellsOf el) := by have := Nat.div_add_mod l.base (P.cellsOf el); omega
            have h4 : P.cellsOf el * (l.base / P.cellsOf el + els.length) ≤ cs'.size := by rw [Nat.mul_add, ← h3]; omega
            have h5 : l.base / P.cellsOf el + els.length ≤ cs'.size / P.cellsOf el := by
              rw [Nat.le_div_iff_mul_le hc0, Nat.mul_comm]; exact h4
            have h6 := Nat.mul_le_mul_left (P.cellsOf el) h5
            rw [Nat.mul_add, ← h3] at h6
            omega
          rw [Nat.div_lt_iff_lt_mul hc0, Nat.mul_comm]; exact h2)
        refine ⟨.pointer (some ⟨l.block, l.base + off, none⟩), ?_, hx'⟩
        simp [convert, run_underlying hus, run_underlying hud, Conv.unsafePointer, Conv.seenAt, viewAt, hsh, run_sizeOf_ne hu0, variablesAt, hlies]
      · cases hv
    · cases hv
  · rename_i e a n c hus hud
    split at hv
    · rename_i hue
      rw [Option.bind_eq_some_iff] at hv
      obtain ⟨cs, hc, hb⟩ := hv
      rw [Option.map_eq_some_iff] at hb
      obtain ⟨bs, hb, rfl⟩ := hb
      obtain ⟨ys, h1, h2, _⟩ := first_sound (P := P) hR hx (fun _ _ _ e => by cases e; exact Nat.le_refl _) hc
      obtain ⟨ns, rfl, rfl⟩ := bytes_sound h2 hb
      have hu : u = .slice none 0 0 ∨ ∃ ad k, u = .slice (some ad) n k := by
        rcases a with _ | ⟨i, o⟩
        · rw [VRel] at hx; obtain ⟨_, _, rfl⟩ := hx; exact .inl rfl
        · cases c with
          | none => rw [VRel] at hx; obtain ⟨_, ad, k, _, rfl, _⟩ := hx; exact .inr ⟨_, _, rfl⟩
          | some c => rw [VRel] at hx; obtain ⟨_, _, _, _, rfl, _⟩ := hx; exact .inr ⟨_, _, rfl⟩
      refine ⟨.string ⟨(ns.map fun n => UInt8.ofNat n.toNat).toArray⟩, ?_, by rw [VRel]⟩
      rcases hu with rfl | ⟨ad, k, rfl⟩
      · have h1 := h1 w rfl
        simp [Builtin.firstCells] at h1
        subst h1
        simp [convert, run_underlying hus, run_underlying hud, run_underlying hue, Conv.bytesToString]
        rfl
      · have h1 := h1 w rfl
        simp only [Builtin.firstCells, Nat.mul_one] at h1
        simp only [convert, Sem.run_bind, run_underlying hus, run_underlying hud, run_underlying hue, Result.andThen_ok, Conv.bytesToString, h1]
        rw [run_bytesLoop _ (fun _ _ => rfl) ns .empty]
        simp
    · cases hv
  · cases hv

theorem extract_bytes (s : List UInt8) (l r : Nat) : (⟨s.toArray⟩ : ByteArray).extract l r = ⟨((s.take r).drop l).toArray⟩ := by
  apply ByteArray.ext
  apply Array.ext'
  simp [ByteArray.data_extract, List.drop_take]

def ORelV (ι : Inj) : Option AV → Option Value → Prop
  | none, v => v = none
  | some x, v => ∃ u, v = some u ∧ VRel ι x u

theorem bounds_sound {isS : Bool} {lim cap len l r : Nat} {lo hi : Option AV} {lo' hi' : Option Value} (hlo : ORelV ι lo lo') (hhi : ORelV ι hi hi') (hlim : lim ≤ cap)
    (hb : boundsA lim len lo hi = some (l, r)) : (Instr.sliceBounds isS len cap lo' hi' none).run P w = .ok (l, r, cap) w ∧ l ≤ r ∧ r ≤ lim := by
  unfold boundsA at hb
  split at hb
  · rename_i h' hh
    split at hb
    · rename_i hin
      split at hb
      · rename_i l' hl'
        split at hb
        · rename_i hin2
          simp only [Option.some.injEq, Prod.mk.injEq] at hb
          obtain ⟨rfl, rfl⟩ := hb
          refine ⟨?_, by omega, by omega⟩
          have hr : ∀ (code : BoundsCode) (k : IntKind), (Instr.sliceBound (.int k h') cap code).run P w = .ok h'.toNat w := fun code k =>
            by rw [run_sliceBound w k h' cap code hin.1 (by omega)]
          have hl : ∀ (code : BoundsCode) (k : IntKind), (Instr.sliceBound (.int k l') h'.toNat code).run P w = .ok l'.toNat w := fun code k =>
            by rw [run_sliceBound w k l' h'.toNat code hin2.1 (by omega)]
          have hH : ∃ q, hi' = q ∧ ((∃ k, q = some (.int k h')) ∨ (q = none ∧ h' = len)) := by
            cases hi with
            | none => simp only [ORelV] at hhi; subst hhi; simp only [Option.some.injEq] at hh; exact ⟨_, rfl, .inr ⟨rfl, hh.symm⟩⟩
            | some v => simp only [ORelV] at hhi; obtain ⟨u, rfl, hu⟩ := hhi; obtain ⟨k, rfl⟩ := intOf_sound hu hh; exact ⟨_, rfl, .inl ⟨k, rfl⟩⟩
          have hL : (∃ k, lo' = some (.int k l')) ∨ (lo' = none ∧ l' = 0) := by
            cases lo with
            | none => simp only [ORelV] at hlo; subst hlo; simp only [Option.some.injEq] at hl'; exact .inr ⟨rfl, hl'.symm⟩
            | some v => simp only [ORelV] at hlo; obtain ⟨u, rfl, hu⟩ := hlo; obtain ⟨k, rfl⟩ := intOf_sound hu hl'; exact .inl ⟨k, rfl⟩
          obtain ⟨q, rfl, hq⟩ := hH
          rcases hq with ⟨k, rfl⟩ | ⟨rfl, rfl⟩ <;> rcases hL with ⟨k2, rfl⟩ | ⟨rfl, rfl⟩ <;> simp [Instr.sliceBounds, hr, hl]
          have := hl .sliceB k2
          simp at this
          simp [this]
        · cases hb
      · cases hb
    · cases hb
  · cases hb

theorem bounds3_sound {lim cap len l r : Nat} {lo hi : Option AV} {lo' hi' : Option Value} {mv : AV} {mv' : Value} {m' : Int} (hlo : ORelV ι lo lo') (hhi : ORelV ι hi hi')
    (hm : VRel ι mv mv') (hm' : intOf? mv = some m') (hlim : lim ≤ cap) (h0 : 0 ≤ m' ∧ m' ≤ (lim : Int) ∧ hi.isSome = true)
    (hb : boundsA m'.toNat len lo hi = some (l, r)) : (Instr.sliceBounds true len cap lo' hi' (some mv')).run P w = .ok (l, r, m'.toNat) w ∧ l ≤ r ∧ r ≤ m'.toNat := by
  obtain ⟨km, rfl⟩ := intOf_sound hm hm'
  have hmr : ∀ (code : BoundsCode), (Instr.sliceBound (.int km m') cap code).run P w = .ok m'.toNat w := fun code => by
    rw [run_sliceBound w km m' cap code h0.1 (by omega)]
  unfold boundsA at hb
  split at hb
  · rename_i h' hh
    split at hb
    · rename_i hin
      split at hb
      · rename_i l' hl'
        split at hb
        · rename_i hin2
          simp only [Option.some.injEq, Prod.mk.injEq] at hb
          obtain ⟨rfl, rfl⟩ := hb
          refine ⟨?_, by omega, by omega⟩
          have hr : ∀ (code : BoundsCode) (k : IntKind), (Instr.sliceBound (.int k h') m'.toNat code).run P w = .ok h'.toNat w := fun code k =>
            by rw [run_sliceBound w k h' m'.toNat code hin.1 (by omega)]
          have hl : ∀ (code : BoundsCode) (k : IntKind), (Instr.sliceBound (.int k l') h'.toNat code).run P w = .ok l'.toNat w := fun code k =>
            by rw [run_sliceBound w k l' h'.toNat code hin2.1 (by omega)]
          have hH : ∃ k, hi' = some (.int k h') := by
            cases hi with
            | none => simp at h0
            | some v => simp only [ORelV] at hhi; obtain ⟨u, rfl, hu⟩ := hhi; obtain ⟨k, rfl⟩ := intOf_sound hu hh; exact ⟨k, rfl⟩
          have hL : (∃ k, lo' = some (.int k l')) ∨ (lo' = none ∧ l' = 0) := by
            cases lo with
            | none => simp only [ORelV] at hlo; subst hlo; simp only [Option.some.injEq] at hl'; exact .inr ⟨rfl, hl'.symm⟩
            | some v => simp only [ORelV] at hlo; obtain ⟨u, rfl, hu⟩ := hlo; obtain ⟨k, rfl⟩ := intOf_sound hu hl'; exact .inl ⟨k, rfl⟩
          obtain ⟨k, rfl⟩ := hH
          rcases hL with ⟨k2, rfl⟩ | ⟨rfl, rfl⟩ <;> simp [Instr.sliceBounds, hr, hl, hmr]
        · cases hb
      · cases hb
    · cases hb
  · cases hb

/-- How far a slice reaches, at least. -/
theorem reach_sound (hR : R B ι h w.heap) {size len : Nat} {a : Option (Nat × Nat)} {cap : Option Nat} {u : Value} {lim : Nat} (hx : VRel ι (.slice a len cap) u) (hr : reach h size a cap = some lim) :
    ∃ a' cap', u = .slice a' len cap' ∧ lim ≤ cap' ∧ (cap = none → ∀ id off, a = some (id, off) → ∃ l, ι id = some l ∧ (0 < size → l.sz = size) ∧ (size = 0 → lim = 0)) := by
  rcases a with _ | ⟨id, off⟩
  · rw [VRel] at hx; obtain ⟨rfl, rfl, rfl⟩ := hx
    simp [reach] at hr; subst hr
    exact ⟨none, 0, rfl, by omega, fun e => by cases e⟩
  · cases cap with
    | some c =>
      rw [VRel] at hx; obtain ⟨l, _, hl, hc, rfl, _⟩ := hx
      simp [reach] at hr; subst hr
      exact ⟨_, _, rfl, Nat.le_refl _, fun e => by cases e⟩
    | none =>
      rw [VRel] at hx; obtain ⟨l, ad, c, hl, rfl, hc, h2⟩ := hx
      simp only [reach] at hr
      split at hr
      · rename_i els sz e ro fz hg
        split at hr
        · rename_i hsz
          simp only [Option.some.injEq] at hr
          obtain ⟨l', e1, _, cs, fr, k1, k2, k3, k4, k5, k6, k7, k8, k9⟩ := hR.obj id _ hg rfl
          rw [hl] at e1; cases e1
          rw [length_flatten_sz k3] at k5
          have hle : lim ≤ c := by
            subst hr; subst hsz
            rw [← k5]
            rcases h2 with ⟨_, h3, _⟩ | ⟨_, _, h3, _⟩
            · have : (l.ext - off) ≤ c * sz := by rw [k4] at h3; omega
              exact Nat.div_le_of_le_mul (by rw [Nat.mul_comm]; exact this)
            · have : l.ext - off = 0 := by omega
              rw [this]; simp
          refine ⟨_, _, rfl, hle, fun _ id' off' e => ?_⟩
          cases e
          exact ⟨l, hl, fun _ => k4.trans hsz, fun e => by omega⟩
        · cases hr
      · cases hr

theorem slice_sound (hR : R B ι h w.heap) {t : TypeId} {x v : AV} {u : Value} {lo hi mx : Option AV} {lo' hi' mx' : Option Value} (hx : VRel ι x u) (hlo : ORelV ι lo lo') (hhi : ORelV ι hi hi') (hmx : ORelV ι mx mx')
    (hv : sliceA P h t x lo hi mx = some v) : ∃ v', (Instr.sliceAt t u lo' hi' mx').run P w = .ok v' w ∧ VRel ι v v' := by
  unfold sliceA at hv
  split at hv
  · rename_i s hu
    rw [VRel] at hx; subst hx
    split at hv
    · rename_i l r hb
      simp only [Option.some.injEq] at hv; subst hv
      simp only [ORelV] at hmx; subst hmx
      have hsz : (⟨s.toArray⟩ : ByteArray).size = s.length := by simp [ByteArray.size]
      obtain ⟨g1, g2, g3⟩ := bounds_sound (P := P) (w := w) (isS := false) hlo hhi (Nat.le_refl s.length) hb
      refine ⟨.string ⟨((s.take r).drop l).toArray⟩, ?_, by rw [VRel]⟩
      simp [Instr.sliceAt, Instr.slice, run_underlying hu, hsz, g1, extract_bytes]
    · cases hv
  · rename_i e a len cap hu
    split at hv
    · cases hv
    · rename_i hi
      obtain ⟨ie, hie⟩ := Option.ne_none_iff_exists'.1 (by simpa using hi)
      have hsz := run_sizeOf' (P := P) (w := w) hie
      have hpos : 0 < szT P e ∨ szT P e = 0 := by omega
      split at hv
      · rename_i lim hr
        obtain ⟨a', cap', rfl, hlim, hnone⟩ := reach_sound hR hx hr
        simp only [ORelV] at hmx; subst hmx
        split at hv
        · rename_i l r hb
          simp only [Option.some.injEq] at hv; subst hv
          obtain ⟨g1, g2, g3⟩ := bounds_sound (P := P) (w := w) (isS := true) (len := len) hlo hhi hlim hb
          refine ⟨.slice (if cap' = l then a' else a'.map (·.add (l * szT P e))) (r - l) (cap' - l), ?_, ?_⟩
          · simp [Instr.sliceAt, Instr.slice, run_underlying hu, g1, hsz]
          · rcases a with _ | ⟨id, off⟩
            · rw [VRel] at hx
              obtain ⟨rfl, rfl, hxe⟩ := hx
              simp at hxe
              obtain ⟨rfl, rfl⟩ := hxe
              have : l = 0 := by omega
              subst this
              have : r = 0 := by omega
              subst this
              simp [VRel]
            · cases cap with
              | some c =>
                rw [VRel] at hx
                obtain ⟨lc, ad, hl, hc, hxe, hor⟩ := hx
                simp at hxe
                obtain ⟨rfl, rfl⟩ := hxe
                simp only [Option.map_some]
                by_cases he : cap' = l
                · subst he
                  simp only [Nat.sub_self, if_true]
                  rw [VRel]
                  exact ⟨lc, ad, hl, by omega, rfl, .inr rfl⟩
                · have hne : ¬ (some (cap' - l) = some 0) := by simp; omega
                  rw [if_neg hne, if_neg he, VRel]
                  rcases hor with rfl | h
                  · exact ⟨lc, _, hl, by omega, rfl, .inl (by simp [Nat.add_assoc])⟩
                  · omega
              | none =>
                obtain ⟨l0, hl0, hlsz, hz⟩ := hnone rfl id off rfl
                rw [VRel] at hx
                obtain ⟨lc, ad, c, hl, hxe, hc, h2⟩ := hx
                rw [hl] at hl0; cases hl0
                simp at hxe
                obtain ⟨rfl, rfl⟩ := hxe
                simp only [Option.map_none, reduceCtorEq, if_false, Option.map_some]
                rw [VRel]
                by_cases he : cap' = l
                · subst he
                  simp only [Nat.sub_self, if_true]
                  refine ⟨_, ad, 0, hl, rfl, by omega, .inr ⟨by omega, rfl, ?_, ?_⟩⟩
                  · rcases hpos with hp | hp
                    · have := hlsz hp
                      rcases h2 with ⟨_, h3, _⟩ | ⟨_, _, h3, _⟩
                      · rw [this] at h3; omega
                      · omega
                    · have := hz hp
                      rcases h2 with ⟨_, h3, _⟩ | ⟨_, _, h3, _⟩
                      · have : cap' = 0 := by omega
                        subst this; omega
                      · omega
                  · rcases h2 with ⟨rfl, _, _⟩ | ⟨_, _, _, h4⟩
                    · rfl
                    · exact h4
                · rw [if_neg he]
                  refine ⟨_, ad.add (l * szT P e), cap' - l, hl, rfl, by omega, ?_⟩
                  rcases h2 with ⟨rfl, h3, h4⟩ | ⟨h5, h6, h7, h8⟩
                  · rcases hpos with hp | hp
                    · have := hlsz hp
                      left
                      have hmul : l * szT P e + (cap' - l) * szT P e = cap' * szT P e := by
                        rw [← Nat.add_mul]; congr 1; omega
                      rw [this] at h3 h4 ⊢
                      refine ⟨by rw [add_lit, Nat.add_assoc], by omega, by omega⟩
                    · have := hz hp
                      have : l = 0 := by omega
                      subst this
                      left
                      refine ⟨by simp [Addr.add], ?_, ?_⟩
                      · simpa using h3
                      · simpa using h4
                  · omega
        · cases hv
      · rename_i lim mv hr
        obtain ⟨a', cap', rfl, hlim, hnone⟩ := reach_sound hR hx hr
        simp only [ORelV] at hmx
        obtain ⟨mv', rfl, hmv⟩ := hmx
        split at hv
        · rename_i m' hm'
          split at hv
          · rename_i h0
            split at hv
            · rename_i l r hb
              simp only [Option.some.injEq] at hv; subst hv
              obtain ⟨g1, g2, g3⟩ := bounds3_sound (P := P) (w := w) (len := len) hlo hhi hmv hm' hlim h0 hb
              refine ⟨.slice (if m'.toNat = l then a' else a'.map (·.add (l * szT P e))) (r - l) (m'.toNat - l), ?_, ?_⟩
              · simp [Instr.sliceAt, Instr.slice, run_underlying hu, g1, hsz]
              · have hm0 : (m'.toNat - l = 0) ↔ (m'.toNat = l) := by omega
                rcases a with _ | ⟨id, off⟩
                · rw [VRel] at hx
                  obtain ⟨rfl, rfl, hxe⟩ := hx
                  simp at hxe
                  obtain ⟨rfl, rfl⟩ := hxe
                  have e1 : m'.toNat = 0 := by omega
                  have e2 : r = 0 := by omega
                  have e3 : l = 0 := by omega
                  subst e2; subst e3
                  simp [VRel, e1]
                · cases cap with
                  | some c =>
                    rw [VRel] at hx
                    obtain ⟨lc, ad, hl, hc, hxe, hor⟩ := hx
                    simp at hxe
                    obtain ⟨rfl, rfl⟩ := hxe
                    by_cases he : m'.toNat = l
                    · rw [if_pos (hm0.2 he), if_pos he, VRel]
                      exact ⟨lc, ad, hl, by omega, rfl, .inr (by omega)⟩
                    · rw [if_neg (fun e => he (hm0.1 e)), if_neg he]
                      simp only [Option.map_some]
                      rw [VRel]
                      rcases hor with rfl | h
                      · exact ⟨lc, _, hl, by omega, rfl, .inl (by simp [Nat.add_assoc])⟩
                      · omega
                  | none =>
                    obtain ⟨l0, hl0, hlsz, hz⟩ := hnone rfl id off rfl
                    rw [VRel] at hx
                    obtain ⟨lc, ad, c, hl, hxe, hc, h2⟩ := hx
                    rw [hl] at hl0; cases hl0
                    simp at hxe
                    obtain ⟨rfl, rfl⟩ := hxe
                    by_cases he : m'.toNat = l
                    · rw [if_pos (hm0.2 he), if_pos he, VRel]
                      exact ⟨_, ad, hl, by omega, rfl, .inr (by omega)⟩
                    · rw [if_neg (fun e => he (hm0.1 e)), if_neg he]
                      simp only [Option.map_some]
                      rw [VRel]
                      rcases h2 with ⟨rfl, _⟩ | ⟨_, h, _⟩
                      · exact ⟨_, _, hl, by omega, rfl, .inl (by simp [Nat.add_assoc])⟩
                      · omega
            · cases hv
          · cases hv
        · cases hv
      · cases hv
  · rename_i n e id off hu
    rw [VRel] at hx
    obtain ⟨l, hl, rfl⟩ := hx
    split at hv
    · rename_i lw r hb
      simp only [Option.some.injEq] at hv; subst hv
      simp only [ORelV] at hmx; subst hmx
      split at hb
      · rename_i hi
        obtain ⟨ie, hie⟩ := Option.isSome_iff_exists.1 hi
        have hsz := run_sizeOf' (P := P) (w := w) hie
        obtain ⟨g1, g2, g3⟩ := bounds_sound (P := P) (w := w) (isS := false) hlo hhi (Nat.le_refl n) hb
        refine ⟨.slice (some (if n = lw then ⟨l.block, l.base + off, none⟩ else ⟨l.block, l.base + off + lw * szT P e, none⟩)) (r - lw) (n - lw), ?_, ?_⟩
        · simp [Instr.sliceAt, run_underlying hu, Instr.sureAddr, g1, hsz]
        · by_cases he : n = lw
          · rw [if_pos he, if_pos he, VRel]
            exact ⟨l, _, hl, by omega, rfl, .inl rfl⟩
          · rw [if_neg he, if_neg he, VRel]
            exact ⟨l, _, hl, by omega, rfl, .inl (by rw [Nat.add_assoc])⟩
      · cases hb
    · cases hv
  · cases hv
end
end Go.Am
end
noncomputable section
namespace Go.Am
open Go.RowKit

/-! ### Maps, as they are read -/
def keyKind : TypeDesc → Value → Bool
  | .int _, .int _ _ => true
  | .string, .string _ => true
  | _, _ => false

section
variable {P : Program} {B : Floor} {ι : Inj} {h : Heap} {w : World}

theorem run_checkKey' (n : Nat) {kt : TypeId} {k : AV} {u : Value} {b : Bool} (hk : keyFits P kt k = true) (hu : VRel ι k u) : (Instr.checkKey b (n + 1) kt u).run P w = .ok () w := by
  unfold keyFits at hk
  split at hk
  · rename_i j j' n hd
    rw [VRel] at hu; subst hu
    simp [Instr.checkKey, run_underlying hd]
  · rename_i s hd
    rw [VRel] at hu; subst hu
    simp [Instr.checkKey, run_underlying hd]
  · cases hk

theorem run_checkKey {kt : TypeId} {k : AV} {u : Value} {b : Bool} (hk : keyFits P kt k = true) (hu : VRel ι k u) : (Instr.checkKey b 10000 kt u).run P w = .ok () w :=
  run_checkKey' 9999 hk hu

/-- Two keys, held against each other now. -/
theorem sameNow_of {kt : TypeId} {d : TypeDesc} {k k' : AV} {u u' : Value} {b : Bool} (hd : P.underlying kt = some d) (hk : keyFits P kt k = true) (hu : VRel ι k u) (hu' : VRel ι k' u') (he : keyEq k k' = some b) :
    Instr.sameNow d u u' = some b := by
  unfold keyFits at hk
  rw [hd] at hk
  unfold keyEq at he
  split at he
  · rename_i j a j' c
    split at he
    · rename_i hj
      subst hj
      simp only [Option.some.injEq] at he; subst he
      rw [VRel] at hu; rw [VRel] at hu'; subst hu; subst hu'
      cases d <;> simp at hk
      simp [Instr.sameNow]
    · cases he
  · rename_i a c
    simp only [Option.some.injEq] at he; subst he
    rw [VRel] at hu; rw [VRel] at hu'; subst hu; subst hu'
    cases d <;> simp at hk
    simp only [Instr.sameNow]
    rw [beq_toListBytes, toList_mk, toList_mk, eqB_eq]
  · cases he

theorem findNow_none {d : TypeDesc} {u : Value} : ∀ (L : List MapEntry) (i : Nat), (∀ e ∈ L, Instr.sameNow d u e.key = some false) → Instr.findNow d u L i = some none
  | [], _, _ => rfl
  | e :: L, i, hh => by
    simp only [Instr.findNow, hh e (by simp)]
    exact findNow_none L (i + 1) fun x hx => hh x (by simp [hx])

theorem findNow_some {d : TypeDesc} {u : Value} : ∀ (L : List MapEntry) (i j : Nat) (e : MapEntry), L[j]? = some e → Instr.sameNow d u e.key = some true →
    (∀ k x, L[k]? = some x → k ≠ j → Instr.sameNow d u x.key = some false) → Instr.findNow d u L i = some (some (i + j, e.val))
  | [], i, j, e, hj, _, _ => by simp at hj
  | x :: L, i, j, e, hj, he, ho => by
    cases j with
    | zero => simp at hj; subst hj; simp [Instr.findNow, he]
    | succ j =>
      have h0 := ho 0 x rfl (by omega)
      simp only [Instr.findNow, h0]
      rw [findNow_some L (i + 1) j e (by simpa using hj) he (fun k y hk hne => ho (k + 1) y (by simpa using hk) (by omega))]
      congr 3; omega

theorem keyEq_comm {a b : AV} {r : Bool} (h : keyEq a b = some r) : keyEq b a = some r := by
  unfold keyEq at *
  split at h
  · split at h
    · rename_i j x k y hjk; subst hjk
      simp only [Option.some.injEq] at h; subst h
      simp [BEq.comm]
    · cases h
  · simp only [Option.some.injEq] at h; subst h
    rename_i x y
    simp [eqB_eq, BEq.comm]
  · cases h

theorem keyEq_true {a b : AV} (h : keyEq a b = some true) : a = b := by
  unfold keyEq at h
  split at h
  · split at h
    · rename_i j x k y hjk; subst hjk
      simp at h; subst h; rfl
    · cases h
  · simp only [Option.some.injEq] at h
    rw [eqB_true h]
  · cases h

theorem keyEq_refl {a : AV} (h : keyOk a = true) : keyEq a a = some true := by
  cases a <;> simp [keyOk] at h <;> simp [keyEq, eqB_refl]

/-- What is found, by numbers. -/
theorem findK_some : ∀ {k : AV} {es : List (AV × AV)} {v : AV}, findK k es = some (some v) → es.Pairwise (fun p q => keyEq p.1 q.1 = some false) →
    ∃ (i : Nat) (p : AV × AV), es[i]? = some p ∧ p.2 = v ∧ p.1 = k ∧ ∀ (j : Nat) (q : AV × AV), es[j]? = some q → j ≠ i → keyEq k q.1 = some false
  | k, [], v, h, _ => by simp [findK] at h
  | k, (k', v') :: r, v, h, hp => by
    simp only [findK] at h
    have hp' := List.pairwise_cons.1 hp
    split at h
    · rename_i he
      simp only [Option.some.injEq] at h; subst h
      have hk := keyEq_true he
      subst hk
      refine ⟨0, (k, v'), rfl, rfl, rfl, fun j q hj hne => ?_⟩
      cases j with
      | zero => exact absurd rfl hne
      | succ j => exact hp'.1 q (List.mem_of_getElem? (by simpa using hj))
    · rename_i he
      obtain ⟨i, p, h1, h2, h3, h4⟩ := findK_some h hp'.2
      refine ⟨i + 1, p, by simpa using h1, h2, h3, fun j q hj hne => ?_⟩
      cases j with
      | zero => simp at hj; subst hj; exact he
      | succ j => exact h4 j q (by simpa using hj) (by omega)
    · cases h

theorem findK_none : ∀ {k : AV} {es : List (AV × AV)}, findK k es = some none → ∀ p ∈ es, keyEq k p.1 = some false
  | k, [], _, p, hp => by simp at hp
  | k, (k', v') :: r, h, p, hp => by
    simp only [findK] at h
    split at h
    · cases h
    · rename_i he
      rcases List.mem_cons.1 hp with rfl | hp
      · exact he
      · exact findK_none h p hp
    · cases h

theorem perm_mem {es : List (AV × AV)} {res : Array MapEntry} {clock : Nat} (hm : MapRel ι es res clock) {e : MapEntry} (he : e ∈ res.toList) : ∃ p ∈ es, ERel ι p e := by
  obtain ⟨l, hl, hf⟩ := hm.perm
  exact hf.mem' (hl.mem_iff.2 he)

theorem perm_mem' {es : List (AV × AV)} {res : Array MapEntry} {clock : Nat} (hm : MapRel ι es res clock) {p : AV × AV} (hp : p ∈ es) : ∃ e ∈ res.toList, ERel ι p e := by
  obtain ⟨l, hl, hf⟩ := hm.perm
  obtain ⟨e, he, hr⟩ := hf.mem hp
  exact ⟨e, hl.mem_iff.1 he, hr⟩

theorem nodup_get {α β : Type} {f : α → β} : ∀ {l : List α}, (l.map f).Nodup → ∀ {i j : Nat} {a b : α}, l[i]? = some a → l[j]? = some b → f a = f b → i = j
  | [], _, i, j, a, b, hi, _, _ => by simp at hi
  | x :: l, hn, i, j, a, b, hi, hj, hf => by
    have hn' := List.nodup_cons.1 (by simpa using hn : (f x :: l.map f).Nodup)
    cases i with
    | zero =>
      cases j with
      | zero => rfl
      | succ j =>
        simp at hi hj
        subst hi
        exact absurd (List.mem_map.2 ⟨b, List.mem_of_getElem? hj, hf.symm⟩) hn'.1
    | succ i =>
      cases j with
      | zero =>
        simp at hi hj
        subst hj
        exact absurd (List.mem_map.2 ⟨a, List.mem_of_getElem? hi, hf⟩) hn'.1
      | succ j => exact congrArg (· + 1) (nodup_get hn'.2 (by simpa using hi) (by simpa using hj) hf)

/-- The real entries: where the key stands, and that it stands there alone. -/
theorem find_sound {es : List (AV × AV)} {res : Array MapEntry} {clock : Nat} (hm : MapRel ι es res clock) {kt : TypeId} {d : TypeDesc} (hd : P.underlying kt = some d) {k : AV} {u : Value}
    (hk : keyFits P kt k = true) (hu : VRel ι k u) {r : Option AV} (hf : findK k es = some r) :
    match r with
    | none => (Instr.findKey kt u res.toList).run P w = .ok none w ∧ (∀ e ∈ res.toList, Instr.sameNow d u e.key = some false)
    | some v => ∃ j e, res.toList[j]? = some e ∧ ERel ι (k, v) e ∧ (Instr.findKey kt u res.toList).run P w = .ok (some (j, e.val)) w := by
  cases r with
  | none =>
    have hn := findK_none hf
    have hall : ∀ e ∈ res.toList, Instr.sameNow d u e.key = some false := by
      intro e he
      obtain ⟨p, hp, hr⟩ := perm_mem hm he
      exact sameNow_of hd hk hu hr.1 (hn p hp)
    exact ⟨by simp [Instr.findKey, run_underlying hd, findNow_none _ 0 hall], hall⟩
  | some v =>
    obtain ⟨i, p, h1, h2, h3, h4⟩ := findK_some hf hm.keys
    obtain ⟨l, hl, hfl⟩ := hm.perm
    obtain ⟨e, he, hr⟩ := hfl.get h1
    have hmem : e ∈ res.toList := hl.mem_iff.1 (List.mem_of_getElem? he)
    obtain ⟨j, hj, hje⟩ := List.getElem_of_mem hmem
    have hje' : res.toList[j]? = some e := by rw [List.getElem?_eq_getElem hj, hje]
    have hpe : p = (k, v) := by obtain ⟨a, b⟩ := p; simp at h2 h3; subst h2; subst h3; rfl
    subst hpe
    have hok : keyOk k = true := hm.ok _ (List.mem_of_getElem? h1)
    refine ⟨j, e, hje', hr, ?_⟩
    have hself : Instr.sameNow d u e.key = some true := sameNow_of hd hk hu hr.1 (keyEq_refl hok)
    have hother : ∀ n x, res.toList[n]? = some x → n ≠ j → Instr.sameNow d u x.key = some false := by
      intro n x hx hne
      have hxm : x ∈ l := hl.mem_iff.2 (List.mem_of_getElem? hx)
      obtain ⟨m, hm1, hm2⟩ := List.getElem_of_mem hxm
      have hm3 : l[m]? = some x := by rw [List.getElem?_eq_getElem hm1, hm2]
      obtain ⟨q, hq, hqr⟩ := hfl.get' hm3
      have hmi : m ≠ i := by
        rintro rfl
        rw [hm3] at he
        simp only [Option.some.injEq] at he
        subst he
        exact hne (nodup_get hm.born hx hje' rfl)
      exact sameNow_of hd hk hu hqr.1 (h4 m q hq hmi)
    have hfn := findNow_some (d := d) (u := u) res.toList 0 j e hje' hself hother
    rw [Nat.zero_add] at hfn
    simp [Instr.findKey, run_underlying hd, hfn]

theorem entries_sound (hR : R B ι h w.heap) {r : Option Nat} {es : List (AV × AV)} (he : entriesA h r = some es) {u : Value} (hu : VRel ι (.map r) u) :
    (r = none ∧ u = .map none ∧ es = []) ∨ ∃ b res clock, u = .map (some b) ∧ w.heap[b]? = some (.map res clock) ∧ MapRel ι es res clock := by
  unfold entriesA at he
  split at he
  · simp only [Option.some.injEq] at he; subst he
    rw [VRel] at hu; subst hu
    exact .inl ⟨rfl, rfl, rfl⟩
  · rename_i r
    split at he
    · rename_i es' ver hg
      simp only [Option.some.injEq] at he; subst he
      obtain ⟨l, hl, _, res, clock, h1, h2⟩ := hR.obj r _ hg rfl
      rw [VRel] at hu
      obtain ⟨l', e1, rfl⟩ := hu
      rw [hl] at e1; cases e1
      exact .inr ⟨l.block, res, clock, rfl, h1, h2⟩
    · cases he

theorem run_getObj_map {b : Nat} {res : Array MapEntry} {clock : Nat} (hb : w.heap[b]? = some (.map res clock)) : (getObj b).run P w = .ok (.map res clock) w := by
  simp [getObj, Sem.run, hb]

theorem keyFits_u {kt : TypeId} {k : AV} (hk : keyFits P kt k = true) : ∃ d, P.underlying kt = some d := by
  unfold keyFits at hk
  split at hk
  · exact ⟨_, by assumption⟩
  · exact ⟨_, by assumption⟩
  · cases hk

theorem lookup_sound (hR : R B ι h w.heap) {t : TypeId} {m k v : AV} {ok : Bool} {u z : Value} (hm : VRel ι m u) (hk : VRel ι k z) (hv : lookupA P h t m k ok = some v) :
    ∃ v', (Instr.lookup t u z ok).run P w = .ok v' w ∧ VRel ι v v' := by
  unfold lookupA at hv
  split at hv
  · rename_i kt e r hu
    split at hv
    · rename_i hkf
      obtain ⟨d, hd⟩ := keyFits_u hkf
      split at hv
      · rename_i es he
        rcases entries_sound hR he hm with ⟨rfl, rfl, rfl⟩ | ⟨b, res, clock, rfl, hb, hmr⟩
        · simp only [findK] at hv
          split at hv
          · rename_i hh; cases hh
          · rename_i zz hz
            obtain ⟨zv, z1, z2, rfl⟩ := run_zeroValue (w := w) hz
            simp only [Option.some.injEq] at hv; subst hv
            have hfk : (Instr.findKey kt z [] : Sem _).run P w = .ok none w := by simp [Instr.findKey, run_underlying hd, Instr.findNow]
            refine ⟨if ok then .tuple #[zv, .bool false] else zv, ?_, ?_⟩
            · simp [Instr.lookup, run_underlying hu, run_checkKey hkf hk, hfk, z1]
            · cases ok
              · exact VRel_ofConst ι zv
              · rw [if_pos rfl, if_pos rfl, VRel]
                exact ⟨[zv, .bool false], rfl, VRelL_iff.2 (.cons (VRel_ofConst ι zv) (.cons (by rw [VRel]) .nil))⟩
          · cases hv
        · split at hv
          · rename_i vv hf
            simp only [Option.some.injEq] at hv; subst hv
            obtain ⟨j, en, h1, h2, h3⟩ := find_sound (P := P) (w := w) hmr hd hkf hk hf
            refine ⟨if ok then .tuple #[en.val, .bool true] else en.val, ?_, ?_⟩
            · simp [Instr.lookup, run_underlying hu, run_getObj_map hb, run_checkKey hkf hk, h3]
            · cases ok
              · exact h2.2
              · rw [if_pos rfl, if_pos rfl, VRel]
                exact ⟨[en.val, .bool true], rfl, VRelL_iff.2 (.cons h2.2 (.cons (by rw [VRel]) .nil))⟩
          · rename_i zz hf hz
            obtain ⟨zv, z1, z2, rfl⟩ := run_zeroValue (w := w) hz
            simp only [Option.some.injEq] at hv; subst hv
            obtain ⟨h3, _⟩ := find_sound (P := P) (w := w) hmr hd hkf hk hf
            refine ⟨if ok then .tuple #[zv, .bool false] else zv, ?_, ?_⟩
            · simp [Instr.lookup, run_underlying hu, run_getObj_map hb, run_checkKey hkf hk, h3, z1]
            · cases ok
              · exact VRel_ofConst ι zv
              · rw [if_pos rfl, if_pos rfl, VRel]
                exact ⟨[zv, .bool false], rfl, VRelL_iff.2 (.cons (VRel_ofConst ι zv) (.cons (by rw [VRel]) .nil))⟩
          · cases hv
      · cases hv
    · cases hv
  · cases hv
end
end Go.Am
end
