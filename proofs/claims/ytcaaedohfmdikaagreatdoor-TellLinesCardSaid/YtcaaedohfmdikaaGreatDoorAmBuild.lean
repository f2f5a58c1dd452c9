/- Part of the proof of TellLines: its text AmBuild. Conditions: none. -/
import Derived.Test.YtcaaedohfmdikaaGreatDoorAmStep
set_option linter.unusedVariables false
set_option linter.unusedSimpArgs false
open Go Go.Am Go.Proofs Go.RowKit
namespace Go.Am

/-! ### Rows of cells, one by one -/
def ones (l : List AV) : List (List AV) := l.map fun v => [v]
theorem ones_flat (l : List AV) : (ones l).flatten = l := by induction l with | nil => rfl | cons a l ih => simp [ones] at ih ⊢; exact ih
theorem ones_len (l : List AV) : (ones l).length = l.length := by simp [ones]
theorem chunk_ones (l : List AV) : chunk 1 l = ones l := by
  unfold chunk ones
  exact chunkF_one _ _ (Nat.le_refl _)
theorem getC_ones {l : List AV} (h : l ≠ []) : getC (ones l) 1 0 l.length = some l := by
  cases l with
  | nil => exact absurd rfl h
  | cons z r =>
    have hf : (ones (z :: r)).flatten = z :: r := ones_flat _
    have hr : ones (z :: r) = [z] :: ones r := rfl
    unfold getC
    simp only [Nat.zero_div, List.drop_zero, Nat.zero_mod]
    rw [hr]
    simp only
    rw [← hr, hf]
    split
    · rename_i hle
      have : r = [] := by cases r with | nil => rfl | cons a b => simp at hle
      subst this
      simp
    · simp
theorem getC_one {l : List AV} {i : Nat} {v : AV} (h : l[i]? = some v) : getC (ones l) 1 i 1 = some [v] := by
  have hi : i < l.length := (List.getElem?_eq_some_iff.1 h).1
  have hd : (ones l).drop i = [v] :: (ones l).drop (i + 1) := by
    have h1 : (ones l)[i]? = some [v] := by simp [ones, h]
    obtain ⟨h2, h3⟩ := List.getElem?_eq_some_iff.1 h1
    rw [← h3]; exact List.drop_eq_getElem_cons h2
  unfold getC
  rw [Nat.div_one, hd]
  simp [Nat.mod_one]

theorem bytes_cells (s : List UInt8) : bytesOfCells (cellsOfBytes s) = some s := by
  induction s with
  | nil => rfl
  | cons c s ih =>
    have : cellsOfBytes (c :: s) = .int .u8 c.toNat :: cellsOfBytes s := rfl
    rw [this]
    simp only [bytesOfCells, ih, Option.map_some]
    congr 2
    simp
theorem cells_len (s : List UInt8) : (cellsOfBytes s).length = s.length := by simp [cellsOfBytes]
theorem cells_app (s t : List UInt8) : cellsOfBytes (s ++ t) = cellsOfBytes s ++ cellsOfBytes t := by simp [cellsOfBytes]
theorem cells_ok (s : List UInt8) : (cellsOfBytes s).all AV.cellOk = true := by simp [cellsOfBytes, AV.cellOk]
theorem cells_ne {s : List UInt8} (h : s ≠ []) : cellsOfBytes s ≠ [] := by cases s with | nil => exact absurd rfl h | cons a b => simp [cellsOfBytes]

theorem el70 : sliceElem Tryz.prog 70 = some 5 := by kernel_rfl
theorem sz5 : szT Tryz.prog 5 = 1 := by kernel_rfl
theorem zero5 : zeroT Tryz.prog 5 = some (.int .u8 0) := by kernel_rfl
theorem bytes5 : Tryz.prog.bytesOf 5 = 1 := by kernel_rfl
theorem und70 : Tryz.prog.underlying 70 = some (.slice 5) := by kernel_rfl
theorem und9s : Tryz.prog.underlying 9 = some .string := by kernel_rfl

theorem app_str0 {h : Heap} {s : List UInt8} (hs : s ≠ []) (hl : s.length < 1000000) :
    appendA Tryz.prog h 70 (.slice none 0 (some 0)) (.str s) = some (.slice (some (h.next, 0)) s.length none, h.new (.cells (ones (cellsOfBytes s)) 1 5 false 0)) := by
  have h1 : s.length ≠ 0 := fun e => hs (List.eq_nil_of_length_eq_zero e)
  have h2 : ¬ (140737488355328 < s.length) := by omega
  have h3 : ¬ (4611686018427387904 < s.length) := by omega
  have h4 : (AV.int .u8 0).cells.length = 1 := rfl
  simp [appendA, el70, lenA, firstA, sz5, zero5, bytes5, cells_ok, cells_len, h1, h2, h3, h4, chunk_ones]
  try exact hs

theorem app_str {h : Heap} {b fz : Nat} {s t : List UInt8} (hb : h.get b = some (.cells (ones (cellsOfBytes t)) 1 5 false fz)) (hfz : fz ≤ t.length + 1) (ht : t ≠ []) (hs : s ≠ []) (hl : s.length < 1000000) (hl2 : t.length < 1000000) :
    appendA Tryz.prog h 70 (.slice (some (b, 0)) t.length none) (.str s) = some (.slice (some (h.next, 0)) (t.length + s.length) none, (h.put b .dead).new (.cells (ones (cellsOfBytes (t ++ s))) 1 5 false fz)) := by
  have h1 : s.length ≠ 0 := fun e => hs (List.eq_nil_of_length_eq_zero e)
  have h2 : ¬ (140737488355328 < t.length + s.length) := by omega
  have h3 : ¬ (4611686018427387904 < t.length + s.length) := by omega
  have h4 : (AV.int .u8 0).cells.length = 1 := rfl
  have h5 : ¬ (t.length < fz - 1) := by omega
  have h6 : getC (ones (cellsOfBytes t)) 1 0 t.length = some (cellsOfBytes t) := by
    have := getC_ones (cells_ne ht); rw [cells_len] at this; exact this
  have h7 : (if fz = 0 then 0 else fz - 1 + 1) = fz := by split <;> omega
  simp [appendA, el70, lenA, firstA, loadCellsA, hb, sz5, zero5, bytes5, cells_ok, cells_len, h1, h2, h3, h4, h5, h6, h7, reach, ones_len, chunk_ones, cells_app, Nat.mod_one]
  intro h; omega

/-! ### strings.Builder in a variable of another type -/
/-- A builder's bytes. -/
def Bld (N : Nat) (h : Heap) (l : Nat) (s : List UInt8) : Prop :=
  (s = [] ∧ h.get l = some (.cells [[.ptr none, .slice none 0 (some 0)]] 2 74 false 0)) ∨
  (s ≠ [] ∧ ∃ b fz, N ≤ b ∧ b < h.next ∧ b ≠ l ∧ fz ≤ s.length + 1 ∧ fz ≠ 1 ∧ h.get l = some (.cells [[.ptr (some (l, 0)), .slice (some (b, 0)) s.length none]] 2 74 false 0) ∧ h.get b = some (.cells (ones (cellsOfBytes s)) 1 5 false fz))

theorem fa72 (x xo : Nat) : [fieldAddrA Tryz.prog 72 (.ptr (some (x, xo))) 0, fieldAddrA Tryz.prog 72 (.ptr (some (x, xo))) 1] = [some (.ptr (some (x, xo))), some (.ptr (some (x, xo + 1)))] := by kernel_rfl
theorem fa74 (x xo : Nat) : [fieldAddrA Tryz.prog 74 (.ptr (some (x, xo))) 0] = [some (.ptr (some (x, xo)))] := by kernel_rfl
theorem agg69 : aggT Tryz.prog 69 = some false := by kernel_rfl
theorem und69 : Tryz.prog.underlying 69 = some (.pointer 72) := by kernel_rfl
theorem und313 : Tryz.prog.underlying 313 = some .unsafePointer := by kernel_rfl
theorem sz72 : szT Tryz.prog 72 = 2 := by kernel_rfl
theorem sz74 : szT Tryz.prog 74 = 2 := by kernel_rfl
theorem sz69 : szT Tryz.prog 69 = 1 := by kernel_rfl
theorem sz70 : szT Tryz.prog 70 = 1 := by kernel_rfl
theorem in72 : inA Tryz.prog 72 4 74 0 = true := by kernel_rfl
theorem eq69n (h : Heap) : eqA Tryz.prog h 8 69 (.ptr none) (.ptr none) = some true := by kernel_rfl
theorem eq69f (h : Heap) (i o : Nat) : eqA Tryz.prog h 8 69 (.ptr (some (i, o))) (.ptr none) = some false := by kernel_rfl
theorem eq69s (h : Heap) (i : Nat) (ha : alive h i = true) : eqA Tryz.prog h 8 69 (.ptr (some (i, 0))) (.ptr (some (i, 0))) = some true := by
  unfold eqA
  simp [und69, sz72, ha]

theorem setC2 {a b x : AV} : setC [[a, b]] 2 0 [x] = some [[x, b]] := by simp [setC, splice]
theorem setC2b {a b x : AV} : setC [[a, b]] 2 1 [x] = some [[a, x]] := by simp [setC, splice]
theorem ok69 (p : Option (Nat × Nat)) : okCells Tryz.prog 69 (.ptr p) = some [.ptr p] := by simp [okCells, AV.cells, sz69, AV.cellOk]
theorem ok70 (p : Option (Nat × Nat)) (n : Nat) (c : Option Nat) : okCells Tryz.prog 70 (.slice p n c) = some [.slice p n c] := by simp [okCells, AV.cells, sz70, AV.cellOk]

set_option maxRecDepth 100000 in
set_option maxHeartbeats 4000000 in
/-- copyCheck at a builder that is used for the first time. -/
theorem check_new (I : Intr) (n : Nat) (l : Nat) (h : Heap) (x : AV) (hI : I 126 [.ptr (some (l, 0))] h = none) (hg : h.get l = some (.cells [[.ptr none, x]] 2 74 false 0)) (hesc : ∀ h, callA Tryz.prog I n 211 [.ptr (some (l, 0))] h = .ok (.ptr (some (l, 0)), h)) :
    callA Tryz.prog I (n + 1) 126 [.ptr (some (l, 0))] h = .ok (.tuple [], h.put l (.cells [[.ptr (some (l, 0)), x]] 2 74 false 0)) := by
  simp only [callA, hI, Tryz.func126, bodyA]
  generalize callA Tryz.prog I n = call at hesc
  have hf := fa72 l 0
  simp only [List.cons.injEq, and_true] at hf
  obtain ⟨f0, f1⟩ := hf
  have g0 : getC [[AV.ptr none, x]] 2 0 1 = some [.ptr none] := by simp [getC]
  simp [f0, f1, g0, hg, agg69, eq69n, ok69, setC2, guardOk, hesc, und69, und313, sz72, sz74, sz69, in72, convA, storeA, storeCellsA, actO, loadA, loadCellsA, Tryz.f126, codeA_seq, codeA_region, codeA_block, codeA_cond, codeA_skip, codeA_exit, codeA_ret, regionA_seq, opsA, opA, actA, calleeA, kindA, readA, opd, putO, wantedA, Tr.get_set, List.range, List.range.loop, argsEnv, ofConst, ofScalar, binA, resultsA, resList, resA, sliceElem]

set_option maxRecDepth 100000 in
set_option maxHeartbeats 4000000 in
theorem check_old (I : Intr) (n : Nat) (l : Nat) (h : Heap) (x : AV) (hI : I 126 [.ptr (some (l, 0))] h = none) (hg : h.get l = some (.cells [[.ptr (some (l, 0)), x]] 2 74 false 0)) :
    callA Tryz.prog I (n + 1) 126 [.ptr (some (l, 0))] h = .ok (.tuple [], h) := by
  simp only [callA, hI, Tryz.func126, bodyA]
  generalize callA Tryz.prog I n = call
  have hf := fa72 l 0
  simp only [List.cons.injEq, and_true] at hf
  obtain ⟨f0, f1⟩ := hf
  have g0 : getC [[AV.ptr (some (l, 0)), x]] 2 0 1 = some [.ptr (some (l, 0))] := by simp [getC]
  have hal : alive h l = true := by simp [alive, hg]
  simp [f0, f1, g0, hg, agg69, eq69n, eq69f, eq69s h l hal, guardOk, und69, und313, sz72, sz74, sz69, loadA, loadCellsA, Tryz.f126, codeA_seq, codeA_region, codeA_block, codeA_cond, codeA_skip, codeA_exit, codeA_ret, regionA_seq, opsA, opA, actA, calleeA, kindA, readA, opd, putO, wantedA, Tr.get_set, List.range, List.range.loop, argsEnv, ofConst, ofScalar, binA, resultsA, resList, resA, sliceElem]
end Go.Am
