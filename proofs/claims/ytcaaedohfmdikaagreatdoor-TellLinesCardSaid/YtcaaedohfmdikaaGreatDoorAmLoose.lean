/- Part of the proof of TellLines: its text AmLoose. Conditions: none. -/
import Derived.Test.YtcaaedohfmdikaaGreatDoorAmSeat
import Derived.Test.YtcaaedohfmdikaaGreatDoorAmTree5
import Derived.Test.YtcaaedohfmdikaaGreatDoorAmSortInt
import Derived.Test.YtcaaedohfmdikaaGreatDoorAmPlain
set_option linter.unusedVariables false
set_option linter.unusedSimpArgs false
open Go Go.Am Go.Proofs
namespace Go.Am

theorem sortIntAt305 : SortIntAt Tryz.prog 305 :=
  ⟨⟨_, Tryz.func305, by kernel_rfl⟩, fun blk off cap zs w hH hb hz => AnyM.slices_Sort_int Tryz.sort305 blk off cap zs w hH hb hz, fun p cap w => AnyM.slices_Sort_int_none Tryz.sort305 p cap w⟩

/-- What is known ahead of Loose. -/
noncomputable def I00 : Intr := fun f args h => if f = 305 then (sortIntA args h).map .ok else I0 f args h
theorem I00_ok (B : Floor) : IntrOk Tryz.prog B I00 := by
  intro ι h w f args us r Q hr hR hA hv
  unfold I00 at hr
  split at hr
  · rename_i e; subst e
    obtain ⟨p, hp, rfl⟩ := Option.map_eq_some_iff.1 hr
    obtain ⟨v, h'⟩ := p
    exact sortInt_sound sortIntAt305 hR hA hp hv
  · exact I0_ok B ι h w f args us r Q hr hR hA hv
theorem call00 {B : Floor} (n : Nat) : CallOk Tryz.prog B (callA Tryz.prog I00 n) := callA_ok noOwn mixed (I00_ok B) n

/-! ### Rows of numbers -/
theorem chunkF_one : ∀ (f : Nat) (l : List AV), l.length ≤ f → chunkF 1 f l = l.map fun a => [a]
  | 0, [], _ => rfl
  | 0, a :: l, h => by simp at h
  | f + 1, [], _ => rfl
  | f + 1, a :: l, h => by
    simp only [chunkF, List.take_succ_cons, List.take_zero, List.drop_succ_cons, List.drop_zero, List.map_cons]
    rw [chunkF_one f l (by simpa using h)]
theorem chunk_row (zs : List Int) : chunk 1 (zs.map (AV.int .i64)) = rowZ zs := by
  unfold chunk rowZ
  rw [chunkF_one _ _ (Nat.le_refl _), List.map_map]; rfl
theorem row_length (zs : List Int) : (rowZ zs).length = zs.length := by simp [rowZ]
theorem getC_row {zs : List Int} (h : zs ≠ []) : getC (rowZ zs) 1 0 zs.length = some (zs.map (AV.int .i64)) := by
  cases zs with
  | nil => exact absurd rfl h
  | cons z r =>
    have hf : (rowZ (z :: r)).flatten = (z :: r).map (AV.int .i64) := rowZ_flat _
    have hr : rowZ (z :: r) = [AV.int .i64 z] :: rowZ r := rfl
    unfold getC
    simp only [Nat.zero_div, List.drop_zero, Nat.zero_mod]
    rw [hr]
    simp only
    rw [← hr, hf]
    cases r with
    | nil => rfl
    | cons y r =>
      rw [if_neg (by simp)]
      rw [show (z :: y :: r).length = ((z :: y :: r).map (AV.int .i64)).length from (List.length_map _).symm, List.take_length]
      simp

theorem el271 : sliceElem Tryz.prog 271 = some 3 := by kernel_rfl
theorem sz3 : szT Tryz.prog 3 = 1 := by kernel_rfl
theorem zero3 : zeroT Tryz.prog 3 = some (.int .i64 0) := by kernel_rfl
theorem bytes3 : Tryz.prog.bytesOf 3 = 8 := by kernel_rfl
theorem und271 : Tryz.prog.underlying 271 = some (.slice 3) := by kernel_rfl
theorem one271 (z : Int) : buildSliceA Tryz.prog 271 1 [(0, .int .i64 z)] = some (.cells [[.int .i64 z]] 1 3 false 0, fun id => .slice (some (id, 0)) 1 (some 1)) := by kernel_rfl

theorem app_nil {h : Heap} {t : Nat} {z : Int} (ht : h.get t = some (.cells [[.int .i64 z]] 1 3 false 0)) :
    appendA Tryz.prog h 271 (.slice none 0 (some 0)) (.slice (some (t, 0)) 1 (some 1)) = some (.slice (some (h.next, 0)) 1 none, h.new (.cells (rowZ [z]) 1 3 false 0)) := by
  simp [appendA, el271, lenA, firstA, loadCellsA, ht, sz3, zero3, bytes3, getC, AV.cells, AV.cellOk, chunk, chunkF, rowZ]

theorem app_some {h : Heap} {t x : Nat} {z : Int} {zs : List Int} (ht : h.get t = some (.cells [[.int .i64 z]] 1 3 false 0)) (hx : h.get x = some (.cells (rowZ zs) 1 3 false 0)) (hne : zs ≠ []) (hlen : zs.length < 1000) :
    appendA Tryz.prog h 271 (.slice (some (x, 0)) zs.length none) (.slice (some (t, 0)) 1 (some 1)) = some (.slice (some (h.next, 0)) (zs.length + 1) none, (h.put x .dead).new (.cells (rowZ (zs ++ [z])) 1 3 false 0)) := by
  have hc : chunk 1 (zs.map (AV.int .i64) ++ [AV.int .i64 z]) = rowZ (zs ++ [z]) := by rw [← chunk_row, List.map_append]; rfl
  have g1 : getC [[AV.int .i64 z]] 1 0 1 = some [.int .i64 z] := by simp [getC]
  have hb : ¬ (140737488355328 < (zs.length + 1) * 8) := by omega
  have hb2 : ¬ (4611686018427387904 < zs.length + 1) := by omega
  simp [appendA, el271, lenA, firstA, loadCellsA, ht, hx, sz3, zero3, bytes3, g1, AV.cells, AV.cellOk, reach, row_length, getC_row hne, hc, hb, hb2]
  intro h; omega

section
variable {P : Program} {call : CallF} {nt : Nat} {ops : Array Oper} {i : Nat} {rest : List Nat} {env env' : Env} {h : Heap} {o : Oper} {Q : Env × Heap → Prop} {op : Op} {d : Option Tmp}
theorem seq_nw {ob : AObj} {f : Nat → AV} (ho : ops[i]? = some o) (hop : o.op = op) (hd : o.dst = d) (hk : kindA P op = .nw) (hg : o.guard = none) (hv : newA P env op = some (ob, f)) (hp : putO nt env d (f h.next) = some env')
    (hQ : (opsA P call nt ops rest env' (h.new ob)).all Q) : (opsA P call nt ops (i :: rest) env h).all Q := by
  subst hop; subst hd
  have hw : wantedA ops env o = some true := by simp only [wantedA, hg]
  simp only [opsA, ho, hw, opA, hk, hv, Res.bind_ok, hp]
  exact hQ
end

/-! ### Loose -/
noncomputable def lo (k : Nat) : Array Oper := (Tryz.f224.body.bind (regOf k)).getD #[]
theorem loose_loop_eq : looseLoop = (Code.region 3 (lo 3) false).seq ((Code.cond (.tmp 12) .skip (.exit 0)).seq (.block 1 ((Code.region 4 (lo 4) false).seq ((Code.region 5 (lo 5) false).seq (.cond (.tmp 20) (.region 6 (lo 6) false) .skip))))) := by kernel_rfl
theorem lo_sizes : [(lo 0).size, (lo 1).size, (lo 2).size, (lo 3).size, (lo 4).size, (lo 5).size, (lo 6).size, (lo 7).size, (lo 8).size] = [1, 1, 5, 2, 5, 5, 5, 2, 2] := by kernel_rfl
theorem loose_body : Tryz.f224.body = some ((Code.region 0 (lo 0) false).seq ((Code.region 1 (lo 1) false).seq (((Code.region 2 (lo 2) false).seq (.block 0 (.loop looseLoop))).seq ((Code.region 7 (lo 7) false).seq ((Code.region 8 (lo 8) false).seq .ret))))) := by kernel_rfl
theorem loose_nt : Tryz.f224.ntmps = 28 := by kernel_rfl
theorem loose_rs : Tryz.f224.results.toList = [.tmp 2] := by kernel_rfl

/-- A node's links. -/
noncomputable def linkA (h : Heap) (p : AV × AV) : Option Int :=
  match p.2 with
  | .ptr (some (x, xo)) => match h.get x with
    | some (.cells els sz _ _ _) => match getC els sz (xo + 1) 1 with
      | some [.int .i64 k] => some k
      | _ => none
    | _ => none
  | _ => none
noncomputable def keyInt (p : AV × AV) : Option Int :=
  match p.1 with
  | .int .i64 z => some z
  | _ => none
/-- The number of a loose node. -/
noncomputable def freeA (h : Heap) (p : AV × AV) : Option Int :=
  match linkA h p, keyInt p with
  | some k, some z => if k = 0 then some z else none
  | _, _ => none

theorem linkA_spec {h : Heap} {p : AV × AV} {k : Int} (hl : linkA h p = some k) : ∃ x xo els sz el ro fz, p.2 = .ptr (some (x, xo)) ∧ h.get x = some (.cells els sz el ro fz) ∧ getC els sz (xo + 1) 1 = some [.int .i64 k] := by
  unfold linkA at hl
  split at hl
  rotate_left
  · cases hl
  rename_i x xo hp
  split at hl
  rotate_left
  · cases hl
  rename_i els sz el ro fz hx
  split at hl
  rotate_left
  · cases hl
  rename_i k' hg
  cases hl
  exact ⟨x, xo, els, sz, el, ro, fz, hp, hx, hg⟩
theorem keyInt_spec {p : AV × AV} {z : Int} (h : keyInt p = some z) : p.1 = .int .i64 z := by
  unfold keyInt at h
  split at h
  · rename_i z' hp; cases h; exact hp
  · cases h

structure LooseSt (h0 : Heap) (r : Nat) (L : List Int) (out : AV) (h : Heap) : Prop where
  old : ∀ id, id < h0.next → h.get id = h0.get id
  out : (L = [] ∧ out = .slice none 0 (some 0)) ∨ ∃ x, L ≠ [] ∧ out = .slice (some (x, 0)) L.length none ∧ h0.next ≤ x ∧ x < h.next ∧ x ≠ r ∧ h.get x = some (.cells (rowZ L) 1 3 false 0)
  rge : h0.next ≤ r
  rlt : r < h.next

set_option maxRecDepth 100000 in
set_option maxHeartbeats 4000000 in
theorem lo_one (call : CallF) (n : Nat) (env : Env) (h h0 : Heap) (r m : Nat) (es : List (AV × AV)) (ver : Nat) (last : Option (AV × AV)) (left : List (AV × AV)) (L : List Int) (out : AV) (Q : AExit × Env × Heap → Prop) (hne : left ≠ [])
    (h10 : env.get 10 = some (.ptr (some (r, 0)))) (h3 : env.get 3 = some out) (hr : h.get r = some (.miter (some m) left ver last)) (hm0 : h0.get m = some (.map es ver)) (hml : m < h0.next) (hmem : ∀ id o, h0.get id = some o → id < h0.next)
    (hs : LooseSt h0 r L out h) (hL : L.length < 1000) (hd : ∀ p ∈ left, ∃ k z, linkA h0 p = some k ∧ keyInt p = some z)
    (hQ : ∀ (i : Nat) (p : AV × AV) (env' : Env) (h' : Heap) (out' : AV), left[i]? = some p → env'.get 10 = some (.ptr (some (r, 0))) → env'.get 3 = some out' → h'.get r = some (.miter (some m) (left.eraseIdx i) ver (some p)) →
      LooseSt h0 r (L ++ (freeA h0 p).toList) out' h' → Q (.norm, env', h')) :
    (codeA Tryz.prog call 28 n looseLoop env h).all Q := by
  have hsz := lo_sizes
  simp only [List.cons.injEq, and_true] at hsz
  obtain ⟨_, _, _, z3, z4, z5, z6, _, _⟩ := hsz
  have hmr : m ≠ r := by have := hs.rge; omega
  have hm : h.get m = some (.map es ver) := by rw [hs.old m hml]; exact hm0
  rw [loose_loop_eq, codeA_seq, Res.all_bind, codeA_region, regionA_seq, z3, Res.all_bind]
  show (opsA Tryz.prog call 28 (lo 3) [0, 1] env h).all _
  refine seq_act (op := .next (.tmp 10) false) (d := some 11) rfl rfl rfl rfl rfl ?_
  simp only [actA, opd, h10, Option.getD_some]
  refine next_all hne hr hm ?_
  intro i p hi
  refine ⟨_, rfl, ?_⟩
  obtain ⟨h1, hh1⟩ : ∃ h1, h1 = h.put r (.miter (some m) (left.eraseIdx i) ver (some p)) := ⟨_, rfl⟩
  rw [← hh1]
  have hn1 : h1.next = h.next := by rw [hh1]; rfl
  have hg1 : ∀ id, id ≠ r → h1.get id = h.get id := fun id hid => by rw [hh1]; exact Heap.get_put_ne hid
  have hr1 : h1.get r = some (.miter (some m) (left.eraseIdx i) ver (some p)) := by rw [hh1]; exact Heap.get_put_same ..
  have hm' : h1.get m = some (.map es ver) := by rw [hg1 m hmr]; exact hm
  obtain ⟨k, z, hlk, hkz⟩ := hd p (List.mem_of_getElem? hi)
  obtain ⟨x, xo, els, sz, el, ro, fz, hp2, hx0, hgx⟩ := linkA_spec hlk
  have hp1 := keyInt_spec hkz
  have hxl := hmem _ _ hx0
  have hrge := hs.rge
  have hrlt := hs.rlt
  have hx1 : h1.get x = some (.cells els sz el ro fz) := by rw [hg1 x (by omega), hs.old x hxl]; exact hx0
  have hfree : freeA h0 p = if k = 0 then some z else none := by simp only [freeA, hlk, hkz]
  refine seq_rd (op := .extract (.tmp 11) 0) (d := some 12) (v := .bool true) rfl rfl rfl rfl rfl (by simp [readA, opd, Tr.get_set]) rfl ?_
  simp only [opsA, Res.all_ok, codeA_seq, codeA_cond, opd, Tr.get_set_same, Option.getD_some, codeA_skip, Res.bind_ok, codeA_block, codeA_region, regionA_seq, z4, z5, z6]
  rw [Res.all_bind, Res.all_bind, Res.all_bind]
  show (opsA Tryz.prog call 28 (lo 4) [0, 1, 2, 3, 4] _ _).all _
  refine seq_rd (op := .entry (.tmp 10)) (d := some 13) (v := .tuple [p.1, p.2]) rfl rfl rfl rfl rfl (by simp [readA, opd, Tr.get_set, h10, entryA, hr1, hm']) rfl ?_
  refine seq_rd (op := .extract (.tmp 13) 0) (d := some 14) (v := p.1) rfl rfl rfl rfl rfl (by simp [readA, opd, Tr.get_set]) rfl ?_
  refine seq_rd (op := .extract (.tmp 13) 1) (d := some 15) (v := p.2) rfl rfl rfl rfl rfl (by simp [readA, opd, Tr.get_set]) rfl ?_
  refine seq_rd (op := .assign (.tmp 14)) (d := some 4) (v := p.1) rfl rfl rfl rfl rfl (by simp [readA, opd, Tr.get_set]) rfl ?_
  refine seq_rd (op := .assign (.tmp 15)) (d := some 5) (v := p.2) rfl rfl rfl rfl rfl (by simp [readA, opd, Tr.get_set]) rfl ?_
  simp only [opsA, Res.all_ok]
  rw [Res.all_bind, Res.all_bind]
  show (opsA Tryz.prog call 28 (lo 5) [0, 1, 2, 3, 4] _ _).all _
  refine seq_rd (op := .move (.tmp 5)) (d := some 16) (v := .ptr (some (x, xo))) rfl rfl rfl rfl rfl (by simp [readA, opd, Tr.get_set, hp2]) rfl ?_
  refine seq_rd (op := .nilCheck (.tmp 16)) (d := some 17) (v := .ptr (some (x, xo))) rfl rfl rfl rfl rfl (by simp [readA, opd, Tr.get_set]) rfl ?_
  refine seq_rd (op := .fieldAddr 193 (.tmp 17) 1) (d := some 18) (v := .ptr (some (x, xo + 1))) rfl rfl rfl rfl rfl (by simp [readA, opd, Tr.get_set, fa_links]) rfl ?_
  refine seq_rd (op := .load 3 (.tmp 18)) (d := some 19) (v := .int .i64 k) rfl rfl rfl rfl rfl (by simp [readA, opd, Tr.get_set, loadA, loadCellsA, agg3, hx1, hgx]) rfl ?_
  refine seq_rd (op := .binOp .eql 3 (.tmp 19) (.const (.int .i64 0)) 3) (d := some 20) (v := .bool (k == 0)) rfl rfl rfl rfl rfl (by simp [readA, opd, Tr.get_set, binA, intA, cmpA, ofConst, ofScalar]) rfl ?_
  simp only [opsA, Res.all_ok, Tr.get_set_same, Option.getD_some]
  by_cases hk : k = 0
  · subst hk
    rw [if_pos rfl] at hfree
    simp only [show ((0 : Int) == 0) = true from rfl]
    rw [Res.all_bind]
    show (opsA Tryz.prog call 28 (lo 6) [0, 1, 2, 3, 4] _ _).all _
    refine seq_rd (op := .move (.tmp 3)) (d := some 21) (v := out) rfl rfl rfl rfl rfl (by simp [readA, opd, Tr.get_set, h3]) rfl ?_
    refine seq_rd (op := .move (.tmp 4)) (d := some 22) (v := .int .i64 z) rfl rfl rfl rfl rfl (by simp [readA, opd, Tr.get_set, hp1]) rfl ?_
    refine seq_nw (op := .buildSlice 271 1 #[(0, .tmp 22)]) (d := some 23) (ob := .cells [[.int .i64 z]] 1 3 false 0) (f := fun id => .slice (some (id, 0)) 1 (some 1)) rfl rfl rfl rfl rfl (by simp [newA, opd, Tr.get_set, one271]) rfl ?_
    obtain ⟨h2, hh2⟩ : ∃ h2, h2 = h1.new (.cells [[.int .i64 z]] 1 3 false 0) := ⟨_, rfl⟩
    rw [← hh2]
    have hn2 : h2.next = h1.next + 1 := by rw [hh2]; rfl
    have hg2 : ∀ id, id ≠ h1.next → h2.get id = h1.get id := fun id hid => by rw [hh2]; exact Heap.get_new_ne hid
    have ht2 : h2.get h1.next = some (.cells [[.int .i64 z]] 1 3 false 0) := by rw [hh2]; exact Heap.get_new_same ..
    rcases hs.out with ⟨hL0, hout⟩ | ⟨y, hL0, hout, hy1, hy2, hy3, hy4⟩
    · subst hL0
      refine seq_act (op := .call { callee := .builtin .append, args := #[.tmp 21, .tmp 23], argTypes := #[271, 271] }) (d := some 24) rfl rfl rfl rfl rfl ?_
      simp [actA, builtinActA, opd, Tr.get_set, hout, und271, app_nil ht2, Res.ofOpt]
      refine ⟨_, rfl, ?_⟩
      refine seq_rd (op := .assign (.tmp 24)) (d := some 3) (v := .slice (some (h2.next, 0)) 1 none) rfl rfl rfl rfl rfl (by simp [readA, opd, Tr.get_set]) rfl ?_
      simp only [opsA, Res.all_ok]
      refine hQ i p _ _ (.slice (some (h2.next, 0)) 1 none) hi (by simp [Tr.get_set, h10]) (by simp [Tr.get_set]) (by rw [Heap.get_new_ne (by omega), hg2 r (by omega)]; exact hr1) ?_
      rw [hfree]
      refine ⟨fun id hid => by rw [Heap.get_new_ne (by omega), hg2 id (by omega), hg1 id (by omega)]; exact hs.old id hid, .inr ⟨h2.next, by simp, rfl, by omega, by rw [Heap.next_new]; omega, by omega, by rw [Heap.get_new_same]; rfl⟩, hrge, by rw [Heap.next_new]; omega⟩
    · have hy5 : h2.get y = some (.cells (rowZ L) 1 3 false 0) := by rw [hg2 y (by omega), hg1 y hy3]; exact hy4
      refine seq_act (op := .call { callee := .builtin .append, args := #[.tmp 21, .tmp 23], argTypes := #[271, 271] }) (d := some 24) rfl rfl rfl rfl rfl ?_
      simp [actA, builtinActA, opd, Tr.get_set, hout, und271, app_some ht2 hy5 hL0 hL, Res.ofOpt]
      refine ⟨_, rfl, ?_⟩
      refine seq_rd (op := .assign (.tmp 24)) (d := some 3) (v := .slice (some (h2.next, 0)) (L.length + 1) none) rfl rfl rfl rfl rfl (by simp [readA, opd, Tr.get_set]) rfl ?_
      simp only [opsA, Res.all_ok]
      have hnp : (h2.put y .dead).next = h2.next := rfl
      refine hQ i p _ _ (.slice (some (h2.next, 0)) (L.length + 1) none) hi (by simp [Tr.get_set, h10]) (by simp [Tr.get_set]) (by rw [Heap.get_new_ne (by rw [hnp]; omega), Heap.get_put_ne (by omega), hg2 r (by omega)]; exact hr1) ?_
      rw [hfree]
      refine ⟨fun id hid => by rw [Heap.get_new_ne (by rw [hnp]; omega), Heap.get_put_ne (by omega), hg2 id (by omega), hg1 id (by omega)]; exact hs.old id hid, .inr ⟨h2.next, by simp, by simp, by omega, by rw [Heap.next_new, hnp]; omega, by omega, by rw [← hnp, Heap.get_new_same]; rfl⟩, hrge, by rw [Heap.next_new, hnp]; omega⟩
  · rw [if_neg hk] at hfree
    have hkb : (k == 0) = false := by simpa using hk
    simp only [hkb, Res.all_ok]
    refine hQ i p _ _ out hi (by simp [Tr.get_set, h10]) (by simp [Tr.get_set, h3]) hr1 ?_
    rw [hfree]
    refine ⟨fun id hid => by rw [hg1 id (by omega)]; exact hs.old id hid, ?_, hrge, by omega⟩
    rcases hs.out with ⟨a, b⟩ | ⟨y, hL0, hout, hy1, hy2, hy3, hy4⟩
    · exact .inl ⟨by simpa using a, b⟩
    · exact .inr ⟨y, by simpa using hL0, by simpa using hout, hy1, by omega, hy3, by rw [hg1 y hy3]; simpa using hy4⟩

theorem lo_iter (call : CallF) (n : Nat) (h0 : Heap) (r m : Nat) (es : List (AV × AV)) (ver : Nat) (hm0 : h0.get m = some (.map es ver)) (hml : m < h0.next) (hmem : ∀ id o, h0.get id = some o → id < h0.next) :
    ∀ (k : Nat) (left : List (AV × AV)) (L : List Int) (out : AV) (env : Env) (h : Heap) (last : Option (AV × AV)), left.length < k → L.length + left.length < 1000 → (∀ p ∈ left, ∃ k z, linkA h0 p = some k ∧ keyInt p = some z) →
    env.get 10 = some (.ptr (some (r, 0))) → env.get 3 = some out → h.get r = some (.miter (some m) left ver last) → LooseSt h0 r L out h →
    (iterA (fun env h => codeA Tryz.prog call 28 n looseLoop env h) k env h).all fun o : AExit × Env × Heap => o.1 = AExit.exit 0 ∧ ∃ L' out', o.2.1.get 3 = some out' ∧ L'.Perm (L ++ left.filterMap (freeA h0)) ∧ LooseSt h0 r L' out' o.2.2
  | 0, left, L, out, env, h, last, hk, _, _, _, _, _, _ => by omega
  | k + 1, left, L, out, env, h, last, hk, hLk, hd, h10, h3, hr, hs => by
    simp only [iterA]
    rw [Res.all_bind]
    have hrge := hs.rge
    by_cases hne : left = []
    · subst hne
      have hm : h.get m = some (.map es ver) := by rw [hs.old m hml]; exact hm0
      rw [loose_end call n env h r m es ver last h10 hr hm]
      simp only [Res.all_ok]
      refine ⟨trivial, L, out, by simp [Tr.get_set, h3], by simp, ⟨fun id hid => by rw [Heap.get_put_ne (by omega)]; exact hs.old id hid, ?_, hrge, hs.rlt⟩⟩
      rcases hs.out with a | ⟨y, a1, a2, a3, a4, a5, a6⟩
      · exact .inl a
      · exact .inr ⟨y, a1, a2, a3, a4, a5, by rw [Heap.get_put_ne a5]; exact a6⟩
    · refine lo_one call n env h h0 r m es ver last left L out _ hne h10 h3 hr hm0 hml hmem hs (by omega) hd ?_
      intro i p env' h' out' hi e10 e3 hr' hs'
      have hil : i < left.length := (List.getElem?_eq_some_iff.1 hi).1
      have hlen : (left.eraseIdx i).length + 1 = left.length := by rw [List.length_eraseIdx]; simp [hil]; omega
      have hfl : (freeA h0 p).toList.length ≤ 1 := by cases freeA h0 p <;> simp
      have ih := lo_iter call n h0 r m es ver hm0 hml hmem k (left.eraseIdx i) (L ++ (freeA h0 p).toList) out' env' h' (some p) (by omega) (by rw [List.length_append]; omega)
        (fun q hq => hd q ((List.eraseIdx_sublist left i).subset hq)) e10 e3 hr' hs'
      refine Res.all_mono ?_ ih
      rintro ⟨e, env2, h2⟩ ⟨q1, L', out2, q2, q3, q4⟩
      refine ⟨q1, L', out2, q2, q3.trans ?_, q4⟩
      rw [List.append_assoc]
      refine List.Perm.append_left _ ?_
      have hl : left = left.take i ++ p :: left.drop (i + 1) := by
        obtain ⟨g1, g2⟩ := List.getElem?_eq_some_iff.1 hi
        rw [← g2, List.getElem_cons_drop, List.take_append_drop]
      have he : left.eraseIdx i = left.take i ++ left.drop (i + 1) := List.eraseIdx_eq_take_drop_succ ..
      rw [he, List.filterMap_append]
      conv => rhs; rw [hl, List.filterMap_append, List.filterMap_cons]
      cases freeA h0 p with
      | none => exact .refl _
      | some z =>
        show (z :: ((left.take i).filterMap (freeA h0) ++ (left.drop (i + 1)).filterMap (freeA h0))).Perm ((left.take i).filterMap (freeA h0) ++ z :: (left.drop (i + 1)).filterMap (freeA h0))
        exact List.perm_middle.symm

structure LooseEnd (h0 : Heap) (es : List (AV × AV)) (v : AV) (g1 : Heap) (L : List Int) : Prop where
  perm : L.Perm (es.filterMap (freeA h0))
  old : ∀ id, id < h0.next → g1.get id = h0.get id
  out : (L = [] ∧ v = .slice none 0 (some 0)) ∨ ∃ x, L ≠ [] ∧ v = .slice (some (x, 0)) L.length none ∧ h0.next ≤ x ∧ g1.get x = some (.cells (rowZ (sortZ L)) 1 3 false 0)

/-- What Sort does with what was found. -/
structure SortsZ (call : CallF) : Prop where
  nil : ∀ h, call 305 [.slice none 0 (some 0)] h = .ok (.tuple [], h)
  row : ∀ (h : Heap) (x : Nat) (L : List Int), L ≠ [] → L.length < 1000 → h.get x = some (.cells (rowZ L) 1 3 false 0) → call 305 [.slice (some (x, 0)) L.length none] h = .ok (.tuple [], h.put x (.cells (rowZ (sortZ L)) 1 3 false 0))

set_option maxRecDepth 100000 in
set_option maxHeartbeats 4000000 in
theorem lo_code (call : CallF) (hS : SortsZ call) (n t off m : Nat) (h : Heap) (es : List (AV × AV)) (ver : Nat) (env : Env) (h0 : env.get 0 = some (.ptr (some (t, off)))) (hl : loadA Tryz.prog 195 (.ptr (some (t, off))) h = some (.map (some m)))
    (hm : h.get m = some (.map es ver)) (hmem : ∀ id o, h.get id = some o → id < h.next) (hn : es.length < n) (hlen : es.length < 1000) (hd : ∀ p ∈ es, ∃ k z, linkA h p = some k ∧ keyInt p = some z) :
    (codeA Tryz.prog call 28 n ((Code.region 0 (lo 0) false).seq ((Code.region 1 (lo 1) false).seq (((Code.region 2 (lo 2) false).seq (.block 0 (.loop looseLoop))).seq ((Code.region 7 (lo 7) false).seq ((Code.region 8 (lo 8) false).seq .ret))))) env h).all
      fun o : AExit × Env × Heap => o.1 = AExit.ret ∧ ∃ L v, o.2.1.get 2 = some v ∧ LooseEnd h es v o.2.2 L := by
  have hsz := lo_sizes
  simp only [List.cons.injEq, and_true] at hsz
  obtain ⟨z0, z1, z2, _, _, _, _, z7, z8⟩ := hsz
  have hml := hmem _ _ hm
  rw [codeA_seq, Res.all_bind, codeA_region, regionA_seq, z0, Res.all_bind]
  show (opsA Tryz.prog call 28 (lo 0) [0] env h).all _
  refine seq_rd (op := .assign (.const (.slice none 0 0))) (d := some 2) (v := .slice none 0 (some 0)) rfl rfl rfl rfl rfl rfl rfl ?_
  simp only [opsA, Res.all_ok]
  rw [codeA_seq, Res.all_bind, codeA_region, regionA_seq, z1, Res.all_bind]
  show (opsA Tryz.prog call 28 (lo 1) [0] _ h).all _
  refine seq_rd (op := .assign (.const (.slice none 0 0))) (d := some 3) (v := .slice none 0 (some 0)) rfl rfl rfl rfl rfl rfl rfl ?_
  simp only [opsA, Res.all_ok]
  rw [codeA_seq, Res.all_bind, codeA_seq, Res.all_bind, codeA_region, regionA_seq, z2, Res.all_bind]
  show (opsA Tryz.prog call 28 (lo 2) [0, 1, 2, 3, 4] _ h).all _
  refine seq_rd (op := .move (.tmp 0)) (d := some 6) (v := .ptr (some (t, off))) rfl rfl rfl rfl rfl (by simp [readA, opd, Tr.get_set, h0]) rfl ?_
  refine seq_rd (op := .nilCheck (.tmp 6)) (d := some 7) (v := .ptr (some (t, off))) rfl rfl rfl rfl rfl (by simp [readA, opd, Tr.get_set]) rfl ?_
  refine seq_rd (op := .fieldAddr 197 (.tmp 7) 0) (d := some 8) (v := .ptr (some (t, off))) rfl rfl rfl rfl rfl (by simp [readA, opd, Tr.get_set, fa_nodes]) rfl ?_
  refine seq_rd (op := .load 195 (.tmp 8)) (d := some 9) (v := .map (some m)) rfl rfl rfl rfl rfl (by simp [readA, opd, Tr.get_set, hl]) rfl ?_
  refine seq_act (op := .range 195 (.tmp 9)) (d := some 10) rfl rfl rfl rfl rfl ?_
  obtain ⟨h1, hh1⟩ : ∃ h1, h1 = h.new (.miter (some m) es ver none) := ⟨_, rfl⟩
  have hra : rangeA Tryz.prog h 195 (.map (some m)) = some (.ptr (some (h.next, 0)), h1) := by simp [rangeA, map195, hm, hh1]
  simp only [actA, opd, Tr.get_set_same, Option.getD_some, hra, Res.ofOpt, Res.all_ok]
  refine ⟨_, rfl, ?_⟩
  simp only [opsA, Res.all_ok]
  rw [codeA_block, Res.all_bind, codeA_loop]
  have hst : LooseSt h h.next [] (.slice none 0 (some 0)) h1 := ⟨fun id hid => by rw [hh1, Heap.get_new_ne (by omega)], .inl ⟨rfl, rfl⟩, Nat.le_refl _, by rw [hh1, Heap.next_new]; omega⟩
  refine Res.all_mono ?_ (lo_iter call n h h.next m es ver hm hml hmem n es [] (.slice none 0 (some 0)) _ h1 none hn (by simpa using hlen) hd (by simp [Tr.get_set]) (by simp [Tr.get_set]) (by rw [hh1]; exact Heap.get_new_same ..) hst)
  rintro ⟨e, env2, h3⟩ ⟨q1, L, out, q2, q3, q4⟩
  simp only at q1 q2 q3 q4
  subst q1
  simp only [if_true, Res.all_ok]
  have hLlen : L.length < 1000 := by
    have := q3.length_eq
    have h2 := List.length_filterMap_le (freeA h) es
    simp at this
    omega
  rw [codeA_seq, Res.all_bind, codeA_region, regionA_seq, z7, Res.all_bind]
  show (opsA Tryz.prog call 28 (lo 7) [0, 1] env2 h3).all _
  refine seq_rd (op := .move (.tmp 3)) (d := some 25) (v := out) rfl rfl rfl rfl rfl (by simp [readA, opd, q2]) rfl ?_
  refine seq_act (op := .call { callee := .value (.func 305), args := #[.tmp 25], argTypes := #[271] }) (d := some 26) rfl rfl rfl rfl rfl ?_
  rcases q4.out with ⟨a1, a2⟩ | ⟨y, a1, a2, a3, a4, a5, a6⟩
  · simp [actA, calleeA, opd, Tr.get_set, a2, hS.nil]
    refine ⟨_, rfl, ?_⟩
    simp only [opsA, Res.all_ok, codeA_seq]
    rw [Res.all_bind, codeA_region, regionA_seq, z8, Res.all_bind]
    show (opsA Tryz.prog call 28 (lo 8) [0, 1] _ _).all _
    refine seq_rd (op := .move (.tmp 3)) (d := some 27) (v := out) rfl rfl rfl rfl rfl (by simp [readA, opd, Tr.get_set, q2]) rfl ?_
    refine seq_rd (op := .assign (.tmp 27)) (d := some 2) (v := out) rfl rfl rfl rfl rfl (by simp [readA, opd, Tr.get_set]) rfl ?_
    simp only [opsA, Res.all_ok, codeA_ret]
    exact ⟨trivial, L, out, by simp [Tr.get_set], by simpa using q3, q4.old, .inl ⟨a1, a2⟩⟩
  · simp [actA, calleeA, opd, Tr.get_set, a2, hS.row h3 y L a1 hLlen a6]
    refine ⟨_, rfl, ?_⟩
    simp only [opsA, Res.all_ok, codeA_seq]
    rw [Res.all_bind, codeA_region, regionA_seq, z8, Res.all_bind]
    show (opsA Tryz.prog call 28 (lo 8) [0, 1] _ _).all _
    refine seq_rd (op := .move (.tmp 3)) (d := some 27) (v := out) rfl rfl rfl rfl rfl (by simp [readA, opd, Tr.get_set, q2]) rfl ?_
    refine seq_rd (op := .assign (.tmp 27)) (d := some 2) (v := out) rfl rfl rfl rfl rfl (by simp [readA, opd, Tr.get_set]) rfl ?_
    simp only [opsA, Res.all_ok, codeA_ret]
    exact ⟨trivial, L, out, by simp [Tr.get_set], by simpa using q3, fun id hid => by rw [Heap.get_put_ne (by omega)]; exact q4.old id hid, .inr ⟨y, a1, a2, a3, Heap.get_put_same ..⟩⟩

set_option maxRecDepth 100000 in
theorem lo_fn (I : Intr) (n t off m : Nat) (hS : SortsZ (callA Tryz.prog I n)) (h : Heap) (es : List (AV × AV)) (ver : Nat) (hI : I 224 [.ptr (some (t, off))] h = none) (hl : loadA Tryz.prog 195 (.ptr (some (t, off))) h = some (.map (some m)))
    (hm : h.get m = some (.map es ver)) (hmem : ∀ id o, h.get id = some o → id < h.next) (hn : es.length < n) (hlen : es.length < 1000) (hd : ∀ p ∈ es, ∃ k z, linkA h p = some k ∧ keyInt p = some z) :
    (callA Tryz.prog I (n + 1) 224 [.ptr (some (t, off))] h).all fun o => ∃ L, LooseEnd h es o.1 o.2 L := by
  simp only [callA, hI, Tryz.func224, bodyA, loose_body, loose_nt]
  generalize callA Tryz.prog I n = call at hS
  rw [if_pos (by simp), Res.all_bind]
  obtain ⟨env0, henv0⟩ : ∃ env0, env0 = argsEnv 0 [.ptr (some (t, off))] .nil := ⟨_, rfl⟩
  rw [← henv0]
  have h00 : env0.get 0 = some (.ptr (some (t, off))) := by rw [henv0]; simp [argsEnv, Tr.get_set]
  have key := lo_code call hS n t off m h es ver env0 h00 hl hm hmem hn hlen hd
  refine Res.all_mono ?_ key
  rintro ⟨e, env, h'⟩ ⟨q1, L, v, q2, q3⟩
  simp only at q1 q2 q3
  subst q1
  have : resultsA Tryz.prog Tryz.f224 env h' = some v := by simp [resultsA, loose_rs, resList, resA, q2]
  simp only [this, Res.all_ok]
  exact ⟨L, q3⟩

noncomputable def looseG (args : List AV) (h : Heap) : Option (Res (AV × Heap)) :=
  match args with
  | [v] => match nodesA h v with
    | some es => if es.all fun p => (linkA h p).isSome && (keyInt p).isSome then
        match sortZ (es.filterMap (freeA h)) with
        | [] => some (.ok (.slice none 0 (some 0), h))
        | z :: r => some (.ok (.slice (some (h.next, 0)) (z :: r).length none, h.new (.cells (rowZ (z :: r)) 1 3 false 0)))
      else none
    | none => none
  | _ => none

theorem I00_224 (args : List AV) (h : Heap) : I00 224 args h = none := by simp [I00, I0_224]
theorem I00_305 (args : List AV) (h : Heap) : I00 305 args h = (sortIntA args h).map .ok := by simp [I00]

theorem sortsZ0 (n : Nat) : SortsZ (callA Tryz.prog I00 (n + 1)) where
  nil h := by simp only [callA, I00_305]; rfl
  row h x L hL hlen hx := by
    have : sortIntA [.slice (some (x, 0)) L.length none] h = some (.tuple [], h.put x (.cells (rowZ (sortZ L)) 1 3 false 0)) := by
      unfold sortIntA
      simp only [hx]
      rw [rowZ_flat, intsOf_map]
      have h0 : 0 < L.length := by cases L with
        | nil => exact absurd rfl hL
        | cons => simp
      simp [Nat.blt_eq, h0, hlen]
    simp only [callA, I00_305, this]; rfl

theorem lo_res {I : Intr} {n : Nat} {B : Floor} (hC : CallOk Tryz.prog B (callA Tryz.prog I (n + 1))) (hS : SortsZ (callA Tryz.prog I n)) {ι : Inj} {w : World} {us : List Value} (t off m : Nat) (h : Heap) (es : List (AV × AV)) (ver : Nat)
    (hR : R B ι h w.heap) (hA : F2 (VRel ι) [.ptr (some (t, off))] us) (hI : I 224 [.ptr (some (t, off))] h = none) (hl : loadA Tryz.prog 195 (.ptr (some (t, off))) h = some (.map (some m)))
    (hm : h.get m = some (.map es ver)) (hmem : ∀ id o, h.get id = some o → id < h.next) (hn : es.length < n) (hlen : es.length < 1000) (hd : ∀ p ∈ es, ∃ k z, linkA h p = some k ∧ keyInt p = some z) :
    CallRes Tryz.prog 224 us w (RetOk B ι h w fun o => ∃ L, LooseEnd h es o.1 o.2 L) :=
  hC ι h w 224 _ us _ hR hA (lo_fn I n t off m hS h es ver hI hl hm hmem hn hlen hd)

theorem CallRes.mono {P : Program} {f : FuncId} {us : List Value} {w : World} {S S' : Ending → World → Prop} (h : CallRes P f us w S) (hs : ∀ e w', S e w' → S' e w') : CallRes P f us w S' := by
  rcases h with ⟨h1, h2⟩ | ⟨v, w', h1, h2⟩
  · exact .inl ⟨h1, h2.mono hs⟩
  · exact .inr ⟨v, w', h1, hs _ _ h2⟩

theorem looseG_ok {B : Floor} {ι : Inj} {h : Heap} {w : World} {args : List AV} {us : List Value} {r : Res (AV × Heap)} {Q : AV × Heap → Prop} (hr : looseG args h = some r) (hR : R B ι h w.heap) (hA : F2 (VRel ι) args us) (hv : r.all Q) :
    CallRes Tryz.prog 224 us w (RetOk B ι h w Q) := by
  unfold looseG at hr
  split at hr
  rotate_left
  · cases hr
  rename_i v
  split at hr
  rotate_left
  · cases hr
  rename_i es hes
  obtain ⟨t, off, m, ver, rfl, hl, hm, hlen⟩ := nodesA_spec hes
  split at hr
  rotate_left
  · cases hr
  rename_i hc
  simp only [List.all_eq_true, Bool.and_eq_true] at hc
  have hmem : ∀ id o, h.get id = some o → id < h.next := by
    intro id o hg
    rcases Nat.lt_or_ge id h.next with h1 | h1
    · exact h1
    · rw [(hR.fresh id h1).1] at hg; cases hg
  have hd : ∀ p ∈ es, ∃ k z, linkA h p = some k ∧ keyInt p = some z := by
    intro p hp
    obtain ⟨h1, h2⟩ := hc p hp
    obtain ⟨k, hk⟩ := Option.isSome_iff_exists.1 h1
    obtain ⟨z, hz⟩ := Option.isSome_iff_exists.1 h2
    exact ⟨k, z, hk, hz⟩
  obtain ⟨n, hn⟩ : ∃ n, n = 40 := ⟨_, rfl⟩
  have h1 := I00_224 [.ptr (some (t, off))] h
  have h2 : es.length < n + 1 := by omega
  have base := lo_res (call00 (n + 1 + 1)) (sortsZ0 n) t off m h es ver hR hA h1 hl hm hmem h2 (by omega) hd
  refine base.mono ?_
  intro e w' he
  cases e with
  | returned v' =>
    obtain ⟨v, g1, ι', ⟨L, hE⟩, k1, k2, k3⟩ := he
    have hle := k3.le hR
    have hsort : sortZ (es.filterMap (freeA h)) = sortZ L := (sortZ_congr hE.perm).symm
    rw [hsort] at hr
    rcases hE.out with ⟨hL, hvv⟩ | ⟨x, hL, hvv, hx, hgx⟩
    · subst hL
      simp only [sortZ, Option.some.injEq] at hr
      subst hr
      have hrec : Recast ι' h g1 h w'.heap (fun id => id) :=
        ⟨Nat.le_refl _, fun _ _ => rfl, hE.old, fun _ _ => rfl, fun id hid => (hR.fresh id hid).1, fun i j _ _ _ _ _ _ e => e, fun id o hid hg => by rw [(hR.fresh id hid).1] at hg; cases hg⟩
      subst hvv
      rw [VRel] at k1
      obtain ⟨_, _, rfl⟩ := k1
      exact ⟨_, _, _, hv, by rw [VRel]; exact ⟨rfl, rfl, rfl⟩, hrec.rel hR hle k2, hrec.step hR k3⟩
    · have hne : sortZ L ≠ [] := by
        intro e
        have := (sortZ_perm L).length_eq
        rw [e] at this
        exact hL (List.eq_nil_of_length_eq_zero this.symm)
      cases hz : sortZ L with
      | nil => exact absurd hz hne
      | cons z rr =>
        rw [hz] at hr
        simp only [Option.some.injEq] at hr
        subst hr
        have hlenL : (z :: rr).length = L.length := by rw [← hz]; exact (sortZ_perm L).length_eq
        obtain ⟨f, hf⟩ : ∃ f : Nat → Nat, f = fun id => if id < h.next then id else x := ⟨_, rfl⟩
        have hnx : (h.new (.cells (rowZ (z :: rr)) 1 3 false 0)).next = h.next + 1 := rfl
        have hfn : f h.next = x := by rw [hf]; simp
        have hrec : Recast ι' h g1 (h.new (.cells (rowZ (z :: rr)) 1 3 false 0)) w'.heap f := by
          refine ⟨by rw [hnx]; omega, fun id hid => by rw [hf]; simp only; rw [if_pos hid], hE.old, fun id hid => Heap.get_new_ne (by omega), fun id hid => ?_, ?_, ?_⟩
          · rw [hnx] at hid
            rw [Heap.get_new_ne (by omega)]
            exact (hR.fresh id (by omega)).1
          · have : ∀ i o, h.next ≤ i → (h.new (.cells (rowZ (z :: rr)) 1 3 false 0)).get i = some o → i = h.next := by
              intro i o hi hg
              by_cases e : i = h.next
              · exact e
              · rw [Heap.get_new_ne e, (hR.fresh i hi).1] at hg; cases hg
            intro i j oi oj hi hj hgi hgj _
            rw [this i oi hi hgi, this j oj hj hgj]
          · intro id o hid hg
            have e : id = h.next := by
              by_cases e : id = h.next
              · exact e
              · rw [Heap.get_new_ne e, (hR.fresh id hid).1] at hg; cases hg
            subst e
            rw [Heap.get_new_same] at hg
            cases hg
            rw [hfn]
            refine ⟨hx, rfl, _, hgx, rfl, fun l _ ho => ?_⟩
            rw [hz] at ho
            obtain ⟨cs, fr, q1, q2, q3, q4, q5, q6, q7, q8, q9⟩ := ho
            refine ⟨cs, fr, q1, q2, q3, q4, q5, q6, q7, ?_, q9⟩
            rw [rowZ_flat] at q8 ⊢
            rw [F2_ints_eq q8]
            exact F2_ints _ _
        have hv2 : Q (.slice (some (h.next, 0)) (z :: rr).length none, h.new (.cells (rowZ (z :: rr)) 1 3 false 0)) := hv
        refine ⟨_, _, _, hv2, ?_, hrec.rel hR hle k2, hrec.step hR k3⟩
        subst hvv
        rw [hlenL]
        rw [VRel] at k1 ⊢
        obtain ⟨l, a, c, q1, q2, q3, q4⟩ := k1
        exact ⟨l, a, c, by simp only [InjBy]; rw [hnx, if_pos (by omega), hfn]; exact q1, q2, q3, q4⟩
  | _ => exact he
end Go.Am
