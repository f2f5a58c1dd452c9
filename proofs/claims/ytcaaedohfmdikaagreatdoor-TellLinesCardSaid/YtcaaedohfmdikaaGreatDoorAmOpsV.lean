/- The machine's operations are sound, second half: part of the proof of TellLines. Conditions: none. -/
import Derived.Test.YtcaaedohfmdikaaGreatDoorAmOpsU
import Derived.Maps.RangeRun
set_option linter.unusedVariables false
set_option linter.unusedSimpArgs false
noncomputable section
namespace Go.Am
open Go.RowKit

section
variable {P : Program} {B : Floor} {ι : Inj} {h : Heap} {w : World}

theorem scal_cells (ι : Inj) (u : Value) : F2 (VRel ι) (ofScalar u).cells [u] := by
  unfold ofScalar
  split <;> exact .cons (by simp [VRel]) .nil

theorem const_cells (ι : Inj) (v : Value) : F2 (VRel ι) (ofConst v).cells v.cells.toList := by
  cases v with
  | agg cs => simpa [ofConst, AV.cells, Value.cells] using F2_ofScalar ι cs.toList
  | tuple cs => exact .cons (VRel_ofConst ι (.tuple cs)) .nil
  | _ => simp only [ofConst, Value.cells]; exact scal_cells ι _

theorem foldl_fill : ∀ (vs : List Value) (k : Nat) (off : Nat) (cs : Array Value), off + k + vs.length ≤ cs.size →
    ((vs.zipIdx k).foldl (fun cs (p : Value × Nat) => cs.setIfInBounds (off + p.2) p.1) cs).toList = cs.toList.take (off + k) ++ vs ++ cs.toList.drop (off + k + vs.length)
  | [], k, off, cs, _ => by simp
  | v :: vs, k, off, cs, hl => by
    simp only [List.zipIdx_cons, List.foldl_cons]
    rw [foldl_fill vs (k + 1) off _ (by simp at hl ⊢; omega)]
    have e := list_seg_step cs.toList (off + k) v vs (by simp at hl ⊢; omega)
    simp only [Array.toList_setIfInBounds]
    rw [← Nat.add_assoc off k 1, e]
    simp

def PRel (ι : Inj) (p : Nat × AV) (q : Nat × Value) : Prop := p.1 = q.1 ∧ VRel ι p.2 q.2

theorem splice_rel {x new : List AV} {y new' : List Value} (h1 : F2 (VRel ι) x y) (h2 : F2 (VRel ι) new new') (off : Nat) :
    F2 (VRel ι) (splice x off new) (y.take off ++ new' ++ y.drop (off + new'.length)) := by
  unfold splice
  rw [← h2.length]
  exact ((h1.take off).append h2).append (h1.drop _)

theorem fill_sound {place : Nat → Option (Nat × Nat)} : ∀ {parts : List (Nat × AV)} {parts' : List (Nat × Value)} {cells cells' : List AV} {ys : Array Value},
    F2 (PRel ι) parts parts' → F2 (VRel ι) cells ys.toList → fillA place cells parts = some cells' →
    ∃ ys', Instr.fill place ys parts' = some ys' ∧ F2 (VRel ι) cells' ys'.toList
  | [], _, cells, cells', ys, hp, hc, hf => by
    cases hp
    simp only [fillA, Option.some.injEq] at hf; subst hf
    exact ⟨ys, rfl, hc⟩
  | (i, v) :: rest, _, cells, cells', ys, hp, hc, hf => by
    cases hp with
    | cons h1 h2 =>
      rename_i q qs
      obtain ⟨j, u⟩ := q
      obtain ⟨rfl, hu⟩ := h1
      simp only [fillA] at hf
      split at hf
      · cases hf
      · rename_i off size hpl
        split at hf
        · rename_i hcond
          obtain ⟨c1, c2, c3⟩ := hcond
          have hcells := VRel.cells c3 hu
          have hl := hcells.length
          have hlc := hc.length
          simp only [Array.length_toList] at hl hlc
          have hfold := foldl_fill u.cells.toList 0 off ys (by simp; omega)
          have hz : u.cells.zipIdx.foldl (fun cs (p : Value × Nat) => cs.setIfInBounds (off + p.2) p.1) ys =
              ((u.cells.toList.zipIdx 0).foldl (fun cs (p : Value × Nat) => cs.setIfInBounds (off + p.2) p.1) ys) := by
            rw [← Array.foldl_toList, Array.toList_zipIdx]
          have hrel := splice_rel hc hcells off
          obtain ⟨ys', g1, g2⟩ := fill_sound (place := place) (ys := u.cells.zipIdx.foldl (fun cs (p : Value × Nat) => cs.setIfInBounds (off + p.2) p.1) ys) h2 (by
            rw [hz, hfold]; simpa using hrel) hf
          refine ⟨ys', ?_, g2⟩
          simp only [Instr.fill, hpl]
          rw [if_neg (by simp; omega)]
          exact g1
        · cases hf

theorem zero_rep (zs : List Value) (hs : 0 < zs.length) : ∀ n : Nat, (List.range (n * zs.length)).map (fun i => zs[i % zs.length]!) = (List.replicate n zs).flatten
  | 0 => by simp
  | n + 1 => by
    rw [Nat.succ_mul, List.range_add, List.map_append, zero_rep zs hs n, List.replicate_succ', List.flatten_append]
    congr 1
    simp only [List.map_map, List.flatten_cons, List.flatten_nil, List.append_nil]
    apply List.ext_getElem?
    intro i
    rw [List.getElem?_map]
    by_cases hi : i < zs.length
    · simp [hi, Nat.mod_eq_of_lt hi, Function.comp]
    · simp [hi, List.getElem?_eq_none (Nat.le_of_not_lt hi)]

theorem zeros_sound (z : Value) {n s : Nat} (hz : (ofConst z).cells.length = s) (hs : s ≠ 0) :
    F2 (VRel ι) (List.replicate n (ofConst z).cells).flatten ((Array.range (n * s)).map (z.cells[· % z.cells.size]!)).toList := by
  have hc := const_cells ι z
  have hl := hc.length
  have e : ((Array.range (n * s)).map (z.cells[· % z.cells.size]!)).toList = (List.replicate n z.cells.toList).flatten := by
    rw [← zero_rep z.cells.toList (by omega) n]
    rw [← hl, hz]
    simp only [Array.toList_map, Array.toList_range]
    apply List.map_congr_left
    intro i _
    have : z.cells.size = s := by rw [← Array.length_toList]; omega
    rw [this]
    simp [Array.getElem!_eq_getD]
  rw [e]
  exact F2.flatten (F2.replicate hc n)

theorem places_get : ∀ (fs : List Field) (places : List (Nat × Nat)), fs.mapM (fun f => (P.info? f.type).map fun i => (f.offset, i.size)) = some places →
    ∀ i : Nat, places[i]? = (fs[i]?).map fun (f : Field) => (f.offset, szT P f.type)
  | [], places, hh, i => by simp at hh; subst hh; simp
  | f :: fs, places, hh, i => by
    simp only [List.mapM_cons, Option.bind_eq_bind, Option.pure_def, Option.bind_eq_some_iff] at hh
    obtain ⟨q, hq, r, hr, he⟩ := hh
    simp only [Option.some.injEq] at he; subst he
    rw [Option.map_eq_some_iff] at hq
    obtain ⟨ii, hi, rfl⟩ := hq
    cases i with
    | zero => simp [szT, Program.cellsOf, hi]
    | succ i => simpa using places_get fs r hr i

theorem places_exist : ∀ (fs : List Field), (fs.all fun f => (P.info? f.type).isSome) = true → ∃ places, fs.mapM (fun f => (P.info? f.type).map fun i => (f.offset, i.size)) = some places
  | [], _ => ⟨[], rfl⟩
  | f :: fs, hh => by
    simp only [List.all_cons, Bool.and_eq_true] at hh
    obtain ⟨i, hi⟩ := Option.isSome_iff_exists.1 hh.1
    obtain ⟨r, hr⟩ := places_exist fs hh.2
    exact ⟨(f.offset, i.size) :: r, by simp [List.mapM_cons, hi, hr]⟩

theorem build_sound {t : TypeId} {parts : List (Nat × AV)} {parts' : Array (Nat × Value)} {v : AV} (hp : F2 (PRel ι) parts parts'.toList) (hv : buildA P t parts = some v) :
    ∃ v', (Instr.build t parts').run P w = .ok v' w ∧ VRel ι v v' := by
  unfold buildA at hv
  split at hv
  · rename_i z fs hz hu
    split at hv
    · rename_i hall
      rw [Option.map_eq_some_iff] at hv
      obtain ⟨cs, hf, rfl⟩ := hv
      obtain ⟨zv, _, z2, rfl⟩ := run_zeroValue (w := w) hz
      rw [Option.bind_eq_some_iff] at z2
      obtain ⟨it, hit, hzz⟩ := z2
      obtain ⟨places, hpl⟩ := places_exist fs.toList hall
      obtain ⟨ys, g1, g2⟩ := fill_sound hp (const_cells ι zv) hf
      refine ⟨.agg ys, ?_, by rw [VRel]; exact ⟨ys.toList, by simp, VRelL_iff.2 g2⟩⟩
      apply run_build
      unfold Program.built
      simp only [hit, hu, hzz, hpl]
      rw [← g1]
      congr 1
      funext i
      have := places_get fs.toList places hpl i
      simpa using this
    · cases hv
  · rename_i z n e hz hu
    split at hv
    · rename_i hi
      obtain ⟨ie, hie⟩ := Option.isSome_iff_exists.1 hi
      rw [Option.map_eq_some_iff] at hv
      obtain ⟨cs, hf, rfl⟩ := hv
      obtain ⟨zv, _, z2, rfl⟩ := run_zeroValue (w := w) hz
      rw [Option.bind_eq_some_iff] at z2
      obtain ⟨it, hit, hzz⟩ := z2
      obtain ⟨ys, g1, g2⟩ := fill_sound hp (const_cells ι zv) hf
      refine ⟨.agg ys, ?_, by rw [VRel]; exact ⟨ys.toList, by simp, VRelL_iff.2 g2⟩⟩
      apply run_build
      unfold Program.built
      simp only [hit, hu, hzz, hie]
      rw [← g1]
      simp [szT, Program.cellsOf, hie]
    · cases hv
  · cases hv

theorem entry_sound (hR : R B ι h w.heap) {x v : AV} {u : Value} (hx : VRel ι x u) (hv : entryA h x = some v) : ∃ v', (Instr.entry u).run P w = .ok v' w ∧ VRel ι v v' := by
  unfold entryA at hv
  split at hv
  · rename_i r
    rw [VRel] at hx
    obtain ⟨l, hl, rfl⟩ := hx
    split at hv
    · rename_i m left ver k vv hg
      split at hv
      · rename_i es ver' hgm
        split at hv
        · rename_i hver
          simp only [Option.some.injEq] at hv; subst hv
          obtain ⟨l', e1, _, hb0, lm, since, seen, stepped, h1, h2, es2, ver2, h3, h4, h5⟩ := hR.obj r _ hg rfl
          rw [hl] at e1; cases e1
          rw [hgm] at h3
          simp only [Option.some.injEq, AObj.map.injEq] at h3
          obtain ⟨rfl, rfl⟩ := h3
          obtain ⟨res, clock, k1, k2, k3, k4, k5⟩ := h5 hver.symm
          obtain ⟨e, he, hs, hre⟩ := k5 _ rfl
          have hne : seen.isEmpty = false := by
            cases hse : seen.isEmpty with
            | false => rfl
            | true => simp at hse; subst hse; simp at hs
          have hst := k3
          obtain ⟨lm2, e2, _, res2, clock2, m1, m2⟩ := hR.obj m _ hgm rfl
          rw [h1] at e2; cases e2
          rw [k1] at m1
          simp only [Option.some.injEq, Obj.map.injEq] at m1
          obtain ⟨rfl, rfl⟩ := m1
          have hfind : res.find? (fun x => x.born == e.born) = some e := by
            rw [← Array.find?_toList]
            obtain ⟨j, hj, hje⟩ := List.getElem_of_mem he
            have hje' : res.toList[j]? = some e := by rw [List.getElem?_eq_getElem hj, hje]
            cases hfd : res.toList.find? (fun x => x.born == e.born) with
            | none => have := List.find?_eq_none.1 hfd e he; simp at this
            | some x =>
              have hx1 := List.mem_of_find?_eq_some hfd
              have hx2 := List.find?_some hfd
              simp at hx2
              obtain ⟨i, hi, hie⟩ := List.getElem_of_mem hx1
              have hie' : res.toList[i]? = some x := by rw [List.getElem?_eq_getElem hi, hie]
              have := nodup_get m2.born hie' hje' hx2
              subst this
              rw [hie'] at hje'; exact hje'
          refine ⟨.tuple #[e.key, e.val], ?_, ?_⟩
          · have hgo : (getObj l.block).run P w = .ok (.mapIter (some lm.block) since seen stepped) w := by simp [getObj, Sem.run, h2]
            simp [Instr.entry, hb0, hgo, run_getObj_map k1, hs, hst, hfind]
          · rw [VRel]; exact ⟨[e.key, e.val], rfl, VRelL_iff.2 (.cons hre.1 (.cons hre.2 .nil))⟩
        · cases hv
      · cases hv
    · cases hv
  · cases hv
end
end Go.Am
end
noncomputable section
namespace Go.Am
open Go.RowKit

section
variable {P : Program} {B : Floor} {ι : Inj} {h : Heap} {w : World}

theorem lenOp_sound (hR : R B ι h w.heap) {ts : Array TypeId} {t ty : TypeId} (ht : ts[0]? = some t) {x v : AV} {u : Value} (hx : VRel ι x u) (hv : lenOpA P h t x = some v) :
    ∃ v', (Builtin.len_ ts ty #[u]).run P w = .ok v' w ∧ VRel ι v v' := by
  unfold lenOpA at hv
  split at hv
  · rename_i s hu
    simp only [Option.some.injEq] at hv; subst hv
    rw [VRel] at hx; subst hx
    have hs : (⟨s.toArray⟩ : ByteArray).size = s.length := by simp [ByteArray.size]
    exact ⟨.int .i64 s.length, by simp only [Builtin.len_, ht, List.getElem?_toArray, List.getElem?_cons_zero, Sem.run_bind, run_underlying hu, Result.andThen_ok, Sem.run_pure, goInt, hs], by rw [VRel]⟩
  · rename_i n _ hu
    simp only [Option.some.injEq] at hv; subst hv
    exact ⟨.int .i64 n, by simp [Builtin.len_, ht, run_underlying hu, goInt], by rw [VRel]⟩
  · rename_i a n c hu
    simp only [Option.some.injEq] at hv; subst hv
    have : ∃ a' c', u = .slice a' n c' := by
      rcases a with _ | ⟨i, o⟩
      · rw [VRel] at hx; obtain ⟨rfl, _, rfl⟩ := hx; exact ⟨_, _, rfl⟩
      · cases c with
        | none => rw [VRel] at hx; obtain ⟨_, _, _, _, rfl, _⟩ := hx; exact ⟨_, _, rfl⟩
        | some c => rw [VRel] at hx; obtain ⟨_, _, _, _, rfl, _⟩ := hx; exact ⟨_, _, rfl⟩
    obtain ⟨a', c', rfl⟩ := this
    exact ⟨.int .i64 n, by simp [Builtin.len_, ht, run_underlying hu, goInt], by rw [VRel]⟩
  · rename_i r hu
    rw [Option.map_eq_some_iff] at hv
    obtain ⟨es, he, rfl⟩ := hv
    rcases entries_sound hR he hx with ⟨rfl, rfl, rfl⟩ | ⟨b, res, clock, rfl, hb, hmr⟩
    · exact ⟨.int .i64 0, by simp [Builtin.len_, ht, run_underlying hu, goInt], by simp [VRel]⟩
    · have hl : es.length = res.size := by
        obtain ⟨l, h1, h2⟩ := hmr.perm
        rw [h2.length, h1.length_eq]; simp
      exact ⟨.int .i64 res.size, by simp [Builtin.len_, ht, run_underlying hu, run_getObj_map hb, goInt], by rw [VRel, hl]⟩
  · rename_i a _ hu
    split at hv
    · rename_i n e hua
      simp only [Option.some.injEq] at hv; subst hv
      exact ⟨.int .i64 n, by simp [Builtin.len_, ht, run_underlying hu, run_underlying hua, goInt], by rw [VRel]⟩
    · cases hv
  · cases hv

theorem min2_sound {mx : Bool} {x y v : AV} {u z : Value} (hx : VRel ι x u) (hy : VRel ι y z) (hv : min2 mx x y = some v) :
    ∃ v', ((if mx then Builtin.max2 u z else Builtin.min2 u z : Sem Value)).run P w = .ok v' w ∧ VRel ι v v' := by
  unfold min2 at hv
  split at hv
  · rename_i k a k' b
    simp only [Option.some.injEq] at hv; subst hv
    rw [VRel] at hx; rw [VRel] at hy; subst hx; subst hy
    cases mx
    · exact ⟨_, rfl, by rw [VRel]; rfl⟩
    · exact ⟨_, rfl, by rw [VRel]; rfl⟩
  · cases hv

theorem minMax_sound {mx : Bool} : ∀ {x : AV} {xs : List AV} {u : Value} {us : List Value} {v : AV}, VRel ι x u → F2 (VRel ι) xs us → minMaxA mx x xs = some v →
    ∃ v', (us.foldlM (if mx then Builtin.max2 else Builtin.min2) u : Sem Value).run P w = .ok v' w ∧ VRel ι v v'
  | x, [], u, us, v, hx, hxs, hv => by
    cases hxs
    simp only [minMaxA, Option.some.injEq] at hv; subst hv
    exact ⟨u, by simp, hx⟩
  | x, y :: r, u, us, v, hx, hxs, hv => by
    cases hxs with
    | cons h1 h2 =>
      rename_i z zs
      simp only [minMaxA, Option.bind_eq_some_iff] at hv
      obtain ⟨q, hq, hv⟩ := hv
      obtain ⟨q', g1, g2⟩ := min2_sound (P := P) (w := w) hx h1 hq
      obtain ⟨v', g3, g4⟩ := minMax_sound g2 h2 hv
      refine ⟨v', ?_, g4⟩
      have e : (if mx = true then Builtin.max2 else Builtin.min2) u z = (if mx = true then Builtin.max2 u z else Builtin.min2 u z) := by cases mx <;> rfl
      simp only [List.foldlM_cons, Sem.run_bind, e, g1, Result.andThen_ok]
      exact g3

theorem args_rel {nt : Nat} {env : Env} {a : Act} (hE : EnvRel ι nt env a.tmps) : ∀ xs : List Operand, F2 (VRel ι) (xs.map (opd env)) (xs.map a.eval)
  | [] => .nil
  | x :: xs => .cons (hE.opd x) (args_rel hE xs)

theorem builtinRead_sound (hR : R B ι h w.heap) {b : Builtin} {ts : Array TypeId} {ty : TypeId} {cs : Array Bool} {args : List AV} {us : List Value} {v : AV} (ha : F2 (VRel ι) args us)
    (hv : builtinReadA P h b ts args = some v) :
    ∃ v', (builtin b ts ty cs us.toArray).run P w = .ok (.value v') w ∧ VRel ι v v' := by
  unfold builtinReadA at hv
  split at hv
  · rename_i x
    cases ha with
    | cons h1 h2 =>
      cases h2
      rename_i u
      rw [Option.bind_eq_some_iff] at hv
      obtain ⟨t, ht, hv⟩ := hv
      obtain ⟨v', g1, g2⟩ := lenOp_sound (P := P) (ty := ty) hR ht h1 hv
      exact ⟨v', by simp [builtin, g1], g2⟩
  · cases ha with
    | cons h1 h2 =>
      cases h2
      simp only [Option.some.injEq] at hv; subst hv
      rw [VRel] at h1; obtain ⟨rfl, _, rfl⟩ := h1
      exact ⟨.pointer none, rfl, by rw [VRel]⟩
  · rename_i p n c
    cases ha with
    | cons h1 h2 =>
      cases h2
      obtain ⟨id, off⟩ := p
      have fin : ∀ (l : Loc) (a : Addr) (c' : Nat), ι id = some l → a = ⟨l.block, l.base + off, none⟩ → c' ≠ 0 → v = .ptr (some (id, off)) →
          ∃ v', (builtin .unsafeSliceData ts ty cs [Value.slice (some a) n c'].toArray).run P w = .ok (.value v') w ∧ VRel ι v v' := by
        intro l a c' hl ha hc hv
        obtain ⟨k, rfl⟩ : ∃ k, c' = k + 1 := ⟨c' - 1, by omega⟩
        subst hv
        refine ⟨.pointer (some a), rfl, ?_⟩
        rw [VRel]; exact ⟨l, hl, by rw [ha]⟩
      split at hv
      · rename_i c
        split at hv
        · cases hv
        · rename_i hc
          simp only [Option.some.injEq] at hv; subst hv
          rw [VRel] at h1; obtain ⟨l, a, hl, _, rfl, hor⟩ := h1
          exact fin l a c hl (hor.resolve_right fun h => hc h) hc rfl
      · split at hv
        · cases hv
        · rename_i hn
          simp only [Option.some.injEq] at hv; subst hv
          rw [VRel] at h1; obtain ⟨l, a, c, hl, rfl, hle, hor⟩ := h1
          rcases hor with ⟨ha, _⟩ | ⟨h0, _⟩
          · exact fin l a c hl ha (by omega) rfl
          · exact absurd h0 hn
  · rename_i a n c
    cases ha with
    | cons h1 h2 =>
      cases h2
      rename_i u
      split at hv
      · rename_i e hu
        rw [Option.bind_eq_some_iff] at hu
        obtain ⟨t, ht, hu⟩ := hu
        simp only [Option.some.injEq] at hv; subst hv
        have : ∃ a', u = .slice a' n c := by
          rcases a with _ | ⟨i, o⟩
          · rw [VRel] at h1; obtain ⟨rfl, hc, rfl⟩ := h1; cases hc; exact ⟨_, rfl⟩
          · rw [VRel] at h1; obtain ⟨_, _, _, _, rfl, _⟩ := h1; exact ⟨_, rfl⟩
        obtain ⟨a', rfl⟩ := this
        exact ⟨.int .i64 c, by simp [builtin, Builtin.cap_, ht, run_underlying hu, goInt], by rw [VRel]⟩
      · cases hv
  · rename_i k n xs
    cases ha with
    | cons h1 h2 =>
      rename_i u us
      obtain ⟨v', g1, g2⟩ := minMax_sound (P := P) (w := w) h1 h2 hv
      simp at g1
      exact ⟨v', by simp [builtin, Builtin.min_, g1], g2⟩
  · rename_i k n xs
    cases ha with
    | cons h1 h2 =>
      rename_i u us
      obtain ⟨v', g1, g2⟩ := minMax_sound (P := P) (w := w) h1 h2 hv
      simp at g1
      exact ⟨v', by simp [builtin, Builtin.max_, g1], g2⟩
  · cases hv

theorem opt_rel {nt : Nat} {env : Env} {a : Act} (hE : EnvRel ι nt env a.tmps) (x : Option Operand) : ORelV ι (x.map (opd env)) (x.map a.eval) := by
  cases x with
  | none => rfl
  | some x => exact ⟨_, rfl, hE.opd x⟩

theorem parts_rel {nt : Nat} {env : Env} {a : Act} (hE : EnvRel ι nt env a.tmps) : ∀ ps : List (Nat × Operand), F2 (PRel ι) (ps.map fun (i, x) => (i, opd env x)) (ps.map fun (i, x) => (i, a.eval x))
  | [] => .nil
  | (i, x) :: ps => .cons ⟨rfl, hE.opd x⟩ (parts_rel hE ps)

/-- Operations that read. -/
theorem read_sound (hR : R B ι h w.heap) {nt : Nat} {env : Env} {a : Act} (hE : EnvRel ι nt env a.tmps) {o : Oper} {v : AV} (hv : readA P env h o.op = some v) :
    ∃ v', (execOp a.eval o).run P w = .ok (.value v') w ∧ VRel ι v v' := by
  obtain ⟨dst, op, type, pos, after, guard⟩ := o
  simp only at hv
  cases op <;> simp only [readA] at hv <;> try (cases hv; done)
  case move x => simp only [Option.some.injEq] at hv; subst hv; exact ⟨_, rfl, hE.opd x⟩
  case assign x => simp only [Option.some.injEq] at hv; subst hv; exact ⟨_, rfl, hE.opd x⟩
  case pick c x y =>
    have hc := hE.opd c
    split at hv
    · rename_i e; rw [e, VRel] at hc; simp only [Option.some.injEq] at hv; subst hv
      exact ⟨_, by simp [execOp, hc, asBool], hE.opd x⟩
    · rename_i e; rw [e, VRel] at hc; simp only [Option.some.injEq] at hv; subst hv
      exact ⟨_, by simp [execOp, hc, asBool], hE.opd y⟩
    · cases hv
  case build t ps =>
    obtain ⟨v', g1, g2⟩ := build_sound (P := P) (w := w) (parts' := ps.map fun (i, x) => (i, a.eval x)) (by simpa using parts_rel hE ps.toList) hv
    exact ⟨v', by simp [execOp, g1], g2⟩
  case load t x =>
    obtain ⟨v', g1, g2⟩ := load_sound (P := P) hR (hE.opd x) hv
    exact ⟨v', by simp [execOp, g1], g2⟩
  case nilCheck x =>
    have hx := hE.opd x
    split at hv
    · rename_i p e; rw [e] at hx
      simp only [Option.some.injEq] at hv; subst hv
      obtain ⟨i, o⟩ := p
      have hx' := hx
      rw [VRel] at hx; obtain ⟨l, hl, hxx⟩ := hx
      exact ⟨a.eval x, by simp [execOp, hxx], hx'⟩
    · rename_i t y e; rw [e] at hx
      simp only [Option.some.injEq] at hv; subst hv
      have hx' := hx
      rw [VRel] at hx; obtain ⟨y', hxx, _⟩ := hx
      exact ⟨a.eval x, by simp [execOp, hxx], hx'⟩
    · rename_i f xs ys e; rw [e] at hx
      simp only [Option.some.injEq] at hv; subst hv
      have hx' := hx
      rw [VRel] at hx; obtain ⟨_, _, hxx, _⟩ := hx
      exact ⟨a.eval x, by simp [execOp, hxx], hx'⟩
    · cases hv
  case binOp op t x y ty =>
    obtain ⟨v', g1, g2⟩ := bin_sound (P := P) hR (hE.opd x) (hE.opd y) hv
    exact ⟨v', by simp only [execOp, Sem.run_bind] at g1 ⊢; rw [g1]; rfl, g2⟩
  case unOp op t x =>
    obtain ⟨v', g1, g2⟩ := un_sound (P := P) (w := w) (hE.opd x) hv
    exact ⟨v', by simp [execOp, g1], g2⟩
  case convert s d x =>
    obtain ⟨v', g1, g2⟩ := conv_sound (P := P) hR (hE.opd x) hv
    exact ⟨v', by simp [execOp, g1], g2⟩
  case makeInterface t x =>
    split at hv
    · cases hv
    · rename_i d hn hu
      simp only [Option.some.injEq] at hv; subst hv
      refine ⟨.iface t (a.eval x), ?_, by rw [VRel]; exact ⟨_, rfl, hE.opd x⟩⟩
      have : (Instr.makeInterface t (a.eval x)).run P w = .ok (.iface t (a.eval x)) w := by
        simp only [Instr.makeInterface, Sem.run_bind, run_underlying hu, Result.andThen_ok]
        cases d <;> first | rfl | exact absurd rfl (hn _)
      simp [execOp, this]
    · cases hv
  case makeFunc fn first cap =>
    simp only [Option.some.injEq] at hv; subst hv
    refine ⟨.func fn (first.map a.eval) (cap.map a.eval), by simp [execOp, Instr.makeFunc], ?_⟩
    rw [VRel]
    exact ⟨first.toList.map a.eval, cap.toList.map a.eval, by rw [← List.map_toArray, ← List.map_toArray], VRelL_iff.2 (args_rel hE _), VRelL_iff.2 (args_rel hE _)⟩
  case slice t x lo hi mx =>
    obtain ⟨v', g1, g2⟩ := slice_sound (P := P) hR (hE.opd x) (opt_rel hE lo) (opt_rel hE hi) (opt_rel hE mx) hv
    exact ⟨v', by simp [execOp, g1], g2⟩
  case fieldAddr t x f =>
    obtain ⟨v', g1, g2⟩ := fieldAddr_sound (P := P) (w := w) (hE.opd x) hv
    exact ⟨v', by simp [execOp, g1], g2⟩
  case field t x f =>
    obtain ⟨v', g1, g2⟩ := field_sound (P := P) (w := w) (hE.opd x) hv
    exact ⟨v', by simp [execOp, g1], g2⟩
  case indexAddr t x i =>
    obtain ⟨v', g1, g2⟩ := indexAddr_sound (P := P) (w := w) (hE.opd x) (hE.opd i) hv
    exact ⟨v', by simp [execOp, g1], g2⟩
  case index t x i =>
    obtain ⟨v', g1, g2⟩ := index_sound (P := P) (w := w) (hE.opd x) (hE.opd i) hv
    exact ⟨v', by simp [execOp, g1], g2⟩
  case lookup t m k ok =>
    obtain ⟨v', g1, g2⟩ := lookup_sound (P := P) hR (hE.opd m) (hE.opd k) hv
    exact ⟨v', by simp [execOp, g1], g2⟩
  case extract t i =>
    have ht := hE.opd t
    split at hv
    · rename_i vs e
      rw [e, VRel] at ht
      obtain ⟨ys, hxx, hys⟩ := ht
      obtain ⟨v', g1, g2⟩ := (VRelL_iff.1 hys).get hv
      exact ⟨v', by simp [execOp, Instr.extract, hxx, g1], g2⟩
    · cases hv
  case entry x =>
    obtain ⟨v', g1, g2⟩ := entry_sound (P := P) hR (hE.opd x) hv
    exact ⟨v', by simp [execOp, g1], g2⟩
  case typeAssert x xt t ok =>
    have hx := hE.opd x
    split at hv
    · cases hv
    · rename_i d t' v' hn hu e
      rw [e, VRel] at hx
      obtain ⟨y, hxx, hy⟩ := hx
      split at hv
      · rename_i ht
        subst ht
        simp only [Option.some.injEq] at hv; subst hv
        have hrun : (Instr.typeAssert (.iface t' y) xt t' ok).run P w = .ok (if ok then .tuple #[y, .bool true] else y) w := by
          simp only [Instr.typeAssert, Sem.run_bind, run_underlying hu, Result.andThen_ok]
          cases d <;> first
            | exact absurd rfl (hn _)
            | simp
        refine ⟨(if ok then .tuple #[y, .bool true] else y), by simp only [execOp, hxx, Sem.run_bind, hrun, Result.andThen_ok, Sem.run_pure], ?_⟩
        cases ok with
        | true => simp only [if_true]; rw [VRel]; exact ⟨[y, .bool true], rfl, VRelL_iff.2 (.cons hy (.cons (by rw [VRel]) .nil))⟩
        | false => simpa using hy
      · cases hv
    · cases hv
  case call c =>
    split at hv
    · rename_i b hb
      obtain ⟨callee, args, ts⟩ := c
      simp only at hb hv
      subst hb
      obtain ⟨v', g1, g2⟩ := builtinRead_sound (P := P) (ty := type) (cs := args.map fun | .const _ => true | _ => false) hR (args_rel hE args.toList) hv
      refine ⟨v', ?_, g2⟩
      have e : (args.toList.map a.eval).toArray = args.map a.eval := by rw [← List.map_toArray]
      rw [e] at g1
      simp only [execOp, resolve, Sem.run_bind, Sem.run_pure, Result.andThen_ok, invoke]
      exact g1
    · cases hv
end
end Go.Am
end
noncomputable section
namespace Go.Am
open Go.RowKit

section
variable {P : Program} {B : Floor} {ι : Inj} {h : Heap} {w : World}

/-- What a new object's value and block are: at every number with a place at the new block. -/
def NewRel (ι : Inj) (w : World) (ob : AObj) (vf : Nat → AV) (v' : Value) (obj : Obj) : Prop :=
  ∃ l : Loc, l.block = w.heap.size ∧ ob.owns = true ∧ ∀ (ι' : Inj) (id : Nat), ι.le ι' → ι' id = some l →
    VRel ι' (vf id) v' ∧ ∀ (h' : Heap) (hp' : Array Obj), hp'[w.heap.size]? = some obj → ORel ι' h' hp' l ob

theorem cells_new {els : List (List AV)} {sz e fz : Nat} {ys : List Value} {fr : Nat × Nat} {w : World} (hsz : 0 < sz) (hl : ∀ x ∈ els, x.length = sz) (spare : List Value)
    (hf : F2 (VRel ι) els.flatten ys) (hfr : FrOk fr (fz - 1) (ys.length + spare.length)) (hfz : fz = 0 → fr = (0, 0)) (hhi : FrHi fr fz (fz - 1)) (ι' : Inj) (hle : ι.le ι') (h' : Heap) (hp' : Array Obj)
    (hb : hp'[w.heap.size]? = some (.cells (ys ++ spare).toArray e fr)) :
    ORel ι' h' hp' ⟨w.heap.size, 0, ys.length + spare.length, els.flatten.length, sz⟩ (.cells els sz e false fz) := by
  have hfl := hf.length
  refine ⟨_, fr, hb, hsz, hl, rfl, rfl, by simp, by rw [hfl]; simp, ?_, fun _ => ⟨by simpa using hfr, hfz, by simpa using hhi⟩, by simp⟩
  have : ((((ys ++ spare).toArray.toList.drop 0).take els.flatten.length)) = ys := by
    rw [hfl]; simp
  simp only [this]
  exact hf.mono fun _ _ => VRel.mono hle

theorem frOk_zero (a t : Nat) : FrOk (0, 0) a t := .inl rfl
theorem frHi_zero (fz a : Nat) : FrHi (0, 0) fz a := fun _ => .inl rfl

theorem okCells_spec {t : TypeId} {x : AV} {cs : List AV} (hc : okCells P t x = some cs) : cs = x.cells ∧ cs.length = szT P t ∧ cs.all AV.cellOk = true := by
  unfold okCells at hc
  split at hc
  · rename_i hh
    simp only [Option.some.injEq] at hc; subst hc
    exact ⟨rfl, hh.1, hh.2⟩
  · cases hc

theorem var_new {e : TypeId} {x : AV} {u : Value} {cs : List AV} (hx : VRel ι x u) (hc : okCells P e x = some cs) (hne : cs.isEmpty = false) :
    NewRel ι w (.cells [cs] cs.length e false 0) (fun id => .ptr (some (id, 0))) (.pointer (some ⟨w.heap.size, 0, none⟩)) (.cells u.cells e) := by
  obtain ⟨rfl, h2, h3⟩ := okCells_spec hc
  have hf := VRel.cells h3 hx
  have hfl := hf.length
  have hpos : 0 < x.cells.length := by
    cases hh : x.cells with
    | nil => rw [hh] at hne; simp at hne
    | cons a l => simp
  refine ⟨⟨w.heap.size, 0, u.cells.toList.length + 0, [x.cells].flatten.length, x.cells.length⟩, rfl, rfl, fun ι' id hle hid => ⟨?_, ?_⟩⟩
  · rw [VRel]; exact ⟨_, hid, rfl⟩
  · intro h' hp' hb
    exact cells_new (spare := []) (ys := u.cells.toList) (fr := (0, 0)) hpos (by simp) (by simpa using hf) (frOk_zero _ _) (fun _ => rfl) (frHi_zero _ _) ι' hle h' hp' (by simpa using hb)

theorem slice_new {e : TypeId} {els : List (List AV)} {sz n c : Nat} {ys : List Value} (hsz : 0 < sz) (hl : ∀ x ∈ els, x.length = sz) (hf : F2 (VRel ι) els.flatten ys) (hn : n ≤ c) :
    NewRel ι w (.cells els sz e false 0) (fun id => .slice (some (id, 0)) n (some c)) (.slice (some ⟨w.heap.size, 0, none⟩) n c) (.cells ys.toArray e) := by
  refine ⟨⟨w.heap.size, 0, ys.length + 0, els.flatten.length, sz⟩, rfl, rfl, fun ι' id hle hid => ⟨?_, ?_⟩⟩
  · rw [VRel]; exact ⟨_, _, hid, hn, rfl, .inl rfl⟩
  · intro h' hp' hb
    exact cells_new (spare := []) (ys := ys) (fr := (0, 0)) hsz hl hf (frOk_zero _ _) (fun _ => rfl) (frHi_zero _ _) ι' hle h' hp' (by simpa using hb)

theorem map_new : NewRel ι w (.map [] 0) (fun id => .map (some id)) (.map (some w.heap.size)) (.map #[] 0) := by
  refine ⟨⟨w.heap.size, 0, 0, 0, 0⟩, rfl, rfl, fun ι' id hle hid => ⟨?_, ?_⟩⟩
  · rw [VRel]; exact ⟨_, hid, rfl⟩
  · intro h' hp' hb
    exact ⟨#[], 0, hb, ⟨⟨[], by simp, .nil⟩, by simp, by simp, .nil, by simp, by simp⟩⟩

theorem drop_take_replicate (n s : Nat) (z : List AV) (hz : z.length = s) : ∀ x ∈ List.replicate n z, x.length = s := by
  intro x hx
  rw [List.eq_of_mem_replicate hx]; exact hz

theorem length_rep (n : Nat) (z : List AV) : (List.replicate n z).flatten.length = n * z.length := by
  induction n with
  | zero => simp
  | succ n ih => rw [List.replicate_succ, List.flatten_cons, List.length_append, ih, Nat.succ_mul]; omega

theorem length_fillA {place : Nat → Option (Nat × Nat)} : ∀ {parts : List (Nat × AV)} {cells cells' : List AV}, fillA place cells parts = some cells' → cells'.length = cells.length
  | [], cells, cells', hf => by simp only [fillA, Option.some.injEq] at hf; subst hf; rfl
  | (i, v) :: rest, cells, cells', hf => by
    simp only [fillA] at hf
    split at hf
    · cases hf
    · split at hf
      · rename_i hc
        rw [length_fillA hf, length_splice hc.2.1]
      · cases hf

/-- Operations that make something. -/
theorem new_sound {nt : Nat} {env : Env} {a : Act} (hE : EnvRel ι nt env a.tmps) {o : Oper} {ob : AObj} {vf : Nat → AV} (hv : newA P env o.op = some (ob, vf)) :
    ∃ v' obj w1, (execOp a.eval o).run P w = .ok (.value v') (w1.alloc obj) ∧ (w1 = w ∨ w1 = w.drew) ∧ NewRel ι w ob vf v' obj := by
  obtain ⟨dst, op, type, pos, after, guard⟩ := o
  simp only at hv
  cases op <;> simp only [newA] at hv <;> try (cases hv; done)
  case alloc e =>
    split at hv
    · rename_i z hz
      split at hv
      · rename_i cs hc
        split at hv
        · cases hv
        · rename_i hne
          simp only [Option.some.injEq, Prod.mk.injEq] at hv
          obtain ⟨rfl, rfl⟩ := hv
          obtain ⟨zv, z1, _, rfl⟩ := run_zeroValue (w := w) hz
          refine ⟨_, _, w, ?_, .inl rfl, var_new (VRel_ofConst ι zv) hc (by simpa using hne)⟩
          simp [execOp, Instr.alloc, z1, newVar, newRow]
      · cases hv
    · cases hv
  case box e x =>
    split at hv
    · rename_i cs hc
      split at hv
      · cases hv
      · rename_i hne
        simp only [Option.some.injEq, Prod.mk.injEq] at hv
        obtain ⟨rfl, rfl⟩ := hv
        refine ⟨_, _, w, ?_, .inl rfl, var_new (hE.opd x) hc (by simpa using hne)⟩
        simp [execOp, Instr.box, newVar, newRow]
    · cases hv
  case buildSlice t n ps =>
    unfold buildSliceA at hv
    split at hv
    · rename_i e he
      unfold sliceElem at he
      split at he
      · rename_i e' hu
        simp only [Option.some.injEq] at he; subst he
        split at hv
        · rename_i z hz
          split at hv
          · cases hv
          · rename_i hcond
            rw [Option.map_eq_some_iff] at hv
            obtain ⟨cs, hf, hv⟩ := hv
            simp only [Prod.mk.injEq] at hv
            obtain ⟨rfl, rfl⟩ := hv
            obtain ⟨zv, z1, _, rfl⟩ := run_zeroValue (w := w) hz
            have hs0 : szT P e' ≠ 0 := fun h0 => hcond (.inl h0)
            have hle : n * szT P e' ≤ 2 ^ 20 := by rcases Nat.lt_or_ge (2 ^ 20) (n * szT P e') with h1 | h1
                                                   · exact absurd (.inr (.inl h1)) hcond
                                                   · exact h1
            have hzl : (ofConst zv).cells.length = szT P e' := Classical.byContradiction fun h1 => hcond (.inr (.inr h1))
            have hzr := zeros_sound (ι := ι) zv (n := n) hzl hs0
            obtain ⟨ys, g1, g2⟩ := fill_sound (parts' := ps.toList.map fun (i, x) => (i, a.eval x)) (parts_rel hE ps.toList) hzr hf
            have hcl : cs.length = n * szT P e' := by rw [length_fillA hf, length_rep, hzl]
            obtain ⟨c1, c2⟩ := chunk_spec (by omega : 0 < szT P e') hcl
            refine ⟨.slice (some ⟨w.heap.size, 0, none⟩) n n, .cells ys e', w, ?_, .inl rfl, ?_⟩
            · have hq : ¬ (n * szT P e' > 2 ^ 24) := by omega
              have hfe : (ps.map fun (x : Nat × Operand) => (x.1, a.eval x.2)).toList = ps.toList.map fun (i, x) => (i, a.eval x) := by simp
              by_cases h0 : n * szT P e' = 0
              · have hn0 : n = 0 := by rcases Nat.mul_eq_zero.1 h0 with h | h
                                       · exact h
                                       · exact absurd h hs0
                subst hn0
                have e0 : (Array.range (0 * szT P e')).map (zv.cells[· % zv.cells.size]!) = #[] := by simp
                rw [e0] at g1
                have g1' : Instr.fill (fun i => some (i * szT P e', szT P e')) #[] (List.map (fun x => (x.1, a.eval x.2)) ps.toList) = some ys := g1
                simp only [execOp, Instr.buildSlice, Sem.run_bind, run_underlying hu, Result.andThen_ok, run_sizeOf_ne hs0]
                rw [if_neg hq, if_pos h0]
                simp [g1', newRow, hfe, Array.range_zero']
              · have hq' : ¬ (16777216 < n * szT P e') := by omega
                have g1' : Instr.fill (fun i => some (i * szT P e', szT P e')) (Array.map (fun x => zv.cells[x % zv.cells.size]!) (Array.range (n * szT P e'))) (List.map (fun x => (x.1, a.eval x.2)) ps.toList) = some ys := g1
                simp only [execOp, Instr.buildSlice, Sem.run_bind, run_underlying hu, Result.andThen_ok, run_sizeOf_ne hs0]
                rw [if_neg hq, if_neg h0]
                simp only [Sem.run_bind, z1, Result.andThen_ok, Sem.run_pure]
                simp [g1', newRow, hfe]
            · have := slice_new (w := w) (e := e') (n := n) (c := n) (ys := ys.toList) (by omega : 0 < szT P e') c2 (by rw [c1]; exact g2) (Nat.le_refl n)
              simpa using this
        · cases hv
      · cases he
    · cases hv
  case convert s d x =>
    unfold bytesA at hv
    split at hv
    · rename_i ds e s' hus he hx
      unfold sliceElem at he
      split at he
      · rename_i e' hud
        simp only [Option.some.injEq] at he; subst he
        split at hv
        · rename_i hue
          split at hv
          · rename_i hlen
            simp only [Option.some.injEq, Prod.mk.injEq] at hv
            obtain ⟨rfl, rfl⟩ := hv
            have hxr := hE.opd x
            rw [hx, VRel] at hxr
            have hsz : (⟨s'.toArray⟩ : ByteArray).size = s'.length := by simp [ByteArray.size]
            obtain ⟨c, hc⟩ : ∃ c, c = (Question.appendCap s'.length 0 e').cut (w.tape w.drawn (Question.appendCap s'.length 0 e')) := ⟨_, rfl⟩
            have hcl : s'.length ≤ c := by rw [hc]; simp [Question.cut]
            obtain ⟨bs, hbs⟩ : ∃ bs, bs = s'.map fun b => Value.int .u8 b.toNat := ⟨_, rfl⟩
            have hbl : bs.length = s'.length := by rw [hbs]; simp
            refine ⟨.slice (some ⟨w.heap.size, 0, none⟩) s'.length c, .cells (bs ++ List.replicate (c - s'.length) (Value.int .u8 0)).toArray e' (c, c + 1), w.drew, ?_, .inr rfl, ?_⟩
            · have hfz : ∀ (W : World) (cs : Array Value), cs.size = c → ((W.alloc (.cells cs e')).freeze ⟨W.heap.size, c, none⟩ 1) = W.alloc (.cells cs e' (c, c + 1)) := by
                intro W cs _
                simp only [World.freeze, World.alloc]
                rw [if_neg (by decide)]
                congr 1
                apply Array.ext
                · simp
                · intro i h1 h2
                  simp only [Array.getElem_modify, Array.getElem_push]
                  split
                  · rename_i hi; subst hi; simp
                  · rename_i hi
                    rw [dif_pos (by simp at h1; omega), dif_pos (by simp at h1; omega)]
              have hshape : ∀ (W : World) (cs : Array Value), (W.alloc (.cells cs e')).shape? W.heap.size = some (e', cs.size) := by
                intro W cs; unfold World.shape?; rw [heap_alloc_new]
              have hmap : (s'.toArray.map fun b => Value.int .u8 b.toNat) ++ Array.replicate (c - s'.length) (Value.int .u8 0) = (bs ++ List.replicate (c - s'.length) (Value.int .u8 0)).toArray := by
                apply Array.ext'; simp [hbs]
              have hsize : (bs ++ List.replicate (c - s'.length) (Value.int .u8 0)).toArray.size = c := by simp [hbl]; omega
              simp only [execOp, convert, Sem.run_bind, run_underlying hus, run_underlying hud, Result.andThen_ok, hxr, run_underlying hue, Conv.stringToBytes, run_choose, hsz, Question.forced, Bool.false_eq_true, if_false,
                ← hc, newRow, run_newObj, Sem.run_pure, markStringish, run_shape, World.drew_eq, World.alloc_eq, hmap, hshape, run_freeze, hsize]
              rw [hfz _ _ hsize]
              rfl
            · refine ⟨⟨w.heap.size, 0, bs.length + (c - s'.length), s'.length, 1⟩, rfl, rfl, fun ι' id hle hid => ⟨?_, ?_⟩⟩
              · rw [VRel]
                exact ⟨_, _, _, hid, rfl, hcl, .inl ⟨rfl, by simp; omega, by simp; omega⟩⟩
              · intro h' hp' hb
                have hflat : ((cellsOfBytes s').map ([·])).flatten = cellsOfBytes s' := by
                  induction cellsOfBytes s' with
                  | nil => rfl
                  | cons a l ih => simp [ih]
                have := cells_new (w := w) (els := (cellsOfBytes s').map ([·])) (sz := 1) (e := e') (fz := 1) (ys := bs) (fr := (c, c + 1)) (ι := ι) (by omega) (by simp) (List.replicate (c - s'.length) (.int .u8 0))
                  (by rw [hflat, hbs]; exact u8cells_sound s') (.inr (.inr (by simp; omega))) (by intro h; cases h) (by intro h; omega) ι' hle h' hp' hb
                have hl : ((cellsOfBytes s').map ([·])).flatten.length = s'.length := by rw [hflat]; simp [cellsOfBytes]
                rw [hl] at this
                simpa using this
          · cases hv
        · cases hv
      · cases he
    · cases hv
  case makeMap t r =>
    cases r with
    | none =>
      simp only [newA, Option.some.injEq, Prod.mk.injEq] at hv
      obtain ⟨rfl, rfl⟩ := hv
      exact ⟨_, _, w, by simp [execOp, Instr.makeMap], .inl rfl, map_new⟩
    | some r =>
      simp only [newA] at hv
      split at hv
      · rename_i kt e i hu hi
        simp only [Option.some.injEq, Prod.mk.injEq] at hv
        obtain ⟨rfl, rfl⟩ := hv
        obtain ⟨k, hk⟩ := intOf_sound (hE.opd r) hi
        exact ⟨_, _, w, by simp [execOp, Instr.makeMap, run_underlying hu, hk, asInt, asIntOf], .inl rfl, map_new⟩
      · cases hv
  case makeSlice t l c =>
    unfold makeSliceA at hv
    split at hv
    · rename_i e k l' k2 c' he hl hc
      unfold sliceElem at he
      split at he
      · rename_i e' hu
        simp only [Option.some.injEq] at he; subst he
        split at hv
        · rename_i z hz
          split at hv
          · rename_i hcond
            obtain ⟨q1, q2, q3, q4, q5, q6⟩ := hcond
            simp only [Option.some.injEq, Prod.mk.injEq] at hv
            obtain ⟨rfl, rfl⟩ := hv
            obtain ⟨zv, z1, _, rfl⟩ := run_zeroValue (w := w) hz
            have hlr := hE.opd l
            have hcr := hE.opd c
            rw [hl, VRel] at hlr
            rw [hc, VRel] at hcr
            obtain ⟨ie, hie, _⟩ := info_of_szT q4
            have hby : ie.bytes = P.bytesOf e' := by simp [Program.bytesOf, hie]
            have hzr := zeros_sound (ι := ι) zv (n := c'.toNat) q5 q4
            have wl : IntKind.i64.wrap l' = l' := by simp [IntKind.wrap, IntKind.bits, IntKind.signed]; omega
            have wc : IntKind.i64.wrap c' = c' := by simp [IntKind.wrap, IntKind.bits, IntKind.signed]; omega
            have hmul : (P.bytesOf e' : Int) * c' ≤ 2 ^ 48 := by
              have h1 : (P.bytesOf e' : Int) * c' ≤ (2 ^ 12 : Int) * c' := Int.mul_le_mul_of_nonneg_right (by omega) (by omega)
              have h2 : (2 ^ 12 : Int) * c' ≤ 2 ^ 12 * 2 ^ 30 := Int.mul_le_mul_of_nonneg_left (by omega) (by omega)
              omega
            refine ⟨.slice (some ⟨w.heap.size, 0, none⟩) l'.toNat c'.toNat, .cells ((Array.range (c'.toNat * szT P e')).map (zv.cells[· % zv.cells.size]!)) e', w, ?_, .inl rfl, ?_⟩
            · have ht : (typeInfo e').run P w = .ok ie w := by simp [typeInfo, hie]
              simp only [execOp, Instr.makeSlice, Sem.run_bind, run_underlying hu, Result.andThen_ok, hlr, hcr, asInt, asIntOf, Sem.run_pure, ht, hby, wl, wc]
              have hng : (decide (c' < 0) || decide ((P.bytesOf e' : Int) * c' > 2 ^ 48) || decide (l' < 0) || decide (l' > c')) = false := by simp; omega
              rw [if_neg (by rw [hng]; simp)]
              simp only [Sem.run_bind, run_askRoom, Result.andThen_ok, run_sizeOf_ne q4]
              by_cases h0 : c'.toNat * szT P e' = 0
              · simp [h0, newRow, Array.range_zero']
              · simp [h0, newRow, z1]
            · have hd := slice_new (w := w) (e := e') (n := l'.toNat) (c := c'.toNat) (els := List.replicate c'.toNat (ofConst zv).cells) (sz := szT P e') (ι := ι)
                (ys := ((Array.range (c'.toNat * szT P e')).map (zv.cells[· % zv.cells.size]!)).toList) (by omega) (drop_take_replicate _ _ _ q5) hzr (by omega)
              rw [Array.toArray_toList] at hd
              exact hd
          · cases hv
        · cases hv
      · cases he
    · cases hv
end
end Go.Am
end
noncomputable section
namespace Go.Am
open Go.RowKit

section
variable {P : Program} {B : Floor} {ι : Inj} {h : Heap} {w : World}

theorem run_storeCells_fr (g o : Nat) (t : TypeId) (fr : Nat × Nat) : ∀ (vs : List Value) (i : Nat) (cur : Array Value) (w : World), w.heap[g]? = some (.cells cur t fr) → o + i + vs.length ≤ cur.size →
    (∀ v ∈ vs, v.oneCell' = true) → FrOk fr (o + i) cur.size →
    (storeCells ⟨g, o, none⟩ vs i).run P w = .ok () (w.setRow g (cur.toList.take (o + i) ++ vs ++ cur.toList.drop (o + i + vs.length)).toArray)
  | [], i, cur, w, hg, _, _, _ => by
    simp only [storeCells, List.append_nil, List.length_nil, Nat.add_zero, List.take_append_drop, Array.toArray_toList]
    rw [setRow_self w g cur t fr hg]
    rfl
  | v :: rest, i, cur, w, hg, hl, h1, hfr => by
    have hi : o + i < cur.size := by simp at hl; omega
    have hadd : (⟨g, o, none⟩ : Addr).add i = ⟨g, o + i, none⟩ := Addr.add_lit g o i
    have hcell : w.cell? ⟨g, o + i, none⟩ = some cur[o + i] := by simp [World.cell?, hg, hi]
    have hfro : w.frozen? ⟨g, o + i, none⟩ = false := by
      have := hfr.not (Nat.le_refl _) hi
      simp only [World.frozen?, hg]
      obtain ⟨lo, hi'⟩ := fr
      simp at this ⊢
      omega
    have hst : (store ((⟨g, o, none⟩ : Addr).add i) v).run P w = .ok () (w.setRow g (cur.setIfInBounds (o + i) v)) := by
      rw [hadd, run_store P w _ v _ (h1 v (by simp)), hcell]
      simp [hfro, setCell_eq_setRow w g (o + i) cur t fr v hg]
    have ih := run_storeCells_fr g o t fr rest (i + 1) (cur.setIfInBounds (o + i) v) (w.setRow g (cur.setIfInBounds (o + i) v)) (setRow_heap w g cur _ t _ hg) (by simp at hl ⊢; omega) (fun x hx => h1 x (by simp [hx]))
      (hfr.up (by omega) (by simp))
    simp only [storeCells, Sem.run_bind, hst, Result.andThen_ok, ih, setRow_setRow]
    congr 3
    have e := list_seg_step cur.toList (o + i) v rest (by simp at hl ⊢; omega)
    simpa [Array.toList_setIfInBounds, Nat.add_assoc] using e

theorem seg_splice {α : Type} (l ys : List α) (b e o : Nat) (h1 : o + ys.length ≤ e) (h2 : b + e ≤ l.length) :
    ((l.take (b + o) ++ ys ++ l.drop (b + o + ys.length)).drop b).take e = ((l.drop b).take e).take o ++ ys ++ ((l.drop b).take e).drop (o + ys.length) := by
  obtain ⟨A, S, T, rfl, hA, hS⟩ : ∃ A S T, l = A ++ (S ++ T) ∧ A.length = b ∧ S.length = e :=
    ⟨l.take b, (l.drop b).take e, (l.drop b).drop e, by rw [List.take_append_drop, List.take_append_drop], by simp; omega, by simp; omega⟩
  subst hA
  have e1 : (A ++ (S ++ T)).take (A.length + o) = A ++ S.take o := by
    rw [List.take_append, List.take_of_length_le (by omega), show A.length + o - A.length = o by omega, List.take_append, show o - S.length = 0 by omega]; simp
  have e2 : (A ++ (S ++ T)).drop (A.length + o + ys.length) = S.drop (o + ys.length) ++ T := by
    rw [List.drop_append, List.drop_eq_nil_of_le (by omega), show A.length + o + ys.length - A.length = o + ys.length by omega, List.drop_append, show o + ys.length - S.length = 0 by omega]; simp
  have e3 : ((A ++ (S ++ T)).drop A.length).take e = S := by
    rw [List.drop_left, ← hS, List.take_left]
  rw [e1, e2, e3]
  simp only [List.append_assoc]
  rw [List.drop_left]
  have e4 : (S.take o ++ (ys ++ (S.drop (o + ys.length) ++ T))) = (S.take o ++ (ys ++ S.drop (o + ys.length))) ++ T := by simp
  have e5 : (S.take o ++ (ys ++ S.drop (o + ys.length))).length = e := by simp; omega
  rw [e4, ← e5, List.take_left]

/-- Cells that are written. -/
theorem R.storeCells (hR : R B ι h w.heap) {id off : Nat} {cs : List AV} {h' : Heap} (hs : storeCellsA h id off cs = some h') {ys : List Value} (hf : F2 (VRel ι) cs ys) (h1 : ∀ v ∈ ys, v.oneCell' = true) :
    ∃ l w', ι id = some l ∧ (Go.storeCells ⟨l.block, l.base + off, none⟩ ys).run P w = .ok () w' ∧ R B ι h' w'.heap ∧ Step ι h w ι h' w' := by
  unfold storeCellsA at hs
  split at hs
  · rename_i els sz e fz hg
    split at hs
    · rename_i hfz
      rw [Option.map_eq_some_iff] at hs
      obtain ⟨els', hse, rfl⟩ := hs
      obtain ⟨l, hl, hlt, cs', fr, k1, k2, k3, k4, k5, k6, k7, k8, k9⟩ := hR.obj id _ hg rfl
      obtain ⟨g1, g2, g3⟩ := setC_spec k2 k3 hse
      have hyl := hf.length
      have hsize : l.base + l.ext ≤ cs'.size := by omega
      have hrun := run_storeCells_fr (P := P) l.block (l.base + off) e fr ys 0 cs' w k1 (by omega) h1 ((k9.1 rfl).1.up (by omega) (by omega))
      obtain ⟨new, hnew⟩ : ∃ new, new = (cs'.toList.take (l.base + off + 0) ++ ys ++ cs'.toList.drop (l.base + off + 0 + ys.length)).toArray := ⟨_, rfl⟩
      rw [← hnew] at hrun
      have hnl : new.size = cs'.size := by rw [hnew]; simp; omega
      refine ⟨l, w.setRow l.block new, hl, hrun, ?_, ?_⟩
      · refine hR.put hg rfl hl (by simp) (fun b hb => setRow_other w l.block b new hb) ?_ rfl (by intro es ver hh; cases hh)
        have hflen : els'.flatten.length = els.flatten.length := by rw [g2, length_splice g1]
        refine ⟨new, fr, setRow_heap w l.block cs' new e fr k1, k2, g3, k4, by rw [hflen]; exact k5, by omega, k7, ?_, k9⟩
        have hrel := splice_rel k8 hf off
        rw [← g2] at hrel
        have hseg := seg_splice cs'.toList ys l.base l.ext off (by omega) (by simp; omega)
        rw [← hseg] at hrel
        rw [hnew]
        simpa using hrel
      · exact Step.put hR hg rfl rfl hl (by simp) (fun b hb => setRow_other w l.block b new hb) rfl rfl rfl
    · cases hs
  · cases hs

theorem cells_one {cs : List AV} {ys : List Value} (hf : F2 (VRel ι) cs ys) (hok : cs.all AV.cellOk = true) : ∀ v ∈ ys, v.oneCell' = true := by
  intro v hv
  obtain ⟨x, hx, hr⟩ := hf.mem' hv
  exact VRel.oneCell (List.all_eq_true.1 hok x hx) hr

theorem store_sound (hR : R B ι h w.heap) {t : TypeId} {x y : AV} {u z : Value} {h' : Heap} (hx : VRel ι x u) (hy : VRel ι y z) (hs : storeA P t x y h = some h') :
    ∃ w', (Instr.storeAt t u z).run P w = .ok () w' ∧ R B ι h' w'.heap ∧ Step ι h w ι h' w' := by
  unfold storeA at hs
  split at hs
  · rename_i id off cs hc
    split at hs
    · cases hs
    rename_i h0
    obtain ⟨rfl, h2, h3⟩ := okCells_spec hc
    have hf := VRel.cells h3 hy
    obtain ⟨l, w', g1, g2, g3, g4⟩ := hR.storeCells (P := P) hs hf (cells_one hf h3)
    rw [VRel] at hx
    obtain ⟨l', e1, rfl⟩ := hx
    rw [g1] at e1; cases e1
    refine ⟨w', ?_, g3, g4⟩
    have hl := hf.length
    simp at hl
    simp [Instr.storeAt, Instr.sureAddr, storeVar, run_sizeOf_ne h0, ← hl, h2, g2]
  · cases hs
end
end Go.Am
end
noncomputable section
namespace Go.Am
open Go.RowKit

section
variable {P : Program} {B : Floor} {ι : Inj} {h : Heap} {w : World}

theorem R.drew (hR : R B ι h w.heap) : R B ι h w.drew.heap := hR

/-- A row that is made anew, behind a draw: what stood, what is appended, and spare room. -/
theorem fresh_row (hR : R B ι h w.heap) {e : TypeId} {sz need c : Nat} {cs : List AV} {ys : List Value} {zs : List Value} (hsz : 0 < sz) (hf : F2 (VRel ι) cs ys) (hl : cs.length = need * sz) (hc : need ≤ c)
    (hz : zs.length = (c - need) * sz) {fz : Nat} :
    ∃ ι', R B ι' (h.new (.cells (chunk sz cs) sz e false fz)) (w.drew.alloc (.cells (ys ++ zs).toArray e)).heap ∧
      Step ι h w ι' (h.new (.cells (chunk sz cs) sz e false fz)) (w.drew.alloc (.cells (ys ++ zs).toArray e)) ∧
      VRel ι' (.slice (some (h.next, 0)) need none) (.slice (some ⟨w.heap.size, 0, none⟩) need c) := by
  obtain ⟨c1, c2⟩ := chunk_spec hsz hl
  have hyl := hf.length
  obtain ⟨l, hl0⟩ : ∃ l : Loc, l = ⟨w.heap.size, 0, ys.length + zs.length, cs.length, sz⟩ := ⟨_, rfl⟩
  have hn : ι h.next = none := (hR.fresh _ (Nat.le_refl _)).2
  have ho : ORel (ι.add h.next l) (h.new (.cells (chunk sz cs) sz e false fz)) (w.drew.heap.push (.cells (ys ++ zs).toArray e)) l (.cells (chunk sz cs) sz e false fz) := by
    have := cells_new (ι := ι) (w := w) (els := chunk sz cs) (sz := sz) (e := e) (fz := fz) (ys := ys) (fr := (0, 0)) hsz c2 zs (by rw [c1]; exact hf) (frOk_zero _ _) (fun _ => rfl) (frHi_zero _ _) (ι.add h.next l) (Inj.le_add hn)
      (h.new (.cells (chunk sz cs) sz e false fz)) (w.drew.heap.push (.cells (ys ++ zs).toArray e)) (by show (w.heap.push _)[w.heap.size]? = _; simp)
    rw [c1, ← hl0] at this
    exact this
  obtain ⟨g1, g2, g3⟩ := R.new (w := w.drew) hR.drew (.cells (ys ++ zs).toArray e) (l := l) (by rw [hl0]; rfl) rfl ho
  refine ⟨ι.add h.next l, g1, (Step.drew ι h w).trans g2, ?_⟩
  rw [VRel]
  refine ⟨l, _, c, Inj.add_same _ _ _, rfl, hc, .inl ⟨by rw [hl0], ?_, ?_⟩⟩
  · rw [hl0]; simp; rw [hl]; exact Nat.mul_le_mul_right _ hc
  · rw [hl0]; simp
    rw [← hyl, hl, hz, ← Nat.add_mul]
    exact Nat.mul_le_mul_right _ (by omega)

theorem run_append_fresh {ts : Array TypeId} {t t2 ty e : TypeId} {d2 : TypeDesc} {base : Option Addr} {len cap n : Nat} {z : Value} {ys os : List Value} {zv : Value} (ht : ts[0]? = some t) (ht2 : ts[1]? = some t2)
    (hu : P.underlying t = some (.slice e)) (hu2 : P.underlying t2 = some d2) (hd2 : d2 = .string ∨ ∃ e2, d2 = .slice e2) (hs0 : szT P e ≠ 0) (hln : (Builtin.lenOf z).run P w = .ok n w)
    (hnew : ∀ W : World, W.heap = w.heap → (Builtin.firstCells (szT P e) n z).run P W = .ok ys.toArray W) (hold : ∀ W : World, W.heap = w.heap → (Builtin.firstCells (szT P e) len (.slice base len cap)).run P W = .ok os.toArray W)
    (hz : ∀ W : World, (zeroValue e).run P W = .ok zv W) (hb1 : (len + n) * P.bytesOf e ≤ 2 ^ 47) (hb2 : len + n ≤ 2 ^ 62) (hgt : ¬ len + n ≤ cap) :
    ∃ c, len + n ≤ c ∧ (Builtin.append_ ts ty #[.slice base len cap, z]).run P w =
      .ok (.slice (some ⟨w.heap.size, 0, none⟩) (len + n) c) (w.drew.alloc (.cells (os ++ ys ++ (Builtin.zeroCells zv.cells (c - (len + n))).toList).toArray e)) := by
  obtain ⟨ie, hie, _⟩ := info_of_szT hs0
  have hby : ie.bytes = P.bytesOf e := by simp [Program.bytesOf, hie]
  obtain ⟨c, hc⟩ : ∃ c, c = (Question.appendCap (len + n) cap e).cut (w.tape w.drawn (Question.appendCap (len + n) cap e)) := ⟨_, rfl⟩
  have hfits := growslice_fits (need := len + n) (old := cap) (bytes := ie.bytes) (by omega) (by rw [hby]; omega)
  refine ⟨c, by rw [hc]; simp [Question.cut], ?_⟩
  have ht' : ∀ W : World, (typeInfo e).run P W = .ok ie W := fun W => by simp [typeInfo, hie]
  have hsz : ∀ W : World, (sizeOf e).run P W = .ok (szT P e) W := fun W => run_sizeOf_ne hs0
  have hi1 : ¬ (((len + n : Nat) : Int) > 9223372036854775807) := by omega
  have hi2 : ¬ (Builtin.nextslicecap (len + n) cap * ie.bytes > 2 ^ 48) := by omega
  have key : ∀ d2, (d2 = TypeDesc.string ∨ ∃ e2, d2 = .slice e2) → P.underlying t2 = some d2 → (Builtin.append_ ts ty #[.slice base len cap, z]).run P w =
      .ok (.slice (some ⟨w.heap.size, 0, none⟩) (len + n) c) (w.drew.alloc (.cells (os ++ ys ++ (Builtin.zeroCells zv.cells (c - (len + n))).toList).toArray e)) := by
    intro d2 hd2 hu2
    have hfin : (os.toArray ++ ys.toArray ++ Builtin.zeroCells zv.cells (c - (len + n))) = (os ++ ys ++ (Builtin.zeroCells zv.cells (c - (len + n))).toList).toArray := by
      apply Array.ext'; simp
    rcases hd2 with rfl | ⟨e2, rfl⟩ <;>
    · simp only [Builtin.append_, ht, ht2, List.getElem?_toArray, List.getElem?_cons_zero, List.getElem?_cons_succ, Sem.run_bind, run_underlying hu, run_underlying hu2, Result.andThen_ok, hsz, Sem.run_pure,
        Bool.false_eq_true, if_false, hln, hgt, ht', IntKind.max_i64, hi1, false_and, hi2, run_choose, Question.forced, ← hc, World.drew_eq, run_askRoom, Bool.not_false, if_true]
      rw [hold w.drew rfl]
      simp only [Result.andThen_ok]
      rw [hnew w.drew rfl]
      simp only [Result.andThen_ok, hz, newRow, Sem.run_bind, run_newObj, Sem.run_pure, World.alloc_eq, hfin]
      rfl
  exact key d2 hd2 hu2
end
end Go.Am
end
noncomputable section
namespace Go.Am
open Go.RowKit

section
variable {P : Program} {B : Floor} {ι : Inj} {h : Heap} {w : World}

theorem Step.kill {id : Nat} (hfree : h.get id ≠ none) : Step ι h w ι (h.put id .dead) w where
  same _ _ := rfl
  next := Nat.le_refl _
  size := Nat.le_refl _
  frame _ _ _ := rfl
  own b _ ho := by
    rcases Own.put ho with ⟨l, e, _⟩ | ho
    · cases e
    · exact ho
  free j _ hn := by
    rw [Heap.get_put]
    split
    · rename_i e; subst e; exact absurd hn hfree
    · exact hn
  ro j oj hgj hd hoj := by
    rw [Heap.get_put] at hgj
    by_cases e : j = id
    · subst e; simp only [if_true, Option.some.injEq] at hgj; subst hgj; cases hd
    · rw [if_neg e] at hgj; exact hgj
  os := rfl
  tape := rfl
  output := rfl

theorem run_append_in {ts : Array TypeId} {t t2 ty e : TypeId} {d2 : TypeDesc} {base : Option Addr} {len cap n : Nat} {z : Value} {ys : List Value} (ht : ts[0]? = some t) (ht2 : ts[1]? = some t2)
    (hu : P.underlying t = some (.slice e)) (hu2 : P.underlying t2 = some d2) (hd2 : d2 = .string ∨ ∃ e2, d2 = .slice e2) (hs0 : szT P e ≠ 0) (hln : (Builtin.lenOf z).run P w = .ok n w)
    (hnew : (Builtin.firstCells (szT P e) n z).run P w = .ok ys.toArray w) (hle : len + n ≤ cap) {w' : World}
    (hst : match base with | some a => (Go.storeCells (a.add (len * szT P e)) ys).run P w = .ok () w' | none => w' = w) :
    (Builtin.append_ ts ty #[.slice base len cap, z]).run P w = .ok (.slice base (len + n) cap) w' := by
  have key : ∀ d2, (d2 = TypeDesc.string ∨ ∃ e2, d2 = .slice e2) → P.underlying t2 = some d2 → (Builtin.append_ ts ty #[.slice base len cap, z]).run P w = .ok (.slice base (len + n) cap) w' := by
    intro d2 hd2 hu2
    cases base with
    | none =>
      subst hst
      rcases hd2 with rfl | ⟨e2, rfl⟩ <;>
      simp only [Builtin.append_, ht, ht2, List.getElem?_toArray, List.getElem?_cons_zero, List.getElem?_cons_succ, Sem.run_bind, run_underlying hu, run_underlying hu2, Result.andThen_ok, run_sizeOf_ne hs0, Sem.run_pure,
        Bool.false_eq_true, if_false, hln, hle, if_true, Bool.not_false, hnew]
    | some a =>
      rcases hd2 with rfl | ⟨e2, rfl⟩ <;>
      simp only [Builtin.append_, ht, ht2, List.getElem?_toArray, List.getElem?_cons_zero, List.getElem?_cons_succ, Sem.run_bind, run_underlying hu, run_underlying hu2, Result.andThen_ok, run_sizeOf_ne hs0, Sem.run_pure,
        Bool.false_eq_true, if_false, hln, hle, if_true, Bool.not_false, hnew, hst]
  exact key d2 hd2 hu2

theorem length_zeros (z : Value) (n : Nat) (s : Nat) (hz : (ofConst z).cells.length = s) : (Builtin.zeroCells z.cells n).toList.length = n * s := by
  have := (const_cells (ι := fun _ => none) z).length
  simp only [Builtin.zeroCells, Array.toList_map, List.length_map, Array.toList_range, List.length_range]
  simp at this
  rw [← this, hz]

theorem seg_tail {α : Type} (l ys : List α) (b k : Nat) (o : Nat) (h1 : b + o + ys.length ≤ l.length) (hk : k = o + ys.length) :
    ((l.take (b + o) ++ ys ++ l.drop (b + o + ys.length)).drop b).take k = (l.drop b).take o ++ ys := by
  subst hk
  rw [List.append_assoc, List.drop_append, List.length_take, show b - min (b + o) l.length = 0 by omega, List.drop_zero, List.drop_take, show b + o - b = o by omega, ← List.append_assoc]
  have hlen : ((l.drop b).take o ++ ys).length = o + ys.length := by simp; omega
  rw [List.take_append_of_le_length (by omega), List.take_of_length_le (by omega)]

/-- A row of ours is given up, and what follows its cells is written. -/
theorem grow_in (hR : R B ι h w.heap) {id off n len sz el fz : Nat} {els : List (List AV)} {l : Loc} {old new : List AV} {ys : List Value} {c : Nat}
    (hg : h.get id = some (.cells els sz el false fz)) (hl : ι id = some l) (hold : loadCellsA h id off (len * sz) = some old)
    (hf : F2 (VRel ι) new ys) (h1 : ∀ v ∈ ys, v.oneCell' = true) (hnl : new.length = n * sz) (hfz : fz - 1 ≤ off + len * sz) (hoff : off % sz = 0) (hc : len + n ≤ c) (htot : l.base + off + c * sz ≤ l.tot) :
    ∃ ι' w', (Go.storeCells ⟨l.block, l.base + off + len * sz, none⟩ ys).run P w = .ok () w' ∧
      R B ι' ((h.put id .dead).new (.cells (chunk sz (old ++ new)) sz el false (if fz = 0 then 0 else fz - 1 - off + 1))) w'.heap ∧
      Step ι h w ι' ((h.put id .dead).new (.cells (chunk sz (old ++ new)) sz el false (if fz = 0 then 0 else fz - 1 - off + 1))) w' ∧
      VRel ι' (.slice (some (h.next, 0)) (len + n) none) (.slice (some ⟨l.block, l.base + off, none⟩) (len + n) c) := by
  obtain ⟨l', e1, hlt, cs', fr, k1, k2, k3, k4, k5, k6, k7, k8, k9⟩ := hR.obj id _ hg rfl
  rw [hl] at e1; cases e1
  simp only [loadCellsA, hg] at hold
  obtain ⟨g1, g2⟩ := getC_spec k2 k3 hold
  have hyl := hf.length
  have hmul : (len + n) * sz ≤ c * sz := Nat.mul_le_mul_right _ hc
  have hmul' : (len + n) * sz = len * sz + n * sz := Nat.add_mul ..
  obtain ⟨f9, f0, f2⟩ := k9.1 rfl
  have hrun := run_storeCells_fr (P := P) l.block (l.base + off + len * sz) el fr ys 0 cs' w k1 (by omega) h1 (f9.up (by omega) (by omega))
  obtain ⟨nw, hnw⟩ : ∃ nw, nw = (cs'.toList.take (l.base + off + len * sz + 0) ++ ys ++ cs'.toList.drop (l.base + off + len * sz + 0 + ys.length)).toArray := ⟨_, rfl⟩
  rw [← hnw] at hrun
  have hnl' : nw.size = cs'.size := by rw [hnw]; simp; omega
  have hidn : id < h.next := by
    rcases Nat.lt_or_ge id h.next with h1 | h1
    · exact h1
    · rw [(hR.fresh id h1).1] at hg; cases hg
  have hR1 : R B ι (h.put id .dead) w.heap := hR.kill (by rw [hg]; intro _ _ e; cases e) hidn
  have hR2 : R B ι (h.put id .dead) (w.setRow l.block nw).heap := hR1.frameHeap (by simp) (fun b hb => setRow_other w l.block _ nw (fun e => by have := hR.base l.block ⟨id, _, l, hg, rfl, hl, rfl⟩; omega)) fun j o lj hgj hd hlj => by
    rw [Heap.get_put] at hgj
    by_cases hj : j = id
    · subst hj; simp only [if_true, Option.some.injEq] at hgj; subst hgj; cases hd
    · rw [if_neg hj] at hgj
      exact setRow_other w l.block _ nw (fun e => hR.sep id j _ o l lj (fun e => hj e.symm) hg hgj rfl hd hl hlj e.symm)
  obtain ⟨l2, hl2⟩ : ∃ l2 : Loc, l2 = ⟨l.block, l.base + off, l.tot, (len + n) * sz, sz⟩ := ⟨_, rfl⟩
  have hn : ι h.next = none := (hR.fresh _ (Nat.le_refl _)).2
  have hR3 := (hR2.bump (h.next + 1) (Nat.le_succ _)).place (id := h.next) (l := l2) (by show h.next < h.next + 1; omega) hn
  obtain ⟨ob, hob⟩ : ∃ ob, ob = AObj.cells (chunk sz (old ++ new)) sz el false (if fz = 0 then 0 else fz - 1 - off + 1) := ⟨_, rfl⟩
  rw [← hob]
  have hput : (h.put id .dead).new ob = ({ (h.put id .dead) with next := h.next + 1 } : Heap).put h.next ob := rfl
  have hold' : old.length = len * sz := by rw [g2, List.length_take, List.length_drop]; omega
  obtain ⟨c1, c2⟩ := chunk_spec k2 (l := old ++ new) (k := len + n) (by rw [List.length_append, hold', hnl, hmul'])
  have hOR : ∀ hh, ORel (ι.add h.next l2) hh (w.setRow l.block nw).heap l2 ob := by
    intro hh
    rw [hob]
    have hb2 : l2.block = l.block := by rw [hl2]
    have e2 : l2.ext = (chunk sz (old ++ new)).flatten.length := by rw [hl2, c1, List.length_append, hold', hnl]; exact hmul'
    refine ⟨nw, fr, by rw [hb2]; exact setRow_heap w l.block cs' nw el fr k1, k2, c2, by rw [hl2], e2, by rw [hl2, hnl']; exact k6, by rw [hl2]; show l.base + off + (len + n) * sz ≤ l.tot; omega, ?_, fun _ => ⟨?_, ?_, ?_⟩, by rw [hl2]; show (l.base + off) % sz = 0; rw [Nat.add_mod, k9.2, hoff]; simp⟩
    · rw [c1]
      have hseg := seg_tail cs'.toList ys (l.base + off) ((len + n) * sz) (len * sz) (by simp; omega) (by omega)
      have hfo : F2 (VRel ι) old ((cs'.toList.drop (l.base + off)).take (len * sz)) := by
        have := (k8.drop off).take (len * sz)
        rw [← g2] at this
        have e3 : ((((cs'.toList.drop l.base).take l.ext).drop off).take (len * sz)) = (cs'.toList.drop (l.base + off)).take (len * sz) := by
          rw [List.drop_take, List.take_take, List.drop_drop]
          congr 1
          omega
        rw [e3] at this
        exact this
      have hall := (hfo.append hf).mono fun _ _ => VRel.mono (Inj.le_add (l := l2) hn)
      rw [← hseg] at hall
      have hb3 : l2.base = l.base + off := by rw [hl2]
      have he3 : l2.ext = (len + n) * sz := by rw [hl2]
      rw [hb3, he3, hnw]
      simpa using hall
    · have : l2.tot = l.tot := by rw [hl2]
      have hb : l2.base = l.base + off := by rw [hl2]
      refine f9.up ?_ (by omega)
      split
      · rename_i h0; subst h0; omega
      · omega
    · intro h0
      split at h0
      · rename_i hz0; exact f0 hz0
      · omega
    · intro h2
      have hb : l2.base = l.base + off := by rw [hl2]
      split at h2
      · omega
      · rename_i h0
        rw [if_neg h0]
        rcases f2 (by omega) with e | e
        · exact .inl e
        · exact .inr (by omega)
  refine ⟨ι.add h.next l2, w.setRow l.block nw, hrun, ?_, ?_, ?_⟩
  · rw [hput]
    refine hR3.commit (Inj.add_same _ _ _) (.inl ?_) ?_ ?_ (by show h.next < h.next + 1; omega) (hOR _) ?_
    · show (h.put id .dead).get h.next = none
      rw [Heap.get_put_ne (by omega)]
      exact (hR.fresh _ (Nat.le_refl _)).1
    · rw [hl2]; exact hR.base _ ⟨id, _, l, hg, rfl, hl, rfl⟩
    · rw [hl2]; simpa using hlt
    · intro j oj lj hj hgj hd hlj
      rw [Inj.add_ne hj] at hlj
      have hgj' : (h.put id .dead).get j = some oj := hgj
      rw [Heap.get_put] at hgj'
      by_cases hji : j = id
      · subst hji; simp only [if_true, Option.some.injEq] at hgj'; subst hgj'; cases hd
      · rw [if_neg hji] at hgj'
        rw [hl2]
        exact fun e => hR.sep id j _ oj l lj (fun e => hji e.symm) hg hgj' rfl hd hl hlj e.symm
  · refine ⟨fun i hi => Inj.add_ne (by omega), by show h.next ≤ h.next + 1; omega, by simp, ?_, ?_, ?_, ?_, rfl, rfl, rfl⟩
    · intro b hb hno
      exact setRow_other w l.block _ nw (fun e => hno ⟨id, _, l, hg, rfl, hl, e.symm⟩)
    · intro b hb hown
      rw [hput] at hown
      rcases Own.put hown with ⟨l', _, e1, e2⟩ | hown
      · rw [Inj.add_same] at e1; cases e1
        rw [hl2] at e2
        exact ⟨id, _, l, hg, rfl, hl, e2⟩
      · have h4 := Own.place (h := { (h.put id .dead) with next := h.next + 1 }) (hR2.bump (h.next + 1) (Nat.le_succ _)) hn hown
        have h5 : Own ι (h.put id .dead) b := h4
        rcases Own.put h5 with ⟨l', e, _⟩ | ho
        · cases e
        · exact ho
    · intro j hj hn0
      have hji : j ≠ id := by rintro rfl; rw [hg] at hn0; cases hn0
      rw [hput, Heap.get_put_ne (by omega)]
      show (h.put id .dead).get j = none
      rw [Heap.get_put_ne hji]; exact hn0
    · intro j oj hgj hd hoj
      rw [hput, Heap.get_put] at hgj
      by_cases e : j = h.next
      · subst e; simp only [if_true, Option.some.injEq] at hgj; subst hgj; rw [hob] at hoj; cases hoj
      · rw [if_neg e] at hgj
        have hgj' : (h.put id .dead).get j = some oj := hgj
        rw [Heap.get_put] at hgj'
        by_cases e2 : j = id
        · subst e2; simp only [if_true, Option.some.injEq] at hgj'; subst hgj'; cases hd
        · rw [if_neg e2] at hgj'; exact hgj'
  · rw [VRel]
    refine ⟨l2, _, c, Inj.add_same _ _ _, rfl, hc, .inl ⟨by rw [hl2]; rfl, ?_, ?_⟩⟩
    · rw [hl2]; simpa using hmul
    · rw [hl2]; simpa using htot

theorem append_sound (hR : R B ι h w.heap) {ts : Array TypeId} {t t2 ty : TypeId} {d2 : TypeDesc} {s x v : AV} {u z : Value} {h' : Heap} (ht : ts[0]? = some t) (ht2 : ts[1]? = some t2)
    (hu2 : P.underlying t2 = some d2) (hd2 : d2 = .string ∨ ∃ e2, d2 = .slice e2) (hs : VRel ι s u) (hx : VRel ι x z) (hv : appendA P h t s x = some (v, h')) :
    ∃ ι' v' w', (Builtin.append_ ts ty #[u, z]).run P w = .ok v' w' ∧ VRel ι' v v' ∧ R B ι' h' w'.heap ∧ Step ι h w ι' h' w' := by
  unfold appendA at hv
  split at hv
  rotate_left
  · cases hv
  rename_i e a len cap n he hlen
  have hu : P.underlying t = some (.slice e) := by
    unfold sliceElem at he
    split at he
    · rename_i e' hu; simp only [Option.some.injEq] at he; subst he; exact hu
    · cases he
  split at hv
  rotate_left
  · cases hv
  rename_i new zz hfirst hz
  split at hv
  · cases hv
  rename_i hcond
  have hs0 : szT P e ≠ 0 := fun h0 => hcond (.inl h0)
  have hb1 : (len + n) * P.bytesOf e ≤ 2 ^ 47 := by rcases Nat.lt_or_ge (2 ^ 47) ((len + n) * P.bytesOf e) with h1 | h1
                                                    · exact absurd (.inr (.inl h1)) hcond
                                                    · exact h1
  have hb2 : len + n ≤ 2 ^ 62 := by rcases Nat.lt_or_ge (2 ^ 62) (len + n) with h1 | h1
                                    · exact absurd (.inr (.inr (.inl h1))) hcond
                                    · exact h1
  have hzl : zz.cells.length = szT P e := Classical.byContradiction fun h1 => hcond (.inr (.inr (.inr (.inl h1))))
  have hok : new.all AV.cellOk = true := by
    cases hb : new.all AV.cellOk with
    | true => rfl
    | false => exact absurd (.inr (.inr (.inr (.inr (.inl hb))))) hcond
  have hnl : new.length = n * szT P e := Classical.byContradiction fun h1 => hcond (.inr (.inr (.inr (.inr (.inr h1)))))
  have hpos : 0 < szT P e := Nat.pos_of_ne_zero hs0
  have hln := len_sound (P := P) (w := w) hx hlen
  obtain ⟨ys, hnew, hfy, _⟩ := first_sound (P := P) hR hx (fun a k c hh => by rw [hh] at hlen; simp [lenA] at hlen; omega) hfirst
  have h1y := cells_one hfy hok
  have hyl := hfy.length
  obtain ⟨zv, _, q0, hzq⟩ := run_zeroValue (w := w) hz
  have hzr : ∀ W : World, (zeroValue e).run P W = .ok zv W := fun W => by
    obtain ⟨zv', q1, q2, q3⟩ := run_zeroValue (P := P) (w := W) hz
    rw [q0] at q2
    simp only [Option.some.injEq] at q2
    subst q2
    exact q1
  subst hzq
  have hzc : ∀ k : Nat, (Builtin.zeroCells zv.cells k).toList.length = k * szT P e := fun k => length_zeros zv k _ hzl
  split at hv
  · -- nothing is appended
    rename_i hn0
    subst hn0
    simp only [Option.some.injEq, Prod.mk.injEq] at hv
    obtain ⟨rfl, rfl⟩ := hv
    have hy0 : ys = [] := List.eq_nil_of_length_eq_zero (by simp at hnl; omega)
    subst hy0
    obtain ⟨base, cap', rfl, hle⟩ : ∃ base cap', u = .slice base len cap' ∧ len ≤ cap' := by
      rcases a with _ | ⟨id, off⟩
      · rw [VRel] at hs; obtain ⟨rfl, rfl, rfl⟩ := hs; exact ⟨_, _, rfl, Nat.le_refl _⟩
      · cases cap with
        | some c => rw [VRel] at hs; obtain ⟨_, _, _, q, rfl, _⟩ := hs; exact ⟨_, _, rfl, q⟩
        | none => rw [VRel] at hs; obtain ⟨_, _, _, _, rfl, q, _⟩ := hs; exact ⟨_, _, rfl, q⟩
    refine ⟨ι, .slice base (len + 0) cap', w, run_append_in ht ht2 hu hu2 hd2 hs0 hln (hnew w rfl) hle ?_, hs, hR, Step.refl ι h w⟩
    cases base with
    | none => rfl
    | some a => rfl
  rename_i hn0
  split at hv
  · -- nil
    simp only [Option.some.injEq, Prod.mk.injEq] at hv
    obtain ⟨rfl, rfl⟩ := hv
    rw [VRel] at hs; obtain ⟨rfl, rfl, rfl⟩ := hs
    obtain ⟨c, hc, hrun⟩ := run_append_fresh (w := w) (ty := ty) (base := none) (os := []) ht ht2 hu hu2 hd2 hs0 hln hnew (fun W _ => by simp [Builtin.firstCells]) hzr hb1 hb2 (by omega : ¬ 0 + n ≤ 0)
    obtain ⟨ι', q1, q2, q3⟩ := fresh_row hR (e := e) (sz := szT P e) (need := 0 + n) (c := c) (cs := new) (ys := ys) (zs := (Builtin.zeroCells zv.cells (c - (0 + n))).toList) (fz := 0) hpos hfy (by rw [hnl, Nat.zero_add]) hc (hzc _)
    exact ⟨ι', _, _, hrun, q3, q1, q2⟩
  rename_i id off
  split at hv
  · cases hv
  rename_i lim hreach
  split at hv
  · -- in its place
    rename_i hle
    rw [Option.map_eq_some_iff] at hv
    obtain ⟨h2, hst, hv⟩ := hv
    simp only [Prod.mk.injEq] at hv
    obtain ⟨rfl, rfl⟩ := hv
    obtain ⟨l, w', hl, hrun, hR', hS⟩ := hR.storeCells (P := P) hst hfy h1y
    obtain ⟨a', cap', rfl, hlim, _⟩ := reach_sound hR hs hreach
    have ha : a' = some ⟨l.block, l.base + off, none⟩ := by
      cases cap with
      | some c =>
        rw [VRel] at hs; obtain ⟨l', ad, e1, e2, e3, e4⟩ := hs
        rw [hl] at e1; cases e1
        cases e3
        rcases e4 with rfl | rfl
        · rfl
        · omega
      | none =>
        rw [VRel] at hs; obtain ⟨l', ad, c, e1, e3, e2, e4⟩ := hs
        rw [hl] at e1; cases e1
        cases e3
        rcases e4 with ⟨rfl, _⟩ | ⟨_, rfl, _⟩
        · rfl
        · omega
    subst ha
    refine ⟨ι, .slice (some ⟨l.block, l.base + off, none⟩) (len + n) cap', w', run_append_in ht ht2 hu hu2 hd2 hs0 hln (hnew w rfl) (by omega) ?_, ?_, hR', hS⟩
    · show (Go.storeCells ((⟨l.block, l.base + off, none⟩ : Addr).add (len * szT P e)) ys).run P w = .ok () w'
      rw [Addr.add_lit, Nat.add_assoc]; exact hrun
    · cases cap with
      | some c =>
        rw [VRel] at hs ⊢; obtain ⟨l', ad, e1, e2, e3, e4⟩ := hs
        cases e3
        exact ⟨l', _, e1, by omega, rfl, e4⟩
      | none =>
        rw [VRel] at hs ⊢; obtain ⟨l', ad, c, e1, e3, e2, e4⟩ := hs
        cases e3
        refine ⟨l', _, _, e1, rfl, by omega, ?_⟩
        rcases e4 with e4 | ⟨_, rfl, _⟩
        · exact .inl e4
        · omega
  rename_i hgt
  split at hv
  rotate_left
  · cases hv
  rename_i old _ osz el ro fz hold hg
  have hfo : firstA h (szT P e) len (.slice (some (id, off)) len cap) = some old := hold
  obtain ⟨os, hos, hfos, hol⟩ := first_sound (P := P) hR hs (fun a k c hh => by cases hh; exact Nat.le_refl _) hfo
  have holl := hol _ _ _ rfl
  split at hv
  · -- a row of a known capacity is full
    rename_i c0
    simp only [Option.some.injEq, Prod.mk.injEq] at hv
    obtain ⟨rfl, rfl⟩ := hv
    simp only [reach, Option.some.injEq] at hreach
    subst hreach
    have hs' := hs
    rw [VRel] at hs'; obtain ⟨l, ad, e1, e2, rfl, e4⟩ := hs'
    obtain ⟨c, hc, hrun⟩ := run_append_fresh (w := w) (ty := ty) (os := os) ht ht2 hu hu2 hd2 hs0 hln hnew hos hzr hb1 hb2 hgt
    obtain ⟨ι', q1, q2, q3⟩ := fresh_row hR (e := e) (sz := szT P e) (need := len + n) (c := c) (cs := old ++ new) (ys := os ++ ys) (zs := (Builtin.zeroCells zv.cells (c - (len + n))).toList) (fz := 0) hpos (hfos.append hfy)
      (by rw [List.length_append, holl, hnl, Nat.add_mul]) hc (hzc _)
    exact ⟨ι', _, _, hrun, q3, q1, q2⟩
  · -- a capacity that isn't known
    split at hv
    · cases hv
    rename_i hcond2
    simp only [Option.some.injEq, Prod.mk.injEq] at hv
    obtain ⟨rfl, rfl⟩ := hv
    have hro : ro = false := by cases ro with
      | false => rfl
      | true => exact absurd (.inl rfl) hcond2
    have hosz : osz = szT P e := Classical.byContradiction fun h1 => hcond2 (.inr (.inl h1))
    have hel : el = e := Classical.byContradiction fun h1 => hcond2 (.inr (.inr (.inl h1)))
    have hfz : fz - 1 ≤ off + len * szT P e := by
      rcases Nat.lt_or_ge (off + len * szT P e) (fz - 1) with h1 | h1
      · exact absurd (.inr (.inr (.inr (.inl h1)))) hcond2
      · exact h1
    have hoff : off % szT P e = 0 := Classical.byContradiction fun h1 => hcond2 (.inr (.inr (.inr (.inr h1))))
    subst hro; subst hosz; subst hel
    have hs' := hs
    rw [VRel] at hs'; obtain ⟨l, ad, cr, e1, rfl, e2, e4⟩ := hs'
    by_cases hroom : len + n ≤ cr
    · have e4' : ad = ⟨l.block, l.base + off, none⟩ ∧ l.ext ≤ off + cr * l.sz ∧ l.base + off + cr * l.sz ≤ l.tot := by
        rcases e4 with e4 | ⟨_, rfl, _⟩
        · exact e4
        · omega
      obtain ⟨rfl, e5, e6⟩ := e4'
      have hsz : l.sz = szT P el := by
        obtain ⟨l', e1', _, cs, fr, k1, k2, k3, k4, _⟩ := hR.obj id _ hg rfl
        rw [e1] at e1'; cases e1'
        exact k4
      rw [hsz] at e6
      obtain ⟨ι', w', q1, q2, q3, q4⟩ := grow_in (P := P) hR hg e1 hold hfy h1y hnl hfz hoff hroom e6
      refine ⟨ι', _, w', run_append_in ht ht2 hu hu2 hd2 hs0 hln (hnew w rfl) hroom ?_, q4, q2, q3⟩
      show (Go.storeCells ((⟨l.block, l.base + off, none⟩ : Addr).add (len * szT P el)) ys).run P w = .ok () w'
      rw [Addr.add_lit]; exact q1
    · obtain ⟨c, hc, hrun⟩ := run_append_fresh (w := w) (ty := ty) (os := os) ht ht2 hu hu2 hd2 hs0 hln hnew hos hzr hb1 hb2 hroom
      have hidn : id < h.next := by
        rcases Nat.lt_or_ge id h.next with h1 | h1
        · exact h1
        · rw [(hR.fresh id h1).1] at hg; cases hg
      have hR1 : R B ι (h.put id .dead) w.heap := hR.kill (by rw [hg]; intro _ _ e; cases e) hidn
      obtain ⟨ι', q1, q2, q3⟩ := fresh_row hR1 (e := el) (sz := szT P el) (need := len + n) (c := c) (cs := old ++ new) (ys := os ++ ys) (zs := (Builtin.zeroCells zv.cells (c - (len + n))).toList)
        (fz := if fz = 0 then 0 else fz - 1 - off + 1) hpos (hfos.append hfy) (by rw [List.length_append, holl, hnl, Nat.add_mul]) hc (hzc _)
      exact ⟨ι', _, _, hrun, q3, q1, (Step.kill (by rw [hg]; simp)).trans q2⟩
end
end Go.Am
end
noncomputable section
namespace Go.Am
open Go.RowKit

section
variable {P : Program} {B : Floor} {ι : Inj} {h : Heap} {w : World}

theorem sliceElem_u {t e : TypeId} (he : sliceElem P t = some e) : P.underlying t = some (.slice e) := by
  unfold sliceElem at he
  split at he
  · rename_i e' hu; simp only [Option.some.injEq] at he; subst he; exact hu
  · cases he

theorem first_zero (P : Program) (hR : R B ι h w.heap) {size : Nat} {x : AV} {u : Value} (hx : VRel ι x u) {cs : List AV} (hc : firstA h size 0 x = some cs) : cs = [] := by
  unfold firstA at hc
  split at hc
  · obtain ⟨_, _, _, _, h2, _⟩ := hR.loadCells (P := P) hc
    exact List.eq_nil_of_length_eq_zero (by omega)
  · simp only [Option.some.injEq] at hc; exact hc.symm
  · simp only [Option.some.injEq] at hc; subst hc; rfl
  · cases hc

theorem copy_sound (hR : R B ι h w.heap) {ts : Array TypeId} {t ty : TypeId} {d x v : AV} {u z : Value} {h' : Heap} (ht : ts[0]? = some t)
    (hd : VRel ι d u) (hx : VRel ι x z) (hv : copyA P h t d x = some (v, h')) :
    ∃ v' w', (Builtin.copy_ ts ty #[u, z]).run P w = .ok v' w' ∧ VRel ι v v' ∧ R B ι h' w'.heap ∧ Step ι h w ι h' w' := by
  unfold copyA at hv
  split at hv
  rotate_left
  · cases hv
  rename_i e a dl c n he hlen
  have hu := sliceElem_u he
  simp only at hv
  split at hv
  · cases hv
  rename_i hs0
  have hln := len_sound (P := P) (w := w) hx hlen
  split at hv
  · rename_i cs id off hfirst
    obtain ⟨ys, hnew, hfy, _⟩ := first_sound (P := P) hR hx (fun a k c hh => by rw [hh] at hlen; simp [lenA] at hlen; subst hlen; exact Nat.min_le_left ..) hfirst
    split at hv
    · rename_i hemp
      simp only [Option.some.injEq, Prod.mk.injEq] at hv
      obtain ⟨rfl, rfl⟩ := hv
      have hc0 : cs = [] := by simpa using hemp
      subst hc0
      cases hfy
      obtain ⟨ad, cap', rfl⟩ : ∃ ad cap', u = .slice (some ad) dl cap' := by
        cases c with
        | some c => rw [VRel] at hd; obtain ⟨l, ad, _, _, rfl, _⟩ := hd; exact ⟨_, _, rfl⟩
        | none => rw [VRel] at hd; obtain ⟨l, ad, c, _, rfl, _⟩ := hd; exact ⟨_, _, rfl⟩
      refine ⟨.int .i64 (Nat.min n dl), w, ?_, by rw [VRel], hR, Step.refl ι h w⟩
      simp [Builtin.copy_, ht, run_underlying hu, hln, run_sizeOf_ne hs0, hnew w rfl, goInt, Go.storeCells]
    · rename_i hne
      split at hv
      rotate_left
      · cases hv
      rename_i hok
      rw [Option.map_eq_some_iff] at hv
      obtain ⟨h2, hst, hv⟩ := hv
      simp only [Prod.mk.injEq] at hv
      obtain ⟨rfl, rfl⟩ := hv
      obtain ⟨l, w', hl, hrun, hR', hS⟩ := hR.storeCells (P := P) hst hfy (cells_one hfy hok)
      have hk : Nat.min n dl ≠ 0 := by
        intro h0
        rw [h0] at hfirst
        exact hne (by rw [first_zero P hR hx hfirst]; rfl)
      have hdl : dl ≠ 0 := by rintro rfl; exact hk (Nat.min_zero n)
      obtain ⟨cap', rfl⟩ : ∃ cap', u = .slice (some ⟨l.block, l.base + off, none⟩) dl cap' := by
        cases c with
        | some c =>
          rw [VRel] at hd; obtain ⟨l', ad, e1, e2, rfl, e4⟩ := hd
          rw [hl] at e1; cases e1
          rcases e4 with rfl | rfl
          · exact ⟨_, rfl⟩
          · omega
        | none =>
          rw [VRel] at hd; obtain ⟨l', ad, c, e1, rfl, e2, e4⟩ := hd
          rw [hl] at e1; cases e1
          rcases e4 with ⟨rfl, _⟩ | ⟨rfl, _⟩
          · exact ⟨_, rfl⟩
          · omega
      refine ⟨.int .i64 (Nat.min n dl), w', ?_, by rw [VRel], hR', hS⟩
      simp [Builtin.copy_, ht, run_underlying hu, hln, run_sizeOf_ne hs0, hnew w rfl, goInt, hrun]
  · rename_i cs hfirst
    obtain ⟨ys, hnew, hfy, _⟩ := first_sound (P := P) hR hx (fun a k c hh => by rw [hh] at hlen; simp [lenA] at hlen; subst hlen; exact Nat.min_le_left ..) hfirst
    simp only [Option.some.injEq, Prod.mk.injEq] at hv
    obtain ⟨rfl, rfl⟩ := hv
    rw [VRel] at hd; obtain ⟨rfl, rfl, rfl⟩ := hd
    refine ⟨.int .i64 (Nat.min n 0), w, ?_, by rw [VRel], hR, Step.refl ι h w⟩
    have hm0 : n.min 0 = 0 := Nat.min_zero n
    rw [hm0] at hnew ⊢
    simp [Builtin.copy_, ht, run_underlying hu, hln, run_sizeOf_ne hs0, hnew w rfl, goInt]
  · cases hv

/-! ### Maps -/
def World.setObj (w : World) (b : Nat) (o : Obj) : World := { w with heap := w.heap.setIfInBounds b o }

theorem run_setObj {b : Nat} {res : Array MapEntry} {clock : Nat} (o : Obj) (hb : w.heap[b]? = some (.map res clock)) : (Go.setObj b o).run P w = .ok () (World.setObj w b o) :=
  by simp [Go.setObj, Sem.run, hb, World.setObj]

/-- A map of ours turns. -/
theorem R.mapPut (hR : R B ι h w.heap) {r : Nat} {es es' : List (AV × AV)} {ver : Nat} (hg : h.get r = some (.map es ver)) {l : Loc} (hl : ι r = some l) {res res' : Array MapEntry} {clock clock' : Nat}
    (hb : w.heap[l.block]? = some (.map res clock)) (hm : MapRel ι es' res' clock') :
    R B ι (h.put r (.map es' (ver + 1))) (World.setObj w l.block (.map res' clock')).heap ∧ Step ι h w ι (h.put r (.map es' (ver + 1))) (World.setObj w l.block (.map res' clock')) := by
  have hlt : l.block < w.heap.size := (Array.getElem?_eq_some_iff.1 hb).1
  have hf : ∀ b, b ≠ l.block → (World.setObj w l.block (.map res' clock')).heap[b]? = w.heap[b]? := fun b hne => by
    simp [World.setObj, Array.getElem?_setIfInBounds_ne (Ne.symm hne)]
  refine ⟨hR.put hg rfl hl (by simp [World.setObj]) hf ?_ rfl ?_, Step.put hR hg rfl rfl hl (by simp [World.setObj]) hf rfl rfl rfl⟩
  · exact ⟨res', clock', by simp [World.setObj, hlt], hm⟩
  · intro es0 ver0 e
    simp only [AObj.map.injEq] at e
    obtain ⟨rfl, rfl⟩ := e
    exact ⟨es', ver + 1, rfl, Nat.lt_succ_self _⟩

theorem map_of (hR : R B ι h w.heap) {r : Nat} {es : List (AV × AV)} {ver : Nat} (hg : h.get r = some (.map es ver)) {u : Value} (hu : VRel ι (.map (some r)) u) :
    ∃ l res clock, ι r = some l ∧ u = .map (some l.block) ∧ w.heap[l.block]? = some (.map res clock) ∧ MapRel ι es res clock := by
  obtain ⟨l, hl, _, res, clock, h1, h2⟩ := hR.obj r _ hg rfl
  rw [VRel] at hu
  obtain ⟨l', e1, rfl⟩ := hu
  rw [hl] at e1; cases e1
  exact ⟨l, res, clock, hl, rfl, h1, h2⟩

theorem keyFits_ok {kt : TypeId} {k : AV} (hk : keyFits P kt k = true) : keyOk k = true := by
  unfold keyFits at hk
  split at hk <;> first | rfl | cases hk

/-- Where a key stands: its place cuts the entries in two. -/
theorem find_split {es : List (AV × AV)} {k v : AV} (hf : findK k es = some (some v)) (hp : es.Pairwise fun p q => keyEq p.1 q.1 = some false) :
    ∃ a b, es = a ++ (k, v) :: b ∧ putK k v es = es ∧ (∀ x, putK k x es = a ++ (k, x) :: b) ∧ delK k es = a ++ b := by
  induction es with
  | nil => simp [findK] at hf
  | cons p r ih =>
    obtain ⟨k', v'⟩ := p
    rw [findK] at hf
    split at hf
    · rename_i he
      simp only [Option.some.injEq] at hf; subst hf
      have := keyEq_true he; subst this
      exact ⟨[], r, rfl, by simp [putK, he], fun x => by simp [putK, he], by simp [delK, he]⟩
    · rename_i he
      obtain ⟨a, b, h1, h2, h3, h4⟩ := ih hf (List.pairwise_cons.1 hp).2
      exact ⟨(k', v') :: a, b, by rw [h1]; rfl, by simp [putK, he, h2], fun x => by simp [putK, he, h3], by simp [delK, he, h4]⟩
    · cases hf

theorem find_none_put {es : List (AV × AV)} {k v : AV} (hf : ∀ p ∈ es, keyEq k p.1 = some false) : putK k v es = es ++ [(k, v)] ∧ delK k es = es := by
  induction es with
  | nil => exact ⟨rfl, rfl⟩
  | cons p r ih =>
    obtain ⟨k', v'⟩ := p
    have h1 := hf (k', v') (by simp)
    obtain ⟨h2, h3⟩ := ih fun p hp => hf p (by simp [hp])
    simp only at h1
    exact ⟨by simp [putK, h1, h2], by simp [delK, h1, h3]⟩

theorem f2_split {a b : List (AV × AV)} {p : AV × AV} {L : List MapEntry} (hf : F2 (ERel ι) (a ++ p :: b) L) : ∃ a' e b', L = a' ++ e :: b' ∧ F2 (ERel ι) a a' ∧ ERel ι p e ∧ F2 (ERel ι) b b' := by
  obtain ⟨y1, y2, rfl, h1, h2⟩ := hf.append_inv
  cases h2 with
  | cons h3 h4 => exact ⟨_, _, _, rfl, h1, h3, h4⟩

theorem erase_perm {α : Type} : ∀ (l : List α) (j : Nat) (e : α), l[j]? = some e → (e :: l.eraseIdx j).Perm l
  | [], j, e, h => by simp at h
  | x :: l, 0, e, h => by simp at h; subst h; exact .refl _
  | x :: l, j + 1, e, h => by
    have := erase_perm l j e (by simpa using h)
    exact (List.Perm.swap x e _).trans (this.cons x)

/-- What stands at the key in the real map is what stands there in ours. -/
theorem find_real {es : List (AV × AV)} {res : Array MapEntry} {clock : Nat} (hm : MapRel ι es res clock) {kt : TypeId} {k : AV} {u : Value}
    (hk : keyFits P kt k = true) (hu : VRel ι k u) {v : AV} (hf : findK k es = some (some v)) :
    ∃ a b a' b' j e, es = a ++ (k, v) :: b ∧ (∀ x, putK k x es = a ++ (k, x) :: b) ∧ delK k es = a ++ b ∧ F2 (ERel ι) a a' ∧ F2 (ERel ι) b b' ∧ ERel ι (k, v) e ∧ (a' ++ e :: b').Perm res.toList ∧
      res.toList[j]? = some e ∧ (a' ++ b').Perm (res.toList.eraseIdx j) ∧ (Instr.findKey kt u res.toList).run P w = .ok (some (j, e.val)) w := by
  obtain ⟨d, hd⟩ := keyFits_u hk
  obtain ⟨j, e, h1, h2, h3⟩ := find_sound (P := P) (w := w) hm hd hk hu hf
  obtain ⟨a, b, e1, e2, e3, e4⟩ := find_split hf hm.keys
  obtain ⟨L, hL, hLf⟩ := hm.perm
  rw [e1] at hLf
  obtain ⟨a', e', b', rfl, f1, f2, f3⟩ := f2_split hLf
  have hmem : e ∈ a' ++ e' :: b' := hL.mem_iff.2 (List.mem_of_getElem? h1)
  have hee : e = e' := by
    rcases List.mem_append.1 hmem with hh | hh
    · exfalso
      obtain ⟨p, hp, hr⟩ := f1.mem' hh
      have hpw := hm.keys
      rw [e1] at hpw
      have := (List.pairwise_append.1 hpw).2.2 p hp (k, v) (by simp)
      have hs := sameNow_of hd hk hu hr.1 (keyEq_comm this)
      have hs2 := sameNow_of hd hk hu h2.1 (keyEq_refl (keyFits_ok hk))
      rw [hs] at hs2; cases hs2
    · rcases List.mem_cons.1 hh with hh | hh
      · exact hh
      · exfalso
        obtain ⟨p, hp, hr⟩ := f3.mem' hh
        have hpw := hm.keys
        rw [e1] at hpw
        have := (List.pairwise_cons.1 (List.pairwise_append.1 hpw).2.1).1 p hp
        have hs := sameNow_of hd hk hu hr.1 this
        have hs2 := sameNow_of hd hk hu h2.1 (keyEq_refl (keyFits_ok hk))
        rw [hs] at hs2; cases hs2
  subst hee
  have hpe : (a' ++ b').Perm (res.toList.eraseIdx j) := by
    have q1 := erase_perm _ _ _ h1
    have q2 : (e :: (a' ++ b')).Perm (a' ++ e :: b') := List.perm_middle.symm
    exact (List.perm_cons e).1 ((q2.trans hL).trans q1.symm)
  exact ⟨a, b, a', b', j, e, e1, e3, e4, f1, f3, f2, hL, h1, hpe, h3⟩

theorem MapRel.erase {a b : List (AV × AV)} {p : AV × AV} {a' b' : List MapEntry} {res : Array MapEntry} {clock j : Nat} (hm : MapRel ι (a ++ p :: b) res clock) (ha : F2 (ERel ι) a a') (hb : F2 (ERel ι) b b')
    (hp : (a' ++ b').Perm (res.toList.eraseIdx j)) : MapRel ι (a ++ b) (res.eraseIdxIfInBounds j) clock := by
  have hto : (res.eraseIdxIfInBounds j).toList = res.toList.eraseIdx j := by
    simp only [Array.eraseIdxIfInBounds]
    split
    · simp
    · rename_i hj; exact (List.eraseIdx_of_length_le (by simp at hj; simpa using hj)).symm
  have hsub : (res.toList.eraseIdx j).Sublist res.toList := List.eraseIdx_sublist ..
  refine ⟨⟨a' ++ b', by rw [hto]; exact hp, ha.append hb⟩, ?_, ?_, ?_, ?_, ?_⟩
  · rw [hto]; exact hm.born.sublist (hsub.map _)
  · intro e he; rw [hto] at he; exact hm.lt e (hsub.subset he)
  · exact hm.keys.sublist (List.Sublist.append (.refl _) (List.sublist_cons_self ..))
  · intro q hq; refine hm.ok q ?_; simp at hq ⊢; rcases hq with h | h <;> simp [h]
  · intro q hq; exact .inr trivial

theorem MapRel.nil (ι : Inj) (clock : Nat) : MapRel ι [] #[] clock := ⟨⟨[], by simp, .nil⟩, by simp, by simp, .nil, by simp, by simp⟩

theorem delete_sound (hR : R B ι h w.heap) {ts : Array TypeId} {t ty : TypeId} {m k : AV} {u z : Value} {h' : Heap} (ht : ts[0]? = some t)
    (hm : VRel ι m u) (hk : VRel ι k z) (hv : deleteA P h t m k = some h') :
    ∃ w', (Builtin.delete_ ts ty #[u, z]).run P w = .ok (.tuple #[]) w' ∧ R B ι h' w'.heap ∧ Step ι h w ι h' w' := by
  unfold deleteA at hv
  split at hv
  rotate_left
  · cases hv
  rename_i kt et r hu
  split at hv
  rotate_left
  · cases hv
  rename_i hfit
  split at hv
  · simp only [Option.some.injEq] at hv; subst hv
    rw [VRel] at hm; subst hm
    exact ⟨w, by simp [Builtin.delete_, ht, run_underlying hu, run_checkKey hfit hk], hR, Step.refl ι h w⟩
  · rename_i r
    split at hv
    rotate_left
    · cases hv
    rename_i es ver hg
    split at hv
    rotate_left
    · cases hv
    rename_i hsome
    simp only [Option.some.injEq] at hv; subst hv
    obtain ⟨l, res, clock, hl, rfl, hb, hmr⟩ := map_of hR hg hm
    obtain ⟨rr, hrr⟩ := Option.isSome_iff_exists.1 hsome
    cases rr with
    | none =>
      have hn := findK_none hrr
      obtain ⟨d, hd⟩ := keyFits_u hfit
      have hfs := find_sound (P := P) (w := w) hmr hd hfit hk hrr
      obtain ⟨q1, q2⟩ := R.mapPut hR hg hl hb hmr
      refine ⟨_, ?_, by rw [(find_none_put (v := .undef) hn).2]; exact q1, by rw [(find_none_put (v := .undef) hn).2]; exact q2⟩
      simp [Builtin.delete_, ht, run_underlying hu, run_checkKey hfit hk, run_getObj_map hb, hfs.1, run_setObj _ hb]
    | some v =>
      obtain ⟨a, b, a', b', j, e, e1, e2, e3, f1, f2, f3, f4, f5, f6, f7⟩ := find_real (P := P) (w := w) hmr hfit hk hrr
      rw [e3]
      rw [e1] at hmr
      obtain ⟨q1, q2⟩ := R.mapPut hR hg hl hb (hmr.erase f1 f2 f6)
      refine ⟨_, ?_, q1, q2⟩
      simp [Builtin.delete_, ht, run_underlying hu, run_checkKey hfit hk, run_getObj_map hb, f7, run_setObj _ hb]

theorem sameBits_key {k : AV} {u z : Value} (hk : keyOk k = true) (hu : VRel ι k u) (hz : VRel ι k z) : Instr.sameBits 10000 u z = true := by
  unfold keyOk at hk
  split at hk
  · rw [VRel] at hu hz; subst hu; subst hz; simp [Instr.sameBits]
  · rw [VRel] at hu hz; subst hu; subst hz; simp only [Instr.sameBits]; show (_ : Array UInt8) == _; simp
  · cases hk

theorem modify_perm {α : Type} (f : α → α) : ∀ (l : List α) (j : Nat) (e : α), l[j]? = some e → (f e :: l.eraseIdx j).Perm (l.modify j f)
  | [], j, e, h => by simp at h
  | x :: l, 0, e, h => by simp at h; subst h; exact .refl _
  | x :: l, j + 1, e, h => by
    have := modify_perm f l j e (by simpa using h)
    exact (List.Perm.swap x (f e) _).trans (by simpa using this.cons x)

theorem modify_map {α β : Type} (f : α → α) (g : α → β) (hg : ∀ a, g (f a) = g a) : ∀ (l : List α) (j : Nat), (l.modify j f).map g = l.map g
  | [], j => by simp
  | x :: l, 0 => by simp [hg]
  | x :: l, j + 1 => by simp [modify_map f g hg l j]

theorem update_sound (hR : R B ι h w.heap) {t : TypeId} {m k v : AV} {u z y : Value} {h' : Heap}
    (hm : VRel ι m u) (hk : VRel ι k z) (hy : VRel ι v y) (hv : updateA P h t m k v = some h') :
    ∃ w', (Instr.mapUpdate t u z y).run P w = .ok () w' ∧ R B ι h' w'.heap ∧ Step ι h w ι h' w' := by
  unfold updateA at hv
  split at hv
  rotate_left
  · cases hv
  rename_i kt et r hu
  split at hv
  rotate_left
  · cases hv
  rename_i es ver hg
  split at hv
  rotate_left
  · cases hv
  rename_i hcond
  simp only [Bool.and_eq_true] at hcond
  obtain ⟨hfit, hsome⟩ := hcond
  simp only [Option.some.injEq] at hv; subst hv
  obtain ⟨l, res, clock, hl, rfl, hb, hmr⟩ := map_of hR hg hm
  obtain ⟨rr, hrr⟩ := Option.isSome_iff_exists.1 hsome
  have hok := keyFits_ok hfit
  cases rr with
  | none =>
    have hn := findK_none hrr
    obtain ⟨d, hd⟩ := keyFits_u hfit
    have hfs := find_sound (P := P) (w := w) hmr hd hfit hk hrr
    rw [(find_none_put (v := v) hn).1]
    have hnew : MapRel ι (es ++ [(k, v)]) (res.push { key := z, val := y, born := clock }) (clock + 1) := by
      obtain ⟨L, hL, hLf⟩ := hmr.perm
      refine ⟨⟨L ++ [⟨z, y, clock⟩], by simpa using hL.append_right _, hLf.append (.cons ⟨hk, hy⟩ .nil)⟩, ?_, ?_, ?_, ?_, ?_⟩
      · simp only [Array.toList_push, List.map_append, List.map_cons, List.map_nil]
        rw [List.nodup_append]
        refine ⟨hmr.born, by simp, ?_⟩
        intro a ha b hb2
        simp only [List.mem_map] at ha
        obtain ⟨e, he, rfl⟩ := ha
        simp at hb2; subst hb2
        have := hmr.lt e he
        omega
      · intro e he
        simp at he
        rcases he with he | rfl
        · have := hmr.lt e (by simpa using he); omega
        · simp
      · rw [List.pairwise_append]
        refine ⟨hmr.keys, by simp, fun a ha b hb2 => ?_⟩
        simp at hb2; subst hb2
        exact keyEq_comm (hn a ha)
      · intro p hp
        rcases List.mem_append.1 hp with h1 | h1
        · exact hmr.ok p h1
        · simp at h1; subst h1; exact hok
      · intro q hq; exact .inr trivial
    obtain ⟨q1, q2⟩ := R.mapPut hR hg hl hb hnew
    refine ⟨_, ?_, q1, q2⟩
    simp [Instr.mapUpdate, run_underlying hu, run_checkKey hfit hk, run_getObj_map hb, hfs.1, run_setObj _ hb]
  | some v0 =>
    obtain ⟨a, b, a', b', j, e, e1, e2, e3, f1, f2, f3, f4, f5, f6, f7⟩ := find_real (P := P) (w := w) hmr hfit hk hrr
    rw [e2]
    rw [e1] at hmr
    have hnew : MapRel ι (a ++ (k, v) :: b) (res.modify j fun e => { e with key := z, val := y }) clock := by
      refine ⟨⟨a' ++ { e with key := z, val := y } :: b', ?_, f1.append (.cons ⟨hk, hy⟩ f2)⟩, ?_, ?_, ?_, ?_, ?_⟩
      · rw [Array.toList_modify]
        exact (List.perm_middle.trans (f6.cons _)).trans (modify_perm (fun e => { e with key := z, val := y }) _ _ _ f5)
      · rw [Array.toList_modify, modify_map (fun e : MapEntry => { e with key := z, val := y }) MapEntry.born (fun _ => rfl)]; exact hmr.born
      · intro x hx
        rw [Array.toList_modify] at hx
        have hx' : x.born ∈ (res.toList.modify j fun e => { e with key := z, val := y }).map (·.born) := List.mem_map_of_mem hx
        rw [modify_map (fun e : MapEntry => { e with key := z, val := y }) MapEntry.born (fun _ => rfl)] at hx'
        obtain ⟨x', h1, h2⟩ := List.mem_map.1 hx'
        have := hmr.lt x' h1
        omega
      · have := hmr.keys
        rw [List.pairwise_append, List.pairwise_cons] at this ⊢
        exact ⟨this.1, ⟨fun q hq => this.2.1.1 q hq, this.2.1.2⟩, fun p hp q hq => by
          rcases List.mem_cons.1 hq with rfl | hq
          · exact this.2.2 p hp (k, v0) (by simp)
          · exact this.2.2 p hp q (by simp [hq])⟩
      · intro q hq
        rcases List.mem_append.1 hq with h1 | h1
        · exact hmr.ok q (by simp [h1])
        · rcases List.mem_cons.1 h1 with rfl | h1
          · exact hok
          · exact hmr.ok q (by simp [h1])
      · intro q hq; exact .inr trivial
    obtain ⟨q1, q2⟩ := R.mapPut hR hg hl hb hnew
    refine ⟨_, ?_, q1, q2⟩
    have hj : res[j]? = some e := by simpa using f5
    have hsb := sameBits_key hok f3.1 hk
    simp [Instr.mapUpdate, run_underlying hu, run_checkKey hfit hk, run_getObj_map hb, f7, run_setObj _ hb, hj, Instr.keyThatStays, hsb]

theorem clear_sound (hR : R B ι h w.heap) {ts : Array TypeId} {t ty : TypeId} {x : AV} {u : Value} {h' : Heap} (ht : ts[0]? = some t)
    (hx : VRel ι x u) (hv : clearA P h t x = some h') :
    ∃ w', (Builtin.clear_ ts ty #[u]).run P w = .ok (.tuple #[]) w' ∧ R B ι h' w'.heap ∧ Step ι h w ι h' w' := by
  unfold clearA at hv
  split at hv
  · rename_i hu
    simp only [Option.some.injEq] at hv; subst hv
    rw [VRel] at hx; subst hx
    exact ⟨w, by simp [Builtin.clear_, ht, run_underlying hu], hR, Step.refl ι h w⟩
  · rename_i r hu
    split at hv
    rotate_left
    · cases hv
    rename_i es ver hg
    simp only [Option.some.injEq] at hv; subst hv
    obtain ⟨l, res, clock, hl, rfl, hb, hmr⟩ := map_of hR hg hx
    obtain ⟨q1, q2⟩ := R.mapPut hR hg hl hb (MapRel.nil ι clock)
    refine ⟨_, ?_, q1, q2⟩
    simp [Builtin.clear_, ht, run_underlying hu, run_getObj_map hb, run_setObj _ hb]
  · rename_i hu
    simp only [Option.some.injEq] at hv; subst hv
    rw [VRel] at hx; obtain ⟨rfl, rfl, rfl⟩ := hx
    exact ⟨w, by simp [Builtin.clear_, ht, run_underlying hu], hR, Step.refl ι h w⟩
  · rename_i e id off n c hu
    split at hv
    · rename_i hn0
      subst hn0
      simp only [Option.some.injEq] at hv; subst hv
      obtain ⟨ad, cap', rfl⟩ : ∃ ad cap', u = .slice ad 0 cap' := by
        cases c with
        | some c => rw [VRel] at hx; obtain ⟨l, ad, _, _, rfl, _⟩ := hx; exact ⟨_, _, rfl⟩
        | none => rw [VRel] at hx; obtain ⟨l, ad, c, _, rfl, _⟩ := hx; exact ⟨_, _, rfl⟩
      refine ⟨w, ?_, hR, Step.refl ι h w⟩
      cases ad <;> simp [Builtin.clear_, ht, run_underlying hu]
    rename_i hn0
    split at hv
    rotate_left
    · cases hv
    rename_i zz hz
    split at hv
    rotate_left
    · cases hv
    rename_i hcond
    obtain ⟨hs0, hzl, hzok⟩ := hcond
    obtain ⟨zv, q0, _, rfl⟩ := run_zeroValue (w := w) hz
    have hzr := zeros_sound (ι := ι) zv (n := n) hzl hs0
    have hok : (List.replicate n (ofConst zv).cells).flatten.all AV.cellOk = true := by
      rw [List.all_eq_true]
      intro y hy
      obtain ⟨q, h1, h2⟩ := List.mem_flatten.1 hy
      rw [List.eq_of_mem_replicate h1] at h2
      exact List.all_eq_true.1 hzok y h2
    obtain ⟨l, w', hl, hrun, hR', hS⟩ := hR.storeCells (P := P) hv hzr (cells_one hzr hok)
    obtain ⟨cap', rfl⟩ : ∃ cap', u = .slice (some ⟨l.block, l.base + off, none⟩) n cap' := by
      cases c with
      | some c =>
        rw [VRel] at hx; obtain ⟨l', ad, e1, e2, rfl, e4⟩ := hx
        rw [hl] at e1; cases e1
        rcases e4 with rfl | rfl
        · exact ⟨_, rfl⟩
        · omega
      | none =>
        rw [VRel] at hx; obtain ⟨l', ad, c, e1, rfl, e2, e4⟩ := hx
        rw [hl] at e1; cases e1
        rcases e4 with ⟨rfl, _⟩ | ⟨rfl, _⟩
        · exact ⟨_, rfl⟩
        · omega
    refine ⟨w', ?_, hR', hS⟩
    have hzs : Builtin.zeroCells zv.cells n = (Array.range (n * szT P e)).map (zv.cells[· % zv.cells.size]!) := by
      have := (const_cells (ι := ι) zv).length
      simp only [Builtin.zeroCells]
      rw [← hzl, this]; simp
    have hn1 : n ≠ 0 := hn0
    obtain ⟨n', rfl⟩ := Nat.exists_eq_succ_of_ne_zero hn1
    simp only [Array.toList_map, Array.toList_range, Nat.succ_eq_add_one] at hrun
    simp [Builtin.clear_, ht, run_underlying hu, q0, hzs, hrun]
  · cases hv
end
end Go.Am
end
noncomputable section
namespace Go.Am
open Go.RowKit

section
variable {P : Program} {B : Floor} {ι : Inj} {h : Heap} {w : World}

theorem iter_ptr {ι' : Inj} {r : Nat} {l : Loc} (hl : ι' r = some l) (hb : l.base = 0) : VRel ι' (.ptr (some (r, 0))) (.pointer (some ⟨l.block, 0, none⟩)) := by
  rw [VRel]; exact ⟨l, hl, by rw [hb]⟩

theorem range_sound (hR : R B ι h w.heap) {t : TypeId} {x v : AV} {u : Value} {h' : Heap} (hx : VRel ι x u) (hv : rangeA P h t x = some (v, h')) :
    ∃ ι' v' w', (Instr.range t u).run P w = .ok v' w' ∧ VRel ι' v v' ∧ R B ι' h' w'.heap ∧ Step ι h w ι' h' w' := by
  unfold rangeA at hv
  simp only at hv
  have hn : ι h.next = none := (hR.fresh _ (Nat.le_refl _)).2
  obtain ⟨l, hl⟩ : ∃ l : Loc, l = ⟨w.heap.size, 0, 0, 0, 0⟩ := ⟨_, rfl⟩
  have hlb : l.block = w.heap.size := by rw [hl]
  have hl0 : l.base = 0 := by rw [hl]
  have fin : ∀ (ob : Obj) (o : AObj), (Instr.range t u).run P w = .ok (.pointer (some ⟨w.heap.size, 0, none⟩)) (w.alloc ob) → ORel (ι.add h.next l) (h.new o) (w.heap.push ob) l o → o.owns = true →
      ∃ ι' v' w', (Instr.range t u).run P w = .ok v' w' ∧ VRel ι' (.ptr (some (h.next, 0))) v' ∧ R B ι' (h.new o) w'.heap ∧ Step ι h w ι' (h.new o) w' := by
    intro ob o hrun ho hown
    obtain ⟨g1, g2, g3⟩ := R.new hR ob hlb hown ho
    refine ⟨_, _, _, hrun, ?_, g1, g2⟩
    rw [← hlb]
    exact iter_ptr (Inj.add_same _ _ _) hl0
  split at hv
  · rename_i s hu
    simp only [Option.some.injEq, Prod.mk.injEq] at hv
    obtain ⟨rfl, rfl⟩ := hv
    rw [VRel] at hx; subst hx
    refine fin (.stringIter ⟨s.toArray⟩ 0) _ (by simp [Instr.range, run_underlying hu]) ⟨hl0, by rw [hlb]; simp⟩ rfl
  · rename_i hu
    simp only [Option.some.injEq, Prod.mk.injEq] at hv
    obtain ⟨rfl, rfl⟩ := hv
    rw [VRel] at hx; subst hx
    refine fin (.mapIter none 0 #[] 0) _ (by simp [Instr.range, run_underlying hu]) ⟨hl0, 0, #[], 0, by rw [hlb]; simp⟩ rfl
  · rename_i m hu
    split at hv
    rotate_left
    · cases hv
    rename_i es ver hg
    simp only [Option.some.injEq, Prod.mk.injEq] at hv
    obtain ⟨rfl, rfl⟩ := hv
    obtain ⟨lm, res, clock, hlm, rfl, hb, hmr⟩ := map_of hR hg hx
    have hlt : lm.block < w.heap.size := (Array.getElem?_eq_some_iff.1 hb).1
    have hne : m ≠ h.next := by rintro rfl; rw [hn] at hlm; cases hlm
    refine fin (.mapIter (some lm.block) clock #[] clock) _ (by simp [Instr.range, run_underlying hu, run_getObj_map hb]) ?_ rfl
    refine ⟨hl0, lm, clock, #[], clock, Inj.le_add hn _ _ hlm, by rw [hlb]; simp, es, ver, by rw [Heap.get_new_ne hne]; exact hg, Nat.le_refl _, fun _ => ⟨res, clock, ?_, rfl, rfl, ?_, ?_⟩⟩
    · rw [Array.getElem?_push, if_neg (by omega)]; exact hb
    · obtain ⟨L, q1, q2⟩ := hmr.perm
      exact ⟨L, by have e : (res.toList.filter fun e => !(#[] : Array Nat).contains e.born) = res.toList := List.filter_eq_self.2 (by simp)
                   rw [e]; exact q1, q2.mono fun _ _ => ERel.mono (Inj.le_add hn)⟩
    · intro p hp; cases hp
  · cases hv

/-- An iterator of ours turns. -/
theorem R.iterPut (hR : R B ι h w.heap) {r : Nat} {o o' : AObj} (hg : h.get r = some o) (ho : o.owns = true) (ho' : o'.owns = true) (hnm : ∀ es ver, o ≠ .map es ver) {l : Loc} (hl : ι r = some l) {ob : Obj}
    (hor : ORel ι (h.put r o') (World.setObj w l.block ob).heap l o') (w1 : World) (hw1 : w1 = World.setObj w l.block ob ∨ w1 = World.setObj w.drew l.block ob) :
    R B ι (h.put r o') w1.heap ∧ Step ι h w ι (h.put r o') w1 := by
  have hf : ∀ b, b ≠ l.block → (World.setObj w l.block ob).heap[b]? = w.heap[b]? := fun b hne => by
    simp [World.setObj, Array.getElem?_setIfInBounds_ne (Ne.symm hne)]
  have h1 := hR.put hg ho hl (hp' := (World.setObj w l.block ob).heap) (by simp [World.setObj]) hf hor ho' (fun es ver e => absurd e (hnm es ver))
  have h2 : Step ι h w ι (h.put r o') (World.setObj w l.block ob) := Step.put hR hg ho ho' hl (by simp [World.setObj]) hf rfl rfl rfl
  rcases hw1 with rfl | rfl
  · exact ⟨h1, h2⟩
  · exact ⟨h1, ⟨h2.same, h2.next, h2.size, h2.frame, h2.own, h2.free, h2.ro, rfl, rfl, rfl⟩⟩

theorem next_sound (hR : R B ι h w.heap) {ty : TypeId} {x : AV} {u : Value} {s : Bool} {Q : AV × Heap → Prop} (hx : VRel ι x u) (hv : (nextA h x s).all Q) :
    ∃ v h' v' w', Q (v, h') ∧ (Instr.next u s ty).run P w = .ok v' w' ∧ VRel ι v v' ∧ R B ι h' w'.heap ∧ Step ι h w ι h' w' := by
  have tup0 : VRel ι (.tuple [.bool false]) (.tuple #[.bool false]) := by
    rw [VRel]; exact ⟨[.bool false], rfl, VRelL_iff.2 (.cons (by rw [VRel]) .nil)⟩
  unfold nextA at hv
  split at hv
  rotate_left
  · cases hv
  rename_i r
  rw [VRel] at hx
  obtain ⟨l, hl, rfl⟩ := hx
  split at hv
  · rename_i str pos hg
    obtain ⟨l', e1, hlt, hb0, hb⟩ := hR.obj r _ hg rfl
    rw [hl] at e1; cases e1
    have hsz : (⟨str.toArray⟩ : ByteArray).size = str.length := by simp [ByteArray.size]
    have hgo : (getObj l.block).run P w = .ok (.stringIter ⟨str.toArray⟩ pos) w := by simp [getObj, Sem.run, hb]
    have hso : ∀ ob, (Go.setObj l.block ob).run P w = .ok () (World.setObj w l.block ob) := fun ob => by simp [Go.setObj, Sem.run, hb, World.setObj]
    split at hv
    · rename_i hlt2
      simp only [Res.all_ok] at hv
      obtain ⟨g1, g2⟩ := R.iterPut hR hg rfl (o' := .siter str (pos + (Utf8.decode ⟨str.toArray⟩ pos).2)) rfl (by intro _ _ e; cases e) hl (ob := .stringIter ⟨str.toArray⟩ (pos + (Utf8.decode ⟨str.toArray⟩ pos).2))
        ⟨hb0, by simp [World.setObj, hlt]⟩ _ (.inl rfl)
      refine ⟨_, _, .tuple #[.bool true, goInt pos, .int .i32 (Utf8.decode ⟨str.toArray⟩ pos).1], _, hv, ?_, ?_, g1, g2⟩
      · simp [Instr.next, hb0, hgo, hsz, hlt2, hso]
      · rw [VRel]; exact ⟨[_, _, _], rfl, VRelL_iff.2 (.cons (by rw [VRel]) (.cons (by rw [VRel]; rfl) (.cons (by rw [VRel]) .nil)))⟩
    · rename_i hlt2
      simp only [Res.all_ok] at hv
      refine ⟨_, _, _, w, hv, ?_, tup0, hR, Step.refl ι h w⟩
      simp [Instr.next, hb0, hgo, hsz, hlt2]
  · rename_i a b c hg
    obtain ⟨l', e1, hlt, hb0, a', b', c', hb⟩ := hR.obj r _ hg rfl
    rw [hl] at e1; cases e1
    have hgo : (getObj l.block).run P w = .ok (.mapIter none a' b' c') w := by simp [getObj, Sem.run, hb]
    simp only [Res.all_ok] at hv
    refine ⟨_, _, _, w, hv, ?_, tup0, hR, Step.refl ι h w⟩
    simp [Instr.next, hb0, hgo]
  · rename_i m left ver last hg
    split at hv
    rotate_left
    · cases hv
    rename_i es ver' hgm
    split at hv
    rotate_left
    · cases hv
    rename_i hver
    obtain ⟨l', e1, hlt, hb0, lm, since, seen, stepped, h1, h2, es2, ver2, h3, h4, h5⟩ := hR.obj r _ hg rfl
    rw [hl] at e1; cases e1
    rw [hgm] at h3
    simp only [Option.some.injEq, AObj.map.injEq] at h3
    obtain ⟨rfl, rfl⟩ := h3
    obtain ⟨res, clock, k1, k2, k3, ⟨ll, k4, k5⟩, k6⟩ := h5 hver.symm
    obtain ⟨lm2, e2, _, res2, clock2, m1, m2⟩ := hR.obj m _ hgm rfl
    rw [h1] at e2; cases e2
    rw [k1] at m1
    simp only [Option.some.injEq, Obj.map.injEq] at m1
    obtain ⟨rfl, rfl⟩ := m1
    have k2' := k2.symm; have k3' := k3.symm
    clear k2 k3
    subst k2'; subst k3'
    have hrun := run_next_at (P := P) w ty l.block lm.block clock clock seen res clock h2 k1 (fun x hx => m2.lt x hx) (Nat.le_refl _)
    have hleft : (leftOf res seen).toList = res.toList.filter fun e => !seen.contains e.born := by simp [leftOf]
    -- one entry comes out
    have step : ∀ e ∈ (leftOf res seen).toList, ∀ w1 : World, (w1 = w ∨ w1 = w.drew) → (Instr.next (.pointer (some ⟨l.block, 0, none⟩)) false ty).run P w = .ok (.tuple #[.bool true, e.key, e.val]) (Go.ChangeMaps.setBlock w1 l.block (.mapIter (some lm.block) clock (seen.push e.born) clock)) →
        ∀ i k vv, left[i]? = some (k, vv) → ll[i]? = some e → Q (.tuple [.bool true, k, vv], h.put r (.miter (some m) (left.eraseIdx i) ver (some (k, vv)))) →
        ∃ v h' v' w', Q (v, h') ∧ (Instr.next (.pointer (some ⟨l.block, 0, none⟩)) false ty).run P w = .ok v' w' ∧ VRel ι v v' ∧ R B ι h' w'.heap ∧ Step ι h w ι h' w' := by
      intro e he w1 hw1 hrun i k vv hi hli hq
      have hre : ERel ι (k, vv) e := by
        obtain ⟨e', h6, h7⟩ := k5.get hi
        rw [hli] at h6; cases h6
        exact h7
      have hsb : Go.ChangeMaps.setBlock w1 l.block (.mapIter (some lm.block) clock (seen.push e.born) clock) = World.setObj w l.block (.mapIter (some lm.block) clock (seen.push e.born) clock) ∨
          Go.ChangeMaps.setBlock w1 l.block (.mapIter (some lm.block) clock (seen.push e.born) clock) = World.setObj w.drew l.block (.mapIter (some lm.block) clock (seen.push e.born) clock) := by
        rcases hw1 with rfl | rfl
        · exact .inl rfl
        · exact .inr rfl
      have hlne : lm.block ≠ l.block := by
        have hne : r ≠ m := by rintro rfl; rw [hgm] at hg; cases hg
        exact fun e => hR.sep r m _ _ l lm hne hg hgm rfl rfl hl h1 e.symm
      have hrm : m ≠ r := by rintro rfl; rw [hgm] at hg; cases hg
      obtain ⟨g1, g2⟩ := R.iterPut hR hg rfl (o' := .miter (some m) (left.eraseIdx i) ver (some (k, vv))) rfl (by intro _ _ e; cases e) hl (ob := .mapIter (some lm.block) clock (seen.push e.born) clock)
        (by
          refine ⟨hb0, lm, clock, seen.push e.born, clock, h1, by simp [World.setObj, hlt], es, ver', by rw [Heap.get_put_ne hrm]; exact hgm, by omega, fun _ => ⟨res, clock, ?_, rfl, rfl, ?_, ?_⟩⟩
          · simp [World.setObj, Array.getElem?_setIfInBounds_ne (Ne.symm hlne)]; exact k1
          · refine ⟨ll.eraseIdx i, ?_, k5.eraseIdx i⟩
            have q1 := erase_perm _ _ _ hli
            have hmem : e ∈ res.toList := by rw [hleft] at he; exact (List.mem_filter.1 he).1
            have hnot : seen.contains e.born = false := by rw [hleft] at he; simpa using (List.mem_filter.1 he).2
            have key : (e :: res.toList.filter fun x => !(seen.push e.born).contains x.born).Perm (res.toList.filter fun x => !seen.contains x.born) := by
              have hnd := m2.born
              clear q1 k4 k5 k6 hrun hleft he hlt hR m2 h5 h2 k1
              generalize res.toList = L at hmem hnd ⊢
              induction L with
              | nil => simp at hmem
              | cons a L ih =>
                rw [List.map_cons, List.nodup_cons] at hnd
                by_cases hae : e = a
                · subst hae
                  have hno : ∀ x ∈ L, x.born ≠ e.born := fun x hx hb => hnd.1 (by rw [← hb]; exact List.mem_map_of_mem hx)
                  have : (L.filter fun x => !(seen.push e.born).contains x.born) = L.filter fun x => !seen.contains x.born := by
                    apply List.filter_congr
                    intro x hx
                    have := hno x hx
                    simp [this]
                  have hc1 : (!(seen.push e.born).contains e.born) = false := by simp
                  have hc2 : (!seen.contains e.born) = true := by rw [hnot]; rfl
                  simp only [List.filter_cons, hc1, hc2, this, Bool.false_eq_true, if_false, if_true]
                  exact .refl _
                · have hmem' : e ∈ L := by
                    rcases List.mem_cons.1 hmem with h | h
                    · exact absurd h hae
                    · exact h
                  have hab : a.born ≠ e.born := fun hb => hnd.1 (by rw [hb]; exact List.mem_map_of_mem hmem')
                  have ih' := ih hmem' hnd.2
                  simp only [List.filter_cons]
                  have hpa : (seen.push e.born).contains a.born = seen.contains a.born := by simp [hab]
                  rw [hpa]
                  cases hsa : seen.contains a.born
                  · simp only [Bool.not_false, if_true]
                    exact (List.Perm.swap a e _).trans (ih'.cons a)
                  · simpa using ih'
            have q2 := q1.trans k4
            exact (List.perm_cons e).1 (q2.trans key.symm)
          · intro p hp
            simp only [Option.some.injEq] at hp
            subst hp
            refine ⟨e, ?_, by simp, hre⟩
            rw [hleft] at he
            exact (List.mem_filter.1 he).1) _ hsb
      refine ⟨_, _, .tuple #[.bool true, e.key, e.val], _, hq, hrun, ?_, g1, g2⟩
      rw [VRel]; exact ⟨[_, _, _], rfl, VRelL_iff.2 (.cons (by rw [VRel]) (.cons hre.1 (.cons hre.2 .nil)))⟩
    have hlen := k5.length
    have hll : ll.length = (leftOf res seen).size := by
      rw [← hleft] at k4
      have := k4.length_eq
      simpa using this
    have hbp : (⟨l.block, l.base + 0, none⟩ : Addr) = ⟨l.block, 0, none⟩ := by rw [hb0]
    rw [hbp]
    split at hv
    · simp only [Res.all_ok] at hv
      rcases hrun with ⟨_, hr⟩ | ⟨e, he, _⟩
      · have hrn : r < h.next := by
          rcases Nat.lt_or_ge r h.next with q | q
          · exact q
          · rw [(hR.fresh r q).1] at hg; cases hg
        exact ⟨_, _, _, w, hv, hr, tup0, hR.kill (by rw [hg]; intro _ _ e; cases e) hrn, Step.kill (by rw [hg]; simp)⟩
      · exfalso
        have : (leftOf res seen).toList.length = 0 := by
          simp only [List.length_nil] at hlen
          rw [Array.length_toList]; omega
        rw [List.eq_nil_of_length_eq_zero this] at he
        simp at he
    · rename_i k vv
      simp only [Res.all_ok] at hv
      rcases hrun with ⟨h0, _⟩ | ⟨e, he, w1, hw1, hr⟩
      · simp only [List.length_cons, List.length_nil] at hlen; omega
      · cases k5 with
        | cons k5a k5b =>
          cases k5b
          rename_i e'
          rw [← hleft] at k4
          have hee : e = e' := by
            have := k4.mem_iff.2 he
            simpa using this
          subst hee
          exact step e he w1 hw1 hr 0 k vv rfl rfl (by simpa using hv)
    · rename_i hne1 hne2
      obtain ⟨hpos, hall⟩ := hv
      rcases hrun with ⟨h0, _⟩ | ⟨e, he, w1, hw1, hr⟩
      · omega
      · have he' : e ∈ ll := by
          rw [← hleft] at k4
          exact k4.mem_iff.2 he
        obtain ⟨i, hi, hie⟩ := List.getElem_of_mem he'
        have hli : ll[i]? = some e := by rw [List.getElem?_eq_getElem hi, hie]
        obtain ⟨p, hp, _⟩ := k5.get' hli
        have := hall i (by omega)
        simp only at this
        rw [hp] at this
        exact step e he w1 hw1 hr i p.1 p.2 hp hli this
  · cases hv
end
end Go.Am
end
noncomputable section
namespace Go.Am
open Go.RowKit

/-- What a call comes back with. -/
def RetOk (B : Floor) (ι : Inj) (h : Heap) (w : World) (Q : AV × Heap → Prop) : Ending → World → Prop
  | .returned v', w' => ∃ v h' ι', Q (v, h') ∧ VRel ι' v v' ∧ R B ι' h' w'.heap ∧ Step ι h w ι' h' w'
  | _, _ => False

/-- A call of a function that has a body, or of one that the model answers at once. -/
def CallRes (P : Program) (f : FuncId) (us : List Value) (w : World) (R : Ending → World → Prop) : Prop :=
  ((∃ fn, P.funcs[f]? = some fn ∧ fn.body.isNone = false) ∧ Calls P f us.toArray w R) ∨ ∃ v' w', (callFunc f us.toArray).run P w = .ok (.value v') w' ∧ R (.returned v') w'

def CallOk (P : Program) (B : Floor) (call : CallF) : Prop := ∀ (ι : Inj) (h : Heap) (w : World) (f : FuncId) (args : List AV) (us : List Value) (Q : AV × Heap → Prop),
  R B ι h w.heap → F2 (VRel ι) args us → (call f args h).all Q → CallRes P f us w (RetOk B ι h w Q)

/-- No function is one that the machine itself answers. -/
def NoOwn (P : Program) : Prop := ∀ (f : FuncId) (fn : Func), P.funcs[f]? = some fn → (fn.name == "runtime.NumGoroutine") = false

section
variable {P : Program} {B : Floor} {ι : Inj} {h : Heap} {w : World}

theorem run_unsafeStr0 {ts : Array TypeId} {ty pt : TypeId} (q : Option Addr) (hpt : ts[0]? = some pt) : (Builtin.unsafeString_ ts ty #[.pointer q, .int .i64 0]).run P w = .ok (.string .empty) w := by
  show (asInt (.int .i64 0) >>= _ : Sem Value).run P w = _
  cases q <;> simp [asInt, asIntOf, hpt, IntKind.max_i64]

theorem run_loadBytes' : ∀ (l : List Int) (a : Addr) (acc : ByteArray), (∀ j x, l[j]? = some x → w.cell? (a.add j) = some (.int .u8 x)) →
    (Go.loadBytes a acc l.length).run P w = .ok ⟨acc.data ++ (l.map fun n => UInt8.ofNat n.toNat).toArray⟩ w
  | [], a, acc, _ => by simp [Go.loadBytes]
  | x :: l, a, acc, h => by
    have h0 : w.cell? a = some (.int .u8 x) := by
      have := h 0 x rfl
      simpa [Addr.add] using this
    have ih := run_loadBytes' l (a.add 1) (acc.push x.toNat.toUInt8) (fun j y hy => by
      have := h (j + 1) y (by simpa using hy)
      have e : (a.add 1).add j = a.add (j + 1) := by
        unfold Addr.add
        by_cases hj : j = 0
        · subst hj; simp
        · simp [hj]; omega
      rw [e]; exact this)
    simp only [List.length_cons, Go.loadBytes, Sem.run_bind, run_load, h0, Result.andThen_ok]
    rw [ih]
    congr 1
    apply ByteArray.ext
    simp [ByteArray.push]

theorem builtinAct_sound (hR : R B ι h w.heap) {b : Builtin} {ts : Array TypeId} {ty : TypeId} {cs : Array Bool} {args : List AV} {us : List Value} {v : AV} {h' : Heap} (ha : F2 (VRel ι) args us)
    (hv : builtinActA P h b ts args = some (v, h')) :
    ∃ ι' v' w', (builtin b ts ty cs us.toArray).run P w = .ok (.value v') w' ∧ VRel ι' v v' ∧ R B ι' h' w'.heap ∧ Step ι h w ι' h' w' := by
  have tup : VRel ι (.tuple []) (.tuple #[]) := by rw [VRel]; exact ⟨[], rfl, VRelL_iff.2 .nil⟩
  unfold builtinActA at hv
  split at hv
  · rename_i s x
    cases ha with
    | cons h1 ha =>
      cases ha with
      | cons h2 ha =>
        cases ha
        rename_i u z
        split at hv
        · rename_i t e ht hu2
          obtain ⟨t2, ht2, hu2⟩ := Option.map_eq_some_iff.1 hu2
          obtain ⟨ι', v', w', g1, g2⟩ := append_sound (ty := ty) hR ht ht2 hu2 (.inr ⟨e, rfl⟩) h1 h2 hv
          exact ⟨ι', v', w', by simp [builtin, g1], g2⟩
        · rename_i t ht hu2
          obtain ⟨t2, ht2, hu2⟩ := Option.map_eq_some_iff.1 hu2
          obtain ⟨ι', v', w', g1, g2⟩ := append_sound (ty := ty) hR ht ht2 hu2 (.inl rfl) h1 h2 hv
          exact ⟨ι', v', w', by simp [builtin, g1], g2⟩
        · cases hv
  · rename_i d x
    cases ha with
    | cons h1 ha =>
      cases ha with
      | cons h2 ha =>
        cases ha
        obtain ⟨t, ht, hv⟩ := Option.bind_eq_some_iff.1 hv
        obtain ⟨v', w', g1, g2⟩ := copy_sound (ty := ty) hR ht h1 h2 hv
        exact ⟨ι, v', w', by simp [builtin, g1], g2⟩
  · rename_i p n
    cases ha with
    | cons h1 ha =>
      cases ha with
      | cons h2 ha =>
        cases ha
        rw [VRel] at h2; subst h2
        split at hv
        rotate_left
        · cases hv
        rename_i e hpe
        obtain ⟨pt, hpt, hpe⟩ := Option.map_eq_some_iff.1 hpe
        split at hv
        · rename_i hn0
          subst hn0
          simp only [Option.some.injEq, Prod.mk.injEq] at hv
          obtain ⟨rfl, rfl⟩ := hv
          obtain ⟨q, rfl⟩ : ∃ q, _ = Value.pointer q := by
            rcases p with _ | ⟨id, off⟩
            · rw [VRel] at h1; exact ⟨_, h1⟩
            · rw [VRel] at h1; obtain ⟨l, _, h1⟩ := h1; exact ⟨_, h1⟩
          refine ⟨ι, .string ⟨[].toArray⟩, w, ?_, by rw [VRel], hR, Step.refl ι h w⟩
          have h0 := run_unsafeStr0 (P := P) (w := w) (ts := ts) (ty := ty) q hpt
          simp only [builtin, Sem.run_bind]
          erw [h0]
          rfl
        rename_i hn0
        split at hv
        rotate_left
        · cases hv
        rename_i id off
        split at hv
        rotate_left
        · cases hv
        rename_i els sz el fz s hg hs
        split at hv
        rotate_left
        · cases hv
        rename_i hc
        obtain ⟨rfl, rfl, hs1, hpos, hle⟩ := hc
        simp only [Option.some.injEq, Prod.mk.injEq] at hv
        obtain ⟨rfl, rfl⟩ := hv
        obtain ⟨csA, hcs, hs⟩ := Option.bind_eq_some_iff.1 hs
        obtain ⟨l, ys, hl, hf, hlen, _, hcell, _, hext⟩ := hR.loadCells (P := P) hcs
        rw [VRel] at h1
        obtain ⟨l', e1, rfl⟩ := h1
        rw [hl] at e1; cases e1
        obtain ⟨ns, rfl, rfl⟩ := bytes_sound hf hs
        have hnl : ns.length = n.toNat := by have := hf.length; simp at this; omega
        obtain ⟨l2, e2, hlt, cs', fr, k1, k2, k3, k4, k5, k6, k7, k8, k9⟩ := hR.obj id _ hg rfl
        rw [hl] at e2; cases e2
        have hsh : w.shape? l.block = some (el, cs'.size) := by unfold World.shape?; rw [k1]
        have hlies : liesAt P P.depth el (cs'.size / P.cellsOf el) (l.base + off) el n.toNat = true := by
          have hd : P.depth = (2 * (P.types.size + Made.depth) + 1) + 1 := rfl
          have hc1 : P.cellsOf el = 1 := hs1
          rw [hd]
          simp only [liesAt, Bool.or_eq_true]
          left
          rw [hd]
          have : l.base + off + n.toNat ≤ cs'.size := by omega
          simp [rowAt, hc1, this, sameLayout, Nat.mod_one]
        have hlb := run_loadBytes' (P := P) (w := w) ns ⟨l.block, l.base + off, none⟩ .empty (fun j x hx => by
          rw [add_lit]
          exact hcell j _ (by simp [hx]))
        rw [hnl] at hlb
        have hidn : id < h.next := by
          rcases Nat.lt_or_ge id h.next with q | q
          · exact q
          · rw [(hR.fresh id q).1] at hg; cases hg
        have hR1 : R B ι (h.put id .dead) w.heap := hR.kill (by rw [hg]; intro _ _ e; cases e) hidn
        have hfz : ∀ b, b ≠ l.block → (w.freeze ⟨l.block, l.base + off, none⟩ n.toNat).heap[b]? = w.heap[b]? := by
          intro b hb
          unfold World.freeze
          split
          · rfl
          · simp [Array.getElem?_modify, Ne.symm hb]
        have hfs : (w.freeze ⟨l.block, l.base + off, none⟩ n.toNat).heap.size = w.heap.size := by
          unfold World.freeze
          split
          · rfl
          · simp
        have hfo : (w.freeze ⟨l.block, l.base + off, none⟩ n.toNat).os = w.os ∧ (w.freeze ⟨l.block, l.base + off, none⟩ n.toNat).tape = w.tape ∧ (w.freeze ⟨l.block, l.base + off, none⟩ n.toNat).output = w.output := by
          unfold World.freeze
          split <;> exact ⟨rfl, rfl, rfl⟩
        have hOR : fz ≠ 1 → ∀ hh, ORel ι hh (w.freeze ⟨l.block, l.base + off, none⟩ n.toNat).heap l (.cells els 1 el false (Nat.max fz (off + n.toNat + 1))) := by
          intro hz1 hh
          obtain ⟨lo, hi⟩ := fr
          have hheap : (w.freeze ⟨l.block, l.base + off, none⟩ n.toNat).heap[l.block]? = some (.cells cs' el (if lo == hi then (l.base + off, l.base + off + n.toNat) else (min lo (l.base + off), max hi (l.base + off + n.toNat)))) := by
            unfold World.freeze
            rw [if_neg (by omega)]
            simp [Array.getElem?_modify, k1]
          have hmx1 : fz ≤ Nat.max fz (off + n.toNat + 1) := Nat.le_max_left ..
          have hmx2 : off + n.toNat + 1 ≤ Nat.max fz (off + n.toNat + 1) := Nat.le_max_right ..
          have hlh : lo = hi ∨ hi ≤ l.base + (fz - 1) := by
            rcases Nat.eq_zero_or_pos fz with e | e
            · have := (k9.1 rfl).2.1 e
              cases this
              exact .inl rfl
            · exact (k9.1 rfl).2.2 (by omega)
          have hhi := freeze_hi (x := l.base + off) (n := n.toNat) (a' := l.base + (Nat.max fz (off + n.toNat + 1) - 1)) hlh (by omega) (by omega)
          exact ⟨cs', _, hheap, k2, k3, k4, k5, k6, k7, k8, fun _ => ⟨.inr (.inl hhi), fun h0 => by omega, fun _ => .inr hhi⟩, k9.2⟩
        refine ⟨ι, .string ⟨(ns.map fun n => UInt8.ofNat n.toNat).toArray⟩, w.freeze ⟨l.block, l.base + off, none⟩ n.toNat, ?_, by rw [VRel], ?_, ?_⟩
        · have hng : ¬ n < 0 := by omega
          have hmx : ¬ (9223372036854775807 : Int) < n := by omega
          have h0 : (Builtin.unsafeString_ ts ty #[.pointer (some ⟨l.block, l.base + off, none⟩), .int .i64 n]).run P w = .ok (.string ⟨(ns.map fun n => UInt8.ofNat n.toNat).toArray⟩) (w.freeze ⟨l.block, l.base + off, none⟩ n.toNat) := by
            show (asInt (.int .i64 n) >>= _ : Sem Value).run P w = _
            simp [asInt, asIntOf, hpt, IntKind.max_i64, hng, hmx, hn0, elemOf, run_underlying hpe, variablesAt, hsh, hlies, hlb]
          simp only [builtin, Sem.run_bind]
          erw [h0]
          rfl
        · by_cases hz1 : fz = 1
          · rw [if_pos hz1]
            refine hR1.frameHeap (by rw [hfs]; exact Nat.le_refl _) (fun b hb => hfz b fun e => by have := hR.base l.block ⟨id, _, l, hg, rfl, hl, rfl⟩; omega) fun j o lj hgj hd hlj => ?_
            rw [Heap.get_put] at hgj
            by_cases hj : j = id
            · subst hj; simp only [if_true, Option.some.injEq] at hgj; subst hgj; cases hd
            · rw [if_neg hj] at hgj
              exact hfz _ fun e => hR.sep id j _ o l lj (fun e => hj e.symm) hg hgj rfl hd hl hlj e.symm
          · rw [if_neg hz1]
            exact hR.put hg rfl hl hfs hfz (hOR hz1 _) rfl (fun es ver e => by cases e)
        · by_cases hz1 : fz = 1
          · rw [if_pos hz1]
            have hk : Step ι h w ι (h.put id .dead) w := Step.kill (by rw [hg]; simp)
            exact ⟨hk.same, hk.next, by rw [hfs]; exact Nat.le_refl _, fun b hb hno => hfz b fun e => hno ⟨id, _, l, hg, rfl, hl, e.symm⟩, hk.own, hk.free, hk.ro, hfo.1, hfo.2.1, hfo.2.2⟩
          · rw [if_neg hz1]
            exact Step.put hR hg rfl rfl hl hfs hfz hfo.1 hfo.2.1 hfo.2.2
  · rename_i m k
    cases ha with
    | cons h1 ha =>
      cases ha with
      | cons h2 ha =>
        cases ha
        obtain ⟨t, ht, hv⟩ := Option.bind_eq_some_iff.1 hv
        obtain ⟨h2', hv2, e⟩ := Option.map_eq_some_iff.1 hv
        simp only [Prod.mk.injEq] at e
        obtain ⟨rfl, rfl⟩ := e
        obtain ⟨w', g1, g2⟩ := delete_sound (ty := ty) hR ht h1 h2 hv2
        exact ⟨ι, .tuple #[], w', by simp [builtin, g1], tup, g2⟩
  · rename_i x
    cases ha with
    | cons h1 ha =>
      cases ha
      obtain ⟨t, ht, hv⟩ := Option.bind_eq_some_iff.1 hv
      obtain ⟨h2', hv2, e⟩ := Option.map_eq_some_iff.1 hv
      simp only [Prod.mk.injEq] at e
      obtain ⟨rfl, rfl⟩ := e
      obtain ⟨w', g1, g2⟩ := clear_sound (ty := ty) hR ht h1 hv2
      exact ⟨ι, .tuple #[], w', by simp [builtin, g1], tup, g2⟩
  · cases hv

theorem run_callFunc (hN : NoOwn P) {f : FuncId} {fn : Func} (hf : P.funcs[f]? = some fn) (hb : fn.body.isNone = false) (args : Array Value) : (callFunc f args).run P w = .ok (.enter f args) w := by
  have h1 : fn.name ≠ "runtime.NumGoroutine" := by simpa using hN f fn hf
  have h2 : fn.body ≠ none := by intro e; rw [e] at hb; cases hb
  simp [callFunc, hf, h1, h2]

theorem callee_sound (hN : NoOwn P) {nt : Nat} {env : Env} {a : Act} (hE : EnvRel ι nt env a.tmps) {c : Call} {ty : TypeId} {f : FuncId} {args : List AV} (hc : calleeA P env c = some (f, args)) :
    ∃ us : List Value, F2 (VRel ι) args us ∧ (do let d ← resolve a.eval c ty; invoke d.target d.args : Sem Next).run P w = (callFunc f us.toArray).run P w := by
  have hargs := args_rel hE c.args.toList
  unfold calleeA at hc
  simp only at hc
  split at hc
  · rename_i fo hcal
    split at hc
    · rename_i f' first cap hf
      simp only [Option.some.injEq, Prod.mk.injEq] at hc
      obtain ⟨rfl, rfl⟩ := hc
      have hfr := hE.opd fo
      rw [hf, VRel] at hfr
      obtain ⟨fs, cs, hfv, h1, h2⟩ := hfr
      refine ⟨fs ++ c.args.toList.map a.eval ++ cs, ((VRelL_iff.1 h1).append hargs).append (VRelL_iff.1 h2), ?_⟩
      have e1 : (fs.toArray ++ c.args.map a.eval ++ cs.toArray) = (fs ++ c.args.toList.map a.eval ++ cs).toArray := by apply Array.ext'; simp
      simp only [resolve, hcal, Deferred.ofValue, hfv, Sem.run_bind, Sem.run_pure, Result.andThen_ok, invoke, e1]
    · cases hc
  · rename_i r name hcal
    split at hc
    · rename_i t v hr
      split at hc
      · rename_i m pe hm hu
        split at hc
        · rename_i f' hmf
          split at hc
          · rename_i hpath
            simp only [Option.some.injEq, Prod.mk.injEq] at hc
            obtain ⟨rfl, rfl⟩ := hc
            have hrr := hE.opd r
            rw [hr, VRel] at hrr
            obtain ⟨y, hy, hvy⟩ := hrr
            refine ⟨y :: c.args.toList.map a.eval, .cons hvy hargs, ?_⟩
            obtain ⟨ti, hti, hmm⟩ : ∃ ti, P.info? t = some ti ∧ ti.methods.find? (·.name == name) = some m := by
              obtain ⟨ms, h1, h2⟩ := Option.bind_eq_some_iff.1 hm
              obtain ⟨ti, h3, rfl⟩ := Option.map_eq_some_iff.1 h1
              exact ⟨ti, h3, h2⟩
            have hp0 : m.path = #[] := by simpa using hpath
            have e1 : (#[y] ++ c.args.map a.eval) = (y :: c.args.toList.map a.eval).toArray := by apply Array.ext'; simp
            have hti' : (typeInfo t).run P w = .ok ti w := by simp [typeInfo, hti]
            have hmeth : ∀ n, (method (n + 1) t y name).run P w = .ok (f', y) w := by
              intro n
              simp only [method, Sem.run_bind, hti', Result.andThen_ok, hmm, hp0, follow, Sem.run_pure, hmf, receiverAt, run_underlying hu, Place.get]
            obtain ⟨n, hn⟩ : ∃ n, P.types.size + Made.depth = n + 1 := ⟨P.types.size + 99, rfl⟩
            have e4 : (#[Value.iface t y] ++ c.args.map a.eval) = (Value.iface t y :: c.args.toList.map a.eval).toArray := by apply Array.ext'; simp
            have e0 : (#[Value.iface t y] ++ c.args.map a.eval)[0]? = some (.iface t y) := by rw [e4]; rfl
            have e3 : (#[Value.iface t y] ++ c.args.map a.eval).extract 1 (#[Value.iface t y] ++ c.args.map a.eval).size = c.args.map a.eval := by
              apply Array.ext'; simp
              exact List.take_of_length_le (by simp)
            simp only [resolve, hcal, Sem.run_bind, Sem.run_pure, Result.andThen_ok, invoke, hy, e0, e3, callMethod, run_program, hn, hmeth, e1]
          · cases hc
        · cases hc
      · cases hc
    · cases hc
  · cases hc

theorem actO_all {Q : AV × Heap → Prop} {x : Option Heap} (hv : (actO x).all Q) : ∃ h', x = some h' ∧ Q (.tuple [], h') := by
  cases x with
  | none => cases hv
  | some h' => exact ⟨h', rfl, hv⟩

theorem ofOpt_all {Q : AV × Heap → Prop} {x : Option (AV × Heap)} (hv : (Res.ofOpt x).all Q) : ∃ v h', x = some (v, h') ∧ Q (v, h') := by
  cases x with
  | none => cases hv
  | some p => exact ⟨p.1, p.2, rfl, hv⟩

theorem act_wp (hN : NoOwn P) {call : CallF} (hC : CallOk P B call) (hR : R B ι h w.heap) {nt : Nat} {env : Env} {a : Act} (hE : EnvRel ι nt env a.tmps) {o : Oper} {Q : AV × Heap → Prop}
    (hv : (actA P call env h o.op).all Q) {next : Act → World → Prop} {QQ : Exit → Act → World → Prop}
    (hnext : ∀ v h' ι' v' w', Q (v, h') → VRel ι' v v' → R B ι' h' w'.heap → Step ι h w ι' h' w' → next (a.put o.dst v') w') : o.wp P a w next QQ := by
  have tup : ∀ ι', VRel ι' (.tuple []) Go.undef := fun ι' => by rw [VRel]; exact ⟨[], rfl, VRelL_iff.2 .nil⟩
  obtain ⟨dst, op, type, pos, after, guard⟩ := o
  simp only at hv
  unfold Oper.wp
  cases op <;> simp only [actA] at hv <;> try (cases hv; done)
  case store t x y =>
    obtain ⟨h', hs, hq⟩ := actO_all hv
    obtain ⟨w', g1, g2, g3⟩ := store_sound (P := P) hR (hE.opd x) (hE.opd y) hs
    simp only [execOp, Sem.run_bind, g1, Result.andThen_ok, Sem.run_pure, Oper.upon]
    exact hnext _ _ _ _ _ hq (tup ι) g2 g3
  case mapUpdate t m k x =>
    obtain ⟨h', hs, hq⟩ := actO_all hv
    obtain ⟨w', g1, g2, g3⟩ := update_sound (P := P) hR (hE.opd m) (hE.opd k) (hE.opd x) hs
    simp only [execOp, Sem.run_bind, g1, Result.andThen_ok, Sem.run_pure, Oper.upon]
    exact hnext _ _ _ _ _ hq (tup ι) g2 g3
  case insert t m k x =>
    obtain ⟨h', hs, hq⟩ := actO_all hv
    obtain ⟨w', g1, g2, g3⟩ := update_sound (P := P) hR (hE.opd m) (hE.opd k) (hE.opd x) hs
    simp only [execOp, Sem.run_bind, g1, Result.andThen_ok, Sem.run_pure, Oper.upon]
    exact hnext _ _ _ _ _ hq (tup ι) g2 g3
  case range t x =>
    obtain ⟨v, h', hs, hq⟩ := ofOpt_all hv
    obtain ⟨ι', v', w', g1, g2, g3, g4⟩ := range_sound (P := P) hR (hE.opd x) hs
    simp only [execOp, Sem.run_bind, g1, Result.andThen_ok, Sem.run_pure, Oper.upon]
    exact hnext _ _ _ _ _ hq g2 g3 g4
  case next it s =>
    obtain ⟨v, h', v', w', hq, g1, g2, g3, g4⟩ := next_sound (P := P) (ty := type) hR (hE.opd it) hv
    simp only [execOp, Sem.run_bind, g1, Result.andThen_ok, Sem.run_pure, Oper.upon]
    exact hnext _ _ _ _ _ hq g2 g3 g4
  case call c =>
    split at hv
    · rename_i b hcal
      obtain ⟨v, h', hs, hq⟩ := ofOpt_all hv
      have hargs := args_rel hE c.args.toList
      obtain ⟨ι', v', w', g1, g2, g3, g4⟩ := builtinAct_sound (P := P) (ty := type) (cs := c.args.map fun | .const _ => true | _ => false) hR hargs hs
      have e1 : (c.args.map a.eval) = (c.args.toList.map a.eval).toArray := by apply Array.ext'; simp
      rw [← e1] at g1
      simp only [execOp, resolve, hcal, Sem.run_bind, Sem.run_pure, Result.andThen_ok, invoke]
      refine Eq.mpr (congrArg (Oper.upon P _ a next QQ) g1) ?_
      exact hnext _ _ _ _ _ hq g2 g3 g4
    · split at hv
      · rename_i f args hca
        obtain ⟨us, h1, h2⟩ := callee_sound (w := w) (ty := type) hN hE hca
        simp only [execOp]
        rw [h2]
        rcases hC ι h w f args us Q hR h1 hv with ⟨⟨fn, hfn, hb⟩, h4⟩ | ⟨v', w', h3, v, h', ι', hq, g2, g3, g4⟩
        · rw [run_callFunc hN hfn hb]
          simp only [Oper.upon]
          refine h4.mono ?_
          intro e w' he
          cases e with
          | returned v' =>
            obtain ⟨v, h', ι', hq, g2, g3, g4⟩ := he
            exact hnext _ _ _ _ _ hq g2 g3 g4
          | panicked _ => exact he.elim
          | outgrown => exact he.elim
        · rw [h3]
          exact hnext _ _ _ _ _ hq g2 g3 g4
      · cases hv

theorem op_wp (hN : NoOwn P) {call : CallF} (hC : CallOk P B call) (hR : R B ι h w.heap) {nt : Nat} {env : Env} {a : Act} (hE : EnvRel ι nt env a.tmps) {o : Oper} {Q : AV × Heap → Prop}
    (hv : (opA P call env h o.op).all Q) {next : Act → World → Prop} {QQ : Exit → Act → World → Prop}
    (hnext : ∀ v h' ι' v' w', Q (v, h') → VRel ι' v v' → R B ι' h' w'.heap → Step ι h w ι' h' w' → next (a.put o.dst v') w') : o.wp P a w next QQ := by
  unfold opA at hv
  split at hv
  · split at hv
    · rename_i v hr
      obtain ⟨v', g1, g2⟩ := read_sound (P := P) hR hE hr
      unfold Oper.wp
      rw [g1]
      exact hnext _ _ _ _ _ hv g2 hR (Step.refl ι h w)
    · cases hv
  · split at hv
    · rename_i ob vf hn
      obtain ⟨v', obj, w1, g1, g2, l, hl, hown, g3⟩ := new_sound (P := P) (w := w) hE hn
      unfold Oper.wp
      rw [g1]
      have hR1 : R B ι h w1.heap := by rcases g2 with rfl | rfl <;> exact hR
      have hw1 : w1.heap = w.heap := by rcases g2 with rfl | rfl <;> rfl
      have hn0 : ι h.next = none := (hR.fresh _ (Nat.le_refl _)).2
      obtain ⟨q1, q2⟩ := g3 (ι.add h.next l) h.next (Inj.le_add hn0) (Inj.add_same _ _ _)
      obtain ⟨k1, k2, k3⟩ := R.new hR1 obj (l := l) (o := ob) (by rw [hw1]; exact hl) hown (q2 _ _ (by rw [hw1]; simp))
      refine hnext _ _ _ _ _ hv q1 k1 ?_
      rcases g2 with rfl | rfl
      · exact k2
      · exact (Step.drew ι h w).trans k2
    · cases hv
  · exact act_wp hN hC hR hE hv hnext
end
end Go.Am
end
