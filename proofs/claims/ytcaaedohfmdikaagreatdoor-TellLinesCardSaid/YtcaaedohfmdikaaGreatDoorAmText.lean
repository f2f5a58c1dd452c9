/- Part of the proof of TellLines: its text AmText. Conditions: none. -/
import Derived.Test.YtcaaedohfmdikaaGreatDoorAmAl22b
import Derived.Test.YtcaaedohfmdikaaGreatDoorAmShelf
set_option linter.unusedSimpArgs false
set_option linter.unusedVariables false
open Go Go.Am Go.Proofs Go.RowKit
namespace Go.Am

/-! ### What the laws' texts call, with inputs that are not known -/
/-- The table that Itoa reads lies below, and stays. -/
def TabAt (B : Floor) : Prop := ∀ w : World, B.n ≤ w.heap.size → (∀ b, b < B.n → w.heap[b]? = B.at_ b) → Lib.TabIs Tryz.prog w "internal/strconv.uint64pow10" .u64 Lib.pow10Tab

noncomputable def itoaA (args : List AV) (h : Heap) : Option (AV × Heap) :=
  match args with
  | [.int .i64 n] => if -9223372036854775808 ≤ n ∧ n ≤ 9223372036854775807 then some (.str (Lib.itoa n), h) else none
  | _ => none

section
variable {B : Floor} {ι : Inj} {h : Heap} {w : World}

theorem itoa_sound (hT : TabAt B) (hR : R B ι h w.heap) {args : List AV} {us : List Value} {v : AV} {h' : Heap} (ha : F2 (VRel ι) args us) (hv : itoaA args h = some (v, h')) {Q : AV × Heap → Prop} (hq : Q (v, h')) :
    CallRes Tryz.prog 65 us w (RetOk B ι h w Q) := by
  unfold itoaA at hv
  split at hv
  rotate_left
  · cases hv
  rename_i n
  split at hv
  rotate_left
  · cases hv
  rename_i hn
  simp only [Option.some.injEq, Prod.mk.injEq] at hv
  obtain ⟨rfl, rfl⟩ := hv
  cases ha with
  | cons h1 ha =>
    cases ha
    rw [VRel] at h1; subst h1
    refine .inl ⟨⟨_, Tryz.func65, by kernel_rfl⟩, (Tryz.strconv_Itoa n hn.1 hn.2 w (hT w hR.size hR.low)).mono ?_⟩
    rintro e w' ⟨rfl, k, os, rfl⟩
    have hb : Below w.heap.size w (Go.Sort.grow (w.drewN k) os) := ⟨rfl, rfl, rfl, by simp [Go.Sort.grow, World.drewN], fun b hb => by
      show (w.heap ++ os)[b]? = _
      rw [Array.getElem?_append_left hb]⟩
    obtain ⟨g1, g2⟩ := R.grow hR hb
    exact ⟨_, _, ι, hq, by rw [VRel], g1, g2⟩

noncomputable def strsOf : List AV → Option (List (List UInt8))
  | [] => some []
  | .str s :: r => (strsOf r).map (s :: ·)
  | _ => none
theorem strsOf_rel : ∀ {l : List AV} {xs : List (List UInt8)} {ys : List Value}, strsOf l = some xs → F2 (VRel ι) l ys → ys = xs.map fun s => Value.string ⟨s.toArray⟩
  | [], xs, ys, h, hf => by simp only [strsOf, Option.some.injEq] at h; subst h; cases hf; rfl
  | .str s :: r, xs, ys, h, hf => by
    simp only [strsOf, Option.map_eq_some_iff] at h
    obtain ⟨xs', h1, rfl⟩ := h
    cases hf with
    | cons g1 g2 => rw [VRel] at g1; rw [g1, strsOf_rel h1 g2]; rfl
  | .undef :: _, _, _, h, _ | .bool _ :: _, _, _, h, _ | .int _ _ :: _, _, _, h, _ | .ptr _ :: _, _, _, h, _ | .slice _ _ _ :: _, _, _, h, _ | .map _ :: _, _, _, h, _ | .func _ _ _ :: _, _, _, h, _ | .nilFunc :: _, _, _, h, _ | .iface _ _ :: _, _, _, h, _ | .nilIface :: _, _, _, h, _ | .agg _ :: _, _, _, h, _ | .tuple _ :: _, _, _, h, _ => by simp [strsOf] at h

noncomputable def joinA (args : List AV) (h : Heap) : Option (AV × Heap) :=
  match args with
  | [.slice none 0 _, .str sep] => some (.str [], h)
  | [.slice (some (id, off)) n _, .str sep] => if n = 0 then some (.str [], h) else match (loadCellsA h id off n).bind strsOf with
    | some xs => if n ≠ 0 ∧ (Lib.join xs sep).length ≤ 140737488355328 ∧ n ≤ 1000 then some (.str (Lib.join xs sep), h) else none
    | none => none
  | _ => none

theorem join_sound (hR : R B ι h w.heap) {args : List AV} {us : List Value} {v : AV} {h' : Heap} (ha : F2 (VRel ι) args us) (hv : joinA args h = some (v, h')) {Q : AV × Heap → Prop} (hq : Q (v, h')) :
    CallRes Tryz.prog 66 us w (RetOk B ι h w Q) := by
  have hfn : ∃ fn, Tryz.prog.funcs[66]? = some fn ∧ fn.body.isNone = false := ⟨_, Tryz.func66, by kernel_rfl⟩
  unfold joinA at hv
  split at hv
  · simp only [Option.some.injEq, Prod.mk.injEq] at hv
    obtain ⟨rfl, rfl⟩ := hv
    cases ha with
    | cons h1 ha =>
      cases ha with
      | cons h2 ha =>
        cases ha
        rw [VRel] at h1; rw [VRel] at h2
        obtain ⟨_, _, rfl⟩ := h1
        subst h2
        refine .inl ⟨hfn, (Tryz.strings_Join_none none 0 _ w).mono ?_⟩
        rintro e w' ⟨rfl, rfl⟩
        exact ⟨_, _, ι, hq, by rw [VRel], hR, Step.refl _ _ _⟩
  · rename_i id off n c sep
    split at hv
    · rename_i hn0
      subst hn0
      simp only [Option.some.injEq, Prod.mk.injEq] at hv
      obtain ⟨rfl, rfl⟩ := hv
      cases ha with
      | cons h1 ha =>
        cases ha with
        | cons h2 ha =>
          cases ha
          rw [VRel] at h2; subst h2
          obtain ⟨a, cap, rfl⟩ : ∃ a cap, ‹Value› = .slice (some a) 0 cap := by
            cases c with
            | none => rw [VRel] at h1; obtain ⟨_, a, cap, _, rfl, _⟩ := h1; exact ⟨a, cap, rfl⟩
            | some c => rw [VRel] at h1; obtain ⟨_, a, _, _, rfl, _⟩ := h1; exact ⟨a, c, rfl⟩
          refine .inl ⟨hfn, (Tryz.strings_Join_none (some a) cap _ w).mono ?_⟩
          rintro e w' ⟨rfl, rfl⟩
          exact ⟨_, _, ι, hq, by rw [VRel], hR, Step.refl _ _ _⟩
    split at hv
    rotate_left
    · cases hv
    rename_i xs hxs
    split at hv
    rotate_left
    · cases hv
    rename_i hc
    obtain ⟨hn0, hlen, hn1⟩ := hc
    simp only [Option.some.injEq, Prod.mk.injEq] at hv
    obtain ⟨rfl, rfl⟩ := hv
    rw [Option.bind_eq_some_iff] at hxs
    obtain ⟨cs, hcs, hst⟩ := hxs
    cases ha with
    | cons h1 ha =>
      cases ha with
      | cons h2 ha =>
        cases ha
        rw [VRel] at h2; subst h2
        unfold loadCellsA at hcs
        split at hcs
        rotate_left
        · cases hcs
        rename_i els sz el ro fz hg
        obtain ⟨l, hl, hlt, cells, fr, k1, k2, k3, k4, k5, k6, k7, k8, k9⟩ := hR.obj id _ hg rfl
        obtain ⟨g1, g2⟩ := getC_spec k2 k3 hcs
        obtain ⟨cap, hu, hcap⟩ : ∃ cap, ‹Value› = .slice (some ⟨l.block, l.base + off, none⟩) n cap ∧ n ≤ cap := by
          cases c with
          | none =>
            rw [VRel] at h1
            obtain ⟨l', a, cap, e1, rfl, hle, h3⟩ := h1
            rw [hl] at e1; cases e1
            rcases h3 with ⟨rfl, _⟩ | ⟨h0, _⟩
            · exact ⟨cap, rfl, hle⟩
            · omega
          | some c =>
            rw [VRel] at h1
            obtain ⟨l', a, e1, hle, rfl, h3⟩ := h1
            rw [hl] at e1; cases e1
            rcases h3 with rfl | h0
            · exact ⟨c, rfl, hle⟩
            · omega
        subst hu
        have hf2 : F2 (VRel ι) cs ((((cells.toList.drop l.base).take l.ext).drop off).take n) := by
          rw [g2]; exact (k8.drop off).take n
        have hys := strsOf_rel hst hf2
        have hxl : xs.length = n := by
          have h1 := congrArg List.length hys
          have h2 := hf2.length
          have h3 : cs.length = n := by rw [g2, List.length_take, List.length_drop]; omega
          simp only [List.length_map] at h1
          omega
        obtain ⟨bs, hbs⟩ : ∃ bs : List ByteArray, bs = xs.map fun s => ⟨s.toArray⟩ := ⟨_, rfl⟩
        have hbl : bs.length = n := by rw [hbs, List.length_map]; exact hxl
        have hmap : bs.map (·.data.toList) = xs := by rw [hbs, List.map_map]; simp [Function.comp_def]
        have hcells : ∀ (j : Nat) x, bs[j]? = some x → w.cell? ⟨l.block, l.base + off + j, none⟩ = some (.string x) := by
          intro j x hj
          have hjn : j < n := by rw [← hbl]; exact (List.getElem?_eq_some_iff.1 hj).1
          have h1 : (xs.map fun s => Value.string ⟨s.toArray⟩)[j]? = some (.string x) := by
            rw [hbs, List.getElem?_map] at hj
            rw [List.getElem?_map]
            cases hxj : xs[j]? with
            | none => rw [hxj] at hj; cases hj
            | some y => rw [hxj] at hj; cases hj; rfl
          rw [← hys, List.getElem?_take, if_pos hjn, List.getElem?_drop, List.getElem?_take, if_pos (by omega), List.getElem?_drop] at h1
          simp only [World.cell?, k1]
          rw [show l.base + off + j = l.base + (off + j) by omega]
          simpa using h1
        have hj := Tryz.strings_Join l.block (l.base + off) cap bs ⟨sep.toArray⟩ w hcells hlt (by omega) (by omega) (by rw [hmap]; simpa using hlen)
        rw [hmap, hbl] at hj
        refine .inl ⟨hfn, hj.mono ?_⟩
        rintro e w' ⟨rfl, hb⟩
        obtain ⟨q1, q2⟩ := R.grow hR hb
        exact ⟨_, _, ι, hq, by rw [VRel], q1, q2⟩
  · cases hv

/-- The document's example, in whatever heap. -/
noncomputable def aliveA (args : List AV) (h : Heap) : Option (AV × Heap) :=
  match args with
  | [] => some (.bool true, h)
  | _ => none
theorem alive_sound (hR : R B ι h w.heap) {args : List AV} {us : List Value} {v : AV} {h' : Heap} (ha : F2 (VRel ι) args us) (hv : aliveA args h = some (v, h')) {Q : AV × Heap → Prop} (hq : Q (v, h')) :
    CallRes Tryz.prog 18 us w (RetOk B ι h w Q) := by
  unfold aliveA at hv
  split at hv
  rotate_left
  · cases hv
  simp only [Option.some.injEq, Prod.mk.injEq] at hv
  obtain ⟨rfl, rfl⟩ := hv
  cases ha
  refine .inl ⟨⟨_, Tryz.func18, by kernel_rfl⟩, (alive22_calls w).mono ?_⟩
  rintro e w' ⟨rfl, hb⟩
  obtain ⟨q1, q2⟩ := R.grow hR hb
  exact ⟨_, _, ι, hq, by rw [VRel], q1, q2⟩
end

/-- What is known ahead of the laws of layer 22. -/
noncomputable def IT : Intr := fun f args h =>
  if f = 65 then (itoaA args h).map .ok else if f = 66 then (joinA args h).map .ok else if f = 18 then (aliveA args h).map .ok else I1 f args h
theorem IT_ok {B : Floor} (hT : TabAt B) : IntrOk Tryz.prog B IT := by
  intro ι h w f args us r Q hr hR hA hv
  unfold IT at hr
  split at hr
  · rename_i e; subst e
    obtain ⟨p, hp, rfl⟩ := Option.map_eq_some_iff.1 hr
    obtain ⟨v, h'⟩ := p
    exact itoa_sound hT hR hA hp hv
  split at hr
  · rename_i e; subst e
    obtain ⟨p, hp, rfl⟩ := Option.map_eq_some_iff.1 hr
    obtain ⟨v, h'⟩ := p
    exact join_sound hR hA hp hv
  split at hr
  · rename_i e; subst e
    obtain ⟨p, hp, rfl⟩ := Option.map_eq_some_iff.1 hr
    obtain ⟨v, h'⟩ := p
    exact alive_sound hR hA hp hv
  · exact I1_ok B ι h w f args us r Q hr hR hA hv
theorem callT {B : Floor} (hT : TabAt B) (n : Nat) : CallOk Tryz.prog B (callA Tryz.prog IT n) := callA_ok noOwn mixed (IT_ok hT) n
end Go.Am
