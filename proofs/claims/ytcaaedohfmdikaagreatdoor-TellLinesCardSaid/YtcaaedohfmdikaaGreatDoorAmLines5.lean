/- Part of the proof of TellLines: its text AmLines5. Conditions: none. -/
import Derived.Test.YtcaaedohfmdikaaGreatDoorAmLines4
import Derived.Deep.Slices
set_option linter.unusedVariables false
set_option linter.unusedSimpArgs false
open Go Go.Am Go.Proofs Go.RowKit
namespace Go.Am

/-- A line as the machine has it: number i + 1. -/
def rowAt (F : Nat → Option Addr × Nat × List ByteArray) (i : Nat) : RowIn := ⟨(F i).1.map fun _ => (i + 1, 0), some (F i).2.1, (F i).2.2.map (·.data.toList)⟩
def innerAt (hp : Array Obj) (F : Nat → Option Addr × Nat × List ByteArray) (i : Nat) : Option (Nat × AObj) :=
  match (F i).1 with
  | some x => if (F i).2.2 = [] then none else some (i + 1, .cells (ones ((rowAt F i).words.map .str)) 1 (elAt hp x.block) true 0)
  | none => none
def inIota (hp : Array Obj) (a : Option Addr) (len : Nat) (F : Nat → Option Addr × Nat × List ByteArray) : Inj := fun id =>
  if id = 0 then a.map fun x => ⟨x.block, x.off, totAt hp x.block, len, 1⟩
  else if id ≤ len then (F (id - 1)).1.map fun x => ⟨x.block, x.off, totAt hp x.block, (F (id - 1)).2.2.length, 1⟩ else none
def inObjs (hp : Array Obj) (a : Option Addr) (len : Nat) (F : Nat → Option Addr × Nat × List ByteArray) : List (Nat × AObj) :=
  (if len = 0 then [] else [(0, .cells (ones (((List.range len).map (rowAt F)).map RowIn.av)) 1 (elAt hp ((a.map (·.block)).getD 0)) true 0)]) ++ (List.range len).filterMap (innerAt hp F)

theorem innerAt_key {hp : Array Obj} {F : Nat → Option Addr × Nat × List ByteArray} {i : Nat} {p : Nat × AObj} (h : innerAt hp F i = some p) : p.1 = i + 1 ∧ ∃ x, (F i).1 = some x ∧ (F i).2.2 ≠ [] ∧ p.2 = .cells (ones ((rowAt F i).words.map .str)) 1 (elAt hp x.block) true 0 := by
  unfold innerAt at h
  split at h
  · rename_i x hx
    split at h
    · cases h
    · rename_i hne
      cases h
      exact ⟨rfl, x, hx, hne, rfl⟩
  · cases h

theorem inObjs_keys (hp : Array Obj) (a : Option Addr) (len : Nat) (F : Nat → Option Addr × Nat × List ByteArray) : (inObjs hp a len F).Pairwise fun p q => p.1 ≠ q.1 := by
  unfold inObjs
  rw [List.pairwise_append]
  refine ⟨?_, ?_, ?_⟩
  · split <;> simp
  · rw [List.pairwise_filterMap]
    refine List.Pairwise.imp ?_ List.pairwise_lt_range
    intro i j hij p hp1 q hq1
    have h1 := (innerAt_key hp1).1
    have h2 := (innerAt_key hq1).1
    omega
  · intro p hp1 q hq1
    rw [List.mem_filterMap] at hq1
    obtain ⟨j, _, hj⟩ := hq1
    have h2 := (innerAt_key hj).1
    split at hp1
    · cases hp1
    · simp only [List.mem_singleton] at hp1
      subst hp1
      simp only
      omega

theorem inObjs_mem {hp : Array Obj} {a : Option Addr} {len : Nat} {F : Nat → Option Addr × Nat × List ByteArray} {id : Nat} {o : AObj} (hm : (id, o) ∈ inObjs hp a len F) :
    (id = 0 ∧ len ≠ 0 ∧ o = .cells (ones (((List.range len).map (rowAt F)).map RowIn.av)) 1 (elAt hp ((a.map (·.block)).getD 0)) true 0) ∨
    ∃ i, i < len ∧ id = i + 1 ∧ ∃ x, (F i).1 = some x ∧ (F i).2.2 ≠ [] ∧ o = .cells (ones ((rowAt F i).words.map .str)) 1 (elAt hp x.block) true 0 := by
  unfold inObjs at hm
  rcases List.mem_append.1 hm with hm | hm
  · split at hm
    · cases hm
    · rename_i h0
      simp only [List.mem_singleton, Prod.mk.injEq] at hm
      exact .inl ⟨hm.1, h0, hm.2⟩
  · rw [List.mem_filterMap] at hm
    obtain ⟨i, hi, hj⟩ := hm
    obtain ⟨h1, x, h2, h3, h4⟩ := innerAt_key hj
    exact .inr ⟨i, List.mem_range.1 hi, h1, x, h2, h3, h4⟩

theorem row_vrel {w : World} {a : Option Addr} {len i : Nat} {F : Nat → Option Addr × Nat × List ByteArray} {v : Value} (hi : i < len) (hr : InRow w v (F i).1 (F i).2.1 (F i).2.2) : VRel (inIota w.heap a len F) (rowAt F i).av v := by
  rw [hr.val]
  unfold rowAt RowIn.av
  cases hA : (F i).1 with
  | none =>
    obtain ⟨h1, h2⟩ := hr.isnil hA
    rw [h1, h2]
    simp only [Option.map_none, List.map_nil, List.length_nil]
    rw [VRel]
    exact ⟨rfl, rfl, rfl⟩
  | some x =>
    simp only [Option.map_some, List.length_map]
    rw [VRel]
    have hl : inIota w.heap a len F (i + 1) = some ⟨x.block, x.off, totAt w.heap x.block, (F i).2.2.length, 1⟩ := by
      unfold inIota
      rw [if_neg (by omega), if_pos (by omega)]
      simp [hA]
    refine ⟨_, x, hl, hr.le, rfl, ?_⟩
    by_cases hC : (F i).2.1 = 0
    · exact .inr hC
    · have hs := hr.spot x hA hC
      obtain ⟨b, o, s⟩ := x
      simp only at hs
      subst hs
      exact .inl rfl

theorem in_R (w : World) (a : Option Addr) (len cap : Nat) (hlc : len ≤ cap) (hnil : a = none → cap = 0) (hsp : ∀ x, a = some x → cap ≠ 0 → x.spot = none) (V : Nat → Value) (hcell : ∀ x, a = some x → ∀ i, i < len → w.cell? (x.add i) = some (V i))
    (F : Nat → Option Addr × Nat × List ByteArray) (hrow : ∀ i, i < len → InRow w (V i) (F i).1 (F i).2.1 (F i).2.2) :
    R ⟨w.heap.size, fun b => w.heap[b]?⟩ (inIota w.heap a len F) (heapOf (inObjs w.heap a len F) (len + 1)) w.heap := by
  have hro : ∀ id o, (heapOf (inObjs w.heap a len F) (len + 1)).get id = some o → o.owns = false := by
    intro id o hg
    rcases inObjs_mem (heapOf_mem hg) with ⟨_, _, rfl⟩ | ⟨i, _, _, x, _, _, rfl⟩ <;> rfl
  refine { obj := ?_, sep := ?_, fresh := ?_, base := ?_, size := Nat.le_refl _, low := fun _ _ => rfl }
  · intro id o hg _
    rcases inObjs_mem (heapOf_mem hg) with ⟨rfl, h0, rfl⟩ | ⟨i, hi, rfl, x, hx, hne, rfl⟩
    · cases a with
      | none => have := hnil rfl; omega
      | some x =>
        have hl : inIota w.heap (some x) len F 0 = some ⟨x.block, x.off, totAt w.heap x.block, len, 1⟩ := by simp [inIota]
        have hs := hsp x rfl (by omega)
        have := orel_ro (ι := inIota w.heap (some x) len F) (h := heapOf (inObjs w.heap (some x) len F) (len + 1)) (w := w) (a := x) (vs := ((List.range len).map (rowAt F)).map RowIn.av) (by simpa using h0) hs (f := V)
          (fun j hj => hcell x rfl j (by simpa using hj)) (fun j v hj => by
            rw [List.getElem?_map, List.getElem?_map] at hj
            by_cases hjl : j < len
            · rw [List.getElem?_range hjl] at hj
              simp only [Option.map_some, Option.some.injEq] at hj
              subst hj
              exact row_vrel hjl (hrow j hjl)
            · rw [List.getElem?_eq_none (by simpa using hjl)] at hj
              cases hj)
        simp only [List.length_map, List.length_range] at this
        exact ⟨_, hl, this.1, this.2⟩
    · have hr := hrow i hi
      have hl : inIota w.heap a len F (i + 1) = some ⟨x.block, x.off, totAt w.heap x.block, (F i).2.2.length, 1⟩ := by
        unfold inIota
        rw [if_neg (by omega), if_pos (by omega)]
        simp [hx]
      have hC : (F i).2.1 ≠ 0 := by
        intro e
        have := hr.le
        rw [e] at this
        exact hne (List.eq_nil_of_length_eq_zero (by omega))
      have hs := hr.spot x hx hC
      have := orel_ro (ι := inIota w.heap a len F) (h := heapOf (inObjs w.heap a len F) (len + 1)) (w := w) (a := x) (vs := (rowAt F i).words.map .str) (by simpa [rowAt] using hne) hs (f := fun j => .string ((F i).2.2.getD j default))
        (fun j hj => by
          have hj' : j < (F i).2.2.length := by simpa [rowAt] using hj
          refine hr.cells x hx j _ ?_
          simp [List.getD, hj'])
        (fun j v hj => by
          simp only [rowAt, List.map_map, List.getElem?_map, Option.map_eq_some_iff] at hj
          obtain ⟨s, hs, rfl⟩ := hj
          simp only [Function.comp]
          rw [VRel]
          simp [List.getD, hs])
      have hlen : ((rowAt F i).words.map AV.str).length = (F i).2.2.length := by simp [rowAt]
      rw [hlen] at this
      exact ⟨_, hl, this.1, this.2⟩
  · intro i j oi oj li lj _ hi _ ho
    rw [hro i oi hi] at ho; cases ho
  · intro id hid
    have hid' : len + 1 ≤ id := hid
    constructor
    · cases hg : (heapOf (inObjs w.heap a len F) (len + 1)).get id with
      | none => rfl
      | some o =>
        rcases inObjs_mem (heapOf_mem hg) with ⟨rfl, _, _⟩ | ⟨i, hi, rfl, _⟩ <;> omega
    · unfold inIota
      rw [if_neg (by omega), if_neg (by omega)]
  · rintro b ⟨id, o, l, hg, ho, _⟩
    rw [hro id o hg] at ho; cases ho

theorem in_ok (w : World) (a : Option Addr) (len cap : Nat) (hlc : len ≤ cap) (hnil : a = none → cap = 0) (V : Nat → Value) (F : Nat → Option Addr × Nat × List ByteArray) (hrow : ∀ i, i < len → InRow w (V i) (F i).1 (F i).2.1 (F i).2.2) :
    LinesOk (heapOf (inObjs w.heap a len F) (len + 1)) (len + 1) (a.map fun _ => (0, 0)) ((List.range len).map (rowAt F)) := by
  have hk := inObjs_keys w.heap a len F
  refine ⟨fun hne => ?_, fun r hr => ?_⟩
  · have h0 : len ≠ 0 := by rintro rfl; simp at hne
    cases a with
    | none => have := hnil rfl; omega
    | some x =>
      refine ⟨0, _, by omega, rfl, heapOf_get (o := .cells (ones (((List.range len).map (rowAt F)).map RowIn.av)) 1 (elAt w.heap x.block) true 0) ?_ hk⟩
      unfold inObjs
      rw [if_neg h0]
      simp
  · rw [List.mem_map] at hr
    obtain ⟨i, hi, rfl⟩ := hr
    have hi' := List.mem_range.1 hi
    have hrw := hrow i hi'
    refine ⟨fun e => ?_, fun hne => ?_⟩
    · simp only [rowAt, Option.map_eq_none_iff] at e
      simp [rowAt, (hrw.isnil e).1]
    · have hne' : (F i).2.2 ≠ [] := by simpa [rowAt] using hne
      cases hA : (F i).1 with
      | none => exact absurd (hrw.isnil hA).1 hne'
      | some x =>
        refine ⟨i + 1, elAt w.heap x.block, by omega, by simp [rowAt, hA], heapOf_get ?_ hk⟩
        unfold inObjs
        refine List.mem_append.2 (.inr ?_)
        rw [List.mem_filterMap]
        exact ⟨i, hi, by simp [innerAt, hA, hne']⟩

set_option maxRecDepth 100000 in
/-- TellLines, in whatever world in which Itoa's table lies. -/
theorem lines_calls (w : World) (hT : Lib.TabIs Tryz.prog w "internal/strconv.uint64pow10" .u64 Lib.pow10Tab) (hg : ∀ g, Tryz.prog.globalNamed "internal/strconv.uint64pow10" = some g → g < w.heap.size)
    (a : Option Addr) (len cap : Nat) (hlc : len ≤ cap) (hnil : a = none → cap = 0) (hsp : ∀ x, a = some x → cap ≠ 0 → x.spot = none) (V : Nat → Value) (hcell : ∀ x, a = some x → ∀ i, i < len → w.cell? (x.add i) = some (V i))
    (hrow : ∀ i, i < len → ∃ y : Option Addr × Nat × List ByteArray, InRow w (V i) y.1 y.2.1 y.2.2) :
    Calls Tryz.prog 5 #[.slice a len cap] w fun x w' => x = .returned (.bool true) ∧ Below w.heap.size w w' := by
  obtain ⟨F, hF⟩ := Go.Deep.choose_lt hrow
  have hT' : TabAt ⟨w.heap.size, fun b => w.heap[b]?⟩ := by
    intro w2 h1 h2
    unfold Lib.TabIs at hT ⊢
    rw [← hT]
    unfold World.var?
    cases hgn : Tryz.prog.globalNamed "internal/strconv.uint64pow10" with
    | none => rfl
    | some g =>
      have := h2 g (hg g hgn)
      simp [this]
  obtain ⟨N, hN⟩ : ∃ N, N = 200 := ⟨_, rfl⟩
  obtain ⟨M, hM⟩ : ∃ M, N = M + 1 := ⟨199, hN⟩
  have ha : ∀ h : Heap, callA Tryz.prog IT N 18 [] h = .ok (.bool true, h) := by
    intro h; rw [hM]; exact alive_IT M h
  have hI := fun h => IT_none5 (f := 5) [.slice (a.map fun _ => (0, 0)) ((List.range len).map (rowAt F)).length (some cap)] h rfl
  have hok := in_ok w a len cap hlc hnil V F hF
  have hrun := lines_run IT N (by omega) (a.map fun _ => (0, 0)) (some cap) ((List.range len).map (rowAt F)) (heapOf (inObjs w.heap a len F) (len + 1)) (hI _) ha (lcall_IT N (by omega)) hok
  have hlen : ((List.range len).map (rowAt F)).length = len := by simp
  rw [hlen] at hrun
  have hR := in_R w a len cap hlc hnil hsp V hcell F hF
  refine calls_of_ro (f := 5) (us := [.slice a len cap]) (args := [.slice (a.map fun _ => (0, 0)) len (some cap)]) (v := .bool true) (Tryz.call5 _ w) hT' ?_ hR ?_ hrun (fun ι u' hu => by rw [VRel] at hu; exact hu)
  · refine .cons ?_ .nil
    cases a with
    | none =>
      have h0 := hnil rfl
      subst h0
      have h1 : len = 0 := by omega
      subst h1
      rw [Option.map_none, VRel]
      exact ⟨rfl, rfl, rfl⟩
    | some x =>
      rw [Option.map_some, VRel]
      refine ⟨⟨x.block, x.off, totAt w.heap x.block, len, 1⟩, x, by simp [inIota], hlc, rfl, ?_⟩
      by_cases hc : cap = 0
      · exact .inr hc
      · have hs := hsp x rfl hc
        obtain ⟨b, o, s⟩ := x
        simp only at hs
        subst hs
        exact .inl rfl
  · intro id o hgo
    rcases inObjs_mem (heapOf_mem hgo) with ⟨_, _, rfl⟩ | ⟨i, _, _, x, _, _, rfl⟩ <;> rfl
end Go.Am
