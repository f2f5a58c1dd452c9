/-
  PROVED: the law TellLines: what is said is said word by word, with blanks between, line by line: for every input the call returns true, and its argument reads as it did. CONDITIONS: the row's own: the package-level variables that it lists hold what the program's text lays (the card ties them).
-/
import Derived.Test.YtcaaedohfmdikaaGreatDoorAmLines5
import Derived.Test.YtcaaedohfmdikaaGreatDoorTellLinesH
import Derived.Test.YtcaaedohfmdikaaGreatDoorTie
import Derived.Test.YtcaaedohfmdikaaGreatDoorCards
import Derived.ProofKit
import Derived.Lay
import Derived.LaidOnce
import Derived.SevenTiedAt
import Derived.Lib.LaidTab
import Derived.ChangeMaps5
import Derived.OpenShut
import Derived.Stop.LaidErr
import Derived.Deep.Strs
import Derived.Carry
namespace Go.Proofs.YtcaaedohfmdikaaGreatDoor
open Go.ChangeShapes Go.ChangeMaps Go.WideShapes Go.ChangeAt Go.RowKit Go.Am

theorem pow_global : Tryz.prog.globalNamed "internal/strconv.uint64pow10" = some 3 := by kernel_rfl
theorem pow_type : (Tryz.prog.globals[3]?).map (·.type) = some 425 := by kernel_rfl

/-- What the row lists. -/
noncomputable def listed : List (String × DataW Unit) := Rows.tellLinesRow.laid

/-- Itoa's table, out of the row's condition. -/
theorem pow_of_laid {W : World} (h : laidMet Tryz.prog listed W) : Lib.TabIs Tryz.prog W "internal/strconv.uint64pow10" .u64 Lib.pow10Tab := by
  have h2 := laidMet.tail (laidMet.tail h)
  exact Lib.tabIs_of_head (t := 425) (e := 238) (n := 20) pow_global pow_type (by kernel_rfl) (by kernel_rfl) (by kernel_rfl) (by kernel_rfl) h2
theorem pow_lies {W : World} (h : Lib.TabIs Tryz.prog W "internal/strconv.uint64pow10" .u64 Lib.pow10Tab) (g : Nat) (hg : Tryz.prog.globalNamed "internal/strconv.uint64pow10" = some g) : g < W.heap.size := by
  obtain rfl := Option.some.inj (pow_global.symm.trans hg)
  have hc := Lib.TabIs.cell h pow_global 0 (by decide)
  rcases Nat.lt_or_ge 3 W.heap.size with h1 | h1
  · exact h1
  · simp [World.cell?, Array.getElem?_eq_none h1] at hc

theorem cells25 : Tryz.prog.cellsOf 25 = 1 := by kernel_rfl
theorem cells9 : Tryz.prog.cellsOf 9 = 1 := by kernel_rfl

theorem spot_of_cell {W : World} {a : Addr} {v : Value} (h : W.cell? (a.add 0) = some v) : a.spot = none := by
  obtain ⟨b, o, s⟩ := a
  cases s with
  | none => rfl
  | some s =>
    exfalso
    unfold World.cell? Addr.add at h
    simp only [if_true] at h
    split at h
    · simp at h
    · cases h

/-- A line that comes in, read off its cell. -/
theorem row_opened {H : Type} {enc : TypeId × Value → H} {W : World} {n : Nat} {v : Value} {x : DataW H × List MemPlace} (h : DataW.trod enc Tryz.prog W 0 (fun _ => true) true n 25 [v] = some x) :
    ∃ y : Option Addr × Nat × List ByteArray, InRow W v y.1 y.2.1 y.2.2 := by
  rcases Go.Deep.open_strs Tryz.underlying25 Tryz.underlying9 cells9 h with ⟨hcs, _⟩ | ⟨a, len, cap, m, Sx, hcs, _, hl, _, hm, _, hc⟩
  · have hv : v = .slice none 0 0 := by simpa using hcs
    refine ⟨(none, 0, []), ?_⟩
    exact { val := by simpa using hv, isnil := fun _ => ⟨rfl, rfl⟩, le := Nat.le_refl _, spot := fun a e => (by cases e), cells := fun a e => (by cases e) }
  · have hv : v = .slice (some a) len cap := by simpa using hcs
    have hmc : m = cap := by simpa using hm
    subst hmc
    refine ⟨(some a, m, (List.range len).map Sx), ?_⟩
    refine { val := by simpa using hv, isnil := fun e => (by cases e), le := by simpa using hl, spot := fun a' e hC => ?_, cells := fun a' e j s hj => ?_ }
    · cases e
      exact spot_of_cell (hc 0 (by simp only at hC; omega)).1
    · cases e
      have hjl : j < len := by
        have := (List.getElem?_eq_some_iff.1 hj).1
        simpa using this
      simp only [List.getElem?_map, List.getElem?_range hjl, Option.map_some, Option.some.injEq] at hj
      subst hj
      exact (hc j (by omega)).1

/-- Arguments that fit. -/
def args0 : Array Value := #[.slice none 0 0]
theorem jhead : (Tryz.prog.inits.idxOf? 5) = none := by kernel_rfl

set_option maxRecDepth 100000 in
theorem lifted (os : Os) (started : os.Started) (H : Type) (enc : TypeId × Value → H) :
    ReturnsInHanded {} Tryz.checked os 5 .any (fun w args => (Rows.tellLinesSpec.pre enc Tryz.prog Tryz.f5 [] false w args ∧ laidMetH Tryz.prog listed w) ∧ sizedMet enc Tryz.prog Tryz.f5 (OpenSpec.ofChange Rows.tellLinesSpec) false w args)
      (Rows.tellLinesSpec.post enc Tryz.prog Tryz.f5 false true false false) := by
  refine returnsInHanded_of_change_and (C := Tryz.checked) (X := fun w _ => laidMetH Tryz.prog listed w) (fun _ _ _ hh h => h.of_heap hh) jown started jhead Tryz.func5
    (ChangeSpec.witness_shaped (enc := enc) (C := Tryz.checked) (os := os) (X := fun w _ => laidMetH Tryz.prog listed w) false (World.laidAll Tryz.prog os listed) args0 8 (World.laidAll_os _ _ _)
      (World.shaped_of_ZipB (by kernel_rfl) (by kernel_rfl)) (by kernel_rfl) (by kernel_rfl) (by kernel_rfl)
      (by rw [MakeChecks.laidMetH_plain _ _ _ (by kernel_rfl)]; exact laidMet_laidAll _ (by kernel_rfl) (by kernel_rfl))) ?_
  intro W base args ds gs before hval0 hW _ _ hL _
  have hval : ∀ (j : Nat) t v, Tryz.f5.params[j]? = some t → args[j]? = some v → Value.okWide Tryz.prog W .any base t v := hval0
  have hW' := hW
  obtain ⟨p, q, hA0, hV, rfl, _, _⟩ := hW
  have hA : DataW.TrodAll enc Tryz.prog W 0 (fun _ => true) true Tryz.f5.params.toList args.toList ds p := hA0
  rw [Tryz.params5] at hA hval
  obtain ⟨v0, d0, rfl, rfl, h0⟩ := trodAll_one hA
  obtain ⟨rfl, rfl⟩ := trodVars_none hV
  simp only [List.append_nil] at hW'
  have hlt : ∀ x ∈ p, x.block < W.heap.size := fun x hx => by simpa using hW'.lt x hx
  have h0k := h0
  rw [MakeChecks.laidMetH_plain _ _ _ (by kernel_rfl)] at hL
  have hT := pow_of_laid hL
  obtain ⟨a, len, cap, rfl⟩ := okWide_slice Tryz.underlying68 (hval 0 68 v0 rfl rfl)
  obtain ⟨fuel, hf⟩ := h0
  have hf' : DataW.trod enc Tryz.prog W 0 (fun _ => true) true fuel 68 [.slice a len cap] = some (d0, p) := hf
  have hcall : Calls Tryz.prog 5 #[.slice a len cap] W fun x w' => x = .returned (.bool true) ∧ Below W.heap.size W w' := by
    rcases Go.Deep.open_slice1 Tryz.underlying68 cells25 hf' with ⟨hcs, _⟩ | ⟨a', len', cap', m, n, V, D, Pl, hcs, _, hl, _, hm, _, hx⟩
    · simp only [List.cons.injEq, Value.slice.injEq, and_true] at hcs
      obtain ⟨rfl, rfl, rfl⟩ := hcs
      exact lines_calls W hT (pow_lies hT) none 0 0 (Nat.le_refl _) (fun _ => rfl) (fun x e => (by cases e)) (fun _ => default) (fun x e => (by cases e)) (fun i hi => (by omega))
    · simp only [List.cons.injEq, Value.slice.injEq, and_true] at hcs
      obtain ⟨rfl, rfl, rfl⟩ := hcs
      have hmc : m = cap := by simpa using hm
      subst hmc
      exact lines_calls W hT (pow_lies hT) (some a') len m hl (fun e => (by cases e)) (fun x e hC => by cases e; exact spot_of_cell (hx 0 (by omega)).1) V (fun x e i hi => by cases e; exact (hx i (by omega)).1) (fun i hi => row_opened (hx i (by omega)).2)
  refine hcall.mono fun x W' ⟨he, hb⟩ => ?_
  subst he
  exact ⟨_, rfl, _, _, _, [], p, [], hW', trodAll_mk1 (shut_bool Tryz.underlying4 _), trodAll_mk1 (Below.trod j2 (by kernel_rfl) (of_decide_eq_true (by kernel_rfl)) h0k hb hlt), rfl, hb.frame _, fun h => by cases h⟩

theorem lines_row : Rows.TellLinesSaid :=
  OpenClaim.holds_of_wide 5 Tryz.f5 rfl rfl rfl rfl rfl rfl rfl ⟨rfl, rfl, rfl, rfl, rfl⟩ rfl rfl rfl rfl rfl jnamed Tryz.func5 joined jinst jwrap
    (fun os started H enc _ => lifted os started H enc)

/-- The tied card of TellLines. -/
theorem lines_holds : Rows.TellLinesCardSaid :=
  Claim7.holds_tied_plain_at .later [] [.data, .data, .data, .data, .sentinel, .sentinel, .pinned] true (true, "ba22f6ecb7e1fbff4d02c4a618b671b3c78bbea0d6346c5353a9f02870dbbda4") true lines_row (fun _ h => by cases h) jwfText (fun _ h => by cases h) tellLines_row_tie rfl ⟨rfl, rfl⟩ jmain rfl
    (fun f fn hf hfn => by
      obtain rfl : f = 5 := Option.some.inj (jnamed.symm.trans hf) |>.symm
      obtain rfl : fn = Tryz.f5 := (Option.some.inj (Tryz.func5.symm.trans hfn)).symm
      exact ⟨jlooks, fun j t ht => by
        rw [Tryz.params5] at ht
        have hm : t ∈ [68] := by simpa using Array.mem_of_getElem? ht
        exact (show Tryz.prog.wantsStandIn t = false by simpa using List.all_eq_true.1 jstand t hm)⟩)
    jgoes
#print axioms lines_holds
end Go.Proofs.YtcaaedohfmdikaaGreatDoor
