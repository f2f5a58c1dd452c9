/-
  PROVED: the law TellWords: of all that can happen, and of all that can be wrong, the words are as said: for every input the call returns true, and its arguments read as they did. CONDITIONS: the row's own: the package-level variables that it lists hold what the program's text lays (the card ties them).
-/
import Derived.Test.YtcaaedohfmdikaaGreatDoorAmTell3
import Derived.Test.YtcaaedohfmdikaaGreatDoorTellWordsF
import Derived.Test.YtcaaedohfmdikaaGreatDoorTie
import Derived.Test.YtcaaedohfmdikaaGreatDoorCards
import Derived.ProofKit
import Derived.Lay
import Derived.LaidOnce
import Derived.SevenTiedAt
import Derived.Lib.LaidTab
import Derived.ChangeMaps5
import Derived.OpenShut
import Derived.Stop.LaidErr
namespace Go.Proofs.YtcaaedohfmdikaaGreatDoor
open Go.ChangeShapes Go.ChangeMaps Go.WideShapes Go.ChangeAt Go.RowKit Go.Am

theorem pow_global : Tryz.prog.globalNamed "internal/strconv.uint64pow10" = some 3 := by kernel_rfl
theorem pow_type : (Tryz.prog.globals[3]?).map (·.type) = some 425 := by kernel_rfl

/-- What the row lists. -/
noncomputable def listed : List (String × DataW Unit) := Rows.tellWordsRow.laid

/-- Itoa's table, out of the row's condition. -/
theorem pow_of_laid {W : World} (h : laidMet Tryz.prog listed W) : Lib.TabIs Tryz.prog W "internal/strconv.uint64pow10" .u64 Lib.pow10Tab := by
  have h2 := laidMet.tail (laidMet.tail h)
  exact Lib.tabIs_of_head (t := 425) (e := 238) (n := 20) pow_global pow_type (by kernel_rfl) (by kernel_rfl) (by kernel_rfl) (by kernel_rfl) h2
theorem pow_lies {W : World} (h : Lib.TabIs Tryz.prog W "internal/strconv.uint64pow10" .u64 Lib.pow10Tab) (g : Nat) (hg : Tryz.prog.globalNamed "internal/strconv.uint64pow10" = some g) : g < W.heap.size := by
  obtain rfl := Option.some.inj (pow_global.symm.trans hg)
  have hc := Lib.TabIs.cell h pow_global 0 (by decide)
  rcases Nat.lt_or_ge 3 W.heap.size with h1 | h1
  · exact h1
  · simp [World.cell?, Array.getElem?_eq_none h1] at hc

/-- Arguments that fit. -/
def args0 : Array Value := #[.int .i64 0, .int .i64 0, .int .i64 0, .string ⟨#[]⟩, .string ⟨#[]⟩]
theorem jhead : (Tryz.prog.inits.idxOf? 4) = none := by kernel_rfl

set_option maxRecDepth 100000 in
theorem lifted (os : Os) (started : os.Started) (H : Type) (enc : TypeId × Value → H) :
    ReturnsInHanded {} Tryz.checked os 4 .any (fun w args => (Rows.tellWordsSpec.pre enc Tryz.prog Tryz.f4 [] false w args ∧ laidMetH Tryz.prog listed w) ∧ sizedMet enc Tryz.prog Tryz.f4 (OpenSpec.ofChange Rows.tellWordsSpec) false w args)
      (Rows.tellWordsSpec.post enc Tryz.prog Tryz.f4 false true false false) := by
  refine returnsInHanded_of_change_and (C := Tryz.checked) (X := fun w _ => laidMetH Tryz.prog listed w) (fun _ _ _ hh h => h.of_heap hh) jown started jhead Tryz.func4
    (ChangeSpec.witness_shaped (enc := enc) (C := Tryz.checked) (os := os) (X := fun w _ => laidMetH Tryz.prog listed w) false (World.laidAll Tryz.prog os listed) args0 8 (World.laidAll_os _ _ _)
      (World.shaped_of_ZipB (by kernel_rfl) (by kernel_rfl)) (by kernel_rfl) (by kernel_rfl) (by kernel_rfl)
      (by rw [MakeChecks.laidMetH_plain _ _ _ (by kernel_rfl)]; exact laidMet_laidAll _ (by kernel_rfl) (by kernel_rfl))) ?_
  intro W base args ds gs before hval0 hW _ _ hL _
  have hval : ∀ (j : Nat) t v, Tryz.f4.params[j]? = some t → args[j]? = some v → Value.okWide Tryz.prog W .any base t v := hval0
  have hW' := hW
  obtain ⟨p, q, hA0, hV, rfl, _, _⟩ := hW
  have hA : DataW.TrodAll enc Tryz.prog W 0 (fun _ => true) true Tryz.f4.params.toList args.toList ds p := hA0
  rw [Tryz.params4] at hA hval
  obtain ⟨v0, vs0, d0, ds0, p0, q0, e0, rfl, rfl, t0, hA⟩ := trodAll_cons hA
  obtain ⟨v1, vs1, d1, ds1, p1, q1, rfl, rfl, rfl, t1, hA⟩ := trodAll_cons hA
  obtain ⟨v2, vs2, d2, ds2, p2, q2, rfl, rfl, rfl, t2, hA⟩ := trodAll_cons hA
  obtain ⟨v3, vs3, d3, ds3, p3, q3, rfl, rfl, rfl, t3, hA⟩ := trodAll_cons hA
  obtain ⟨v4, vs4, d4, ds4, p4, q4, rfl, rfl, rfl, t4, hA⟩ := trodAll_cons hA
  obtain ⟨rfl, rfl, rfl⟩ := trodAll_nil hA
  have ea : args = #[v0, v1, v2, v3, v4] := by cases args; simp_all
  subst ea
  obtain ⟨rfl, rfl⟩ := trodVars_none hV
  obtain ⟨kind, rfl, rfl, rfl, w0⟩ := open_int Tryz.underlying3 (hval 0 3 v0 rfl rfl) t0
  obtain ⟨phase, rfl, rfl, rfl, w1⟩ := open_int Tryz.underlying3 (hval 1 3 v1 rfl rfl) t1
  obtain ⟨e, rfl, rfl, rfl, w2⟩ := open_int Tryz.underlying3 (hval 2 3 v2 rfl rfl) t2
  obtain ⟨name, rfl, rfl, rfl, w3⟩ := open_string Tryz.underlying9 (hval 3 9 v3 rfl rfl) t3
  obtain ⟨what, rfl, rfl, rfl, w4⟩ := open_string Tryz.underlying9 (hval 4 9 v4 rfl rfl) t4
  simp only [List.append_nil] at hW'
  rw [MakeChecks.laidMetH_plain _ _ _ (by kernel_rfl)] at hL
  have hT := pow_of_laid hL
  refine (words_calls W hT (pow_lies hT) kind phase e name what).mono fun x W' ⟨he, hb⟩ => ?_
  subst he
  exact ⟨_, rfl, _, _, _, [], [], [], hW', trodAll_mk1 (shut_bool Tryz.underlying4 _),
    trodAll_cons_mk (shut_int Tryz.underlying3 w0) (trodAll_cons_mk (shut_int Tryz.underlying3 w1) (trodAll_cons_mk (shut_int Tryz.underlying3 w2) (trodAll_cons_mk (shut_string Tryz.underlying9 w3) (trodAll_mk1 (shut_string Tryz.underlying9 w4))))),
    rfl, hb.frame _, fun h => by cases h⟩

theorem words_row : Rows.TellWordsSaid :=
  OpenClaim.holds_of_wide 4 Tryz.f4 rfl rfl rfl rfl rfl rfl rfl ⟨rfl, rfl, rfl, rfl, rfl⟩ rfl rfl rfl rfl rfl jnamed Tryz.func4 joined jinst jwrap
    (fun os started H enc _ => lifted os started H enc)

/-- The tied card of TellWords. -/
theorem words_holds : Rows.TellWordsCardSaid :=
  Claim7.holds_tied_plain_at .later [] [.data, .data, .data, .data, .sentinel, .sentinel, .pinned] true (true, "ba22f6ecb7e1fbff4d02c4a618b671b3c78bbea0d6346c5353a9f02870dbbda4") true words_row (fun _ h => by cases h) jwfText (fun _ h => by cases h) tellWords_row_tie rfl ⟨rfl, rfl⟩ jmain rfl
    (fun f fn hf hfn => by
      obtain rfl : f = 4 := Option.some.inj (jnamed.symm.trans hf) |>.symm
      obtain rfl : fn = Tryz.f4 := (Option.some.inj (Tryz.func4.symm.trans hfn)).symm
      exact ⟨jlooks, fun j t ht => by
        rw [Tryz.params4] at ht
        have hm : t ∈ [3, 3, 3, 9, 9] := by simpa using Array.mem_of_getElem? ht
        exact (show Tryz.prog.wantsStandIn t = false by simpa using List.all_eq_true.1 jstand t hm)⟩)
    jgoes
#print axioms words_holds
end Go.Proofs.YtcaaedohfmdikaaGreatDoor
