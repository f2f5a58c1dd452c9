/- Part of the proof of TellLines: its text AmTell3. Conditions: none. -/
import Derived.Test.YtcaaedohfmdikaaGreatDoorAmTell2
set_option linter.unusedVariables false
set_option linter.unusedSimpArgs false
open Go Go.Am Go.Proofs Go.RowKit
namespace Go.Am

theorem IT_none {f : FuncId} {args : List AV} {h : Heap} (h65 : f ≠ 65) (h66 : f ≠ 66) (h18 : f ≠ 18) (h225 : f ≠ 225) (h304 : f ≠ 304) (h224 : f ≠ 224) (h305 : f ≠ 305) (h45 : f ≠ 45) (hk : keysNo f = none) (he : extsOf f = none) : IT f args h = none := by
  simp only [IT, I1, I0, h65, h66, h18, h225, h304, h224, h305, h45, hk, he, if_false]

theorem callA_some {P : Program} {I : Intr} {n : Nat} {f : FuncId} {args : List AV} {h : Heap} {r : Res (AV × Heap)} (hi : I f args h = some r) : callA P I (n + 1) f args h = r := by
  simp only [callA, hi]

theorem itoa_IT (n : Nat) (x : Int) (h : Heap) (h0 : -9223372036854775808 ≤ x) (h1 : x ≤ 9223372036854775807) : callA Tryz.prog IT (n + 1) 65 [.int .i64 x] h = .ok (.str (Lib.itoa x), h) := by
  refine callA_some ?_
  simp [IT, itoaA, h0, h1]
theorem join_IT (n : Nat) (args : List AV) (h : Heap) (r : AV × Heap) (hr : joinA args h = some r) : callA Tryz.prog IT (n + 1) 66 args h = .ok r := by
  refine callA_some ?_
  simp [IT, hr]
theorem alive_IT (n : Nat) (h : Heap) : callA Tryz.prog IT (n + 1) 18 [] h = .ok (.bool true, h) := by
  refine callA_some ?_
  simp [IT, aliveA]

set_option maxRecDepth 100000 in
theorem wcall_IT (n : Nat) (hn : 60 < n) (kind phase e : Int) (name what : List UInt8) (hi : WIn kind phase e name what) : WCall (callA Tryz.prog IT n) kind phase e name what := by
  obtain ⟨n1, n2, q1, q2, p1, p2, p3, p4⟩ := hi
  have no : ∀ (f : FuncId) (args : List AV) (h : Heap), (f == 19 || f == 20 || f == 21 || f == 22 || f == 23) = true → IT f args h = none := by
    intro f args h hf
    simp only [Bool.or_eq_true, beq_iff_eq] at hf
    rcases hf with (((rfl | rfl) | rfl) | rfl) | rfl <;> exact IT_none (by decide) (by decide) (by decide) (by decide) (by decide) (by decide) (by decide) (by decide) (by simp [keysNo]) (by simp [extsOf])
  have l1 : (Lib.itoa phase).length < 1000 := by rw [itoa_dig phase p2 p1]; have := digW_length phase; omega
  have l2 : (Lib.itoa e).length < 1000 := by rw [itoa_dig e p4 p3]; have := digW_length e; omega
  refine ⟨?_, ?_, ?_, ?_, ?_⟩
  · intro x h hx
    refine digits_run IT h (fun _ => no _ _ _ rfl) x ?_ ?_ n (by omega)
    · rcases hx with rfl | rfl <;> assumption
    · rcases hx with rfl | rfl <;> assumption
  · intro h
    obtain ⟨m, rfl⟩ : ∃ m, n = m + 1 + 1 := ⟨n - 2, by omega⟩
    refine ⟨_, deed_run IT (m + 1) kind phase e name (by omega) h (no _ _ _ rfl) (fun x h hx => itoa_IT m x h ?_ ?_) l1 l2, by show h.next ≤ h.next + 1; omega, fun id hid => Heap.get_new_ne (by omega)⟩
    · rcases hx with rfl | rfl <;> omega
    · rcases hx with rfl | rfl <;> omega
  · intro h
    obtain ⟨k, rfl⟩ : ∃ k, n = k + 1 := ⟨n - 1, by omega⟩
    obtain ⟨m, hm⟩ : ∃ m, k = m + 5 := ⟨k - 5, by omega⟩
    obtain ⟨j, hj⟩ : ∃ j, k = j + 1 := ⟨k - 1, by omega⟩
    have hI := no 21 [.agg [.int .i64 e, .str name, .str what]] h rfl
    have hi : ∀ h : Heap, callA Tryz.prog IT k 65 [.int .i64 e] h = .ok (.str (Lib.itoa e), h) := by
      intro h; rw [hj]; exact itoa_IT j e h (by omega) (by omega)
    have hjn : ∀ (args : List AV) (h : Heap) (r : AV × Heap), joinA args h = some r → callA Tryz.prog IT k 66 args h = .ok r := by
      intro args h r hr; rw [hj]; exact join_IT j args h r hr
    exact fault_run IT m k hm e name what (by omega) (by omega) h hI hi l2 hjn
  · intro h
    obtain ⟨m, rfl⟩ : ∃ m, n = m + 1 := ⟨n - 1, by omega⟩
    exact state_run IT m kind h (no _ _ _ rfl)
  · intro k h hk hkk
    subst hkk
    obtain ⟨m, rfl⟩ : ∃ m, n = m + 1 := ⟨n - 1, by omega⟩
    have hI := no 23 [.agg [.int .i64 k, .str name]] h rfl
    exact event_run IT m k hk name (by omega) h hI

/-- From a run on the machine to a call: with nothing known of memory. -/
theorem calls_of_run {f : FuncId} {args : List AV} {us : List Value} {w : World} {v : AV} {u : Value} (hf : (callFunc f us.toArray).run Tryz.prog w = .ok (.enter f us.toArray) w) (hT : TabAt ⟨w.heap.size, fun b => w.heap[b]?⟩) {n : Nat} (hA : F2 (VRel fun _ => none) args us)
    (hr : (callA Tryz.prog IT n f args ⟨.nil, 0⟩).all fun o => o.1 = v) (hv : ∀ ι u', VRel ι v u' → u' = u) : Calls Tryz.prog f us.toArray w fun e w' => e = .returned u ∧ Below w.heap.size w w' := by
  have hR : R ⟨w.heap.size, fun b => w.heap[b]?⟩ (fun _ => none) ⟨.nil, 0⟩ w.heap := by
    have hn : ∀ id, (⟨.nil, 0⟩ : Heap).get id = none := fun id => Tr.get_nil id
    refine { obj := ?_, sep := ?_, fresh := fun id _ => ⟨hn id, rfl⟩, base := ?_, size := Nat.le_refl _, low := fun _ _ => rfl }
    · intro id o hg; rw [hn] at hg; cases hg
    · intro i j oi oj li lj _ hi; rw [hn] at hi; cases hi
    · rintro b ⟨id, o, l, hg, _⟩; rw [hn] at hg; cases hg
  rcases callT hT n (fun _ => none) ⟨.nil, 0⟩ w f args us _ hR hA hr with ⟨_, hc⟩ | ⟨v', w', hc, _⟩
  · refine hc.mono ?_
    intro e w' he
    cases e with
    | returned v' =>
      obtain ⟨v2, h2, ι', hv2, k1, k2, k3⟩ := he
      simp only at hv2
      subst hv2
      have := hv _ _ k1
      subst this
      refine ⟨rfl, k3.os, k3.tape, k3.output, k3.size, fun b hb => k3.frame b hb ?_⟩
      rintro ⟨id, o, l, hg, _⟩
      have : (⟨.nil, 0⟩ : Heap).get id = none := Tr.get_nil id
      rw [this] at hg; cases hg
    | _ => cases he
  · exfalso
    rw [hf] at hc
    cases hc

set_option maxRecDepth 100000 in
/-- TellWords, in whatever world in which Itoa's table lies. -/
theorem words_calls (w : World) (hT : Lib.TabIs Tryz.prog w "internal/strconv.uint64pow10" .u64 Lib.pow10Tab) (hg : ∀ g, Tryz.prog.globalNamed "internal/strconv.uint64pow10" = some g → g < w.heap.size) (kind phase e : Int) (name what : ByteArray) :
    Calls Tryz.prog 4 #[.int .i64 kind, .int .i64 phase, .int .i64 e, .string name, .string what] w fun x w' => x = .returned (.bool true) ∧ Below w.heap.size w w' := by
  have hT' : TabAt ⟨w.heap.size, fun b => w.heap[b]?⟩ := by
    intro w2 h1 h2
    unfold Lib.TabIs at hT ⊢
    rw [← hT]
    unfold World.var?
    cases hgn : Tryz.prog.globalNamed "internal/strconv.uint64pow10" with
    | none => rfl
    | some g =>
      have := h2 g (hg g hgn)
      simp [this]
  obtain ⟨N, hN⟩ : ∃ N, N = 100 := ⟨_, rfl⟩
  obtain ⟨M, hM⟩ : ∃ M, N = M + 1 := ⟨99, hN⟩
  have ha : ∀ h : Heap, callA Tryz.prog IT N 18 [] h = .ok (.bool true, h) := by
    intro h; rw [hM]; exact alive_IT M h
  have hI := IT_none (f := 4) (args := [.int .i64 kind, .int .i64 phase, .int .i64 e, .str name.data.toList, .str what.data.toList]) (h := ⟨.nil, 0⟩) (by decide) (by decide) (by decide) (by decide) (by decide) (by decide) (by decide) (by decide) (by simp [keysNo]) (by simp [extsOf])
  refine calls_of_run (f := 4) (us := [.int .i64 kind, .int .i64 phase, .int .i64 e, .string name, .string what]) (args := [.int .i64 kind, .int .i64 phase, .int .i64 e, .str name.data.toList, .str what.data.toList]) (v := .bool true) (Tryz.call4 _ w) hT' ?_
    (words_run IT N kind phase e name.data.toList what.data.toList ⟨.nil, 0⟩ hI ha (fun hi => wcall_IT N (by omega) kind phase e _ _ hi)) (fun ι u' hu => by rw [VRel] at hu; exact hu)
  refine .cons (by rw [VRel]) (.cons (by rw [VRel]) (.cons (by rw [VRel]) (.cons ?_ (.cons ?_ .nil))))
  · rw [VRel]
  · rw [VRel]
end Go.Am
