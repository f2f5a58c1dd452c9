/- Part of the proof of TellLines: its text AmAl22b. Conditions: none. -/
import Derived.Test.YtcaaedohfmdikaaGreatDoorAmAl22
set_option linter.unusedSimpArgs false
set_option linter.unusedVariables false
open Go Go.Am Go.Proofs
namespace Go.Am

theorem callQ_ok (B : Floor) : CallOk Tryz.prog B callQ := by
  have h : ∀ n, CallOk Tryz.prog B (callB Tryz.prog J1 n) := fun n => by rw [callB1]; exact call1 n
  exact h 20000

theorem al22nt : Tryz.f18.ntmps = 96 := by kernel_rfl
theorem al22body : Tryz.f18.body = some (al22c 0) := by kernel_rfl
theorem al22rs : Tryz.f18.results.toList = [.tmp 0] := by kernel_rfl

/-- One part. -/
theorem al22part {k : Nat} {env : Env} {h : Heap} {H : List (Nat × AObj)} {E : List (Nat × AV)} {N : Nat} (hp : pickR (H.map (·.1)) (E.map (·.1)) (al22run k env h) = some (.norm, H.map (some ·.2), E.map (some ·.2), N)) (hni : (H.all fun p => !p.2.isIter) = true) :
    SegOk Tryz.prog 96 (fstC (al22c k)) env h .norm (envOf E) (heapOf H N) := seg_pick noOwn mixed callQ_ok hp hni

theorem al22last {env : Env} {h : Heap} (hp : (pickR [] [0] (al22end env h)).map (fun r => (r.1, r.2.2.1)) = some (.ret, [some (.bool true)])) : ∃ env' h', SegOk Tryz.prog 96 (al22c 7) env h .ret env' h' ∧ env'.get 0 = some (.bool true) := by
  unfold pickR at hp
  split at hp
  · rename_i e env1 h1 hr
    simp only [Option.map_some, List.map_cons, List.map_nil, Option.some.injEq, Prod.mk.injEq, List.cons.injEq, and_true] at hp
    obtain ⟨rfl, h2⟩ := hp
    unfold al22end at hr
    rw [cCode_eq] at hr
    refine ⟨envOf [(0, .bool true)], heapOf [] h1.next, seg_run noOwn mixed callQ_ok hr ⟨rfl, fun id o hg => by have := foldr_get hg; cases this⟩ ?_, by simp [envOf, Tr.get_set]⟩
    intro t v ht
    have := foldr_get ht
    simp only [List.mem_singleton, Prod.mk.injEq] at this
    obtain ⟨rfl, rfl⟩ := this
    exact h2
  · cases hp

theorem al22seg : ∃ env' h', SegOk Tryz.prog 96 (al22c 0) .nil ⟨.nil, 0⟩ .ret env' h' ∧ env'.get 0 = some (.bool true) := by
  obtain ⟨env', h', hl, ht⟩ := al22last al22f7
  refine ⟨env', h', ?_, ht⟩
  rw [al22s0]
  refine seg_seq (al22part al22f0 (by kernel_rfl)) ?_
  rw [al22s1]
  refine seg_seq (al22part al22f1 (by kernel_rfl)) ?_
  rw [al22s2]
  refine seg_seq (al22part al22f2 (by kernel_rfl)) ?_
  rw [al22s3]
  refine seg_seq (al22part al22f3 (by kernel_rfl)) ?_
  rw [al22s4]
  refine seg_seq (al22part al22f4 (by kernel_rfl)) ?_
  rw [al22s5]
  refine seg_seq (al22part al22f5 (by kernel_rfl)) ?_
  rw [al22s6]
  refine seg_seq (al22part al22f6 (by kernel_rfl)) ?_
  exact hl

/-- The document's example of layer 22 comes to true. -/
theorem alive22 {B : Floor} {ι : Inj} {w : World} (hR : R B ι ⟨.nil, 0⟩ w.heap) : CallRes Tryz.prog 18 [] w (RetOk B ι ⟨.nil, 0⟩ w fun o => o.1 = .bool true) := by
  obtain ⟨env', h', hs, ht⟩ := al22seg
  rw [← al22nt] at hs
  have := fn_seg (P := Tryz.prog) (f := 18) Tryz.func18 al22body (args := []) hs (.inr rfl) (v := .bool true) (by simp [resultsA, al22rs, resList, resA, ht]) (Nat.zero_le _) hR (us := []) .nil
  refine this.mono ?_
  intro e w' he
  cases e with
  | returned v' => obtain ⟨v, h2, ι', hv, k⟩ := he; cases hv; exact ⟨_, _, ι', rfl, k⟩
  | _ => exact he

/-- .. so a call of it, in whatever world, answers true; nothing that lay before has turned. -/
theorem alive22_calls (w : World) : Calls Tryz.prog 18 #[] w fun e w' => e = .returned (.bool true) ∧ Go.RowKit.Below w.heap.size w w' := by
  have hR : R ⟨w.heap.size, fun b => w.heap[b]?⟩ (fun _ => none) ⟨.nil, 0⟩ w.heap := by
    have hn : ∀ id, (⟨.nil, 0⟩ : Heap).get id = none := fun id => Tr.get_nil id
    refine { obj := ?_, sep := ?_, fresh := fun id _ => ⟨hn id, rfl⟩, base := ?_, size := Nat.le_refl _, low := fun _ _ => rfl }
    · intro id o hg; rw [hn] at hg; cases hg
    · intro i j oi oj li lj _ hi; rw [hn] at hi; cases hi
    · rintro b ⟨id, o, l, hg, _⟩; rw [hn] at hg; cases hg
  rcases alive22 hR with ⟨_, hc⟩ | ⟨v', w', hc, _⟩
  · refine hc.mono ?_
    intro e w' he
    cases e with
    | returned v' =>
      obtain ⟨v, h2, ι', hv, k1, k2, k3⟩ := he
      simp only at hv
      subst hv
      rw [VRel] at k1
      subst k1
      refine ⟨rfl, k3.os, k3.tape, k3.output, k3.size, fun b hb => k3.frame b hb ?_⟩
      rintro ⟨id, o, l, hg, _⟩
      have : (⟨.nil, 0⟩ : Heap).get id = none := Tr.get_nil id
      rw [this] at hg; cases hg
    | _ => cases he
  · exfalso
    have h1 : (callFunc 18 #[]).run Tryz.prog w = .ok (.enter 18 #[]) w := Tryz.call18 #[] w
    rw [show ([] : List Value).toArray = #[] from rfl, h1] at hc
    cases hc
end Go.Am
