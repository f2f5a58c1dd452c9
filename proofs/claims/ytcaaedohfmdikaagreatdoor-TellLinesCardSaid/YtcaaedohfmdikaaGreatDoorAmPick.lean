/- Part of the proof of TellLines: its text AmPick. Conditions: none. -/
import Derived.Test.YtcaaedohfmdikaaGreatDoorAmSeg
set_option linter.unusedSimpArgs false
set_option linter.unusedVariables false
noncomputable section
namespace Go.Am

/-! ### States told as lists -/
def heapOf (l : List (Nat × AObj)) (n : Nat) : Heap := { objs := l.foldr (fun p t => t.set p.1 p.2) .nil, next := n }
def envOf (l : List (Nat × AV)) : Env := l.foldr (fun p t => t.set p.1 p.2) .nil

theorem foldr_get {α : Type} : ∀ {l : List (Nat × α)} {i : Nat} {o : α}, (l.foldr (fun p (t : Tr α) => t.set p.1 p.2) .nil).get i = some o → (i, o) ∈ l
  | [], i, o, h => by rw [List.foldr_nil, Tr.get_nil] at h; cases h
  | p :: l, i, o, h => by
    rw [List.foldr_cons, Tr.get_set] at h
    by_cases e : i = p.1
    · rw [if_pos e] at h
      cases h
      rw [e]
      exact List.mem_cons_self ..
    · rw [if_neg e] at h
      exact List.mem_cons_of_mem _ (foldr_get h)

/-- What is wanted of an end. -/
def pickR (ids slots : List Nat) (r : Out) : Option (AExit × List (Option AObj) × List (Option AV) × Nat) :=
  match r with
  | .ok (e, env, h) => some (e, ids.map h.get, slots.map env.get, h.next)
  | _ => none

theorem pick_spec {H : List (Nat × AObj)} {E : List (Nat × AV)} {N : Nat} {e : AExit} {r : Out} (hp : pickR (H.map (·.1)) (E.map (·.1)) r = some (e, H.map (some ·.2), E.map (some ·.2), N)) (hni : (H.all fun p => !p.2.isIter) = true) :
    ∃ env1 h1, r = .ok (e, env1, h1) ∧ Sub (heapOf H N) h1 ∧ EnvSub (envOf E) env1 := by
  unfold pickR at hp
  split at hp
  · rename_i e' env1 h1
    simp only [Option.some.injEq, Prod.mk.injEq] at hp
    obtain ⟨rfl, h2, h3, h4⟩ := hp
    refine ⟨env1, h1, rfl, ⟨h4.symm, fun id o hg => ?_⟩, fun t v ht => ?_⟩
    · have hm := foldr_get hg
      refine ⟨?_, by simpa using List.all_eq_true.1 hni _ hm⟩
      rw [List.map_map] at h2
      exact List.map_inj_left.1 h2 (id, o) hm
    · have hm := foldr_get ht
      rw [List.map_map] at h3
      exact List.map_inj_left.1 h3 (t, v) hm
  · cases hp

theorem seg_pick {P : Program} (hN : NoOwn P) (hmix : P.follows .mixedOrders = true) {call : CallF} (hC : ∀ B, CallOk P B call) {nt n : Nat} {c : Code} {env : Env} {h : Heap} {H : List (Nat × AObj)} {E : List (Nat × AV)} {N : Nat} {e : AExit}
    (hp : pickR (H.map (·.1)) (E.map (·.1)) ((cCode P nt c).run call n env h) = some (e, H.map (some ·.2), E.map (some ·.2), N)) (hni : (H.all fun p => !p.2.isIter) = true) : SegOk P nt c env h e (envOf E) (heapOf H N) := by
  rw [cCode_eq] at hp
  obtain ⟨env1, h1, h2, h3, h4⟩ := pick_spec hp hni
  exact seg_run hN hmix hC h2 h3 h4

/-- Bytes, as cells; rows of bytes, each in cells of its own; a row of so many bytes, noughts behind those that are told. -/
def u8s (l : List Nat) : List AV := l.map fun n => .int .u8 (.ofNat n)
def byR (l : List Nat) : List (List AV) := l.map fun n => [.int .u8 (.ofNat n)]
def secR (n : Nat) (l : List Nat) : List AV := u8s l ++ List.replicate (n - l.length) (.int .u8 (.ofNat 0))

def fstC : Code → Code
  | .seq a _ => a
  | c => c
def sndC : Code → Code
  | .seq _ b => b
  | c => c
end Go.Am
end
