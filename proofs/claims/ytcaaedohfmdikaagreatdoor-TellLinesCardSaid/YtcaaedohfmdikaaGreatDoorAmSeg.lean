/- Part of the proof of TellLines: its text AmSeg. Conditions: none. -/
import Derived.Test.YtcaaedohfmdikaaGreatDoorAmRegs
import Derived.Test.YtcaaedohfmdikaaGreatDoorAmFast
set_option linter.unusedVariables false
set_option linter.unusedSimpArgs false
noncomputable section
namespace Go.Am
open Go.RowKit

/-! ### A run in parts: between them only what is still wanted is kept -/
def AObj.isIter : AObj → Bool
  | .miter _ _ _ _ => true
  | _ => false

structure Sub (h' h : Heap) : Prop where
  next : h'.next = h.next
  get : ∀ id o, h'.get id = some o → h.get id = some o ∧ o.isIter = false

section
variable {P : Program} {B : Floor} {ι : Inj} {h h' : Heap} {hp : Array Obj}

theorem Own.sub (hs : Sub h' h) {b : Nat} (ho : Own ι h' b) : Own ι h b := by
  obtain ⟨id, o, l, h1, h2⟩ := ho
  exact ⟨id, o, l, (hs.get id o h1).1, h2⟩

theorem R.sub (hR : R B ι h hp) (hs : Sub h' h) : R B ι h' hp where
  obj id o hg hd := by
    obtain ⟨h1, h2⟩ := hs.get id o hg
    obtain ⟨l, k1, k2, k3⟩ := hR.obj id o h1 hd
    refine ⟨l, k1, k2, k3.frame rfl ?_⟩
    intro m left ver last ho
    subst ho
    cases h2
  sep i j oi oj li lj hne hi hj := hR.sep i j oi oj li lj hne (hs.get i oi hi).1 (hs.get j oj hj).1
  fresh id hid := by
    rw [hs.next] at hid
    have := hR.fresh id hid
    refine ⟨?_, this.2⟩
    cases hg : h'.get id with
    | none => rfl
    | some o => rw [(hs.get id o hg).1] at this; cases this.1
  base b hb := hR.base b (Own.sub hs hb)
  size := hR.size
  low := hR.low

theorem Step.sub {ι0 : Inj} {h0 : Heap} {w w' : World} (hS : Step ι0 h0 w ι h w') (hs : Sub h' h) : Step ι0 h0 w ι h' w' where
  same := hS.same
  next := by rw [hs.next]; exact hS.next
  size := hS.size
  frame := hS.frame
  own b hb ho := hS.own b hb (Own.sub hs ho)
  free id hid hn := by
    have := hS.free id hid hn
    cases hg : h'.get id with
    | none => rfl
    | some o => rw [(hs.get id o hg).1] at this; cases this
  ro id o hg := hS.ro id o (hs.get id o hg).1
  os := hS.os
  tape := hS.tape
  output := hS.output

/-- From one state to another, on every tape. -/
def SegOk (P : Program) (nt : Nat) (c : Code) (env : Env) (h : Heap) (e : AExit) (env' : Env) (h' : Heap) : Prop :=
  ∀ (B : Floor) (ι : Inj) (a : Act) (w : World) (QQ : Exit → Act → World → Prop), R B ι h w.heap → EnvRel ι nt env a.tmps → a.defers = [] →
    (∀ ι' a' w', R B ι' h' w'.heap → EnvRel ι' nt env' a'.tmps → a'.defers = [] → Step ι h w ι' h' w' → QQ (exitOf e) a' w') → c.wp P QQ a w

def EnvSub (env' env : Env) : Prop := ∀ t v, env'.get t = some v → env.get t = some v

theorem seg_run (hN : NoOwn P) (hmix : P.follows .mixedOrders = true) {call : CallF} (hC : ∀ B, CallOk P B call) {nt n : Nat} {c : Code} {env env1 env' : Env} {h0 h1 h2 : Heap} {e : AExit}
    (hr : codeA P call nt n c env h0 = .ok (e, env1, h1)) (hs : Sub h2 h1) (he : EnvSub env' env1) : SegOk P nt c env h0 e env' h2 := by
  intro B ι a w QQ hR hE hD hq
  refine code_wp (B := B) (region_seq hN (hC B) nt) (region_draw hN hmix (hC B) nt) c env h0 ι a w (fun o => o = (e, env1, h1)) QQ hR hE hD (by rw [hr]; rfl) ?_
  intro e2 env2 h3 ι' a' w' hq' k1 k2 k3 k4
  cases hq'
  exact hq ι' a' w' (k1.sub hs) ⟨k2.size, fun t v ht => k2.rel t v (he t v ht)⟩ k3 (k4.sub hs)

theorem seg_seq {nt : Nat} {a b : Code} {env env1 env2 : Env} {h0 h1 h2 : Heap} {e : AExit} (ha : SegOk P nt a env h0 .norm env1 h1) (hb : SegOk P nt b env1 h1 e env2 h2) : SegOk P nt (a.seq b) env h0 e env2 h2 := by
  intro B ι ac w QQ hR hE hD hq
  refine wp_seq (ha B ι ac w _ hR hE hD ?_)
  intro ι' a' w' k1 k2 k3 k4
  exact hb B ι' a' w' QQ k1 k2 k3 fun ι2 a2 w2 j1 j2 j3 j4 => hq ι2 a2 w2 j1 j2 j3 (k4.trans j4)

theorem fn_seg {f : FuncId} {fn : Func} {c : Code} (hf : P.funcs[f]? = some fn) (hb : fn.body = some c) {args : List AV} {h0 h2 : Heap} {e : AExit} {env' : Env} {v : AV} (hseg : SegOk P fn.ntmps c (argsEnv 0 args .nil) h0 e env' h2)
    (he : e = .norm ∨ e = .ret) (hres : resultsA P fn env' h2 = some v) (hle : args.length ≤ fn.ntmps) {w : World} {us : List Value} (hR : R B ι h0 w.heap) (hA : F2 (VRel ι) args us) :
    CallRes P f us w (RetOk B ι h0 w fun o => o = (v, h2)) := by
  refine .inl ⟨⟨fn, hf, by rw [hb]; rfl⟩, calls_of_wp hf hb ?_⟩
  have hlen := hA.length
  have hE : EnvRel ι fn.ntmps (argsEnv 0 args .nil) (us.toArray ++ Array.replicate (fn.ntmps - us.toArray.size) undef) := by
    refine args_env args us hA 0 .nil _ ⟨by simp; omega, fun t v ht => by rw [Tr.get_nil] at ht; cases ht⟩ ?_
    intro j u hj
    have hjl : j < us.length := (List.getElem?_eq_some_iff.1 hj).1
    rw [Nat.zero_add, Array.getElem?_append_left (by simpa using hjl)]
    simpa using hj
  refine hseg B ι _ w _ hR hE rfl ?_
  intro ι' a' w' k1 k2 k3 k4
  obtain ⟨v', g1, g2⟩ := results_sound (P := P) k1 k2 hres
  rcases he with rfl | rfl <;> exact ⟨k3, v', g1, v, h2, ι', rfl, g2, k1, k4⟩
end

/-! ### Sameness that the kernel reckons -/
mutual
def AV.eqv : AV → AV → Bool
  | .undef, .undef => true
  | .bool a, .bool b => a == b
  | .int k a, .int j b => Nat.beq (idK k) (idK j) && (match a, b with
    | .ofNat x, .ofNat y => Nat.beq x y
    | .negSucc x, .negSucc y => Nat.beq x y
    | _, _ => false)
  | .str a, .str b => eqB a b
  | .ptr none, .ptr none => true
  | .ptr (some a), .ptr (some b) => Nat.beq a.1 b.1 && Nat.beq a.2 b.2
  | .slice none n none, .slice none m none => Nat.beq n m
  | .slice none n (some c), .slice none m (some d) => Nat.beq n m && Nat.beq c d
  | .slice (some a) n none, .slice (some b) m none => Nat.beq a.1 b.1 && Nat.beq a.2 b.2 && Nat.beq n m
  | .slice (some a) n (some c), .slice (some b) m (some d) => Nat.beq a.1 b.1 && Nat.beq a.2 b.2 && Nat.beq n m && Nat.beq c d
  | .map none, .map none => true
  | .map (some a), .map (some b) => Nat.beq a b
  | .func (.func f) x y, .func (.func g) z w => Nat.beq f g && AV.eqvL x z && AV.eqvL y w
  | .nilFunc, .nilFunc => true
  | .iface t x, .iface u y => Nat.beq t u && AV.eqv x y
  | .nilIface, .nilIface => true
  | .agg x, .agg y => AV.eqvL x y
  | .tuple x, .tuple y => AV.eqvL x y
  | _, _ => false
def AV.eqvL : List AV → List AV → Bool
  | [], [] => true
  | a :: x, b :: y => AV.eqv a b && AV.eqvL x y
  | _, _ => false
end
end Go.Am
end
