/- Part of the proof of TellLines: its text AmTell2. Conditions: none. -/
import Derived.Test.YtcaaedohfmdikaaGreatDoorAmTell
set_option linter.unusedVariables false
set_option linter.unusedSimpArgs false
open Go Go.Am Go.Proofs Go.RowKit
namespace Go.Am

/-- The bounds behind which the law's text looks. -/
def WIn (kind phase e : Int) (name what : List UInt8) : Prop :=
  name.length ≤ 60 ∧ what.length ≤ 60 ∧ kind ≤ 2147483648 ∧ -2147483648 ≤ kind ∧ phase ≤ 2147483648 ∧ -2147483648 ≤ phase ∧ e ≤ 2147483648 ∧ -2147483648 ≤ e

theorem tw_switch (call : CallF) (n : Nat) (env : Env) (h : Heap) (kind phase e : Int) (name what : List UInt8) (hi : WIn kind phase e name what) (W : WCall call kind phase e name what)
    (h1 : env.get 1 = some (.int .i64 phase)) (h2 : env.get 2 = some (.int .i64 e)) (h51 : env.get 51 = some (.int .i64 kind)) (h11 : env.get 11 = some (.str ([108, 111, 115, 116, 32] ++ name))) (Q : AExit × Env × Heap → Prop)
    (hQ : ∀ env' : Env, Keep [0, 1, 2, 3, 4] env env' → env'.get 11 = some (.str (deedW kind phase e name)) → Q (.norm, env', h)) :
    (codeA Tryz.prog call 136 n ((Code.region 7 (tw 7) false).seq (.cond (.tmp 52) (.region 8 (tw 8) false) ((Code.region 9 (tw 9) false).seq (.cond (.tmp 54) (.region 10 (tw 10) false) ((Code.region 11 (tw 11) false).seq (.cond (.tmp 59) (.region 12 (tw 12) false) ((Code.region 13 (tw 13) false).seq (.cond (.tmp 61) (.region 14 (tw 14) false) .skip)))))))) env h).all Q := by
  obtain ⟨_, _, _, _, p1, p2, p3, p4⟩ := hi
  refine go_reg (tw7 call env h kind phase e name what _ h51 h11 _ fun env1 k1 a1 b1 c1 => ?_)
  refine go_if1 (opd_b c1) ?_
  by_cases e0 : kind = 0
  · rw [decide_eq_true e0]
    refine go_reg1 (tw8 call env1 h kind phase e name what _ fun env2 k2 a2 => ?_)
    exact hQ _ (k1.trans k2) (by rw [a2, deedW, if_pos e0])
  rw [decide_eq_false e0]
  refine go_reg (tw9 call env1 h kind phase e name what _ a1 b1 _ fun env2 k2 a2 b2 c2 => ?_)
  refine go_if1 (opd_b c2) ?_
  have k12 := k1.trans k2
  by_cases e1 : kind = 1
  · rw [decide_eq_true e1]
    refine go_reg1 (tw10 call env2 h kind phase e name what (k12.get h1 (by simp)) W _ fun env3 k3 a3 => ?_)
    exact hQ _ (k12.trans k3) (by rw [a3, deedW, if_neg e0, if_pos e1, itoa_dig phase p2 p1])
  rw [decide_eq_false e1]
  refine go_reg (tw11 call env2 h kind phase e name what _ a2 b2 _ fun env3 k3 a3 b3 c3 => ?_)
  refine go_if1 (opd_b c3) ?_
  have k13 := k12.trans k3
  by_cases e2 : kind = 2
  · rw [decide_eq_true e2]
    refine go_reg1 (tw12 call env3 h kind phase e name what _ fun env4 k4 a4 => ?_)
    exact hQ _ (k13.trans k4) (by rw [a4, deedW, if_neg e0, if_neg e1, if_pos e2])
  rw [decide_eq_false e2]
  refine go_reg (tw13 call env3 h kind phase e name what _ a3 b3 _ fun env4 k4 a4 b4 c4 => ?_)
  refine go_if1 (opd_b c4) ?_
  have k14 := k13.trans k4
  by_cases e3 : kind = 3
  · rw [decide_eq_true e3]
    refine go_reg1 (tw14 call env4 h kind phase e name what (k14.get h2 (by simp)) W _ fun env5 k5 a5 => ?_)
    exact hQ _ (k14.trans k5) (by rw [a5, deedW, if_neg e0, if_neg e1, if_neg e2, if_pos e3, itoa_dig e p4 p3])
  rw [decide_eq_false e3]
  exact go_skip1 (hQ _ k14 (by rw [b4, deedW, if_neg e0, if_neg e1, if_neg e2, if_neg e3]))

/-- What is wrong, in the law's words. -/
theorem fault_text (e : Int) (name what : List UInt8) (p1 : e ≤ 2147483648) (p2 : -2147483648 ≤ e) :
    Lib.join (faultWs e name what) [32] = ([101, 114, 114, 111, 114, 32] ++ digW e ++ (if name = [] then [] else [32] ++ name)) ++ (if what = [] then [] else [32] ++ what) := by
  have hj : ∀ l : List (List UInt8), Lib.join l [32] = [32].intercalate l := fun _ => rfl
  rw [hj, faultWs, itoa_dig e p2 p1]
  by_cases a : name = [] <;> by_cases b : what = [] <;> simp [a, b, List.intercalate]

theorem tw_nt : Tryz.f4.ntmps = 136 := by kernel_rfl
theorem tw_rs : Tryz.f4.results.toList = [.tmp 10] := by kernel_rfl

set_option maxHeartbeats 4000000 in
set_option maxRecDepth 100000 in
theorem words_run (I : Intr) (n : Nat) (kind phase e : Int) (name what : List UInt8) (h : Heap) (hI : I 4 [.int .i64 kind, .int .i64 phase, .int .i64 e, .str name, .str what] h = none)
    (ha : ∀ h, callA Tryz.prog I n 18 [] h = .ok (.bool true, h)) (hW : WIn kind phase e name what → WCall (callA Tryz.prog I n) kind phase e name what) :
    (callA Tryz.prog I (n + 1) 4 [.int .i64 kind, .int .i64 phase, .int .i64 e, .str name, .str what] h).all fun o => o.1 = .bool true := by
  refine call_code hI Tryz.func4 tw_body (by rw [tw_nt]; simp) ?_
  rw [tw_nt]
  generalize callA Tryz.prog I n = call at ha hW
  have hQ : ∀ (env : Env) (h : Heap), env.get 10 = some (.bool true) → (fun r : AExit × Env × Heap => (∀ id, r.1 ≠ .exit id) ∧ ∃ v, resultsA Tryz.prog Tryz.f4 r.2.1 r.2.2 = some v ∧ (fun o : AV × Heap => o.1 = .bool true) (v, r.2.2)) (.ret, env, h) := by
    intro env h h10
    exact ⟨fun _ => (by simp), _, by simp [resultsA, tw_rs, resList, resA, h10], rfl⟩
  revert hQ
  generalize (fun r : AExit × Env × Heap => (∀ id, r.1 ≠ .exit id) ∧ ∃ v, resultsA Tryz.prog Tryz.f4 r.2.1 r.2.2 = some v ∧ (fun o : AV × Heap => o.1 = .bool true) (v, r.2.2)) = Q
  intro hQ
  obtain ⟨env0, henv0⟩ : ∃ env0, env0 = argsEnv 0 [.int .i64 kind, .int .i64 phase, .int .i64 e, .str name, .str what] .nil := ⟨_, rfl⟩
  rw [← henv0]
  have a0 : env0.get 0 = some (.int .i64 kind) := by rw [henv0]; simp [argsEnv, Tr.get_set]
  have a1 : env0.get 1 = some (.int .i64 phase) := by rw [henv0]; simp [argsEnv, Tr.get_set]
  have a2 : env0.get 2 = some (.int .i64 e) := by rw [henv0]; simp [argsEnv, Tr.get_set]
  have a3 : env0.get 3 = some (.str name) := by rw [henv0]; simp [argsEnv, Tr.get_set]
  have a4 : env0.get 4 = some (.str what) := by rw [henv0]; simp [argsEnv, Tr.get_set]
  refine go_reg (tw0 call env0 h kind phase e name what _ fun env1 k1 => ?_)
  refine go_assoc (go_reg (tw1 call env1 h kind phase e name what ha _ fun env2 k2 c2 => ?_))
  refine go_if (opd_b c2) (go_skip ?_)
  have k12 := k1.trans k2
  refine go_assoc (go_reg (tw3 call env2 h kind phase e name what (k12.get a0 (by simp)) (k12.get a1 (by simp)) (k12.get a2 (by simp)) (k12.get a3 (by simp)) (k12.get a4 (by simp)) _ fun env3 b3 k3 c3 hb3 => ?_))
  refine go_if (opd_b c3) ?_
  cases b3 with
  | true =>
    refine go_end (go_reg (tw4 call env3 h kind phase e name what _ fun env4 c4 => go_ret1 ?_))
    exact ⟨rfl, hQ _ _ c4⟩
  | false =>
  have hi : WIn kind phase e name what := hb3 rfl
  have W := hW hi
  obtain ⟨n1, n2, _, _, p1, p2, p3, p4⟩ := id hi
  refine go_skip ?_
  have k13 := k12.trans k3
  refine go_reg (tw5 call env3 h kind phase e name what (k13.get a3 (by simp)) n1 _ fun env4 k4 c4 => ?_)
  have k14 := k13.trans k4
  refine go_assoc (go_reg (tw6 call env4 h kind phase e name what (k14.get a0 (by simp)) _ c4 _ fun env5 k5 c5 d5 => ?_))
  have k15 := k14.trans k5
  refine go_block (tw_switch call n env5 h kind phase e name what hi W (k15.get a1 (by simp)) (k15.get a2 (by simp)) c5 d5 _ fun env6 k6 c6 => ⟨fun _ => ?_, fun h => absurd rfl h⟩)
  have k16 := k15.trans k6
  refine go_reg (tw15 call env6 h kind phase e name what (k16.get a2 (by simp)) _ c6 W _ fun env7 k7 c7 => ?_)
  have k17 : Keep [0, 1, 2, 3, 4] env0 env7 := k16.trans fun j hj => k7 j (by simp at hj ⊢; omega)
  have d7 : env7.get 11 = some (.str (deedW kind phase e name)) := k7.get c6 (by simp)
  have hdl := digW_length e
  refine go_assoc (go_reg (tw16 call env7 h kind phase e name what (k17.get a3 (by simp)) _ fun env8 k8 c8 => ?_))
  have k18 : Keep [0, 1, 2, 3, 4] env0 env8 := k17.trans fun j hj => k8 j (by simp at hj ⊢; omega)
  have step2 : ∀ (env9 : Env) (w12 : List UInt8), w12.length ≤ 130 → Keep [0, 1, 2, 3, 4] env0 env9 → env9.get 11 = some (.str (deedW kind phase e name)) → env9.get 12 = some (.str w12) →
      w12 ++ (if what = [] then [] else [32] ++ what) = Lib.join (faultWs e name what) [32] →
      (codeA Tryz.prog call 136 n (((Code.region 18 (tw 18) false).seq (.cond (.tmp 76) (.region 19 (tw 19) false) .skip)).seq ((Code.region 20 (tw 20) false).seq (((Code.region 21 (tw 21) false).seq (.cond (.tmp 86) (.region 22 (tw 22) false) .skip)).seq
        ((Code.region 23 (tw 23) false).seq (((Code.region 24 (tw 24) false).seq (.cond (.tmp 115) ((Code.region 25 (tw 25) false).seq .ret) .skip)).seq ((Code.region 26 (tw 26) true).seq .ret)))))) env9 h).all Q := by
    intro env9 w12 hw k9 d9 c9 hfin
    have step3 : ∀ env10 : Env, Keep [0, 1, 2, 3, 4] env0 env10 → env10.get 11 = some (.str (deedW kind phase e name)) → env10.get 12 = some (.str (Lib.join (faultWs e name what) [32])) →
        (codeA Tryz.prog call 136 n ((Code.region 20 (tw 20) false).seq (((Code.region 21 (tw 21) false).seq (.cond (.tmp 86) (.region 22 (tw 22) false) .skip)).seq
          ((Code.region 23 (tw 23) false).seq (((Code.region 24 (tw 24) false).seq (.cond (.tmp 115) ((Code.region 25 (tw 25) false).seq .ret) .skip)).seq ((Code.region 26 (tw 26) true).seq .ret))))) env10 h).all Q := by
      intro env10 k10 d10 e10
      refine go_reg (tw20 call env10 h kind phase e name what _ fun env11 k11 c11 => ?_)
      refine go_assoc (go_reg (tw21 call env11 h kind phase e name what ((k10.trans fun j hj => k11 j (by simp at hj ⊢; omega)).get a0 (by simp)) _ fun env12 b12 k12' c12 hb12 => ?_))
      have kk : Keep [0, 1, 2, 3, 4, 11, 12] env10 env12 := k11.trans fun j hj => k12' j (by simp at hj ⊢; omega)
      have kk0 : Keep [0, 1, 2, 3, 4] env0 env12 := k10.trans fun j hj => kk j (by simp at hj ⊢; omega)
      have step4 : ∀ (env13 : Env) (h13 : Heap), Keep [0, 1, 2, 3, 4] env0 env13 → env13.get 11 = some (.str (deedW kind phase e name)) → env13.get 12 = some (.str (Lib.join (faultWs e name what) [32])) → env13.get 13 = some (.str (stateW kind)) →
          (codeA Tryz.prog call 136 n ((Code.region 23 (tw 23) false).seq (((Code.region 24 (tw 24) false).seq (.cond (.tmp 115) ((Code.region 25 (tw 25) false).seq .ret) .skip)).seq ((Code.region 26 (tw 26) true).seq .ret))) env13 h13).all Q := by
        intro env13 h13 k13 d13 e13 f13
        refine go_reg (tw23 call env13 h13 kind phase e name what _ fun env14 k14 c14 => ?_)
        have kk0 : Keep [0, 1, 2, 3, 4] env0 env14 := k13.trans fun j hj => k14 j (by simp at hj ⊢; omega)
        refine go_assoc (go_reg (tw24 call env14 _ kind phase e name what (kk0.get a0 (by simp)) (kk0.get a1 (by simp)) (kk0.get a2 (by simp)) (kk0.get a3 (by simp)) (kk0.get a4 (by simp)) h13.next (k14.get d13 (by simp)) (k14.get e13 (by simp)) (k14.get f13 (by simp)) c14
          (Heap.get_new_same ..) (by show h13.next < h13.next + 1; omega) W _ fun env15 h15 k15 c15 g15 b15 => ?_))
        refine go_if (opd_b c15) (go_skip ?_)
        have kk1 : Keep [0, 1, 2, 3, 4] env0 env15 := kk0.trans fun j hj => k15 j (by simp at hj ⊢; omega)
        refine go_draw (tw26 call env15 h15 kind phase e name what (kk1.get a0 (by simp)) (kk1.get a3 (by simp)) n1 h13.next (k15.get c14 (by simp)) g15 b15 W _ fun env16 h16 c16 => go_ret1 ?_)
        exact hQ _ _ c16
      refine go_if (opd_b c12) ?_
      cases b12 with
      | true =>
        have hk := hb12.1 rfl
        refine go_reg (tw22 call env12 h kind phase e name what (kk0.get a0 (by simp)) hk _ fun env13 h13 k13 c13 => ?_)
        have kk2 : Keep [11, 12] env12 env13 := fun j hj => k13 j (by simp at hj ⊢; omega)
        exact step4 env13 h13 (kk0.trans fun j hj => k13 j (by simp at hj ⊢; omega)) (kk2.get (kk.get d10 (by simp)) (by simp)) (kk2.get (kk.get e10 (by simp)) (by simp)) c13
      | false =>
        have hk : ¬ (0 < kind ∧ kind < 5) := fun hh => by have := hb12.2 hh; cases this
        refine go_skip (step4 env12 h kk0 (kk.get d10 (by simp)) (kk.get e10 (by simp)) ?_)
        have : stateW kind = [111, 102, 102] := by
          unfold stateW
          rw [if_neg (by omega), if_neg (by omega), if_neg (by omega), if_neg (by omega)]
        rw [this]
        exact k12'.get c11 (by simp)
    refine go_assoc (go_reg (tw18 call env9 h kind phase e name what (k9.get a4 (by simp)) _ fun env10 k10 c10 => ?_))
    refine go_if (opd_b c10) ?_
    have kk : Keep [11, 12] env9 env10 := fun j hj => k10 j (by simp at hj ⊢; omega)
    have kk0 : Keep [0, 1, 2, 3, 4] env0 env10 := k9.trans fun j hj => k10 j (by simp at hj ⊢; omega)
    by_cases hwh : what = []
    · rw [decide_eq_true hwh]
      refine go_skip (step3 env10 kk0 (kk.get d9 (by simp)) ?_)
      rw [← hfin, if_pos hwh, List.append_nil]
      exact kk.get c9 (by simp)
    · rw [decide_eq_false hwh]
      refine go_reg (tw19 call env10 h kind phase e name what (kk0.get a4 (by simp)) w12 (kk.get c9 (by simp)) n2 (by omega) _ fun env11 k11 c11 => ?_)
      rw [if_neg hwh] at hfin
      rw [hfin] at c11
      exact step3 env11 (kk0.trans fun j hj => k11 j (by simp at hj ⊢; omega)) (k11.get (kk.get d9 (by simp)) (by simp)) c11
  have hft := fault_text e name what p3 p4
  refine go_if (opd_b c8) ?_
  have kk : Keep [11, 12] env7 env8 := fun j hj => k8 j (by simp at hj ⊢; omega)
  by_cases hnm : name = []
  · rw [decide_eq_true hnm]
    refine go_skip (step2 env8 _ ?_ k18 (kk.get d7 (by simp)) (kk.get c7 (by simp)) ?_)
    · simp only [List.length_append, List.length_cons, List.length_nil]; omega
    · rw [hft, if_pos hnm, List.append_nil]
  · rw [decide_eq_false hnm]
    refine go_reg (tw17 call env8 h kind phase e name what (k18.get a3 (by simp)) _ (kk.get c7 (by simp)) n1 (by simp only [List.length_append, List.length_cons, List.length_nil]; omega) _ fun env9 k9 c9 => ?_)
    refine step2 env9 _ ?_ (k18.trans fun j hj => k9 j (by simp at hj ⊢; omega)) (k9.get (kk.get d7 (by simp)) (by simp)) c9 ?_
    · simp only [List.length_append, List.length_cons, List.length_nil]; omega
    · rw [hft, if_neg hnm]
end Go.Am
