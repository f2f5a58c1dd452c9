/- Part of the proof of TellLines: its text AmLines3. Conditions: none. -/
import Derived.Test.YtcaaedohfmdikaaGreatDoorAmLines2
import Derived.Test.YtcaaedohfmdikaaGreatDoorAmTell3
set_option linter.unusedVariables false
set_option linter.unusedSimpArgs false
open Go Go.Am Go.Proofs Go.RowKit
namespace Go.Am

/-- What the law's own text must know of what it calls. -/
structure LCall (call : CallF) : Prop where
  say : ∀ (h : Heap) (l N : Nat) (want : List UInt8) (r : RowIn), Bld N h l want → N ≤ l → l < h.next → RowOk h N r → r.words.length ≤ 10 → (∀ w ∈ r.words, w.length ≤ 40) → want.length < 100000 →
    (call 24 [.ptr (some (l, 0)), r.av] h).all fun o => Bld N o.2 l (want ++ (Lib.join r.words [32] ++ [10])) ∧ Same N h o.2
  str : ∀ (h : Heap) (l N : Nat) (s : List UInt8), Bld N h l s → N ≤ l → l < h.next → s.length < 1000000 → (call 25 [.ptr (some (l, 0))] h).all fun o => o.1 = .str s ∧ (Bld N o.2 l s ∧ Same N h o.2)

theorem RowOk.same {h h' : Heap} {N : Nat} {r : RowIn} (hr : RowOk h N r) (hs : Same N h h') : RowOk h' N r :=
  ⟨hr.1, fun hne => let ⟨id, el, h1, h2, h3⟩ := hr.2 hne; ⟨id, el, h1, h2, by rw [hs.2 id h1]; exact h3⟩⟩

theorem join_410 {l : List (List UInt8)} (h1 : l.length ≤ 10) (h2 : ∀ w ∈ l, w.length ≤ 40) : (Lib.join l [32]).length ≤ 410 := by
  have h3 := join_le l 40 h2
  have h4 : (40 + 1) * l.length ≤ 41 * 10 := Nat.mul_le_mul_left _ h1
  omega

set_option maxRecDepth 100000 in
/-- One line. -/
theorem line_one (call : CallF) (C : LCall call) (n : Nat) (hn : 100 < n) (env : Env) (h : Heap) (l N : Nat) (want : List UInt8) (r : RowIn) (hb : Bld N h l want) (hN : N ≤ l) (hl : l < h.next) (hr : RowOk h N r) (hw : want.length < 20000)
    (h3 : env.get 3 = some (.ptr (some (l, 0)))) (h4 : env.get 4 = some (.str want)) (h6 : env.get 6 = some r.av) (Q : AExit × Env × Heap → Prop)
    (hret : ∀ (env' : Env) (h' : Heap), env'.get 2 = some (.bool true) → Q (.ret, env', h'))
    (hnext : ∀ (env' : Env) (h' : Heap) (want' : List UInt8), Keep [3, 14, 15, 16] env env' → env'.get 4 = some (.str want') → want'.length ≤ want.length + 500 → Bld N h' l want' → l < h'.next → Same N h h' → Q (.norm, env', h')) :
    (codeA Tryz.prog call 52 n (((Code.region 10 (tl 10) false).seq (.cond (.tmp 22) ((Code.region 11 (tl 11) false).seq .ret) .skip)).seq (((Code.region 12 (tl 12) false).seq (.block 2 (.loop tlIn))).seq ((Code.region 21 (tl 21) false).seq ((Code.region 22 (tl 22) false).seq ((Code.region 23 (tl 23) false).seq (.cond (.tmp 47) ((Code.region 24 (tl 24) false).seq .ret) .skip)))))) env h).all Q := by
  have h6' : env.get 6 = some (.slice r.a r.words.length r.c) := h6
  by_cases h10 : (10 : Int) < r.words.length
  · refine go_assoc (go_reg (tl_10t call env h r.a _ r.c h6' h10 _ fun env2 k2 c2 => ?_))
    refine go_if (opd_b c2) (go_end (go_reg (tl_11 call env2 h _ fun env3 c3 => go_ret1 ⟨rfl, ?_⟩)))
    exact hret _ _ c3
  refine go_assoc (go_reg (tl_10f call env h r.a _ r.c h6' h10 _ fun env2 k2 c2 => ?_))
  refine go_if (opd_b c2) (go_skip ?_)
  refine go_assoc (go_reg (tl_12 call env2 h r.a _ r.c (k2.get h6' (by simp)) _ fun env3 k3 c3 d3 e3 => ?_))
  have k13 : Keep [3, 4, 14, 15, 16, 6] env env3 := k2.trans k3
  refine go_seq (in_loop call n env3 h r N hr want c3 d3 e3 (k13.get h4 (by simp)) (by omega) (by omega) hn _ (fun env' g2 => ⟨fun e => (by cases e), fun _ => hret _ _ g2⟩) (fun hall env4 k4 c4 => ⟨fun _ => ?_, fun e => absurd rfl e⟩))
  have hj := join_410 (by omega) hall
  have hlen : (want ++ Lib.join r.words [32]).length < 1000000 := by rw [List.length_append]; omega
  refine go_reg (tl_21 call env4 h _ c4 hlen _ fun env5 k5 c5 => ?_)
  have k15 : Keep [3, 14, 15, 16, 6] env env5 := (k13.sub (l' := [3, 14, 15, 16, 6]) (by simp)).trans ((k4.sub (l' := [3, 14, 15, 16, 6]) (by simp)).trans fun j hj => k5 j (by simp at hj ⊢; omega))
  have g3 := k15.get h3 (by simp)
  refine go_reg (tl_22 call env5 h l r.av g3 (k15.get h6 (by simp)) _ (C.say h l N want r hb hN hl hr (by omega) hall (by omega)) _ fun env6 v6 h6 k6 q6 => ?_)
  obtain ⟨q1, q2⟩ := q6
  simp only at q1 q2
  have he : want ++ (Lib.join r.words [32] ++ [10]) = want ++ Lib.join r.words [32] ++ [10] := by simp [List.append_assoc]
  rw [he] at q1
  have hl6 : l < h6.next := Nat.lt_of_lt_of_le hl q2.1
  have hlen2 : (want ++ Lib.join r.words [32] ++ [10]).length ≤ want.length + 500 := by simp only [List.length_append, List.length_cons, List.length_nil]; omega
  refine go_reg (tl_23 call env6 h6 l _ (k6.get g3 (by simp)) (k6.get c5 (by simp)) _ (C.str h6 l N _ q1 hN hl6 (by omega)) _ fun env7 h7 k7 c7 q7 => ?_)
  obtain ⟨b7, s7⟩ := q7
  simp only at b7 s7
  refine go_if1 (opd_b c7) (go_skip1 ?_)
  refine hnext env7 h7 _ ((k15.sub (l' := [3, 14, 15, 16]) (by simp)).trans ((k6.sub (l' := [3, 14, 15, 16]) (by simp)).trans (k7.sub (by simp)))) (k7.get (k6.get c5 (by simp)) (by simp)) hlen2 b7 (Nat.lt_of_lt_of_le hl6 s7.1) (q2.trans s7)

theorem tl_nt : Tryz.f5.ntmps = 52 := by kernel_rfl
theorem tl_rs : Tryz.f5.results.toList = [.tmp 2] := by kernel_rfl

/-- All lines that come in, and where they lie. -/
def LinesOk (h : Heap) (N : Nat) (a : Option (Nat × Nat)) (rows : List RowIn) : Prop :=
  (rows ≠ [] → ∃ o el, o < N ∧ a = some (o, 0) ∧ h.get o = some (.cells (ones (rows.map RowIn.av)) 1 el true 0)) ∧ ∀ r ∈ rows, RowOk h N r

set_option maxRecDepth 100000 in
theorem lines_run (I : Intr) (n : Nat) (hn : 100 < n) (a : Option (Nat × Nat)) (c : Option Nat) (rows : List RowIn) (h : Heap) (hI : I 5 [.slice a rows.length c] h = none) (ha : ∀ h, callA Tryz.prog I n 18 [] h = .ok (.bool true, h)) (C : LCall (callA Tryz.prog I n)) (hok : LinesOk h h.next a rows) :
    (callA Tryz.prog I (n + 1) 5 [.slice a rows.length c] h).all fun o => o.1 = .bool true := by
  refine call_code hI Tryz.func5 tl_body (by rw [tl_nt]; simp) ?_
  rw [tl_nt]
  generalize callA Tryz.prog I n = call at ha C
  have hQ : ∀ (env : Env) (h : Heap), env.get 2 = some (.bool true) → (fun r : AExit × Env × Heap => (∀ id, r.1 ≠ .exit id) ∧ ∃ v, resultsA Tryz.prog Tryz.f5 r.2.1 r.2.2 = some v ∧ (fun o : AV × Heap => o.1 = .bool true) (v, r.2.2)) (.ret, env, h) := by
    intro env h h10
    exact ⟨fun _ => (by simp), _, by simp [resultsA, tl_rs, resList, resA, h10], rfl⟩
  revert hQ
  generalize (fun r : AExit × Env × Heap => (∀ id, r.1 ≠ .exit id) ∧ ∃ v, resultsA Tryz.prog Tryz.f5 r.2.1 r.2.2 = some v ∧ (fun o : AV × Heap => o.1 = .bool true) (v, r.2.2)) = Q
  intro hQ
  obtain ⟨env0, henv0⟩ : ∃ env0, env0 = argsEnv 0 [.slice a rows.length c] .nil := ⟨_, rfl⟩
  rw [← henv0]
  have a0 : env0.get 0 = some (.slice a rows.length c) := by rw [henv0]; simp [argsEnv, Tr.get_set]
  refine go_reg (tl_0 call env0 h _ fun env1 k1 => ?_)
  refine go_assoc (go_reg (tl_1 call env1 h ha _ fun env2 k2 c2 => ?_))
  refine go_if (opd_b c2) (go_skip ?_)
  have k12 := k1.trans k2
  by_cases h20 : (20 : Int) < rows.length
  · refine go_assoc (go_reg (tl_3t call env2 h a _ c (k12.get a0 (by simp)) h20 _ fun env3 k3 c3 => ?_))
    refine go_if (opd_b c3) (go_end (go_reg (tl_4 call env3 h _ fun env4 c4 => go_ret1 ⟨rfl, ?_⟩)))
    exact hQ _ _ c4
  refine go_assoc (go_reg (tl_3f call env2 h a _ c (k12.get a0 (by simp)) h20 _ fun env3 k3 c3 => ?_))
  refine go_if (opd_b c3) (go_skip ?_)
  have k13 := k12.trans k3
  refine go_reg (tl_5 call env3 h _ fun env4 k4 c4 => ?_)
  obtain ⟨h4, hh4⟩ : ∃ h4, h4 = h.new (.cells [[.ptr none, .slice none 0 (some 0)]] 2 74 false 0) := ⟨_, rfl⟩
  rw [← hh4]
  have hb4 : Bld h.next h4 h.next [] := .inl ⟨rfl, by rw [hh4]; exact Heap.get_new_same ..⟩
  have hl4 : h.next < h4.next := by rw [hh4]; show h.next < h.next + 1; omega
  have hs4 : Same h.next h h4 := ⟨by omega, fun id hid => by rw [hh4]; exact Heap.get_new_ne (by omega)⟩
  refine go_reg (tl_6 call env4 h4 _ fun env5 k5 c5 => ?_)
  have k15 : Keep [0] env0 env5 := k13.trans (k4.trans fun j hj => k5 j (by simp at hj ⊢; omega))
  refine go_assoc (go_reg (tl_7 call env5 h4 a _ c (k15.get a0 (by simp)) _ fun env6 k6 c6 d6 e6 => ?_))
  have g3 : env6.get 3 = some (.ptr (some (h.next, 0))) := k6.get (k5.get c4 (by simp)) (by simp)
  have g4 : env6.get 4 = some (.str []) := k6.get c5 (by simp)
  refine go_block ?_
  rw [codeA_loop]
  unfold iterC
  refine iter_all (fun m env' h' => ∃ (i : Nat) (want : List UInt8), i + m = rows.length ∧ Keep [3, 14, 15] env6 env' ∧ env'.get 16 = some (.int .i64 i) ∧ env'.get 4 = some (.str want) ∧ want.length ≤ i * 500 ∧ Bld h.next h' h.next want ∧ h.next < h'.next ∧ Same h.next h h')
    ?_ rows.length n env6 h4 ⟨0, [], by omega, Keep.refl _ _, e6, g4, by simp, hb4, hl4, hs4⟩ (by omega)
  rintro m env7 h7 ⟨i, want, him, k7, g16, gw, hwl, hb7, hl7, hs7⟩
  have g15 := k7.get d6 (by simp)
  have g14 := k7.get c6 (by simp)
  have gl := k7.get g3 (by simp)
  unfold tlOut
  by_cases hi : i < rows.length
  · refine go_reg (tl_8t call env7 h7 i _ g16 g15 (by omega) _ fun env8 k8 c8 => ?_)
    refine go_if (opd_b c8) (go_skip ?_)
    obtain ⟨r, hr⟩ : ∃ r, rows[i]? = some r := ⟨_, List.getElem?_eq_getElem hi⟩
    have hne : rows ≠ [] := by intro e; rw [e] at hi; simp at hi
    obtain ⟨o, el, ho, rfl, hg⟩ := hok.1 hne
    refine go_block ?_
    unfold tlB1
    refine go_reg (tl_9 call env8 h7 o i _ c (rows.map RowIn.av) el r.av (k8.get g14 (by simp)) (k8.get g16 (by simp)) hi (by rw [hs7.2 o ho]; exact hg) (by rw [List.getElem?_map, hr]; rfl) _ fun env9 k9 c9 => ?_)
    have k79 : Keep [3, 4, 14, 15, 16] env7 env9 := k8.trans k9
    refine line_one call C n hn env9 h7 h.next h.next want r hb7 (Nat.le_refl _) hl7 ((hok.2 r (List.mem_of_getElem? hr)).same hs7) ?_ (k79.get gl (by simp)) (k79.get gw (by simp)) c9 _ ?_ ?_
    · have : i * 500 ≤ 20 * 500 := Nat.mul_le_mul_right _ (by omega)
      omega
    · intro env' h' g2
      exact ⟨fun e => (by rcases e with e | e <;> cases e), fun _ _ => .inr ⟨fun e => (by cases e), fun e => (by rcases e with e | e <;> cases e), fun _ _ => hQ _ _ g2⟩⟩
    · intro env' h' want' k10 g4' hlen hb' hl' hs'
      refine ⟨fun _ => ?_, fun e => absurd rfl e⟩
      have k710 : Keep [3, 14, 15, 16] env7 env' := (k79.sub (l' := [3, 14, 15, 16]) (by simp)).trans k10
      refine go_reg1 (tl_25 call env' h' i (k710.get g16 (by simp)) (by omega) _ fun env11 k11 c11 => ?_)
      refine .inl ⟨rfl, m - 1, by omega, i + 1, want', by omega, k7.trans ((k710.sub (l' := [3, 14, 15]) (by simp)).trans (k11.sub (by simp))), c11, k11.get g4' (by simp), by omega, hb', hl', hs7.trans hs'⟩
  · refine go_reg (tl_8f call env7 h7 i _ g16 g15 (by omega) _ fun env8 k8 c8 => ?_)
    refine go_if (opd_b c8) (go_seq (go_exit1 ⟨fun e => (by cases e), fun _ => .inr ⟨fun e => (by cases e), fun _ => ?_, fun _ e => absurd rfl e⟩⟩))
    have hw20 : want.length < 1000000 := by
      have : i * 500 ≤ 20 * 500 := Nat.mul_le_mul_right _ (by omega)
      omega
    refine go_reg (tl_26 call env8 h7 h.next want (k8.get gl (by simp)) (k8.get gw (by simp)) _ (C.str h7 h.next h.next want hb7 (Nat.le_refl _) hl7 hw20) _ fun env9 h9 k9 c9 q9 => go_ret1 ?_)
    exact hQ _ _ c9
end Go.Am
