/- Part of the proof of TellLines: its text AmLines2. Conditions: none. -/
import Derived.Test.YtcaaedohfmdikaaGreatDoorAmLines
set_option linter.unusedVariables false
set_option linter.unusedSimpArgs false
open Go Go.Am Go.Proofs Go.RowKit
namespace Go.Am

theorem Keep.sub {l l' : List Nat} {a b : Env} (h : Keep l a b) (hs : ∀ j ∈ l', j ∈ l) : Keep l' a b := fun j hj => h j (hs j hj)

theorem join_snoc (w : List UInt8) : ∀ l : List (List UInt8), Lib.join (l ++ [w]) [32] = Lib.join l [32] ++ (if l = [] then [] else [32]) ++ w := by
  have hj : ∀ l : List (List UInt8), Lib.join l [32] = [32].intercalate l := fun _ => rfl
  intro l
  simp only [hj]
  induction l with
  | nil => simp [List.intercalate]
  | cons a r ih =>
    cases r with
    | nil => simp [List.intercalate]
    | cons b r =>
      have e1 : ∀ x : List (List UInt8), ([32] : List UInt8).intercalate (a :: b :: x) = a ++ [32] ++ ([32] : List UInt8).intercalate (b :: x) := fun x => by simp [List.intercalate]
      rw [List.cons_append, List.cons_append, e1, e1, ← List.cons_append, ih]
      simp

/-- A line that comes in: its words, and where they lie. -/
structure RowIn where
  a : Option (Nat × Nat)
  c : Option Nat
  words : List (List UInt8)
def RowIn.av (r : RowIn) : AV := .slice r.a r.words.length r.c
def RowOk (h : Heap) (N : Nat) (r : RowIn) : Prop :=
  (r.a = none → r.words = []) ∧ (r.words ≠ [] → ∃ id el, id < N ∧ r.a = some (id, 0) ∧ h.get id = some (.cells (ones (r.words.map .str)) 1 el true 0))

set_option maxRecDepth 100000 in
theorem in_loop (call : CallF) (n : Nat) (env : Env) (h : Heap) (r : RowIn) (N : Nat) (hok : RowOk h N r) (t : List UInt8) (h23 : env.get 23 = some r.av) (h24 : env.get 24 = some (.int .i64 r.words.length)) (h25 : env.get 25 = some (.int .i64 0)) (h4 : env.get 4 = some (.str t))
    (hL : r.words.length ≤ 10) (ht : t.length < 500000) (hn : 100 < n) (Q : AExit × Env × Heap → Prop) (hr : ∀ env' : Env, env'.get 2 = some (.bool true) → Q (.ret, env', h))
    (hq : (∀ w ∈ r.words, w.length ≤ 40) → ∀ env' : Env, Keep [3, 6, 14, 15, 16] env env' → env'.get 4 = some (.str (t ++ Lib.join r.words [32])) → Q (.norm, env', h)) :
    (codeA Tryz.prog call 52 n (.block 2 (.loop tlIn)) env h).all Q := by
  refine go_block1 ?_
  rw [codeA_loop]
  unfold iterC
  refine iter_all (fun m env' h' => h' = h ∧ ∃ k, k + m = r.words.length ∧ Keep [3, 6, 14, 15, 16, 23, 24] env env' ∧ env'.get 25 = some (.int .i64 k) ∧ env'.get 4 = some (.str (t ++ Lib.join (r.words.take k) [32])) ∧ ∀ w ∈ r.words.take k, w.length ≤ 40)
    ?_ r.words.length n env h ⟨rfl, 0, by omega, Keep.refl _ _, h25, by simpa [Lib.join] using h4, by simp⟩ (by omega)
  rintro m env1 h1 ⟨rfl, k, hk, kk, g25, g4, hall⟩
  have g24 := kk.get h24 (by simp)
  have g23 := kk.get h23 (by simp)
  unfold tlIn
  by_cases hkl : k < r.words.length
  · refine go_reg (tl_13t call env1 h1 k _ g25 g24 (by omega) _ fun env2 k2 c2 => ?_)
    refine go_if (opd_b c2) (go_skip ?_)
    obtain ⟨w, hw⟩ : ∃ w, r.words[k]? = some w := ⟨_, List.getElem?_eq_getElem hkl⟩
    have hne : r.words ≠ [] := by intro e; rw [e] at hkl; simp at hkl
    obtain ⟨id, el, hid, ha, hg⟩ := hok.2 hne
    have g23' : env2.get 23 = some (.slice (some (id, 0)) r.words.length r.c) := by
      have := k2.get g23 (by simp)
      rw [this, RowIn.av, ha]
    have htl : (t ++ Lib.join (r.words.take k) [32]).length < 900000 := by
      have := join_le (r.words.take k) 40 hall
      have h2 : (r.words.take k).length ≤ 10 := by rw [List.length_take]; omega
      have h3 : (40 + 1) * (r.words.take k).length ≤ 41 * 10 := Nat.mul_le_mul_left _ h2
      rw [List.length_append]; omega
    refine go_block ?_
    unfold tlB3
    refine go_reg (tl_14 call env2 h1 id k _ r.c _ el w g23' (k2.get g25 (by simp)) hkl hg (by rw [List.getElem?_map, hw]; rfl) _ fun env3 k3 c3 d3 => ?_)
    by_cases hw40 : (40 : Int) < w.length
    · refine go_assoc (go_reg (tl_15t call env3 h1 w d3 hw40 _ fun env4 k4 c4 => ?_))
      refine go_if (opd_b c4) (go_end (go_reg (tl_16 call env4 h1 _ fun env5 c5 => go_ret1 ⟨rfl, ?_⟩)))
      exact ⟨fun e => (by rcases e with e | e <;> cases e), fun _ _ => .inr ⟨fun e => (by cases e), fun e => (by rcases e with e | e <;> cases e), fun _ _ => hr _ c5⟩⟩
    · refine go_assoc (go_reg (tl_15f call env3 h1 w d3 hw40 _ fun env4 k4 c4 => ?_))
      refine go_if (opd_b c4) (go_skip ?_)
      have k24 : Keep [3, 6, 14, 15, 16, 23, 24, 4, 25] env1 env4 := k2.trans (k3.trans fun j hj => k4 j (by simp at hj ⊢; omega))
      have c7 : env4.get 7 = some (.int .i64 k) := k4.get c3 (by simp)
      have c8 : env4.get 8 = some (.str w) := k4.get d3 (by simp)
      have fin : ∀ (env5 : Env) (t' : List UInt8), Keep [3, 6, 14, 15, 16, 23, 24, 25] env1 env5 → env5.get 8 = some (.str w) → env5.get 4 = some (.str t') → t'.length < 1000000 → t' ++ w = t ++ Lib.join (r.words.take (k + 1)) [32] →
          (codeA Tryz.prog call 52 n (.region 19 (tl 19) false) env5 h1).all fun r_1 => ((r_1.1 = .norm ∨ r_1.1 = .exit 3) → (codeA Tryz.prog call 52 n (.region 20 (tl 20) false) r_1.2.1 r_1.2.2).all fun r_1 =>
            (r_1.1 = .norm ∧ ∃ m', m' < m ∧ r_1.2.2 = h1 ∧ ∃ k, k + m' = r.words.length ∧ Keep [3, 6, 14, 15, 16, 23, 24] env r_1.2.1 ∧ r_1.2.1.get 25 = some (.int .i64 k) ∧ r_1.2.1.get 4 = some (.str (t ++ Lib.join (r.words.take k) [32])) ∧ ∀ w ∈ r.words.take k, w.length ≤ 40) ∨
            (r_1.1 ≠ .norm ∧ ((r_1.1 = .norm ∨ r_1.1 = .exit 2) → Q (.norm, r_1.2)) ∧ (r_1.1 ≠ .norm → r_1.1 ≠ .exit 2 → Q r_1))) ∧
            (r_1.1 ≠ .norm → r_1.1 ≠ .exit 3 → (r_1.1 = .norm ∧ ∃ m', m' < m ∧ r_1.2.2 = h1 ∧ ∃ k, k + m' = r.words.length ∧ Keep [3, 6, 14, 15, 16, 23, 24] env r_1.2.1 ∧ r_1.2.1.get 25 = some (.int .i64 k) ∧ r_1.2.1.get 4 = some (.str (t ++ Lib.join (r.words.take k) [32])) ∧ ∀ w ∈ r.words.take k, w.length ≤ 40) ∨
            (r_1.1 ≠ .norm ∧ ((r_1.1 = .norm ∨ r_1.1 = .exit 2) → Q (.norm, r_1.2)) ∧ (r_1.1 ≠ .norm → r_1.1 ≠ .exit 2 → Q r_1))) := by
        intro env5 t' k5 e8 e4 ht' he
        refine go_reg1 (tl_19 call env5 h1 t' w e4 e8 ht' (by omega) _ fun env6 k6 c6 => ⟨fun _ => ?_, fun e => absurd rfl e⟩)
        have k16 : Keep [3, 6, 14, 15, 16, 23, 24, 25] env1 env6 := k5.trans k6
        refine go_reg1 (tl_20 call env6 h1 k (k16.get g25 (by simp)) (by omega) _ fun env7 k7 c7 => ?_)
        refine .inl ⟨rfl, m - 1, by omega, rfl, k + 1, by omega, kk.trans ((k16.sub (l' := [3, 6, 14, 15, 16, 23, 24]) (by simp)).trans fun j hj => k7 j (by simp at hj ⊢; omega)), c7, ?_, ?_⟩
        · rw [← he]; exact k7.get c6 (by simp)
        · intro x hx
          rw [List.take_add_one, hw] at hx
          rcases List.mem_append.1 hx with hx | hx
          · exact hall x hx
          · simp at hx; subst hx; omega
      have htk : r.words.take (k + 1) = r.words.take k ++ [w] := by rw [List.take_add_one, hw]; rfl
      by_cases hk0 : (0 : Int) < k
      · refine go_assoc (go_reg (tl_17t call env4 h1 k c7 hk0 _ fun env5 k5 c5 => ?_))
        refine go_if (opd_b c5) ?_
        have k15 : Keep [3, 6, 14, 15, 16, 23, 24, 4, 25] env1 env5 := k24.trans fun j hj => k5 j (by simp at hj ⊢; omega)
        refine go_reg (tl_18 call env5 h1 _ (k15.get g4 (by simp)) (by omega) _ fun env6 k6 c6 => ?_)
        refine fin env6 _ ((k15.sub (l' := [3, 6, 14, 15, 16, 23, 24, 25]) (by simp)).trans fun j hj => k6 j (by simp at hj ⊢; omega)) (k6.get (k5.get c8 (by simp)) (by simp)) c6 (by rw [List.length_append]; simp only [List.length_cons, List.length_nil]; omega) ?_
        rw [htk, join_snoc]
        have : r.words.take k ≠ [] := by
          intro e
          have h1 := congrArg List.length e
          rw [List.length_take] at h1
          simp at h1
          rcases h1 with h1 | h1
          · omega
          · exact hne h1
        rw [if_neg this]
        simp [List.append_assoc]
      · refine go_assoc (go_reg (tl_17f call env4 h1 k c7 hk0 _ fun env5 k5 c5 => ?_))
        refine go_if (opd_b c5) (go_skip ?_)
        have k15 : Keep [3, 6, 14, 15, 16, 23, 24, 4, 25] env1 env5 := k24.trans fun j hj => k5 j (by simp at hj ⊢; omega)
        refine fin env5 _ (fun j hj => k15 j (by simp at hj ⊢; omega)) (k5.get c8 (by simp)) (k15.get g4 (by simp)) (by omega) ?_
        have hz : k = 0 := by omega
        rw [htk, join_snoc]
        subst hz
        simp [Lib.join]
  · have hkm : k = r.words.length := by omega
    refine go_reg (tl_13f call env1 h1 k _ g25 g24 (by omega) _ fun env2 k2 c2 => ?_)
    refine go_if (opd_b c2) (go_seq (go_exit1 ⟨fun e => (by cases e), fun _ => .inr ⟨fun e => (by cases e), fun _ => ?_, fun _ e => absurd rfl e⟩⟩))
    have htk : r.words.take k = r.words := by rw [hkm, List.take_length]
    rw [htk] at hall g4
    exact hq hall _ ((kk.sub (l' := [3, 6, 14, 15, 16]) (by simp)).trans fun j hj => k2 j (by simp at hj ⊢; omega)) (k2.get g4 (by simp))
end Go.Am
