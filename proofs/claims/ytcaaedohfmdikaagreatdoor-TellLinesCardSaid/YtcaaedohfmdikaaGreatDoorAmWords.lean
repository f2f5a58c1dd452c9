/- Part of the proof of TellLines: its text AmWords. Conditions: none. -/
import Derived.Test.YtcaaedohfmdikaaGreatDoorAmText
set_option linter.unusedVariables false
set_option linter.unusedSimpArgs false
open Go Go.Am Go.Proofs Go.RowKit
namespace Go.Am

/-- A state, as a word. -/
def stateW (s : Int) : List UInt8 :=
  if s = 1 then [115, 116, 97, 114, 116, 105, 110, 103] else if s = 2 then [111, 110] else if s = 3 then [115, 116, 111, 112, 112, 105, 110, 103] else if s = 4 then [102, 97, 105, 108, 101, 100] else [111, 102, 102]

set_option maxRecDepth 100000 in
set_option maxHeartbeats 4000000 in
theorem state_run (I : Intr) (n : Nat) (s : Int) (h : Heap) (hI : I 22 [.int .i64 s] h = none) : callA Tryz.prog I (n + 1) 22 [.int .i64 s] h = .ok (.str (stateW s), h) := by
  simp only [callA, hI, Tryz.func22, bodyA]
  generalize callA Tryz.prog I n = call
  have hb : ∀ k : Int, (s == k) = decide (s = k) := fun k => by by_cases e : s = k <;> simp [e]
  by_cases h1 : s = 1
  · subst h1
    simp [stateW, Tryz.f22, codeA_seq, codeA_region, codeA_block, codeA_cond, codeA_skip, codeA_exit, codeA_ret, regionA_seq, opsA, opA, kindA, readA, opd, putO, wantedA, Tr.get_set, List.range, List.range.loop, argsEnv, ofConst, ofScalar, binA, intA, cmpA, resultsA, resList, resA]
  by_cases h2 : s = 2
  · subst h2
    simp [stateW, Tryz.f22, codeA_seq, codeA_region, codeA_block, codeA_cond, codeA_skip, codeA_exit, codeA_ret, regionA_seq, opsA, opA, kindA, readA, opd, putO, wantedA, Tr.get_set, List.range, List.range.loop, argsEnv, ofConst, ofScalar, binA, intA, cmpA, resultsA, resList, resA]
  by_cases h3 : s = 3
  · subst h3
    simp [stateW, Tryz.f22, codeA_seq, codeA_region, codeA_block, codeA_cond, codeA_skip, codeA_exit, codeA_ret, regionA_seq, opsA, opA, kindA, readA, opd, putO, wantedA, Tr.get_set, List.range, List.range.loop, argsEnv, ofConst, ofScalar, binA, intA, cmpA, resultsA, resList, resA]
  by_cases h4 : s = 4
  · subst h4
    simp [stateW, Tryz.f22, codeA_seq, codeA_region, codeA_block, codeA_cond, codeA_skip, codeA_exit, codeA_ret, regionA_seq, opsA, opA, kindA, readA, opd, putO, wantedA, Tr.get_set, List.range, List.range.loop, argsEnv, ofConst, ofScalar, binA, intA, cmpA, resultsA, resList, resA]
  · simp [stateW, h1, h2, h3, h4, hb, Tryz.f22, codeA_seq, codeA_region, codeA_block, codeA_cond, codeA_skip, codeA_exit, codeA_ret, regionA_seq, opsA, opA, kindA, readA, opd, putO, wantedA, Tr.get_set, List.range, List.range.loop, argsEnv, ofConst, ofScalar, binA, intA, cmpA, resultsA, resList, resA]

/-! ### A number's digits -/
set_option maxRecDepth 100000 in
set_option maxHeartbeats 4000000 in
theorem digits_small (I : Intr) (n : Nat) (d : Nat) (hd : d < 10) (h : Heap) (hI : I 19 [.int .i64 d] h = none) : callA Tryz.prog I (n + 1) 19 [.int .i64 d] h = .ok (.str [UInt8.ofNat (48 + d)], h) := by
  simp only [callA, hI, Tryz.func19, bodyA]
  generalize callA Tryz.prog I n = call
  have u3 : Tryz.prog.underlying 3 = some (.int .i64) := by kernel_rfl
  have u21 : Tryz.prog.underlying 21 = some (.int .i32) := by kernel_rfl
  have u9 : Tryz.prog.underlying 9 = some .string := by kernel_rfl
  have hl : ¬ ((d : Int) < 0) := by omega
  have hl2 : ((d : Int) < 10) := by omega
  have w1 : wrapA .i64 (48 + (d : Int)) = 48 + d := by rw [wrapA_eq]; simp [IntKind.wrap, IntKind.bits, IntKind.signed]; omega
  have w2 : wrapA .i32 (48 + (d : Int)) = 48 + d := by rw [wrapA_eq]; simp [IntKind.wrap, IntKind.bits, IntKind.signed]; omega
  have hu : (Utf8.encode (48 + (d : Int))).data.toList = [UInt8.ofNat (48 + d)] := by
    have : d = 0 ∨ d = 1 ∨ d = 2 ∨ d = 3 ∨ d = 4 ∨ d = 5 ∨ d = 6 ∨ d = 7 ∨ d = 8 ∨ d = 9 := by omega
    rcases this with rfl | rfl | rfl | rfl | rfl | rfl | rfl | rfl | rfl | rfl <;> decide
  simp [hl, hl2, w1, w2, hu, u3, u21, u9, convA, Tryz.f19, codeA_seq, codeA_region, codeA_block, codeA_cond, codeA_skip, codeA_exit, codeA_ret, regionA_seq, opsA, opA, kindA, readA, opd, putO, wantedA, Tr.get_set, List.range, List.range.loop, argsEnv, ofConst, ofScalar, binA, intA, cmpA, resultsA, resList, resA, sliceElem]

set_option maxRecDepth 100000 in
set_option maxHeartbeats 4000000 in
theorem digits_big (I : Intr) (n : Nat) (d : Nat) (hd : 10 ≤ d) (hm : d < 2 ^ 62) (s : List UInt8) (hs : s.length < 1000) (h : Heap) (hI : I 19 [.int .i64 d] h = none) (hr : callA Tryz.prog I n 19 [.int .i64 (d / 10 : Nat)] h = .ok (.str s, h)) :
    callA Tryz.prog I (n + 1) 19 [.int .i64 d] h = .ok (.str (s ++ [UInt8.ofNat (48 + d % 10)]), h) := by
  simp only [callA, hI, Tryz.func19, bodyA]
  generalize callA Tryz.prog I n = call at hr
  have u3 : Tryz.prog.underlying 3 = some (.int .i64) := by kernel_rfl
  have u21 : Tryz.prog.underlying 21 = some (.int .i32) := by kernel_rfl
  have u9 : Tryz.prog.underlying 9 = some .string := by kernel_rfl
  have hl : ¬ ((d : Int) < 0) := by omega
  have hl2 : ¬ ((d : Int) < 10) := by omega
  obtain ⟨e, he⟩ : ∃ e, e = d % 10 := ⟨_, rfl⟩
  have he10 : e < 10 := by omega
  have hq : wrapA .i64 ((d : Int).tdiv 10) = ((d / 10 : Nat) : Int) := by
    have : (d : Int).tdiv 10 = ((d / 10 : Nat) : Int) := rfl
    rw [this, wrapA_eq]; simp [IntKind.wrap, IntKind.bits, IntKind.signed]; omega
  have hrm : (d : Int).tmod 10 = (e : Int) := by rw [he]; rfl
  have w1 : wrapA .i64 (48 + (e : Int)) = 48 + e := by rw [wrapA_eq]; simp [IntKind.wrap, IntKind.bits, IntKind.signed]; omega
  have w2 : wrapA .i32 (48 + (e : Int)) = 48 + e := by rw [wrapA_eq]; simp [IntKind.wrap, IntKind.bits, IntKind.signed]; omega
  have hu : (Utf8.encode (48 + (e : Int))).data.toList = [UInt8.ofNat (48 + e)] := by
    have : e = 0 ∨ e = 1 ∨ e = 2 ∨ e = 3 ∨ e = 4 ∨ e = 5 ∨ e = 6 ∨ e = 7 ∨ e = 8 ∨ e = 9 := by omega
    rcases this with rfl | rfl | rfl | rfl | rfl | rfl | rfl | rfl | rfl | rfl <;> decide
  have hlen : s.length + 1 < 4611686018427387904 := by omega
  have hr' : call 19 [.int .i64 ((d : Int) / 10)] h = .ok (.str s, h) := by
    rw [← hr]; congr
  have hq' : wrapA .i64 ((d : Int) / 10) = (d : Int) / 10 := hq
  rw [← he]
  simp [hl, hl2, w1, w2, hu, hq', hrm, hr', hlen, strA, u3, u21, u9, convA, Tryz.f19, codeA_seq, codeA_region, codeA_block, codeA_cond, codeA_skip, codeA_exit, codeA_ret, regionA_seq, opsA, opA, actA, calleeA, kindA, readA, opd, putO, wantedA, Tr.get_set, List.range, List.range.loop, argsEnv, ofConst, ofScalar, binA, intA, cmpA, resultsA, resList, resA, sliceElem]

set_option maxRecDepth 100000 in
set_option maxHeartbeats 4000000 in
theorem digits_neg (I : Intr) (n : Nat) (d : Nat) (hd : 0 < d) (hm : d < 2 ^ 62) (s : List UInt8) (hs : s.length < 1000) (h : Heap) (hI : I 19 [.int .i64 (-(d : Int))] h = none) (hr : callA Tryz.prog I n 19 [.int .i64 d] h = .ok (.str s, h)) :
    callA Tryz.prog I (n + 1) 19 [.int .i64 (-(d : Int))] h = .ok (.str (45 :: s), h) := by
  simp only [callA, hI, Tryz.func19, bodyA]
  generalize callA Tryz.prog I n = call at hr
  have hl : (-(d : Int) < 0) := by omega
  have hl3 : 0 < (d : Int) := by omega
  have w1 : wrapA .i64 (d : Int) = d := by rw [wrapA_eq]; simp [IntKind.wrap, IntKind.bits, IntKind.signed]; omega
  have hlen : 1 + s.length < 4611686018427387904 := by omega
  have hlen2 : s.length + 1 < 4611686018427387904 := by omega
  simp [hl, hl3, hd, w1, hr, hlen, hlen2, strA, Tryz.f19, codeA_seq, codeA_region, codeA_block, codeA_cond, codeA_skip, codeA_exit, codeA_ret, regionA_seq, opsA, opA, actA, calleeA, unA, kindA, readA, opd, putO, wantedA, Tr.get_set, List.range, List.range.loop, argsEnv, ofConst, ofScalar, binA, intA, cmpA, resultsA, resList, resA]

/-- The digits of a number. -/
def digN : Nat → Nat → List UInt8
  | 0, _ => []
  | f + 1, d => if d < 10 then [UInt8.ofNat (48 + d)] else digN f (d / 10) ++ [UInt8.ofNat (48 + d % 10)]
def digW (n : Int) : List UInt8 :=
  match n with
  | .ofNat d => digN 40 d
  | .negSucc d => 45 :: digN 40 (d + 1)
theorem digN_length : ∀ (f d : Nat), (digN f d).length ≤ f
  | 0, _ => by simp [digN]
  | f + 1, d => by
    simp only [digN]
    split
    · simp
    · have := digN_length f (d / 10)
      simp; omega

theorem digits_nat (I : Intr) (h : Heap) (hI : ∀ n, I 19 [.int .i64 n] h = none) : ∀ (f : Nat) (d : Nat), d < 2 ^ 62 → d < 10 ^ (f + 1) → f < 100 → ∀ n, f < n → callA Tryz.prog I n 19 [.int .i64 d] h = .ok (.str (digN (f + 1) d), h)
  | 0, d, h1, hd, _, n, hn => by
    obtain ⟨n, rfl⟩ : ∃ m, n = m + 1 := ⟨n - 1, by omega⟩
    have h10 : d < 10 := by simpa using hd
    simp only [digN]
    rw [if_pos h10]
    exact digits_small I n d h10 h (hI _)
  | f + 1, d, h1, hd, hf, n, hn => by
    obtain ⟨n, rfl⟩ : ∃ m, n = m + 1 := ⟨n - 1, by omega⟩
    rw [digN]
    by_cases h10 : d < 10
    · rw [if_pos h10]
      exact digits_small I n d h10 h (hI _)
    · rw [if_neg h10]
      have hlen := digN_length (f + 1) (d / 10)
      exact digits_big I n d (by omega) h1 _ (by omega) h (hI _) (digits_nat I h hI f (d / 10) (by omega) (by rw [Nat.pow_succ] at hd; omega) (by omega) n (by omega))

theorem digits_run (I : Intr) (h : Heap) (hI : ∀ n, I 19 [.int .i64 n] h = none) (n : Int) (h0 : -2147483648 ≤ n) (h1 : n ≤ 2147483648) (k : Nat) (hk : 50 < k) : callA Tryz.prog I k 19 [.int .i64 n] h = .ok (.str (digW n), h) := by
  obtain ⟨k, rfl⟩ : ∃ m, k = m + 1 := ⟨k - 1, by omega⟩
  have hp : ∀ d : Nat, d ≤ 2147483648 → d < 10 ^ (39 + 1) := fun d hd => Nat.lt_of_le_of_lt hd (by decide)
  cases n with
  | ofNat d =>
    have hd : d ≤ 2147483648 := by have : ((d : Nat) : Int) ≤ 2147483648 := h1; omega
    exact digits_nat I h hI 39 d (by omega) (hp d hd) (by omega) (k + 1) (by omega)
  | negSucc d =>
    have hd : d + 1 ≤ 2147483648 := by omega
    have hlen := digN_length 40 (d + 1)
    have := digits_neg I k (d + 1) (by omega) (by omega) (digN 40 (d + 1)) (by omega) h (hI _) (digits_nat I h hI 39 (d + 1) (by omega) (hp _ hd) (by omega) k (by omega))
    exact this
end Go.Am
