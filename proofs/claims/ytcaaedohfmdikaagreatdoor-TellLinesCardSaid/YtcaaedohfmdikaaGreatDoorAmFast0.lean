/- Part of the proof of TellLines: its text AmFast0. Conditions: none. -/
import Derived.Test.YtcaaedohfmdikaaGreatDoorAmOpsU
set_option linter.unusedSimpArgs false
set_option linter.unusedVariables false
noncomputable section
namespace Go.Am

/-! ### Whole numbers, the quick way -/
def limK (k : IntKind) : Nat :=
  IntKind.rec (motive := fun _ => Nat) 128 32768 2147483648 9223372036854775808 256 65536 4294967296 18446744073709551616 k

theorem wrapA_small {k : IntKind} {a : Nat} (h : a < limK k) : wrapA k (a : Int) = a := by
  rw [wrapA_eq]
  cases k <;> simp [limK, IntKind.wrap, IntKind.bits, IntKind.signed] at h ⊢ <;> omega

theorem lim_bits (k : IntKind) : limK k ≤ 2 ^ k.bits := by cases k <;> decide
theorem lim_pow (k : IntKind) : ∃ m, limK k = 2 ^ m := by
  cases k
  · exact ⟨7, by decide⟩
  · exact ⟨15, by decide⟩
  · exact ⟨31, by decide⟩
  · exact ⟨63, by decide⟩
  · exact ⟨8, by decide⟩
  · exact ⟨16, by decide⟩
  · exact ⟨32, by decide⟩
  · exact ⟨64, by decide⟩

theorem bitsA_small {k : IntKind} {a : Nat} (h : a < limK k) : bitsA k (a : Int) = a := by
  have h2 := lim_bits k
  unfold bitsA
  rw [← Int.natCast_emod, Int.toNat_natCast]
  exact Nat.mod_eq_of_lt (by omega)

def wrapN (k : IntKind) (s : Nat) : Int :=
  Bool.rec (motive := fun _ => Int) (wrapA k (.ofNat s)) (.ofNat s) (Nat.ble (Nat.succ s) (limK k))
theorem wrapN_eq (k : IntKind) (s : Nat) : wrapN k s = wrapA k (.ofNat s) := by
  unfold wrapN
  cases h : Nat.ble (Nat.succ s) (limK k) with
  | false => rfl
  | true => exact (wrapA_small (Nat.le_of_ble_eq_true h)).symm

def wrapF (k : IntKind) (n : Int) : Int :=
  Int.rec (motive := fun _ => Int) (fun a => wrapN k a) (fun a => wrapA k (.negSucc a)) n
theorem wrapF_eq (k : IntKind) (n : Int) : wrapF k n = wrapA k n := by
  cases n with
  | ofNat a => exact wrapN_eq k a
  | negSucc a => rfl

structure BinF where
  run : IntKind → Int → Int → Option AV

/-- Both are small: bits are what they are. -/
def both (k : IntKind) (a b : Nat) : Bool :=
  Bool.rec (motive := fun _ => Bool) false (Nat.ble (Nat.succ b) (limK k)) (Nat.ble (Nat.succ a) (limK k))

def cInt (op : BinOp) : BinF :=
  match op with
  | .add => ⟨fun k x y => Int.rec (motive := fun _ => Option AV) (fun a => Int.rec (motive := fun _ => Option AV) (fun b => some (.int k (wrapN k (Nat.add a b)))) (fun b => some (.int k (wrapA k ((Int.ofNat a) + (Int.negSucc b))))) y) (fun a => some (.int k (wrapA k ((Int.negSucc a) + y)))) x⟩
  | .sub => ⟨fun k x y => Int.rec (motive := fun _ => Option AV) (fun a => Int.rec (motive := fun _ => Option AV) (fun b => Bool.rec (motive := fun _ => Option AV) (some (.int k (wrapA k (Int.ofNat a - Int.ofNat b)))) (some (.int k (wrapN k (Nat.sub a b)))) (Nat.ble b a)) (fun b => some (.int k (wrapA k ((Int.ofNat a) - (Int.negSucc b))))) y) (fun a => some (.int k (wrapA k ((Int.negSucc a) - y)))) x⟩
  | .mul => ⟨fun k x y => Int.rec (motive := fun _ => Option AV) (fun a => Int.rec (motive := fun _ => Option AV) (fun b => some (.int k (wrapN k (Nat.mul a b)))) (fun b => some (.int k (wrapA k ((Int.ofNat a) * (Int.negSucc b))))) y) (fun a => some (.int k (wrapA k ((Int.negSucc a) * y)))) x⟩
  | .and => ⟨fun k x y => Int.rec (motive := fun _ => Option AV) (fun a => Int.rec (motive := fun _ => Option AV) (fun b => Bool.rec (motive := fun _ => Option AV) (intA .and k (Int.ofNat a) (Int.ofNat b)) (some (.int k (.ofNat (Nat.land a b)))) (both k a b)) (fun b => intA .and k (Int.ofNat a) (Int.negSucc b)) y) (fun a => intA .and k (Int.negSucc a) y) x⟩
  | .or => ⟨fun k x y => Int.rec (motive := fun _ => Option AV) (fun a => Int.rec (motive := fun _ => Option AV) (fun b => Bool.rec (motive := fun _ => Option AV) (intA .or k (Int.ofNat a) (Int.ofNat b)) (some (.int k (.ofNat (Nat.lor a b)))) (both k a b)) (fun b => intA .or k (Int.ofNat a) (Int.negSucc b)) y) (fun a => intA .or k (Int.negSucc a) y) x⟩
  | .xor => ⟨fun k x y => Int.rec (motive := fun _ => Option AV) (fun a => Int.rec (motive := fun _ => Option AV) (fun b => Bool.rec (motive := fun _ => Option AV) (intA .xor k (Int.ofNat a) (Int.ofNat b)) (some (.int k (.ofNat (Nat.xor a b)))) (both k a b)) (fun b => intA .xor k (Int.ofNat a) (Int.negSucc b)) y) (fun a => intA .xor k (Int.negSucc a) y) x⟩
  | .eql => ⟨fun k x y => Int.rec (motive := fun _ => Option AV) (fun a => Int.rec (motive := fun _ => Option AV) (fun b => some (.bool (Nat.beq a b))) (fun b => some (.bool ((Int.ofNat a) == (Int.negSucc b)))) y) (fun a => some (.bool ((Int.negSucc a) == y))) x⟩
  | .neq => ⟨fun k x y => Int.rec (motive := fun _ => Option AV) (fun a => Int.rec (motive := fun _ => Option AV) (fun b => some (.bool (Bool.rec (motive := fun _ => Bool) true false (Nat.beq a b)))) (fun b => some (.bool ((Int.ofNat a) != (Int.negSucc b)))) y) (fun a => some (.bool ((Int.negSucc a) != y))) x⟩
  | .lss => ⟨fun k x y => Int.rec (motive := fun _ => Option AV) (fun a => Int.rec (motive := fun _ => Option AV) (fun b => some (.bool (Nat.ble (Nat.succ a) b))) (fun b => some (.bool (decide ((Int.ofNat a) < (Int.negSucc b))))) y) (fun a => some (.bool (decide ((Int.negSucc a) < y)))) x⟩
  | .leq => ⟨fun k x y => Int.rec (motive := fun _ => Option AV) (fun a => Int.rec (motive := fun _ => Option AV) (fun b => some (.bool (Nat.ble a b))) (fun b => some (.bool (decide ((Int.ofNat a) ≤ (Int.negSucc b))))) y) (fun a => some (.bool (decide ((Int.negSucc a) ≤ y)))) x⟩
  | .gtr => ⟨fun k x y => Int.rec (motive := fun _ => Option AV) (fun a => Int.rec (motive := fun _ => Option AV) (fun b => some (.bool (Nat.ble (Nat.succ b) a))) (fun b => some (.bool (decide ((Int.ofNat a) > (Int.negSucc b))))) y) (fun a => some (.bool (decide ((Int.negSucc a) > y)))) x⟩
  | .geq => ⟨fun k x y => Int.rec (motive := fun _ => Option AV) (fun a => Int.rec (motive := fun _ => Option AV) (fun b => some (.bool (Nat.ble b a))) (fun b => some (.bool (decide ((Int.ofNat a) ≥ (Int.negSucc b))))) y) (fun a => some (.bool (decide ((Int.negSucc a) ≥ y)))) x⟩
  | op => ⟨fun k x y => intA op k x y⟩

theorem beq_ofNat (a b : Nat) : (Int.ofNat a == Int.ofNat b) = Nat.beq a b := by
  rw [Bool.eq_iff_iff, beq_iff_eq, Nat.beq_eq]
  exact ⟨fun h => Int.ofNat.inj h, fun h => by rw [h]⟩
theorem dec_bool {p : Prop} [Decidable p] {b : Bool} (h : b = true ↔ p) : decide p = b := by
  rw [Bool.eq_iff_iff, decide_eq_true_iff]; exact h.symm

theorem cInt_eq (op : BinOp) (k : IntKind) (x y : Int) : (cInt op).run k x y = intA op k x y := by
  have hlt : ∀ a b : Nat, Nat.ble (Nat.succ a) b = true ↔ (Int.ofNat a < Int.ofNat b) := fun a b => by rw [Nat.ble_eq]; exact Int.ofNat_lt.symm
  have hle : ∀ a b : Nat, Nat.ble a b = true ↔ (Int.ofNat a ≤ Int.ofNat b) := fun a b => by rw [Nat.ble_eq]; exact Int.ofNat_le.symm
  have hb : ∀ a b : Nat, both k a b = true → a < limK k ∧ b < limK k := by
    intro a b h
    unfold both at h
    cases h1 : Nat.ble (Nat.succ a) (limK k) with
    | false => rw [h1] at h; cases h
    | true => rw [h1] at h; exact ⟨Nat.le_of_ble_eq_true h1, Nat.le_of_ble_eq_true h⟩
  cases op
  case add => cases x <;> cases y <;> first | rfl | (simp only [cInt, intA, wrapN_eq]; rfl)
  case sub =>
    cases x <;> cases y <;> try rfl
    rename_i a b
    simp only [cInt, intA]
    cases h : Nat.ble b a with
    | false => rfl
    | true =>
      rw [wrapN_eq]
      have := Nat.le_of_ble_eq_true h
      have e : (Int.ofNat (Nat.sub a b)) = Int.ofNat a - Int.ofNat b := by
        show ((a - b : Nat) : Int) = (a : Int) - (b : Int)
        omega
      rw [e]
  case mul => cases x <;> cases y <;> first | rfl | (simp only [cInt, intA, wrapN_eq]; rfl)
  case and =>
    cases x <;> cases y <;> try rfl
    rename_i a b
    simp only [cInt]
    cases h : both k a b with
    | false => rfl
    | true =>
      obtain ⟨h1, h2⟩ := hb a b h
      simp only [intA]
      rw [show (Int.ofNat a) = ((a : Nat) : Int) from rfl, show (Int.ofNat b) = ((b : Nat) : Int) from rfl, bitsA_small h1, bitsA_small h2, wrapA_small (show Nat.land a b < limK k from Nat.lt_of_le_of_lt (Nat.and_le_left (n := a) (m := b)) h1)]
      rfl
  case or =>
    cases x <;> cases y <;> try rfl
    rename_i a b
    simp only [cInt]
    cases h : both k a b with
    | false => rfl
    | true =>
      obtain ⟨h1, h2⟩ := hb a b h
      obtain ⟨m, hm⟩ := lim_pow k
      simp only [intA]
      rw [show (Int.ofNat a) = ((a : Nat) : Int) from rfl, show (Int.ofNat b) = ((b : Nat) : Int) from rfl, bitsA_small h1, bitsA_small h2,
        wrapA_small (by rw [hm] at h1 h2 ⊢; exact Nat.or_lt_two_pow h1 h2)]
      rfl
  case xor =>
    cases x <;> cases y <;> try rfl
    rename_i a b
    simp only [cInt]
    cases h : both k a b with
    | false => rfl
    | true =>
      obtain ⟨h1, h2⟩ := hb a b h
      obtain ⟨m, hm⟩ := lim_pow k
      simp only [intA]
      rw [show (Int.ofNat a) = ((a : Nat) : Int) from rfl, show (Int.ofNat b) = ((b : Nat) : Int) from rfl, bitsA_small h1, bitsA_small h2,
        wrapA_small (by rw [hm] at h1 h2 ⊢; exact Nat.xor_lt_two_pow h1 h2)]
      rfl
  case eql => cases x <;> cases y <;> first | rfl | (simp only [cInt, intA, cmpA, beq_ofNat])
  case neq =>
    cases x <;> cases y <;> try rfl
    rename_i a b
    simp only [cInt, intA, cmpA, bne, beq_ofNat]
    cases Nat.beq a b <;> rfl
  case lss => cases x <;> cases y <;> first | rfl | (simp only [cInt, intA, cmpA, dec_bool (hlt _ _)])
  case leq => cases x <;> cases y <;> first | rfl | (simp only [cInt, intA, cmpA, dec_bool (hle _ _)])
  case gtr => cases x <;> cases y <;> first | rfl | (simp only [cInt, intA, cmpA, GT.gt, dec_bool (hlt _ _)])
  case geq => cases x <;> cases y <;> first | rfl | (simp only [cInt, intA, cmpA, GE.ge, dec_bool (hle _ _)])
  all_goals rfl

def idK (k : IntKind) : Nat := IntKind.rec (motive := fun _ => Nat) 0 1 2 3 4 5 6 7 k
theorem idK_iff (k j : IntKind) : Nat.beq (idK k) (idK j) = decide (k = j) := by cases k <;> cases j <;> rfl

def shiftF (left : Bool) (k : IntKind) (x y : Int) : Option AV :=
  Int.rec (motive := fun _ => Option AV)
    (fun a => Int.rec (motive := fun _ => Option AV)
      (fun b => Bool.rec (motive := fun _ => Option AV) (some (.int k (.ofNat (Nat.div a (Nat.pow 2 (Nat.min b k.bits)))))) (some (.int k (wrapN k (Nat.mul a (Nat.pow 2 (Nat.min b k.bits)))))) left)
      (fun b => shiftA (match left with | true => .shl | false => .shr) k (.ofNat a) (.negSucc b)) y)
    (fun a => shiftA (match left with | true => .shl | false => .shr) k (.negSucc a) y) x
theorem shiftF_eq (left : Bool) (k : IntKind) (x y : Int) : shiftF left k x y = shiftA (match left with | true => .shl | false => .shr) k x y := by
  cases x with
  | negSucc a => rfl
  | ofNat a =>
    cases y with
    | negSucc b => rfl
    | ofNat b =>
      have h0 : ¬ (Int.ofNat b < 0) := by simp
      cases left with
      | true =>
        simp only [shiftF, shiftA, h0, if_false, wrapN_eq]
        rfl
      | false =>
        simp only [shiftF, shiftA, h0, if_false]
        rw [Int.fdiv_eq_ediv_of_nonneg _ (Int.natCast_nonneg _)]
        rfl

/-! ### What a value is -/
def getInt (v : AV) : Option (IntKind × Int) :=
  AV.rec (motive_1 := fun _ => Option (IntKind × Int)) (motive_2 := fun _ => Unit)
    none (fun _ => none) (fun k n => some (k, n)) (fun _ => none) (fun _ => none) (fun _ _ _ => none) (fun _ => none) (fun _ _ _ _ _ => none) none (fun _ _ _ => none) none (fun _ _ => none) (fun _ _ => none) () (fun _ _ _ _ => ()) v
theorem getInt_some {v : AV} {k : IntKind} {n : Int} (h : getInt v = some (k, n)) : v = .int k n := by
  cases v <;> first | (cases h; rfl) | cases h
def getPtr (v : AV) : Option (Nat × Nat) :=
  AV.rec (motive_1 := fun _ => Option (Nat × Nat)) (motive_2 := fun _ => Unit)
    none (fun _ => none) (fun _ _ => none) (fun _ => none) (fun a => a) (fun _ _ _ => none) (fun _ => none) (fun _ _ _ _ _ => none) none (fun _ _ _ => none) none (fun _ _ => none) (fun _ _ => none) () (fun _ _ _ _ => ()) v
theorem getPtr_some {v : AV} {a : Nat × Nat} (h : getPtr v = some a) : v = .ptr (some a) := by
  cases v <;> first | (cases h; rfl) | cases h
def getBool (v : AV) : Option Bool :=
  AV.rec (motive_1 := fun _ => Option Bool) (motive_2 := fun _ => Unit)
    none (fun b => some b) (fun _ _ => none) (fun _ => none) (fun _ => none) (fun _ _ _ => none) (fun _ => none) (fun _ _ _ _ _ => none) none (fun _ _ _ => none) none (fun _ _ => none) (fun _ _ => none) () (fun _ _ _ _ => ()) v
theorem getBool_some {v : AV} {b : Bool} (h : getBool v = some b) : v = .bool b := by
  cases v <;> first | (cases h; rfl) | cases h
def getSlice (v : AV) : Option ((Nat × Nat) × Nat) :=
  AV.rec (motive_1 := fun _ => Option ((Nat × Nat) × Nat)) (motive_2 := fun _ => Unit)
    none (fun _ => none) (fun _ _ => none) (fun _ => none) (fun _ => none) (fun a n _ => Option.rec (motive := fun _ => Option ((Nat × Nat) × Nat)) none (fun p => some (p, n)) a) (fun _ => none) (fun _ _ _ _ _ => none) none (fun _ _ _ => none) none (fun _ _ => none) (fun _ _ => none) () (fun _ _ _ _ => ()) v
theorem getSlice_some {v : AV} {p : (Nat × Nat) × Nat} (h : getSlice v = some p) : ∃ c, v = .slice (some p.1) p.2 c := by
  cases v <;> try (cases h; done)
  rename_i a n c
  cases a with
  | none => cases h
  | some a => cases h; exact ⟨c, rfl⟩
def cellOkF (v : AV) : Bool :=
  AV.rec (motive_1 := fun _ => Bool) (motive_2 := fun _ => Unit)
    false (fun _ => true) (fun _ _ => true) (fun _ => true) (fun _ => true) (fun _ _ _ => true) (fun _ => true) (fun _ _ _ _ _ => true) true (fun _ _ _ => true) true (fun _ _ => false) (fun _ _ => false) () (fun _ _ _ _ => ()) v
theorem cellOkF_eq (v : AV) : cellOkF v = v.cellOk := by cases v <;> rfl
def nilCheckF (v : AV) : Option AV :=
  AV.rec (motive_1 := fun _ => Option AV) (motive_2 := fun _ => Unit)
    none (fun _ => none) (fun _ _ => none) (fun _ => none) (fun a => Option.rec (motive := fun _ => Option AV) none (fun p => some (.ptr (some p))) a) (fun _ _ _ => none) (fun _ => none)
    (fun f a b _ _ => match f with | .func g => some (.func (.func g) a b) | _ => none) none (fun t v _ => some (.iface t v)) none (fun _ _ => none) (fun _ _ => none) () (fun _ _ _ _ => ()) v
def getAgg (v : AV) : Option (List AV) :=
  AV.rec (motive_1 := fun _ => Option (List AV)) (motive_2 := fun _ => Unit)
    none (fun _ => none) (fun _ _ => none) (fun _ => none) (fun _ => none) (fun _ _ _ => none) (fun _ => none) (fun _ _ _ _ _ => none) none (fun _ _ _ => none) none (fun cs _ => some cs) (fun _ _ => none) () (fun _ _ _ _ => ()) v
theorem getAgg_some {v : AV} {cs : List AV} (h : getAgg v = some cs) : v = .agg cs := by
  cases v <;> first | (cases h; rfl) | cases h
def lenF (l : List AV) : Nat := List.rec (motive := fun _ => Nat) 0 (fun _ _ n => Nat.succ n) l
theorem lenF_eq : ∀ l : List AV, lenF l = l.length
  | [] => rfl
  | a :: l => congrArg Nat.succ (lenF_eq l)
def allOkF (l : List AV) : Bool := List.rec (motive := fun _ => Bool) true (fun a _ b => Bool.rec (motive := fun _ => Bool) false b (cellOkF a)) l
theorem allOkF_eq : ∀ l : List AV, allOkF l = l.all AV.cellOk
  | [] => rfl
  | a :: l => by
    show Bool.rec (motive := fun _ => Bool) false (allOkF l) (cellOkF a) = _
    rw [allOkF_eq l, cellOkF_eq, List.all_cons]
    cases a.cellOk <;> rfl
def appF (a b : List AV) : List AV := List.rec (motive := fun _ => List AV) b (fun x _ r => x :: r) a
theorem appF_eq (b : List AV) : ∀ a : List AV, appF a b = a ++ b
  | [] => rfl
  | x :: a => congrArg (x :: ·) (appF_eq b a)
def getLen (v : AV) : Option Nat :=
  AV.rec (motive_1 := fun _ => Option Nat) (motive_2 := fun _ => Unit)
    none (fun _ => none) (fun _ _ => none) (fun _ => none) (fun _ => none) (fun _ n _ => some n) (fun _ => none) (fun _ _ _ _ _ => none) none (fun _ _ _ => none) none (fun _ _ => none) (fun _ _ => none) () (fun _ _ _ _ => ()) v
theorem getLen_some {v : AV} {n : Nat} (h : getLen v = some n) : ∃ a c, v = .slice a n c := by
  cases v <;> first | (cases h; exact ⟨_, _, rfl⟩) | cases h
def getTup (v : AV) : Option (List AV) :=
  AV.rec (motive_1 := fun _ => Option (List AV)) (motive_2 := fun _ => Unit)
    none (fun _ => none) (fun _ _ => none) (fun _ => none) (fun _ => none) (fun _ _ _ => none) (fun _ => none) (fun _ _ _ _ _ => none) none (fun _ _ _ => none) none (fun _ _ => none) (fun cs _ => some cs) () (fun _ _ _ _ => ()) v
theorem getTup_some {v : AV} {cs : List AV} (h : getTup v = some cs) : v = .tuple cs := by
  cases v <;> first | (cases h; rfl) | cases h
def nthF (n : Nat) : List AV → Option AV :=
  Nat.rec (motive := fun _ => List AV → Option AV) (fun l => List.rec (motive := fun _ => Option AV) none (fun a _ _ => some a) l) (fun _ ih l => List.rec (motive := fun _ => Option AV) none (fun _ r _ => ih r) l) n
theorem nthF_eq : ∀ (n : Nat) (l : List AV), nthF n l = l[n]?
  | 0, [] => rfl
  | 0, a :: l => rfl
  | n + 1, [] => rfl
  | n + 1, a :: l => by show nthF n l = _; rw [nthF_eq n l]; simp
def natOf (n : Int) : Option Nat := Int.rec (motive := fun _ => Option Nat) (fun a => some a) (fun _ => none) n
theorem natOf_some {n : Int} {a : Nat} (h : natOf n = some a) : n = (a : Int) := by cases n <;> cases h; rfl
theorem natOf_none {n : Int} (h : natOf n = none) : n < 0 := by
  cases n with
  | ofNat a => cases h
  | negSucc a => exact Int.negSucc_lt_zero a
end Go.Am
end
