/- Part of the proof of TellLines: its text AmStep. Conditions: none. -/
import Derived.Test.YtcaaedohfmdikaaGreatDoorAmFault
set_option linter.unusedVariables false
set_option linter.unusedSimpArgs false
open Go Go.Am Go.Proofs Go.RowKit
namespace Go.Am

/-! ### Code and regions, step by step, where some operations are not wanted -/
section
variable {P : Program} {call : CallF} {nt n : Nat} {env : Env} {h : Heap} {Q : AExit × Env × Heap → Prop}

theorem go_seq {a b : Code} (hq : (codeA P call nt n a env h).all fun r => (r.1 = .norm → (codeA P call nt n b r.2.1 r.2.2).all Q) ∧ (r.1 ≠ .norm → Q r)) : (codeA P call nt n (.seq a b) env h).all Q := by
  rw [codeA_seq, Res.all_bind]
  refine Res.all_mono ?_ hq
  rintro ⟨e, r⟩ ⟨h1, h2⟩
  cases e with
  | norm => exact h1 rfl
  | exit id => exact h2 (by simp)
  | ret => exact h2 (by simp)

theorem go_reg {id : Nat} {ops : Array Oper} {b : Code} (hq : (opsA P call nt ops (List.range ops.size) env h).all fun r => (codeA P call nt n b r.1 r.2).all Q) : (codeA P call nt n (.seq (.region id ops false) b) env h).all Q := by
  rw [codeA_seq, codeA_region, regionA_seq, Res.all_bind, Res.all_bind]
  exact hq

theorem go_reg1 {id : Nat} {ops : Array Oper} (hq : (opsA P call nt ops (List.range ops.size) env h).all fun r => Q (.norm, r.1, r.2)) : (codeA P call nt n (.region id ops false) env h).all Q := by
  rw [codeA_region, regionA_seq, Res.all_bind]
  exact hq

theorem go_if {c : Operand} {a b d : Code} {x : Bool} (hc : opd env c = .bool x) (hq : (codeA P call nt n (.seq (cond x a b) d) env h).all Q) : (codeA P call nt n (.seq (.cond c a b) d) env h).all Q := by
  rw [codeA_seq] at hq ⊢
  rw [codeA_cond, hc]
  cases x <;> exact hq

theorem go_skip {d : Code} (hq : (codeA P call nt n d env h).all Q) : (codeA P call nt n (.seq .skip d) env h).all Q := by
  rw [codeA_seq, codeA_skip]
  exact hq

theorem go_assoc {a b d : Code} (hq : (codeA P call nt n (.seq a (.seq b d)) env h).all Q) : (codeA P call nt n (.seq (.seq a b) d) env h).all Q := by
  refine go_seq (go_seq ?_)
  rw [codeA_seq, Res.all_bind] at hq
  refine Res.all_mono ?_ hq
  rintro ⟨e, r⟩ h1
  cases e with
  | norm =>
    refine ⟨fun _ => ?_, fun he => absurd rfl he⟩
    simp only at h1
    rw [codeA_seq, Res.all_bind] at h1
    refine Res.all_mono ?_ h1
    rintro ⟨e, r⟩ h2
    cases e with
    | norm => exact ⟨fun _ => h2, fun h => absurd rfl h⟩
    | exit id => exact ⟨fun h => (by cases h), fun _ => h2⟩
    | ret => exact ⟨fun h => (by cases h), fun _ => h2⟩
  | exit id => exact ⟨fun h => by (simp only at h; cases h), fun _ => ⟨fun h => by (simp only at h; cases h), fun _ => h1⟩⟩
  | ret => exact ⟨fun h => by (simp only at h; cases h), fun _ => ⟨fun h => by (simp only at h; cases h), fun _ => h1⟩⟩

/-- A call. -/
theorem call_code {I : Intr} {m : Nat} {f : FuncId} {fn : Func} {c : Code} {args : List AV} {h0 : Heap} {q : AV × Heap → Prop} (hI : I f args h0 = none) (hf : P.funcs[f]? = some fn) (hb : fn.body = some c) (hle : args.length ≤ fn.ntmps)
    (hq : (codeA P (callA P I m) fn.ntmps m c (argsEnv 0 args .nil) h0).all fun r => (∀ id, r.1 ≠ .exit id) ∧ ∃ v, resultsA P fn r.2.1 r.2.2 = some v ∧ q (v, r.2.2)) : (callA P I (m + 1) f args h0).all q := by
  simp only [callA, hI, hf, hb, bodyA]
  rw [if_pos hle, Res.all_bind]
  refine Res.all_mono ?_ hq
  rintro ⟨e, env1, h1⟩ ⟨h2, v, h3, h4⟩
  simp only at h2 h3 h4
  cases e with
  | norm => simp only [h3]; exact h4
  | ret => simp only [h3]; exact h4
  | exit id => exact absurd rfl (h2 id)

/-- A way that ends here. -/
theorem go_end {a d : Code} (hq : (codeA P call nt n a env h).all fun r => r.1 = .ret ∧ Q r) : (codeA P call nt n (.seq a d) env h).all Q := by
  refine go_seq (Res.all_mono ?_ hq)
  rintro ⟨e, r⟩ ⟨h1, h2⟩
  simp only at h1
  subst h1
  exact ⟨fun h => (by cases h), fun _ => h2⟩
end

section
variable {P : Program} {call : CallF} {nt : Nat} {ops : Array Oper} {i : Nat} {rest : List Nat} {env env' : Env} {h : Heap} {o : Oper} {v : AV} {Q : Env × Heap → Prop}
theorem sq_rd (ho : ops[i]? = some o) (hk : kindA P o.op = .rd) (hw : wantedA ops env o = some true) (hv : readA P env h o.op = some v) (hp : putO nt env o.dst v = some env')
    (hQ : (opsA P call nt ops rest env' h).all Q) : (opsA P call nt ops (i :: rest) env h).all Q := by
  simp only [opsA, ho, hw, opA, hk, hv, Res.bind_ok, hp]
  exact hQ
theorem sq_skip (ho : ops[i]? = some o) (hw : wantedA ops env o = some false) (hp : putO nt env o.dst (.tuple []) = some env')
    (hQ : (opsA P call nt ops rest env' h).all Q) : (opsA P call nt ops (i :: rest) env h).all Q := by
  simp only [opsA, ho, hw, hp]
  exact hQ
theorem sq_act (ho : ops[i]? = some o) (hk : kindA P o.op = .act) (hw : wantedA ops env o = some true) (hv : (actA P call env h o.op).all fun r => ∃ env', putO nt env o.dst r.1 = some env' ∧ (opsA P call nt ops rest env' r.2).all Q) :
    (opsA P call nt ops (i :: rest) env h).all Q := by
  simp only [opsA, ho, hw, opA, hk]
  rw [Res.all_bind]
  refine Res.all_mono ?_ hv
  rintro r ⟨env', h1, h2⟩
  simp only [h1]
  exact h2
end

section
variable {P : Program} {call : CallF} {nt base : Nat} {ops : Array Oper} {M : List Nat} {i : Nat} {rest : List Nat} {env env' : Env} {h : Heap} {sn : Nat × Heap} {older : List (Nat × Heap)} {o : Oper} {v : AV} {Q : Env × Heap → Prop}
theorem dr_rd (ho : ops[i]? = some o) (hk : kindA P o.op = .rd) (hw : wantedA ops env o = some true) (hv : ∀ p ∈ sn :: older, readA P env p.2 o.op = some v) (hs : AV.same v v = true) (hp : putO nt env o.dst v = some env')
    (hQ : (drawA P call nt ops M base rest env' h (sn :: older)).all Q) : (drawA P call nt ops M base (i :: rest) env h (sn :: older)).all Q := by
  obtain ⟨a, s⟩ := sn
  have he : ∀ p ∈ (a, s) :: older, evalA P ops base env p.2 i o = some (v, none) := fun p hp => by simp only [evalA, hw, hk, hv p hp]
  simp only [drawA, ho, hk, he (a, s) (by simp)]
  rw [olderOk_all (fun p hp => by simp only [he p hp, sameV]; exact hs), Bool.or_true, if_pos rfl, hp]
  exact hQ
theorem dr_skip (ho : ops[i]? = some o) (hw : wantedA ops env o = some false) (hp : putO nt env o.dst (.tuple []) = some env') (hne : kindA P o.op ≠ .act)
    (hQ : (drawA P call nt ops M base rest env' h (sn :: older)).all Q) : (drawA P call nt ops M base (i :: rest) env h (sn :: older)).all Q := by
  obtain ⟨a, s⟩ := sn
  have he : ∀ p ∈ (a, s) :: older, evalA P ops base env p.2 i o = some (.tuple [], none) := fun p hp => by simp only [evalA, hw]
  have hs : sameV (some (AV.tuple [], (none : Option AObj))) (.tuple []) = true := by simp [sameV, AV.same, AV.sameL]
  cases hk : kindA P o.op with
  | act => exact absurd hk hne
  | _ =>
    simp only [drawA, ho, hk, he (a, s) (by simp)]
    rw [olderOk_all (fun p hp => by simp only [he p hp]; exact hs), Bool.or_true, if_pos rfl, hp]
    exact hQ
theorem dr_askip (ho : ops[i]? = some o) (hw : wantedA ops env o = some false) (hk : kindA P o.op = .act) (hp : putO nt env o.dst (.tuple []) = some env')
    (hQ : (drawA P call nt ops M base rest env' h ((i + 1, h) :: sn :: older)).all Q) : (drawA P call nt ops M base (i :: rest) env h (sn :: older)).all Q := by
  simp only [drawA, ho, hk, hw, hp]
  exact hQ
theorem dr_act (ho : ops[i]? = some o) (hk : kindA P o.op = .act) (hw : wantedA ops env o = some true)
    (hv : (actA P call env h o.op).all fun r => ∃ env', putO nt env o.dst r.1 = some env' ∧ (drawA P call nt ops M base rest env' r.2 ((i + 1, r.2) :: sn :: older)).all Q) : (drawA P call nt ops M base (i :: rest) env h (sn :: older)).all Q := by
  simp only [drawA, ho, hk, hw]
  rw [Res.all_bind]
  refine Res.all_mono ?_ hv
  rintro r ⟨env', h1, h2⟩
  simp only [h1]
  exact h2
end

section
variable {P : Program} {call : CallF} {nt : Nat} {ops : Array Oper} {i j d' : Nat} {w b : Bool} {rest : List Nat} {env env' : Env} {h : Heap} {o : Oper} {v : AV} {Q : Env × Heap → Prop} {op : Op} {d : Option Tmp}
theorem opsA_nil : opsA P call nt ops [] env h = .ok (env, h) := rfl
theorem wanted_n (hg : o.guard = none) : wantedA ops env o = some true := by simp only [wantedA, hg]
theorem wanted_b (hg : o.guard = some (j, w)) (hd : (ops[j]?).bind (·.dst) = some d') (he : env.get d' = some (.bool b)) : wantedA ops env o = some (b == w) := by simp only [wantedA, hg, hd, he]
theorem wanted_t (hg : o.guard = some (j, w)) (hd : (ops[j]?).bind (·.dst) = some d') (he : env.get d' = some (.tuple [])) : wantedA ops env o = some false := by simp only [wantedA, hg, hd, he]
theorem st_rd (ho : ops[i]? = some o) (hop : o.op = op) (hd : o.dst = d) (hw : wantedA ops env o = some true) (hk : kindA P op = .rd) (hv : readA P env h op = some v) (hp : putO nt env d v = some env')
    (hQ : (opsA P call nt ops rest env' h).all Q) : (opsA P call nt ops (i :: rest) env h).all Q := by
  subst hop; subst hd
  simp only [opsA, ho, hw, opA, hk, hv, Res.bind_ok, hp]
  exact hQ
theorem st_nw {ob : AObj} {f : Nat → AV} (ho : ops[i]? = some o) (hop : o.op = op) (hd : o.dst = d) (hw : wantedA ops env o = some true) (hk : kindA P op = .nw) (hv : newA P env op = some (ob, f)) (hp : putO nt env d (f h.next) = some env')
    (hQ : (opsA P call nt ops rest env' (h.new ob)).all Q) : (opsA P call nt ops (i :: rest) env h).all Q := by
  subst hop; subst hd
  simp only [opsA, ho, hw, opA, hk, hv, Res.bind_ok, hp]
  exact hQ
theorem st_skip (ho : ops[i]? = some o) (hd : o.dst = d) (hw : wantedA ops env o = some false) (hp : putO nt env d (.tuple []) = some env')
    (hQ : (opsA P call nt ops rest env' h).all Q) : (opsA P call nt ops (i :: rest) env h).all Q := by
  subst hd
  simp only [opsA, ho, hw, hp]
  exact hQ
theorem st_act {h' : Heap} (ho : ops[i]? = some o) (hop : o.op = op) (hd : o.dst = d) (hw : wantedA ops env o = some true) (hk : kindA P op = .act) (hv : actA P call env h op = .ok (v, h')) (hp : putO nt env d v = some env')
    (hQ : (opsA P call nt ops rest env' h').all Q) : (opsA P call nt ops (i :: rest) env h).all Q := by
  subst hop; subst hd
  simp only [opsA, ho, hw, opA, hk, hv, Res.bind_ok, hp]
  exact hQ
theorem st_acts {q : AV × Heap → Prop} (ho : ops[i]? = some o) (hop : o.op = op) (hd : o.dst = d) (hw : wantedA ops env o = some true) (hk : kindA P op = .act) (hv : (actA P call env h op).all q)
    (hQ : ∀ v h', q (v, h') → ∃ env', putO nt env d v = some env' ∧ (opsA P call nt ops rest env' h').all Q) : (opsA P call nt ops (i :: rest) env h).all Q := by
  subst hop; subst hd
  simp only [opsA, ho, hw, opA, hk]
  rw [Res.all_bind]
  refine Res.all_mono ?_ hv
  rintro ⟨v, h'⟩ hq
  obtain ⟨env', h1, h2⟩ := hQ v h' hq
  simp only [h1]
  exact h2
end

section
variable {P : Program} {call : CallF} {nt base : Nat} {ops : Array Oper} {M : List Nat} {i : Nat} {rest : List Nat} {env env' : Env} {h : Heap} {sn : Nat × Heap} {older : List (Nat × Heap)} {o : Oper} {v : AV} {Q : Env × Heap → Prop} {op : Op} {d : Option Tmp}
theorem dw_nil {snaps : List (Nat × Heap)} : drawA P call nt ops M base [] env h snaps = .ok (env, h) := rfl
theorem dw_rd (ho : ops[i]? = some o) (hop : o.op = op) (hd : o.dst = d) (hw : wantedA ops env o = some true) (hk : kindA P op = .rd) (hv : ∀ p ∈ sn :: older, readA P env p.2 op = some v) (hs : AV.same v v = true) (hp : putO nt env d v = some env')
    (hQ : (drawA P call nt ops M base rest env' h (sn :: older)).all Q) : (drawA P call nt ops M base (i :: rest) env h (sn :: older)).all Q := by
  subst hop; subst hd
  exact dr_rd ho hk hw hv hs hp hQ
theorem dw_nw {ob : AObj} {f : Nat → AV} (ho : ops[i]? = some o) (hop : o.op = op) (hd : o.dst = d) (hw : wantedA ops env o = some true) (hk : kindA P op = .nw) (hv : newA P env op = some (ob, f)) (hp : putO nt env d (f (base + i)) = some env')
    (hQ : (drawA P call nt ops M base rest env' (h.put (base + i) ob) (sn :: older)).all Q) : (drawA P call nt ops M base (i :: rest) env h (sn :: older)).all Q := by
  subst hop; subst hd
  obtain ⟨a, s⟩ := sn
  have he : evalA P ops base env s i o = some (f (base + i), some ob) := by simp only [evalA, hw, hk, hv]
  simp only [drawA, ho, hk, he]
  rw [show ((Kind.nw == Kind.nw) || _) = true from by simp, if_pos rfl, hp]
  exact hQ
theorem dw_act {h' : Heap} (ho : ops[i]? = some o) (hop : o.op = op) (hd : o.dst = d) (hw : wantedA ops env o = some true) (hk : kindA P op = .act) (hv : actA P call env h op = .ok (v, h')) (hp : putO nt env d v = some env')
    (hQ : (drawA P call nt ops M base rest env' h' ((i + 1, h') :: sn :: older)).all Q) : (drawA P call nt ops M base (i :: rest) env h (sn :: older)).all Q := by
  subst hop; subst hd
  simp only [drawA, ho, hk, hw, hv, Res.bind_ok, hp]
  exact hQ
theorem dw_acts {q : AV × Heap → Prop} (ho : ops[i]? = some o) (hop : o.op = op) (hd : o.dst = d) (hw : wantedA ops env o = some true) (hk : kindA P op = .act) (hv : (actA P call env h op).all q)
    (hQ : ∀ v h', q (v, h') → ∃ env', putO nt env d v = some env' ∧ (drawA P call nt ops M base rest env' h' ((i + 1, h') :: sn :: older)).all Q) : (drawA P call nt ops M base (i :: rest) env h (sn :: older)).all Q := by
  subst hop; subst hd
  refine dr_act ho hk hw (Res.all_mono ?_ hv)
  rintro ⟨v, h'⟩ hq
  exact hQ v h' hq
theorem dw_skip (ho : ops[i]? = some o) (hop : o.op = op) (hd : o.dst = d) (hw : wantedA ops env o = some false) (hk : kindA P op ≠ .act) (hp : putO nt env d (.tuple []) = some env')
    (hQ : (drawA P call nt ops M base rest env' h (sn :: older)).all Q) : (drawA P call nt ops M base (i :: rest) env h (sn :: older)).all Q := by
  subst hop; subst hd
  exact dr_skip ho hw hp hk hQ
theorem dw_askip (ho : ops[i]? = some o) (hop : o.op = op) (hd : o.dst = d) (hw : wantedA ops env o = some false) (hk : kindA P op = .act) (hp : putO nt env d (.tuple []) = some env')
    (hQ : (drawA P call nt ops M base rest env' h ((i + 1, h) :: sn :: older)).all Q) : (drawA P call nt ops M base (i :: rest) env h (sn :: older)).all Q := by
  subst hop; subst hd
  exact dr_askip ho hw hk hp hQ
end

section
variable {P : Program} {call : CallF} {nt n : Nat} {env : Env} {h : Heap} {Q : AExit × Env × Heap → Prop}
theorem actA_fn {f : FuncId} {xs : Array Operand} {ts : Array TypeId} : actA P call env h (.call { callee := .value (.func f), args := xs, argTypes := ts }) = call f (xs.toList.map (opd env)) h := by simp [actA, calleeA, opd]
theorem actA_ok {f : FuncId} {xs : Array Operand} {ts : Array TypeId} {args : List AV} {r : AV × Heap} (ha : xs.toList.map (opd env) = args) (hq : call f args h = .ok r) : actA P call env h (.call { callee := .value (.func f), args := xs, argTypes := ts }) = .ok r := by rw [actA_fn, ha, hq]
theorem actA_all {f : FuncId} {xs : Array Operand} {ts : Array TypeId} {args : List AV} {q : AV × Heap → Prop} (ha : xs.toList.map (opd env) = args) (hq : (call f args h).all q) : (actA P call env h (.call { callee := .value (.func f), args := xs, argTypes := ts })).all q := by rw [actA_fn, ha]; exact hq
theorem go_if1 {c : Operand} {a b : Code} {x : Bool} (hc : opd env c = .bool x) (hq : (codeA P call nt n (cond x a b) env h).all Q) : (codeA P call nt n (.cond c a b) env h).all Q := by
  rw [codeA_cond, hc]
  cases x <;> exact hq
theorem go_skip1 (hq : Q (.norm, env, h)) : (codeA P call nt n .skip env h).all Q := by rw [codeA_skip]; exact hq
theorem go_ret1 (hq : Q (.ret, env, h)) : (codeA P call nt n .ret env h).all Q := by rw [codeA_ret]; exact hq
theorem go_exit1 {id : Nat} (hq : Q (.exit id, env, h)) : (codeA P call nt n (.exit id) env h).all Q := by rw [codeA_exit]; exact hq
/-- A block, and what stands behind it. -/
theorem go_block {id : Nat} {c d : Code} (hq : (codeA P call nt n c env h).all fun r => ((r.1 = .norm ∨ r.1 = .exit id) → (codeA P call nt n d r.2.1 r.2.2).all Q) ∧ (r.1 ≠ .norm → r.1 ≠ .exit id → Q r)) : (codeA P call nt n (.seq (.block id c) d) env h).all Q := by
  refine go_seq ?_
  rw [codeA_block, Res.all_bind]
  refine Res.all_mono ?_ hq
  rintro ⟨e, r⟩ ⟨h1, h2⟩
  simp only at h1 h2
  cases e with
  | norm => exact ⟨fun _ => h1 (.inl rfl), fun h => absurd rfl h⟩
  | exit id' =>
    by_cases hid : id' = id
    · subst hid
      simp only [Res.all_ok, if_true]
      exact ⟨fun _ => h1 (.inr rfl), fun h => absurd rfl h⟩
    · simp only [Res.all_ok, if_neg hid]
      exact ⟨fun h => (by cases h), fun _ => h2 (fun h => (by cases h)) (fun h => hid (by cases h; rfl))⟩
  | ret => exact ⟨fun h => (by cases h), fun _ => h2 (fun h => (by cases h)) (fun h => (by cases h))⟩
theorem go_block1 {id : Nat} {c : Code} (hq : (codeA P call nt n c env h).all fun r => ((r.1 = .norm ∨ r.1 = .exit id) → Q (.norm, r.2)) ∧ (r.1 ≠ .norm → r.1 ≠ .exit id → Q r)) : (codeA P call nt n (.block id c) env h).all Q := by
  rw [codeA_block, Res.all_bind]
  refine Res.all_mono ?_ hq
  rintro ⟨e, r⟩ ⟨h1, h2⟩
  simp only at h1 h2
  cases e with
  | norm => exact h1 (.inl rfl)
  | exit id' =>
    by_cases hid : id' = id
    · subst hid
      simp only [Res.all_ok, if_true]
      exact h1 (.inr rfl)
    · simp only [Res.all_ok, if_neg hid]
      exact h2 (fun h => (by cases h)) (fun h => hid (by cases h; rfl))
  | ret => exact h2 (fun h => (by cases h)) (fun h => (by cases h))
/-- A region whose order is drawn, and what stands behind it. -/
theorem go_draw {id : Nat} {ops : Array Oper} {d : Code} (hq : (regionA P call nt ops true env h).all fun r => (codeA P call nt n d r.1 r.2).all Q) : (codeA P call nt n (.seq (.region id ops true) d) env h).all Q := by
  rw [codeA_seq, codeA_region, Res.all_bind, Res.all_bind]
  exact hq
theorem opd_b {t : Nat} {b : Bool} (hb : env.get t = some (.bool b)) : opd env (.tmp t) = .bool b := by simp [opd, hb]
end

theorem iter_all {body : Env → Heap → Out} {Q : AExit × Env × Heap → Prop} (Inv : Nat → Env → Heap → Prop) (hs : ∀ m env h, Inv m env h → (body env h).all fun r => (r.1 = .norm ∧ ∃ m', m' < m ∧ Inv m' r.2.1 r.2.2) ∨ (r.1 ≠ .norm ∧ Q r)) :
    ∀ (m n : Nat) (env : Env) (h : Heap), Inv m env h → m < n → (iterA body n env h).all Q := by
  intro m
  induction m using Nat.strongRecOn with
  | _ m ih =>
    intro n env h hi hn
    obtain ⟨n, rfl⟩ : ∃ k, n = k + 1 := ⟨n - 1, by omega⟩
    simp only [iterA]
    rw [Res.all_bind]
    refine Res.all_mono ?_ (hs m env h hi)
    rintro ⟨e, env1, h1⟩ hr
    rcases hr with ⟨h2, m', hlt, h3⟩ | ⟨h2, h3⟩
    · simp only at h2 h3
      subst h2
      exact ih m' hlt n env1 h1 h3 (by omega)
    · simp only at h2
      cases e with
      | norm => exact absurd rfl h2
      | exit id => exact h3
      | ret => exact h3

def Keep (l : List Nat) (env env' : Env) : Prop := ∀ j ∈ l, env'.get j = env.get j
theorem Keep.get {l : List Nat} {env env' : Env} (h : Keep l env env') {j : Nat} {v : AV} (hv : env.get j = some v) (hj : j ∈ l) : env'.get j = some v := (h j hj).trans hv
theorem Keep.refl (l : List Nat) (env : Env) : Keep l env env := fun _ _ => rfl
theorem Keep.trans {l : List Nat} {a b c : Env} (h1 : Keep l a b) (h2 : Keep l b c) : Keep l a c := fun j hj => (h2 j hj).trans (h1 j hj)

theorem itoa_dig (n : Int) (h0 : -2147483648 ≤ n) (h1 : n ≤ 2147483648) : Lib.itoa n = digW n := by
  have key : ∀ (f d : Nat), d < 10 ^ f → 0 < f → Lib.decDigits d = digN f d := by
    intro f
    induction f with
    | zero => intro d _ h; omega
    | succ f ih =>
      intro d hd _
      rw [Lib.decDigits, digN]
      by_cases h10 : d < 10
      · rw [dif_pos h10, if_pos h10]
      · rw [dif_neg h10, if_neg h10]
        rw [Nat.pow_succ] at hd
        have hf : 0 < f := by
          rcases Nat.eq_zero_or_pos f with rfl | h
          · simp at hd; omega
          · exact h
        rw [ih (d / 10) (by omega) hf]
  have hp : ∀ d : Nat, d ≤ 2147483648 → d < 10 ^ 40 := fun d hd => Nat.lt_of_le_of_lt hd (by decide)
  unfold Lib.itoa digW
  cases n with
  | ofNat d =>
    rw [if_neg (by show ¬ ((d : Int) < 0); omega)]
    have hd : d ≤ 2147483648 := by have : ((d : Nat) : Int) ≤ 2147483648 := h1; omega
    exact key 40 d (hp d hd) (by omega)
  | negSucc d =>
    rw [if_pos (Int.negSucc_lt_zero d)]
    have hd : d + 1 ≤ 2147483648 := by omega
    show 45 :: Lib.decDigits (d + 1) = _
    rw [key 40 (d + 1) (hp _ hd) (by omega)]
theorem digW_length (n : Int) : (digW n).length ≤ 41 := by
  unfold digW
  split
  · have := digN_length 40 ‹Nat›; omega
  · have := digN_length 40 (‹Nat› + 1); simp; omega
end Go.Am
