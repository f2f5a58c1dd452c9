/- Regions, code and calls of the machine are sound: part of the proof of TellLines. Conditions: none. -/
import Derived.Test.YtcaaedohfmdikaaGreatDoorAmOpsV
import Derived.LoopN
set_option linter.unusedVariables false
set_option linter.unusedSimpArgs false
noncomputable section
namespace Go.Am
open Go.RowKit

section
variable {P : Program} {B : Floor} {ι : Inj} {h : Heap} {w : World}

theorem wanted_sound {nt : Nat} {env : Env} {a : Act} (hE : EnvRel ι nt env a.tmps) {ops : Array Oper} {o : Oper} {b : Bool} (hw : wantedA ops env o = some b) : Region.wanted o (yielded ops a.tmps) = b := by
  unfold wantedA at hw
  unfold Region.wanted
  split at hw
  · rename_i hg
    simp only [Option.some.injEq] at hw; subst hw
    simp [hg]
  · rename_i j want hg
    simp only [hg]
    split at hw
    · rename_i d hd
      split at hw
      · rename_i c hc
        simp only [Option.some.injEq] at hw; subst hw
        have hr := hE.rel d _ hc
        rw [VRel] at hr
        have : a.tmps[d]? = some (.bool c) := by
          rw [Array.getD_eq_getD_getElem?] at hr
          cases h1 : a.tmps[d]? with
          | none => rw [h1] at hr; cases hr
          | some x => rw [h1] at hr; simp at hr; rw [hr]
        simp only [yielded, hd, Option.bind_some, this]
        cases c <;> cases want <;> rfl
      · rename_i hc
        simp only [Option.some.injEq] at hw; subst hw
        have hr := hE.rel d _ hc
        rw [VRel] at hr
        obtain ⟨ys, hy, hys⟩ := hr
        cases hys
        have : yielded ops a.tmps j = none := by
          unfold yielded
          rw [hd]
          simp only [Option.bind_some]
          rw [Array.getD_eq_getD_getElem?] at hy
          cases h1 : a.tmps[d]? with
          | none => rfl
          | some x => rw [h1] at hy; simp at hy; rw [hy]
        rw [this]; rfl
      · cases hw
    · cases hw

theorem tup_undef (ι : Inj) : VRel ι (.tuple []) Go.undef := by rw [VRel]; exact ⟨[], rfl, VRelL_iff.2 .nil⟩

theorem put_defers (a : Act) (d : Option Tmp) (v : Value) : (a.put d v).defers = a.defers := by cases d <;> rfl

theorem ops_wp (hN : NoOwn P) {call : CallF} (hC : CallOk P B call) {nt : Nat} {ops : Array Oper} {Q : Env × Heap → Prop} {QQ : Exit → Act → World → Prop} :
    ∀ (l : List Nat) (env : Env) (h : Heap) (ι : Inj) (a : Act) (w : World), R B ι h w.heap → EnvRel ι nt env a.tmps → a.defers = [] → (opsA P call nt ops l env h).all Q →
      (∀ env' h' ι' a' w', Q (env', h') → R B ι' h' w'.heap → EnvRel ι' nt env' a'.tmps → a'.defers = [] → Step ι h w ι' h' w' → QQ .normal a' w') → wpOps P ops QQ l a w
  | [], env, h, ι, a, w, hR, hE, hD, hv, hq => hq env h ι a w hv hR hE hD (Step.refl ι h w)
  | i :: rest, env, h, ι, a, w, hR, hE, hD, hv, hq => by
    simp only [opsA] at hv
    cases ho : ops[i]? with
    | none => rw [ho] at hv; cases hv
    | some o =>
      rw [ho] at hv
      simp only at hv
      unfold wpOps
      simp only [ho]
      cases hw : wantedA ops env o with
      | none => rw [hw] at hv; cases hv
      | some b =>
        rw [hw] at hv
        rw [wanted_sound hE hw]
        cases b with
        | false =>
          simp only at hv
          cases hp : putO nt env o.dst (.tuple []) with
          | none => rw [hp] at hv; cases hv
          | some env1 =>
            rw [hp] at hv
            simp only [Bool.false_eq_true, if_false]
            exact ops_wp hN hC rest env1 h ι (a.put o.dst undef) w hR (hE.put (tup_undef ι) hp) (by rw [put_defers]; exact hD) hv hq
        | true =>
          simp only at hv
          rw [Res.all_bind] at hv
          simp only [if_true]
          refine .inl (op_wp hN hC hR hE hv ?_)
          intro v h' ι' v' w' hq' hvr hR' hS
          simp only at hq'
          cases hp : putO nt env o.dst v with
          | none => rw [hp] at hq'; cases hq'
          | some env1 =>
            rw [hp] at hq'
            have hE' := hE.mono (hS.le hR)
            refine ops_wp hN hC rest env1 h' ι' (a.put o.dst v') w' hR' (hE'.put hvr hp) (by rw [put_defers]; exact hD) hq' ?_
            intro env2 h2 ι2 a2 w2 k1 k2 k3 k4 k5
            exact hq env2 h2 ι2 a2 w2 k1 k2 k3 k4 (hS.trans k5)

/-- What a region does. -/
def RegionOk (P : Program) (B : Floor) (call : CallF) (nt : Nat) (draw : Bool) : Prop := ∀ (id : Nat) (ops : Array Oper) (env : Env) (h : Heap) (ι : Inj) (a : Act) (w : World) (Q : Env × Heap → Prop) (QQ : Exit → Act → World → Prop),
  R B ι h w.heap → EnvRel ι nt env a.tmps → a.defers = [] → (regionA P call nt ops draw env h).all Q →
  (∀ env' h' ι' a' w', Q (env', h') → R B ι' h' w'.heap → EnvRel ι' nt env' a'.tmps → a'.defers = [] → Step ι h w ι' h' w' → QQ .normal a' w') → (Code.region id ops draw).wp P QQ a w

theorem region_seq (hN : NoOwn P) {call : CallF} (hC : CallOk P B call) (nt : Nat) : RegionOk P B call nt false := by
  intro id ops env h ι a w Q QQ hR hE hD hv hq
  exact wp_region (ops_wp hN hC _ env h ι a w hR hE hD hv hq)

def exitOf : AExit → Exit
  | .norm => .normal
  | .exit id => .exit id
  | .ret => .ret

def CPost (B : Floor) (nt : Nat) (ι : Inj) (h : Heap) (w : World) (Q : AExit × Env × Heap → Prop) (QQ : Exit → Act → World → Prop) : Prop :=
  ∀ e env' h' ι' a' w', Q (e, env', h') → R B ι' h' w'.heap → EnvRel ι' nt env' a'.tmps → a'.defers = [] → Step ι h w ι' h' w' → QQ (exitOf e) a' w'

theorem iter_wp {nt : Nat} {c : Code} {body : Env → Heap → Out}
    (hb : ∀ (env : Env) (h : Heap) (ι : Inj) (a : Act) (w : World) (Q : AExit × Env × Heap → Prop) (QQ : Exit → Act → World → Prop), R B ι h w.heap → EnvRel ι nt env a.tmps → a.defers = [] → (body env h).all Q →
      CPost B nt ι h w Q QQ → c.wp P QQ a w) :
    ∀ (n : Nat) (env : Env) (h : Heap) (ι : Inj) (a : Act) (w : World) (Q : AExit × Env × Heap → Prop) (QQ : Exit → Act → World → Prop), R B ι h w.heap → EnvRel ι nt env a.tmps → a.defers = [] →
      (iterA body n env h).all Q → CPost B nt ι h w Q QQ → Code.rounds P c QQ n a w
  | 0, env, h, ι, a, w, Q, QQ, hR, hE, hD, hv, hq => by cases hv
  | n + 1, env, h, ι, a, w, Q, QQ, hR, hE, hD, hv, hq => by
    simp only [iterA] at hv
    rw [Res.all_bind] at hv
    rw [rounds_succ]
    refine hb env h ι a w _ _ hR hE hD hv ?_
    intro e env' h' ι' a' w' hq' hR' hE' hD' hS
    cases e with
    | norm =>
      simp only at hq'
      exact iter_wp hb n env' h' ι' a' w' Q QQ hR' hE' hD' hq' fun e2 env2 h2 ι2 a2 w2 k1 k2 k3 k4 k5 => hq e2 env2 h2 ι2 a2 w2 k1 k2 k3 k4 (hS.trans k5)
    | exit id => exact hq _ env' h' ι' a' w' hq' hR' hE' hD' hS
    | ret => exact hq _ env' h' ι' a' w' hq' hR' hE' hD' hS

theorem code_wp {call : CallF} {nt n : Nat} (hr0 : RegionOk P B call nt false) (hr1 : RegionOk P B call nt true) :
    ∀ (c : Code) (env : Env) (h : Heap) (ι : Inj) (a : Act) (w : World) (Q : AExit × Env × Heap → Prop) (QQ : Exit → Act → World → Prop), R B ι h w.heap → EnvRel ι nt env a.tmps → a.defers = [] →
      (codeA P call nt n c env h).all Q → CPost B nt ι h w Q QQ → c.wp P QQ a w := by
  intro c
  induction c with
  | skip => intro env h ι a w Q QQ hR hE hD hv hq; exact wp_skip (hq .norm env h ι a w hv hR hE hD (Step.refl ι h w))
  | region id ops draw =>
    intro env h ι a w Q QQ hR hE hD hv hq
    simp only [codeA] at hv
    rw [Res.all_bind] at hv
    have hreg : RegionOk P B call nt draw := by cases draw <;> assumption
    exact hreg id ops env h ι a w _ QQ hR hE hD hv fun env' h' ι' a' w' k1 k2 k3 k4 k5 => hq .norm env' h' ι' a' w' k1 k2 k3 k4 k5
  | seq x y ihx ihy =>
    intro env h ι a w Q QQ hR hE hD hv hq
    simp only [codeA] at hv
    rw [Res.all_bind] at hv
    refine wp_seq (ihx env h ι a w _ _ hR hE hD hv ?_)
    intro e env' h' ι' a' w' k1 k2 k3 k4 k5
    cases e with
    | norm =>
      simp only at k1
      exact ihy env' h' ι' a' w' Q QQ k2 k3 k4 k1 fun e2 env2 h2 ι2 a2 w2 j1 j2 j3 j4 j5 => hq e2 env2 h2 ι2 a2 w2 j1 j2 j3 j4 (k5.trans j5)
    | exit id => exact hq _ env' h' ι' a' w' k1 k2 k3 k4 k5
    | ret => exact hq _ env' h' ι' a' w' k1 k2 k3 k4 k5
  | cond c x y ihx ihy =>
    intro env h ι a w Q QQ hR hE hD hv hq
    simp only [codeA] at hv
    have hc := hE.opd c
    split at hv
    · rename_i e; rw [e, VRel] at hc
      exact wp_cond_true hc (ihx env h ι a w Q QQ hR hE hD hv hq)
    · rename_i e; rw [e, VRel] at hc
      exact wp_cond_false hc (ihy env h ι a w Q QQ hR hE hD hv hq)
    · cases hv
  | block id c ih =>
    intro env h ι a w Q QQ hR hE hD hv hq
    simp only [codeA] at hv
    rw [Res.all_bind] at hv
    refine wp_block (ih env h ι a w _ _ hR hE hD hv ?_)
    intro e env' h' ι' a' w' k1 k2 k3 k4 k5
    cases e with
    | norm => exact hq _ env' h' ι' a' w' k1 k2 k3 k4 k5
    | exit id' =>
      simp only at k1
      simp only [exitOf, Exit.inBlock]
      by_cases hid : id' = id
      · rw [if_pos hid] at k1 ⊢
        exact hq .norm env' h' ι' a' w' k1 k2 k3 k4 k5
      · rw [if_neg hid] at k1 ⊢
        exact hq (.exit id') env' h' ι' a' w' k1 k2 k3 k4 k5
    | ret => exact hq _ env' h' ι' a' w' k1 k2 k3 k4 k5
  | loop c ih =>
    intro env h ι a w Q QQ hR hE hD hv hq
    simp only [codeA] at hv
    exact wp_loop_rounds n (iter_wp ih n env h ι a w Q QQ hR hE hD hv hq)
  | exit id => intro env h ι a w Q QQ hR hE hD hv hq; exact wp_exit (hq (.exit id) env h ι a w hv hR hE hD (Step.refl ι h w))
  | ret => intro env h ι a w Q QQ hR hE hD hv hq; exact wp_ret (hq .ret env h ι a w hv hR hE hD (Step.refl ι h w))
  | _ => intro env h ι a w Q QQ hR hE hD hv hq; cases hv

/-! ### Calls -/
theorem args_env {nt : Nat} : ∀ (args : List AV) (us : List Value), F2 (VRel ι) args us → ∀ (i : Nat) (env : Env) (tmps : Array Value), EnvRel ι nt env tmps → (∀ j u, us[j]? = some u → tmps[i + j]? = some u) →
    EnvRel ι nt (argsEnv i args env) tmps
  | [], _, .nil, i, env, tmps, hE, _ => hE
  | v :: args, u :: us, .cons h1 h2, i, env, tmps, hE, hu => by
    simp only [argsEnv]
    refine args_env args us h2 (i + 1) _ tmps ⟨hE.size, fun t x hx => ?_⟩ (fun j u' hj => by have := hu (j + 1) u' (by simpa using hj); rw [Nat.add_assoc, Nat.add_comm 1 j]; exact this)
    rw [Tr.get_set] at hx
    by_cases ht : t = i
    · subst ht
      simp only [if_true, Option.some.injEq] at hx
      subst hx
      have := hu 0 u (by simp)
      rw [Array.getD_eq_getD_getElem?]
      rw [Nat.add_zero] at this
      rw [this]; exact h1
    · rw [if_neg ht] at hx
      exact hE.rel t x hx

def resSem (tmps : Array Value) : ResultVar → Sem Value
  | .tmp t => pure (tmps.getD t undef)
  | .cell a t => do loadVar t (← asAddr (tmps.getD a undef))

theorem res_sound (hR : R B ι h w.heap) {nt : Nat} {env : Env} {tmps : Array Value} (hE : EnvRel ι nt env tmps) {r : ResultVar} {v : AV} (hv : resA P env h r = some v) :
    ∃ v', (resSem tmps r).run P w = .ok v' w ∧ VRel ι v v' := by
  have hg : ∀ t, VRel ι ((env.get t).getD .undef) (tmps.getD t undef) := fun t => by
    cases h1 : env.get t with
    | none => simp [VRel]
    | some x => simpa using hE.rel t x h1
  cases r with
  | tmp t =>
    simp only [resA, Option.some.injEq] at hv; subst hv
    exact ⟨_, rfl, hg t⟩
  | cell c t =>
    simp only [resA] at hv
    obtain ⟨v', g1, g2⟩ := load_sound (P := P) hR (hg c) hv
    refine ⟨v', ?_, g2⟩
    have hc := hg c
    unfold loadA at hv
    split at hv
    · rename_i id off heq
      rw [heq, VRel] at hc
      obtain ⟨l, hl, hcc⟩ := hc
      rw [hcc] at g1
      simp only [resSem, hcc]
      simpa [Instr.loadAt, Instr.sureAddr, asAddr] using g1
    · cases hv

theorem resList_sound (hR : R B ι h w.heap) {nt : Nat} {env : Env} {tmps : Array Value} (hE : EnvRel ι nt env tmps) : ∀ {rs : List ResultVar} {vs : List AV}, resList P env h rs = some vs →
    ∃ us : List Value, (List.mapM (resSem tmps) rs).run P w = .ok us w ∧ F2 (VRel ι) vs us
  | [], vs, hv => by
    simp only [resList, Option.some.injEq] at hv; subst hv
    exact ⟨[], rfl, .nil⟩
  | r :: rs, vs, hv => by
    simp only [resList] at hv
    split at hv
    · rename_i v vs' h1 h2
      simp only [Option.some.injEq] at hv; subst hv
      obtain ⟨v', g1, g2⟩ := res_sound hR hE h1
      obtain ⟨us, g3, g4⟩ := resList_sound hR hE h2
      refine ⟨v' :: us, ?_, .cons g2 g4⟩
      rw [List.mapM_cons]
      simp only [Sem.run_bind, g1, Result.andThen_ok, g3, Sem.run_pure]
    · cases hv

theorem results_sound (hR : R B ι h w.heap) {nt : Nat} {env : Env} {tmps : Array Value} (hE : EnvRel ι nt env tmps) {fn : Func} {v : AV} (hv : resultsA P fn env h = some v) :
    ∃ v', (results fn tmps).run P w = .ok v' w ∧ VRel ι v v' := by
  unfold resultsA at hv
  have key : ∀ {vs : List AV}, resList P env h fn.results.toList = some vs → ∃ us : List Value, F2 (VRel ι) vs us ∧ (results fn tmps).run P w = .ok (if h : us.toArray.size = 1 then us.toArray[0] else .tuple us.toArray) w := by
    intro vs hvs
    obtain ⟨us, g1, g2⟩ := resList_sound hR hE hvs
    refine ⟨us, g2, ?_⟩
    have : (results fn tmps) = (do let vs ← (fn.results.mapM (resSem tmps)); pure (if h : vs.size = 1 then vs[0] else .tuple vs)) := rfl
    rw [this, Array.mapM_eq_mapM_toList]
    simp only [Sem.run_bind, Sem.run_map]
    erw [g1]
    rfl
  split at hv
  · rename_i v0 hvs
    simp only [Option.some.injEq] at hv; subst hv
    obtain ⟨us, g1, g2⟩ := key hvs
    cases g1 with
    | cons h1 h2 =>
      cases h2
      exact ⟨_, g2, by simpa using h1⟩
  · rename_i vs hne hvs
    simp only [Option.some.injEq] at hv; subst hv
    obtain ⟨us, g1, g2⟩ := key hvs
    refine ⟨_, g2, ?_⟩
    have hl := g1.length
    have : us.toArray.size ≠ 1 := by
      simp
      intro h1
      rw [h1] at hl
      obtain ⟨x, rfl⟩ := List.length_eq_one_iff.1 hl
      exact hne x rfl
    rw [dif_neg this, VRel]
    exact ⟨us, rfl, VRelL_iff.2 g1⟩
  · cases hv

/-- Contracts that hold. -/
def IntrOk (P : Program) (B : Floor) (I : Intr) : Prop := ∀ (ι : Inj) (h : Heap) (w : World) (f : FuncId) (args : List AV) (us : List Value) (r : Res (AV × Heap)) (Q : AV × Heap → Prop),
  I f args h = some r → R B ι h w.heap → F2 (VRel ι) args us → r.all Q → CallRes P f us w (RetOk B ι h w Q)

theorem call_ok (hN : NoOwn P) {I : Intr} (hI : IntrOk P B I) (hdraw : ∀ call, CallOk P B call → ∀ nt, RegionOk P B call nt true) : ∀ n, CallOk P B (callA P I n) := by
  intro n
  induction n with
  | zero => intro ι h w f args us Q hR hA hv; cases hv
  | succ n ih =>
    intro ι h w f args us Q hR hA hv
    simp only [callA] at hv
    split at hv
    · rename_i r hr
      exact hI ι h w f args us r Q hr hR hA hv
    · split at hv
      · cases hv
      · rename_i fn hfn
        split at hv
        · cases hv
        · rename_i c hbody
          refine .inl ⟨⟨fn, hfn, by rw [hbody]; rfl⟩, ?_⟩
          unfold bodyA at hv
          split at hv
          · rename_i hle
            rw [Res.all_bind] at hv
            refine calls_of_wp hfn hbody ?_
            have hlen := hA.length
            have hE : EnvRel ι fn.ntmps (argsEnv 0 args .nil) (us.toArray ++ Array.replicate (fn.ntmps - us.toArray.size) undef) := by
              refine args_env args us hA 0 .nil _ ⟨by simp; omega, fun t v ht => by rw [Tr.get_nil] at ht; cases ht⟩ ?_
              intro j u hj
              have hjl : j < us.length := (List.getElem?_eq_some_iff.1 hj).1
              rw [Nat.zero_add, Array.getElem?_append_left (by simpa using hjl)]
              simpa using hj
            refine code_wp (B := B) (region_seq hN ih _) (hdraw _ ih _) c _ h ι _ w _ _ hR hE rfl hv ?_
            intro e env' h' ι' a' w' k1 k2 k3 k4 k5
            have fin : ∀ v, resultsA P fn env' h' = some v → Q (v, h') → a'.defers = [] ∧ ∃ v', (results fn a'.tmps).run P w' = .ok v' w' ∧ RetOk B ι h w Q (.returned v') w' := by
              intro v hv hq
              obtain ⟨v', g1, g2⟩ := results_sound (P := P) k2 k3 hv
              exact ⟨k4, v', g1, v, h', ι', hq, g2, k2, k5⟩
            cases e with
            | norm =>
              simp only at k1
              split at k1
              · rename_i v hv
                exact fin v hv k1
              · cases k1
            | exit id => cases k1
            | ret =>
              simp only at k1
              split at k1
              · rename_i v hv
                exact fin v hv k1
              · cases k1
          · cases hv
end
end Go.Am
end
noncomputable section
namespace Go.Am
open Go.RowKit

/-! ### What an operation looks at -/
section
variable {P : Program} {env env' : Env}

theorem opd_congr {x : Operand} (h : ∀ t, x = .tmp t → env.get t = env'.get t) : opd env x = opd env' x := by
  cases x with
  | tmp t => simp only [opd]; rw [h t rfl]
  | _ => rfl

theorem looks_operands {ops : Array Oper} {o : Oper} (h : ∀ t ∈ o.looksAt ops, env.get t = env'.get t) : ∀ x ∈ o.op.operands, opd env x = opd env' x := by
  intro x hx
  refine opd_congr fun t ht => h t ?_
  subst ht
  simp only [Oper.looksAt, List.mem_append, List.mem_filterMap]
  exact .inl ⟨.tmp t, by simpa using hx, rfl⟩

theorem parts_congr {ps : List (Nat × Operand)} (h : ∀ p ∈ ps, opd env p.2 = opd env' p.2) : (ps.map fun (i, x) => (i, opd env x)) = ps.map fun (i, x) => (i, opd env' x) := by
  apply List.map_congr_left
  rintro ⟨i, x⟩ hp
  simp only
  rw [h _ hp]

theorem list_congr {xs : List Operand} (h : ∀ x ∈ xs, opd env x = opd env' x) : xs.map (opd env) = xs.map (opd env') := List.map_congr_left h

theorem call_args {c : Call} (h : ∀ x ∈ (Op.call c).operands, opd env x = opd env' x) : c.args.toList.map (opd env) = c.args.toList.map (opd env') := by
  apply list_congr
  intro x hx
  refine h x ?_
  simp only [Op.operands, Call.operands]
  cases c.callee <;> simp_all

theorem calleeA_congr {c : Call} (h : ∀ x ∈ (Op.call c).operands, opd env x = opd env' x) : calleeA P env c = calleeA P env' c := by
  have ha := call_args h
  unfold calleeA
  simp only [ha]
  cases hc : c.callee with
  | value f =>
    have : opd env f = opd env' f := h f (by simp [Op.operands, Call.operands, hc])
    simp only [this]
  | invoke r n =>
    have : opd env r = opd env' r := h r (by simp [Op.operands, Call.operands, hc])
    simp only [this]
  | builtin b => rfl

theorem readA_congr {op : Op} {s : Heap} (h : ∀ x ∈ op.operands, opd env x = opd env' x) : readA P env s op = readA P env' s op := by
  cases op with
  | build t ps =>
    simp only [readA]
    rw [parts_congr (env' := env')]
    intro p hp
    exact h _ (by simp [Op.operands]; exact ⟨p.1, by simpa using hp⟩)
  | call c => simp only [readA, call_args h]
  | makeFunc fn first cap =>
    simp only [readA]
    rw [list_congr (xs := first.toList) (env' := env') (fun x hx => h x (by simp [Op.operands]; left; simpa using hx)), list_congr (xs := cap.toList) (env' := env') (fun x hx => h x (by simp [Op.operands]; right; simpa using hx))]
  | slice t x lo hi mx =>
    have h1 : opd env x = opd env' x := h x (by simp [Op.operands])
    have ho : ∀ y : Option Operand, (∀ z, y = some z → z ∈ (Op.slice t x lo hi mx).operands) → y.map (opd env) = y.map (opd env') := by
      intro y hy
      cases y with
      | none => rfl
      | some z => simp only [Option.map_some]; rw [h z (hy z rfl)]
    simp only [readA]
    rw [h1, ho lo (by rintro z rfl; simp [Op.operands]), ho hi (by rintro z rfl; simp [Op.operands]), ho mx (by rintro z rfl; simp [Op.operands])]
  | _ => first
    | rfl
    | (simp only [Op.operands] at h
       simp at h
       simp only [readA, h])

theorem newA_congr {op : Op} (h : ∀ x ∈ op.operands, opd env x = opd env' x) : newA P env op = newA P env' op := by
  cases op with
  | buildSlice t n ps =>
    simp only [newA]
    rw [parts_congr (env' := env')]
    intro p hp
    exact h _ (by simp [Op.operands]; exact ⟨p.1, by simpa using hp⟩)
  | makeMap t r =>
    cases r with
    | none => rfl
    | some r => simp only [newA]; rw [h r (by simp [Op.operands])]
  | _ => first
    | rfl
    | (simp only [Op.operands] at h
       simp at h
       simp only [newA, h])

theorem actA_congr {op : Op} {call : CallF} {s : Heap} (h : ∀ x ∈ op.operands, opd env x = opd env' x) : actA P call env s op = actA P call env' s op := by
  cases op with
  | call c => simp only [actA, call_args h, calleeA_congr h]
  | _ => first
    | rfl
    | (simp only [Op.operands] at h
       simp at h
       simp only [actA, h])

theorem wantedA_congr {ops : Array Oper} {o : Oper} (h : ∀ t ∈ o.looksAt ops, env.get t = env'.get t) : wantedA ops env o = wantedA ops env' o := by
  unfold wantedA
  cases hg : o.guard with
  | none => rfl
  | some p =>
    obtain ⟨j, want⟩ := p
    simp only
    cases hd : (ops[j]?).bind (·.dst) with
    | none => rfl
    | some d =>
      simp only
      rw [h d (by simp [Oper.looksAt, hg, hd])]

theorem evalA_congr {ops : Array Oper} {base i : Nat} {s : Heap} {o : Oper} (h : ∀ t ∈ o.looksAt ops, env.get t = env'.get t) : evalA P ops base env s i o = evalA P ops base env' s i o := by
  unfold evalA
  rw [wantedA_congr h, readA_congr (looks_operands h), newA_congr (looks_operands h)]
end

/-! ### The plan -/
theorem masksGo_prefix : ∀ (l : List Oper) (acc : List Nat), acc <+: masksGo l acc
  | [], acc => List.prefix_refl _
  | o :: l, acc => (List.prefix_append acc [maskOf acc o]).trans (masksGo_prefix l _)

theorem masksGo_get : ∀ (l : List Oper) (acc : List Nat) (i : Nat) (o : Oper), l[i]? = some o → ∃ pre, pre <+: masksGo l acc ∧ pre.length = acc.length + i ∧ (masksGo l acc)[acc.length + i]? = some (maskOf pre o)
  | [], acc, i, o, h => by simp at h
  | x :: l, acc, 0, o, h => by
    simp at h; subst h
    refine ⟨acc, masksGo_prefix (x :: l) acc, rfl, ?_⟩
    obtain ⟨T, hT⟩ := masksGo_prefix l (acc ++ [maskOf acc x])
    simp only [masksGo]
    rw [← hT]
    simp
  | x :: l, acc, i + 1, o, h => by
    obtain ⟨pre, h1, h2, h3⟩ := masksGo_get l (acc ++ [maskOf acc x]) i o (by simpa using h)
    refine ⟨pre, h1, by rw [h2]; simp; omega, ?_⟩
    have : acc.length + (i + 1) = (acc ++ [maskOf acc x]).length + i := by simp; omega
    rw [this]; exact h3

theorem mask_bits (acc : List Nat) : ∀ (l : List Nat) (s b : Nat), (l.foldl (fun s k => s ||| 2 ^ k ||| acc.getD k 0) s).testBit b = true → s.testBit b = true ∨ ∃ k ∈ l, b = k ∨ (acc.getD k 0).testBit b = true
  | [], s, b, h => .inl h
  | x :: l, s, b, h => by
    rcases mask_bits acc l _ b h with h | ⟨k, hk, h⟩
    · rw [Nat.testBit_or, Nat.testBit_or, Bool.or_eq_true, Bool.or_eq_true] at h
      rcases h with (h | h) | h
      · exact .inl h
      · rw [Nat.testBit_two_pow] at h; exact .inr ⟨x, by simp, .inl (of_decide_eq_true h).symm⟩
      · exact .inr ⟨x, by simp, .inr h⟩
    · exact .inr ⟨k, by simp [hk], h⟩

/-- What an operation waits for: what it names, and what that waits for. -/
theorem masks_spec {ops : Array Oper} {M : List Nat} (hM : M = masksGo ops.toList []) {i : Nat} {o : Oper} (ho : ops[i]? = some o) {b : Nat} (hb : (M.getD i 0).testBit b = true) :
    ∃ k ∈ directs o, b = k ∨ (M.getD k 0).testBit b = true := by
  obtain ⟨pre, h1, h2, h3⟩ := masksGo_get ops.toList [] i o (by simpa using ho)
  rw [← hM] at h1 h3
  simp only [List.length_nil, Nat.zero_add] at h2 h3
  rw [List.getD_eq_getElem?_getD, h3] at hb
  rcases mask_bits pre _ _ _ hb with h | ⟨k, hk, h⟩
  · simp at h
  · refine ⟨k, hk, h.imp id fun h => ?_⟩
    obtain ⟨T, rfl⟩ := h1
    rw [List.getD_eq_getElem?_getD] at h ⊢
    rcases Nat.lt_or_ge k pre.length with hl | hl
    · rw [List.getElem?_append_left hl]; exact h
    · rw [List.getElem?_eq_none hl] at h; simp at h

structure PlanAt (P : Program) (ops : Array Oper) (M : List Nat) (done : Nat → Prop) (i : Nat) (o : Oper) : Prop where
  get : ops[i]? = some o
  new : ¬ done i
  direct : ∀ k ∈ directs o, done k
  mask : ∀ b, (M.getD i 0).testBit b = true → done b
  act : kindA P o.op = .act → ∀ b, done b → (M.getD i 0).testBit b = true

theorem planGo_spec {P : Program} {ops : Array Oper} {M : List Nat} : ∀ (l : List Nat) (done : Nat), planGo P ops M l done = true →
    (∀ pre i post, l = pre ++ i :: post → ∃ o, PlanAt P ops M (fun b => done.testBit b = true ∨ b ∈ pre) i o) ∧ (∀ i, i < ops.size → done.testBit i = true ∨ i ∈ l)
  | [], done, h => by
    simp only [planGo, beq_iff_eq] at h
    refine ⟨fun pre i post e => by simp at e, fun i hi => .inl ?_⟩
    rw [h, Nat.testBit_two_pow_sub_one]; simpa using hi
  | x :: l, done, h => by
    simp only [planGo] at h
    split at h
    · cases h
    · rename_i o ho
      simp only [Bool.and_eq_true] at h
      obtain ⟨⟨⟨⟨h1, h2⟩, h3⟩, h4⟩, h5⟩ := h
      obtain ⟨g1, g2⟩ := planGo_spec l _ h5
      have hbit : ∀ b, (done ||| 2 ^ x).testBit b = true ↔ done.testBit b = true ∨ b = x := by
        intro b
        rw [Nat.testBit_or, Bool.or_eq_true, Nat.testBit_two_pow]
        constructor
        · rintro (hh | hh)
          · exact .inl hh
          · exact .inr (of_decide_eq_true hh).symm
        · rintro (hh | hh)
          · exact .inl hh
          · exact .inr (decide_eq_true hh.symm)
      refine ⟨?_, ?_⟩
      · intro pre i post e
        cases pre with
        | nil =>
          simp only [List.nil_append, List.cons.injEq] at e
          obtain ⟨rfl, rfl⟩ := e
          refine ⟨o, ho, ?_, ?_, ?_, ?_⟩
          · simpa using h1
          · intro k hk; exact .inl (List.all_eq_true.1 h2 k hk)
          · intro b hb
            have h3' : Nat.land (M.getD x 0) done = M.getD x 0 := by simpa using h3
            have : ((M.getD x 0) &&& done).testBit b = (M.getD x 0).testBit b := congrArg (·.testBit b) h3'
            rw [Nat.testBit_and, hb] at this
            exact .inl (by simpa using this)
          · intro hk b hb
            rw [hk] at h4
            simp only [beq_iff_eq] at h4
            rw [h4]
            simpa using hb
        | cons y pre =>
          simp only [List.cons_append, List.cons.injEq] at e
          obtain ⟨rfl, e⟩ := e
          obtain ⟨o', q⟩ := g1 pre i post e
          have hiff : ∀ b, (done ||| 2 ^ x).testBit b = true ∨ b ∈ pre ↔ done.testBit b = true ∨ b ∈ x :: pre := by
            intro b; rw [hbit, List.mem_cons]; exact or_assoc
          exact ⟨o', q.get, fun hh => q.new ((hiff i).2 hh), fun k hk => (hiff k).1 (q.direct k hk), fun b hb => (hiff b).1 (q.mask b hb), fun hk b hb => q.act hk b ((hiff b).2 hb)⟩
      · intro i hi
        rcases g2 i hi with hh | hh
        · rcases (hbit i).1 hh with hh | rfl
          · exact .inl hh
          · exact .inr (by simp)
        · exact .inr (by simp [hh])

theorem slots_spec {ops : Array Oper} {M : List Nat} (h : slotsOk ops M = true) {i j : Nat} {x y : Oper} (hi : ops[i]? = some x) (hj : ops[j]? = some y) (hne : i ≠ j) {d : Tmp} (hd : x.dst = some d) :
    y.dst ≠ some d ∧ (d ∈ y.looksAt ops → (M.getD i 0).testBit j = true ∨ (M.getD j 0).testBit i = true) := by
  unfold slotsOk at h
  have h1 := List.all_eq_true.1 h (x, i) (by rw [List.mem_zipIdx_iff_getElem?]; simpa using hi)
  simp only [hd] at h1
  have h2 := List.all_eq_true.1 h1 (y, j) (by rw [List.mem_zipIdx_iff_getElem?]; simpa using hj)
  simp only [Bool.or_eq_true, Bool.and_eq_true, beq_iff_eq] at h2
  rcases h2 with h2 | ⟨h2, h3⟩
  · exact absurd h2 hne
  · refine ⟨by simpa using h2, fun hm => ?_⟩
    rcases h3 with (h3 | h3) | h3
    · simp at h3; exact absurd hm h3
    · exact .inl h3
    · exact .inr h3

mutual
theorem AV.same_eq : ∀ {a b : AV}, AV.same a b = true → a = b
  | .undef, b, h => by cases b <;> simp [AV.same] at h ⊢
  | .bool x, b, h => by cases b <;> simp [AV.same] at h ⊢; exact h
  | .int k x, b, h => by cases b <;> simp [AV.same] at h ⊢; exact h
  | .str x, b, h => by cases b <;> simp [AV.same] at h ⊢; exact eqB_true h
  | .ptr x, b, h => by cases b <;> simp [AV.same] at h ⊢; exact h
  | .slice x n c, b, h => by cases b <;> simp [AV.same] at h ⊢; exact ⟨h.1.1, h.1.2, h.2⟩
  | .map x, b, h => by cases b <;> simp [AV.same] at h ⊢; exact h
  | .func f x y, b, h => by
    cases b <;> simp [AV.same] at h ⊢
    exact ⟨h.1.1, AV.sameL_eq h.1.2, AV.sameL_eq h.2⟩
  | .nilFunc, b, h => by cases b <;> simp [AV.same] at h ⊢
  | .iface t x, b, h => by cases b <;> simp [AV.same] at h ⊢; exact ⟨h.1, AV.same_eq h.2⟩
  | .nilIface, b, h => by cases b <;> simp [AV.same] at h ⊢
  | .agg x, b, h => by cases b <;> simp [AV.same] at h ⊢; exact AV.sameL_eq h
  | .tuple x, b, h => by cases b <;> simp [AV.same] at h ⊢; exact AV.sameL_eq h
theorem AV.sameL_eq : ∀ {a b : List AV}, AV.sameL a b = true → a = b
  | [], b, h => by cases b <;> simp [AV.sameL] at h ⊢
  | x :: xs, b, h => by cases b <;> simp [AV.sameL] at h ⊢; exact ⟨AV.same_eq h.1, AV.sameL_eq h.2⟩
end
end Go.Am
end
noncomputable section
namespace Go.Am
open Go.RowKit

/-- Slots: what stood, overlaid by what the operations of a set have yielded. -/
def Ov (ops : Array Oper) (env0 : Env) (U : Nat → AV) (S : Nat → Prop) (env : Env) : Prop :=
  (∀ m o t, S m → ops[m]? = some o → o.dst = some t → env.get t = some (U m)) ∧
  (∀ t, (∀ m o, S m → ops[m]? = some o → o.dst ≠ some t) → env.get t = env0.get t)

/-- What an operation sees in its slots. -/
def Seen (ops : Array Oper) (M : List Nat) (env0 : Env) (U : Nat → AV) (i : Nat) (o : Oper) (env : Env) : Prop := ∀ t ∈ o.looksAt ops,
  (∀ m x, (M.getD i 0).testBit m = true → ops[m]? = some x → x.dst = some t → env.get t = some (U m)) ∧
  ((∀ m x, (M.getD i 0).testBit m = true → ops[m]? = some x → x.dst ≠ some t) → env.get t = env0.get t)

def upd {α : Type} (U : Nat → α) (i : Nat) (v : α) : Nat → α := fun j => if j = i then v else U j
theorem upd_same {α : Type} (U : Nat → α) (i : Nat) (v : α) : upd U i v i = v := by simp [upd]
theorem upd_ne {α : Type} {U : Nat → α} {i j : Nat} {v : α} (h : j ≠ i) : upd U i v j = U j := by simp [upd, h]

section
variable {P : Program} {ops : Array Oper} {M : List Nat} {env0 : Env} {U : Nat → AV} {nt base : Nat}

theorem Seen.agree {i : Nat} {o : Oper} {env env' : Env} (h : Seen ops M env0 U i o env) (h' : Seen ops M env0 U i o env') : ∀ t ∈ o.looksAt ops, env.get t = env'.get t := by
  intro t ht
  obtain ⟨a, b⟩ := h t ht
  obtain ⟨a', b'⟩ := h' t ht
  by_cases hx : ∃ m x, (M.getD i 0).testBit m = true ∧ ops[m]? = some x ∧ x.dst = some t
  · obtain ⟨m, x, h1, h2, h3⟩ := hx
    rw [a m x h1 h2 h3, a' m x h1 h2 h3]
  · have hn : ∀ m x, (M.getD i 0).testBit m = true → ops[m]? = some x → x.dst ≠ some t := fun m x h1 h2 h3 => hx ⟨m, x, h1, h2, h3⟩
    rw [b hn, b' hn]

theorem Seen.congr {i : Nat} {o : Oper} {env : Env} {U' : Nat → AV} (h : Seen ops M env0 U i o env) (hu : ∀ m, (M.getD i 0).testBit m = true → U' m = U m) : Seen ops M env0 U' i o env := by
  intro t ht
  obtain ⟨a, b⟩ := h t ht
  exact ⟨fun m x h1 h2 h3 => by rw [hu m h1]; exact a m x h1 h2 h3, b⟩

theorem Ov.seen (hs : slotsOk ops M = true) {S : Nat → Prop} {env : Env} (h : Ov ops env0 U S env) {i : Nat} {o : Oper} (ho : ops[i]? = some o) (hi : ¬ S i)
    (hm : ∀ b, (M.getD i 0).testBit b = true → S b) (hcl : ∀ m, S m → ∀ b, (M.getD m 0).testBit b = true → S b) : Seen ops M env0 U i o env := by
  intro t ht
  refine ⟨fun m x h1 h2 h3 => h.1 m x t (hm m h1) h2 h3, fun hn => h.2 t ?_⟩
  intro m x h1 h2 h3
  have hne : m ≠ i := by rintro rfl; exact hi h1
  rcases (slots_spec hs h2 ho hne h3).2 ht with h4 | h4
  · exact hi (hcl m h1 i h4)
  · exact hn m x h4 h2 h3

theorem Ov.put (hs : slotsOk ops M = true) {S : Nat → Prop} {env env' : Env} (h : Ov ops env0 U S env) {i : Nat} {o : Oper} (ho : ops[i]? = some o) (hi : ¬ S i) {v : AV} (hp : putO nt env o.dst v = some env') :
    Ov ops env0 (upd U i v) (fun b => S b ∨ b = i) env' := by
  have hget : ∀ t, env'.get t = if o.dst = some t then some v else env.get t := by
    intro t
    cases hd : o.dst with
    | none => rw [hd] at hp; simp only [putO, Option.some.injEq] at hp; subst hp; simp
    | some d =>
      rw [hd] at hp; simp only [putO] at hp
      split at hp
      · simp only [Option.some.injEq] at hp; subst hp
        rw [Tr.get_set]
        by_cases e : t = d
        · subst e; simp
        · rw [if_neg e, if_neg (by simp; exact fun h => e h.symm)]
      · cases hp
  refine ⟨?_, ?_⟩
  · intro m x t hm hx hd
    rw [hget]
    by_cases e : m = i
    · subst e
      rw [ho] at hx; cases hx
      rw [if_pos hd, upd_same]
    · have hS : S m := by rcases hm with h | h
                          · exact h
                          · exact absurd h e
      have := (slots_spec hs hx ho e hd).1
      rw [if_neg this, upd_ne e]
      exact h.1 m x t hS hx hd
  · intro t hn
    rw [hget, if_neg (hn i o (.inr rfl) ho)]
    exact h.2 t fun m x hm hx => hn m x (.inl hm) hx

theorem Ov.iff {S S' : Nat → Prop} {env : Env} (h : Ov ops env0 U S env) (hs : ∀ b, S b ↔ S' b) : Ov ops env0 U S' env := by
  have : S = S' := funext fun b => propext (hs b)
  subst this; exact h

theorem Ov.congr {S : Nat → Prop} {env : Env} {U' : Nat → AV} (h : Ov ops env0 U S env) (hu : ∀ m, S m → U' m = U m) : Ov ops env0 U' S env :=
  ⟨fun m o t h1 h2 h3 => by rw [hu m h1]; exact h.1 m o t h1 h2 h3, h.2⟩

theorem Ov.same {S : Nat → Prop} {env env' : Env} (h : Ov ops env0 U S env) (h' : Ov ops env0 U S env') (t : Nat) : env.get t = env'.get t := by
  by_cases hx : ∃ m x, S m ∧ ops[m]? = some x ∧ x.dst = some t
  · obtain ⟨m, x, h1, h2, h3⟩ := hx
    rw [h.1 m x t h1 h2 h3, h'.1 m x t h1 h2 h3]
  · have hn : ∀ m x, S m → ops[m]? = some x → x.dst ≠ some t := fun m x h1 h2 h3 => hx ⟨m, x, h1, h2, h3⟩
    rw [h.2 t hn, h'.2 t hn]

/-- What was read early is what is read in its turn. -/
def Rec (P : Program) (ops : Array Oper) (M : List Nat) (base : Nat) (env0 : Env) (U : Nat → AV) (OB : Nat → Option AObj) (snaps : List (Nat × Heap)) (i : Nat) : Prop :=
  ∀ o, ops[i]? = some o → ∃ new x hs old, snaps = new ++ (x, hs) :: old ∧ (∀ p ∈ new, (p.1 != 0 && (M.getD i 0).testBit (p.1 - 1)) = false) ∧
    ∀ env, Seen ops M env0 U i o env → evalA P ops base env hs i o = some (U i, OB i)

theorem Rec.push {OB : Nat → Option AObj} {snaps : List (Nat × Heap)} {i a : Nat} {h : Heap} (hr : Rec P ops M base env0 U OB snaps i) (ha : (M.getD i 0).testBit a = false) :
    Rec P ops M base env0 U OB ((a + 1, h) :: snaps) i := by
  intro o ho
  obtain ⟨new, x, hs, old, rfl, h2, h3⟩ := hr o ho
  refine ⟨(a + 1, h) :: new, x, hs, old, rfl, ?_, h3⟩
  intro p hp
  rcases List.mem_cons.1 hp with rfl | hp
  · simp; rw [← List.getD_eq_getElem?_getD]; exact ha
  · exact h2 p hp

theorem Rec.congr {OB OB' : Nat → Option AObj} {U' : Nat → AV} {snaps : List (Nat × Heap)} {i : Nat} (hr : Rec P ops M base env0 U OB snaps i) (hu : ∀ m, (M.getD i 0).testBit m = true → U m = U' m)
    (hi : U' i = U i) (hb : OB' i = OB i) : Rec P ops M base env0 U' OB' snaps i := by
  intro o ho
  obtain ⟨new, x, hs, old, h1, h2, h3⟩ := hr o ho
  refine ⟨new, x, hs, old, h1, h2, fun env he => ?_⟩
  rw [hi, hb]
  exact h3 env (he.congr hu)

theorem check_at {m : Nat} {f : Heap → Bool} : ∀ (new : List (Nat × Heap)) {x : Nat} {hs : Heap} {old : List (Nat × Heap)}, (∀ p ∈ new, (p.1 != 0 && m.testBit (p.1 - 1)) = false) →
    checkSnaps m f (new ++ (x, hs) :: old) = true → f hs = true
  | [], x, hs, old, _, h => by simp only [List.nil_append, checkSnaps, Bool.and_eq_true] at h; exact h.1
  | p :: new, x, hs, old, hn, h => by
    simp only [List.cons_append, checkSnaps, Bool.and_eq_true, Bool.or_eq_true] at h
    rcases h.2 with h2 | h2
    · have := hn p (by simp)
      simp only [Bool.and_eq_false_iff] at this
      obtain ⟨a, b⟩ := h2
      rcases this with h | h
      · rw [h] at a; cases a
      · rw [h] at b; cases b
    · exact check_at new (fun q hq => hn q (by simp [hq])) h2

theorem older_at {m : Nat} {f : Heap → Bool} {new : List (Nat × Heap)} {x : Nat} {hs : Heap} {old : List (Nat × Heap)} (hn : ∀ p ∈ new, (p.1 != 0 && m.testBit (p.1 - 1)) = false)
    (h : olderOk m f (new ++ (x, hs) :: old) = true) : new = [] ∨ f hs = true := by
  cases new with
  | nil => exact .inl rfl
  | cons p new =>
    refine .inr ?_
    simp only [List.cons_append, olderOk, Bool.or_eq_true] at h
    rcases h with h | h
    · rw [hn p (by simp)] at h; cases h
    · exact check_at new (fun q hq => hn q (by simp [hq])) h

theorem evalA_two {env : Env} {s s' : Heap} {i : Nat} {o : Oper} {v v' : AV} {ob ob' : Option AObj} (h : evalA P ops base env s i o = some (v, ob)) (h' : evalA P ops base env s' i o = some (v', ob')) :
    ob = ob' ∧ (kindA P o.op = .nw → v = v') := by
  unfold evalA at h h'
  cases hw : wantedA ops env o with
  | none => rw [hw] at h; cases h
  | some b =>
    rw [hw] at h h'
    cases b with
    | false =>
      simp only [Option.some.injEq, Prod.mk.injEq] at h h'
      exact ⟨h.2.symm.trans h'.2, fun _ => h.1.symm.trans h'.1⟩
    | true =>
      simp only at h h'
      cases hk : kindA P o.op with
      | nw =>
        rw [hk] at h h'
        simp only at h h'
        cases hn : newA P env o.op with
        | none => rw [hn] at h; cases h
        | some p =>
          rw [hn] at h h'
          simp only [Option.some.injEq, Prod.mk.injEq] at h h'
          exact ⟨h.2.symm.trans h'.2, fun _ => h.1.symm.trans h'.1⟩
      | rd =>
        rw [hk] at h h'
        simp only at h h'
        cases h1 : readA P env s o.op with
        | none => rw [h1] at h; cases h
        | some a =>
          cases h2 : readA P env s' o.op with
          | none => rw [h2] at h'; cases h'
          | some b =>
            rw [h1] at h; rw [h2] at h'
            simp only [Option.some.injEq, Prod.mk.injEq] at h h'
            exact ⟨h.2.symm.trans h'.2, fun e => by cases e⟩
      | act => rw [hk] at h; cases h

/-- An operation that does not act, in its turn. -/
theorem canon_step {call : CallF} {i : Nat} {rest : List Nat} {env : Env} {h : Heap} {snaps : List (Nat × Heap)} {Q : Env × Heap → Prop} {o : Oper} (ho : ops[i]? = some o) (hk : kindA P o.op ≠ .act)
    (hv : (drawA P call nt ops M base (i :: rest) env h snaps).all Q) :
    ∃ x s older v ob env', snaps = (x, s) :: older ∧ evalA P ops base env s i o = some (v, ob) ∧ putO nt env o.dst v = some env' ∧ (drawA P call nt ops M base rest env' (putOb h (base + i) ob) snaps).all Q ∧
      ∀ new x' hs old, snaps = new ++ (x', hs) :: old → (∀ p ∈ new, (p.1 != 0 && (M.getD i 0).testBit (p.1 - 1)) = false) → ∃ u ob', evalA P ops base env hs i o = some (u, ob') ∧ u = v ∧ ob' = ob := by
  simp only [drawA, ho] at hv
  have hv' : Res.all Q (match (generalizing := false) snaps with
        | [] => .fail
        | (a, s) :: older =>
          match (generalizing := false) evalA P ops base env s i o with
          | none => .fail
          | some (v, ob) =>
            if (kindA P o.op == .nw) || olderOk (M.getD i 0) (fun s' => sameV (evalA P ops base env s' i o) v) ((a, s) :: older) then
              match (generalizing := false) putO nt env o.dst v with
              | some env => drawA P call nt ops M base rest env (putOb h (base + i) ob) ((a, s) :: older)
              | none => .fail
            else .fail) := by
    cases hkk : kindA P o.op with
    | act => exact absurd hkk hk
    | rd => rw [hkk] at hv; exact hv
    | nw => rw [hkk] at hv; exact hv
  clear hv
  cases snaps with
  | nil => cases hv'
  | cons p older =>
    obtain ⟨x, s⟩ := p
    simp only at hv'
    cases he : evalA P ops base env s i o with
    | none => rw [he] at hv'; cases hv'
    | some r =>
      obtain ⟨v, ob⟩ := r
      rw [he] at hv'
      simp only at hv'
      split at hv'
      · rename_i hc
        cases hp : putO nt env o.dst v with
        | none => rw [hp] at hv'; cases hv'
        | some env' =>
          rw [hp] at hv'
          refine ⟨x, s, older, v, ob, env', rfl, he, hp, hv', ?_⟩
          intro new x' hs old hsn hno
          rw [Bool.or_eq_true] at hc
          rcases hc with hc | hc
          · have hnw : kindA P o.op = .nw := by
              cases hkk : kindA P o.op with
              | nw => rfl
              | rd => rw [hkk] at hc; cases hc
              | act => rw [hkk] at hc; cases hc
            have : evalA P ops base env hs i o = evalA P ops base env s i o := by
              unfold evalA; rw [hnw]
            exact ⟨v, ob, by rw [this]; exact he, rfl, rfl⟩
          · rw [hsn] at hc
            rcases older_at hno hc with rfl | h1
            · simp only [List.nil_append, List.cons.injEq, Prod.mk.injEq] at hsn
              obtain ⟨⟨rfl, rfl⟩, rfl⟩ := hsn
              exact ⟨v, ob, he, rfl, rfl⟩
            · unfold sameV at h1
              split at h1
              · rename_i u ob' he'
                exact ⟨u, ob', he', AV.same_eq h1, (evalA_two he' he).1⟩
              · cases h1
      · cases hv'

/-- An operation that acts, in its turn: some way goes on. -/
theorem act_step {call : CallF} {i : Nat} {rest : List Nat} {env : Env} {h : Heap} {snaps : List (Nat × Heap)} {Q : Env × Heap → Prop} {o : Oper} (ho : ops[i]? = some o) (hk : kindA P o.op = .act)
    (hv : (drawA P call nt ops M base (i :: rest) env h snaps).all Q) :
    (wantedA ops env o = some false ∧ ∃ env', putO nt env o.dst (.tuple []) = some env' ∧ (drawA P call nt ops M base rest env' h ((i + 1, h) :: snaps)).all Q) ∨
    (wantedA ops env o = some true ∧ (actA P call env h o.op).all fun r => ∃ env', putO nt env o.dst r.1 = some env' ∧ (drawA P call nt ops M base rest env' r.2 ((i + 1, r.2) :: snaps)).all Q) := by
  simp only [drawA, ho, hk] at hv
  cases hw : wantedA ops env o with
  | none => rw [hw] at hv; cases hv
  | some b =>
    rw [hw] at hv
    cases b with
    | false =>
      simp only at hv
      cases hp : putO nt env o.dst (.tuple []) with
      | none => rw [hp] at hv; cases hv
      | some env' => rw [hp] at hv; exact .inl ⟨rfl, env', rfl, hv⟩
    | true =>
      simp only at hv
      rw [Res.all_bind] at hv
      refine .inr ⟨rfl, Res.all_mono (fun r hr => ?_) hv⟩
      cases hp : putO nt env o.dst r.1 with
      | none => rw [hp] at hr; cases hr
      | some env' => rw [hp] at hr; exact ⟨env', rfl, hr⟩

theorem put_lt {env env' : Env} {d : Option Tmp} {v : AV} (h : putO nt env d v = some env') : ∀ t, d = some t → t < nt := by
  intro t ht
  subst ht
  simp only [putO] at h
  split at h
  · assumption
  · cases h

theorem put_some {d : Option Tmp} (h : ∀ t, d = some t → t < nt) (env : Env) (v : AV) : ∃ env', putO nt env d v = some env' := by
  cases d with
  | none => exact ⟨env, rfl⟩
  | some t => exact ⟨env.set t v, by simp only [putO]; rw [if_pos (h t rfl)]⟩

/-- What the plan tells of a place in the order. -/
structure PlanOk (P : Program) (ops : Array Oper) (M ord : List Nat) : Prop where
  at_ : ∀ pre i post, ord = pre ++ i :: post → ∃ o, PlanAt P ops M (· ∈ pre) i o
  all : ∀ i, i < ops.size → i ∈ ord
  slots : slotsOk ops M = true
  masks : ∀ i o, ops[i]? = some o → ∀ b, (M.getD i 0).testBit b = true → ∃ k ∈ directs o, b = k ∨ (M.getD k 0).testBit b = true

theorem planOf_ok {pl : Plan} (h : planOf P ops = some pl) : PlanOk P ops pl.masks pl.ord := by
  unfold planOf at h
  simp only at h
  split at h
  · rename_i hc
    simp only [Option.some.injEq] at h
    subst h
    simp only [Bool.and_eq_true] at hc
    obtain ⟨g1, g2⟩ := planGo_spec _ _ hc.1
    refine ⟨?_, ?_, hc.2, fun i o ho b hb => masks_spec rfl ho hb⟩
    · intro pre i post e
      obtain ⟨o, q⟩ := g1 pre i post e
      have hiff : ∀ b, ((0 : Nat).testBit b = true ∨ b ∈ pre) ↔ b ∈ pre := fun b => by simp
      exact ⟨o, q.get, fun hh => q.new ((hiff i).2 hh), fun k hk => (hiff k).1 (q.direct k hk), fun b hb => (hiff b).1 (q.mask b hb), fun hk b hb => q.act hk b ((hiff b).2 hb)⟩
    · intro i hi
      rcases g2 i hi with h | h
      · simp at h
      · exact h
  · cases h

theorem PlanOk.closed {ord : List Nat} (h : PlanOk P ops M ord) {pre post : List Nat} (e : ord = pre ++ post) : ∀ m, m ∈ pre → ∀ b, (M.getD m 0).testBit b = true → b ∈ pre := by
  intro m hm b hb
  obtain ⟨p1, p2, rfl⟩ := List.append_of_mem hm
  obtain ⟨o, q⟩ := h.at_ p1 m (p2 ++ post) (by rw [e]; simp)
  have := q.mask b hb
  simp [this]

/-- In its turn, an operation sees what it should see. -/
theorem PlanOk.seen {ord : List Nat} (h : PlanOk P ops M ord) {pre post : List Nat} {i : Nat} {o : Oper} (e : ord = pre ++ i :: post) (ho : ops[i]? = some o) {env : Env} (hov : Ov ops env0 U (· ∈ pre) env) :
    Seen ops M env0 U i o env := by
  obtain ⟨o', q⟩ := h.at_ pre i post e
  exact hov.seen h.slots ho q.new q.mask (h.closed e)

/-- An operation that is free to run, run early. -/
theorem look {call : CallF} {ord : List Nat} (hP : PlanOk P ops M ord) {E : Nat → Prop} {OB : Nat → Option AObj} {Q : Env × Heap → Prop} (hcl : ∀ m, E m → ∀ b, (M.getD m 0).testBit b = true → E b)
    {j : Nat} {oj : Oper} (hj : ops[j]? = some oj) (hkj : kindA P oj.op ≠ .act) (hnj : ¬ E j) (hmj : ∀ b, (M.getD j 0).testBit b = true → E b) :
    ∀ (rest pre : List Nat) (env : Env) (h : Heap) (snaps : List (Nat × Heap)) (U' : Nat → AV), ord = pre ++ rest → j ∈ rest → (∀ m, E m → U' m = U m) → Ov ops env0 U' (· ∈ pre) env →
      (∀ i ∈ rest, ∀ o, ops[i]? = some o → kindA P o.op = .act → ¬ E i) → (∀ i ∈ rest, E i → Rec P ops M base env0 U OB snaps i) → (drawA P call nt ops M base rest env h snaps).all Q →
      ∀ new x hs old, snaps = new ++ (x, hs) :: old → (∀ p ∈ new, (p.1 != 0 && (M.getD j 0).testBit (p.1 - 1)) = false) →
      (∃ v ob, ∀ env, Seen ops M env0 U j oj env → evalA P ops base env hs j oj = some (v, ob)) ∧ (∀ t, oj.dst = some t → t < nt)
  | [], pre, env, h, snaps, U', he, hm, hU, hov, hact, hrec, hv, new, x, hs, old, hsn, hno => by simp at hm
  | i :: rest, pre, env, h, snaps, U', he, hm, hU, hov, hact, hrec, hv, new, x, hs, old, hsn, hno => by
    obtain ⟨o, hq⟩ := hP.at_ pre i rest he
    by_cases hij : i = j
    · subst hij
      have := hq.get.symm.trans hj
      cases this
      obtain ⟨x1, s1, older, v, ob, env', _, _, h3, _, h5⟩ := canon_step hj hkj hv
      obtain ⟨u, ob', h6, _, _⟩ := h5 new x hs old hsn hno
      refine ⟨⟨u, ob', fun env2 he2 => ?_⟩, put_lt h3⟩
      have h7 : Seen ops M env0 U' i _ env := hP.seen he hj hov
      rw [← h6]
      exact evalA_congr fun t ht => (he2.agree (h7.congr fun m hm => (hU m (hmj m hm)).symm)) t ht
    · have hjr : j ∈ rest := by rcases List.mem_cons.1 hm with h | h
                                · exact absurd h.symm hij
                                · exact h
      have he' : ord = (pre ++ [i]) ++ rest := by rw [he]; simp
      have hpm : ∀ b, (b ∈ pre ∨ b = i) ↔ b ∈ pre ++ [i] := fun b => by simp
      by_cases hk : kindA P o.op = .act
      · have hiE := hact i (by simp) o hq.get hk
        have hpush : ∀ k, E k → (M.getD k 0).testBit i = false := fun k hk => by
          cases hb : (M.getD k 0).testBit i with
          | false => rfl
          | true => exact absurd (hcl k hk i hb) hiE
        have hji : (M.getD j 0).testBit i = false := by
          cases hb : (M.getD j 0).testBit i with
          | false => rfl
          | true => exact absurd (hmj i hb) hiE
        have go : ∀ env' h' v, putO nt env o.dst v = some env' → (drawA P call nt ops M base rest env' h' ((i + 1, h') :: snaps)).all Q →
            (∃ v ob, ∀ env, Seen ops M env0 U j oj env → evalA P ops base env hs j oj = some (v, ob)) ∧ (∀ t, oj.dst = some t → t < nt) := by
          intro env' h' v hp hv'
          refine look (OB := OB) hP hcl hj hkj hnj hmj rest (pre ++ [i]) env' h' ((i + 1, h') :: snaps) (upd U' i v) he' hjr ?_ ?_ (fun k hk => hact k (by simp [hk])) ?_ hv' ((i + 1, h') :: new) x hs old (by rw [hsn]; rfl) ?_
          · intro m hmE
            have hne : m ≠ i := fun e => hiE (by rw [← e]; exact hmE)
            rw [upd_ne hne]
            exact hU m hmE
          · exact (hov.put hP.slots hq.get hq.new hp).iff hpm
          · intro k hk hE
            exact (hrec k (by simp [hk]) hE).push (hpush k hE)
          · intro p hp
            rcases List.mem_cons.1 hp with rfl | hp
            · simp only [Nat.add_sub_cancel, hji, Bool.and_false]
            · exact hno p hp
        rcases act_step hq.get hk hv with ⟨_, env', hp, hv'⟩ | ⟨_, hall⟩
        · exact go env' h _ hp hv'
        · obtain ⟨r, env', hp, hv'⟩ := Res.all_exists hall
          exact go env' r.2 _ hp hv'
      · obtain ⟨x1, s1, older, v, ob, env', _, _, h3, h4, h5⟩ := canon_step hq.get hk hv
        refine look (OB := OB) hP hcl hj hkj hnj hmj rest (pre ++ [i]) env' (putOb h (base + i) ob) snaps (upd U' i v) he' hjr ?_ ?_ (fun k hk => hact k (by simp [hk])) (fun k hk => hrec k (by simp [hk])) h4 new x hs old hsn hno
        · intro m hmE
          by_cases e : m = i
          · subst e
            rw [upd_same]
            obtain ⟨new2, x2, hs2, old2, k1, k2, k3⟩ := hrec m (by simp) hmE o hq.get
            obtain ⟨u, ob', k4, k5, _⟩ := h5 new2 x2 hs2 old2 k1 k2
            have h7 : Seen ops M env0 U' m o env := hP.seen he hq.get hov
            have := k3 env (h7.congr fun b hb => (hU b (hcl m hmE b hb)).symm)
            rw [k4] at this
            simp only [Option.some.injEq, Prod.mk.injEq] at this
            rw [← k5, this.1]
          · rw [upd_ne e]; exact hU m hmE
        · exact (hov.put hP.slots hq.get hq.new h3).iff hpm
end
end Go.Am
end
noncomputable section
namespace Go.Am
open Go.RowKit

/-- Something that was made early: it has its place, and nobody owns it. -/
def Pend (s0 base : Nat) (ι : Inj) (h : Heap) (hp : Array Obj) (i : Nat) (ob : AObj) : Prop :=
  ∃ l, ι (base + i) = some l ∧ s0 ≤ l.block ∧ l.block < hp.size ∧ ob.owns = true ∧ (∀ ι' h' (hp' : Array Obj), ι.le ι' → hp'[l.block]? = hp[l.block]? → ORel ι' h' hp' l ob) ∧
    (∀ j oj lj, h.get j = some oj → oj.isDead = false → ι j = some lj → lj.block ≠ l.block) ∧ h.get (base + i) = none

section
variable {P : Program} {ops : Array Oper} {M : List Nat} {env0 : Env} {U : Nat → AV} {nt base : Nat} {B : Floor}

theorem Pend.noOwn {s0 : Nat} {ι : Inj} {h : Heap} {hp : Array Obj} {i : Nat} {ob : AObj} {l : Loc} (hl : ι (base + i) = some l) (hne : ∀ j oj lj, h.get j = some oj → oj.isDead = false → ι j = some lj → lj.block ≠ l.block) :
    ¬ Own ι h l.block := by
  rintro ⟨j, oj, lj, h1, h2, h3, h4⟩
  exact hne j oj lj h1 (AObj.alive_of_owns h2) h3 h4

/-- What is early stays so where memory turns. -/
theorem Pend.step {s0 : Nat} {ι ι' : Inj} {h h' : Heap} {w w' : World} (hR : R B ι h w.heap) (hR' : R B ι' h' w'.heap) (hS : Step ι h w ι' h' w') {i : Nat} {ob : AObj} (hi : base + i < h.next) (hp : Pend s0 base ι h w.heap i ob) :
    Pend s0 base ι' h' w'.heap i ob := by
  obtain ⟨l, h1, h2, h3, h4, h5, h6, h7⟩ := hp
  have hno := Pend.noOwn (s0 := s0) (hp := w.heap) (ob := ob) h1 h6
  have hfr := hS.frame l.block h3 hno
  refine ⟨l, (hS.same _ hi).trans h1, h2, Nat.lt_of_lt_of_le h3 hS.size, h4, ?_, ?_, hS.free _ hi h7⟩
  · intro ι'' h'' hp'' hle hb
    exact h5 ι'' h'' hp'' (Inj.le_trans (hS.le hR) hle) (hb.trans hfr)
  · intro j oj lj hj hd hlj e
    cases ho : oj.owns with
    | true => exact hno (hS.own _ h3 ⟨j, oj, lj, hj, ho, hlj, e⟩)
    | false =>
      have hj' := hS.ro j oj hj hd ho
      have hjn : j < h.next := by
        rcases Nat.lt_or_ge j h.next with q | q
        · exact q
        · rw [(hR.fresh j q).1] at hj'; cases hj'
      exact h6 j oj lj hj' hd (by rw [← hS.same j hjn]; exact hlj) e

/-- What was made early comes to its number. -/
theorem Pend.commit {s0 : Nat} {ι ι0 : Inj} {h h0 : Heap} {w w0 : World} (hR : R B ι h w.heap) (hB : B.n ≤ s0) (hw0 : w0.heap.size ≤ s0) (hS : Step ι0 h0 w0 ι h w) {i : Nat} {ob : AObj} (hi : base + i < h.next) (h0n : h0.next ≤ base + i)
    (hp : Pend s0 base ι h w.heap i ob) : R B ι (h.put (base + i) ob) w.heap ∧ Step ι0 h0 w0 ι (h.put (base + i) ob) w := by
  obtain ⟨l, h1, h2, h3, h4, h5, h6, h7⟩ := hp
  refine ⟨hR.commit h1 (.inl h7) (by omega) h3 hi (h5 _ _ _ (Inj.le_refl ι) rfl) (fun j oj lj _ hj hd hlj => h6 j oj lj hj hd hlj), ?_⟩
  refine ⟨hS.same, hS.next, hS.size, hS.frame, ?_, ?_, ?_, hS.os, hS.tape, hS.output⟩
  · intro b hb ho
    rcases Own.put ho with ⟨l', _, e1, e2⟩ | ho
    · rw [h1] at e1; cases e1; omega
    · exact hS.own b hb ho
  · intro id hid hn
    rw [Heap.get_put_ne (by omega)]
    exact hS.free id hid hn
  · intro id o hg hd ho
    rw [Heap.get_put] at hg
    by_cases e : id = base + i
    · subst e; simp only [if_true, Option.some.injEq] at hg; subst hg; rw [h4] at ho; cases ho
    · rw [if_neg e] at hg; exact hS.ro id o hg hd ho

theorem Pend.other {s0 : Nat} {ι : Inj} {h : Heap} {hp : Array Obj} {i k : Nat} {ob ob' : AObj} (hne : i ≠ k) (hi : Pend s0 base ι h hp i ob) (hk : Pend s0 base ι h hp k ob')
    (hsep : ∀ li lk, ι (base + i) = some li → ι (base + k) = some lk → li.block ≠ lk.block) : Pend s0 base ι (h.put (base + i) ob) hp k ob' := by
  obtain ⟨l, h1, h2, h3, h4, h5, h6, h7⟩ := hk
  obtain ⟨li, g1, _⟩ := hi
  refine ⟨l, h1, h2, h3, h4, h5, ?_, by rw [Heap.get_put_ne (by omega)]; exact h7⟩
  intro j oj lj hj hd hlj
  rw [Heap.get_put] at hj
  by_cases e : j = base + i
  · subst e; rw [g1] at hlj; cases hlj; exact hsep _ _ g1 h1
  · rw [if_neg e] at hj; exact h6 j oj lj hj hd hlj

/-- All that is known while a region runs in a drawn order. -/
structure Inv (P : Program) (ops : Array Oper) (M ord : List Nat) (nt base : Nat) (B : Floor) (env0 : Env) (ι0 : Inj) (h0 : Heap) (w0 : World) (E : Nat → Prop) (pre rest : List Nat) (env : Env) (h : Heap) (snaps : List (Nat × Heap))
    (U : Nat → AV) (OB : Nat → Option AObj) (envS : Env) (ι : Inj) (a : Act) (w : World) : Prop where
  ord : ord = pre ++ rest
  preE : ∀ b ∈ pre, E b
  closed : ∀ m, E m → ∀ b, (M.getD m 0).testBit b = true → E b
  acts : ∀ i ∈ rest, ∀ o, ops[i]? = some o → kindA P o.op = .act → ¬ E i
  canon : Ov ops env0 U (· ∈ pre) env
  real : Ov ops env0 U E envS
  envR : EnvRel ι nt envS a.tmps
  defers : a.defers = []
  recs : ∀ i ∈ rest, E i → Rec P ops M base env0 U OB snaps i
  mem : R B ι h w.heap
  pend : ∀ i ∈ rest, E i → ∀ ob, OB i = some ob → Pend w0.heap.size base ι h w.heap i ob
  sep : ∀ i ∈ rest, ∀ j ∈ rest, i ≠ j → E i → E j → ∀ oi oj, OB i = some oi → OB j = some oj → ∀ li lj, ι (base + i) = some li → ι (base + j) = some lj → li.block ≠ lj.block
  step : Step ι0 h0 w0 ι h w
  next : base + ops.size ≤ h.next
  base0 : h0.next = base
  size0 : B.n ≤ w0.heap.size
  small : ∀ m, E m → m < ops.size
  unborn : ∀ i, i < ops.size → ¬ E i → ι (base + i) = none ∧ h.get (base + i) = none

/-- The operations that have run, in their turn. -/
theorem Inv.pass {ord : List Nat} (hP : PlanOk P ops M ord) {ι0 : Inj} {h0 : Heap} {w0 : World} {E : Nat → Prop} {snaps : List (Nat × Heap)} {OB : Nat → Option AObj} {envS : Env} {ι : Inj} {a : Act} {w : World}
    {call : CallF} {Q : Env × Heap → Prop} : ∀ (W pre tail : List Nat) (env : Env) (h : Heap), Inv P ops M ord nt base B env0 ι0 h0 w0 E pre (W ++ tail) env h snaps U OB envS ι a w → (∀ i ∈ W, E i) →
      (∀ i ∈ W, ∀ o, ops[i]? = some o → kindA P o.op ≠ .act) → (drawA P call nt ops M base (W ++ tail) env h snaps).all Q →
      ∃ env' h', Inv P ops M ord nt base B env0 ι0 h0 w0 E (pre ++ W) tail env' h' snaps U OB envS ι a w ∧ (drawA P call nt ops M base tail env' h' snaps).all Q
  | [], pre, tail, env, h, hI, hE, hk, hv => ⟨env, h, by simpa using hI, hv⟩
  | i :: W, pre, tail, env, h, hI, hE, hk, hv => by
    obtain ⟨o, hq⟩ := hP.at_ pre i (W ++ tail) hI.ord
    have hiE := hE i (by simp)
    obtain ⟨x, s, older, v, ob, env', hsn, he, hp, hv', hold⟩ := canon_step hq.get (hk i (by simp) o hq.get) hv
    obtain ⟨new, x2, hs, old, k1, k2, k3⟩ := hI.recs i (by simp) hiE o hq.get
    obtain ⟨u, ob', k4, k5, k6⟩ := hold new x2 hs old k1 k2
    have hseen : Seen ops M env0 U i o env := hP.seen hI.ord hq.get hI.canon
    have hval := k3 env hseen
    rw [k4] at hval
    simp only [Option.some.injEq, Prod.mk.injEq] at hval
    obtain ⟨rfl, rfl⟩ := hval
    subst k5
    rw [← k6] at hv'
    have hio : i < ops.size := hI.small i hiE
    have hnew : ¬ i ∈ pre := hq.new
    have hnd : i ∉ W ++ tail := by
      intro hm
      obtain ⟨p1, p2, e⟩ := List.append_of_mem hm
      obtain ⟨o', q'⟩ := hP.at_ (pre ++ i :: p1) i p2 (by rw [hI.ord]; simp only [List.cons_append]; rw [e]; simp)
      exact q'.new (by simp)
    have hcan : Ov ops env0 U (· ∈ pre ++ [i]) env' := by
      refine ((hI.canon.put hP.slots hq.get hnew hp).iff fun b => by simp).congr ?_
      intro m _
      by_cases e : m = i
      · subst e; rw [upd_same]
      · rw [upd_ne e]
    have hmem : R B ι (putOb h (base + i) (OB i)) w.heap ∧ Step ι0 h0 w0 ι (putOb h (base + i) (OB i)) w ∧ (putOb h (base + i) (OB i)).next = h.next ∧
        ∀ k ∈ W ++ tail, E k → ∀ ob, OB k = some ob → Pend w0.heap.size base ι (putOb h (base + i) (OB i)) w.heap k ob := by
      cases hob : OB i with
      | none => exact ⟨hI.mem, hI.step, rfl, fun k hk hkE ob hob => hI.pend k (by simp at hk ⊢; exact .inr hk) hkE ob hob⟩
      | some obi =>
        have hpi := hI.pend i (by simp) hiE obi hob
        have hnx := hI.next
        have hb0 := hI.base0
        obtain ⟨g1, g2⟩ := hpi.commit hI.mem hI.size0 (Nat.le_refl _) hI.step (by omega) (by omega)
        refine ⟨g1, g2, rfl, fun k hk hkE ob hobk => ?_⟩
        have hne : i ≠ k := by rintro rfl; exact hnd hk
        have hk' : k ∈ (i :: W) ++ tail := by simp at hk ⊢; exact .inr hk
        exact Pend.other hne hpi (hI.pend k hk' hkE ob hobk) (hI.sep i (by simp) k hk' hne hiE hkE obi ob hob hobk)
    obtain ⟨m1, m2, m3, m4⟩ := hmem
    have hsub : ∀ k, k ∈ W ++ tail → k ∈ (i :: W) ++ tail := fun k hk => by simp at hk ⊢; exact .inr hk
    have hI' : Inv P ops M ord nt base B env0 ι0 h0 w0 E (pre ++ [i]) (W ++ tail) env' (putOb h (base + i) (OB i)) snaps U OB envS ι a w :=
      { ord := by rw [hI.ord]; simp
        preE := fun b hb => by
          rcases List.mem_append.1 hb with hb | hb
          · exact hI.preE b hb
          · simp at hb; subst hb; exact hiE
        closed := hI.closed
        acts := fun k hk => hI.acts k (hsub k hk)
        canon := hcan
        real := hI.real
        envR := hI.envR
        defers := hI.defers
        recs := fun k hk => hI.recs k (hsub k hk)
        mem := m1
        pend := m4
        sep := fun k hk j hj => hI.sep k (hsub k hk) j (hsub j hj)
        step := m2
        next := by rw [m3]; exact hI.next
        base0 := hI.base0
        size0 := hI.size0
        small := hI.small
        unborn := fun k hks hkE => by
          refine ⟨(hI.unborn k hks hkE).1, ?_⟩
          have := (hI.unborn k hks hkE).2
          cases OB i with
          | none => exact this
          | some ob =>
            have hne : k ≠ i := fun e => hkE (by rw [e]; exact hiE)
            show (h.put (base + i) ob).get (base + k) = none
            rw [Heap.get_put_ne (by omega)]; exact this }
    obtain ⟨env2, h2, r1, r2⟩ := Inv.pass hP W (pre ++ [i]) tail env' _ hI' (fun k hk => hE k (by simp [hk])) (fun k hkW => hk k (by simp [hkW])) hv'
    exact ⟨env2, h2, by simpa using r1, r2⟩
end
end Go.Am
end
noncomputable section
namespace Go.Am
open Go.RowKit

section
variable {P : Program} {ops : Array Oper} {M : List Nat} {env0 : Env} {nt base : Nat} {B : Floor} {ord : List Nat} {ι0 : Inj} {h0 : Heap} {w0 : World}

theorem mask_of_direct (hP : PlanOk P ops M ord) {E : Nat → Prop} (hcl : ∀ m, E m → ∀ b, (M.getD m 0).testBit b = true → E b) {i : Nat} {o : Oper} (ho : ops[i]? = some o) (hd : ∀ k ∈ directs o, E k) :
    ∀ b, (M.getD i 0).testBit b = true → E b := by
  intro b hb
  obtain ⟨k, hk, h⟩ := hP.masks i o ho b hb
  rcases h with rfl | h
  · exact hd _ hk
  · exact hcl k (hd k hk) b h

/-- An operation that does not act, run before its turn. -/
theorem Inv.early (hP : PlanOk P ops M ord) {call : CallF} {Q : Env × Heap → Prop} {E : Nat → Prop} {pre rest : List Nat} {env : Env} {h : Heap} {snaps : List (Nat × Heap)} {U : Nat → AV} {OB : Nat → Option AObj} {envS : Env} {ι : Inj} {a : Act} {w : World}
    (hI : Inv P ops M ord nt base B env0 ι0 h0 w0 E pre rest env h snaps U OB envS ι a w) (hh : ∃ x older, snaps = (x, h) :: older) (hv : (drawA P call nt ops M base rest env h snaps).all Q)
    {i : Nat} {o : Oper} (ho : ops[i]? = some o) (hi : ¬ E i) (hir : i ∈ rest) (hd : ∀ k ∈ directs o, E k) (hk : kindA P o.op ≠ .act) {QQ : Exit → Act → World → Prop} {K : Act → World → Prop}
    (hK : ∀ U' OB' envS' ι' a' w', Inv P ops M ord nt base B env0 ι0 h0 w0 (fun b => E b ∨ b = i) pre rest env h snaps U' OB' envS' ι' a' w' → K a' w') : wpOp P ops QQ i K a w := by
  have hmask := mask_of_direct hP hI.closed ho hd
  obtain ⟨x, older, hsn⟩ := hh
  obtain ⟨⟨v, ob, hval⟩, hlt⟩ := look hP hI.closed ho hk hi hmask rest pre env h snaps U hI.ord hir (fun _ _ => rfl) hI.canon hI.acts hI.recs hv [] x h older hsn (by simp)
  have hseen : Seen ops M env0 U i o envS := hI.real.seen hP.slots ho hi hmask hI.closed
  have hev := hval envS hseen
  have hio : i < ops.size := (Array.getElem?_eq_some_iff.1 ho).1
  have hself : (M.getD i 0).testBit i = false := by
    cases hb : (M.getD i 0).testBit i with
    | false => rfl
    | true => exact absurd (hmask i hb) hi
  have hnx := hI.next
  obtain ⟨ub1, ub2⟩ := hI.unborn i hio hi
  obtain ⟨envS', hput⟩ := put_some hlt envS v
  have fin : ∀ (ι' : Inj) (v' : Value) (w' : World), ι.le ι' → VRel ι' v v' → R B ι' h w'.heap → Step ι0 h0 w0 ι' h w' →
      (∀ k ∈ rest, E k → ∀ ob, OB k = some ob → Pend w0.heap.size base ι' h w'.heap k ob) → (∀ ob', ob = some ob' → Pend w0.heap.size base ι' h w'.heap i ob') →
      (∀ k, k ≠ i → ι' (base + k) = ι (base + k)) → (∀ ob', ob = some ob' → ∀ li, ι' (base + i) = some li → ∀ k ∈ rest, E k → ∀ ok lk, OB k = some ok → ι (base + k) = some lk → lk.block ≠ li.block) → K (a.put o.dst v') w' := by
    intro ι' v' w' hle hvr hR' hS' hp1 hp2 hsame hsp
    refine hK (upd U i v) (upd OB i ob) envS' ι' (a.put o.dst v') w' ?_
    exact
      { ord := hI.ord
        preE := fun b hb => .inl (hI.preE b hb)
        closed := fun m hm b hb => by
          rcases hm with hm | rfl
          · exact .inl (hI.closed m hm b hb)
          · exact .inl (hmask b hb)
        acts := fun k hkr x hx hkx hE => by
          rcases hE with hE | rfl
          · exact hI.acts k hkr x hx hkx hE
          · rw [ho] at hx; cases hx; exact hk hkx
        canon := hI.canon.congr fun m hm => upd_ne (fun e => hi (by rw [← e]; exact hI.preE m hm))
        real := hI.real.put hP.slots ho hi hput
        envR := (hI.envR.mono hle).put hvr hput
        defers := by rw [put_defers]; exact hI.defers
        recs := fun k hkr hE => by
          by_cases e : k = i
          · subst e
            intro x2 hx2
            rw [ho] at hx2; cases hx2
            refine ⟨[], x, h, older, hsn, by simp, fun env2 he2 => ?_⟩
            rw [upd_same, upd_same]
            exact hval env2 (he2.congr fun m hm => (upd_ne (fun e => by subst e; rw [hself] at hm; cases hm)).symm)
          · have hE' : E k := by rcases hE with hE | hE
                                 · exact hE
                                 · exact absurd hE e
            refine (hI.recs k hkr hE').congr ?_ (upd_ne e) (upd_ne e)
            intro m hm
            exact (upd_ne (fun e2 => hi (by rw [← e2]; exact hI.closed k hE' m hm))).symm
        mem := hR'
        pend := fun k hkr hE ob' hob' => by
          by_cases e : k = i
          · subst e; rw [upd_same] at hob'; exact hp2 ob' hob'
          · rw [upd_ne e] at hob'
            have hE' : E k := by rcases hE with hE | hE
                                 · exact hE
                                 · exact absurd hE e
            exact hp1 k hkr hE' ob' hob'
        sep := fun k hkr j hjr hkj hEk hEj ok oj hok hoj lk lj hlk hlj => by
          by_cases ek : k = i
          · subst ek
            rw [upd_same] at hok
            have hjk : j ≠ k := fun e => hkj e.symm
            rw [upd_ne hjk] at hoj
            have hEj' : E j := by rcases hEj with hE | hE
                                  · exact hE
                                  · exact absurd hE hjk
            rw [hsame j hjk] at hlj
            exact (hsp ok hok lk hlk j hjr hEj' oj lj hoj hlj).symm
          · have hEk' : E k := by rcases hEk with hE | hE
                                  · exact hE
                                  · exact absurd hE ek
            rw [upd_ne ek] at hok
            rw [hsame k ek] at hlk
            by_cases ej : j = i
            · subst ej
              rw [upd_same] at hoj
              exact hsp oj hoj lj hlj k hkr hEk' ok lk hok hlk
            · have hEj' : E j := by rcases hEj with hE | hE
                                    · exact hE
                                    · exact absurd hE ej
              rw [upd_ne ej] at hoj
              rw [hsame j ej] at hlj
              exact hI.sep k hkr j hjr hkj hEk' hEj' ok oj hok hoj lk lj hlk hlj
        step := hS'
        next := hI.next
        base0 := hI.base0
        size0 := hI.size0
        small := fun m hm => by
          rcases hm with hm | rfl
          · exact hI.small m hm
          · exact hio
        unborn := fun k hks hkE => by
          have hki : k ≠ i := fun e => hkE (.inr e)
          rw [hsame k hki]
          exact hI.unborn k hks fun e => hkE (.inl e) }
  unfold wpOp
  simp only [ho]
  unfold evalA at hev
  cases hw : wantedA ops envS o with
  | none => rw [hw] at hev; cases hev
  | some b =>
    rw [hw] at hev
    rw [wanted_sound hI.envR hw]
    cases b with
    | false =>
      simp only [Option.some.injEq, Prod.mk.injEq] at hev
      obtain ⟨rfl, rfl⟩ := hev
      simp only [Bool.false_eq_true, if_false]
      exact fin ι undef w (Inj.le_refl ι) (tup_undef ι) hI.mem hI.step hI.pend (fun _ e => by cases e) (fun _ _ => rfl) (fun _ e => by cases e)
    | true =>
      simp only at hev
      simp only [if_true]
      refine .inl ?_
      cases hkk : kindA P o.op with
      | act => exact absurd hkk hk
      | rd =>
        rw [hkk] at hev
        simp only at hev
        cases hr : readA P envS h o.op with
        | none => rw [hr] at hev; cases hev
        | some v1 =>
          rw [hr] at hev
          simp only [Option.some.injEq, Prod.mk.injEq] at hev
          obtain ⟨rfl, rfl⟩ := hev
          obtain ⟨v', g1, g2⟩ := read_sound (P := P) hI.mem hI.envR hr
          unfold Oper.wp
          rw [g1]
          exact fin ι v' w (Inj.le_refl ι) g2 hI.mem hI.step hI.pend (fun _ e => by cases e) (fun _ _ => rfl) (fun _ e => by cases e)
      | nw =>
        rw [hkk] at hev
        simp only at hev
        cases hr : newA P envS o.op with
        | none => rw [hr] at hev; cases hev
        | some p =>
          obtain ⟨ob1, vf⟩ := p
          rw [hr] at hev
          simp only [Option.some.injEq, Prod.mk.injEq] at hev
          obtain ⟨rfl, rfl⟩ := hev
          obtain ⟨v', obj, w1, g1, g2, l, hl, hown, g3⟩ := new_sound (P := P) (w := w) hI.envR hr
          unfold Oper.wp
          rw [g1]
          have hw1 : w1.heap = w.heap := by rcases g2 with rfl | rfl <;> rfl
          have hws : w1.os = w.os ∧ w1.tape = w.tape ∧ w1.output = w.output := by rcases g2 with rfl | rfl <;> exact ⟨rfl, rfl, rfl⟩
          have hheap : (w1.alloc obj).heap = w.heap.push obj := by show w1.heap.push obj = _; rw [hw1]
          have hle : ι.le (ι.add (base + i) l) := Inj.le_add ub1
          have hsz := hI.step.size
          have hlive : ∀ j oj, h.get j = some oj → oj.isDead = false → ∃ lj, ι j = some lj ∧ lj.block < w.heap.size := fun j oj hj hd => by
            obtain ⟨lj, q1, q2, _⟩ := hI.mem.obj j oj hj hd
            exact ⟨lj, q1, q2⟩
          refine fin (ι.add (base + i) l) v' (w1.alloc obj) hle (g3 _ _ hle (Inj.add_same _ _ _)).1 ?_ ?_ ?_ ?_ ?_ ?_
          · rw [hheap]; exact (hI.mem.push obj).place (by omega) ub1
          · refine ⟨fun id hid => ?_, hI.step.next, ?_, ?_, ?_, hI.step.free, hI.step.ro, ?_, ?_, ?_⟩
            · have := hI.base0
              rw [Inj.add_ne (by omega)]; exact hI.step.same id hid
            · rw [hheap]; simp; omega
            · intro b hb hn
              rw [hheap, Array.getElem?_push, if_neg (by omega)]
              exact hI.step.frame b hb hn
            · intro b hb hown2
              exact hI.step.own b hb (Own.place (h := h) hI.mem ub1 hown2)
            · show w1.os = _; rw [hws.1]; exact hI.step.os
            · show w1.tape = _; rw [hws.2.1]; exact hI.step.tape
            · show w1.output = _; rw [hws.2.2]; exact hI.step.output
          · intro k hkr hkE obk hobk
            obtain ⟨lk, q1, q2, q3, q4, q5, q6, q7⟩ := hI.pend k hkr hkE obk hobk
            have hki : k ≠ i := fun e => hi (by rw [← e]; exact hkE)
            rw [hheap]
            refine ⟨lk, by rw [Inj.add_ne (by omega)]; exact q1, q2, by simp; omega, q4, ?_, ?_, q7⟩
            · intro ι'' h'' hp'' hle'' hb
              refine q5 ι'' h'' hp'' (Inj.le_trans hle hle'') ?_
              rw [hb, Array.getElem?_push, if_neg (by omega)]
            · intro j oj lj hj hd hlj
              by_cases e : j = base + i
              · subst e; rw [ub2] at hj; cases hj
              · rw [Inj.add_ne e] at hlj; exact q6 j oj lj hj hd hlj
          · intro ob' e
            simp only [Option.some.injEq] at e
            subst e
            rw [hheap]
            refine ⟨l, Inj.add_same _ _ _, by omega, by simp; omega, hown, ?_, ?_, ub2⟩
            · intro ι'' h'' hp'' hle'' hb
              refine (g3 ι'' (base + i) (Inj.le_trans hle hle'') (hle'' _ _ (Inj.add_same _ _ _))).2 h'' hp'' ?_
              rw [← hl, hb, hl]; simp
            · intro j oj lj hj hd hlj
              by_cases e : j = base + i
              · subst e; rw [ub2] at hj; cases hj
              · rw [Inj.add_ne e] at hlj
                obtain ⟨lj', q1, q2⟩ := hlive j oj hj hd
                rw [hlj] at q1; cases q1
                omega
          · intro k hki
            rw [Inj.add_ne (by omega)]
          · intro ob' _ li hli k hkr hkE ok lk hok hlk
            rw [Inj.add_same] at hli; cases hli
            obtain ⟨lk', q1, q2, q3, _⟩ := hI.pend k hkr hkE ok hok
            rw [hlk] at q1; cases q1
            omega

/-- An operation that acts, in its turn. -/
theorem Inv.acting (hP : PlanOk P ops M ord) (hN : NoOwn P) {call : CallF} (hC : CallOk P B call) {Q : Env × Heap → Prop} {E : Nat → Prop} {pre rest : List Nat} {env : Env} {h : Heap} {snaps : List (Nat × Heap)} {U : Nat → AV} {OB : Nat → Option AObj} {envS : Env}
    {ι : Inj} {a : Act} {w : World} (hI : Inv P ops M ord nt base B env0 ι0 h0 w0 E pre rest env h snaps U OB envS ι a w) (hv : (drawA P call nt ops M base rest env h snaps).all Q)
    {i : Nat} {o : Oper} (ho : ops[i]? = some o) (hi : ¬ E i) (hir : i ∈ rest) (hd : ∀ k ∈ directs o, E k) (hk : kindA P o.op = .act) {QQ : Exit → Act → World → Prop} {K : Act → World → Prop}
    (hK : ∀ pre' rest' env' h' snaps' U' OB' envS' ι' a' w', Inv P ops M ord nt base B env0 ι0 h0 w0 (fun b => E b ∨ b = i) pre' rest' env' h' snaps' U' OB' envS' ι' a' w' → (∃ x older, snaps' = (x, h') :: older) →
      (drawA P call nt ops M base rest' env' h' snaps').all Q → K a' w') : wpOp P ops QQ i K a w := by
  have hmask := mask_of_direct hP hI.closed ho hd
  obtain ⟨W, tail, rfl⟩ := List.append_of_mem hir
  obtain ⟨o', hq⟩ := hP.at_ (pre ++ W) i tail (by rw [hI.ord]; simp)
  have := hq.get.symm.trans ho
  cases this
  have hWE : ∀ k ∈ W, E k := fun k hkW => hmask k (hq.act hk k (by simp [hkW]))
  have hWk : ∀ k ∈ W, ∀ x, ops[k]? = some x → kindA P x.op ≠ .act := fun k hkW x hx hkx => hI.acts k (by simp [hkW]) x hx hkx (hWE k hkW)
  obtain ⟨env1, h1, hI1, hv1⟩ := hI.pass hP W pre (i :: tail) env h hWE hWk hv
  clear hv hI
  have hio : i < ops.size := (Array.getElem?_eq_some_iff.1 ho).1
  have hseenS : Seen ops M env0 U i o envS := hI1.real.seen hP.slots ho hi hmask hI1.closed
  have hseenC : Seen ops M env0 U i o env1 := hP.seen hI1.ord ho hI1.canon
  have hagree := hseenC.agree hseenS
  have hntail : i ∉ tail := by
    intro hm
    obtain ⟨p1, p2, e⟩ := List.append_of_mem hm
    obtain ⟨o', q'⟩ := hP.at_ (pre ++ W ++ i :: p1) i p2 (by rw [hI1.ord, e]; simp)
    exact q'.new (by simp)
  have hnpre : i ∉ pre ++ W := hq.new
  have hord : ord = (pre ++ W ++ [i]) ++ tail := by rw [hI1.ord]; simp
  have fin : ∀ v env2 h2 ι2 v' w2, putO nt env1 o.dst v = some env2 → (drawA P call nt ops M base tail env2 h2 ((i + 1, h2) :: snaps)).all Q → VRel ι2 v v' → R B ι2 h2 w2.heap → Step ι h1 w ι2 h2 w2 → K (a.put o.dst v') w2 := by
    intro v env2 h2 ι2 v' w2 hp hv2 hvr hR2 hS
    obtain ⟨envS', hput⟩ := put_some (put_lt hp) envS v
    have hsub : ∀ k, k ∈ tail → k ∈ i :: tail := fun k hk => by simp [hk]
    have hEk : ∀ k ∈ tail, (E k ∨ k = i) → E k ∧ k ≠ i := fun k hkt hE => by
      have hne : k ≠ i := fun e => hntail (by rw [← e]; exact hkt)
      exact ⟨hE.resolve_right hne, hne⟩
    have hnx := hI1.next
    refine hK (pre ++ W ++ [i]) tail env2 h2 ((i + 1, h2) :: snaps) (upd U i v) OB envS' ι2 (a.put o.dst v') w2 ?_ ⟨_, _, rfl⟩ hv2
    exact
      { ord := hord
        preE := fun b hb => by
          rcases List.mem_append.1 hb with hb | hb
          · exact .inl (hI1.preE b hb)
          · simp at hb; exact .inr hb
        closed := fun m hm b hb => by
          rcases hm with hm | rfl
          · exact .inl (hI1.closed m hm b hb)
          · exact .inl (hmask b hb)
        acts := fun k hkt x hx hkx hE => hI1.acts k (hsub k hkt) x hx hkx (hEk k hkt hE).1
        canon := (hI1.canon.put hP.slots ho hnpre hp).iff fun b => by simp [or_assoc]
        real := hI1.real.put hP.slots ho hi hput
        envR := (hI1.envR.mono (hS.le hI1.mem)).put hvr hput
        defers := by rw [put_defers]; exact hI1.defers
        recs := fun k hkt hE => by
          obtain ⟨hE', hne⟩ := hEk k hkt hE
          have hki : (M.getD k 0).testBit i = false := by
            cases hb : (M.getD k 0).testBit i with
            | false => rfl
            | true => exact absurd (hI1.closed k hE' i hb) hi
          refine ((hI1.recs k (hsub k hkt) hE').push hki).congr ?_ (upd_ne hne) rfl
          intro m hm
          exact (upd_ne (fun e2 => by subst e2; rw [hki] at hm; cases hm)).symm
        mem := hR2
        pend := fun k hkt hE ob hob => by
          obtain ⟨hE', hne⟩ := hEk k hkt hE
          have := hI1.small k hE'
          exact Pend.step hI1.mem hR2 hS (by omega) (hI1.pend k (hsub k hkt) hE' ob hob)
        sep := fun k hkt j hjt hkj hE1 hE2 ok oj hok hoj lk lj hlk hlj => by
          obtain ⟨hE1', _⟩ := hEk k hkt hE1
          obtain ⟨hE2', _⟩ := hEk j hjt hE2
          have s1 := hI1.small k hE1'
          have s2 := hI1.small j hE2'
          rw [hS.same _ (by omega)] at hlk hlj
          exact hI1.sep k (hsub k hkt) j (hsub j hjt) hkj hE1' hE2' ok oj hok hoj lk lj hlk hlj
        step := hI1.step.trans hS
        next := Nat.le_trans hI1.next hS.next
        base0 := hI1.base0
        size0 := hI1.size0
        small := fun m hm => by
          rcases hm with hm | rfl
          · exact hI1.small m hm
          · exact hio
        unborn := fun k hks hkE => by
          obtain ⟨u1, u2⟩ := hI1.unborn k hks fun e => hkE (.inl e)
          exact ⟨(hS.same _ (by omega)).trans u1, hS.free _ (by omega) u2⟩ }
  unfold wpOp
  simp only [ho]
  rcases act_step ho hk hv1 with ⟨hw, env2, hp, hv2⟩ | ⟨hw, hall⟩
  · rw [wantedA_congr hagree] at hw
    rw [wanted_sound hI1.envR hw]
    simp only [Bool.false_eq_true, if_false]
    exact fin _ env2 h1 ι undef w hp hv2 (tup_undef ι) hI1.mem (Step.refl ι h1 w)
  · rw [wantedA_congr hagree] at hw
    rw [wanted_sound hI1.envR hw]
    simp only [if_true]
    rw [actA_congr (looks_operands hagree)] at hall
    refine .inl (act_wp hN hC hI1.mem hI1.envR hall ?_)
    rintro v h2 ι2 v' w2 ⟨env2, hp, hv2⟩ hvr hR2 hS
    exact fin v env2 h2 ι2 v' w2 hp hv2 hvr hR2 hS
end
end Go.Am
end
noncomputable section
namespace Go.Am
open Go.RowKit

section
variable {P : Program} {ops : Array Oper} {M : List Nat} {env0 : Env} {nt base : Nat} {B : Floor} {ord : List Nat} {ι0 : Inj} {h0 : Heap} {w0 : World}

/-- Those that are not listed yet. -/
def unlisted (N : Nat) (listed : Array Bool) : List Nat := (List.range N).filter fun b => !listed.getD b true

theorem unlisted_set {N : Nat} {listed : Array Bool} (hs : listed.size = N) {i : Nat} (hi : i ∈ unlisted N listed) : (unlisted N (listed.setIfInBounds i true)).length + 1 = (unlisted N listed).length := by
  have hnd : (unlisted N listed).Nodup := List.Nodup.sublist List.filter_sublist List.nodup_range
  have : unlisted N (listed.setIfInBounds i true) = (unlisted N listed).erase i := by
    rw [hnd.erase_eq_filter]
    unfold unlisted
    rw [List.filter_filter]
    apply List.filter_congr
    intro b hb
    have hbN : b < listed.size := by rw [hs]; simpa using hb
    simp only [Array.getD_eq_getD_getElem?, Array.getElem?_setIfInBounds]
    by_cases e : i = b
    · subst e; simp [hbN]
    · simp [e, Ne.symm e, bne, beq_iff_eq]
  rw [this, List.length_erase_of_mem hi]
  have : 0 < (unlisted N listed).length := List.length_pos_of_mem hi
  omega

theorem any_wp (hP : PlanOk P ops M ord) (hN : NoOwn P) {call : CallF} (hC : CallOk P B call) {Q : Env × Heap → Prop} {QQ : Exit → Act → World → Prop}
    (hq : ∀ env' h' ι' a' w', Q (env', h') → R B ι' h' w'.heap → EnvRel ι' nt env' a'.tmps → a'.defers = [] → Step ι0 h0 w0 ι' h' w' → QQ .normal a' w') :
    ∀ (fuel : Nat) (listed : Array Bool) (pre rest : List Nat) (env : Env) (h : Heap) (snaps : List (Nat × Heap)) (U : Nat → AV) (OB : Nat → Option AObj) (envS : Env) (ι : Inj) (a : Act) (w : World),
      listed.size = ops.size → (unlisted ops.size listed).length = fuel → Inv P ops M ord nt base B env0 ι0 h0 w0 (fun b => listed.getD b false = true) pre rest env h snaps U OB envS ι a w →
      (∃ x older, snaps = (x, h) :: older) → (drawA P call nt ops M base rest env h snaps).all Q → wpAny P .any ops QQ fuel listed a w := by
  intro fuel
  induction fuel with
  | zero =>
    intro listed pre rest env h snaps U OB envS ι a w hs hf hI hh hv
    have hall : ∀ b, b < ops.size → listed.getD b false = true := by
      intro b hb
      have : b ∉ unlisted ops.size listed := by rw [List.eq_nil_of_length_eq_zero hf]; simp
      simp only [unlisted, List.mem_filter, List.mem_range, hb, true_and] at this
      rw [Array.getD_eq_getD_getElem?] at this ⊢
      have hlt : b < listed.size := by omega
      rw [Array.getElem?_eq_getElem hlt] at this ⊢
      simpa using this
    refine ⟨?_, ?_⟩
    · simp only [Region.ready]
      rw [List.filter_eq_nil_iff]
      intro b hb
      have hb' : b < ops.size := by simpa using hb
      have := hall b hb'
      rw [Array.getD_eq_getD_getElem?] at this
      rw [Array.getD_eq_getD_getElem?]
      have hlt : b < listed.size := by omega
      rw [Array.getElem?_eq_getElem hlt] at this ⊢
      simp at this
      simp [this]
    · have hWE : ∀ k ∈ rest, listed.getD k false = true := fun k hk => by
        obtain ⟨p1, p2, rfl⟩ := List.append_of_mem hk
        obtain ⟨o, q⟩ := hP.at_ (pre ++ p1) k p2 (by rw [hI.ord]; simp)
        exact hall k (Array.getElem?_eq_some_iff.1 q.get).1
      obtain ⟨env1, h1, hI1, hv1⟩ := Inv.pass (tail := []) hP rest pre env h (by simpa using hI) hWE (fun k hk x hx hkx => hI.acts k hk x hx hkx (hWE k hk)) (by simpa using hv)
      simp only [drawA, Res.all_ok] at hv1
      refine hq env1 h1 ι a w hv1 hI1.mem ⟨hI1.envR.size, fun t v ht => ?_⟩ hI1.defers hI1.step
      have hiff : ∀ b, listed.getD b false = true ↔ b ∈ pre ++ rest := fun b => by
        constructor
        · intro hb; rw [← hI.ord]; exact hP.all b (hI.small b hb)
        · intro hb
          rcases List.mem_append.1 hb with hb | hb
          · exact hI.preE b hb
          · exact hWE b hb
      rw [hI1.canon.same (hI1.real.iff hiff) t] at ht
      exact hI1.envR.rel t v ht
  | succ fuel ih =>
    intro listed pre rest env h snaps U OB envS ι a w hs hf hI hh hv
    have hready : ∀ i ∈ Region.ready .any ops listed, ∃ o, ops[i]? = some o ∧ ¬ (listed.getD i false = true) ∧ i ∈ unlisted ops.size listed ∧ ∀ k ∈ directs o, listed.getD k false = true := by
      intro i hi
      simp only [Region.ready, List.mem_filter, List.mem_range, Bool.and_eq_true] at hi
      obtain ⟨h1, h2, h3⟩ := hi
      have hlt : i < listed.size := by omega
      refine ⟨ops[i], Array.getElem?_eq_getElem h1, ?_, by simp only [unlisted, List.mem_filter, List.mem_range]; exact ⟨h1, h2⟩, ?_⟩
      · rw [Array.getD_eq_getD_getElem?, Array.getElem?_eq_getElem hlt] at h2 ⊢
        simpa using h2
      · rw [Array.getElem?_eq_getElem h1] at h3
        simp only [Option.map_some, Option.getD_some] at h3
        intro k hk
        simp only [directs, List.mem_map, List.mem_filter] at hk
        obtain ⟨e, ⟨he1, he2⟩, rfl⟩ := hk
        have := (Array.all_eq_true'.1 h3) e (by simpa using he1)
        rw [he2] at this
        simpa using this
    refine ⟨fun hnil => ?_, ?_⟩
    · exfalso
      -- the first in the order that isn't listed is free to run
      have hpos : 0 < (unlisted ops.size listed).length := by omega
      obtain ⟨i0, hi0⟩ := List.exists_mem_of_length_pos hpos
      simp only [unlisted, List.mem_filter, List.mem_range] at hi0
      have key : ∀ (l p : List Nat), ord = p ++ l → (∀ b ∈ p, listed.getD b false = true) → (∃ b ∈ l, listed.getD b true = false) → ∃ i, i ∈ Region.ready .any ops listed := by
        intro l
        induction l with
        | nil => intro p _ _ h; obtain ⟨b, hb, _⟩ := h; simp at hb
        | cons x l ihl =>
          intro p he hp hex
          obtain ⟨o, q⟩ := hP.at_ p x l he
          have hxs : x < ops.size := (Array.getElem?_eq_some_iff.1 q.get).1
          cases hx : listed.getD x true with
          | false =>
            refine ⟨x, ?_⟩
            simp only [Region.ready, List.mem_filter, List.mem_range]
            refine ⟨hxs, ?_⟩
            rw [hx, q.get]
            simp only [Bool.not_false, Bool.true_and, Option.map_some, Option.getD_some]
            rw [Array.all_eq_true']
            intro e he1
            cases hb : Region.binds .any e with
            | false => simp
            | true =>
              have : e.on ∈ directs o := by
                simp only [directs, List.mem_map, List.mem_filter]
                exact ⟨e, ⟨by simpa using he1, hb⟩, rfl⟩
              simp [hp _ (q.direct _ this)]
          | true =>
            refine ihl (p ++ [x]) (by rw [he]; simp) ?_ ?_
            · intro b hb
              rcases List.mem_append.1 hb with hb | hb
              · exact hp b hb
              · simp at hb; subst hb
                have hlt : b < listed.size := by omega
                rw [Array.getD_eq_getD_getElem?, Array.getElem?_eq_getElem hlt] at hx ⊢
                simpa using hx
            · obtain ⟨b, hb, hbf⟩ := hex
              rcases List.mem_cons.1 hb with rfl | hb
              · rw [hx] at hbf; cases hbf
              · exact ⟨b, hb, hbf⟩
      obtain ⟨i, hi⟩ := key ord [] rfl (by simp) ⟨i0, hP.all i0 hi0.1, by simpa using hi0.2⟩
      rw [hnil] at hi
      simp at hi
    · intro i hi
      obtain ⟨o, ho, hiE, hun, hd⟩ := hready i hi
      have hio : i < ops.size := (Array.getElem?_eq_some_iff.1 ho).1
      have hset : ∀ b, (listed.getD b false = true ∨ b = i) ↔ (listed.setIfInBounds i true).getD b false = true := by
        intro b
        simp only [Array.getD_eq_getD_getElem?, Array.getElem?_setIfInBounds]
        by_cases e : i = b
        · subst e
          have hlt : i < listed.size := by omega
          simp [hlt]
        · simp [e]
          intro h2; exact absurd h2.symm e
      have heq : (fun b => listed.getD b false = true ∨ b = i) = fun b => (listed.setIfInBounds i true).getD b false = true := funext fun b => propext (hset b)
      have hlen := unlisted_set hs hun
      have hir : i ∈ rest := by
        have := hP.all i hio
        rw [hI.ord] at this
        rcases List.mem_append.1 this with h1 | h1
        · exact absurd (hI.preE i h1) hiE
        · exact h1
      by_cases hk : kindA P o.op = .act
      · refine hI.acting hP hN hC hv ho hiE hir hd hk ?_
        intro pre' rest' env' h' snaps' U' OB' envS' ι' a' w' hI' hh' hv'
        rw [heq] at hI'
        exact ih _ pre' rest' env' h' snaps' U' OB' envS' ι' a' w' (by simpa using hs) (by omega) hI' hh' hv'
      · refine hI.early hP hh hv ho hiE hir hd hk ?_
        intro U' OB' envS' ι' a' w' hI'
        rw [heq] at hI'
        exact ih _ pre rest env h snaps U' OB' envS' ι' a' w' (by simpa using hs) (by omega) hI' hh hv

theorem region_draw (hN : NoOwn P) (hmix : P.follows .mixedOrders = true) {call : CallF} (hC : CallOk P B call) (nt : Nat) : RegionOk P B call nt true := by
  intro id ops env h ι a w Q QQ hR hE hD hv hq
  simp only [regionA, if_true] at hv
  split at hv
  · rename_i pl hpl
    have hP := planOf_ok hpl
    obtain ⟨w1, hw1⟩ : ∃ w1 : World, w1 = { w with drawn := w.drawn + 1 } := ⟨_, rfl⟩
    refine wp_region_any hmix ?_
    rw [← hw1]
    have hheap : w1.heap = w.heap := by rw [hw1]
    refine any_wp (ι0 := ι) (h0 := h) (w0 := w) (env0 := env) (base := h.next) (B := B) hP hN hC hq ops.size (Array.replicate ops.size false) [] pl.ord env _ _ (fun _ => .undef) (fun _ => none) env ι a w1 (by simp) ?_ ?_ ⟨_, _, rfl⟩ hv
    · have : unlisted ops.size (Array.replicate ops.size false) = List.range ops.size := by
        unfold unlisted
        rw [List.filter_eq_self]
        intro b hb
        have : b < ops.size := by simpa using hb
        simp [this]
      rw [this]; simp
    · have hno : ∀ m, ¬ ((Array.replicate ops.size false).getD m false = true) := by
        intro m
        rw [Array.getD_eq_getD_getElem?, Array.getElem?_replicate]
        split <;> simp
      exact
        { ord := rfl
          preE := fun b hb => by simp at hb
          closed := fun m hm => absurd hm (hno m)
          acts := fun i _ _ _ _ => hno i
          canon := ⟨fun m o t hm => by simp at hm, fun t _ => rfl⟩
          real := ⟨fun m o t hm => absurd hm (hno m), fun t _ => rfl⟩
          envR := hE
          defers := hD
          recs := fun i _ hi => absurd hi (hno i)
          mem := by rw [hheap]; exact hR.bump _ (by omega)
          pend := fun i _ hi => absurd hi (hno i)
          sep := fun i _ j _ _ hi => absurd hi (hno i)
          step := ⟨fun _ _ => rfl, by show h.next ≤ h.next + ops.size; omega, by rw [hheap]; exact Nat.le_refl _, fun b _ _ => by rw [hheap], fun b _ ho => ho, fun _ _ hn => hn, fun _ _ hg _ _ => hg, by rw [hw1], by rw [hw1], by rw [hw1]⟩
          next := Nat.le_refl _
          base0 := rfl
          size0 := hR.size
          small := fun m hm => absurd hm (hno m)
          unborn := fun i _ _ => ⟨(hR.fresh _ (by omega)).2, (hR.fresh _ (by omega)).1⟩ }
  · cases hv

/-- The machine's answers are the program's. -/
theorem callA_ok (hN : NoOwn P) (hmix : P.follows .mixedOrders = true) {I : Intr} (hI : IntrOk P B I) (n : Nat) : CallOk P B (callA P I n) :=
  call_ok hN hI (fun call hC nt => region_draw hN hmix hC nt) n
end
end Go.Am
end
