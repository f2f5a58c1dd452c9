/- Part of the proof of TellLines: its text AmSeat2. Conditions: none. -/
import Derived.Test.YtcaaedohfmdikaaGreatDoorAmLoose
import Derived.Test.YtcaaedohfmdikaaGreatDoorAmSorted
import Derived.Test.YtcaaedohfmdikaaGreatDoorAmFast
set_option linter.unusedSimpArgs false
set_option linter.unusedVariables false
open Go Go.Am Go.Proofs
namespace Go.Am

noncomputable def cloneI (args : List AV) (h : Heap) : Option (Res (AV × Heap)) :=
  match args with
  | [.ptr (some (t, off))] => match h.get t with
    | some (.cells els sz _ _ _) => match getC els sz off 1, getC els sz (off + 1) 1, getC els sz (off + 2) 1 with
      | some [.map (some m)], some [nx], some [qt] => match h.get m with
        | some (.map es _) => match cloneObs 193 h (h.next + 2) es with
          | some ts =>
            if (nx.cellOk && qt.cellOk && (AV.same nx nx && AV.same qt qt)) && (Nat.blt es.length 40 && es.all fun p => keyFits Tryz.prog 3 p.1 && AV.same p.1 p.1) then
              some (.ok (.ptr (some (h.next, 0)), cloneHeap 197 nx qt h es ts)) else none
          | none => none
        | _ => none
      | _, _, _ => none
    | _ => none
  | _ => none

theorem I0_225 (args : List AV) (h : Heap) : I0 225 args h = none := by simp [I0, extsOf]
theorem I0_306 (args : List AV) (h : Heap) : I0 306 args h = none := by simp [I0, extsOf]
theorem I0_349 (args : List AV) (h : Heap) : I0 349 args h = (extA .clone args h).map .ok := by simp [I0, extsOf]

theorem mclone0 (n : Nat) : MClone (callA Tryz.prog I0 (n + 2)) where
  none h := mclone_none I0 (n + 1) h (I0_306 _ _)
  some h r es ver hr := mclone_some I0 n h r es (I0_306 _ _) (by rw [I0_349]; simp [extA, hr])

theorem clone_res {I : Intr} {n : Nat} {B : Floor} (hC : CallOk Tryz.prog B (callA Tryz.prog I (n + 1))) (hM : MClone (callA Tryz.prog I n)) {ι : Inj} {w : World} {us : List Value} (t off m : Nat) (h : Heap) (es : List (AV × AV)) (ver : Nat) (nx qt : AV) (els : List (List AV)) (sz : Nat) (el : TypeId) (ro : Bool) (fz : Nat)
    (hR : R B ι h w.heap) (hA : F2 (VRel ι) [.ptr (some (t, off))] us) (hI : I 225 [.ptr (some (t, off))] h = none)
    (ht : h.get t = some (.cells els sz el ro fz)) (e0 : getC els sz off 1 = some [.map (some m)]) (e1 : getC els sz (off + 1) 1 = some [nx]) (e2 : getC els sz (off + 2) 1 = some [qt])
    (o1 : nx.cellOk = true) (o2 : qt.cellOk = true) (s1 : AV.same nx nx = true) (s2 : AV.same qt qt = true) (hm : h.get m = some (.map es ver)) (hmem : ∀ id o, h.get id = some o → id < h.next) (hn : es.length < n)
    (hobs : ∀ p ∈ es, ∃ d l b k ko, nodeA h p = some (d, l, b, k) ∧ kidsA h k = some ko) (hkey : ∀ p ∈ es, keyFits Tryz.prog 3 p.1 = true ∧ AV.same p.1 p.1 = true) (hpw : es.Pairwise fun p q => keyEq p.1 q.1 = some false) :
    CallRes Tryz.prog 225 us w (RetOk B ι h w fun o => ∃ u M D, CloneEnd 197 193 h es nx qt o.1 o.2 D u M) :=
  hC ι h w 225 _ us _ hR hA (clone_fn I n t off m hM h es ver nx qt els sz el ro fz hI ht e0 e1 e2 o1 o2 s1 s2 hm hmem hn hobs hkey hpw)

theorem goes_cell {B : Floor} {ι ι1 ι2 : Inj} {h : Heap} {hp : Array Obj} (hR : R B ι h hp) {t : Nat} {els : List (List AV)} {sz : Nat} {el : TypeId} {ro : Bool} {fz : Nat} (ht : h.get t = some (.cells els sz el ro fz)) {off : Nat} {y : AV} (hg : getC els sz off 1 = some [y]) (h1 : ι.le ι1) (h2 : ι.le ι2) : Goes ι1 ι2 y y := by
  obtain ⟨lx, hlx, _, cs, fr, k1, k2, k3, k4, k5, k6, k7, k8, k9⟩ := hR.obj t _ ht rfl
  intro v hv
  obtain ⟨q1, q2⟩ := getC_spec k2 k3 hg
  have : y ∈ els.flatten := by
    have : y ∈ (els.flatten.drop off).take 1 := by rw [← q2]; simp
    exact List.mem_of_mem_drop (List.mem_of_mem_take this)
  obtain ⟨u, _, hu⟩ := k8.mem this
  exact VRel.swap h1 h2 hu hv

theorem clone_ok {B : Floor} {ι : Inj} {h : Heap} {w : World} {args : List AV} {us : List Value} {r : Res (AV × Heap)} {Q : AV × Heap → Prop} (hr : cloneI args h = some r) (hR : R B ι h w.heap) (hA : F2 (VRel ι) args us) (hv : r.all Q) :
    CallRes Tryz.prog 225 us w (RetOk B ι h w Q) := by
  unfold cloneI at hr
  split at hr
  rotate_left
  · cases hr
  rename_i t off
  split at hr
  rotate_left
  · cases hr
  rename_i els sz el ro fz ht
  split at hr
  rotate_left
  · cases hr
  rename_i m nx qt e0 e1 e2
  split at hr
  rotate_left
  · cases hr
  rename_i es ver hm
  split at hr
  rotate_left
  · cases hr
  rename_i ts hts
  split at hr
  rotate_left
  · cases hr
  rename_i hc
  simp only [Option.some.injEq] at hr; subst hr
  simp only [Bool.and_eq_true, List.all_eq_true] at hc
  obtain ⟨⟨⟨o1, o2⟩, s1, s2⟩, hlen, hkey⟩ := hc
  have hlen : es.length < 40 := by simpa [Nat.blt_eq] using hlen
  have hmem : ∀ id o, h.get id = some o → id < h.next := by
    intro id o hg
    rcases Nat.lt_or_ge id h.next with h1 | h1
    · exact h1
    · rw [(hR.fresh id h1).1] at hg; cases hg
  have hpw : es.Pairwise fun p q => keyEq p.1 q.1 = some false := by
    obtain ⟨l, _, _, res, clock, _, hmr⟩ := hR.obj m _ hm rfl
    exact hmr.keys
  obtain ⟨n, hn⟩ : ∃ n, n = 38 := ⟨_, rfl⟩
  have h1 := I0_225 [.ptr (some (t, off))] h
  have h2 : es.length < n + 2 := by omega
  have base := clone_res (call0 (n + 2 + 1)) (mclone0 n) t off m h es ver nx qt els sz el ro fz hR hA h1 ht e0 e1 e2 o1 o2 s1 s2 hm hmem h2 (obs_each hts) hkey hpw
  refine base.mono ?_
  intro e w' he
  cases e with
  | returned v' =>
    obtain ⟨v, h', ι', ⟨u, M, D, hce⟩, k1, k2, k3⟩ := he
    have hle := k3.le hR
    obtain ⟨ι2, g1, g2, g3⟩ := clone_recast hR k2 k3 hce hts hpw (fun ι2 h2 => ⟨goes_cell hR ht e1 hle h2, goes_cell hR ht e2 hle h2⟩) k1
    exact ⟨_, _, ι2, hv, g1, g2, g3⟩
  | _ => exact he

/-- All contracts of this seat. -/
noncomputable def I1 : Intr := fun f args h =>
  if f = 225 then cloneI args h else if f = 304 then usedI args h else if f = 224 then looseG args h else if f = 305 then (sortIntA args h).map .ok else
  if f = 45 then (sortedA itersOf 9 args h).map .ok else
  match keysNo f with
  | some (g, T) => (keysA g T args h).map .ok
  | none => I0 f args h

theorem I1_ok (B : Floor) : IntrOk Tryz.prog B I1 := by
  intro ι h w f args us r Q hr hR hA hv
  unfold I1 at hr
  split at hr
  · rename_i e; subst e; exact clone_ok hr hR hA hv
  split at hr
  · rename_i e; subst e; exact used_ok hr hR hA hv
  split at hr
  · rename_i e; subst e; exact looseG_ok hr hR hA hv
  split at hr
  · rename_i e; subst e
    obtain ⟨p, hp, rfl⟩ := Option.map_eq_some_iff.1 hr
    obtain ⟨v, h'⟩ := p
    exact sortInt_sound sortIntAt305 hR hA hp hv
  split at hr
  · rename_i e; subst e
    obtain ⟨p, hp, rfl⟩ := Option.map_eq_some_iff.1 hr
    obtain ⟨v, h'⟩ := p
    exact sorted_sound (fun g T hg => itersOf_at hg) hR hA hp hv
  split at hr
  · rename_i g T hk
    obtain ⟨p, hp, rfl⟩ := Option.map_eq_some_iff.1 hr
    obtain ⟨v, h'⟩ := p
    exact keys_sound (keysNo_at hk) hR hA hp hv
  · exact I0_ok B ι h w f args us r Q hr hR hA hv

/-- The same, by the function's number first. -/
noncomputable def J1 (f : FuncId) : Option IntrF :=
  if f = 225 then some ⟨cloneI⟩ else if f = 304 then some ⟨usedI⟩ else if f = 224 then some ⟨looseG⟩ else if f = 305 then some ⟨fun args h => (sortIntA args h).map .ok⟩ else
  if f = 45 then some ⟨fun args h => (sortedA itersOf 9 args h).map .ok⟩ else
  match keysNo f with
  | some (g, T) => some ⟨fun args h => (keysA g T args h).map .ok⟩
  | none => match extsOf f with
    | some e => some ⟨fun args h => (extA e args h).map .ok⟩
    | none => none

theorem J1_eq (f : FuncId) (args : List AV) (h : Heap) : I1 f args h = match J1 f with
    | some ⟨g⟩ => g args h
    | none => none := by
  unfold I1 J1
  split
  · rfl
  split
  · rfl
  split
  · rfl
  split
  · rfl
  split
  · rfl
  split
  · rename_i g T hk; simp only [hk]
  · rename_i hk
    simp only [hk, I0]
    cases extsOf f <;> rfl

theorem callB1 (n : Nat) : callB Tryz.prog J1 n = callA Tryz.prog I1 n := callB_eq Tryz.prog J1_eq n

theorem call1 {B : Floor} (n : Nat) : CallOk Tryz.prog B (callA Tryz.prog I1 n) := callA_ok noOwn mixed (I1_ok B) n
end Go.Am
