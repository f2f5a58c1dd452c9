/- Part of the proof of TellLines: its text AmSeat. Conditions: none. -/
import Derived.Test.YtcaaedohfmdikaaGreatDoorAmTree2
set_option linter.unusedSimpArgs false
set_option linter.unusedVariables false
open Go Go.Am Go.Proofs
namespace Go.Am
theorem ext_at {P : Program} {f : FuncId} {fn : Func} {e : Ext} (hf : P.funcs[f]? = some fn) (hname : (fn.name == "runtime.NumGoroutine") = false)
    (hb : fn.body.isNone = true) (hn : Extern.findNext fn = none) (he : Extern.find fn = some (semOf e)) (hx : match (generalizing := false) e with | .makeNoZero t e => P.underlying t = some (.slice e) | _ => True) : ExtAt P f e :=
  ⟨fun us w => run_callFunc_extern hf hname hb hn he us w, hx⟩
theorem ext_clone : ExtAt Tryz.prog 349 .clone := ext_at Tryz.func349 (by kernel_rfl) (by kernel_rfl) (by kernel_rfl) (by kernel_rfl) trivial
theorem ext_index : ExtAt Tryz.prog 335 .indexByte := ext_at Tryz.func335 (by kernel_rfl) (by kernel_rfl) (by kernel_rfl) (by kernel_rfl) trivial
theorem ext_count : ExtAt Tryz.prog 277 .count := ext_at Tryz.func277 (by kernel_rfl) (by kernel_rfl) (by kernel_rfl) (by kernel_rfl) trivial
theorem ext_escape : ExtAt Tryz.prog 211 .noEscape := ext_at Tryz.func211 (by kernel_rfl) (by kernel_rfl) (by kernel_rfl) (by kernel_rfl) trivial
noncomputable def mzT : TypeId := (Tryz.f293.resultTypes[0]?).getD 0
noncomputable def mzE : TypeId := match Tryz.prog.underlying mzT with | some (.slice e) => e | _ => 0
theorem ext_zero : ExtAt Tryz.prog 293 (.makeNoZero mzT mzE) := ext_at Tryz.func293 (by kernel_rfl) (by kernel_rfl) (by kernel_rfl) (by kernel_rfl) (show Tryz.prog.underlying mzT = some (.slice mzE) by kernel_rfl)
theorem mixed : Tryz.prog.follows .mixedOrders = true := by kernel_rfl
theorem noOwn : NoOwn Tryz.prog := by
  have h : (Tryz.prog.funcs.toList.all fun fn => !(fn.name == "runtime.NumGoroutine")) = true := by kernel_rfl
  intro f fn hf
  have hm : fn ∈ Tryz.prog.funcs.toList := by simpa using Array.mem_of_getElem? hf
  have := List.all_eq_true.1 h fn hm
  simpa using this

/-- Functions without a body. -/
noncomputable def extsOf (f : FuncId) : Option Ext :=
  if f = 349 then some .clone else if f = 335 then some .indexByte else if f = 277 then some .count else if f = 211 then some .noEscape else if f = 293 then some (.makeNoZero mzT mzE) else none

theorem extsOf_at {f : FuncId} {e : Ext} (h : extsOf f = some e) : ExtAt Tryz.prog f e := by
  unfold extsOf at h
  split at h
  · rename_i hf; subst hf; cases h; exact ext_clone
  split at h
  · rename_i hf; subst hf; cases h; exact ext_index
  split at h
  · rename_i hf; subst hf; cases h; exact ext_count
  split at h
  · rename_i hf; subst hf; cases h; exact ext_escape
  split at h
  · rename_i hf; subst hf; cases h; exact ext_zero
  · cases h

noncomputable def I0 : Intr := fun f args h => match extsOf f with
  | some e => (extA e args h).map .ok
  | none => none

theorem I0_ok (B : Floor) : IntrOk Tryz.prog B I0 := by
  intro ι h w f args us r Q hr hR hA hv
  unfold I0 at hr
  split at hr
  · rename_i e he
    obtain ⟨p, hp, rfl⟩ := Option.map_eq_some_iff.1 hr
    obtain ⟨v, h'⟩ := p
    exact ext_sound (extsOf_at he) hR hA hp hv
  · cases hr

theorem call0 {B : Floor} (n : Nat) : CallOk Tryz.prog B (callA Tryz.prog I0 n) := callA_ok noOwn mixed (I0_ok B) n

/-! ### Used and Loose -/
noncomputable def dataLenA (h : Heap) (p : AV × AV) : Option Nat :=
  match p.2 with
  | .ptr (some (x, xo)) => match h.get x with
    | some (.cells els sz _ _ _) => match getC els sz (xo + 2) 1 with
      | some [.slice _ n _] => some n
      | _ => none
    | _ => none
  | _ => none

theorem dataLenA_spec {h : Heap} {p : AV × AV} {n : Nat} (hd : dataLenA h p = some n) : DataLen h p n := by
  unfold dataLenA at hd
  split at hd
  · rename_i x xo hp
    split at hd
    · rename_i els sz el ro fz hx
      split at hd
      · rename_i a k c hg
        simp only [Option.some.injEq] at hd; subst hd
        exact ⟨x, xo, els, sz, el, ro, fz, a, c, hp, hx, hg⟩
      · cases hd
    · cases hd
  · cases hd

noncomputable def linkedA (h : Heap) (p : AV × AV) : Bool :=
  match p.2 with
  | .ptr (some (x, xo)) => match h.get x with
    | some (.cells els sz _ _ _) => match getC els sz (xo + 1) 1 with
      | some [.int .i64 k] => k != 0
      | _ => false
    | _ => false
  | _ => false

theorem linkedA_spec {h : Heap} {p : AV × AV} (hd : linkedA h p = true) : Linked h p := by
  unfold linkedA at hd
  split at hd
  · rename_i x xo hp
    split at hd
    · rename_i els sz el ro fz hx
      split at hd
      · rename_i k hg
        exact ⟨x, xo, els, sz, el, ro, fz, k, hp, hx, hg, by simpa using hd⟩
      · cases hd
    · cases hd
  · cases hd

/-- A tree's nodes. -/
noncomputable def nodesA (h : Heap) (v : AV) : Option (List (AV × AV)) :=
  match v with
  | .ptr (some (t, off)) => match loadA Tryz.prog 195 (.ptr (some (t, off))) h with
    | some (.map (some m)) => match h.get m with
      | some (.map es _) => if es.length < 40 then some es else none
      | _ => none
    | _ => none
  | _ => none

theorem nodesA_spec {h : Heap} {v : AV} {es : List (AV × AV)} (hn : nodesA h v = some es) :
    ∃ t off m ver, v = .ptr (some (t, off)) ∧ loadA Tryz.prog 195 (.ptr (some (t, off))) h = some (.map (some m)) ∧ h.get m = some (.map es ver) ∧ es.length < 40 := by
  unfold nodesA at hn
  split at hn
  · rename_i t off
    split at hn
    · rename_i m hl
      split at hn
      · rename_i es' ver hm
        split at hn
        · rename_i hlen
          simp only [Option.some.injEq] at hn; subst hn
          exact ⟨t, off, m, ver, rfl, hl, hm, hlen⟩
        · cases hn
      · cases hn
    · cases hn
  · cases hn

noncomputable def usedI (args : List AV) (h : Heap) : Option (Res (AV × Heap)) :=
  match args with
  | [v] => match nodesA h v with
    | some es =>
      let s := (es.map fun p => (dataLenA h p).getD 0).sum
      if (es.all fun p => (dataLenA h p).isSome) && Nat.blt s (2 ^ 62) then some (.ok (.int .i64 (s : Nat), h.new .dead)) else none
    | none => none
  | _ => none

noncomputable def looseI (args : List AV) (h : Heap) : Option (Res (AV × Heap)) :=
  match args with
  | [v] => match nodesA h v with
    | some es => if es.all (linkedA h) then some (.ok (.slice none 0 (some 0), h.new .dead)) else none
    | none => none
  | _ => none

theorem I0_304 (args : List AV) (h : Heap) : I0 304 args h = none := by simp [I0, extsOf]
theorem I0_224 (args : List AV) (h : Heap) : I0 224 args h = none := by simp [I0, extsOf]

theorem via0 {n : Nat} {f : FuncId} {B : Floor} {ι : Inj} {h : Heap} {w : World} {args : List AV} {us : List Value} {Q : AV × Heap → Prop} (hv : (callA Tryz.prog I0 n f args h).all Q) (hR : R B ι h w.heap) (hA : F2 (VRel ι) args us) :
    CallRes Tryz.prog f us w (RetOk B ι h w Q) := call0 n ι h w f args us Q hR hA hv

theorem used_res {I : Intr} {n : Nat} {B : Floor} (hC : CallOk Tryz.prog B (callA Tryz.prog I (n + 1))) {ι : Inj} {w : World} {us : List Value} (t off m : Nat) (h : Heap) (es : List (AV × AV)) (ver : Nat) (L : AV × AV → Nat) (Q : AV × Heap → Prop)
    (hR : R B ι h w.heap) (hA : F2 (VRel ι) [.ptr (some (t, off))] us) (hI : I 304 [.ptr (some (t, off))] h = none) (hn : es.length < n)
    (hl : loadA Tryz.prog 195 (.ptr (some (t, off))) h = some (.map (some m))) (hm : h.get m = some (.map es ver)) (hmn : m ≠ h.next) (hnone : h.get h.next = none) (hd : ∀ p ∈ es, DataLen h p (L p)) (hs : ((es.map L).sum : Int) < 2 ^ 62)
    (hq : Q (.int .i64 ((es.map L).sum : Nat), h.new .dead)) : CallRes Tryz.prog 304 us w (RetOk B ι h w Q) :=
  hC ι h w 304 _ us Q hR hA (used_fn I n t off m h es ver L Q hI hn hl hm hmn hnone hd hs hq)

theorem loose_res {I : Intr} {n : Nat} {B : Floor} (hC : CallOk Tryz.prog B (callA Tryz.prog I (n + 1))) {ι : Inj} {w : World} {us : List Value} (t off m : Nat) (h : Heap) (es : List (AV × AV)) (ver : Nat) (Q : AV × Heap → Prop)
    (hR : R B ι h w.heap) (hA : F2 (VRel ι) [.ptr (some (t, off))] us) (hI : I 224 [.ptr (some (t, off))] h = none) (hn : es.length < n) (hsort : ∀ h, callA Tryz.prog I n 305 [.slice none 0 (some 0)] h = .ok (.tuple [], h))
    (hl : loadA Tryz.prog 195 (.ptr (some (t, off))) h = some (.map (some m))) (hm : h.get m = some (.map es ver)) (hmn : m ≠ h.next) (hnone : h.get h.next = none) (hd : ∀ p ∈ es, Linked h p)
    (hq : Q (.slice none 0 (some 0), h.new .dead)) : CallRes Tryz.prog 224 us w (RetOk B ι h w Q) :=
  hC ι h w 224 _ us Q hR hA (loose_fn I n t off m h es ver Q hI hn hsort hl hm hmn hnone hd hq)

theorem used_ok {B : Floor} {ι : Inj} {h : Heap} {w : World} {args : List AV} {us : List Value} {r : Res (AV × Heap)} {Q : AV × Heap → Prop} (hr : usedI args h = some r) (hR : R B ι h w.heap) (hA : F2 (VRel ι) args us) (hv : r.all Q) :
    CallRes Tryz.prog 304 us w (RetOk B ι h w Q) := by
  unfold usedI at hr
  split at hr
  · rename_i v
    split at hr
    · rename_i es hes
      obtain ⟨t, off, m, ver, rfl, hl, hm, hlen⟩ := nodesA_spec hes
      simp only at hr
      split at hr
      · rename_i hc
        rw [Bool.and_eq_true] at hc
        simp only [Option.some.injEq] at hr; subst hr
        have hnone := (hR.fresh h.next (Nat.le_refl _)).1
        have hs : (es.map fun p => (dataLenA h p).getD 0).sum < 2 ^ 62 := by simpa [Nat.blt_eq] using hc.2
        obtain ⟨n, hn⟩ : ∃ n, n = 40 := ⟨_, rfl⟩
        have hmn : m ≠ h.next := by rintro rfl; rw [hnone] at hm; cases hm
        have hd : ∀ p ∈ es, DataLen h p ((fun p => (dataLenA h p).getD 0) p) := by
          intro p hp
          obtain ⟨k, hk⟩ := Option.isSome_iff_exists.1 (List.all_eq_true.1 hc.1 p hp)
          have := dataLenA_spec hk
          simpa [hk] using this
        have h1 := I0_304 [.ptr (some (t, off))] h
        have h2 : es.length < n := by omega
        have h3 : (((es.map fun p => (dataLenA h p).getD 0).sum : Nat) : Int) < 2 ^ 62 := by omega
        exact used_res (call0 (n + 1)) t off m h es ver (fun p => (dataLenA h p).getD 0) Q hR hA h1 h2 hl hm hmn hnone hd h3 hv
      · cases hr
    · cases hr
  · cases hr

set_option maxRecDepth 1000000 in
theorem sort_nil0 (h : Heap) : callA Tryz.prog I0 40 305 [.slice none 0 (some 0)] h = .ok (.tuple [], h) := by kernel_rfl

theorem loose_ok {B : Floor} {ι : Inj} {h : Heap} {w : World} {args : List AV} {us : List Value} {r : Res (AV × Heap)} {Q : AV × Heap → Prop} (hr : looseI args h = some r) (hR : R B ι h w.heap) (hA : F2 (VRel ι) args us) (hv : r.all Q) :
    CallRes Tryz.prog 224 us w (RetOk B ι h w Q) := by
  unfold looseI at hr
  split at hr
  · rename_i v
    split at hr
    · rename_i es hes
      obtain ⟨t, off, m, ver, rfl, hl, hm, hlen⟩ := nodesA_spec hes
      split at hr
      · rename_i hc
        simp only [Option.some.injEq] at hr; subst hr
        have hnone := (hR.fresh h.next (Nat.le_refl _)).1
        obtain ⟨n, hn⟩ : ∃ n, n = 40 := ⟨_, rfl⟩
        have hsn : ∀ h, callA Tryz.prog I0 n 305 [.slice none 0 (some 0)] h = .ok (.tuple [], h) := by rw [hn]; exact sort_nil0
        have hmn : m ≠ h.next := by rintro rfl; rw [hnone] at hm; cases hm
        have h1 := I0_224 [.ptr (some (t, off))] h
        have h2 : es.length < n := by omega
        exact loose_res (call0 (n + 1)) t off m h es ver Q hR hA h1 h2 hsn hl hm hmn hnone (fun p hp => linkedA_spec (List.all_eq_true.1 hc p hp)) hv
      · cases hr
    · cases hr
  · cases hr
end Go.Am
