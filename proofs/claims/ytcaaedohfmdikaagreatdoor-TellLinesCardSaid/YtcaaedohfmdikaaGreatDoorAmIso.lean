/- Part of the proof of TellLines: its text AmIso. Conditions: none. -/
import Derived.Test.YtcaaedohfmdikaaGreatDoorAmExt
set_option linter.unusedSimpArgs false
set_option linter.unusedVariables false
noncomputable section
namespace Go.Am

/-- A value that was related before: what it speaks of lies where it lay. -/
theorem inj_swap {ι0 ι1 ι2 : Inj} (h1 : ι0.le ι1) (h2 : ι0.le ι2) {id : Nat} {l0 l : Loc} (h0 : ι0 id = some l0) (h : ι1 id = some l) : ι2 id = some l := by
  have := h1 _ _ h0
  rw [h] at this; cases this
  exact h2 _ _ h0

mutual
theorem VRel.swap {ι0 ι1 ι2 : Inj} (h1 : ι0.le ι1) (h2 : ι0.le ι2) : ∀ {x : AV} {u v : Value}, VRel ι0 x u → VRel ι1 x v → VRel ι2 x v
  | .undef, _, _, _, _ => trivial
  | .bool _, _, _, _, h => h
  | .int _ _, _, _, _, h => h
  | .str _, _, _, _, h => h
  | .ptr none, _, _, _, h => h
  | .ptr (some (_, _)), _, _, h0, h => let ⟨_, a, _⟩ := h0; let ⟨l, b, c⟩ := h; ⟨l, inj_swap h1 h2 a b, c⟩
  | .slice none _ _, _, _, _, h => h
  | .slice (some (_, _)) _ (some _), _, _, h0, h => let ⟨_, _, e, _⟩ := h0; let ⟨l, a, b, c⟩ := h; ⟨l, a, inj_swap h1 h2 e b, c⟩
  | .slice (some (_, _)) _ none, _, _, h0, h => let ⟨_, _, _, e, _⟩ := h0; let ⟨l, a, k, b, c⟩ := h; ⟨l, a, k, inj_swap h1 h2 e b, c⟩
  | .map none, _, _, _, h => h
  | .map (some _), _, _, h0, h => let ⟨_, a, _⟩ := h0; let ⟨l, b, c⟩ := h; ⟨l, inj_swap h1 h2 a b, c⟩
  | .func _ _ _, _, _, h0, h => let ⟨_, _, _, a, b⟩ := h0; let ⟨f, c, d, e, g⟩ := h; ⟨f, c, d, VRelL.swap h1 h2 a e, VRelL.swap h1 h2 b g⟩
  | .nilFunc, _, _, _, h => h
  | .iface _ _, _, _, h0, h => let ⟨_, _, a⟩ := h0; let ⟨y, b, c⟩ := h; ⟨y, b, VRel.swap h1 h2 a c⟩
  | .nilIface, _, _, _, h => h
  | .agg _, _, _, h0, h => let ⟨_, _, a⟩ := h0; let ⟨y, b, c⟩ := h; ⟨y, b, VRelL.swap h1 h2 a c⟩
  | .tuple _, _, _, h0, h => let ⟨_, _, a⟩ := h0; let ⟨y, b, c⟩ := h; ⟨y, b, VRelL.swap h1 h2 a c⟩
theorem VRelL.swap {ι0 ι1 ι2 : Inj} (h1 : ι0.le ι1) (h2 : ι0.le ι2) : ∀ {x : List AV} {u v : List Value}, VRelL ι0 x u → VRelL ι1 x v → VRelL ι2 x v
  | [], _, _, _, h => h
  | _ :: _, _, _, h0, h => let ⟨_, _, _, a, b⟩ := h0; let ⟨y, r, c, d, e⟩ := h; ⟨y, r, c, VRel.swap h1 h2 a d, VRelL.swap h1 h2 b e⟩
end

theorem F2.swap {ι0 ι1 ι2 : Inj} (h1 : ι0.le ι1) (h2 : ι0.le ι2) {x : List AV} {u v : List Value} (a : F2 (VRel ι0) x u) (b : F2 (VRel ι1) x v) : F2 (VRel ι2) x v :=
  VRelL_iff.1 (VRelL.swap h1 h2 (VRelL_iff.2 a) (VRelL_iff.2 b))

theorem F2.both {α β γ : Type} {R : α → β → Prop} {S T : α → γ → Prop} (hrs : ∀ a b c, R a b → S a c → T a c) {x : List α} {y : List β} {z : List γ} (a : F2 R x y) (b : F2 S x z) : F2 T x z := by
  induction a generalizing z with
  | nil => cases b; exact .nil
  | cons h1 _ ih => cases b with | cons h2 h3 => exact .cons (hrs _ _ _ h1 h2) (ih h3)

theorem ERel.swap {ι0 ι1 ι2 : Inj} (h1 : ι0.le ι1) (h2 : ι0.le ι2) {p : AV × AV} {e f : MapEntry} (a : ERel ι0 p e) (b : ERel ι1 p f) : ERel ι2 p f := ⟨VRel.swap h1 h2 a.1 b.1, VRel.swap h1 h2 a.2 b.2⟩

theorem MapRel.swap {ι0 ι1 ι2 : Inj} (h1 : ι0.le ι1) (h2 : ι0.le ι2) {es : List (AV × AV)} {r0 r : Array MapEntry} {c0 c : Nat} (a : MapRel ι0 es r0 c0) (b : MapRel ι1 es r c) : MapRel ι2 es r c := by
  obtain ⟨l0, _, f0⟩ := a.perm
  obtain ⟨l, p, f⟩ := b.perm
  exact ⟨⟨l, p, F2.both (R := ERel ι0) (S := ERel ι1) (T := ERel ι2) (fun _ _ _ x y => ERel.swap h1 h2 x y) f0 f⟩, b.born, b.lt, b.keys, b.ok, b.vals⟩

/-- An object that was there before. -/
theorem ORel.swap {ι0 ι1 ι2 : Inj} (h1 : ι0.le ι1) (h2 : ι0.le ι2) {g0 g1 g2 : Heap} {hp0 hp : Array Obj} {l0 l : Loc} {o : AObj} (a : ORel ι0 g0 hp0 l0 o) (b : ORel ι1 g1 hp l o)
    (hm : ∀ m es ver, g0.get m = some (.map es ver) → g1.get m = g0.get m ∧ g2.get m = g0.get m) : ORel ι2 g2 hp l o := by
  cases o with
  | cells els sz elem ro fz =>
    obtain ⟨cs0, fr0, _, _, _, _, _, _, _, f0, _⟩ := a
    obtain ⟨cs, fr, k1, k2, k3, k4, k5, k6, k7, k8, k9⟩ := b
    exact ⟨cs, fr, k1, k2, k3, k4, k5, k6, k7, f0.swap h1 h2 k8, k9⟩
  | map es ver =>
    obtain ⟨r0, c0, _, a⟩ := a
    obtain ⟨r, c, k1, b⟩ := b
    exact ⟨r, c, k1, a.swap h1 h2 b⟩
  | siter s pos => exact b
  | miter m left ver last =>
    cases m with
    | none => exact b
    | some m =>
      obtain ⟨_, lm0, s0, se0, st0, a1, a2, es0, ver0, a3, a4, a5⟩ := a
      obtain ⟨q0, lm, since, seen, stepped, b1, b2, es, ver', b3, b4, b5⟩ := b
      obtain ⟨e1, e2⟩ := hm m es0 ver0 a3
      have b3' := b3
      rw [e1, a3] at b3'
      simp only [Option.some.injEq, AObj.map.injEq] at b3'
      obtain ⟨rfl, rfl⟩ := b3'
      refine ⟨q0, lm, since, seen, stepped, inj_swap h1 h2 a1 b1, b2, es0, ver0, by rw [e2]; exact a3, b4, fun hv => ?_⟩
      obtain ⟨res0, c0, _, _, _, ⟨ll0, _, f0⟩, l0'⟩ := a5 hv
      obtain ⟨res, c, k1, k2, k3, ⟨ll, p, f⟩, k5⟩ := b5 hv
      refine ⟨res, c, k1, k2, k3, ⟨ll, p, F2.both (R := ERel ι0) (S := ERel ι1) (T := ERel ι2) (fun _ _ _ x y => ERel.swap h1 h2 x y) f0 f⟩, fun q hq => ?_⟩
      obtain ⟨e, m1, m2, m3⟩ := k5 q hq
      obtain ⟨e', _, _, m4⟩ := l0' q hq
      exact ⟨e, m1, m2, ERel.swap h1 h2 m4 m3⟩
  | key v t =>
    obtain ⟨_, u0, a1, _⟩ := a
    obtain ⟨b0, u, b1, b2⟩ := b
    exact ⟨b0, u, VRel.swap h1 h2 a1 b1, b2⟩
  | dead => trivial
end Go.Am
end
