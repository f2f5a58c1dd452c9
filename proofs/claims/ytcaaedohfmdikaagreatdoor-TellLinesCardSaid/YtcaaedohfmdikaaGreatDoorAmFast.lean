/- Part of the proof of TellLines: its text AmFast. Conditions: none. -/
import Derived.Test.YtcaaedohfmdikaaGreatDoorAmFast0
set_option linter.unusedSimpArgs false
set_option linter.unusedVariables false
noncomputable section
namespace Go.Am

/-! ### The machine, with each function's text laid out once: a closed term that the kernel comes to once, and looks up from then on -/
structure OpdF where
  run : Env → AV
structure ArgsF where
  run : Env → List AV
structure PartsF where
  run : Env → List (Nat × AV)
structure RdF where
  run : Env → Heap → Option AV
structure NwF where
  run : Env → Option (AObj × (Nat → AV))
structure OpF where
  run : CallF → Env → Heap → Res (AV × Heap)
structure RegF where
  run : CallF → Env → Heap → Res (Env × Heap)
structure DrawF where
  run : CallF → Nat → Env → Heap → List (Nat × Heap) → Res (Env × Heap)
structure PutF where
  run : Env → AV → Option Env
structure EvF where
  run : Nat → Env → Heap → Option (AV × Option AObj)
structure WantF where
  run : Env → Option Bool
structure CodeF where
  run : CallF → Nat → Env → Heap → Out

structure SetF where
  run : Env → AV → Env
structure BinG where
  run : Heap → AV → AV → Option AV
structure ConvF where
  run : Heap → AV → Option AV

def cGet : Path → OpdF
  | .e => ⟨fun t => Tr.rec (motive := fun _ => AV) .undef (fun o _ _ _ _ => Option.rec (motive := fun _ => AV) .undef (fun v => v) o) t⟩
  | .l p => match cGet p with | ⟨f⟩ => ⟨fun t => Tr.rec (motive := fun _ => AV) .undef (fun _ l _ _ _ => f l) t⟩
  | .r p => match cGet p with | ⟨f⟩ => ⟨fun t => Tr.rec (motive := fun _ => AV) .undef (fun _ _ r _ _ => f r) t⟩
theorem cGet_eq : ∀ (p : Path) (t : Env), (cGet p).run t = (Tr.getP p t).getD .undef
  | .e, .nil => rfl
  | .e, .node o _ _ => by cases o <;> rfl
  | .l p, .nil => rfl
  | .l p, .node o l r => cGet_eq p l
  | .r p, .nil => rfl
  | .r p, .node o l r => cGet_eq p r

def cSet : Path → SetF
  | .e => ⟨fun t v => Tr.rec (motive := fun _ => Env) (.node (some v) .nil .nil) (fun _ l r _ _ => .node (some v) l r) t⟩
  | .l p => match cSet p with | ⟨f⟩ => ⟨fun t v => Tr.rec (motive := fun _ => Env) (.node none (f .nil v) .nil) (fun o l r _ _ => .node o (f l v) r) t⟩
  | .r p => match cSet p with | ⟨f⟩ => ⟨fun t v => Tr.rec (motive := fun _ => Env) (.node none .nil (f .nil v)) (fun o l r _ _ => .node o l (f r v)) t⟩
theorem cSet_eq : ∀ (p : Path) (t : Env) (v : AV), (cSet p).run t v = Tr.setP v p t
  | .e, .nil, _ => rfl
  | .e, .node _ _ _, _ => rfl
  | .l p, .nil, v => congrArg (fun x => Tr.node none x .nil) (cSet_eq p .nil v)
  | .l p, .node o l r, v => congrArg (fun x => Tr.node o x r) (cSet_eq p l v)
  | .r p, .nil, v => congrArg (fun x => Tr.node none .nil x) (cSet_eq p .nil v)
  | .r p, .node o l r, v => congrArg (fun x => Tr.node o l x) (cSet_eq p r v)

def cBin (P : Program) (op : BinOp) (t : TypeId) (x y : Operand) : BinG :=
  match op with
  | .shl => ⟨fun h u v => Option.rec (motive := fun _ => Option AV) (binA P h .shl t x y u v)
      (fun a => Option.rec (motive := fun _ => Option AV) (binA P h .shl t x y u v) (fun b => shiftF true a.1 a.2 b.2) (getInt v)) (getInt u)⟩
  | .shr => ⟨fun h u v => Option.rec (motive := fun _ => Option AV) (binA P h .shr t x y u v)
      (fun a => Option.rec (motive := fun _ => Option AV) (binA P h .shr t x y u v) (fun b => shiftF false a.1 a.2 b.2) (getInt v)) (getInt u)⟩
  | op => match cInt op with
    | ⟨i⟩ => ⟨fun h u v => Option.rec (motive := fun _ => Option AV) (binA P h op t x y u v)
      (fun a => Option.rec (motive := fun _ => Option AV) (binA P h op t x y u v)
        (fun b => Bool.rec (motive := fun _ => Option AV) none (i a.1 a.2 b.2) (Nat.beq (idK a.1) (idK b.1))) (getInt v)) (getInt u)⟩
theorem cBin_eq (P : Program) (op : BinOp) (t : TypeId) (x y : Operand) (h : Heap) (u v : AV) : (cBin P op t x y).run h u v = binA P h op t x y u v := by
  have key : ∀ (op : BinOp) (k k' : IntKind) (a b : Int), (Bool.rec (motive := fun _ => Option AV) none ((cInt op).run k a b) (Nat.beq (idK k) (idK k'))) = if k = k' then intA op k a b else none := by
    intro op k k' a b
    rw [idK_iff, cInt_eq]
    by_cases hk : k = k'
    · simp [hk]
    · simp [hk]
  cases hu : getInt u with
  | none => cases op <;> simp only [cBin, hu]
  | some a =>
    obtain ⟨k, a⟩ := a
    cases hv : getInt v with
    | none => cases op <;> simp only [cBin, hu, hv]
    | some b =>
      obtain ⟨k', b⟩ := b
      have e1 := getInt_some hu
      have e2 := getInt_some hv
      subst e1; subst e2
      cases op
      case shl => exact shiftF_eq true k a b
      case shr => exact shiftF_eq false k a b
      all_goals first | exact key .add k k' a b | exact key .sub k k' a b | exact key .mul k k' a b | exact key .quo k k' a b | exact key .rem k k' a b | exact key .and k k' a b | exact key .or k k' a b | exact key .xor k k' a b | exact key .andNot k k' a b | exact key .eql k k' a b | exact key .neq k k' a b | exact key .lss k k' a b | exact key .leq k k' a b | exact key .gtr k k' a b | exact key .geq k k' a b

/-! Cells -/
def dropF (n : Nat) : List AV → List AV :=
  Nat.rec (motive := fun _ => List AV → List AV) (fun l => l) (fun _ ih l => List.rec (motive := fun _ => List AV) [] (fun _ r _ => ih r) l) n
theorem dropF_eq : ∀ (n : Nat) (l : List AV), dropF n l = l.drop n
  | 0, _ => rfl
  | n + 1, [] => rfl
  | n + 1, a :: l => dropF_eq n l
def dropL (n : Nat) : List (List AV) → List (List AV) :=
  Nat.rec (motive := fun _ => List (List AV) → List (List AV)) (fun l => l) (fun _ ih l => List.rec (motive := fun _ => List (List AV)) [] (fun _ r _ => ih r) l) n
theorem dropL_eq : ∀ (n : Nat) (l : List (List AV)), dropL n l = l.drop n
  | 0, _ => rfl
  | n + 1, [] => rfl
  | n + 1, a :: l => dropL_eq n l
/-- One cell. -/
def get1 (els : List (List AV)) (sz off : Nat) : Option AV :=
  List.rec (motive := fun _ => Option AV) none (fun e _ _ => List.rec (motive := fun _ => Option AV) none (fun v _ _ => some v) (dropF (Nat.mod off sz) e)) (dropL (Nat.div off sz) els)

structure LoadF where
  run : AV → Heap → Option AV

def loadSlow (els : List (List AV)) (sz off : Nat) : Option AV :=
  match getC els sz off 1 with
  | some [v] => some v
  | _ => none

def load1 (els : List (List AV)) (sz off : Nat) : Option AV :=
  Bool.rec (motive := fun _ => Option AV) (loadSlow els sz off) 
    (List.rec (motive := fun _ => Option AV) (loadSlow els sz off) (fun e _ _ => List.rec (motive := fun _ => Option AV) (loadSlow els sz off) (fun v _ _ => some v) (dropF (Nat.mod off sz) e)) (dropL (Nat.div off sz) els))
    (Nat.ble (Nat.succ (Nat.mod off sz)) sz)
theorem load1_eq (els : List (List AV)) (sz off : Nat) : load1 els sz off = loadSlow els sz off := by
  unfold load1
  cases hb : Nat.ble (Nat.succ (Nat.mod off sz)) sz with
  | false => rfl
  | true =>
    simp only
    have hlt : off % sz + 1 ≤ sz := Nat.le_of_ble_eq_true hb
    rw [dropL_eq]
    show List.rec (motive := fun _ => Option AV) (loadSlow els sz off) (fun e _ _ => List.rec (motive := fun _ => Option AV) (loadSlow els sz off) (fun v _ _ => some v) (dropF (off % sz) e)) (els.drop (off / sz)) = _
    cases hd : els.drop (off / sz) with
    | nil => rfl
    | cons e rest =>
      simp only
      rw [dropF_eq]
      cases hd2 : e.drop (off % sz) with
      | nil => rfl
      | cons v r =>
        simp only [loadSlow, getC, hd, hlt, if_true, hd2, List.take_succ_cons, List.take_zero]

/-- Some cells. -/
def takeF (n : Nat) : List AV → List AV :=
  Nat.rec (motive := fun _ => List AV → List AV) (fun _ => []) (fun _ ih l => List.rec (motive := fun _ => List AV) [] (fun a r _ => a :: ih r) l) n
theorem takeF_eq : ∀ (n : Nat) (l : List AV), takeF n l = l.take n
  | 0, _ => rfl
  | n + 1, [] => rfl
  | n + 1, a :: l => congrArg (a :: ·) (takeF_eq n l)
/-- Cells of a row; a whole one is what it is. -/
def rowCF (e : List AV) (sz r n : Nat) : List AV :=
  Bool.rec (motive := fun _ => List AV) (takeF n (dropF r e)) (Bool.rec (motive := fun _ => List AV) (takeF n (dropF r e)) (Bool.rec (motive := fun _ => List AV) (takeF n (dropF r e)) e (Nat.beq (lenF e) n)) (Nat.beq n sz)) (Nat.beq r 0)
theorem rowCF_eq (e : List AV) (sz r n : Nat) : rowCF e sz r n = (e.drop r).take n := by
  have hslow : takeF n (dropF r e) = (e.drop r).take n := by rw [takeF_eq, dropF_eq]
  unfold rowCF
  cases h1 : Nat.beq r 0 with
  | false => exact hslow
  | true =>
    cases h2 : Nat.beq n sz with
    | false => exact hslow
    | true =>
      cases h3 : Nat.beq (lenF e) n with
      | false => exact hslow
      | true =>
        have h1 := Nat.eq_of_beq_eq_true h1
        have h3 := Nat.eq_of_beq_eq_true h3
        rw [lenF_eq] at h3
        subst h1
        simp only [List.drop_zero]
        rw [← h3, List.take_length]
def getCF (els : List (List AV)) (sz off n : Nat) : Option (List AV) :=
  Bool.rec (motive := fun _ => Option (List AV)) (getC els sz off n)
    (List.rec (motive := fun _ => Option (List AV)) (getC els sz off n) (fun e _ _ => some (rowCF e sz (Nat.mod off sz) n)) (dropL (Nat.div off sz) els))
    (Nat.ble (Nat.add (Nat.mod off sz) n) sz)
theorem getCF_eq (els : List (List AV)) (sz off n : Nat) : getCF els sz off n = getC els sz off n := by
  unfold getCF
  cases hb : Nat.ble (Nat.add (Nat.mod off sz) n) sz with
  | false => rfl
  | true =>
    simp only
    have hle : off % sz + n ≤ sz := Nat.le_of_ble_eq_true hb
    rw [dropL_eq]
    show List.rec (motive := fun _ => Option (List AV)) (getC els sz off n) (fun e _ _ => some (rowCF e sz (off % sz) n)) (els.drop (off / sz)) = _
    cases hd : els.drop (off / sz) with
    | nil => rfl
    | cons e rest =>
      simp only
      rw [rowCF_eq]
      simp only [getC, hd, hle, if_true]

def cLoad (P : Program) (t : TypeId) : LoadF :=
  match aggT P t with
  | some b => match b with
    | false => ⟨fun a h => Option.rec (motive := fun _ => Option AV) none (fun p => Option.rec (motive := fun _ => Option AV) none
      (fun o => AObj.rec (motive := fun _ => Option AV) (fun els sz _ _ _ => load1 els sz p.2) (fun _ _ => none) (fun _ _ => none) (fun _ _ _ _ => none) (fun _ _ => none) none o) (Tr.getP (pathOf p.1) h.objs)) (getPtr a)⟩
    | true => ⟨fun a h => Option.rec (motive := fun _ => Option AV) none (fun p => Option.rec (motive := fun _ => Option AV) none
      (fun o => AObj.rec (motive := fun _ => Option AV) (fun els sz _ _ _ => Option.rec (motive := fun _ => Option AV) none (fun cs => some (.agg cs)) (getCF els sz p.2 (szT P t))) (fun _ _ => none) (fun _ _ => none) (fun _ _ _ _ => none) (fun _ _ => none) none o) (Tr.getP (pathOf p.1) h.objs)) (getPtr a)⟩
  | none => ⟨fun a h => none⟩
theorem cLoad_eq (P : Program) (t : TypeId) (a : AV) (h : Heap) : (cLoad P t).run a h = loadA P t a h := by
  have hno : getPtr a = none → loadA P t a h = none := by
    intro ha
    unfold loadA
    split
    · rename_i id off; cases ha
    · rfl
  unfold cLoad
  cases hag : aggT P t with
  | none =>
    simp only
    unfold loadA
    split
    · simp [hag]
    · rfl
  | some b =>
    cases b with
    | true =>
      simp only
      cases ha : getPtr a with
      | none => exact (hno ha).symm
      | some p =>
        obtain ⟨id, off⟩ := p
        have := getPtr_some ha
        subst this
        simp only [loadA, hag, loadCellsA]
        show Option.rec (motive := fun _ => Option AV) none _ (h.get id) = _
        cases h.get id with
        | none => rfl
        | some o =>
          cases o with
          | cells els sz e ro fz => simp only [getCF_eq]; cases getC els sz off (szT P t) <;> rfl
          | _ => rfl
    | false =>
      simp only
      cases ha : getPtr a with
      | none => exact (hno ha).symm
      | some p =>
        obtain ⟨id, off⟩ := p
        have := getPtr_some ha
        subst this
        simp only [loadA, hag, loadCellsA]
        show Option.rec (motive := fun _ => Option AV) none _ (h.get id) = _
        cases h.get id with
        | none => rfl
        | some o =>
          cases o with
          | cells els sz e ro fz => simp only [load1_eq]; rfl
          | _ => rfl

/-- One cell turns. -/
def set1 (r : Nat) (v : AV) : List AV → List AV :=
  Nat.rec (motive := fun _ => List AV → List AV) (fun l => List.rec (motive := fun _ => List AV) [v] (fun _ r _ => v :: r) l) (fun _ ih l => List.rec (motive := fun _ => List AV) [v] (fun a r _ => a :: ih r) l) r
theorem set1_eq (v : AV) : ∀ (r : Nat) (l : List AV), set1 r v l = splice l r [v]
  | 0, [] => rfl
  | 0, a :: l => rfl
  | r + 1, [] => rfl
  | r + 1, a :: l => by
    have := set1_eq v r l
    show a :: set1 r v l = _
    rw [this]
    simp [splice]
def setRow (k r : Nat) (v : AV) : List (List AV) → List (List AV) :=
  Nat.rec (motive := fun _ => List (List AV) → List (List AV)) (fun l => List.rec (motive := fun _ => List (List AV)) [] (fun e t _ => set1 r v e :: t) l) (fun _ ih l => List.rec (motive := fun _ => List (List AV)) [] (fun a t _ => a :: ih t) l) k
theorem setRow_eq (r : Nat) (v : AV) : ∀ (k : Nat) (l : List (List AV)) (e : List AV), l[k]? = some e → setRow k r v l = l.set k (splice e r [v])
  | 0, [], e, h => by simp at h
  | 0, a :: l, e, h => by simp at h; subst h; show set1 r v a :: l = _; rw [set1_eq]; rfl
  | k + 1, [], e, h => by simp at h
  | k + 1, a :: l, e, h => congrArg (a :: ·) (setRow_eq r v k l e (by simpa using h))
def setCF (els : List (List AV)) (sz off : Nat) (v : AV) : Option (List (List AV)) :=
  Bool.rec (motive := fun _ => Option (List (List AV))) (setC els sz off [v])
    (List.rec (motive := fun _ => Option (List (List AV))) none (fun _ _ _ => some (setRow (Nat.div off sz) (Nat.mod off sz) v els)) (dropL (Nat.div off sz) els))
    (Nat.ble (Nat.succ (Nat.mod off sz)) sz)
theorem setCF_eq (els : List (List AV)) (sz off : Nat) (v : AV) : setCF els sz off v = setC els sz off [v] := by
  unfold setCF
  cases hb : Nat.ble (Nat.succ (Nat.mod off sz)) sz with
  | false => rfl
  | true =>
    simp only
    have hle : off % sz + 1 ≤ sz := Nat.le_of_ble_eq_true hb
    rw [dropL_eq]
    show List.rec (motive := fun _ => Option (List (List AV))) none (fun _ _ _ => some (setRow (off / sz) (off % sz) v els)) (els.drop (off / sz)) = _
    simp only [setC, List.length_singleton, hle, if_true]
    have hgd : (els.drop (off / sz))[0]? = els[off / sz]? := by simp
    cases hd : els.drop (off / sz) with
    | nil =>
      rw [hd] at hgd
      rw [← hgd]; rfl
    | cons e rest =>
      rw [hd] at hgd
      simp only [List.getElem?_cons_zero] at hgd
      rw [← hgd]
      simp only
      rw [setRow_eq _ _ _ _ _ hgd.symm]

/-- Cells in a row turn. -/
def spliceF (r : Nat) (new : List AV) : List AV → List AV :=
  Nat.rec (motive := fun _ => List AV → List AV) (fun l => appF new (dropF (lenF new) l)) (fun _ ih l => List.rec (motive := fun _ => List AV) new (fun a t _ => a :: ih t) l) r
theorem spliceF_eq (new : List AV) : ∀ (r : Nat) (l : List AV), spliceF r new l = splice l r new
  | 0, l => by
    show appF new (dropF (lenF new) l) = _
    rw [appF_eq, dropF_eq, lenF_eq]; simp [splice]
  | r + 1, [] => by show new = _; simp [splice]
  | r + 1, a :: l => by
    show a :: spliceF r new l = _
    rw [spliceF_eq new r l]
    simp [splice, Nat.add_right_comm]
/-- A row turns; a whole one is what it is. -/
def rowSF (r : Nat) (new e : List AV) : List AV :=
  Bool.rec (motive := fun _ => List AV) (spliceF r new e) (Bool.rec (motive := fun _ => List AV) (spliceF r new e) new (Nat.ble (lenF e) (lenF new))) (Nat.beq r 0)
theorem rowSF_eq (r : Nat) (new e : List AV) : rowSF r new e = splice e r new := by
  unfold rowSF
  cases h1 : Nat.beq r 0 with
  | false => exact spliceF_eq new r e
  | true =>
    cases h2 : Nat.ble (lenF e) (lenF new) with
    | false => exact spliceF_eq new r e
    | true =>
      have h1 := Nat.eq_of_beq_eq_true h1
      have h2 := Nat.le_of_ble_eq_true h2
      rw [lenF_eq, lenF_eq] at h2
      subst h1
      simp only [splice, Nat.zero_add, List.take_zero, List.nil_append]
      rw [List.drop_eq_nil_of_le h2, List.append_nil]
def setRowL (k r : Nat) (new : List AV) : List (List AV) → List (List AV) :=
  Nat.rec (motive := fun _ => List (List AV) → List (List AV)) (fun l => List.rec (motive := fun _ => List (List AV)) [] (fun e t _ => rowSF r new e :: t) l) (fun _ ih l => List.rec (motive := fun _ => List (List AV)) [] (fun a t _ => a :: ih t) l) k
theorem setRowL_eq (r : Nat) (new : List AV) : ∀ (k : Nat) (l : List (List AV)) (e : List AV), l[k]? = some e → setRowL k r new l = l.set k (splice e r new)
  | 0, [], e, h => by simp at h
  | 0, a :: l, e, h => by simp at h; subst h; show rowSF r new a :: l = _; rw [rowSF_eq]; rfl
  | k + 1, [], e, h => by simp at h
  | k + 1, a :: l, e, h => congrArg (a :: ·) (setRowL_eq r new k l e (by simpa using h))
def setCL (els : List (List AV)) (sz off : Nat) (new : List AV) : Option (List (List AV)) :=
  Bool.rec (motive := fun _ => Option (List (List AV))) (setC els sz off new)
    (List.rec (motive := fun _ => Option (List (List AV))) none (fun _ _ _ => some (setRowL (Nat.div off sz) (Nat.mod off sz) new els)) (dropL (Nat.div off sz) els))
    (Nat.ble (Nat.add (Nat.mod off sz) (lenF new)) sz)
theorem setCL_eq (els : List (List AV)) (sz off : Nat) (new : List AV) : setCL els sz off new = setC els sz off new := by
  unfold setCL
  cases hb : Nat.ble (Nat.add (Nat.mod off sz) (lenF new)) sz with
  | false => rfl
  | true =>
    simp only
    have hle : off % sz + new.length ≤ sz := by
      have := Nat.le_of_ble_eq_true hb
      rw [lenF_eq] at this
      exact this
    rw [dropL_eq]
    show List.rec (motive := fun _ => Option (List (List AV))) none (fun _ _ _ => some (setRowL (off / sz) (off % sz) new els)) (els.drop (off / sz)) = _
    simp only [setC, hle, if_true]
    have hgd : (els.drop (off / sz))[0]? = els[off / sz]? := by simp
    cases hd : els.drop (off / sz) with
    | nil =>
      rw [hd] at hgd
      rw [← hgd]; rfl
    | cons e rest =>
      rw [hd] at hgd
      simp only [List.getElem?_cons_zero] at hgd
      rw [← hgd]
      simp only
      rw [setRowL_eq _ _ _ _ _ hgd.symm]

def storeOk (n : Nat) (cs : List AV) : Bool := Bool.rec (motive := fun _ => Bool) false (Bool.rec (motive := fun _ => Bool) (allOkF cs) false (Nat.beq n 0)) (Nat.beq (lenF cs) n)
theorem storeOk_true {n : Nat} {cs : List AV} (h : storeOk n cs = true) : cs.length = n ∧ n ≠ 0 ∧ cs.all AV.cellOk = true := by
  unfold storeOk at h
  cases h1 : Nat.beq (lenF cs) n with
  | false => rw [h1] at h; cases h
  | true =>
    rw [h1] at h
    cases h2 : Nat.beq n 0 with
    | true => rw [h2] at h; cases h
    | false =>
      rw [h2] at h
      have h3 := Nat.eq_of_beq_eq_true h1
      rw [lenF_eq] at h3
      exact ⟨h3, Nat.ne_of_beq_eq_false h2, by rw [← allOkF_eq]; exact h⟩

structure StoreF where
  run : AV → AV → Heap → Option Heap
def cStore (P : Program) (t : TypeId) : StoreF :=
  match aggT P t, Nat.beq (szT P t) 1 with
  | some true, _ => ⟨fun a v h => Option.rec (motive := fun _ => Option Heap) (storeA P t a v h)
      (fun p => Option.rec (motive := fun _ => Option Heap) (storeA P t a v h)
        (fun cs => Bool.rec (motive := fun _ => Option Heap) (storeA P t a v h)
        (Option.rec (motive := fun _ => Option Heap) none (fun o => AObj.rec (motive := fun _ => Option Heap)
          (fun els sz e ro fz => Bool.rec (motive := fun _ => Option Heap)
            (Bool.rec (motive := fun _ => Option Heap) none
              (Option.rec (motive := fun _ => Option Heap) none (fun els => some ⟨Tr.setP (.cells els sz e false fz) (pathOf p.1) h.objs, h.next⟩) (setCL els sz p.2 cs)) (Nat.ble (Nat.pred fz) p.2))
            none ro) (fun _ _ => none) (fun _ _ => none) (fun _ _ _ _ => none) (fun _ _ => none) none o) (Tr.getP (pathOf p.1) h.objs))
        (storeOk (szT P t) cs)) (getAgg v)) (getPtr a)⟩
  | some false, true => ⟨fun a v h => Option.rec (motive := fun _ => Option Heap) (storeA P t a v h)
      (fun p => Bool.rec (motive := fun _ => Option Heap) (storeA P t a v h)
        (Option.rec (motive := fun _ => Option Heap) none (fun o => AObj.rec (motive := fun _ => Option Heap)
          (fun els sz e ro fz => Bool.rec (motive := fun _ => Option Heap)
            (Bool.rec (motive := fun _ => Option Heap) none
              (Option.rec (motive := fun _ => Option Heap) none (fun els => some ⟨Tr.setP (.cells els sz e false fz) (pathOf p.1) h.objs, h.next⟩) (setCF els sz p.2 v)) (Nat.ble (Nat.pred fz) p.2))
            none ro) (fun _ _ => none) (fun _ _ => none) (fun _ _ _ _ => none) (fun _ _ => none) none o) (Tr.getP (pathOf p.1) h.objs)) (cellOkF v)) (getPtr a)⟩
  | _, _ => ⟨fun a v h => storeA P t a v h⟩
theorem cStore_eq (P : Program) (t : TypeId) (a v : AV) (h : Heap) : (cStore P t).run a v h = storeA P t a v h := by
  unfold cStore
  split
  · rename_i hag
    simp only
    cases ha : getPtr a with
    | none => rfl
    | some p =>
      obtain ⟨id, off⟩ := p
      have := getPtr_some ha
      subst this
      simp only
      cases hv : getAgg v with
      | none => rfl
      | some cs =>
        have := getAgg_some hv
        subst this
        simp only
        cases hok : storeOk (szT P t) cs with
        | false => rfl
        | true =>
          obtain ⟨g1, g2, g3⟩ := storeOk_true hok
          have hok2 : okCells P t (.agg cs) = some cs := by
            unfold okCells
            exact if_pos ⟨g1, g3⟩
          simp only [storeA, hok2, storeCellsA]
          rw [if_neg g2]
          show Option.rec (motive := fun _ => Option Heap) none _ (h.get id) = _
          cases h.get id with
          | none => rfl
          | some o =>
            cases o with
            | cells els sz e ro fz =>
              simp only
              cases ro with
              | true => rfl
              | false =>
                simp only
                cases hb : Nat.ble (Nat.pred fz) off with
                | true =>
                  have : fz - 1 ≤ off := Nat.le_of_ble_eq_true hb
                  simp only [this, if_true]
                  rw [setCL_eq]
                  cases setC els sz off cs <;> rfl
                | false =>
                  have : ¬ (fz - 1 ≤ off) := fun h => by
                    have := Nat.ble_eq_true_of_le h
                    rw [show fz - 1 = Nat.pred fz from rfl] at this
                    rw [this] at hb; cases hb
                  simp [this]
            | _ => rfl
  · rename_i hag hsz
    have hsz := Nat.eq_of_beq_eq_true hsz
    simp only
    cases ha : getPtr a with
    | none => rfl
    | some p =>
      obtain ⟨id, off⟩ := p
      have := getPtr_some ha
      subst this
      simp only
      cases hok : cellOkF v with
      | false => rfl
      | true =>
        rw [cellOkF_eq] at hok
        have hcs : v.cells = [v] := by cases v <;> first | rfl | cases hok
        have hok2 : okCells P t v = some [v] := by simp [okCells, hcs, hsz, hok]
        simp only [storeA, hok2, hsz, storeCellsA]
        show Option.rec (motive := fun _ => Option Heap) none _ (h.get id) = _
        cases h.get id with
        | none => rfl
        | some o =>
          cases o with
          | cells els sz e ro fz =>
            simp only
            cases ro with
            | true => rfl
            | false =>
              simp only
              cases hb : Nat.ble (Nat.pred fz) off with
              | true =>
                have : fz - 1 ≤ off := Nat.le_of_ble_eq_true hb
                simp only [this, if_true]
                rw [setCF_eq]
                simp only [Nat.one_ne_zero, if_false]
                cases setC els sz off [v] <;> rfl
              | false =>
                have : ¬ (fz - 1 ≤ off) := fun h => by
                  have := Nat.ble_eq_true_of_le h
                  rw [show fz - 1 = Nat.pred fz from rfl] at this
                  rw [this] at hb; cases hb
                simp [this]
          | _ => rfl
  · rfl

structure AddrF where
  run : AV → Option AV
def cField (P : Program) (t : TypeId) (i : Nat) : AddrF :=
  match P.underlying t with
  | some (.struct fs) => match fs[i]? with
    | some f => Bool.rec (motive := fun _ => AddrF) ⟨fun x => Option.rec (motive := fun _ => Option AV) none (fun p => some (.ptr (some (p.1, Nat.add p.2 f.offset)))) (getPtr x)⟩ ⟨fun _ => none⟩ (Nat.beq (szT P f.type) 0)
    | none => ⟨fun _ => none⟩
  | _ => ⟨fun _ => none⟩
theorem cField_eq (P : Program) (t : TypeId) (i : Nat) (x : AV) : (cField P t i).run x = fieldAddrA P t x i := by
  have hno : getPtr x = none → fieldAddrA P t x i = none := by
    intro ha
    unfold fieldAddrA
    split
    · cases ha
    · rfl
  unfold cField
  split
  · rename_i fs hu
    cases hf : fs[i]? with
    | none =>
      simp only
      cases ha : getPtr x with
      | none => exact (hno ha).symm
      | some p => have := getPtr_some ha; subst this; simp [fieldAddrA, hu, hf]
    | some f =>
      simp only
      cases hb : Nat.beq (szT P f.type) 0 with
      | true =>
        have h0 := Nat.eq_of_beq_eq_true hb
        simp only
        cases ha : getPtr x with
        | none => exact (hno ha).symm
        | some p => have := getPtr_some ha; subst this; simp [fieldAddrA, hu, hf, h0]
      | false =>
        have h0 := Nat.ne_of_beq_eq_false hb
        simp only
        cases ha : getPtr x with
        | none => exact (hno ha).symm
        | some p => have := getPtr_some ha; subst this; simp [fieldAddrA, hu, hf, h0]
  · rename_i hu
    unfold fieldAddrA
    split
    · rename_i h1; exact absurd h1 (hu _)
    · rfl

structure IdxF where
  run : AV → AV → Option AV
def cIdx (P : Program) (t : TypeId) : IdxF :=
  match P.underlying t with
  | some (.slice e) => match (P.info? e).isSome with
    | true => ⟨fun x i => Option.rec (motive := fun _ => Option AV) (indexAddrA P t x i) (fun p => Option.rec (motive := fun _ => Option AV) (indexAddrA P t x i)
        (fun k => Option.rec (motive := fun _ => Option AV) none (fun n => Bool.rec (motive := fun _ => Option AV) none (some (.ptr (some (p.1.1, Nat.add p.1.2 (Nat.mul n (szT P e)))))) (Nat.ble (Nat.succ n) p.2)) (natOf k.2)) (getInt i)) (getSlice x)⟩
    | false => ⟨fun x i => indexAddrA P t x i⟩
  | _ => ⟨fun x i => indexAddrA P t x i⟩
theorem cIdx_eq (P : Program) (t : TypeId) (x i : AV) : (cIdx P t).run x i = indexAddrA P t x i := by
  unfold cIdx
  split
  · rename_i e hu
    cases he : (P.info? e).isSome with
    | false => rfl
    | true =>
      simp only
      cases hx : getSlice x with
      | none => rfl
      | some p =>
        obtain ⟨⟨id, off⟩, n⟩ := p
        obtain ⟨c, rfl⟩ := getSlice_some hx
        simp only
        cases hi : getInt i with
        | none => rfl
        | some k =>
          obtain ⟨k, j⟩ := k
          have := getInt_some hi
          subst this
          simp only [indexAddrA, hu, intOf?, he]
          cases hj : natOf j with
          | none =>
            have := natOf_none hj
            rw [if_neg (by omega)]
          | some m =>
            have := natOf_some hj
            subst this
            simp only
            cases hb : Nat.ble (Nat.succ m) n with
            | true =>
              have : m < n := Nat.le_of_ble_eq_true hb
              rw [if_pos ⟨by omega, by omega, trivial⟩]
              simp
            | false =>
              have : ¬ (m < n) := fun h => by
                have := Nat.ble_eq_true_of_le (show m.succ ≤ n from h)
                rw [this] at hb; cases hb
              rw [if_neg (by omega)]
  · rfl

def cConv (P : Program) (s d : TypeId) : ConvF :=
  match P.underlying s, P.underlying d with
  | some _, some (.int k) => ⟨fun h u => match u with
    | .int _ n => some (.int k (wrapF k n))
    | u => convA P h s d u⟩
  | _, _ => ⟨fun h u => convA P h s d u⟩
theorem cConv_eq (P : Program) (s d : TypeId) (h : Heap) (u : AV) : (cConv P s d).run h u = convA P h s d u := by
  unfold cConv
  split
  · rename_i a k h1 h2
    cases u with
    | int j n => simp only [wrapF_eq]; simp [convA, h1, h2]
    | _ => rfl
  · rfl

structure LenF where
  run : Heap → List AV → Option AV
def cBuiltin (P : Program) (b : Builtin) (ts : Array TypeId) : LenF :=
  match b with
  | .len => match ts[0]? with
    | some t => match P.underlying t with
      | some (.slice _) => ⟨fun h xs => List.rec (motive := fun _ => Option AV) (builtinReadA P h .len ts xs) (fun x r _ => List.rec (motive := fun _ => Option AV)
          (Option.rec (motive := fun _ => Option AV) (builtinReadA P h .len ts xs) (fun n => some (.int .i64 (.ofNat n))) (getLen x)) (fun _ _ _ => builtinReadA P h .len ts xs) r) xs⟩
      | _ => ⟨fun h xs => builtinReadA P h .len ts xs⟩
    | none => ⟨fun h xs => builtinReadA P h .len ts xs⟩
  | b => ⟨fun h xs => builtinReadA P h b ts xs⟩
theorem cBuiltin_eq (P : Program) (b : Builtin) (ts : Array TypeId) (h : Heap) (xs : List AV) : (cBuiltin P b ts).run h xs = builtinReadA P h b ts xs := by
  cases b with
  | len =>
    simp only [cBuiltin]
    cases ht : ts[0]? with
    | none => rfl
    | some t =>
      simp only
      split
      · rename_i e hu
        cases xs with
        | nil => rfl
        | cons x r =>
          cases r with
          | cons y r => rfl
          | nil =>
            simp only
            cases hx : getLen x with
            | none => rfl
            | some n =>
              obtain ⟨a, c, rfl⟩ := getLen_some hx
              simp [builtinReadA, ht, lenOpA, hu]
      · rfl
  | _ => rfl

def cOpd (x : Operand) : OpdF :=
  match x with
  | .tmp t => cGet (pathOf t)
  | .const v => ⟨fun _ => ofConst v⟩
  | .global _ => ⟨fun _ => .undef⟩
  | .func f => ⟨fun _ => .func (.func f) [] []⟩
theorem cOpd_eq (x : Operand) (env : Env) : (cOpd x).run env = opd env x := by
  cases x with
  | tmp t => exact cGet_eq _ _
  | _ => rfl

def cArgs : List Operand → ArgsF
  | [] => ⟨fun _ => []⟩
  | x :: r => match cOpd x, cArgs r with
    | ⟨f⟩, ⟨g⟩ => ⟨fun env => f env :: g env⟩
theorem cArgs_eq (env : Env) : ∀ l : List Operand, (cArgs l).run env = l.map (opd env)
  | [] => rfl
  | x :: r => by rw [List.map_cons, ← cOpd_eq, ← cArgs_eq env r]; rfl

def cParts : List (Nat × Operand) → PartsF
  | [] => ⟨fun _ => []⟩
  | (i, x) :: r => match cOpd x, cParts r with
    | ⟨f⟩, ⟨g⟩ => ⟨fun env => (i, f env) :: g env⟩
theorem cParts_eq (env : Env) : ∀ l : List (Nat × Operand), (cParts l).run env = l.map fun (i, x) => (i, opd env x)
  | [] => rfl
  | (i, x) :: r => by
    show (i, (cOpd x).run env) :: (cParts r).run env = _
    rw [cOpd_eq, cParts_eq env r]; rfl

def cRd (P : Program) (op : Op) : RdF :=
  match op with
  | .move x => match cOpd x with | ⟨f⟩ => ⟨fun env _ => some (f env)⟩
  | .assign x => match cOpd x with | ⟨f⟩ => ⟨fun env _ => some (f env)⟩
  | .pick c a b => match cOpd c, cOpd a, cOpd b with | ⟨f⟩, ⟨g⟩, ⟨k⟩ => ⟨fun env _ => Option.rec (motive := fun _ => Option AV) none (fun v => Bool.rec (motive := fun _ => Option AV) (some (k env)) (some (g env)) v) (getBool (f env))⟩
  | .build t ps => match cParts ps.toList with | ⟨f⟩ => ⟨fun env _ => buildA P t (f env)⟩
  | .load t a => match cOpd a, cLoad P t with | ⟨f⟩, ⟨l⟩ => ⟨fun env h => l (f env) h⟩
  | .nilCheck x => match cOpd x with | ⟨f⟩ => ⟨fun env _ => nilCheckF (f env)⟩
  | .binOp op t x y ty => match cOpd x, cOpd y, cBin P op t x y with | ⟨f⟩, ⟨g⟩, ⟨b⟩ => ⟨fun env h => b h (f env) (g env)⟩
  | .unOp op _ x => match cOpd x with | ⟨f⟩ => ⟨fun env _ => unA op (f env)⟩
  | .convert s d x => match cOpd x, cConv P s d with | ⟨f⟩, ⟨c⟩ => ⟨fun env h => c h (f env)⟩
  | .fieldAddr t x i => match cOpd x, cField P t i with | ⟨f⟩, ⟨a⟩ => ⟨fun env _ => a (f env)⟩
  | .field t x i => match cOpd x with | ⟨f⟩ => ⟨fun env _ => fieldA P t (f env) i⟩
  | .indexAddr t x i => match cOpd x, cOpd i, cIdx P t with | ⟨f⟩, ⟨g⟩, ⟨a⟩ => ⟨fun env _ => a (f env) (g env)⟩
  | .index t x i => match cOpd x, cOpd i with | ⟨f⟩, ⟨g⟩ => ⟨fun env _ => indexA P t (f env) (g env)⟩
  | .lookup t m k ok => match cOpd m, cOpd k with | ⟨f⟩, ⟨g⟩ => ⟨fun env h => lookupA P h t (f env) (g env) ok⟩
  | .extract t i => match cOpd t with | ⟨f⟩ => ⟨fun env _ => Option.rec (motive := fun _ => Option AV) none (fun vs => nthF i vs) (getTup (f env))⟩
  | .entry it => match cOpd it with | ⟨f⟩ => ⟨fun env h => entryA h (f env)⟩
  | .call c => match c.callee with
    | .builtin b => match cArgs c.args.toList, cBuiltin P b c.argTypes with | ⟨f⟩, ⟨g⟩ => ⟨fun env h => g h (f env)⟩
    | _ => ⟨fun _ _ => none⟩
  | op => ⟨fun env h => readA P env h op⟩

theorem cRd_eq (P : Program) (op : Op) (env : Env) (h : Heap) : (cRd P op).run env h = readA P env h op := by
  cases op with
  | build t ps => simp only [cRd, readA]; rw [← cParts_eq]
  | call c =>
    obtain ⟨callee, args, ts⟩ := c
    cases callee with
    | builtin b => simp only [readA]; rw [← cArgs_eq, ← cBuiltin_eq]; rfl
    | _ => rfl
  | pick c a b =>
    simp only [readA]; rw [← cOpd_eq c, ← cOpd_eq a, ← cOpd_eq b]
    show Option.rec (motive := fun _ => Option AV) none (fun v => Bool.rec (motive := fun _ => Option AV) (some ((cOpd b).run env)) (some ((cOpd a).run env)) v) (getBool ((cOpd c).run env)) = _
    cases (cOpd c).run env with
    | bool v => cases v <;> rfl
    | _ => rfl
  | move x => simp only [readA]; rw [← cOpd_eq]; rfl
  | assign x => simp only [readA]; rw [← cOpd_eq]; rfl
  | load t a => simp only [readA]; rw [← cLoad_eq, ← cOpd_eq]; rfl
  | nilCheck x =>
    simp only [readA]; rw [← cOpd_eq]
    show nilCheckF ((cOpd x).run env) = _
    cases (cOpd x).run env with
    | ptr a => cases a <;> rfl
    | func f a b => cases f <;> rfl
    | _ => rfl
  | binOp op t x y ty =>
    simp only [readA]; rw [← cBin_eq, ← cOpd_eq, ← cOpd_eq]; rfl
  | unOp op t x => simp only [readA]; rw [← cOpd_eq]; rfl
  | convert s d x => simp only [readA]; rw [← cConv_eq, ← cOpd_eq]; rfl
  | fieldAddr t x i => simp only [readA]; rw [← cField_eq, ← cOpd_eq]; rfl
  | field t x i => simp only [readA]; rw [← cOpd_eq]; rfl
  | indexAddr t x i => simp only [readA]; rw [← cIdx_eq, ← cOpd_eq x, ← cOpd_eq i]; rfl
  | index t x i => simp only [readA]; rw [← cOpd_eq x, ← cOpd_eq i]; rfl
  | lookup t m k ok => simp only [readA]; rw [← cOpd_eq m, ← cOpd_eq k]; rfl
  | extract t i =>
    simp only [readA]; rw [← cOpd_eq]
    show Option.rec (motive := fun _ => Option AV) none (fun vs => nthF i vs) (getTup ((cOpd t).run env)) = _
    cases (cOpd t).run env with
    | tuple vs => exact nthF_eq i vs
    | _ => rfl
  | entry it => simp only [readA]; rw [← cOpd_eq]; rfl
  | _ => rfl

def cNw (P : Program) (op : Op) : NwF :=
  match op with
  | .buildSlice t n ps => match cParts ps.toList with | ⟨f⟩ => ⟨fun env => buildSliceA P t n (f env)⟩
  | .alloc e => match newA P .nil (.alloc e) with
    | some r => ⟨fun _ => some r⟩
    | none => ⟨fun _ => none⟩
  | op => ⟨fun env => newA P env op⟩
theorem cNw_eq (P : Program) (op : Op) (env : Env) : (cNw P op).run env = newA P env op := by
  cases op with
  | buildSlice t n ps => simp only [cNw, newA]; rw [← cParts_eq]
  | alloc e =>
    simp only [cNw]
    have : newA P env (.alloc e) = newA P .nil (.alloc e) := rfl
    rw [this]
    cases newA P .nil (.alloc e) <;> rfl
  | _ => rfl

def cAct (P : Program) (op : Op) : OpF :=
  match op with
  | .store t a x => match cOpd a, cOpd x, cStore P t with | ⟨f⟩, ⟨g⟩, ⟨s⟩ => ⟨fun _ env h => Option.rec (motive := fun _ => Res (AV × Heap)) .fail (fun h => .ok (.tuple [], h)) (s (f env) (g env) h)⟩
  | .next it s => match cOpd it with | ⟨f⟩ => ⟨fun _ env h => nextA h (f env) s⟩
  | .call c => match c.callee with
    | .builtin b => match cArgs c.args.toList with | ⟨f⟩ => ⟨fun _ env h => Res.ofOpt (builtinActA P h b c.argTypes (f env))⟩
    | .value (.func g) => match cArgs c.args.toList with | ⟨f⟩ => ⟨fun call env h => call g (f env) h⟩
    | _ => ⟨fun call env h => match calleeA P env c with
      | some (f, args) => call f args h
      | none => .fail⟩
  | op => ⟨fun call env h => actA P call env h op⟩
theorem cAct_eq (P : Program) (op : Op) (call : CallF) (env : Env) (h : Heap) : (cAct P op).run call env h = actA P call env h op := by
  cases op with
  | store t a x =>
    simp only [actA]; rw [← cStore_eq, ← cOpd_eq a, ← cOpd_eq x]
    show Option.rec (motive := fun _ => Res (AV × Heap)) .fail (fun h => .ok (.tuple [], h)) ((cStore P t).run ((cOpd a).run env) ((cOpd x).run env) h) = _
    cases (cStore P t).run ((cOpd a).run env) ((cOpd x).run env) h <;> rfl
  | next it s => simp only [actA]; rw [← cOpd_eq]; rfl
  | call c =>
    obtain ⟨callee, args, ts⟩ := c
    cases callee with
    | builtin b => simp only [cAct, actA]; rw [← cArgs_eq]
    | value f =>
      cases f with
      | func g => simp only [cAct, actA, calleeA, opd, List.nil_append, List.append_nil]; rw [← cArgs_eq]
      | _ => rfl
    | _ => rfl
  | _ => rfl

def cOp (P : Program) (op : Op) : OpF :=
  match kindA P op with
  | .rd => match cRd P op with | ⟨f⟩ => ⟨fun _ env h => match f env h with
    | some v => .ok (v, h)
    | none => .fail⟩
  | .nw => match cNw P op with | ⟨f⟩ => ⟨fun _ env h => match f env with
    | some (o, v) => .ok (v h.next, h.new o)
    | none => .fail⟩
  | .act => cAct P op
theorem cOp_eq (P : Program) (op : Op) (call : CallF) (env : Env) (h : Heap) : (cOp P op).run call env h = opA P call env h op := by
  unfold cOp opA
  cases kindA P op with
  | rd =>
    show (match (cRd P op).run env h with
      | some v => Res.ok (v, h)
      | none => .fail) = _
    rw [cRd_eq]
    cases readA P env h op <;> rfl
  | nw =>
    show (match (cNw P op).run env with
      | some (o, v) => Res.ok (v h.next, h.new o)
      | none => .fail) = _
    rw [cNw_eq]
    cases newA P env op with
    | none => rfl
    | some r => rfl
  | act => exact cAct_eq P op call env h

def cPut (nt : Nat) (d : Option Tmp) : PutF :=
  match d with
  | some d => cond (Nat.blt d nt) (match cSet (pathOf d) with | ⟨f⟩ => ⟨fun env v => some (f env v)⟩) ⟨fun _ _ => none⟩
  | none => ⟨fun env _ => some env⟩
theorem cPut_eq (nt : Nat) (d : Option Tmp) (env : Env) (v : AV) : (cPut nt d).run env v = putO nt env d v := by
  cases d with
  | none => rfl
  | some d =>
    simp only [cPut, putO]
    by_cases h : d < nt
    · rw [if_pos h, show Nat.blt d nt = true from by simpa [Nat.blt_eq] using h]
      exact congrArg some (cSet_eq (pathOf d) env v)
    · have : Nat.blt d nt = false := by cases hb : Nat.blt d nt with
                                        | false => rfl
                                        | true => rw [Nat.blt_eq] at hb; exact absurd hb h
      rw [if_neg h, this]; rfl

def cWant (ops : Array Oper) (o : Oper) : WantF :=
  match o.guard with
  | none => ⟨fun _ => some true⟩
  | some g => ⟨fun env => wantedA ops env o⟩
theorem cWant_eq (ops : Array Oper) (o : Oper) (env : Env) : (cWant ops o).run env = wantedA ops env o := by
  unfold cWant
  cases hg : o.guard with
  | none => simp only [wantedA, hg]
  | some g => rfl

/-- A slot is filled, if there is such a slot. -/
def cFill (nt : Nat) (d : Option Tmp) : Option SetF :=
  match d with
  | some d => cond (Nat.blt d nt) (some (cSet (pathOf d))) none
  | none => some ⟨fun env _ => env⟩
theorem cFill_eq (nt : Nat) (d : Option Tmp) (env : Env) (v : AV) : (cFill nt d).map (fun f => f.run env v) = putO nt env d v := by
  cases d with
  | none => rfl
  | some d =>
    simp only [cFill, putO]
    by_cases h : d < nt
    · rw [if_pos h, show Nat.blt d nt = true from by simpa [Nat.blt_eq] using h]
      exact congrArg some (cSet_eq (pathOf d) env v)
    · have : Nat.blt d nt = false := by cases hb : Nat.blt d nt with
                                        | false => rfl
                                        | true => rw [Nat.blt_eq] at hb; exact absurd hb h
      rw [if_neg h, this]; rfl

def cSeq (P : Program) (nt : Nat) (ops : Array Oper) : List Nat → RegF
  | [] => ⟨fun _ env h => .ok (env, h)⟩
  | i :: rest =>
    match ops[i]? with
    | none => ⟨fun _ _ _ => .fail⟩
    | some o =>
      match o.guard with
      | none => match cFill nt o.dst with
        | none => ⟨fun call env h => (opA P call env h o.op).bind fun _ => .fail⟩
        | some ⟨s⟩ => match kindA P o.op with
          | .rd => match cRd P o.op with
            | ⟨f⟩ => ⟨fun call env h => Option.rec (motive := fun _ => Res (Env × Heap)) .fail (fun v => (cSeq P nt ops rest).run call (s env v) h) (f env h)⟩
          | .nw => match cNw P o.op with
            | ⟨f⟩ => ⟨fun call env h => Option.rec (motive := fun _ => Res (Env × Heap)) .fail (fun r => (cSeq P nt ops rest).run call (s env (r.2 h.next)) (h.new r.1)) (f env)⟩
          | .act => match cAct P o.op with
            | ⟨f⟩ => ⟨fun call env h => (f call env h).bind fun r => (cSeq P nt ops rest).run call (s env r.1) r.2⟩
      | some _ => ⟨fun call env h => match wantedA ops env o with
        | none => .fail
        | some false => match putO nt env o.dst (.tuple []) with
          | some env => (cSeq P nt ops rest).run call env h
          | none => .fail
        | some true => (opA P call env h o.op).bind fun r => match putO nt env o.dst r.1 with
          | some env => (cSeq P nt ops rest).run call env r.2
          | none => .fail⟩

theorem cSeq_eq (P : Program) (nt : Nat) (ops : Array Oper) (call : CallF) : ∀ (l : List Nat) (env : Env) (h : Heap), (cSeq P nt ops l).run call env h = opsA P call nt ops l env h
  | [], env, h => rfl
  | i :: rest, env, h => by
    simp only [cSeq, opsA]
    cases ho : ops[i]? with
    | none => rfl
    | some o =>
      simp only
      cases hg : o.guard with
      | none =>
        simp only [wantedA, hg]
        have hfill := fun env v => cFill_eq nt o.dst env v
        cases hf : cFill nt o.dst with
        | none =>
          rw [hf] at hfill
          show (opA P call env h o.op).bind _ = _
          congr 1
          funext r
          rw [← hfill]; rfl
        | some s =>
          rw [hf] at hfill
          obtain ⟨s⟩ := s
          simp only
          have hs : ∀ env v, putO nt env o.dst v = some (s env v) := fun env v => (hfill env v).symm
          simp only [hs, opA]
          cases hk : kindA P o.op with
          | rd =>
            simp only
            show Option.rec (motive := fun _ => Res (Env × Heap)) .fail (fun v => (cSeq P nt ops rest).run call (s env v) h) ((cRd P o.op).run env h) = _
            rw [cRd_eq]
            cases readA P env h o.op with
            | none => rfl
            | some v => exact cSeq_eq P nt ops call rest _ _
          | nw =>
            simp only
            show Option.rec (motive := fun _ => Res (Env × Heap)) .fail (fun r => (cSeq P nt ops rest).run call (s env (r.2 h.next)) (h.new r.1)) ((cNw P o.op).run env) = _
            rw [cNw_eq]
            cases newA P env o.op with
            | none => rfl
            | some v => exact cSeq_eq P nt ops call rest _ _
          | act =>
            simp only
            show ((cAct P o.op).run call env h).bind _ = _
            rw [cAct_eq]
            congr 1
            funext r
            exact cSeq_eq P nt ops call rest _ _
      | some g =>
        simp only
        cases wantedA ops env o with
        | none => rfl
        | some b =>
          cases b with
          | false =>
            simp only
            cases putO nt env o.dst (.tuple []) with
            | none => rfl
            | some env1 => exact cSeq_eq P nt ops call rest env1 h
          | true =>
            simp only
            congr 1
            funext r
            cases putO nt env o.dst r.1 with
            | none => rfl
            | some env1 => exact cSeq_eq P nt ops call rest env1 r.2

def cEv (P : Program) (ops : Array Oper) (i : Nat) (o : Oper) : EvF :=
  match o.guard with
  | some _ => ⟨fun base env s => evalA P ops base env s i o⟩
  | none => match kindA P o.op with
    | .nw => match cNw P o.op with | ⟨f⟩ => ⟨fun base env _ => match f env with
      | some (ob, v) => some (v (base + i), some ob)
      | none => none⟩
    | .rd => match cRd P o.op with | ⟨f⟩ => ⟨fun _ env s => match f env s with
      | some v => some (v, none)
      | none => none⟩
    | .act => ⟨fun _ _ _ => none⟩
theorem cEv_eq (P : Program) (ops : Array Oper) (i : Nat) (o : Oper) (base : Nat) (env : Env) (s : Heap) : (cEv P ops i o).run base env s = evalA P ops base env s i o := by
  unfold cEv
  cases hg : o.guard with
  | some g => rfl
  | none =>
    simp only [evalA, wantedA, hg]
    cases kindA P o.op with
    | rd =>
      show (match (cRd P o.op).run env s with
        | some v => some (v, none)
        | none => none) = _
      rw [cRd_eq]
      cases readA P env s o.op <;> rfl
    | nw =>
      show (match (cNw P o.op).run env with
        | some (ob, v) => some (v (base + i), some ob)
        | none => none) = _
      rw [cNw_eq]
      cases newA P env o.op with
      | none => rfl
      | some r => rfl
    | act => rfl

def cDraw (P : Program) (nt : Nat) (ops : Array Oper) (M : List Nat) : List Nat → DrawF
  | [] => ⟨fun _ _ env h _ => .ok (env, h)⟩
  | i :: rest =>
    match ops[i]? with
    | none => ⟨fun _ _ _ _ _ => .fail⟩
    | some o =>
      match kindA P o.op with
      | .act => match cAct P o.op, cPut nt o.dst, cWant ops o with
        | ⟨f⟩, ⟨p⟩, ⟨wt⟩ => ⟨fun call base env h snaps => match wt env with
          | none => .fail
          | some false => match p env (.tuple []) with
            | some env => (cDraw P nt ops M rest).run call base env h ((i + 1, h) :: snaps)
            | none => .fail
          | some true => (f call env h).bind fun r => match p env r.1 with
            | some env => (cDraw P nt ops M rest).run call base env r.2 ((i + 1, r.2) :: snaps)
            | none => .fail⟩
      | .nw => match cEv P ops i o, cPut nt o.dst with
        | ⟨f⟩, ⟨p⟩ => ⟨fun call base env h snaps => match snaps with
          | [] => .fail
          | (a, s) :: older => match f base env s with
            | none => .fail
            | some (v, ob) => match p env v with
              | some env => (cDraw P nt ops M rest).run call base env (putOb h (base + i) ob) ((a, s) :: older)
              | none => .fail⟩
      | .rd => match cEv P ops i o, cPut nt o.dst with
        | ⟨f⟩, ⟨p⟩ => ⟨fun call base env h snaps => match snaps with
          | [] => .fail
          | (a, s) :: older => match f base env s with
            | none => .fail
            | some (v, ob) => match olderOk (M.getD i 0) (fun s' => sameV (f base env s') v) ((a, s) :: older) with
              | true => match p env v with
                | some env => (cDraw P nt ops M rest).run call base env (putOb h (base + i) ob) ((a, s) :: older)
                | none => .fail
              | false => .fail⟩

theorem cDraw_eq (P : Program) (nt : Nat) (ops : Array Oper) (M : List Nat) (call : CallF) (base : Nat) : ∀ (l : List Nat) (env : Env) (h : Heap) (snaps : List (Nat × Heap)),
    (cDraw P nt ops M l).run call base env h snaps = drawA P call nt ops M base l env h snaps
  | [], env, h, snaps => rfl
  | i :: rest, env, h, snaps => by
    simp only [cDraw, drawA]
    cases ho : ops[i]? with
    | none => rfl
    | some o =>
      simp only
      cases hk : kindA P o.op with
      | act =>
        simp only
        show (match (cWant ops o).run env with
          | none => Res.fail
          | some false => match (cPut nt o.dst).run env (.tuple []) with
            | some env => (cDraw P nt ops M rest).run call base env h ((i + 1, h) :: snaps)
            | none => .fail
          | some true => ((cAct P o.op).run call env h).bind fun r => match (cPut nt o.dst).run env r.1 with
            | some env => (cDraw P nt ops M rest).run call base env r.2 ((i + 1, r.2) :: snaps)
            | none => .fail) = _
        rw [cWant_eq]
        simp only [cPut_eq, cAct_eq, cDraw_eq P nt ops M call base rest]
        cases wantedA ops env o with
        | none => rfl
        | some b =>
          cases b with
          | false => cases putO nt env o.dst (.tuple []) <;> rfl
          | true =>
            simp only
            congr 1
      | nw =>
        simp only
        show (match snaps with
          | [] => Res.fail
          | (a, s) :: older => match (cEv P ops i o).run base env s with
            | none => .fail
            | some (v, ob) => match (cPut nt o.dst).run env v with
              | some env => (cDraw P nt ops M rest).run call base env (putOb h (base + i) ob) ((a, s) :: older)
              | none => .fail) = _
        simp only [cPut_eq, cEv_eq, cDraw_eq P nt ops M call base rest]
        cases snaps with
        | nil => rfl
        | cons s older =>
          obtain ⟨a, s⟩ := s
          simp only
          cases evalA P ops base env s i o with
          | none => rfl
          | some r =>
            obtain ⟨v, ob⟩ := r
            simp only [show (Kind.nw == Kind.nw) = true from rfl, Bool.true_or, if_true]
            cases putO nt env o.dst v <;> rfl
      | rd =>
        simp only
        show (match snaps with
          | [] => Res.fail
          | (a, s) :: older => match (cEv P ops i o).run base env s with
            | none => .fail
            | some (v, ob) => match olderOk (M.getD i 0) (fun s' => sameV ((cEv P ops i o).run base env s') v) ((a, s) :: older) with
              | true => match (cPut nt o.dst).run env v with
                | some env => (cDraw P nt ops M rest).run call base env (putOb h (base + i) ob) ((a, s) :: older)
                | none => .fail
              | false => .fail) = _
        simp only [cPut_eq, cEv_eq, cDraw_eq P nt ops M call base rest]
        cases snaps with
        | nil => rfl
        | cons s older =>
          obtain ⟨a, s⟩ := s
          simp only
          cases evalA P ops base env s i o with
          | none => rfl
          | some r =>
            obtain ⟨v, ob⟩ := r
            simp only [show (Kind.rd == Kind.nw) = false from rfl, Bool.false_or]
            cases olderOk (M.getD i 0) (fun s' => sameV (evalA P ops base env s' i o) v) ((a, s) :: older) with
            | false => rfl
            | true =>
              simp only [if_true]
              cases putO nt env o.dst v <;> rfl

def cReg (P : Program) (nt : Nat) (ops : Array Oper) (draw : Bool) : RegF :=
  match draw with
  | true => match planOf P ops with
    | some pl => match cDraw P nt ops pl.masks pl.ord with
      | ⟨f⟩ => ⟨fun call env h => f call h.next env { h with next := h.next + ops.size } [(0, { h with next := h.next + ops.size })]⟩
    | none => ⟨fun _ _ _ => .fail⟩
  | false => cSeq P nt ops (List.range ops.size)
theorem cReg_eq (P : Program) (nt : Nat) (ops : Array Oper) (draw : Bool) (call : CallF) (env : Env) (h : Heap) : (cReg P nt ops draw).run call env h = regionA P call nt ops draw env h := by
  cases draw with
  | false => exact cSeq_eq P nt ops call _ env h
  | true =>
    simp only [cReg, regionA, if_true]
    cases planOf P ops with
    | none => rfl
    | some pl => exact cDraw_eq P nt ops pl.masks call h.next pl.ord env _ _

/-- Rounds. -/
def iterB (body : Env → Heap → Out) (n : Nat) : Env → Heap → Out :=
  Nat.rec (motive := fun _ => Env → Heap → Out) (fun _ _ => .fail)
    (fun _ ih env h => (body env h).bind fun r => AExit.rec (motive := fun _ => Out) (ih r.2.1 r.2.2) (fun _ => .ok r) (.ok r) r.1) n
theorem iterB_eq (body : Env → Heap → Out) : ∀ (n : Nat) (env : Env) (h : Heap), iterB body n env h = iterA body n env h
  | 0, _, _ => rfl
  | n + 1, env, h => by
    show (body env h).bind _ = (body env h).bind _
    congr 1
    funext r
    obtain ⟨e, env', h'⟩ := r
    cases e with
    | norm => exact iterB_eq body n env' h'
    | exit id => rfl
    | ret => rfl

def cCode (P : Program) (nt : Nat) : Code → CodeF
  | .skip => ⟨fun _ _ env h => .ok (.norm, env, h)⟩
  | .region _ ops draw => match cReg P nt ops draw with | ⟨f⟩ => ⟨fun call _ env h => (f call env h).bind fun r => .ok (.norm, r.1, r.2)⟩
  | .seq a b => ⟨fun call n env h => ((cCode P nt a).run call n env h).bind fun r => AExit.rec (motive := fun _ => Out) ((cCode P nt b).run call n r.2.1 r.2.2) (fun _ => .ok r) (.ok r) r.1⟩
  | .cond c a b => match cOpd c with | ⟨f⟩ => ⟨fun call n env h => Option.rec (motive := fun _ => Out) .fail (fun v => Bool.rec (motive := fun _ => Out) ((cCode P nt b).run call n env h) ((cCode P nt a).run call n env h) v) (getBool (f env))⟩
  | .block id c => ⟨fun call n env h => ((cCode P nt c).run call n env h).bind fun r => AExit.rec (motive := fun _ => Out) (.ok r) (fun id' => Bool.rec (motive := fun _ => Out) (.ok (.exit id', r.2)) (.ok (.norm, r.2)) (Nat.beq id' id)) (.ok r) r.1⟩
  | .loop c => ⟨fun call n env h => iterB (fun env h => (cCode P nt c).run call n env h) n env h⟩
  | .exit id => ⟨fun _ _ env h => .ok (.exit id, env, h)⟩
  | .ret => ⟨fun _ _ env h => .ok (.ret, env, h)⟩
  | c => ⟨fun call n env h => codeA P call nt n c env h⟩

theorem cCode_eq (P : Program) (nt : Nat) (call : CallF) (n : Nat) : ∀ (c : Code) (env : Env) (h : Heap), (cCode P nt c).run call n env h = codeA P call nt n c env h := by
  intro c
  induction c with
  | skip => intro env h; rfl
  | region id ops draw =>
    intro env h
    simp only [codeA]
    rw [← cReg_eq]
    rfl
  | seq a b iha ihb =>
    intro env h
    simp only [codeA, ← iha]
    show ((cCode P nt a).run call n env h).bind _ = _
    congr 1
    funext r
    obtain ⟨e, env', h'⟩ := r
    cases e with
    | norm => exact ihb _ _
    | exit id => rfl
    | ret => rfl
  | cond c a b iha ihb =>
    intro env h
    simp only [codeA]
    show Option.rec (motive := fun _ => Out) .fail (fun v => Bool.rec (motive := fun _ => Out) ((cCode P nt b).run call n env h) ((cCode P nt a).run call n env h) v) (getBool ((cOpd c).run env)) = _
    rw [cOpd_eq]
    simp only [iha, ihb]
    cases opd env c with
    | bool b => cases b <;> rfl
    | _ => rfl
  | block id c ih =>
    intro env h
    simp only [codeA, ← ih]
    show ((cCode P nt c).run call n env h).bind _ = _
    congr 1
    funext r
    obtain ⟨e, env', h'⟩ := r
    cases e with
    | norm => rfl
    | ret => rfl
    | exit id' =>
      simp only
      cases hb : Nat.beq id' id with
      | true => have := Nat.eq_of_beq_eq_true hb; simp [this]
      | false => have := Nat.ne_of_beq_eq_false hb; simp [this]
  | loop c ih =>
    intro env h
    simp only [codeA]
    show iterB (fun env h => (cCode P nt c).run call n env h) n env h = _
    rw [iterB_eq]
    congr 1
    funext env h
    exact ih env h
  | exit id => intro env h; rfl
  | ret => intro env h; rfl
  | _ => intro env h; rfl

structure ResF where
  run : Env → Heap → Option AV
structure RessF where
  run : Env → Heap → Option (List AV)
def cRes (P : Program) (r : ResultVar) : ResF :=
  match r with
  | .tmp t => match cGet (pathOf t) with | ⟨f⟩ => ⟨fun env _ => some (f env)⟩
  | .cell a t => match cGet (pathOf a), cLoad P t with | ⟨f⟩, ⟨l⟩ => ⟨fun env h => l (f env) h⟩
theorem cRes_eq (P : Program) (r : ResultVar) (env : Env) (h : Heap) : (cRes P r).run env h = resA P env h r := by
  cases r with
  | tmp t => exact congrArg some (cGet_eq _ _)
  | cell a t =>
    show (cLoad P t).run ((cGet (pathOf a)).run env) h = _
    rw [cLoad_eq, cGet_eq]; rfl
def cRess (P : Program) : List ResultVar → RessF
  | [] => ⟨fun _ _ => some []⟩
  | r :: rs => match cRes P r, cRess P rs with
    | ⟨f⟩, ⟨g⟩ => ⟨fun env h => Option.rec (motive := fun _ => Option (List AV)) none (fun v => Option.rec (motive := fun _ => Option (List AV)) none (fun vs => some (v :: vs)) (g env h)) (f env h)⟩
theorem cRess_eq (P : Program) (env : Env) (h : Heap) : ∀ rs : List ResultVar, (cRess P rs).run env h = resList P env h rs
  | [] => rfl
  | r :: rs => by
    show Option.rec (motive := fun _ => Option (List AV)) none (fun v => Option.rec (motive := fun _ => Option (List AV)) none (fun vs => some (v :: vs)) ((cRess P rs).run env h)) ((cRes P r).run env h) = _
    rw [cRes_eq, cRess_eq P env h rs, resList]
    cases resA P env h r with
    | none => rfl
    | some v => cases resList P env h rs <;> rfl
def oneOf (vs : List AV) : AV := List.rec (motive := fun _ => AV) (.tuple vs) (fun v r _ => List.rec (motive := fun _ => AV) v (fun _ _ _ => .tuple vs) r) vs
theorem ress_eq (P : Program) (fn : Func) (env : Env) (h : Heap) : Option.rec (motive := fun _ => Option AV) none (fun vs => some (oneOf vs)) ((cRess P fn.results.toList).run env h) = resultsA P fn env h := by
  rw [cRess_eq]
  unfold resultsA
  cases resList P env h fn.results.toList with
  | none => rfl
  | some vs =>
    match vs with
    | [] => rfl
    | [v] => rfl
    | v :: w :: r => rfl

/-- A function's text, laid out. -/
structure FnF where
  run : CallF → Nat → List AV → Heap → Res (AV × Heap)

def cFn (P : Program) (f : FuncId) : Option FnF :=
  match P.funcs[f]? with
  | none => none
  | some fn => match fn.body with
    | none => none
    | some c => match cCode P fn.ntmps c, cRess P fn.results.toList with
      | ⟨g⟩, ⟨rs⟩ => some ⟨fun call n args h => Bool.rec (motive := fun _ => Res (AV × Heap)) .fail
        ((g call n (argsEnv 0 args .nil) h).bind fun r => AExit.rec (motive := fun _ => Res (AV × Heap))
          (Option.rec (motive := fun _ => Res (AV × Heap)) .fail (fun vs => .ok (oneOf vs, r.2.2)) (rs r.2.1 r.2.2))
          (fun _ => .fail)
          (Option.rec (motive := fun _ => Res (AV × Heap)) .fail (fun vs => .ok (oneOf vs, r.2.2)) (rs r.2.1 r.2.2)) r.1) (Nat.ble (lenF args) fn.ntmps)⟩

/-- Contracts, by the function's number first. -/
structure IntrF where
  run : List AV → Heap → Option (Res (AV × Heap))

def callB (P : Program) (J : FuncId → Option IntrF) : Nat → FuncId → List AV → Heap → Res (AV × Heap)
  | 0, _, _, _ => .fail
  | n + 1, f, args, h =>
    match J f with
    | some ⟨g⟩ => match g args h with
      | some r => r
      | none => match cFn P f with
        | some ⟨k⟩ => k (callB P J n) n args h
        | none => .fail
    | none => match cFn P f with
      | some ⟨k⟩ => k (callB P J n) n args h
      | none => .fail

theorem cFn_eq (P : Program) (f : FuncId) (call : CallF) (n : Nat) (args : List AV) (h : Heap) :
    (match cFn P f with
      | some ⟨k⟩ => k call n args h
      | none => Res.fail) = match P.funcs[f]? with
      | none => .fail
      | some fn => match fn.body with
        | none => .fail
        | some c => bodyA P call n fn c args h := by
  unfold cFn
  cases P.funcs[f]? with
  | none => rfl
  | some fn =>
    simp only
    cases fn.body with
    | none => rfl
    | some c =>
      simp only [bodyA]
      have hres : ∀ (env' : Env) (h' : Heap), Option.rec (motive := fun _ => Res (AV × Heap)) .fail (fun vs => .ok (oneOf vs, h')) ((cRess P fn.results.toList).run env' h') = match resultsA P fn env' h' with
          | some v => Res.ok (v, h')
          | none => .fail := by
        intro env' h'
        rw [← ress_eq]
        cases (cRess P fn.results.toList).run env' h' <;> rfl
      show Bool.rec (motive := fun _ => Res (AV × Heap)) .fail
        (((cCode P fn.ntmps c).run call n (argsEnv 0 args .nil) h).bind fun r => AExit.rec (motive := fun _ => Res (AV × Heap))
          (Option.rec (motive := fun _ => Res (AV × Heap)) .fail (fun vs => .ok (oneOf vs, r.2.2)) ((cRess P fn.results.toList).run r.2.1 r.2.2))
          (fun _ => .fail)
          (Option.rec (motive := fun _ => Res (AV × Heap)) .fail (fun vs => .ok (oneOf vs, r.2.2)) ((cRess P fn.results.toList).run r.2.1 r.2.2)) r.1) (Nat.ble (lenF args) fn.ntmps) = _
      simp only [hres, lenF_eq]
      rw [cCode_eq]
      by_cases hl : args.length ≤ fn.ntmps
      · rw [if_pos hl, Nat.ble_eq_true_of_le hl]
        simp only
        congr 1
        funext r
        obtain ⟨e, env', h'⟩ := r
        cases e <;> rfl
      · have : Nat.ble args.length fn.ntmps = false := by
          cases hb : Nat.ble args.length fn.ntmps with
          | false => rfl
          | true => exact absurd (Nat.le_of_ble_eq_true hb) hl
        rw [if_neg hl, this]

theorem callB_eq (P : Program) {I : Intr} {J : FuncId → Option IntrF} (hJ : ∀ f args h, I f args h = match J f with
    | some ⟨g⟩ => g args h
    | none => none) : ∀ n, callB P J n = callA P I n := by
  intro n
  induction n with
  | zero => rfl
  | succ n ih =>
    funext f args h
    simp only [callB, callA, ih, cFn_eq]
    rw [hJ]
    cases J f with
    | none => rfl
    | some g =>
      simp only
      cases g.run args h <;> rfl
end Go.Am
end
