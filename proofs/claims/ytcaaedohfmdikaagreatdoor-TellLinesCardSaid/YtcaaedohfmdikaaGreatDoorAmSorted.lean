/- Part of the proof of TellLines: its text AmSorted. Conditions: none. -/
import Derived.Test.YtcaaedohfmdikaaGreatDoorAmSort
import Derived.Test.YtcaaedohfmdikaaGreatDoorAmPlain
set_option linter.unusedSimpArgs false
set_option linter.unusedVariables false
open Go Go.Am Go.Proofs Go.RowKit Go.Maps Go.Sort Go.Shelf
namespace Go.Am
theorem sorts45 (m : Nat) : AnyZ.SortsIn Tryz.prog Tryz.sorted45_ren Fence.wide m :=
  ⟨fun blk off cap ss W hH hblk hsz => callsIn_wide.2 (AnyM.slices_Sort_string Tryz.sort96 blk off cap ss W hH hblk hsz),
   fun p cap W => callsIn_wide.2 (AnyM.slices_Sort_string_none Tryz.sort96 p cap W)⟩
theorem max_le {n : Nat} (h : n ≤ 1000) : n ≤ maxLen := Nat.le_trans h (by decide)
theorem cell_at {W : World} {c : Nat} {v : Value} {T : TypeId} (hc : W.heap[c]? = some (.cells #[v] T (0, 0))) : W.cell? ⟨c, 0, none⟩ = some v := by simp [World.cell?, hc]
theorem lt_at {W : World} {c : Nat} {o : Obj} (hc : W.heap[c]? = some o) : c < W.heap.size := (Array.getElem?_eq_some_iff.1 hc).1

theorem keysAt46 : KeysAt Tryz.prog 46 97 29 := ⟨⟨_, Tryz.func46, by kernel_rfl⟩, fun mb W => callsIn_wide.1 (AnyZ.keys_in Tryz.keys46 Fence.wide 5 trivial rfl mb W)⟩
set_option maxHeartbeats 1000000 in
theorem sortedAt46 : SortedAt Tryz.prog 45 97 29 9 := by
  refine ⟨⟨_, Tryz.func45, by kernel_rfl⟩, by kernel_rfl, ?_, ?_⟩
  · intro c W hc
    have hseq : SeqGives Fence.wide 2 Tryz.prog 97 #[.pointer (some ⟨c, 0, none⟩)] encStr (fun ss : List (List UInt8) => ss = []) 0 W :=
      AnyZ.keys_gives_nil (ρ := Tryz.keys46_ren) { Tryz.keys46 with } Fence.wide _ trivial rfl c _ (lt_at hc) (cell_at hc)
    exact callsIn_wide.1 (AnyZ.sorted_in Tryz.sorted45 Fence.wide 5 trivial trivial trivial trivial rfl (by omega) (sorts45 _) (enters_of Tryz.func96 (by kernel_rfl) rfl) 97 #[.pointer (some ⟨c, 0, none⟩)] trivial (enters_of Tryz.func97 (by kernel_rfl) rfl) _ 0 (Nat.zero_le _) (by omega) _ hseq)
  · intro c b nn D W hc hown hmax
    have hseq : SeqGives Fence.wide 2 Tryz.prog 97 #[.pointer (some ⟨c, 0, none⟩)] encStr (fun ss => ss.Perm (strKeys D)) (Maps.size D) W :=
      AnyZ.keys_gives (ρ := Tryz.keys46_ren) { Tryz.keys46 with } Fence.wide _ trivial rfl (by omega) c b nn D _ (lt_at hc) (cell_at hc) hown
    exact callsIn_wide.1 (AnyZ.sorted_in Tryz.sorted45 Fence.wide 5 trivial trivial trivial trivial rfl (by omega) (sorts45 _) (enters_of Tryz.func96 (by kernel_rfl) rfl) 97 #[.pointer (some ⟨c, 0, none⟩)] trivial (enters_of Tryz.func97 (by kernel_rfl) rfl) _ _ (max_le hmax) (by omega) _ hseq)

theorem keysAt54 : KeysAt Tryz.prog 54 111 125 := ⟨⟨_, Tryz.func54, by kernel_rfl⟩, fun mb W => callsIn_wide.1 (AnyZ.keys_in Tryz.keys54 Fence.wide 5 trivial rfl mb W)⟩
set_option maxHeartbeats 1000000 in
theorem sortedAt54 : SortedAt Tryz.prog 45 111 125 9 := by
  refine ⟨⟨_, Tryz.func45, by kernel_rfl⟩, by kernel_rfl, ?_, ?_⟩
  · intro c W hc
    have hseq : SeqGives Fence.wide 2 Tryz.prog 111 #[.pointer (some ⟨c, 0, none⟩)] encStr (fun ss : List (List UInt8) => ss = []) 0 W :=
      AnyZ.keys_gives_nil (ρ := Tryz.keys54_ren) { Tryz.keys54 with } Fence.wide _ trivial rfl c _ (lt_at hc) (cell_at hc)
    exact callsIn_wide.1 (AnyZ.sorted_in Tryz.sorted45 Fence.wide 5 trivial trivial trivial trivial rfl (by omega) (sorts45 _) (enters_of Tryz.func96 (by kernel_rfl) rfl) 111 #[.pointer (some ⟨c, 0, none⟩)] trivial (enters_of Tryz.func111 (by kernel_rfl) rfl) _ 0 (Nat.zero_le _) (by omega) _ hseq)
  · intro c b nn D W hc hown hmax
    have hseq : SeqGives Fence.wide 2 Tryz.prog 111 #[.pointer (some ⟨c, 0, none⟩)] encStr (fun ss => ss.Perm (strKeys D)) (Maps.size D) W :=
      AnyZ.keys_gives (ρ := Tryz.keys54_ren) { Tryz.keys54 with } Fence.wide _ trivial rfl (by omega) c b nn D _ (lt_at hc) (cell_at hc) hown
    exact callsIn_wide.1 (AnyZ.sorted_in Tryz.sorted45 Fence.wide 5 trivial trivial trivial trivial rfl (by omega) (sorts45 _) (enters_of Tryz.func96 (by kernel_rfl) rfl) 111 #[.pointer (some ⟨c, 0, none⟩)] trivial (enters_of Tryz.func111 (by kernel_rfl) rfl) _ _ (max_le hmax) (by omega) _ hseq)

theorem keysAt159 : KeysAt Tryz.prog 159 258 179 := ⟨⟨_, Tryz.func159, by kernel_rfl⟩, fun mb W => callsIn_wide.1 (AnyZ.keys_in Tryz.keys159 Fence.wide 5 trivial rfl mb W)⟩
set_option maxHeartbeats 1000000 in
theorem sortedAt159 : SortedAt Tryz.prog 45 258 179 9 := by
  refine ⟨⟨_, Tryz.func45, by kernel_rfl⟩, by kernel_rfl, ?_, ?_⟩
  · intro c W hc
    have hseq : SeqGives Fence.wide 2 Tryz.prog 258 #[.pointer (some ⟨c, 0, none⟩)] encStr (fun ss : List (List UInt8) => ss = []) 0 W :=
      AnyZ.keys_gives_nil (ρ := Tryz.keys159_ren) { Tryz.keys159 with } Fence.wide _ trivial rfl c _ (lt_at hc) (cell_at hc)
    exact callsIn_wide.1 (AnyZ.sorted_in Tryz.sorted45 Fence.wide 5 trivial trivial trivial trivial rfl (by omega) (sorts45 _) (enters_of Tryz.func96 (by kernel_rfl) rfl) 258 #[.pointer (some ⟨c, 0, none⟩)] trivial (enters_of Tryz.func258 (by kernel_rfl) rfl) _ 0 (Nat.zero_le _) (by omega) _ hseq)
  · intro c b nn D W hc hown hmax
    have hseq : SeqGives Fence.wide 2 Tryz.prog 258 #[.pointer (some ⟨c, 0, none⟩)] encStr (fun ss => ss.Perm (strKeys D)) (Maps.size D) W :=
      AnyZ.keys_gives (ρ := Tryz.keys159_ren) { Tryz.keys159 with } Fence.wide _ trivial rfl (by omega) c b nn D _ (lt_at hc) (cell_at hc) hown
    exact callsIn_wide.1 (AnyZ.sorted_in Tryz.sorted45 Fence.wide 5 trivial trivial trivial trivial rfl (by omega) (sorts45 _) (enters_of Tryz.func96 (by kernel_rfl) rfl) 258 #[.pointer (some ⟨c, 0, none⟩)] trivial (enters_of Tryz.func258 (by kernel_rfl) rfl) _ _ (max_le hmax) (by omega) _ hseq)

theorem keysAt311 : KeysAt Tryz.prog 311 353 191 := ⟨⟨_, Tryz.func311, by kernel_rfl⟩, fun mb W => callsIn_wide.1 (AnyZ.keys_in Tryz.keys311 Fence.wide 5 trivial rfl mb W)⟩
set_option maxHeartbeats 1000000 in
theorem sortedAt311 : SortedAt Tryz.prog 45 353 191 9 := by
  refine ⟨⟨_, Tryz.func45, by kernel_rfl⟩, by kernel_rfl, ?_, ?_⟩
  · intro c W hc
    have hseq : SeqGives Fence.wide 2 Tryz.prog 353 #[.pointer (some ⟨c, 0, none⟩)] encStr (fun ss : List (List UInt8) => ss = []) 0 W :=
      AnyZ.keys_gives_nil (ρ := Tryz.keys311_ren) { Tryz.keys311 with } Fence.wide _ trivial rfl c _ (lt_at hc) (cell_at hc)
    exact callsIn_wide.1 (AnyZ.sorted_in Tryz.sorted45 Fence.wide 5 trivial trivial trivial trivial rfl (by omega) (sorts45 _) (enters_of Tryz.func96 (by kernel_rfl) rfl) 353 #[.pointer (some ⟨c, 0, none⟩)] trivial (enters_of Tryz.func353 (by kernel_rfl) rfl) _ 0 (Nat.zero_le _) (by omega) _ hseq)
  · intro c b nn D W hc hown hmax
    have hseq : SeqGives Fence.wide 2 Tryz.prog 353 #[.pointer (some ⟨c, 0, none⟩)] encStr (fun ss => ss.Perm (strKeys D)) (Maps.size D) W :=
      AnyZ.keys_gives (ρ := Tryz.keys311_ren) { Tryz.keys311 with } Fence.wide _ trivial rfl (by omega) c b nn D _ (lt_at hc) (cell_at hc) hown
    exact callsIn_wide.1 (AnyZ.sorted_in Tryz.sorted45 Fence.wide 5 trivial trivial trivial trivial rfl (by omega) (sorts45 _) (enters_of Tryz.func96 (by kernel_rfl) rfl) 353 #[.pointer (some ⟨c, 0, none⟩)] trivial (enters_of Tryz.func353 (by kernel_rfl) rfl) _ _ (max_le hmax) (by omega) _ hseq)

theorem keysAt326 : KeysAt Tryz.prog 326 357 409 := ⟨⟨_, Tryz.func326, by kernel_rfl⟩, fun mb W => callsIn_wide.1 (AnyZ.keys_in Tryz.keys326 Fence.wide 5 trivial rfl mb W)⟩
set_option maxHeartbeats 1000000 in
theorem sortedAt326 : SortedAt Tryz.prog 45 357 409 9 := by
  refine ⟨⟨_, Tryz.func45, by kernel_rfl⟩, by kernel_rfl, ?_, ?_⟩
  · intro c W hc
    have hseq : SeqGives Fence.wide 2 Tryz.prog 357 #[.pointer (some ⟨c, 0, none⟩)] encStr (fun ss : List (List UInt8) => ss = []) 0 W :=
      AnyZ.keys_gives_nil (ρ := Tryz.keys326_ren) { Tryz.keys326 with } Fence.wide _ trivial rfl c _ (lt_at hc) (cell_at hc)
    exact callsIn_wide.1 (AnyZ.sorted_in Tryz.sorted45 Fence.wide 5 trivial trivial trivial trivial rfl (by omega) (sorts45 _) (enters_of Tryz.func96 (by kernel_rfl) rfl) 357 #[.pointer (some ⟨c, 0, none⟩)] trivial (enters_of Tryz.func357 (by kernel_rfl) rfl) _ 0 (Nat.zero_le _) (by omega) _ hseq)
  · intro c b nn D W hc hown hmax
    have hseq : SeqGives Fence.wide 2 Tryz.prog 357 #[.pointer (some ⟨c, 0, none⟩)] encStr (fun ss => ss.Perm (strKeys D)) (Maps.size D) W :=
      AnyZ.keys_gives (ρ := Tryz.keys326_ren) { Tryz.keys326 with } Fence.wide _ trivial rfl (by omega) c b nn D _ (lt_at hc) (cell_at hc) hown
    exact callsIn_wide.1 (AnyZ.sorted_in Tryz.sorted45 Fence.wide 5 trivial trivial trivial trivial rfl (by omega) (sorts45 _) (enters_of Tryz.func96 (by kernel_rfl) rfl) 357 #[.pointer (some ⟨c, 0, none⟩)] trivial (enters_of Tryz.func357 (by kernel_rfl) rfl) _ _ (max_le hmax) (by omega) _ hseq)

/-- Iterators over a map's keys, by their numbers, with the map's type. -/
def itersOf (g : FuncId) : Option TypeId :=
  if g = 97 then some 29 else
  if g = 111 then some 125 else
  if g = 258 then some 179 else
  if g = 353 then some 191 else
  if g = 357 then some 409 else
  none
/-- maps.Keys, by its numbers: the iterator, and the map's type. -/
def keysNo (f : FuncId) : Option (FuncId × TypeId) :=
  if f = 46 then some (97, 29) else
  if f = 54 then some (111, 125) else
  if f = 159 then some (258, 179) else
  if f = 311 then some (353, 191) else
  if f = 326 then some (357, 409) else
  none
theorem itersOf_at {g : FuncId} {T : TypeId} (h : itersOf g = some T) : SortedAt Tryz.prog 45 g T 9 := by
  unfold itersOf at h
  split at h
  · rename_i e; subst e; cases h; exact sortedAt46
  split at h
  · rename_i e; subst e; cases h; exact sortedAt54
  split at h
  · rename_i e; subst e; cases h; exact sortedAt159
  split at h
  · rename_i e; subst e; cases h; exact sortedAt311
  split at h
  · rename_i e; subst e; cases h; exact sortedAt326
  cases h
theorem keysNo_at {f g : FuncId} {T : TypeId} (h : keysNo f = some (g, T)) : KeysAt Tryz.prog f g T := by
  unfold keysNo at h
  split at h
  · rename_i e; subst e; cases h; exact keysAt46
  split at h
  · rename_i e; subst e; cases h; exact keysAt54
  split at h
  · rename_i e; subst e; cases h; exact keysAt159
  split at h
  · rename_i e; subst e; cases h; exact keysAt311
  split at h
  · rename_i e; subst e; cases h; exact keysAt326
  cases h
end Go.Am
