/- Locs: slices.Sorted(maps.Keys(..)). -/
import Derived.Test.YtbbihimlahngfaaPlace
import Derived.Test.YtbbihimlahngfaaIter
import Derived.Test.YtbbihimlahngfaaSortJ
import Derived.Test.YtbbihimlahngfaaLay
namespace Go.Proofs.Ytbbihimlahngfaa
open Go.RowKit Go.Maps Go.Sort Go.Shelf

abbrev u16s (L : List Int) : List Value := L.map (Value.int .u16)
def own16 (w w' : World) (v : Value) (L : List Int) : Prop := ∃ A c, v = .slice A L.length c ∧ w'.ownsRow 0 29 1 (.slice A L.length c) L.length (u16s L) ∧ Kept Emp w w' ∧ ∀ k, (Value.slice A L.length c).ownBlock = some k → w.heap.size ≤ k

theorem sorts_wide (m : Nat) : AnyU.SortsIn Try.prog Try.itRen Fence.wide m :=
  ⟨fun blk off cap ss W hH hblk hsz => callsIn_wide.2 (so_slices_Sort_int blk off cap ss W hH hblk hsz), fun p cap W => callsIn_wide.2 (so_Sort_int_nil p cap W)⟩

theorem keys_any (mb : Nat) (w : World) : Calls Try.prog 30 #[.map (some mb)] w fun e w' => e = .returned (.func (.func 33) #[] #[.pointer (some ⟨w.heap.size, 0, none⟩)]) ∧ w' = w.alloc (.cells #[.map (some mb)] 42) :=
  callsIn_wide.1 (AnyU.keys_in Try.keysL Fence.wide 1 trivial rfl (some mb) w)

theorem keys_dm (L : Row) : u16Keys (dm L) = L.map (·.1) := by
  simp [u16Keys, dm, enc, Go.intOf]
theorem sort_row {L : Row} (hL : Ris L) {ss : List Int} (h : ss.Perm (u16Keys (dm L))) : (ss.mergeSort fun x y => decide (x ≤ y)) = L.map (·.1) := by
  rw [keys_dm] at h
  have h1 := mergeSort_of_perm_i h
  have h2 : (L.map (·.1)).mergeSort leI = L.map (·.1) := by
    refine List.mergeSort_of_pairwise (List.pairwise_map.2 (hL.imp fun {p q} h => ?_))
    simp only [leI, decide_eq_true_eq]; omega
  exact h1.trans h2

theorem sorted_any (mb n : Nat) (L : Row) (hL : Ris L) (hs : L.length ≤ 70000) (B : Nat) (w : World) (hB : B < w.heap.size) (hc : w.cell? ⟨B, 0, none⟩ = some (.map (some mb))) (hm : w.ownsMap Try.prog 29 (plainElem (H := Unit) Try.prog 5) mb n (dm L)) :
    Calls Try.prog 29 #[.func (.func 33) #[] #[.pointer (some ⟨B, 0, none⟩)]] w fun e w' => ∃ v, e = .returned v ∧ own16 w w' v (L.map (·.1)) := by
  have hg : SeqGives Fence.wide 1 Try.prog 33 #[.pointer (some ⟨B, 0, none⟩)] encU (fun ss => ss.Perm (u16Keys (dm L))) (Maps.size (dm L)) w :=
    AnyU.keys_gives { Try.keysL with } Fence.wide 1 trivial rfl (Nat.le_refl _) B mb n (dm L) w hB hc hm
  have hsz := size_dm L
  refine (callsIn_wide.1 (AnyU.sorted_in Try.sortedL Fence.wide 4 trivial trivial trivial trivial rfl (Nat.le_refl _) (sorts_wide _) (enters_of Try.func32 (by kernel_rfl) rfl) 33 _ trivial (enters_of Try.func33 (by kernel_rfl) rfl) _ (Maps.size (dm L)) (by unfold maxLen; omega) (by omega) w hg)).mono ?_
  rintro e w' ⟨v, ss, rfl, hS, hrow, hnil, hb⟩
  have hlen : ss.length = (L.map (·.1)).length := by rw [hS.length_eq, keys_dm]
  rw [sort_row hL hS, hlen] at hrow
  refine ⟨_, rfl, ?_⟩
  obtain ⟨A, c, rfl, _⟩ := own_slice hrow
  refine ⟨A, c, rfl, ownsRow_base_a hrow (Nat.zero_le _), ⟨hb.os, hb.tape, hb.output, hb.size, fun k hk _ => hb.block k hk⟩, fun k hk => (hrow.lt k hk).1⟩

theorem locs_any {w : World} {b mb : Nat} {s : St} (h : PRep w b mb s) (hr : Ris s.L) (hs : s.L.length ≤ 70000) :
    Calls Try.prog 22 #[.pointer (some ⟨b, 32, none⟩)] w fun e w' => ∃ v, e = .returned v ∧ own16 w w' v (s.L.map (·.1)) := by
  have c0 := h.mapc
  have hm := h.map
  have hx := sorted_any mb s.L.length s.L hr hs w.heap.size (w.alloc (.cells #[.map (some mb)] 42)) (by simp) (by simp) (hm.alloc _)
  have HX := Lib.hid hx
  clear hx hm hr hs h
  go_enter Try.func22, Try.ntmps22
  go_wp2_with (first
    | (go_at_call 30; refine (keys_any mb _).mono ?_; rintro e w' ⟨rfl, rfl⟩)
    | (go_at_call 29; refine (HX.out).mono ?_; rintro e w' ⟨v, rfl, h16⟩))
  go_ret
  obtain ⟨A, c, rfl, h1, h2, h3⟩ := h16
  exact ⟨_, rfl, A, c, rfl, h1, ((Kept.refl Emp w).alloc _).trans_emp h2, fun k hk => by have := h3 k hk; simp at this; omega⟩
end Go.Proofs.Ytbbihimlahngfaa
