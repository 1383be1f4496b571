/- The walk over Map. -/
import Derived.Test.YtbbihimlahngfaaSteps
import Derived.Test.YtbbihimlahngfaaEntry
import Derived.BigRegion
namespace Go.Proofs.Ytbbihimlahngfaa
open Go.RowKit

theorem u8_ok {a : Nat} (h : a < 256) : (Lit.int .u8 (a : Int)).wf = true := by simp [Lit.wf, IntKind.min, IntKind.max, IntKind.bits, IntKind.signed]; omega

/-- What a region needs to know of a map's block beside another block. -/
structure Beside (w : World) (b mb : Nat) (o0 o1 : Obj) : Prop where
  h0 : ∀ q, (w.drewN q).heap[mb]? = some o0
  hs : ∀ (W : World) (i : Nat) (v : Value), (W.setCell ⟨b, i, none⟩ v).heap[mb]? = W.heap[mb]?
  hc : ∀ (W : World) (o : Obj) (i : Nat), (setMap W mb o).cell? ⟨b, i, none⟩ = W.cell? ⟨b, i, none⟩
  hf : ∀ (W : World) (o : Obj) (i : Nat), (setMap W mb o).frozen? ⟨b, i, none⟩ = W.frozen? ⟨b, i, none⟩

set_option maxRecDepth 100000 in
set_option maxHeartbeats 1600000 in
theorem map_store {w : World} {b mb : Nat} {s : St} (h : PRep w b mb s) (hr : Ris s.L) (hs : s.L.length ≤ 70000) (l a : Nat) (hl : l < 65536) (ha : a < 256) (hcode : mapCode s l a = 0) :
    Calls Try.prog 12 #[.pointer (some ⟨b, 0, none⟩), .int .u16 l, .int .u8 a] w fun e w' => e = .returned (.int .i64 0) ∧ PRep w' b mb ⟨s.k.set a 3, put s.L l a⟩ ∧ Kept (PF b mb) w w' := by
  have h1 : ¬ (64 ≤ (l : Int)) ∧ (1 ≤ (a : Int) ∧ (a : Int) ≤ 31) := by
    unfold mapCode at hcode
    split at hcode
    · cases hcode
    · omega
  have h2 : look s.L l = none ∧ isS s.k a = 0 := by
    unfold mapCode at hcode
    split at hcode
    · cases hcode
    · split at hcode
      · cases hcode
      · rename_i h
        simp only [not_or, Decidable.not_not] at h
        refine ⟨?_, h.2⟩
        simpa using h.1
  have hat := at_any h l hl
  have his := is_any h a
  rw [h2.1, show atV none = .tuple #[.int .u8 0, .bool false] from rfl] at hat
  rw [h2.2] at his
  have hkn : kn a = true := by simp [kn]; omega
  obtain ⟨v0, st, o0, o1, o2, g0, g1, g2, g3⟩ := entry_own h.map (Maps.int_keyed Try.underlying29) Try.underlying42 Try.zeroValue5 (by unfold maxLen; omega) (key := .int .u16 l) (val := .int .u8 a) (Maps.keyOf_int_mk Try.underlying29 (key_ok hl)) (plainElem_int Try.underlying5 (u8_ok ha))
  rw [put_dm _ hr] at g3
  have hne := h.ne
  have hmlt : mb < w.heap.size := lt_of_block g0
  have c32 := h.mapc
  have ca := h.kind (a := a) (by omega)
  have fa := h.head.frozen a
  obtain ⟨x, hx⟩ : ∃ x, x = s.k.getD a 0 := ⟨_, rfl⟩
  rw [← hx] at ca
  have HB := Lib.hid h
  have HAT := Lib.hid hat
  have HIS := Lib.hid his
  have HKN := Lib.hid hkn
  have G3 := Lib.hid g3
  have hq0 : ∀ W : World, W.drew.heap[mb]? = W.heap[mb]? := fun _ => rfl
  have ha32 : a < 32 := by omega
  have hs0 : ∀ (W : World) (i : Nat) (v : Value), (W.setCell ⟨b, i, none⟩ v).heap[mb]? = W.heap[mb]? := fun W i v => heap_setCell_other W _ mb v (Ne.symm hne)
  have hc0 : ∀ (W : World) (o : Obj) (i : Nat), (setMap W mb o).cell? ⟨b, i, none⟩ = W.cell? ⟨b, i, none⟩ := fun W o i => setMap_cell hne W o
  have hf0 : ∀ (W : World) (o : Obj) (i : Nat), (setMap W mb o).frozen? ⟨b, i, none⟩ = W.frozen? ⟨b, i, none⟩ := fun W o i => setMap_frozen hne W o
  have fin : ∀ W', W'.heap[mb]? = some o2 → Blk W' b 46 (((s.k.map (Value.int .i64)) ++ [Value.map (some mb)]).toArray.setIfInBounds a (.int .i64 3)) → Kept (PF b mb) w W' → PRep W' b mb ⟨s.k.set a 3, put s.L l a⟩ ∧ Kept (PF b mb) w W' := fun W' q1 q2 q3 => by
    refine ⟨⟨?_, by simpa using h.len, ?_⟩, q3⟩
    · have hl := h.len
      have e : ((s.k.map (Value.int .i64)) ++ [Value.map (some mb)]).toArray.setIfInBounds a (.int .i64 3) = (((s.k.set a 3).map (Value.int .i64)) ++ [Value.map (some mb)]).toArray := by
        simp only [List.setIfInBounds_toArray, List.map_set]
        rw [List.set_append_left _ _ (by simp [hl]; omega)]
      rw [← e]
      exact q2
    · have := own_tight (g3 W' q1)
      rw [size_dm] at this
      exact this
  have FIN := Lib.hid fin
  clear fin
  obtain ⟨N3, hN3⟩ : ∃ N3, N3 = Value.int .i64 3 := ⟨_, rfl⟩
  have e1 := g1 w.drew g0
  have e2 := g1 (w.drew.setCell ⟨b, a, none⟩ (.int .i64 3)) ((hs0 _ _ _).trans g0)
  have e3 := g1 (w.setCell ⟨b, a, none⟩ (.int .i64 3)).drew ((hs0 _ _ _).trans g0)
  have e4 := g2 (setMap w.drew mb o1) (setMap_same hmlt o1)
  have e5 := g2 ((setMap w.drew mb o1).setCell ⟨b, a, none⟩ (.int .i64 3)) ((hs0 _ _ _).trans (setMap_same hmlt o1))
  have e6 := g2 (setMap (w.drew.setCell ⟨b, a, none⟩ (.int .i64 3)) mb o1) (setMap_same (by simpa using hmlt) o1)
  have e7 := g2 (setMap (w.setCell ⟨b, a, none⟩ (.int .i64 3)).drew mb o1) (setMap_same (by simpa using hmlt) o1)
  clear g1 g2 hN3 N3
  have pmb : PF b mb mb := .inr rfl
  have pb : PF b mb b := .inl rfl
  clear hcode h2 hat his hkn g3 h hx
  go_enter Try.func12, Try.ntmps12
  go_wp2_with (first
    | (go_at_call 18; refine (HAT.out).mono ?_; rintro e w' ⟨rfl, rfl⟩)
    | (go_at_call 24; refine (known_any _ _ _).mono ?_; rintro e w' ⟨rfl, rfl⟩; rw [HKN.out])
    | (go_at_call 27; refine (HIS.out).mono ?_; rintro e w' ⟨rfl, rfl⟩))
  go_region
  all_goals go_wp2
  all_goals go_ret
  all_goals
    refine ⟨rfl, FIN.out _ ?_ ?_ ?_⟩
    · first
        | with_reducible exact setMap_same (by simpa [setMap_size] using hmlt) _
        | with_reducible exact (hs0 _ _ _).trans (setMap_same (by simpa [setMap_size] using hmlt) _)
    · repeat (first | with_reducible refine Blk.setMap ?_ hne _ | with_reducible refine Blk.drew ?_)
      with_reducible refine Blk.set_ ?_ _ _
      repeat (first | with_reducible refine Blk.setMap ?_ hne _ | with_reducible refine Blk.drew ?_)
      exact HB.out.head
    · repeat (first | with_reducible refine Kept.setMap ?_ pmb _ | with_reducible refine Kept.setCell ?_ (fun _ => pb) _ | with_reducible refine Kept.drew ?_)
      exact Kept.refl _ _

set_option maxHeartbeats 800000 in
theorem map_any {w : World} {b mb : Nat} {s : St} (h : PRep w b mb s) (hr : Ris s.L) (hs : s.L.length ≤ 70000) (l a : Nat) (hl : l < 65536) (ha : a < 256) :
    Calls Try.prog 12 #[.pointer (some ⟨b, 0, none⟩), .int .u16 l, .int .u8 a] w fun e w' => e = .returned (.int .i64 (mapCode s l a)) ∧ PRep w' b mb (mapS s l a) ∧ Kept (PF b mb) w w' := by
  by_cases hcode : mapCode s l a = 0
  · have e2 : mapS s l a = ⟨s.k.set a 3, put s.L l a⟩ := by simp [mapS, hcode]
    rw [hcode, e2]
    exact map_store h hr hs l a hl ha hcode
  · have e2 : mapS s l a = s := by simp only [mapS, if_neg hcode]
    rw [e2]
    have hat := at_any h l hl
    have his := is_any h a
    obtain ⟨c, d, hcd⟩ : ∃ c d, atV (look s.L l) = .tuple #[.int .u8 c, .bool d] ∧ d = (look s.L l).isSome := ⟨_, _, rfl, rfl⟩
    rw [hcd.1] at hat
    have HAT := Lib.hid hat
    have HIS := Lib.hid his
    by_cases h1 : 64 ≤ (l : Int)
    · have e1 : mapCode s l a = 1 := by simp only [mapCode]; rw [if_pos (.inl h1)]
      rw [e1]
      clear hat his hcd e1 e2 hcode
      go_enter Try.func12, Try.ntmps12
      go_wp2_with (first | (go_at_call 18; refine (HAT.out).mono ?_; rintro e w' ⟨rfl, rfl⟩))
      go_ret
      exact ⟨rfl, h, Kept.refl _ _⟩
    · by_cases hk : kn a = true
      · have hk' : 1 ≤ (a : Int) ∧ (a : Int) ≤ 31 := by simpa [kn] using hk
        have e1 : mapCode s l a = 8 := by
          simp only [mapCode] at hcode ⊢
          rw [if_neg (by omega)] at hcode ⊢
          split at hcode
          · rename_i hq; rw [if_pos hq]
          · exact absurd rfl hcode
        have hq : d = true ∨ isS s.k a ≠ 0 := by
          simp only [mapCode] at hcode
          rw [if_neg (by omega)] at hcode
          split at hcode
          · rename_i hq; rw [hcd.2]; exact hq
          · exact absurd rfl hcode
        rw [e1]
        have HK := Lib.hid hk
        rcases hq with rfl | hq
        · clear hat his hcd e1 e2 hcode hk
          go_enter Try.func12, Try.ntmps12
          go_wp2_with (first | (go_at_call 18; refine (HAT.out).mono ?_; rintro e w' ⟨rfl, rfl⟩) | (go_at_call 24; refine (known_any _ _ _).mono ?_; rintro e w' ⟨rfl, rfl⟩; rw [HK.out]))
          go_ret
          exact ⟨rfl, h, Kept.refl _ _⟩
        · cases d with
          | true =>
            clear hat his hcd e1 e2 hcode hk
            go_enter Try.func12, Try.ntmps12
            go_wp2_with (first | (go_at_call 18; refine (HAT.out).mono ?_; rintro e w' ⟨rfl, rfl⟩) | (go_at_call 24; refine (known_any _ _ _).mono ?_; rintro e w' ⟨rfl, rfl⟩; rw [HK.out]))
            go_ret
            exact ⟨rfl, h, Kept.refl _ _⟩
          | false =>
            have hb : (isS s.k a != 0) = true := by simpa using hq
            have hb2 : (isS s.k a == 0) = false := by simpa using hq
            generalize isS s.k a = x at HIS hb hb2
            clear hat his hcd e1 e2 hcode hk hq
            go_enter Try.func12, Try.ntmps12
            go_wp2_with (first | (go_at_call 18; refine (HAT.out).mono ?_; rintro e w' ⟨rfl, rfl⟩) | (go_at_call 24; refine (known_any _ _ _).mono ?_; rintro e w' ⟨rfl, rfl⟩; rw [HK.out]) | (go_at_call 27; refine (HIS.out).mono ?_; rintro e w' ⟨rfl, rfl⟩))
            go_ret
            exact ⟨rfl, h, Kept.refl _ _⟩
      · have e1 : mapCode s l a = 1 := by
          simp only [mapCode]
          rw [if_pos (.inr (by simpa [kn] using hk))]
        rw [e1]
        simp only [Bool.not_eq_true] at hk
        have HK := Lib.hid hk
        clear hat his hcd e1 e2 hcode hk
        go_enter Try.func12, Try.ntmps12
        go_wp2_with (first | (go_at_call 18; refine (HAT.out).mono ?_; rintro e w' ⟨rfl, rfl⟩) | (go_at_call 24; refine (known_any _ _ _).mono ?_; rintro e w' ⟨rfl, rfl⟩; rw [HK.out]))
        go_ret
        exact ⟨rfl, h, Kept.refl _ _⟩
end Go.Proofs.Ytbbihimlahngfaa
