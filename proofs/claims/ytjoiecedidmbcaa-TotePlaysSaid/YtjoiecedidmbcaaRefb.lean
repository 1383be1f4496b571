/- Walks over the document's answer for totes: move, Put, Pass, Skip; and the law's own 'same'. -/
import Derived.Test.YtjoiecedidmbcaaRef
namespace Go.Proofs.Ytjoiecedidmbcaa
open Go.RowKit

def rmove (Z : Int) (L : List (Int × Int)) (x z : Int) : List (Int × Int) := L.filter (fun p => p.1 != x) ++ (if rthere Z z then [(x, z)] else [])
theorem Try.info63 : (Try.prog.info? 63).map (fun i => (i.zero, i.size, i.bytes)) = some (some (.agg #[.int .u16 0, .int .i64 0]), 2, 16) := by kernel_rfl
theorem rfil_snoc (L : List (Int × Int)) (p : Int × Int) (x : Int) : (L ++ [p]).filter (fun p => p.1 != x) = L.filter (fun p => p.1 != x) ++ (if p.1 != x then [p] else []) := by
  rw [List.filter_append]
  congr 1
  by_cases h : (p.1 != x) = true <;> simp [List.filter, h]

def MovePost (w : World) (b : Nat) (A : Option Addr) (Z R : Int) (L : List (Int × Int)) (w' : World) : Prop :=
  ∃ A' c', RefRep w' b A' c' Z R L ∧ Step (RefF b A) (RefF b A') w w'

set_option maxHeartbeats 1600000 in
theorem move_any {w : World} {b : Nat} {A : Option Addr} {c : Nat} {Z R : Int} {L : List (Int × Int)} (h : RefRep w b A c Z R L) (hL : L.length < 100000) (x z : Int) :
    Calls Try.prog 25 #[.pointer (some ⟨b, 0, none⟩), .int .u16 x, .int .i64 z] w fun e w' => e = .returned (.tuple #[]) ∧ MovePost w b A Z R (rmove Z L x z) w' := by
  obtain ⟨i0, hi, hz0, hz1, hz2⟩ := info_parts Try.info63
  have c2 := h.c2
  have c0 := h.c0
  have hown := h.own
  have hB := h.head
  obtain ⟨n, hn⟩ : ∃ n, n = L.length := ⟨_, rfl⟩
  rw [← hn] at c2 hown hB hL
  have HN := Lib.hid hn
  clear hn h
  go_enter Try.func25, Try.ntmps25
  go_wp2
  go_loopw [6, 7] (fun v i wr => ∃ k : Nat, k ≤ n ∧ i = .int .i64 k ∧ wr.ownsRow 0 63 2 v ((L.take k).filter (fun p => p.1 != x)).length (itemCells ((L.take k).filter (fun p => p.1 != x))) ∧ Kept Emp w wr ∧ ∀ j, v.ownBlock = some j → w.heap.size ≤ j) (fun _ i _ => n - (intOf i).toNat)
  case atStart => exact ⟨0, Nat.zero_le _, rfl, World.ownsRow_made w #[] 0 (Nat.zero_le _) (Nat.zero_le _) rfl, (Kept.refl _ _).alloc _, fun j hj => by simp [Value.ownBlock] at hj; omega⟩
  case round =>
    obtain ⟨k, hk, rfl, hv, hK, hloc⟩ := hrel
    have cr2 := hK.cellSome c2 (fun h => h)
    by_cases hlt : k < n
    · obtain ⟨p, hp⟩ : ∃ p, L[k]? = some p := ⟨_, List.getElem?_eq_getElem (by rw [← HN.out]; exact hlt)⟩
      obtain ⟨m, rfl⟩ : ∃ m, n = m + 1 := ⟨n - 1, by omega⟩
      obtain ⟨g, c', he, hc1, hc2, hg, hcell, _⟩ := own_some hown
      injection he with hA _ hc
      subst hA; subst hc
      have e0 := hK.cellSome (hcell _ _ (itemCells_get hp).1) (fun h => h)
      have e1 := hK.cellSome (hcell _ _ (itemCells_get hp).2) (fun h => h)
      have hts := take_snoc hp
      have hrs : (L.take (k + 1)).filter (fun p => p.1 != x) = (L.take k).filter (fun p => p.1 != x) ++ (if p.1 != x then [p] else []) := by rw [hts, rfil_snoc]
      have hle : ((L.take k).filter (fun p => p.1 != x)).length ≤ k := Nat.le_trans (List.length_filter_le _ _) (List.length_take_le _ _)
      generalize (L.take k).filter (fun p => p.1 != x) = M at hv hrs hle
      obtain ⟨Y, hy⟩ : ∃ Y, Y = (L.take (k + 1)).filter (fun p => p.1 != x) := ⟨_, rfl⟩
      rw [← hy] at hrs
      have HY := Lib.hid hy
      clear hcell hp hts hy
      by_cases hpz : p.1 = x
      · have hb : (p.1 != x) = false := by simpa using hpz
        rw [hb, if_neg (by simp), List.append_nil] at hrs
        have HRS := Lib.hid hrs
        clear hrs hpz
        go_wp2
        go_roundw
        case rel => exact ⟨k + 1, by omega, by go_num, by rw [← HY.out, HRS.out]; exact hv, hK, hloc⟩
        case measure => simp [intOf]; omega
      · have hb : (p.1 != x) = true := by simpa using hpz
        rw [hb, if_pos rfl] at hrs
        have HRS := Lib.hid hrs
        clear hrs hpz
        go_wp2_with (at_builtin; refine wpList_app rfl _ _ 27 rfl 63 i0 (.agg #[.int .u16 0, .int .i64 0]) 2 16 Try.underlying27 hi hz0 hz1 hz2 rfl (by decide) _ _ _ rfl (hv.alloc _) _ 1 [.int .u16 p.1, .int .i64 p.2] rfl (Sl.new wr 63 [.int .u16 p.1, .int .i64 p.2] 2 1 rfl (by unfold maxLen; omega)) (itemCells_one [p]) (by unfold maxLen; omega) (by omega) ?_; intro v' w' h1 h2 _ h4)
        go_roundw
        case rel =>
          refine ⟨k + 1, by omega, by go_num, ?_, (hK.alloc _).trans h2 (fun j hj hb => ?_), fun j hj => ?_⟩
          · rw [← HY.out, HRS.out, List.length_append, itemCells_append]; simpa [itemCells] using h1
          · have := hloc j hb; omega
          · rcases h4 j hj with h | h
            · exact hloc j h
            · have := hK.size; simp at h; omega
        case measure => simp [intOf]; omega
    · obtain rfl : k = n := by omega
      rw [List.take_of_length_le (Nat.le_of_eq HN.out.symm)] at hv
      obtain ⟨A', c', rfl, _, _⟩ := own_slice hv
      have hth := there_any b Z z _ (hK.cellSome c0 (fun h => h))
      have hbr := hB.kept hK (fun h => h)
      have hlt := hbr.lt
      have f2 := hbr.frozen 2
      have hle : (L.filter (fun p => p.1 != x)).length ≤ k := by rw [HN.out]; exact List.length_filter_le _ _
      have hmv : rmove Z L x z = L.filter (fun p => p.1 != x) ++ (if rthere Z z then [(x, z)] else []) := rfl
      obtain ⟨mv, hmv0⟩ : ∃ mv, mv = rmove Z L x z := ⟨_, rfl⟩
      rw [← hmv0] at hmv
      have HMV := Lib.hid hmv0
      have hloc' : ∀ j, A'.map (·.block) = some j → w.heap.size ≤ j := fun j hj => hloc j (by rw [ownBlock_slice]; exact hj)
      clear hloc
      obtain ⟨M, hM⟩ : ∃ M, M = L.filter (fun p => p.1 != x) := ⟨_, rfl⟩
      rw [← hM] at hv hle hmv ⊢
      clear hM
      generalize hq' : M.length = q at hv hle ⊢
      have hq := hq'.symm
      clear hq'
      have HQ := Lib.hid hq
      have hbA : ∀ j, A'.map (·.block) = some j → j ≠ b := fun j hj e => by
        subst e
        exact own_ne hv hbr (by decide) (by rw [ownBlock_slice]; exact hj)
      have fin : ∀ (w1 : World) (A2 : Option Addr) (c2 m2 : Nat) (v0 : Value), m2 = mv.length → w1.ownsRow 0 63 2 (.slice A2 m2 c2) m2 (itemCells mv) → Kept Emp w w1 → (∀ j, (Value.slice A2 m2 c2).ownBlock = some j → w.heap.size ≤ j) → Blk w1 b 29 #[.int .i64 Z, .int .i64 R, v0] → mv.length ≤ 100000 → MovePost w b A Z R mv (w1.setCell ⟨b, 2, none⟩ (.slice A2 m2 c2)) := by
        intro w1 A2 c2 m2 v0 hm h1 h2 h3 h4 h5
        subst hm
        have hbl : b < w.heap.size := hB.lt
        refine ⟨A2, c2, ⟨?_, ?_, h5⟩, Kept.setCell h2.of_emp (fun _ => .inl rfl) _, fun k hk => ?_⟩
        · simpa using h4.set_ 2 (.slice A2 mv.length c2)
        · exact ownsRow_setCell_other h1 (fun e => own_ne h1 h4 (by decide) e) _
        · rcases hk with e | e
          · exact .inl (.inl e)
          · exact .inr (h3 k (by rw [ownBlock_slice]; exact e))
      have FIN := Lib.hid fin
      have HLOC := Lib.hid hloc'
      have HMQ := Lib.hid hmv
      clear hmv0 hq c2 c0 hloc' fin hmv
      cases ht : rthere Z z with
      | false =>
        rw [ht] at hth
        have hmM : mv = M := by rw [HMQ.out, ht]; simp
        have HMM := Lib.hid hmM
        clear ht hmM
        go_wp2_with (first | (go_at_call 23; refine hth.mono ?_; rintro e w' ⟨rfl, rfl⟩))
        go_end0
        refine ⟨rfl, ?_⟩
        rw [← HMV.out]
        exact FIN.out _ A' c' q _ (by rw [HMM.out, HQ.out]) (by rw [HMM.out]; exact hv) hK (fun j hj => HLOC.out j (by rw [← ownBlock_slice A' q c']; exact hj)) hbr (by rw [HMM.out, ← HQ.out]; omega)
      | true =>
        rw [ht] at hth
        have hmM : mv = M ++ [(x, z)] := by rw [HMQ.out, ht]; simp
        have HMM := Lib.hid hmM
        clear ht hmM
        have hcells := itemCells_append M [(x, z)]
        have HCE := Lib.hid hcells
        clear hcells
        go_wp2_with (first | (go_at_call 23; refine hth.mono ?_; rintro e w' ⟨rfl, rfl⟩) | (at_builtin; refine wpList_app rfl _ _ 27 rfl 63 i0 (.agg #[.int .u16 0, .int .i64 0]) 2 16 Try.underlying27 hi hz0 hz1 hz2 rfl (by decide) _ _ _ rfl (hv.alloc _) _ 1 [.int .u16 x, .int .i64 z] rfl (Sl.new wr 63 [.int .u16 x, .int .i64 z] 2 1 rfl (by unfold maxLen; omega)) (itemCells_one [(x, z)]) (by unfold maxLen; omega) (by omega) ?_; intro v' w1 h1 h2 _ h4; obtain ⟨A2, c2, rfl, _, _⟩ := own_slice h1; have hb1 := (hbr.alloc (.cells #[.int .u16 x, .int .i64 z] 63)).kept h2 (fun e => hbA b (by rw [← ownBlock_slice A' q c']; exact e) rfl); have hlt1 := hb1.lt; have c21 : w1.cell? ⟨b, 2, none⟩ = some (.slice A k c) := hb1.cell 2; have f21 := hb1.frozen 2))
        all_goals
          go_end0
          refine ⟨rfl, ?_⟩
          rw [← HMV.out]
          refine FIN.out _ A2 c2 (q + 1) _ (by rw [HMM.out, HQ.out]; simp) (by rw [HMM.out, HCE.out]; exact h1) ((hK.alloc _).trans h2 (fun j hj hb => ?_)) (fun j hj => ?_) hb1 (by rw [HMM.out, List.length_append, ← HQ.out]; simp; omega)
          · have := HLOC.out j (by rw [← ownBlock_slice A' q c']; exact hb); omega
          · rcases h4 j hj with h | h
            · exact HLOC.out j (by rw [← ownBlock_slice A' q c']; exact h)
            · have := hK.size; simp at h; omega
def rputCode (Z R : Int) (L : List (Int × Int)) (x z : Int) : Int := if rthere Z z = false then 1 else if (rwhere L x).isSome then 8 else if rfull R L z then 5 else 0
def rputL (Z R : Int) (L : List (Int × Int)) (x z : Int) : List (Int × Int) := if rputCode Z R L x z = 0 then rmove Z L x z else L

theorem MovePost.same {w w' : World} {b : Nat} {A : Option Addr} {c : Nat} {Z R : Int} {L : List (Int × Int)} (h : RefRep w b A c Z R L) (hk : Kept Emp w w') : MovePost w b A Z R L w' :=
  ⟨A, c, h.kept hk (fun _ _ h => h), Step.of_kept hk⟩
theorem MovePost.after {w w1 w' : World} {b : Nat} {A : Option Addr} {Z R : Int} {L : List (Int × Int)} (hk : Kept Emp w w1) (h : MovePost w1 b A Z R L w') : MovePost w b A Z R L w' := by
  obtain ⟨A', c', h1, h2⟩ := h
  exact ⟨A', c', h1, (Step.of_kept hk).trans h2⟩

theorem RefRep.ltF {w : World} {b : Nat} {A : Option Addr} {c : Nat} {Z R : Int} {L : List (Int × Int)} (h : RefRep w b A c Z R L) : ∀ k, RefF b A k → k < w.heap.size := fun k hk => by
  rcases hk with rfl | hk
  · exact h.head.lt
  · exact lt_of_own h.own k (by rw [ownBlock_slice]; exact hk)
theorem MovePost.cell {w w' : World} {b : Nat} {A : Option Addr} {Z R : Int} {L : List (Int × Int)} (h : MovePost w b A Z R L w') {p : Addr} {v : Value} (hc : w.cell? p = some v) (hn : ¬ RefF b A p.block) : w'.cell? p = some v := by
  obtain ⟨_, _, _, h2⟩ := h
  exact h2.1.cellSome hc hn
theorem rwhereV_some {o : Option Int} (h : o.isSome = true) : ∃ n : Int, rwhereV o = .tuple #[.int .i64 n, .bool true] := by
  cases o with
  | none => cases h
  | some n => exact ⟨n, rfl⟩
theorem rwhereV_none {o : Option Int} (h : o.isSome = false) : rwhereV o = .tuple #[.int .i64 0, .bool false] := by
  cases o with
  | none => rfl
  | some n => cases h

def RPutPost (w : World) (b : Nat) (A : Option Addr) (Z R : Int) (code : Int) (L : List (Int × Int)) (e : Ending) (w' : World) : Prop := e = .returned (.int .i64 code) ∧ MovePost w b A Z R L w'

set_option maxHeartbeats 1600000 in
theorem rput_any {w : World} {b : Nat} {A : Option Addr} {c : Nat} {Z R : Int} {L : List (Int × Int)} (h : RefRep w b A c Z R L) (hL : L.length < 100000) (x z : Int) :
    Calls Try.prog 7 #[.pointer (some ⟨b, 0, none⟩), .int .u16 x, .int .i64 z] w (RPutPost w b A Z R (rputCode Z R L x z) (rputL Z R L x z)) := by
  have hth := there_any b Z z w h.c0
  have hwh := rwhere_any h x
  have hfu := rfull_any h z
  have keep : ∀ w', Kept Emp w w' → rputCode Z R L x z ≠ 0 → MovePost w b A Z R (rputL Z R L x z) w' := fun w' hk hne => by
    rw [rputL, if_neg hne]; exact MovePost.same h hk
  have HKE := Lib.hid keep
  clear keep
  cases ht : rthere Z z with
  | false =>
    have hc : rputCode Z R L x z = 1 := by simp [rputCode, ht]
    rw [ht] at hth
    have HC := Lib.hid hc
    clear hc ht
    go_enter Try.func7, Try.ntmps7
    go_wp2_with (first | (go_at_call 23; refine hth.mono ?_; rintro e w' ⟨rfl, rfl⟩))
    go_ret
    exact ⟨ret_int HC.out.symm, HKE.out _ (Kept.refl _ _) (by rw [HC.out]; decide)⟩
  | true =>
    rw [ht] at hth
    cases hs : (rwhere L x).isSome with
    | true =>
      have hc : rputCode Z R L x z = 8 := by simp [rputCode, ht, hs]
      obtain ⟨m, hm⟩ := rwhereV_some hs
      rw [hm] at hwh
      have HC := Lib.hid hc
      clear hc ht hs hm
      go_enter Try.func7, Try.ntmps7
      go_wp2_with (first | (go_at_call 23; refine hth.mono ?_; rintro e w' ⟨rfl, rfl⟩) | (go_at_call 16; refine hwh.mono ?_; rintro e w' ⟨rfl, rfl⟩))
      go_ret
      exact ⟨ret_int HC.out.symm, HKE.out _ (Kept.refl _ _) (by rw [HC.out]; decide)⟩
    | false =>
      rw [rwhereV_none hs] at hwh
      cases hf : rfull R L z with
      | true =>
        have hc : rputCode Z R L x z = 5 := by simp [rputCode, ht, hs, hf]
        rw [hf] at hfu
        have HC := Lib.hid hc
        clear hc ht hs hf
        go_enter Try.func7, Try.ntmps7
        go_wp2_with (first | (go_at_call 23; refine hth.mono ?_; rintro e w' ⟨rfl, rfl⟩) | (go_at_call 16; refine hwh.mono ?_; rintro e w' ⟨rfl, rfl⟩) | (go_at_call 24; refine hfu.mono ?_; rintro e w1 ⟨rfl, hk1⟩))
        go_ret
        exact ⟨ret_int HC.out.symm, HKE.out _ hk1 (by rw [HC.out]; decide)⟩
      | false =>
        have hc : rputCode Z R L x z = 0 := by simp [rputCode, ht, hs, hf]
        have hl : rputL Z R L x z = rmove Z L x z := by simp [rputL, hc]
        rw [hf] at hfu
        have hmv := fun w1 (hk : Kept Emp w w1) => move_any (h.kept hk (fun _ _ h => h)) hL x z
        have HC := Lib.hid hc
        have HL := Lib.hid hl
        clear hc hl ht hs hf
        go_enter Try.func7, Try.ntmps7
        go_wp2_with (first | (go_at_call 23; refine hth.mono ?_; rintro e w' ⟨rfl, rfl⟩) | (go_at_call 16; refine hwh.mono ?_; rintro e w' ⟨rfl, rfl⟩) | (go_at_call 24; refine hfu.mono ?_; rintro e w1 ⟨rfl, hk1⟩) | (go_at_call 25; refine (hmv _ hk1).mono ?_; rintro e w2 ⟨rfl, hp⟩))
        go_ret
        exact ⟨ret_int HC.out.symm, by rw [HL.out]; exact MovePost.after hk1 hp⟩

def rpassCode (Z R : Int) (L : List (Int × Int)) (z : Int) : Int := if rthere Z z = false then 1 else if rrow L z = [] then 6 else if (rthere Z (z + 1) && rfull R L (z + 1)) = true then 5 else 0
def rpassVal (Z R : Int) (L : List (Int × Int)) (z : Int) : Int := if rpassCode Z R L z = 0 then (rrow L z).headD 0 else 0
def rpassL (Z R : Int) (L : List (Int × Int)) (z : Int) : List (Int × Int) := if rpassCode Z R L z = 0 then rmove Z L ((rrow L z).headD 0) (z + 1) else L
def RPassPost (w : World) (b : Nat) (A : Option Addr) (Z R : Int) (val code : Int) (L : List (Int × Int)) (e : Ending) (w' : World) : Prop := e = .returned (.tuple #[.int .u16 val, .int .i64 code]) ∧ MovePost w b A Z R L w'
theorem ret_two {k k' : IntKind} {a b a' b' : Int} (h : a = b) (h' : a' = b') : Ending.returned (.tuple #[.int k a, .int k' a']) = .returned (.tuple #[.int k b, .int k' b']) := by rw [h, h']
theorem row_some {w : World} {v : Value} {x : Int} {l : List Int} (h : w.ownsRow 0 30 1 v (l.length + 1) (u16s (x :: l))) : ∃ g c, v = .slice (some ⟨g, 0, none⟩) (l.length + 1) c ∧ w.cell? ⟨g, 0, none⟩ = some (.int .u16 x) := by
  obtain ⟨g, c, e, _, _, _, hc, _⟩ := own_some h
  exact ⟨g, c, e, hc 0 _ (by simp)⟩

set_option maxHeartbeats 1600000 in
theorem rpass_any {w : World} {b : Nat} {A : Option Addr} {c : Nat} {Z R : Int} {L : List (Int × Int)} (h : RefRep w b A c Z R L) (hL : L.length < 100000) (z : Int) :
    Calls Try.prog 9 #[.pointer (some ⟨b, 0, none⟩), .int .i64 z] w (RPassPost w b A Z R (rpassVal Z R L z) (rpassCode Z R L z) (rpassL Z R L z)) := by
  have hth := there_any b Z z w h.c0
  have hro := rrow_any h z
  have keep : ∀ w', Kept Emp w w' → rpassCode Z R L z ≠ 0 → MovePost w b A Z R (rpassL Z R L z) w' := fun w' hk hne => by
    rw [rpassL, if_neg hne]; exact MovePost.same h hk
  have val : rpassCode Z R L z ≠ 0 → rpassVal Z R L z = 0 := fun hne => by rw [rpassVal, if_neg hne]
  have HKE := Lib.hid keep
  have HV := Lib.hid val
  clear keep val
  cases ht : rthere Z z with
  | false =>
    have hc : rpassCode Z R L z = 1 := by simp [rpassCode, ht]
    rw [ht] at hth
    have HC := Lib.hid hc
    clear hc ht
    go_enter Try.func9, Try.ntmps9
    go_wp2_with (first | (go_at_call 23; refine hth.mono ?_; rintro e w' ⟨rfl, rfl⟩))
    go_ret2
    exact ⟨ret_two (HV.out (by rw [HC.out]; decide)).symm HC.out.symm, HKE.out _ (Kept.refl _ _) (by rw [HC.out]; decide)⟩
  | true =>
    have hz8 : 0 ≤ z ∧ z < 8 := by
      simp only [rthere, Bool.and_eq_true, decide_eq_true_eq] at ht
      have := lim_in Z 8 (by omega)
      omega
    obtain ⟨hz0, hz8⟩ := hz8
    rw [ht] at hth
    cases hr : rrow L z with
    | nil =>
      have hc : rpassCode Z R L z = 6 := by simp [rpassCode, ht, hr]
      rw [hr] at hro
      have HC := Lib.hid hc
      clear hc ht hr
      go_enter Try.func9, Try.ntmps9
      go_wp2_with (first | (go_at_call 23; refine hth.mono ?_; rintro e w' ⟨rfl, rfl⟩) | (go_at_call 13; refine hro.mono ?_; rintro e w1 ⟨A1, c1, rfl, _, hk1, _⟩))
      go_ret2
      exact ⟨ret_two (HV.out (by rw [HC.out]; decide)).symm HC.out.symm, HKE.out _ hk1 (by rw [HC.out]; decide)⟩
    | cons x l =>
      rw [hr] at hro
      have hth1 := fun w1 (hk : Kept Emp w w1) => there_any b Z (z + 1) w1 (hk.cellSome h.c0 (fun h => h))
      have hfu := fun w1 (hk : Kept Emp w w1) => rfull_any (h.kept hk (fun _ _ h => h)) (z + 1)
      have hlen : ¬ ((l.length : Int) + 1 = 0) := by omega
      by_cases hf : (rthere Z (z + 1) && rfull R L (z + 1)) = true
      · have hc : rpassCode Z R L z = 5 := by simp only [rpassCode, ht, hr, hf]; simp
        obtain ⟨h1, h2⟩ := Bool.and_eq_true_iff.1 hf
        rw [h1] at hth1
        rw [h2] at hfu
        have HC := Lib.hid hc
        clear hc ht hr hf h1 h2
        go_enter Try.func9, Try.ntmps9
        go_wp2_with (first | (go_at_call 23; refine hth.mono ?_; rintro e w' ⟨rfl, rfl⟩) | (go_at_call 13; refine hro.mono ?_; rintro e w1 ⟨A1, c1, rfl, _, hk1, _⟩; clear hth) | (go_at_call 23; refine (hth1 _ hk1).mono ?_; rintro e w' ⟨rfl, rfl⟩) | (go_at_call 24; refine (hfu _ hk1).mono ?_; rintro e w2 ⟨rfl, hk2⟩))
        go_ret2
        exact ⟨ret_two (HV.out (by rw [HC.out]; decide)).symm HC.out.symm, HKE.out _ (hk1.trans_emp hk2) (by rw [HC.out]; decide)⟩
      · have hc : rpassCode Z R L z = 0 := by simp only [rpassCode, ht, hr]; simp [hf]
        have hv : rpassVal Z R L z = x := by simp [rpassVal, hc, hr]
        have hl : rpassL Z R L z = rmove Z L x (z + 1) := by simp [rpassL, hc, hr]
        have hmv := fun w1 (hk : Kept Emp w w1) => move_any (h.kept hk (fun _ _ h => h)) hL x (z + 1)
        have HC := Lib.hid hc
        have HVV := Lib.hid hv
        have HL := Lib.hid hl
        clear hc ht hr hv hl
        have hgF : ∀ g, w.heap.size ≤ g → ¬ RefF b A g := fun g hg hk => absurd (h.ltF g hk) (Nat.not_lt.2 hg)
        cases h1 : rthere Z (z + 1) with
        | false =>
          rw [h1] at hth1
          clear hf h1
          have hful : ∀ w1, Kept Emp w w1 → Calls Try.prog 24 #[.pointer (some ⟨b, 0, none⟩), .int .i64 (z + 1)] w1 (FullPost w1 (rfull R L (z + 1))) := hfu
          clear hfu
          generalize rfull R L (z + 1) = rf at hful
          go_enter Try.func9, Try.ntmps9
          go_wp2_with (first | (go_at_call 23; refine hth.mono ?_; rintro e w' ⟨rfl, rfl⟩) | (go_at_call 13; refine hro.mono ?_; rintro e w1 ⟨A1, c1, rfl, ho, hk1, hlc⟩; clear hth; obtain ⟨g, c2, he, hgc⟩ := row_some ho; injection he with hA _ _; subst hA; have hgn := hgF g (hlc g rfl); clear hlc) | (go_at_call 23; refine (hth1 _ hk1).mono ?_; rintro e w' ⟨rfl, rfl⟩) | (go_at_call 24; refine (hful _ hk1).mono ?_; rintro e w2 ⟨rfl, hk2⟩; have hgc2 := hk2.cellSome hgc (fun h => h)) | (go_at_call 25; refine (hmv _ (hk1.trans_emp hk2)).mono ?_; rintro e w3 ⟨rfl, hp⟩; have hgc3 := hp.cell hgc2 hgn))
          go_ret2
          exact ⟨ret_two HVV.out.symm HC.out.symm, by rw [HL.out]; exact MovePost.after (hk1.trans_emp hk2) hp⟩
        | true =>
          rw [h1] at hth1
          have hf1 : rfull R L (z + 1) = false := by rw [h1] at hf; simpa using hf
          clear hf h1
          have hful : ∀ w1, Kept Emp w w1 → Calls Try.prog 24 #[.pointer (some ⟨b, 0, none⟩), .int .i64 (z + 1)] w1 (FullPost w1 (rfull R L (z + 1))) := hfu
          clear hfu
          rw [hf1] at hful
          clear hf1
          go_enter Try.func9, Try.ntmps9
          go_wp2_with (first | (go_at_call 23; refine hth.mono ?_; rintro e w' ⟨rfl, rfl⟩) | (go_at_call 13; refine hro.mono ?_; rintro e w1 ⟨A1, c1, rfl, ho, hk1, hlc⟩; clear hth; obtain ⟨g, c2, he, hgc⟩ := row_some ho; injection he with hA _ _; subst hA; have hgn := hgF g (hlc g rfl); clear hlc) | (go_at_call 23; refine (hth1 _ hk1).mono ?_; rintro e w' ⟨rfl, rfl⟩) | (go_at_call 24; refine (hful _ hk1).mono ?_; rintro e w2 ⟨rfl, hk2⟩; have hgc2 := hk2.cellSome hgc (fun h => h)) | (go_at_call 25; refine (hmv _ (hk1.trans_emp hk2)).mono ?_; rintro e w3 ⟨rfl, hp⟩; have hgc3 := hp.cell hgc2 hgn))
          go_ret2
          exact ⟨ret_two HVV.out.symm HC.out.symm, by rw [HL.out]; exact MovePost.after (hk1.trans_emp hk2) hp⟩

def rskipCode (Z : Int) (L : List (Int × Int)) (z : Int) : Int := if rthere Z z = false then 1 else if rrow L z = [] then 6 else 0
def rskipL (Z : Int) (L : List (Int × Int)) (z : Int) : List (Int × Int) := if rskipCode Z L z = 0 then rmove Z L ((rrow L z).headD 0) z else L

set_option maxHeartbeats 1600000 in
theorem rskip_any {w : World} {b : Nat} {A : Option Addr} {c : Nat} {Z R : Int} {L : List (Int × Int)} (h : RefRep w b A c Z R L) (hL : L.length < 100000) (z : Int) :
    Calls Try.prog 11 #[.pointer (some ⟨b, 0, none⟩), .int .i64 z] w (RPutPost w b A Z R (rskipCode Z L z) (rskipL Z L z)) := by
  have hth := there_any b Z z w h.c0
  have hro := rrow_any h z
  have keep : ∀ w', Kept Emp w w' → rskipCode Z L z ≠ 0 → MovePost w b A Z R (rskipL Z L z) w' := fun w' hk hne => by
    rw [rskipL, if_neg hne]; exact MovePost.same h hk
  have HKE := Lib.hid keep
  clear keep
  cases ht : rthere Z z with
  | false =>
    have hc : rskipCode Z L z = 1 := by simp [rskipCode, ht]
    rw [ht] at hth
    have HC := Lib.hid hc
    clear hc ht
    go_enter Try.func11, Try.ntmps11
    go_wp2_with (first | (go_at_call 23; refine hth.mono ?_; rintro e w' ⟨rfl, rfl⟩))
    go_ret
    exact ⟨ret_int HC.out.symm, HKE.out _ (Kept.refl _ _) (by rw [HC.out]; decide)⟩
  | true =>
    rw [ht] at hth
    cases hr : rrow L z with
    | nil =>
      have hc : rskipCode Z L z = 6 := by simp [rskipCode, ht, hr]
      rw [hr] at hro
      have HC := Lib.hid hc
      clear hc ht hr
      go_enter Try.func11, Try.ntmps11
      go_wp2_with (first | (go_at_call 23; refine hth.mono ?_; rintro e w' ⟨rfl, rfl⟩) | (go_at_call 13; refine hro.mono ?_; rintro e w1 ⟨A1, c1, rfl, _, hk1, _⟩))
      go_ret
      exact ⟨ret_int HC.out.symm, HKE.out _ hk1 (by rw [HC.out]; decide)⟩
    | cons x l =>
      rw [hr] at hro
      have hlen : ¬ ((l.length : Int) + 1 = 0) := by omega
      have hc : rskipCode Z L z = 0 := by simp [rskipCode, ht, hr]
      have hl : rskipL Z L z = rmove Z L x z := by simp [rskipL, hc, hr]
      have hmv := fun w1 (hk : Kept Emp w w1) => move_any (h.kept hk (fun _ _ h => h)) hL x z
      have HC := Lib.hid hc
      have HL := Lib.hid hl
      clear hc ht hr hl
      go_enter Try.func11, Try.ntmps11
      go_wp2_with (first | (go_at_call 23; refine hth.mono ?_; rintro e w' ⟨rfl, rfl⟩) | (go_at_call 13; refine hro.mono ?_; rintro e w1 ⟨A1, c1, rfl, ho, hk1, hlc⟩; obtain ⟨g, c2, he, hgc⟩ := row_some ho; injection he with hA _ _; subst hA) | (go_at_call 25; refine (hmv _ hk1).mono ?_; rintro e w3 ⟨rfl, hp⟩))
      go_ret
      exact ⟨ret_int HC.out.symm, by rw [HL.out]; exact MovePost.after hk1 hp⟩

def SamePost (w : World) (r : Bool) (e : Ending) (w' : World) : Prop := e = .returned (.bool r) ∧ Kept Emp w w'
set_option maxHeartbeats 1600000 in
theorem same_any (w : World) (v u : Value) (n m : Nat) (L M : List Int) (hv : Sl w 1 v n (u16s L)) (hu : Sl w 1 u m (u16s M)) :
    Calls Try.prog 17 #[v, u] w (SamePost w (decide (L = M))) := by
  obtain ⟨hl, A, c, rfl, hnc, hcm, _, h0⟩ := hv
  obtain ⟨hl2, A2, c2, rfl, hnc2, hcm2, _, h02⟩ := hu
  unfold maxLen at hcm hcm2
  have hn : L.length = n := by simpa using hl
  have hm : M.length = m := by simpa using hl2
  clear hl hl2
  by_cases hnm : n = m
  · subst hnm
    have HN := Lib.hid hn
    have HM := Lib.hid hm
    clear hn hm
    go_enter Try.func17, Try.ntmps17
    go_wp2
    go_loopw [5] (fun i wr => ∃ k : Nat, k ≤ n ∧ i = .int .i64 k ∧ (∀ j, j < k → L.getD j 0 = M.getD j 0) ∧ Kept Emp w wr) (fun i _ => n - (intOf i).toNat)
    case atStart => exact ⟨0, Nat.zero_le _, rfl, fun j hj => absurd hj (Nat.not_lt_zero _), Kept.refl _ _⟩
    case round =>
      obtain ⟨k, hk, rfl, heq, hK⟩ := hrel
      have HEQ := Lib.hid heq
      clear heq
      by_cases hlt : k < n
      · obtain ⟨g, o, rfl, hg, hc⟩ := h0 (by omega)
        obtain ⟨g2, o2, rfl, hg2, hc2⟩ := h02 (by omega)
        have d1 := hK.cellSome (hc k _ (u16s_get (by rw [HN.out]; exact hlt))) (fun h => h)
        have d2 := hK.cellSome (hc2 k _ (u16s_get (by rw [HM.out]; exact hlt))) (fun h => h)
        clear hc h0 hc2 h02
        obtain ⟨y, hy⟩ : ∃ y, y = L.getD k 0 := ⟨_, rfl⟩
        obtain ⟨y2, hy2⟩ : ∃ y, y = M.getD k 0 := ⟨_, rfl⟩
        rw [← hy] at d1
        rw [← hy2] at d2
        have HY := Lib.hid hy
        have HY2 := Lib.hid hy2
        clear hy hy2
        have hkk : (k : Int) < n := by omega
        by_cases hxy : y = y2
        · subst hxy
          go_wp2
          go_quiet (fail)
          go_wp2
          go_roundw
          case rel => exact ⟨k + 1, by omega, by go_num, fun j hj => by
            rcases Nat.lt_succ_iff_lt_or_eq.1 hj with h | h
            · exact HEQ.out j h
            · subst h; rw [← HY.out, ← HY2.out], hK.drewN _⟩
          case measure => simp [intOf]; omega
        · have hb : (y != y2) = true := by simpa using hxy
          go_wp2
          go_quiet (fail)
          go_wp2
          go_ret
          exact ⟨ret_bool (by rw [decide_eq_false]; intro e; exact hxy (by rw [HY.out, HY2.out, e])), hK.drewN _⟩
      · go_wp2
        go_ret
        have e : L = M := List.ext_getElem (by rw [HN.out, HM.out]) (fun j h1 h2 => by
          have := HEQ.out j (by rw [HN.out] at h1; omega)
          simpa [List.getD, h1, h2] using this)
        exact ⟨ret_bool (by simp [e]), hK⟩
  · have hd : decide (L = M) = false := by rw [decide_eq_false]; intro e; subst e; exact hnm (hn.symm.trans hm)
    rw [hd]
    have hne : ((n : Int) != (m : Int)) = true := by rw [bne_iff_ne]; omega
    clear hd hn hm
    go_enter Try.func17, Try.ntmps17
    go_wp2
    go_ret
    exact ⟨rfl, Kept.refl _ _⟩
end Go.Proofs.Ytjoiecedidmbcaa
