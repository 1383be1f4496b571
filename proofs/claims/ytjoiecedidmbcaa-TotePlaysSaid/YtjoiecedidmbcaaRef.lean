/- Walks over the document's answer for totes: there, Row, full, Where, move. -/
import Derived.Test.YtjoiecedidmbcaaNew
import Derived.Deep.RegionHeld3
namespace Go.Proofs.Ytjoiecedidmbcaa
open Go.RowKit

def itemCells : List (Int × Int) → List Value
  | [] => []
  | p :: l => .int .u16 p.1 :: .int .i64 p.2 :: itemCells l
theorem length_itemCells (L : List (Int × Int)) : (itemCells L).length = L.length * 2 := by induction L with | nil => rfl | cons p l ih => simp [itemCells, ih]; omega
theorem itemCells_append (L M : List (Int × Int)) : itemCells (L ++ M) = itemCells L ++ itemCells M := by
  induction L with
  | nil => rfl
  | cons p l ih => simp [itemCells, ih]
theorem itemCells_get {L : List (Int × Int)} {i : Nat} {p : Int × Int} (h : L[i]? = some p) : (itemCells L)[i * 2]? = some (.int .u16 p.1) ∧ (itemCells L)[i * 2 + 1]? = some (.int .i64 p.2) := by
  induction L generalizing i with
  | nil => simp at h
  | cons q l ih =>
    cases i with
    | zero => simp at h; subst h; simp [itemCells]
    | succ i =>
      rw [show (i + 1) * 2 = i * 2 + 1 + 1 by omega]
      simp only [itemCells, List.getElem?_cons_succ] at h ⊢
      exact ih h
theorem itemCells_one (L : List (Int × Int)) : ∀ u ∈ itemCells L, u.oneCell' = true := by
  induction L with
  | nil => simp [itemCells]
  | cons p l ih => intro u hu; simp [itemCells] at hu; rcases hu with rfl | rfl | hu; rfl; rfl; exact ih u hu

structure RefRep (w : World) (b : Nat) (A : Option Addr) (c : Nat) (Z R : Int) (L : List (Int × Int)) : Prop where
  head : Blk w b 29 #[.int .i64 Z, .int .i64 R, .slice A L.length c]
  own : w.ownsRow 0 63 2 (.slice A L.length c) L.length (itemCells L)
  few : L.length ≤ 100000
def RefF (b : Nat) (A : Option Addr) : Nat → Prop := fun k => k = b ∨ A.map (·.block) = some k
theorem ownBlock_slice (A : Option Addr) (n c : Nat) : (Value.slice A n c).ownBlock = A.map (·.block) := by cases A <;> rfl

theorem RefRep.kept {F : Nat → Prop} {w w' : World} {b : Nat} {A : Option Addr} {c : Nat} {Z R : Int} {L : List (Int × Int)} (h : RefRep w b A c Z R L) (hk : Kept F w w') (hn : ∀ k, RefF b A k → ¬ F k) : RefRep w' b A c Z R L :=
  ⟨h.head.kept hk (hn _ (.inl rfl)), hk.ownsRow h.own (fun k hb => hn _ (.inr (by rw [← ownBlock_slice A L.length c]; exact hb))), h.few⟩

section
variable {w : World} {b : Nat} {A : Option Addr} {c : Nat} {Z R : Int} {L : List (Int × Int)}
theorem RefRep.c0 (h : RefRep w b A c Z R L) : w.cell? ⟨b, 0, none⟩ = some (.int .i64 Z) := h.head.cell 0
theorem RefRep.c1 (h : RefRep w b A c Z R L) : w.cell? ⟨b, 1, none⟩ = some (.int .i64 R) := h.head.cell 1
theorem RefRep.c2 (h : RefRep w b A c Z R L) : w.cell? ⟨b, 2, none⟩ = some (.slice A L.length c) := h.head.cell 2
end

def rthere (Z z : Int) : Bool := decide (0 ≤ z) && decide (z < lim Z 8)
theorem there_any (b : Nat) (Z z : Int) (w : World) (c0 : w.cell? ⟨b, 0, none⟩ = some (.int .i64 Z)) :
    Calls Try.prog 23 #[.pointer (some ⟨b, 0, none⟩), .int .i64 z] w fun e w' => e = .returned (.bool (rthere Z z)) ∧ w = w' := by
  by_cases h0 : 0 ≤ z
  · have hr : rthere Z z = decide (z < lim Z 8) := by simp [rthere, h0]
    by_cases h1 : z < lim Z 8
    · rw [hr, show decide (z < lim Z 8) = true by simpa using h1]
      unfold lim at h1
      clear hr
      go_enter Try.func23, Try.ntmps23
      go_wp2
      all_goals
        go_ret
        refine ⟨?_, rfl⟩
        first
          | rfl
          | (refine ret_bool ?_; rw [decide_eq_true_eq]; omega)
    · rw [hr, show decide (z < lim Z 8) = false by simpa using h1]
      unfold lim at h1
      clear hr
      go_enter Try.func23, Try.ntmps23
      go_wp2
      all_goals
        go_ret
        refine ⟨?_, rfl⟩
        first
          | rfl
          | (refine ret_bool ?_; rw [decide_eq_false_iff_not]; omega)
  · have hr : rthere Z z = false := by simp [rthere, h0]
    rw [hr]
    clear hr
    go_enter Try.func23, Try.ntmps23
    go_wp2
    go_ret
    exact ⟨rfl, rfl⟩

def rrow (L : List (Int × Int)) (z : Int) : List Int := (L.filter (fun p => p.2 == z)).map (·.1)
theorem rrow_snoc (L : List (Int × Int)) (p : Int × Int) (z : Int) : rrow (L ++ [p]) z = rrow L z ++ (if p.2 == z then [p.1] else []) := by
  unfold rrow
  rw [List.filter_append, List.map_append]
  congr 1
  by_cases h : (p.2 == z) = true <;> simp [List.filter, h]
theorem take_snoc {α : Type} {L : List α} {k : Nat} {p : α} (h : L[k]? = some p) : L.take (k + 1) = L.take k ++ [p] := by
  rw [List.take_add_one, h]; rfl
theorem rrow_le (L : List (Int × Int)) (z : Int) : (rrow L z).length ≤ L.length := by unfold rrow; rw [List.length_map]; exact List.length_filter_le _ _

def RowPost (w : World) (l : List Int) (e : Ending) (w' : World) : Prop := ∃ A c, e = .returned (.slice A l.length c) ∧ w'.ownsRow 0 30 1 (.slice A l.length c) l.length (u16s l) ∧ Kept Emp w w' ∧ ∀ k, A.map (·.block) = some k → w.heap.size ≤ k

set_option maxHeartbeats 800000 in
theorem rrow_any {w : World} {b : Nat} {A : Option Addr} {c : Nat} {Z R : Int} {L : List (Int × Int)} (h : RefRep w b A c Z R L) (z : Int) :
    Calls Try.prog 13 #[.pointer (some ⟨b, 0, none⟩), .int .i64 z] w (RowPost w (rrow L z)) := by
  obtain ⟨i0, hi, hz0, hz1, hz2⟩ := info_parts Try.info30
  have c2 := h.c2
  have hown := h.own
  have hfew := h.few
  have hB := h.head
  obtain ⟨n, hn⟩ : ∃ n, n = L.length := ⟨_, rfl⟩
  rw [← hn] at c2 hown hfew hB
  have HN := Lib.hid hn
  clear hn h
  go_enter Try.func13, Try.ntmps13
  go_wp2
  go_loopw [5, 6] (fun v i wr => ∃ k : Nat, k ≤ n ∧ i = .int .i64 k ∧ wr.ownsRow 0 30 1 v (rrow (L.take k) z).length (u16s (rrow (L.take k) z)) ∧ Kept Emp w wr ∧ ∀ j, v.ownBlock = some j → w.heap.size ≤ j) (fun _ i _ => n - (intOf i).toNat)
  case atStart => exact ⟨0, Nat.zero_le _, rfl, World.ownsRow_made w #[] 0 (Nat.zero_le _) (Nat.zero_le _) rfl, (Kept.refl _ _).alloc _, fun j hj => by simp [Value.ownBlock] at hj; omega⟩
  case round =>
    obtain ⟨k, hk, rfl, hv, hK, hloc⟩ := hrel
    have cr2 := hK.cellSome c2 (fun h => h)
    by_cases hlt : k < n
    · obtain ⟨p, hp⟩ : ∃ p, L[k]? = some p := ⟨_, List.getElem?_eq_getElem (by rw [← HN.out]; exact hlt)⟩
      obtain ⟨m, rfl⟩ : ∃ m, n = m + 1 := ⟨n - 1, by omega⟩
      obtain ⟨g, c', he, hc1, hc2, hg, hcell, _⟩ := own_some hown
      injection he with hA _ hc
      subst hA; subst hc
      have e0 := hK.cellSome (hcell _ _ (itemCells_get hp).1) (fun h => h)
      have e1 := hK.cellSome (hcell _ _ (itemCells_get hp).2) (fun h => h)
      have hts := take_snoc hp
      have hrs : rrow (L.take (k + 1)) z = rrow (L.take k) z ++ (if p.2 == z then [p.1] else []) := by rw [hts, rrow_snoc]
      have hle := rrow_le (L.take k) z
      rw [List.length_take] at hle
      clear hcell hp hts
      by_cases hpz : p.2 = z
      · have hb : (p.2 == z) = true := by simpa using hpz
        rw [hb, if_pos rfl] at hrs
        have HRS := Lib.hid hrs
        clear hrs hpz
        go_wp2_with (at_builtin; refine wpList_app rfl _ _ 38 rfl 30 i0 (.int .u16 0) 1 2 Try.underlying38 hi hz0 hz1 hz2 rfl (by decide) _ _ _ rfl (hv.alloc _) _ 1 [.int .u16 p.1] rfl (Sl.new wr 30 [.int .u16 p.1] 1 1 rfl (by unfold maxLen; omega)) (ints_oneCell .u16 [p.1]) (by unfold maxLen; omega) (by omega) ?_; intro v' w' h1 h2 _ h4)
        go_roundw
        case rel =>
          refine ⟨k + 1, by omega, by go_num, ?_, (hK.alloc _).trans h2 (fun j hj hb => ?_), fun j hj => ?_⟩
          · rw [HRS.out]; simpa using h1
          · have := hloc j hb; omega
          · rcases h4 j hj with h | h
            · exact hloc j h
            · have := hK.size; simp at h; omega
        case measure => simp [intOf]; omega
      · have hb : (p.2 == z) = false := by simpa using hpz
        rw [hb, if_neg (by simp), List.append_nil] at hrs
        have HRS := Lib.hid hrs
        clear hrs hpz
        go_wp2
        go_roundw
        case rel => exact ⟨k + 1, by omega, by go_num, by rw [HRS.out]; exact hv, hK, hloc⟩
        case measure => simp [intOf]; omega
    · obtain rfl : k = n := by omega
      go_wp2
      go_ret
      rw [List.take_of_length_le (Nat.le_of_eq HN.out.symm)] at hv
      obtain ⟨A', c', rfl, _, _⟩ := own_slice hv
      exact ⟨A', c', rfl, hv, hK, fun j hj => hloc j (by rw [ownBlock_slice]; exact hj)⟩

def rwhere (L : List (Int × Int)) (x : Int) : Option Int := (L.find? (fun p => p.1 == x)).map (·.2)
def rwhereV : Option Int → Value
  | some n => .tuple #[.int .i64 n, .bool true]
  | none => .tuple #[.int .i64 0, .bool false]
theorem rwhere_at {L : List (Int × Int)} {x : Int} {k : Nat} {p : Int × Int} (hp : L[k]? = some p) (hx : p.1 = x) (h : rwhere (L.take k) x = none) : rwhere L x = some p.2 := by
  have e : L = L.take k ++ p :: L.drop (k + 1) := by
    have hk := (List.getElem?_eq_some_iff.1 hp)
    obtain ⟨hl, rfl⟩ := hk
    rw [← List.drop_eq_getElem_cons hl, List.take_append_drop]
  unfold rwhere at h ⊢
  rw [e, List.find?_append]
  simp only [Option.map_eq_none_iff] at h
  rw [h]
  simp [hx]
theorem rwhere_snoc {L : List (Int × Int)} {x : Int} {p : Int × Int} (hx : p.1 ≠ x) (h : rwhere L x = none) : rwhere (L ++ [p]) x = none := by
  unfold rwhere at h ⊢
  rw [List.find?_append]
  simp only [Option.map_eq_none_iff] at h
  rw [h]
  simp [hx]

set_option maxHeartbeats 800000 in
theorem rwhere_any {w : World} {b : Nat} {A : Option Addr} {c : Nat} {Z R : Int} {L : List (Int × Int)} (h : RefRep w b A c Z R L) (x : Int) :
    Calls Try.prog 16 #[.pointer (some ⟨b, 0, none⟩), .int .u16 x] w fun e w' => e = .returned (rwhereV (rwhere L x)) ∧ w = w' := by
  have c2 := h.c2
  have hown := h.own
  have hfew := h.few
  obtain ⟨n, hn⟩ : ∃ n, n = L.length := ⟨_, rfl⟩
  rw [← hn] at c2 hown hfew
  have HN := Lib.hid hn
  clear hn h
  go_enter Try.func16, Try.ntmps16
  go_wp2
  go_loop [6] (fun i => ∃ k : Nat, k ≤ n ∧ i = .int .i64 k ∧ rwhere (L.take k) x = none) (fun i => n - (intOf i).toNat)
  case atStart => exact ⟨0, Nat.zero_le _, rfl, rfl⟩
  case round =>
    obtain ⟨k, hk, rfl, hno⟩ := hrel
    have HNO := Lib.hid hno
    clear hno
    by_cases hlt : k < n
    · obtain ⟨p, hp⟩ : ∃ p, L[k]? = some p := ⟨_, List.getElem?_eq_getElem (by rw [← HN.out]; exact hlt)⟩
      obtain ⟨m, rfl⟩ : ∃ m, n = m + 1 := ⟨n - 1, by omega⟩
      obtain ⟨g, c', he, hc1, hc2, hg, hcell, _⟩ := own_some hown
      injection he with hA _ hc
      subst hA; subst hc
      have e0 := hcell _ _ (itemCells_get hp).1
      have e1 := hcell _ _ (itemCells_get hp).2
      have HP := Lib.hid hp
      clear hcell hp
      by_cases hpx : p.1 = x
      · have hb : (p.1 == x) = true := by simpa using hpx
        have HPX := Lib.hid hpx
        clear hpx
        go_wp2
        go_ret2
        exact ⟨by rw [rwhere_at HP.out HPX.out HNO.out]; rfl, rfl⟩
      · have hb : (p.1 == x) = false := by simpa using hpx
        go_wp2
        go_round
        case rel => exact ⟨k + 1, by omega, by go_num, by rw [take_snoc HP.out]; exact rwhere_snoc hpx HNO.out⟩
        case measure => simp [intOf]; omega
    · obtain rfl : k = n := by omega
      have hno := HNO.out
      rw [List.take_of_length_le (Nat.le_of_eq HN.out.symm)] at hno
      have HNN := Lib.hid hno
      clear hno
      go_wp2
      go_ret2
      exact ⟨by rw [HNN.out]; rfl, rfl⟩

def FullPost (w : World) (r : Bool) (e : Ending) (w' : World) : Prop := e = .returned (.bool r) ∧ Kept Emp w w'
def rfull (R : Int) (L : List (Int × Int)) (z : Int) : Bool := decide (lim R 64 ≤ ((rrow L z).length : Int))
set_option maxHeartbeats 1600000 in
theorem rfull_any {w : World} {b : Nat} {A : Option Addr} {c : Nat} {Z R : Int} {L : List (Int × Int)} (h : RefRep w b A c Z R L) (z : Int) :
    Calls Try.prog 24 #[.pointer (some ⟨b, 0, none⟩), .int .i64 z] w (FullPost w (rfull R L z)) := by
  have hle := rrow_le L z
  have hfew := h.few
  have hrow : ∀ w1, Kept Emp w w1 → Calls Try.prog 13 #[.pointer (some ⟨b, 0, none⟩), .int .i64 z] w1 (RowPost w1 (rrow L z)) := fun w1 hk => rrow_any (h.kept hk (fun _ _ h => h)) z
  have c1 := h.c1
  obtain ⟨m, hm⟩ : ∃ m, m = (rrow L z).length := ⟨_, rfl⟩
  have hdec : rfull R L z = decide (min (max R 1) 64 ≤ (m : Int)) := by rw [hm]; rfl
  rw [hdec]
  have HM := Lib.hid hm
  have hc := fun w1 hk => (hrow w1 hk).mono (R' := fun e w' => ∃ A c, e = .returned (.slice A m c) ∧ Kept Emp w1 w') (fun e w' h => by obtain ⟨A, c, h1, _, h2, _⟩ := h; exact ⟨A, c, by rw [HM.out]; exact h1, h2⟩)
  have hm' : m ≤ 100000 := by omega
  clear hdec hm hrow hle hfew h
  have keep : ∀ w1 w2 : World, w1.cell? ⟨b, 1, none⟩ = some (.int .i64 R) ∧ Kept Emp w w1 → Kept Emp w1 w2 → w2.cell? ⟨b, 1, none⟩ = some (.int .i64 R) ∧ Kept Emp w w2 := fun w1 w2 h hk => ⟨hk.cellSome h.1 (fun h => h), h.2.trans hk (fun _ _ h => h)⟩
  have HKEEP := Lib.hid keep
  have HC := Lib.hid hc
  clear keep hc
  have k0 := Kept.refl Emp w
  have k1 := k0.drew
  have KW : ∀ w1 : World, Kept Emp w.drew w1 → w1.cell? ⟨b, 1, none⟩ = some (.int .i64 R) ∧ Kept Emp w w1 := fun w1 hk => HKEEP.out w.drew w1 ⟨c1, k1⟩ hk
  have HKW := Lib.hid KW
  clear KW HKEEP
  by_cases hr : R < 1
  · have e1 : min (max R 1) 64 = 1 := by omega
    rw [e1]
    clear e1
    go_enter Try.func24, Try.ntmps24
    go_wp2
    go_region_held3 (fun w' => w'.cell? ⟨b, 1, none⟩ = some (.int .i64 R) ∧ Kept Emp w w') (first | exact ⟨c1, k0⟩ | exact ⟨c1, k1⟩ | exact HKW.out _ (by assumption)) (first | (go_at_call 13; refine (HC.out _ k1).mono ?_; rintro e w1 ⟨A, c, rfl, hk⟩))
    all_goals
      go_wp2
      go_ret
      exact ⟨rfl, k1.trans ‹Kept Emp w.drew _› (fun _ _ h => h)⟩
  · by_cases hr2 : 64 < R
    · have e1 : min (max R 1) 64 = 64 := by omega
      rw [e1]
      clear e1
      go_enter Try.func24, Try.ntmps24
      go_wp2
      go_region_held3 (fun w' => w'.cell? ⟨b, 1, none⟩ = some (.int .i64 R) ∧ Kept Emp w w') (first | exact ⟨c1, k0⟩ | exact ⟨c1, k1⟩ | exact HKW.out _ (by assumption)) (first | (go_at_call 13; refine (HC.out _ k1).mono ?_; rintro e w1 ⟨A, c, rfl, hk⟩))
      all_goals
        go_wp2
        go_ret
        exact ⟨rfl, k1.trans ‹Kept Emp w.drew _› (fun _ _ h => h)⟩
    · have e1 : min (max R 1) 64 = R := by omega
      rw [e1]
      clear e1
      go_enter Try.func24, Try.ntmps24
      go_wp2
      go_region_held3 (fun w' => w'.cell? ⟨b, 1, none⟩ = some (.int .i64 R) ∧ Kept Emp w w') (first | exact ⟨c1, k0⟩ | exact ⟨c1, k1⟩ | exact HKW.out _ (by assumption)) (first | (go_at_call 13; refine (HC.out _ k1).mono ?_; rintro e w1 ⟨A, c, rfl, hk⟩))
      all_goals
        go_wp2
        go_ret
        exact ⟨rfl, k1.trans ‹Kept Emp w.drew _› (fun _ _ h => h)⟩
end Go.Proofs.Ytjoiecedidmbcaa
