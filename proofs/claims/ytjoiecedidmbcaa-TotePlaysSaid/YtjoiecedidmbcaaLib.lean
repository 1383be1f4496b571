/- Walks over slices.Index, slices.Contains, slices.Clone at []uint16. -/
import Derived.Test.YtjoiecedidmbcaaBase
import Derived.Test.YtjoiecedidmbcaaChecked
namespace Go.Proofs.Ytjoiecedidmbcaa
open Go.RowKit

abbrev u16s (L : List Int) : List Value := L.map (Value.int .u16)
theorem u16s_get {L : List Int} {k : Nat} (h : k < L.length) : (u16s L)[k]? = some (.int .u16 (L.getD k 0)) := by simp [List.getD, h]

/-- The first place of x, or -1. -/
def idx (L : List Int) (x : Int) : Int := if x ∈ L then (L.findIdx (· == x) : Nat) else -1
theorem idx_no {L : List Int} {x : Int} (h : ∀ j, j < L.length → L.getD j 0 ≠ x) : idx L x = -1 := by
  unfold idx
  rw [if_neg]
  intro hm
  obtain ⟨j, hj, e⟩ := List.getElem_of_mem hm
  exact h j hj (by simp [List.getD, hj, e])
theorem idx_at {L : List Int} {x : Int} {k : Nat} (hk : k < L.length) (h : ∀ j, j < k → L.getD j 0 ≠ x) (e : L.getD k 0 = x) : idx L x = k := by
  have ek : L[k] = x := by simpa [List.getD, hk] using e
  unfold idx
  rw [if_pos (ek ▸ List.getElem_mem hk)]
  congr 1
  rw [List.findIdx_eq hk]
  refine ⟨by simp [ek], fun j hj => ?_⟩
  have := h j hj
  have hj' : j < L.length := by omega
  simpa [List.getD, hj'] using this

theorem ret_int {k : IntKind} {a b : Int} (h : a = b) : Ending.returned (.int k a) = .returned (.int k b) := by rw [h]
theorem ret_bool {a b : Bool} (h : a = b) : Ending.returned (.bool a) = .returned (.bool b) := by rw [h]

set_option maxHeartbeats 400000 in
theorem index_any (v : Value) (n : Nat) (L : List Int) (x : Int) (w : World) (hs : Sl w 1 v n (u16s L)) :
    Calls Try.prog 31 #[v, .int .u16 x] w fun e w' => e = .returned (.int .i64 (idx L x)) ∧ w = w' := by
  obtain ⟨hl, A, c, rfl, hnc, hcm, _, h0⟩ := hs
  have hn : L.length = n := by simpa using hl
  unfold maxLen at hcm
  clear hl
  have HN := Lib.hid hn
  clear hn
  go_enter Try.func31, Try.ntmps31
  go_wp2
  go_loop [8] (fun i => ∃ k : Nat, k ≤ n ∧ i = .int .i64 k ∧ ∀ j, j < k → L.getD j 0 ≠ x) (fun i => n - (intOf i).toNat)
  case atStart => exact ⟨0, Nat.zero_le _, rfl, fun j hj => absurd hj (Nat.not_lt_zero _)⟩
  case round =>
    obtain ⟨k, hk, rfl, hno⟩ := hrel
    have HNO := Lib.hid hno
    clear hno
    by_cases hlt : k < n
    · obtain ⟨g, o, rfl, hg, hc⟩ := h0 (by omega)
      have hcell := hc k _ (u16s_get (by rw [HN.out]; exact hlt))
      clear hc h0
      obtain ⟨y, hy⟩ : ∃ y, y = L.getD k 0 := ⟨_, rfl⟩
      rw [← hy] at hcell
      have HY := Lib.hid hy
      clear hy
      by_cases hxy : x = y
      · subst hxy
        go_wp2
        go_ret
        exact ⟨ret_int (idx_at (by rw [HN.out]; exact hlt) HNO.out HY.out.symm).symm, rfl⟩
      · have hb : (x == y) = false := by simpa using hxy
        go_wp2
        go_round
        case rel => exact ⟨k + 1, by omega, by go_num, fun j hj => by
          rcases Nat.lt_succ_iff_lt_or_eq.1 hj with h | h
          · exact HNO.out j h
          · subst h; rw [← HY.out]; exact fun e => hxy e.symm⟩
        case measure => simp [intOf]; omega
    · go_wp2
      go_ret
      exact ⟨ret_int (idx_no (fun j hj => HNO.out j (by rw [HN.out] at hj; omega))).symm, rfl⟩

theorem contains_any (v : Value) (n : Nat) (L : List Int) (x : Int) (w : World) (hs : Sl w 1 v n (u16s L)) :
    Calls Try.prog 29 #[v, .int .u16 x] w fun e w' => e = .returned (.bool (decide (x ∈ L))) ∧ w = w' := by
  have hd : decide ((0 : Int) ≤ idx L x) = decide (x ∈ L) := by
    unfold idx
    by_cases h : x ∈ L
    · simp [h]
    · simp [h]
  have HD := Lib.hid hd
  clear hd
  go_enter Try.func29, Try.ntmps29
  go_wp2_with (go_at_call 31; refine (index_any _ _ _ _ _ hs).mono ?_; rintro e w' ⟨rfl, rfl⟩)
  go_ret
  exact ⟨ret_bool HD.out, rfl⟩

theorem Try.info30 : (Try.prog.info? 30).map (fun i => (i.zero, i.size, i.bytes)) = some (some (.int .u16 0), 1, 2) := by kernel_rfl
/-- slices.Clone of a slice of numbers. -/
theorem clone_any (v : Value) (n : Nat) (L : List Int) (w : World) (hs : Sl w 1 v n (u16s L)) (hn : n ≤ 1000000) :
    Calls Try.prog 28 #[v] w fun e w' => ∃ A c, e = .returned (.slice A n c) ∧ w'.ownsRow 0 30 1 (.slice A n c) n (u16s L) ∧ Kept Emp w w' ∧ ∀ k, (Value.slice A n c).ownBlock = some k → w.heap.size ≤ k := by
  obtain ⟨hl, A, c, rfl, hnc, hcm, hA, h0⟩ := id hs
  obtain ⟨i0, hi, hz0, hz1, hz2⟩ := info_parts Try.info30
  have q38 : ∀ (w : World) (a : Option Addr) (n c n' c' : Nat), (binOp .eql 38 (.slice a n c) (.slice none n' c')).run Try.prog w = .ok (.bool a.isNone) w := fun w a n c n' c' => Lib.run_eql_slice_nil w _ _ a n c n' c' Try.underlying38
  cases A with
  | none =>
    have hc := hA rfl
    subst hc
    obtain rfl : n = 0 := by omega
    have hL : L = [] := List.eq_nil_of_length_eq_zero (by simpa using hl)
    subst hL
    go_enter Try.func28, Try.ntmps28
    go_wp2
    go_ret
    exact ⟨_, _, rfl, World.ownsRow_nil _ _ _ _, Kept.refl _ _, fun k hk => by cases hk⟩
  | some a =>
    go_enter Try.func28, Try.ntmps28
    go_wp2_with (at_builtin; refine wpList_app rfl _ _ 38 rfl 30 i0 (.int .u16 0) 1 2 Try.underlying38 hi hz0 hz1 hz2 rfl (by decide) _ 0 [] rfl (World.ownsRow_made w #[] 0 (Nat.zero_le _) (Nat.zero_le _) rfl) _ n (u16s L) rfl ?c1 ?c2 ?c3 ?c4 ?k)
    case c1 => exact hs.kept ((Kept.refl Emp w).alloc _) (fun _ _ h => h)
    case c2 => exact ints_oneCell _ _
    case c3 => unfold maxLen; omega
    case c4 => omega
    case k =>
      intro v' w' h1 h2 h3 h4
      go_wp2
      go_ret
      obtain ⟨A', c', rfl, _⟩ := own_slice h1
      refine ⟨A', c', rfl, h1, ((Kept.refl Emp w).alloc _).trans h2 (fun j hj hb => ?_), fun k hk => ?_⟩
      · simp [Bk, Value.ownBlock] at hb; omega
      · rcases h4 k hk with h | h
        · simp [Value.ownBlock] at h; omega
        · exact Nat.le_of_succ_le h
end Go.Proofs.Ytjoiecedidmbcaa
