/- The walk over place.New. -/
import Derived.Test.YtbbihimlahngfaaSteps
import Derived.Carry
namespace Go.Proofs.Ytbbihimlahngfaa
open Go.RowKit

/-- The kinds behind New. -/
def newK (L : List Int) : List Int := L.foldl (fun k a => if kn a then k.set a.toNat 1 else k) (List.replicate 32 0)
theorem newK_len (L : List Int) : (newK L).length = 32 := by
  have : ∀ (L k : List Int), (L.foldl (fun k a => if kn a then k.set a.toNat 1 else k) k).length = k.length := by
    intro L
    induction L with
    | nil => intro k; rfl
    | cons a L ih =>
      intro k
      simp only [List.foldl_cons]
      rw [ih]
      split <;> simp
  simp [newK, this]
theorem newK_snoc (L : List Int) (a : Int) : newK (L ++ [a]) = if kn a then (newK L).set a.toNat 1 else newK L := by simp [newK, List.foldl_append]

set_option maxRecDepth 100000 in
set_option maxHeartbeats 1600000 in
theorem new_any (v : Value) (n : Nat) (L : List Int) (w : World) (hv : Sl w 1 v n (L.map (Value.int .u8))) (hL : ∀ a ∈ L, 0 ≤ a) :
    Calls Try.prog 10 #[v] w fun e w' => ∃ b mb, e = .returned (.pointer (some ⟨b, 0, none⟩)) ∧ PRep w' b mb ⟨newK L, []⟩ ∧ Kept Emp w w' ∧ w.heap.size ≤ b ∧ w.heap.size ≤ mb := by
  obtain ⟨hl, A, c, rfl, hnc, hcm, _, h0⟩ := hv
  have hn : L.length = n := by simpa using hl
  unfold maxLen at hcm
  have hmm := @run_makeMap Try.prog
  have hk0 : Kept Emp w ((w.alloc (.map #[] 0)).alloc (.cells (((List.replicate 32 (0 : Int)).map (Value.int .i64)) ++ [Value.map (some w.heap.size)]).toArray 46)) := ((Kept.refl Emp w).alloc _).alloc _
  have hP0 : PRep ((w.alloc (.map #[] 0)).alloc (.cells (((List.replicate 32 (0 : Int)).map (Value.int .i64)) ++ [Value.map (some w.heap.size)]).toArray 46)) (w.heap.size + 1) w.heap.size ⟨newK [], []⟩ := by
    refine ⟨?_, newK_len _, ?_⟩
    · have := Blk.new (w.alloc (.map #[] 0)) 46 (((List.replicate 32 (0 : Int)).map (Value.int .i64)) ++ [Value.map (some w.heap.size)]).toArray
      simpa [newK] using this
    · exact (World.ownsMap_made w Try.prog 29 _).alloc _
  have HP0 := Lib.hid hP0
  have HK0 := Lib.hid hk0
  have HN := Lib.hid hn
  have HL := Lib.hid hL
  have H0 := Lib.hid h0
  have HH := Lib.hid hl
  clear hP0 hk0 hn hL h0 hl
  go_enter Try.func10, Try.ntmps10
  go_wp2
  go_loopw [5, 12] (fun _ i wr => ∃ j : Nat, j ≤ n ∧ i = .int .i64 j ∧ PRep wr (w.heap.size + 1) w.heap.size ⟨newK (L.take j), []⟩ ∧ Kept Emp w wr) (fun _ i _ => n - (intOf i).toNat)
  case atStart => exact ⟨0, Nat.zero_le _, rfl, by simpa using HP0.out, HK0.out⟩
  case round =>
    obtain ⟨j, hj, rfl, hP, hK⟩ := hrel
    have HP := Lib.hid hP
    by_cases hlt : j < n
    · obtain ⟨g, o, rfl, hg, hc⟩ := H0.out (by omega)
      have hjl : j < L.length := by rw [HN.out]; exact hlt
      obtain ⟨x, hx⟩ : ∃ x, x = L[j] := ⟨_, rfl⟩
      have hx0 : 0 ≤ x := by rw [hx]; exact HL.out _ (List.getElem_mem hjl)
      obtain ⟨m, rfl⟩ := Int.eq_ofNat_of_zero_le hx0
      have hcell := hK.cellSome (hc j (.int .u8 m) (by simp [hjl, hx])) (fun h => h)
      have hstep : newK (L.take (j + 1)) = if kn m then (newK (L.take j)).set m 1 else newK (L.take j) := by
        rw [List.take_succ_eq_append_getElem hjl, newK_snoc, ← hx, Int.toNat_natCast]
      have HX := Lib.hid hstep
      have hlt' := hP.head.lt
      clear hc hx hx0 hstep
      by_cases hk : kn m = true
      · have hk' : 1 ≤ (m : Int) ∧ (m : Int) ≤ 31 := by simpa [kn] using hk
        have hm : m < 32 := by omega
        have c0 := hP.kind (a := m) hm
        have f0 := hP.head.frozen m
        have HK := Lib.hid hk
        obtain ⟨y, hy⟩ : ∃ y, y = (newK (L.take j)).getD m 0 := ⟨_, rfl⟩
        simp only at c0
        rw [← hy] at c0
        clear hy hP hk
        go_wp2_with (go_at_call 24; refine (known_any _ _ _).mono ?_; rintro e w' ⟨rfl, rfl⟩; rw [HK.out])
        go_roundw
        case rel =>
          refine ⟨j + 1, by omega, by go_num, ?_, hK.setCell (fun h => by simp at h; omega) _⟩
          have := HP.out.setKind hm 1
          rw [HX.out, if_pos HK.out]
          exact this
        case measure => simp [intOf]; omega
      · simp only [Bool.not_eq_true] at hk
        have HK := Lib.hid hk
        clear hP hk
        go_wp2_with (go_at_call 24; refine (known_any _ _ _).mono ?_; rintro e w' ⟨rfl, rfl⟩; rw [HK.out])
        go_roundw
        case rel =>
          refine ⟨j + 1, by omega, by go_num, ?_, hK⟩
          rw [HX.out, if_neg (by rw [HK.out]; simp)]
          exact HP.out
        case measure => simp [intOf]; omega
    · have e : L.take j = L := List.take_of_length_le (by rw [HN.out]; omega)
      have HE := Lib.hid e
      clear hP e
      go_wp2
      go_ret
      exact ⟨_, _, rfl, by have := HP.out; rw [HE.out] at this; exact this, hK, by omega, Nat.le_refl _⟩
end Go.Proofs.Ytbbihimlahngfaa
