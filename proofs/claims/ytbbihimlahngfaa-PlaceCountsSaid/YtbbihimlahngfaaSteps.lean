/- Walks over Bring, Map, Fail. -/
import Derived.Test.YtbbihimlahngfaaSpares
import Derived.Test.YtbbihimlahngfaaLocs
namespace Go.Proofs.Ytbbihimlahngfaa
open Go.RowKit

theorem isS_range {k : List Int} {a : Int} (h : isS k a ≠ 0) : 1 ≤ a ∧ a ≤ 31 := by
  unfold isS at h
  split at h
  · assumption
  · exact absurd rfl h
theorem PRep.setKind {w : World} {b mb : Nat} {s : St} (h : PRep w b mb s) {a : Nat} (ha : a < 32) (v : Int) : PRep (w.setCell ⟨b, a, none⟩ (.int .i64 v)) b mb ⟨s.k.set a v, s.L⟩ := by
  refine ⟨?_, by simpa using h.len, h.map.setCell (Ne.symm h.ne) _⟩
  have h1 := h.head.set_ a (.int .i64 v)
  have hl := h.len
  have e : ((s.k.map (Value.int .i64)) ++ [Value.map (some mb)]).toArray.setIfInBounds a (.int .i64 v) = (((s.k.set a v).map (Value.int .i64)) ++ [Value.map (some mb)]).toArray := by
    simp only [List.setIfInBounds_toArray, List.map_set]
    rw [List.set_append_left _ _ (by simpa [hl] using ha)]
  rw [e] at h1
  exact h1
theorem kept_kind {w : World} {b mb a : Nat} (v : Value) : Kept (PF b mb) w (w.setCell ⟨b, a, none⟩ v) := (Kept.refl _ w).setCell (fun _ => .inl rfl) v

set_option maxHeartbeats 800000 in
theorem bring_any {w : World} {b mb : Nat} {s : St} (h : PRep w b mb s) (a : Nat) : Calls Try.prog 16 #[.pointer (some ⟨b, 0, none⟩), .int .u8 a] w fun e w' => e = .returned (.int .i64 (bringCode s a)) ∧ PRep w' b mb (bringS s a) ∧ Kept (PF b mb) w w' := by
  have hi := is_any h a
  have hlt := h.head.lt
  by_cases h2 : isS s.k a = 2
  · have hr := isS_range (k := s.k) (a := a) (by omega)
    have f0 := h.head.frozen a
    have c0 := h.kind (a := a) (by omega)
    have hx := h.setKind (a := a) (by omega) 1
    have e1 : bringCode s a = 0 := by simp [bringCode, h2]
    have e2 : bringS s a = ⟨s.k.set a 1, s.L⟩ := by simp [bringS, h2]
    rw [e1, e2]
    rw [h2] at hi
    have HX := Lib.hid hx
    have HI := Lib.hid hi
    generalize s.k.getD a 0 = v at c0
    clear hi hx e1 e2 h2 h
    go_enter Try.func16, Try.ntmps16
    go_wp2_with (go_at_call 27; refine (HI.out).mono ?_; rintro e w' ⟨rfl, rfl⟩)
    go_ret
    exact ⟨rfl, HX.out, kept_kind _⟩
  · by_cases h0 : isS s.k a = 0
    · have e1 : bringCode s a = 6 := by simp [bringCode, h0]
      have e2 : bringS s a = s := by simp [bringS, h0]
      rw [e1, e2]
      rw [h0] at hi
      have HI := Lib.hid hi
      clear hi e1 e2 h0 h2
      go_enter Try.func16, Try.ntmps16
      go_wp2_with (go_at_call 27; refine (HI.out).mono ?_; rintro e w' ⟨rfl, rfl⟩)
      go_ret
      exact ⟨rfl, h, Kept.refl _ _⟩
    · have e1 : bringCode s a = 7 := by simp [bringCode, h0, h2]
      have e2 : bringS s a = s := by simp [bringS, h2]
      rw [e1, e2]
      have b0 : (isS s.k a == 0) = false := by simpa using h0
      have b2 : (isS s.k a == 2) = false := by simpa using h2
      have HI := Lib.hid hi
      generalize isS s.k a = x at HI b0 b2
      clear hi e1 e2 h0 h2
      go_enter Try.func16, Try.ntmps16
      go_wp2_with (go_at_call 27; refine (HI.out).mono ?_; rintro e w' ⟨rfl, rfl⟩)
      go_ret
      exact ⟨rfl, h, Kept.refl _ _⟩
end Go.Proofs.Ytbbihimlahngfaa
