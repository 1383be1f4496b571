/- The walk over Fail. -/
import Derived.Test.YtbbihimlahngfaaMap
namespace Go.Proofs.Ytbbihimlahngfaa
open Go.RowKit

theorem put_repl {L : Row} (hr : Ris L) (hi : L.Pairwise (fun p q => p.2 ≠ q.2)) {l a : Int} (h : (l, a) ∈ L) (t : Int) : put L l t = repl L a t := by
  induction L with
  | nil => simp at h
  | cons p r ih =>
    have hr' := List.pairwise_cons.1 hr
    have hi' := List.pairwise_cons.1 hi
    rcases List.mem_cons.1 h with rfl | h
    · have e : repl r a t = r := by
        unfold repl
        refine (List.map_congr_left (fun q hq => ?_)).trans (List.map_id r)
        have := hi'.1 q hq
        simp only at this
        rw [if_neg (Ne.symm this)]; rfl
      simp only [put, Int.lt_irrefl, if_false, if_true, repl, List.map_cons] at e ⊢
      rw [e]
    · have h1 := hr'.1 _ h
      have h2 := hi'.1 _ h
      simp only at h1 h2
      have e1 : ¬ l < p.1 := by omega
      have e2 : p.1 ≠ l := by omega
      simp only [put, if_neg e1, if_neg e2, repl, List.map_cons, if_neg h2]
      rw [ih hr'.2 hi'.2 h]
      rfl

theorem spares_mem {k : List Int} {t : Int} (h : t ∈ spares k) : ∃ i : Nat, t = i ∧ i < 32 ∧ k.getD i 0 = 1 := by
  obtain ⟨i, hi, rfl⟩ := List.mem_map.1 h
  rw [List.mem_filter] at hi
  exact ⟨i, rfl, by simpa using hi.1, by simpa using hi.2⟩

set_option maxRecDepth 100000 in
set_option maxHeartbeats 1600000 in
theorem fail_few {w : World} {b mb : Nat} {s : St} (h : PRep w b mb s) (a : Nat) (hk : isS s.k a ≠ 3 ∨ spares s.k = []) (hrange : 0 ≤ isS s.k a ∧ isS s.k a ≤ 3) :
    Calls Try.prog 14 #[.pointer (some ⟨b, 0, none⟩), .int .u8 a] w fun e w' => e = .returned (.tuple #[.int .u8 0, .int .i64 (failCode s a)]) ∧ PRep w' b mb (failS s a) ∧ Kept (PF b mb) w w' := by
  have hsp := spares_any h
  have keep : ∀ w', Kept Emp w w' → Calls Try.prog 27 #[.pointer (some ⟨b, 0, none⟩), .int .u8 a] w' fun e w'' => e = .returned (.int .i64 (isS s.k a)) ∧ w' = w'' := fun w' hk => is_any (h.kept0 hk) a
  by_cases h0 : isS s.k a = 0
  · have e1 : failCode s a = 6 := by simp [failCode, h0]
    have e2 : failS s a = s := by simp [failS, h0]
    rw [e1, e2]
    rw [h0] at keep
    have HS := Lib.hid hsp
    have HI := Lib.hid keep
    clear hsp keep e1 e2 h0 hk hrange
    go_enter Try.func14, Try.ntmps14
    go_wp2_with (first | (go_at_call 23; refine (HS.out).mono ?_; rintro e w' ⟨v, rfl, hv⟩; obtain ⟨A, c, rfl, h1, h2, h3⟩ := hv) | (go_at_call 27; refine (HI.out _ h2).mono ?_; rintro e w' ⟨rfl, rfl⟩))
    go_ret2
    exact ⟨rfl, h.kept0 h2, h2.of_emp⟩
  · by_cases h2 : isS s.k a = 2
    · have e1 : failCode s a = 7 := by simp [failCode, h2]
      have e2 : failS s a = s := by simp [failS, h2]
      rw [e1, e2]
      rw [h2] at keep
      have HS := Lib.hid hsp
      have HI := Lib.hid keep
      clear hsp keep e1 e2 h0 h2 hk hrange
      go_enter Try.func14, Try.ntmps14
      go_wp2_with (first | (go_at_call 23; refine (HS.out).mono ?_; rintro e w' ⟨v, rfl, hv⟩; obtain ⟨A, c, rfl, h1, h2, h3⟩ := hv) | (go_at_call 27; refine (HI.out _ h2).mono ?_; rintro e w' ⟨rfl, rfl⟩))
      go_ret2
      exact ⟨rfl, h.kept0 h2, h2.of_emp⟩
    · by_cases h1 : isS s.k a = 1
      · have e1 : failCode s a = 0 := by simp [failCode, h1]
        have e2 : failS s a = ⟨s.k.set a 2, s.L⟩ := by simp [failS, h1]
        have hr := isS_range (k := s.k) (a := a) (by omega)
        have ha : a < 32 := by omega
        rw [e1, e2]
        rw [h1] at keep
        have HS := Lib.hid hsp
        have HI := Lib.hid keep
        clear hsp keep e1 e2 h0 h1 h2 hk hrange
        go_enter Try.func14, Try.ntmps14
        go_wp2_with (first | (go_at_call 23; refine (HS.out).mono ?_; rintro e w' ⟨v, rfl, hv⟩; obtain ⟨A, c, rfl, h1, h2, h3⟩ := hv; have hP := Lib.hid (h.kept0 h2); have f0 := hP.out.head.frozen a; have c0 := hP.out.kind (a := a) ha) | (go_at_call 27; refine (HI.out _ h2).mono ?_; rintro e w' ⟨rfl, rfl⟩))
        go_ret2
        exact ⟨rfl, hP.out.setKind ha 2, h2.of_emp.setCell (fun _ => .inl rfl) _⟩
      · have h3 : isS s.k a = 3 := by omega
        have hsp0 : spares s.k = [] := by rcases hk with hk | hk; exact absurd h3 hk; exact hk
        have e1 : failCode s a = 5 := by simp [failCode, h3, hsp0]
        have e2 : failS s a = s := by simp [failS, h3, hsp0]
        rw [e1, e2]
        rw [h3] at keep
        rw [hsp0] at hsp
        have HS := Lib.hid hsp
        have HI := Lib.hid keep
        clear hsp keep e1 e2 h0 h1 h2 h3 hsp0 hk hrange
        go_enter Try.func14, Try.ntmps14
        go_wp2_with (first | (go_at_call 23; refine (HS.out).mono ?_; rintro e w' ⟨v, rfl, hv⟩; obtain ⟨A, c, rfl, h1, h2, h3⟩ := hv) | (go_at_call 27; refine (HI.out _ h2).mono ?_; rintro e w' ⟨rfl, rfl⟩))
        go_ret2
        exact ⟨rfl, h.kept0 h2, h2.of_emp⟩
end Go.Proofs.Ytbbihimlahngfaa
