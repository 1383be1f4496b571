/- The walk over PlaceRound. -/
import Derived.Test.YtbbihimlahngfaaShown
namespace Go.Proofs.Ytbbihimlahngfaa
open Go.RowKit

/-- All that one shows. -/
structure One (s : St) (a : Nat) : Prop where
  ok : Ok s
  row : s.L = [(9, (a : Int))]
theorem One.rng {s : St} {a : Nat} (h : One s a) : 1 ≤ a ∧ a < 32 := by
  have := h.ok.adrs (9, (a : Int)) (by rw [h.row]; simp)
  simp at this
  omega
theorem One.kind {s : St} {a : Nat} (h : One s a) : isS s.k a = 3 := by
  have h1 := h.ok.adrs (9, (a : Int)) (by rw [h.row]; simp)
  have h2 := h.rng
  rw [isS_in (by omega) (by omega)]
  exact h1.2.2
theorem One.look {s : St} {a : Nat} (h : One s a) : look s.L 9 = some (a : Int) := by rw [h.row]; simp [Ytbbihimlahngfaa.look]
theorem One.full {s : St} {a : Nat} (h : One s a) (h0 : spares s.k = []) : failTo s a = 0 ∧ failCode s a = 5 ∧ failS s a = s := by
  have := h.kind
  simp [failTo, failCode, failS, this, h0]
theorem One.move {s : St} {a : Nat} (h : One s a) {t : Int} {T : List Int} (h0 : spares s.k = t :: T) : ∃ j : Nat, t = j ∧ failTo s a = j ∧ failCode s a = 0 ∧ One (failS s a) j ∧ bringCode (failS s a) a = 0 ∧ One (bringS (failS s a) a) j := by
  have h3 := h.kind
  obtain ⟨i, j, hi, rfl, _, hi2, _, hj2, hij, _, _, _, _⟩ := fail_facts h.ok h3 (t := t) (by rw [h0]; simp)
  have e : failTo s a = j := by simp [failTo, h3, h0]
  have ei : i = a := by omega
  subst ei
  have eS : failS s i = ⟨(s.k.set i 2).set j 3, repl s.L i j⟩ := by simp [failS, h3, h0, e]
  have eL : repl s.L i j = [(9, (j : Int))] := by rw [h.row]; simp [repl]
  have hl : i < s.k.length := by rw [h.ok.len]; exact hi2
  have hk2 : isS (failS s i).k i = 2 := by
    have hr := h.rng
    rw [eS, isS_in (by omega) (by omega), Int.toNat_natCast]
    simp only
    rw [kd_set (by rw [List.length_set, h.ok.len]; exact hj2), if_neg (Ne.symm hij), kd_set hl, if_pos rfl]
  have hb : bringS (failS s i) i = ⟨(failS s i).k.set i 1, (failS s i).L⟩ := by simp [bringS, hk2]
  refine ⟨j, rfl, e, by simp [failCode, h3, h0], ⟨h.ok.fail _, by rw [eS]; exact eL⟩, by simp [bringCode, hk2], ⟨(h.ok.fail _).bring _, ?_⟩⟩
  rw [hb, eS]
  exact eL

/-- Nobody is free: all are spare. -/
theorem all_spare {k : List Int} (h : ∀ i : Nat, 1 ≤ i → i < 32 → kd k i = 1) (h0 : kd k 0 = 0) : (spares k).length = 31 := by
  have : spares k = (List.range 31).map (fun i => ((i + 1 : Nat) : Int)) := by
    unfold spares
    have e : (List.range 32).filter (fun i => k.getD i 0 == 1) = (List.range 31).map (· + 1) := by
      have h1 : ∀ i ∈ List.range 32, (k.getD i 0 == 1) = decide (0 < i) := fun i hi => by
        rw [List.mem_range] at hi
        rcases Nat.eq_zero_or_pos i with rfl | hp
        · change (kd k 0 == 1) = _; rw [h0]; rfl
        · change (kd k i == 1) = _; rw [h i hp hi]; simp [hp]
      rw [List.filter_congr h1]
      decide
    rw [e, List.map_map]
    rfl
  rw [this]; simp
theorem newK_one (L : List Int) (i : Nat) : kd (newK L) i = 0 ∨ kd (newK L) i = 1 := by
  have h := Ok.new L
  by_cases hi : i < 32
  · have h1 := h.kinds i hi
    change 0 ≤ kd (newK L) i ∧ kd (newK L) i ≤ 3 at h1
    have key : ∀ (L k : List Int), (∀ i, kd k i = 0 ∨ kd k i = 1) → ∀ i, kd (L.foldl (fun k a => if kn a then k.set a.toNat 1 else k) k) i = 0 ∨ kd (L.foldl (fun k a => if kn a then k.set a.toNat 1 else k) k) i = 1 := by
      intro L
      induction L with
      | nil => intro k h; exact h
      | cons a L ih =>
        intro k h
        simp only [List.foldl_cons]
        refine ih _ (fun i => ?_)
        split
        · by_cases hl : a.toNat < k.length
          · rw [kd_set hl]; split; exact .inr rfl; exact h i
          · rw [List.set_eq_of_length_le (by omega)]; exact h i
        · exact h i
    exact key L _ (fun i => .inl (by unfold kd; simp only [List.getD, List.getElem?_replicate]; split <;> rfl)) i
  · left
    unfold kd
    simp [List.getD, List.getElem?_eq_none (show (newK L).length ≤ i by rw [newK_len]; omega)]
/-- Whether an address is shown by a new one. -/
theorem round_first (L : List Int) {a : Nat} (h1 : 1 ≤ a) (h2 : a < 32) :
    (kd (newK L) a = 0 ∧ mapCode ⟨newK L, []⟩ 9 a = 0 ∧ (mapS ⟨newK L, []⟩ 9 a).L = [(9, (a : Int))]) ∨ (kd (newK L) a = 1 ∧ mapCode ⟨newK L, []⟩ 9 a = 8 ∧ mapS ⟨newK L, []⟩ 9 a = ⟨newK L, []⟩) := by
  have hi : isS (newK L) a = kd (newK L) a := by rw [isS_in (by omega) (by omega)]; rfl
  rcases newK_one L a with h | h
  · left
    have hc : mapCode ⟨newK L, []⟩ 9 a = 0 := by
      unfold mapCode
      rw [if_neg (by omega)]
      simp [look, hi, h]
    exact ⟨h, hc, by simp [mapS, hc, put]⟩
  · right
    have hc : mapCode ⟨newK L, []⟩ 9 a = 8 := by
      unfold mapCode
      rw [if_neg (by omega)]
      simp [hi, h]
    exact ⟨h, hc, by simp [mapS, hc]⟩
end Go.Proofs.Ytbbihimlahngfaa
