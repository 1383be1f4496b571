/- The steps keep what holds of who shows what. No program is named here. -/
import Derived.Test.YtbbihimlahngfaaModel
namespace Go.Proofs.Ytbbihimlahngfaa

def kd (k : List Int) (i : Nat) : Int := k.getD i 0
theorem kd_set {k : List Int} {i : Nat} (h : i < k.length) (v : Int) (j : Nat) : kd (k.set i v) j = if i = j then v else kd k j := by
  unfold kd
  by_cases e : i = j
  · subst e; simp [List.getD, h]
  · simp [List.getD, List.getElem?_set, e]
theorem isS_in {k : List Int} {a : Int} (h1 : 1 ≤ a) (h2 : a ≤ 31) : isS k a = kd k a.toNat := by simp only [isS, if_pos (show 1 ≤ a ∧ a ≤ 31 from ⟨h1, h2⟩)]; rfl
theorem isS_out {k : List Int} {a : Int} (h : ¬ (1 ≤ a ∧ a ≤ 31)) : isS k a = 0 := by simp only [isS, if_neg h]
theorem isS_rng {k : List Int} {a : Int} (h : isS k a ≠ 0) : 1 ≤ a ∧ a ≤ 31 := by
  by_cases hr : 1 ≤ a ∧ a ≤ 31
  · exact hr
  · exact absurd (isS_out hr) h
theorem look_none {L : Row} {l : Int} (h : look L l = none) : ∀ p ∈ L, p.1 ≠ l := by
  intro p hp e
  unfold look at h
  rw [Option.map_eq_none_iff, List.find?_eq_none] at h
  exact h p hp (by simp [e])
theorem mem_spares {k : List Int} {t : Int} : t ∈ spares k ↔ ∃ i : Nat, t = i ∧ i < 32 ∧ kd k i = 1 := by
  unfold spares kd
  simp only [List.mem_map, List.mem_filter, List.mem_range, beq_iff_eq]
  constructor
  · rintro ⟨i, ⟨h1, h2⟩, rfl⟩; exact ⟨i, rfl, h1, h2⟩
  · rintro ⟨i, rfl, h1, h2⟩; exact ⟨i, ⟨h1, h2⟩, rfl⟩
theorem mem_repl {L : Row} {a t : Int} {p : Int × Int} : p ∈ repl L a t ↔ (p ∈ L ∧ p.2 ≠ a) ∨ (∃ l, (l, a) ∈ L ∧ p = (l, t)) := by
  unfold repl
  rw [List.mem_map]
  constructor
  · rintro ⟨q, hq, rfl⟩
    by_cases e : q.2 = a
    · rw [if_pos e]; exact .inr ⟨q.1, by rw [← e]; exact hq, rfl⟩
    · rw [if_neg e]; exact .inl ⟨hq, e⟩
  · rintro (⟨hp, e⟩ | ⟨l, hl, rfl⟩)
    · exact ⟨p, hp, by rw [if_neg e]⟩
    · exact ⟨(l, a), hl, by simp⟩
theorem repl_fst (L : Row) (a t : Int) : (repl L a t).map (·.1) = L.map (·.1) := by
  unfold repl
  rw [List.map_map]
  apply List.map_congr_left
  intro p _
  simp only [Function.comp]
  split <;> rfl

theorem Ok.map {s : St} (h : Ok s) {l a : Int} (hl : 0 ≤ l) : Ok (mapS s l a) := by
  unfold mapS
  split
  · rename_i hc
    have hb : ¬ (64 ≤ l ∨ ¬ (1 ≤ a ∧ a ≤ 31)) ∧ ¬ ((look s.L l).isSome ∨ isS s.k a ≠ 0) := by
      unfold mapCode at hc
      split at hc
      · cases hc
      · split at hc
        · cases hc
        · exact ⟨by assumption, by assumption⟩
    obtain ⟨h1, h2⟩ := hb
    simp only [not_or, Decidable.not_not, Bool.not_eq_true, Option.isSome_eq_false_iff, Option.isNone_iff_eq_none] at h1 h2
    obtain ⟨i, rfl⟩ := Int.eq_ofNat_of_zero_le (show 0 ≤ a by omega)
    have hi : i < s.k.length := by rw [h.len]; omega
    have hk0 : kd s.k i = 0 := by rw [← h2.2, isS_in (by omega) (by omega), Int.toNat_natCast]
    have hno := look_none h2.1
    have hoff : ∀ p ∈ s.L, p.2 ≠ (i : Int) := fun p hp e => by
      have := (h.adrs p hp).2.2
      rw [e, Int.toNat_natCast] at this
      change kd s.k i = 3 at this
      omega
    simp only [Int.toNat_natCast]
    refine ⟨by simpa using h.len, ?_, ris_put h.ris _ _, fun p hp => ?_, fun p hp => ?_, fun j hj h3 => ?_, fun p hp q hq e => ?_, fun j hj => ?_⟩
    · change kd (s.k.set i 3) 0 = 0
      rw [kd_set hi, if_neg (by omega)]; exact h.zero
    · rcases (mem_put h.ris l i p).1 hp with rfl | ⟨hp, _⟩
      · exact ⟨hl, by omega⟩
      · exact h.locs p hp
    · change _ ∧ _ ∧ kd (s.k.set i 3) p.2.toNat = 3
      rcases (mem_put h.ris l i p).1 hp with rfl | ⟨hp, _⟩
      · refine ⟨by simp; omega, by simp; omega, ?_⟩
        simp only [Int.toNat_natCast]
        rw [kd_set hi, if_pos rfl]
      · obtain ⟨a1, a2, a3⟩ := h.adrs p hp
        refine ⟨a1, a2, ?_⟩
        rw [kd_set hi, if_neg (fun e => hoff p hp (by omega))]
        exact a3
    · change kd (s.k.set i 3) j = 3 at h3
      rw [kd_set hi] at h3
      by_cases e : i = j
      · subst e; exact ⟨_, (mem_put h.ris l i _).2 (.inl rfl), rfl⟩
      · rw [if_neg e] at h3
        obtain ⟨p, hp, hpj⟩ := h.back j hj h3
        exact ⟨p, (mem_put h.ris l i p).2 (.inr ⟨hp, hno p hp⟩), hpj⟩
    · rcases (mem_put h.ris l i p).1 hp with rfl | ⟨hp, _⟩ <;> rcases (mem_put h.ris l i q).1 hq with rfl | ⟨hq, _⟩
      · rfl
      · exact absurd e.symm (hoff q hq)
      · exact absurd e (hoff p hp)
      · exact h.inj' p hp q hq e
    · change 0 ≤ kd (s.k.set i 3) j ∧ kd (s.k.set i 3) j ≤ 3
      rw [kd_set hi]
      split
      · omega
      · exact h.kinds j hj
  · exact h

theorem Ok.setKind {s : St} (h : Ok s) {i : Nat} (hi : i < 32) (h1 : 1 ≤ i) {v : Int} (hv : v = 1 ∨ v = 2) (hk : kd s.k i ≠ 3) : Ok ⟨s.k.set i v, s.L⟩ := by
  have hil : i < s.k.length := by rw [h.len]; exact hi
  refine ⟨by simpa using h.len, ?_, h.ris, h.locs, fun p hp => ?_, fun j hj h3 => ?_, h.inj', fun j hj => ?_⟩
  · change kd (s.k.set i v) 0 = 0
    rw [kd_set hil, if_neg (by omega)]; exact h.zero
  · obtain ⟨a1, a2, a3⟩ := h.adrs p hp
    refine ⟨a1, a2, ?_⟩
    change kd (s.k.set i v) p.2.toNat = 3
    rw [kd_set hil, if_neg (fun e => hk (by rw [e]; exact a3))]
    exact a3
  · change kd (s.k.set i v) j = 3 at h3
    rw [kd_set hil] at h3
    split at h3
    · omega
    · exact h.back j hj h3
  · change 0 ≤ kd (s.k.set i v) j ∧ kd (s.k.set i v) j ≤ 3
    rw [kd_set hil]
    split
    · omega
    · exact h.kinds j hj

theorem Ok.bring {s : St} (h : Ok s) (a : Int) : Ok (bringS s a) := by
  unfold bringS
  split
  · rename_i h2
    obtain ⟨r1, r2⟩ := isS_rng (k := s.k) (a := a) (by omega)
    rw [isS_in r1 r2] at h2
    exact h.setKind (by omega) (by omega) (.inl rfl) (by omega)
  · exact h

/-- What Fail of one that shows a location does. -/
theorem fail_facts {s : St} (h : Ok s) {a : Int} (h3 : isS s.k a = 3) {t : Int} (ht : t ∈ spares s.k) :
    ∃ i j : Nat, a = i ∧ t = j ∧ 1 ≤ i ∧ i < 32 ∧ 1 ≤ j ∧ j < 32 ∧ i ≠ j ∧ kd s.k i = 3 ∧ kd s.k j = 1 ∧ (∀ p ∈ s.L, p.2 ≠ (j : Int)) ∧ ∃ l, (l, a) ∈ s.L := by
  obtain ⟨r1, r2⟩ := isS_rng (k := s.k) (a := a) (by omega)
  rw [isS_in r1 r2] at h3
  obtain ⟨i, rfl⟩ := Int.eq_ofNat_of_zero_le (show 0 ≤ a by omega)
  rw [Int.toNat_natCast] at h3
  obtain ⟨j, rfl, hj, hj1⟩ := mem_spares.1 ht
  have hj0 : j ≠ 0 := fun e => by subst e; have := h.zero; change kd s.k 0 = 0 at this; omega
  obtain ⟨⟨l, a'⟩, hp, e⟩ := h.back i (by omega) h3
  simp only at e
  subst e
  refine ⟨i, j, rfl, rfl, by omega, by omega, by omega, hj, fun e => by subst e; omega, h3, hj1, fun p hp e => ?_, l, hp⟩
  have := (h.adrs p hp).2.2
  rw [e, Int.toNat_natCast] at this
  change kd s.k j = 3 at this
  omega
theorem Ok.move {s : St} (h : Ok s) {a : Int} (h3 : isS s.k a = 3) {t : Int} (ht : t ∈ spares s.k) : Ok ⟨(s.k.set a.toNat 2).set t.toNat 3, repl s.L a t⟩ := by
  obtain ⟨i, j, rfl, rfl, hi1, hi, hj1, hj, hij, hki, hkj, hoff, l, hl⟩ := fail_facts h h3 ht
  simp only [Int.toNat_natCast]
  have hil : i < s.k.length := by rw [h.len]; exact hi
  have hjl : j < (s.k.set i 2).length := by rw [List.length_set, h.len]; exact hj
  have kk : ∀ m, kd ((s.k.set i 2).set j 3) m = if j = m then 3 else if i = m then 2 else kd s.k m := fun m => by rw [kd_set hjl, kd_set hil]
  refine ⟨by simpa using h.len, ?_, ?_, fun p hp => ?_, fun p hp => ?_, fun m hm h3 => ?_, fun p hp q hq e => ?_, fun m hm => ?_⟩
  · change kd _ 0 = 0
    rw [kk, if_neg (by omega), if_neg (by omega)]; exact h.zero
  · have : (repl s.L i j).map (·.1) = s.L.map (·.1) := repl_fst _ _ _
    have h1 : (s.L.map (·.1)).Pairwise (· < ·) := List.pairwise_map.2 h.ris
    rw [← this] at h1
    exact List.pairwise_map.1 h1
  · rcases mem_repl.1 hp with ⟨hp, _⟩ | ⟨l', hl', rfl⟩
    · exact h.locs p hp
    · exact h.locs (l', (i : Int)) hl'
  · change _ ∧ _ ∧ kd _ p.2.toNat = 3
    rw [kk]
    rcases mem_repl.1 hp with ⟨hp, hpa⟩ | ⟨l', hl', rfl⟩
    · obtain ⟨a1, a2, a3⟩ := h.adrs p hp
      refine ⟨a1, a2, ?_⟩
      split
      · rfl
      · rw [if_neg (by omega)]; exact a3
    · refine ⟨by simp; omega, by simp; omega, ?_⟩
      simp
  · change kd _ m = 3 at h3
    rw [kk] at h3
    by_cases e : j = m
    · subst e; exact ⟨_, mem_repl.2 (.inr ⟨l, hl, rfl⟩), rfl⟩
    · rw [if_neg e] at h3
      split at h3
      · omega
      · rename_i e2
        obtain ⟨p, hp, hpm⟩ := h.back m hm h3
        exact ⟨p, mem_repl.2 (.inl ⟨hp, by omega⟩), hpm⟩
  · rcases mem_repl.1 hp with ⟨hp, hpa⟩ | ⟨l1, hl1, rfl⟩ <;> rcases mem_repl.1 hq with ⟨hq, hqa⟩ | ⟨l2, hl2, rfl⟩
    · exact h.inj' p hp q hq e
    · exact absurd e (hoff p hp)
    · exact absurd e.symm (hoff q hq)
    · have := h.inj' _ hl1 _ hl2 rfl
      injection this with e1
      rw [e1]
  · change 0 ≤ kd _ m ∧ kd _ m ≤ 3
    rw [kk]
    split
    · omega
    · split
      · omega
      · exact h.kinds m hm

theorem headD_mem {L : List Int} (h : L ≠ []) : L.headD 0 ∈ L := by cases L with | nil => exact absurd rfl h | cons t T => simp
theorem Ok.fail {s : St} (h : Ok s) (a : Int) : Ok (failS s a) := by
  unfold failS
  split
  · rename_i h1
    obtain ⟨r1, r2⟩ := isS_rng (k := s.k) (a := a) (by omega)
    rw [isS_in r1 r2] at h1
    exact h.setKind (by omega) (by omega) (.inr rfl) (by omega)
  · split
    · rename_i h3
      have e : failTo s a = (spares s.k).headD 0 := by simp only [failTo, if_pos h3.1]
      rw [e]
      exact h.move h3.1 (headD_mem h3.2)
    · exact h

theorem rising_len : ∀ (L : List Int) (lo : Int), lo ≤ 64 → L.Pairwise (· < ·) → (∀ x ∈ L, lo ≤ x ∧ x < 64) → (L.length : Int) ≤ 64 - lo
  | [], lo, h, _, _ => by simp; omega
  | x :: r, lo, h, hp, hm => by
    have hx := hm x (by simp)
    have := rising_len r (x + 1) (by omega) (List.pairwise_cons.1 hp).2 (fun y hy => ⟨by have := (List.pairwise_cons.1 hp).1 y hy; omega, (hm y (by simp [hy])).2⟩)
    simp only [List.length_cons]
    omega
theorem Ok.few {s : St} (h : Ok s) : s.L.length ≤ 64 := by
  have := rising_len (s.L.map (·.1)) 0 (by omega) (List.pairwise_map.2 (show s.L.Pairwise (fun p q => p.1 < q.1) from h.ris)) (fun x hx => by obtain ⟨p, hp, rfl⟩ := List.mem_map.1 hx; exact h.locs p hp)
  simp at this
  omega
end Go.Proofs.Ytbbihimlahngfaa
