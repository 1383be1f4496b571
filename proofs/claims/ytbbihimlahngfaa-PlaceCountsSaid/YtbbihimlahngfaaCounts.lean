/- As many are not free as there were spares, and locations that are shown. No program is named here. -/
import Derived.Test.YtbbihimlahngfaaRound
namespace Go.Proofs.Ytbbihimlahngfaa

/-- How many kinds are such. -/
def cn (c : Int → Bool) (k : List Int) : Nat := k.countP c
theorem cn_set {c : Int → Bool} {k : List Int} {i : Nat} (h : i < k.length) (v : Int) : cn c (k.set i v) + (if c (kd k i) then 1 else 0) = cn c k + (if c v then 1 else 0) := by
  unfold cn kd
  have e : k.getD i 0 = k[i] := by simp [List.getD, h]
  rw [List.countP_set h, e]
  have : (if c k[i] = true then 1 else 0) ≤ k.countP c := by
    split
    · rename_i hc
      exact List.countP_pos_iff.2 ⟨_, List.getElem_mem h, hc⟩
    · omega
  omega
def nz (x : Int) : Bool := x != 0
def is3 (x : Int) : Bool := x == 3
def is0 (x : Int) : Bool := x == 0
def is1 (x : Int) : Bool := x == 1
structure Cnt (n : Nat) (s : St) : Prop where
  ok : Ok s
  all : cn nz s.k = n + s.L.length
  show_ : cn is3 s.k = s.L.length
theorem spares_len (k : List Int) (h : k.length = 32) : (spares k).length = cn is1 k := by
  unfold spares cn is1
  rw [List.length_map, ← List.countP_eq_length_filter]
  have e : k = (List.range 32).map (fun i => k.getD i 0) := by
    apply List.ext_getElem
    · simp [h]
    · intro i h1 h2
      simp [List.getD, h1]
  conv => rhs; rw [e]
  rw [List.countP_map]
  rfl
theorem put_len {L : Row} {l a : Int} (h : ∀ p ∈ L, p.1 ≠ l) : (put L l a).length = L.length + 1 := by
  induction L with
  | nil => rfl
  | cons p r ih =>
    unfold put
    split
    · rfl
    · rw [if_neg (h p (by simp))]
      simp [ih (fun q hq => h q (by simp [hq]))]
theorem cnt_new (K : List Int) : Cnt (spares (newK K)).length ⟨newK K, []⟩ := by
  refine ⟨Ok.new K, ?_, ?_⟩
  · rw [spares_len _ (newK_len K)]
    simp only [List.length_nil, Nat.add_zero, cn]
    refine List.countP_congr (fun x hx => ?_)
    obtain ⟨i, hi, rfl⟩ := List.getElem_of_mem hx
    have := newK_one K i
    simp only [kd, List.getD, List.getElem?_eq_getElem hi, Option.getD_some] at this
    rcases this with h | h <;> simp [nz, is1, h]
  · simp only [List.length_nil, cn, List.countP_eq_zero]
    intro x hx
    obtain ⟨i, hi, rfl⟩ := List.getElem_of_mem hx
    have := newK_one K i
    simp only [kd, List.getD, List.getElem?_eq_getElem hi, Option.getD_some] at this
    rcases this with h | h <;> simp [is3, h]
theorem Cnt.map {n : Nat} {s : St} (h : Cnt n s) {l a : Int} (hl : 0 ≤ l) : Cnt n (mapS s l a) := by
  have hok := h.ok.map (l := l) (a := a) hl
  refine ⟨hok, ?_, ?_⟩ <;>
  · unfold mapS
    split
    · rename_i hc
      have hb : (1 ≤ a ∧ a ≤ 31) ∧ look s.L l = none ∧ isS s.k a = 0 := by
        unfold mapCode at hc
        split at hc
        · cases hc
        · split at hc
          · cases hc
          · rename_i h1 h2
            simp only [not_or, Decidable.not_not, Bool.not_eq_true, Option.isSome_eq_false_iff, Option.isNone_iff_eq_none] at h1 h2
            exact ⟨h1.2, h2⟩
      obtain ⟨⟨r1, r2⟩, hn, h0⟩ := hb
      rw [isS_in r1 r2] at h0
      have hi : a.toNat < s.k.length := by rw [h.ok.len]; omega
      have e1 := cn_set (c := nz) hi 3
      have e2 := cn_set (c := is3) hi 3
      rw [h0] at e1 e2
      simp only [nz, is3] at e1 e2
      have hp := put_len (a := a) (look_none hn)
      have := h.all
      have := h.show_
      simp only [hp]
      first
        | (change cn nz _ = _; simp only [cn] at *; simp at e1; omega)
        | (change cn is3 _ = _; simp only [cn] at *; simp at e2; omega)
    · first | exact h.all | exact h.show_
theorem Cnt.setKind {n : Nat} {s : St} (h : Cnt n s) {i : Nat} (hi : i < 32) (h1 : 1 ≤ i) {v : Int} (hv : v = 1 ∨ v = 2) (hk : kd s.k i = 1 ∨ kd s.k i = 2) : Cnt n ⟨s.k.set i v, s.L⟩ := by
  have hil : i < s.k.length := by rw [h.ok.len]; exact hi
  have e1 := cn_set (c := nz) hil v
  have e2 := cn_set (c := is3) hil v
  have n1 : nz (kd s.k i) = true := by rcases hk with h | h <;> rw [h] <;> rfl
  have n2 : is3 (kd s.k i) = false := by rcases hk with h | h <;> rw [h] <;> rfl
  have n3 : nz v = true := by rcases hv with h | h <;> rw [h] <;> rfl
  have n4 : is3 v = false := by rcases hv with h | h <;> rw [h] <;> rfl
  rw [n1, n3] at e1
  rw [n2, n4] at e2
  simp at e1 e2
  exact ⟨h.ok.setKind hi h1 hv (by omega), e1.trans h.all, e2.trans h.show_⟩
theorem Cnt.bring {n : Nat} {s : St} (h : Cnt n s) (a : Int) : Cnt n (bringS s a) := by
  unfold bringS
  split
  · rename_i h2
    obtain ⟨r1, r2⟩ := isS_rng (k := s.k) (a := a) (by omega)
    rw [isS_in r1 r2] at h2
    exact h.setKind (by omega) (by omega) (.inl rfl) (.inr h2)
  · exact h
theorem Cnt.fail {n : Nat} {s : St} (h : Cnt n s) (a : Int) : Cnt n (failS s a) := by
  have hok := h.ok.fail a
  unfold failS at hok ⊢
  split
  · rename_i h1
    obtain ⟨r1, r2⟩ := isS_rng (k := s.k) (a := a) (by omega)
    rw [isS_in r1 r2] at h1
    exact h.setKind (by omega) (by omega) (.inr rfl) (.inl h1)
  · rename_i h1
    rw [if_neg h1] at hok
    split
    · rename_i h3
      rw [if_pos h3] at hok
      have e : failTo s a = (spares s.k).headD 0 := by simp only [failTo, if_pos h3.1]
      obtain ⟨i, j, rfl, ht, hi1, hi, hj1, hj, hij, hki, hkj, _, _⟩ := fail_facts h.ok h3.1 (headD_mem h3.2)
      rw [← e] at ht
      rw [ht] at hok ⊢
      simp only [Int.toNat_natCast] at hok ⊢
      have hil : i < s.k.length := by rw [h.ok.len]; exact hi
      have hjl : j < (s.k.set i 2).length := by rw [List.length_set, h.ok.len]; exact hj
      have a1 := cn_set (c := nz) hil 2
      have a2 := cn_set (c := is3) hil 2
      have b1 := cn_set (c := nz) hjl 3
      have b2 := cn_set (c := is3) hjl 3
      rw [hki] at a1 a2
      rw [kd_set hil, if_neg hij, hkj] at b1 b2
      simp [nz, is3] at a1 a2 b1 b2
      have := h.all
      have := h.show_
      have hl : (repl s.L i j).length = s.L.length := by simp [repl]
      refine ⟨hok, ?_, ?_⟩
      · simp only [hl]; simp only [cn] at *; simp at *; omega
      · simp only [hl]; simp only [cn] at *; omega
    · exact h

/-- Behind all that came back: below a nobody is broken; f of them are free. -/
structure Back (n : Nat) (s : St) (a f : Nat) : Prop where
  cnt : Cnt n s
  low : ∀ i, i < a → kd s.k i ≠ 2
  free : f + 1 = cn is0 (s.k.take a)
theorem Back.start {n : Nat} {s : St} (h : Cnt n s) : Back n s 1 0 := by
  have h0 := h.ok.zero
  have hl := h.ok.len
  refine ⟨h, fun i hi => ?_, ?_⟩
  · obtain rfl : i = 0 := by omega
    change kd s.k 0 = 0 at h0
    omega
  · cases hk : s.k with
    | nil => rw [hk] at hl; simp at hl
    | cons x r =>
      rw [hk] at h0
      simp at h0
      subst h0
      rfl
theorem Back.step {n : Nat} {s : St} {a f : Nat} (h : Back n s a f) (ha : 1 ≤ a) (ha2 : a < 32) :
    Back n (bringS s a) (a + 1) (if kd s.k a = 0 then f + 1 else f) ∧ (bringCode s a = 6 ↔ kd s.k a = 0) ∧ (ofS (bringS s a).L a).isSome = (bringCode s a == 7 && kd s.k a == 3) ∧ (kd s.k a = 3 → bringCode s a = 7) := by
  have hi : isS s.k a = kd s.k a := by rw [isS_in (by omega) (by omega)]; rfl
  have hal : a < s.k.length := by rw [h.cnt.ok.len]; exact ha2
  have hkk := h.cnt.ok.kinds a ha2
  change 0 ≤ kd s.k a ∧ kd s.k a ≤ 3 at hkk
  have hL : (bringS s a).L = s.L := by unfold bringS; split <;> rfl
  have htake : (bringS s a).k.take (a + 1) = s.k.take a ++ [if kd s.k a = 2 then 1 else kd s.k a] := by
    unfold bringS
    rw [hi]
    split
    · rename_i h2
      simp only [Int.toNat_natCast]
      rw [List.take_succ_eq_append_getElem (by simpa using hal), List.take_set, List.set_eq_of_length_le (by rw [List.length_take]; omega)]
      simp
    · rw [List.take_succ_eq_append_getElem hal]
      simp [kd, List.getD, hal]
  refine ⟨⟨h.cnt.bring _, fun i hi2 => ?_, ?_⟩, ?_, ?_, ?_⟩
  · unfold bringS
    rw [hi]
    split
    · simp only [Int.toNat_natCast]
      rw [kd_set hal]
      split
      · omega
      · exact h.low i (by omega)
    · by_cases e : i = a
      · subst e; assumption
      · exact h.low i (by omega)
  · rw [htake]
    have := h.free
    simp only [cn, List.countP_append] at this ⊢
    rw [← this]
    by_cases h0 : kd s.k a = 0
    · simp [h0, is0]
    · have : is0 (if kd s.k a = 2 then 1 else kd s.k a) = false := by
        unfold is0
        split
        · rfl
        · simpa using h0
      rw [if_neg h0]
      simp [this]
  · unfold bringCode
    rw [hi]
    constructor
    · intro h
      split at h
      · assumption
      · split at h <;> omega
    · intro h; rw [if_pos h]
  · rw [hL]
    by_cases h3 : kd s.k a = 3
    · obtain ⟨p, hp, hpa⟩ := h.cnt.ok.back a ha2 h3
      have hm : (p.1, (a : Int)) ∈ s.L := by rw [← hpa]; exact hp
      rw [ofS_some h.cnt.ok.ris h.cnt.ok.inj hm]
      simp [bringCode, hi, h3]
    · rw [ofS_none (fun p hp e => by
        have := (h.cnt.ok.adrs p hp).2.2
        rw [e, Int.toNat_natCast] at this
        exact h3 this)]
      have : (kd s.k a == 3) = false := by simpa using h3
      simp [this]
  · intro h3
    simp [bringCode, hi, h3]
theorem Back.last {n : Nat} {s : St} {f : Nat} (h : Back n s 32 f) : f + (n + s.L.length) = 31 ∧ (spares s.k).length = n := by
  have hl := h.cnt.ok.len
  have h1 := h.free
  rw [List.take_of_length_le (by omega)] at h1
  have h2 : cn is0 s.k + cn nz s.k = 32 := by
    have := List.length_eq_countP_add_countP (p := is0) (l := s.k)
    rw [hl] at this
    have e : s.k.countP (fun a => decide ¬ is0 a = true) = cn nz s.k := by
      unfold cn
      refine List.countP_congr (fun x _ => ?_)
      simp [is0, nz]
    rw [e] at this
    exact this.symm
  have h3 := h.cnt.all
  have h4 := h.cnt.show_
  refine ⟨by omega, ?_⟩
  rw [spares_len _ hl]
  have h5 : cn nz s.k = cn is1 s.k + cn is3 s.k := by
    have key : ∀ (k : List Int), (∀ i, i < k.length → k.getD i 0 = 0 ∨ k.getD i 0 = 1 ∨ k.getD i 0 = 3) → k.countP nz = k.countP is1 + k.countP is3 := by
      intro k
      induction k with
      | nil => intro _; rfl
      | cons x r ih =>
        intro hk
        have hx := hk 0 (by simp)
        have hr := ih (fun i hi => by have := hk (i + 1) (by simpa using hi); simpa using this)
        simp at hx
        simp only [List.countP_cons, hr]
        rcases hx with rfl | rfl | rfl <;> simp [nz, is1, is3] <;> omega
    refine key s.k (fun i hi => ?_)
    have h6 := h.cnt.ok.kinds i (by omega)
    have h7 := h.low i (by omega)
    unfold kd at h7
    omega
  omega
end Go.Proofs.Ytbbihimlahngfaa
