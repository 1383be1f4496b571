/- The plain law: the program's rows and the document's one row of totes answer alike. No program is walked here. -/
import Derived.Test.YtjoiecedidmbcaaShown
namespace Go.Proofs.Ytjoiecedidmbcaa

structure Rel (zs : List (List Int)) (r : Nat) (Z R : Int) (L : List (Int × Int)) : Prop where
  zn : (zs.length : Int) = lim Z 8
  rn : (r : Int) = lim R 64
  rows : ∀ z : Nat, z < zs.length → row zs z = rrow L z
  inside : ∀ p ∈ L, 0 ≤ p.2 ∧ p.2 < (zs.length : Int)
  once : (L.map (·.1)).Nodup

theorem mem_rrow {L : List (Int × Int)} {x z : Int} : x ∈ rrow L z ↔ (x, z) ∈ L := by
  unfold rrow
  simp only [List.mem_map, List.mem_filter, beq_iff_eq]
  constructor
  · rintro ⟨p, ⟨h1, h2⟩, h3⟩
    cases p; simp only at h2 h3; subst h2; subst h3; exact h1
  · intro h; exact ⟨(x, z), ⟨h, rfl⟩, rfl⟩
theorem uniq {L : List (Int × Int)} (h : (L.map (·.1)).Nodup) {x z z' : Int} (h1 : (x, z) ∈ L) (h2 : (x, z') ∈ L) : z = z' := by
  induction L with
  | nil => cases h1
  | cons p l ih =>
    simp only [List.map_cons, List.nodup_cons] at h
    have key : ∀ y, (x, y) ∈ l → p.1 ≠ x := fun y hy e => h.1 (e ▸ List.mem_map.2 ⟨(x, y), hy, rfl⟩)
    rcases List.mem_cons.1 h1 with e1 | m1 <;> rcases List.mem_cons.1 h2 with e2 | m2
    · have := e1.trans e2.symm; injection this
    · exact absurd (by rw [← e1]) (key _ m2)
    · exact absurd (by rw [← e2]) (key _ m1)
    · exact ih h.2 m1 m2
theorem rrow_nodup {L : List (Int × Int)} (h : (L.map (·.1)).Nodup) (z : Int) : (rrow L z).Nodup := by
  unfold rrow
  exact h.sublist (List.Sublist.map _ List.filter_sublist)
theorem rrow_filter (L : List (Int × Int)) (x z : Int) : rrow (L.filter (fun p => p.1 != x)) z = (rrow L z).filter (· != x) := by
  unfold rrow
  induction L with
  | nil => rfl
  | cons p l ih =>
    by_cases h1 : (p.1 != x) = true <;> by_cases h2 : (p.2 == z) = true <;> simp_all [List.filter_cons]
theorem filter_out {l : List Int} {x : Int} (h : x ∉ l) : l.filter (· != x) = l := by
  rw [List.filter_eq_self]
  intro y hy
  simp only [bne_iff_ne]
  rintro rfl
  exact h hy
theorem rrow_append (L M : List (Int × Int)) (z : Int) : rrow (L ++ M) z = rrow L z ++ rrow M z := by simp [rrow]
theorem rrow_one (x z z' : Int) : rrow [(x, z')] z = if z' = z then [x] else [] := by
  by_cases h : z' = z <;> simp [rrow, h]

section
variable {zs : List (List Int)} {r : Nat} {Z R : Int} {L : List (Int × Int)}
theorem Rel.inz (h : Rel zs r Z R L) (z : Int) : inz zs z = rthere Z z := by
  unfold Ytjoiecedidmbcaa.inz rthere
  rw [h.zn]
theorem Rel.rowAt (h : Rel zs r Z R L) (z : Int) : rowAt zs z = rrow L z := by
  unfold Ytjoiecedidmbcaa.rowAt
  by_cases hz : Ytjoiecedidmbcaa.inz zs z = true
  · rw [if_pos hz]
    obtain ⟨h0, h1⟩ := inz_iff.1 hz
    obtain ⟨n, rfl⟩ := Int.eq_ofNat_of_zero_le h0
    rw [Int.toNat_natCast]
    exact h.rows n (by omega)
  · rw [if_neg hz]
    cases hr : rrow L z with
    | nil => rfl
    | cons x l =>
      have hm : (x, z) ∈ L := mem_rrow.1 (by rw [hr]; exact List.mem_cons_self)
      exact absurd (inz_iff.2 (h.inside _ hm)) hz
theorem rwhere_none {x : Int} (h : ∀ z, (x, z) ∉ L) : rwhere L x = none := by
  unfold rwhere
  rw [Option.map_eq_none_iff, List.find?_eq_none]
  intro p hp
  simp only [beq_iff_eq]
  rintro rfl
  exact h p.2 hp
theorem rwhere_some {x z : Int} (ho : (L.map (·.1)).Nodup) (h : (x, z) ∈ L) : rwhere L x = some z := by
  unfold rwhere
  cases hf : L.find? (fun p => p.1 == x) with
  | none =>
    rw [List.find?_eq_none] at hf
    exact absurd (by simp) (hf _ h)
  | some p =>
    have h1 := List.find?_some hf
    have h2 := List.mem_of_find?_eq_some hf
    simp only [beq_iff_eq] at h1
    cases p
    simp only at h1
    subst h1
    simp only [Option.map_some]
    rw [uniq ho h2 h]
theorem Rel.where_ (h : Rel zs r Z R L) (x : Int) : whereV (whereIs zs x) = rwhereV (rwhere L x) := by
  by_cases hx : ∃ z, (x, z) ∈ L
  · obtain ⟨z, hz⟩ := hx
    obtain ⟨h0, h1⟩ := h.inside _ hz
    obtain ⟨n, rfl⟩ : ∃ n : Nat, z = n := Int.eq_ofNat_of_zero_le h0
    rw [rwhere_some h.once hz]
    have hn : n < zs.length := by simp only at h1; omega
    rw [whereIs_at hn (fun j hj hm => ?_) (by rw [h.rows n hn]; exact mem_rrow.2 hz)]
    · rfl
    · rw [h.rows j (by omega)] at hm
      have := uniq h.once (mem_rrow.1 hm) hz
      omega
  · have hx' : ∀ z, (x, z) ∉ L := fun z hz => hx ⟨z, hz⟩
    rw [rwhere_none hx', whereIs_no (fun j hj hm => hx' _ (mem_rrow.1 (by rw [h.rows j hj] at hm; exact hm)))]
    rfl
theorem isSome_of_V {a : Option Nat} {b : Option Int} (h : whereV a = rwhereV b) : a.isSome = b.isSome := by
  cases a <;> cases b <;> simp_all [whereV, rwhereV]
theorem Rel.full (h : Rel zs r Z R L) (n : Nat) (hn : n < zs.length) : decide (r ≤ (row zs n).length) = rfull R L n := by
  unfold rfull
  rw [← h.rn, h.rows n hn]
  simp
theorem rwhere_isSome {x : Int} (h : (rwhere L x).isSome = false) : x ∉ L.map (·.1) := by
  intro hm
  obtain ⟨p, hp, rfl⟩ := List.mem_map.1 hm
  have : rwhere L p.1 = none := by simpa using h
  unfold rwhere at this
  rw [Option.map_eq_none_iff, List.find?_eq_none] at this
  exact absurd (by simp) (this _ hp)
theorem Rel.putCode (h : Rel zs r Z R L) (x z : Int) : putCode zs r x z = rputCode Z R L x z := by
  unfold Ytjoiecedidmbcaa.putCode rputCode
  rw [h.inz, isSome_of_V (h.where_ x)]
  by_cases hz : rthere Z z = false
  · rw [if_pos hz, if_pos hz]
  · rw [if_neg hz, if_neg hz]
    by_cases hs : (rwhere L x).isSome = true
    · rw [if_pos hs, if_pos hs]
    · rw [if_neg hs, if_neg hs]
      have hz' : Ytjoiecedidmbcaa.inz zs z = true := by rw [h.inz]; simpa using hz
      obtain ⟨h0, h1⟩ := inz_iff.1 hz'
      obtain ⟨n, rfl⟩ := Int.eq_ofNat_of_zero_le h0
      rw [Int.toNat_natCast, ← h.full n (by omega)]
      simp
/-- A tote that leaves its place and comes to a zone. -/
theorem Rel.moved {zs' : List (List Int)} {x z : Int} (h : Rel zs r Z R L) (hl : zs'.length = zs.length)
    (hr : ∀ n : Nat, n < zs.length → row zs' n = (row zs n).filter (· != x) ++ (if rthere Z z = true ∧ z = n then [x] else [])) : Rel zs' r Z R (rmove Z L x z) := by
  have hzn := h.zn
  refine ⟨by rw [hl]; exact h.zn, h.rn, fun n hn => ?_, fun p hp => ?_, ?_⟩
  · rw [hr n (by omega), h.rows n (by omega)]
    unfold rmove
    rw [rrow_append, rrow_filter]
    congr 1
    by_cases ht : rthere Z z = true
    · rw [if_pos ht, rrow_one]; simp [ht]
    · rw [if_neg ht]; simp [ht, rrow]
  · rw [hl]
    unfold rmove at hp
    rcases List.mem_append.1 hp with hp | hp
    · exact h.inside p (List.mem_filter.1 hp).1
    · by_cases ht : rthere Z z = true
      · rw [if_pos ht] at hp
        simp only [List.mem_singleton] at hp
        subst hp
        rw [← h.inz] at ht
        exact inz_iff.1 ht
      · rw [if_neg ht] at hp; cases hp
  · unfold rmove
    rw [List.map_append, List.nodup_append]
    refine ⟨h.once.sublist (List.Sublist.map _ List.filter_sublist), by split <;> simp, fun a ha b hb => ?_⟩
    obtain ⟨p, hp, rfl⟩ := List.mem_map.1 ha
    have hne := (List.mem_filter.1 hp).2
    simp only [bne_iff_ne] at hne
    by_cases ht : rthere Z z = true
    · rw [if_pos ht] at hb
      simp only [List.map_cons, List.map_nil, List.mem_singleton] at hb
      subst hb
      exact hne
    · rw [if_neg ht] at hb; cases hb
theorem Rel.put (h : Rel zs r Z R L) (x z : Int) : Rel (putZs zs r x z) r Z R (rputL Z R L x z) := by
  unfold putZs rputL
  rw [h.putCode]
  by_cases hc : rputCode Z R L x z = 0
  · rw [if_pos hc, if_pos hc]
    have hz : rthere Z z = true := by
      cases ht : rthere Z z with
      | true => rfl
      | false => simp [rputCode, ht] at hc
    have hs : (rwhere L x).isSome = false := by
      cases hs : (rwhere L x).isSome with
      | false => rfl
      | true => simp [rputCode, hz, hs] at hc
    have hx := rwhere_isSome hs
    have hz' : Ytjoiecedidmbcaa.inz zs z = true := by rw [h.inz]; exact hz
    obtain ⟨h0, h1⟩ := inz_iff.1 hz'
    obtain ⟨m, rfl⟩ := Int.eq_ofNat_of_zero_le h0
    rw [Int.toNat_natCast]
    refine h.moved (by simp) (fun n hn => ?_)
    have hxn : x ∉ row zs n := fun hm => hx (by rw [h.rows n hn] at hm; exact List.mem_map.2 ⟨_, mem_rrow.1 hm, rfl⟩)
    rw [filter_out hxn]
    by_cases e : n = m
    · subst e
      rw [row_set_same hn, if_pos ⟨hz, rfl⟩]
    · rw [row_set_ne e, if_neg (fun h => e (by omega)), List.append_nil]
  · rw [if_neg hc, if_neg hc]; exact h
theorem Rel.passCode (h : Rel zs r Z R L) (z : Int) : passCode zs r z = rpassCode Z R L z := by
  unfold Ytjoiecedidmbcaa.passCode rpassCode
  rw [h.inz]
  by_cases hz : rthere Z z = false
  · rw [if_pos hz, if_pos hz]
  · rw [if_neg hz, if_neg hz]
    have hz' : Ytjoiecedidmbcaa.inz zs z = true := by rw [h.inz]; simpa using hz
    obtain ⟨h0, h1⟩ := inz_iff.1 hz'
    obtain ⟨n, rfl⟩ := Int.eq_ofNat_of_zero_le h0
    rw [Int.toNat_natCast, h.rows n (by omega)]
    have e : (n + 1 < zs.length ∧ r ≤ (row zs (n + 1)).length) ↔ ((rthere Z ((n : Int) + 1) && rfull R L ((n : Int) + 1)) = true) := by
      rw [Bool.and_eq_true, ← h.inz, inz_iff]
      have hcast : ((n : Int) + 1) = ((n + 1 : Nat) : Int) := by omega
      constructor
      · rintro ⟨a, b⟩
        refine ⟨⟨by omega, by omega⟩, ?_⟩
        rw [hcast, ← h.full (n + 1) a]
        simpa using b
      · rintro ⟨⟨_, a⟩, b⟩
        have a' : n + 1 < zs.length := by omega
        refine ⟨a', ?_⟩
        rw [hcast, ← h.full (n + 1) a'] at b
        simpa using b
    by_cases hc : (n + 1 < zs.length ∧ r ≤ (row zs (n + 1)).length)
    · rw [if_pos hc, if_pos (e.1 hc)]
    · rw [if_neg hc, if_neg (fun h => hc (e.2 h))]
theorem head_of {z : Int} {x : Int} {l : List Int} (h : Rel zs r Z R L) (n : Nat) (hn : n < zs.length) (hz : z = n) (hr : rrow L z = x :: l) : row zs n = x :: l ∧ x ∉ l ∧ ∀ m, m < zs.length → m ≠ n → x ∉ row zs m := by
  subst hz
  have h1 := h.rows n hn
  refine ⟨h1.trans hr, ?_, fun m hm hmn hx => ?_⟩
  · have := rrow_nodup h.once n
    rw [hr] at this
    exact (List.nodup_cons.1 this).1
  · rw [h.rows m hm] at hx
    have := uniq h.once (mem_rrow.1 hx) (mem_rrow.1 (by rw [hr]; exact List.mem_cons_self : x ∈ rrow L n))
    omega
theorem Rel.passVal (h : Rel zs r Z R L) (z : Int) : passVal zs r z = rpassVal Z R L z := by
  unfold Ytjoiecedidmbcaa.passVal rpassVal
  rw [h.passCode]
  by_cases hc : rpassCode Z R L z = 0
  · rw [if_pos hc, if_pos hc]
    have hz : rthere Z z = true := by
      cases ht : rthere Z z with
      | true => rfl
      | false => simp [rpassCode, ht] at hc
    rw [← h.inz] at hz
    obtain ⟨h0, h1⟩ := inz_iff.1 hz
    obtain ⟨n, rfl⟩ := Int.eq_ofNat_of_zero_le h0
    rw [Int.toNat_natCast, h.rows n (by omega)]
  · rw [if_neg hc, if_neg hc]
theorem Rel.pass (h : Rel zs r Z R L) (z : Int) : Rel (passZs zs r z) r Z R (rpassL Z R L z) := by
  unfold passZs rpassL
  rw [h.passCode]
  by_cases hc : rpassCode Z R L z = 0
  · rw [if_pos hc, if_pos hc]
    have hz : rthere Z z = true := by
      cases ht : rthere Z z with
      | true => rfl
      | false => simp [rpassCode, ht] at hc
    rw [← h.inz] at hz
    obtain ⟨h0, h1⟩ := inz_iff.1 hz
    obtain ⟨m, rfl⟩ := Int.eq_ofNat_of_zero_le h0
    have hm : m < zs.length := by omega
    cases hr : rrow L m with
    | nil => rw [h.inz] at hz; simp [rpassCode, hz, hr] at hc
    | cons x l =>
      obtain ⟨e1, e2, e3⟩ := head_of h m hm rfl hr
      rw [Int.toNat_natCast, e1]
      simp only [List.tail_cons, List.headD_cons]
      have hfx : (x :: l).filter (· != x) = l := by
        rw [List.filter_cons, if_neg (by simp), filter_out e2]
      by_cases hn1 : m + 1 < zs.length
      · rw [if_pos hn1]
        have ht : rthere Z ((m : Int) + 1) = true := by rw [← h.inz, inz_iff]; omega
        refine h.moved (by simp) (fun n hn => ?_)
        by_cases en : n = m + 1
        · subst en
          rw [row_set_same (by simpa using hn1), if_pos ⟨ht, by omega⟩, filter_out (e3 _ hn1 (by omega))]
        · rw [row_set_ne en, if_neg (fun hh => en (by omega)), List.append_nil]
          by_cases em : n = m
          · subst em
            rw [row_set_same hn, e1, hfx]
          · rw [row_set_ne em, filter_out (e3 _ hn em)]
      · rw [if_neg hn1]
        have ht : ¬ rthere Z ((m : Int) + 1) = true := by rw [← h.inz, inz_iff]; omega
        refine h.moved (by simp) (fun n hn => ?_)
        rw [if_neg (fun hh => ht hh.1), List.append_nil]
        by_cases em : n = m
        · subst em
          rw [row_set_same hn, e1, hfx]
        · rw [row_set_ne em, filter_out (e3 _ hn em)]
  · rw [if_neg hc, if_neg hc]; exact h
theorem Rel.skipCode (h : Rel zs r Z R L) (z : Int) : skipCode zs z = rskipCode Z L z := by
  unfold Ytjoiecedidmbcaa.skipCode rskipCode
  rw [h.inz]
  by_cases hz : rthere Z z = false
  · rw [if_pos hz, if_pos hz]
  · rw [if_neg hz, if_neg hz]
    have hz' : Ytjoiecedidmbcaa.inz zs z = true := by rw [h.inz]; simpa using hz
    obtain ⟨h0, h1⟩ := inz_iff.1 hz'
    obtain ⟨n, rfl⟩ := Int.eq_ofNat_of_zero_le h0
    rw [Int.toNat_natCast, h.rows n (by omega)]
theorem Rel.skip (h : Rel zs r Z R L) (z : Int) : Rel (skipZs zs z) r Z R (rskipL Z L z) := by
  unfold skipZs rskipL
  rw [h.skipCode]
  by_cases hc : rskipCode Z L z = 0
  · rw [if_pos hc, if_pos hc]
    have hz : rthere Z z = true := by
      cases ht : rthere Z z with
      | true => rfl
      | false => simp [rskipCode, ht] at hc
    have hz2 := hz
    rw [← h.inz] at hz
    obtain ⟨h0, h1⟩ := inz_iff.1 hz
    obtain ⟨m, rfl⟩ := Int.eq_ofNat_of_zero_le h0
    have hm : m < zs.length := by omega
    cases hr : rrow L m with
    | nil => simp [rskipCode, hz2, hr] at hc
    | cons x l =>
      obtain ⟨e1, e2, e3⟩ := head_of h m hm rfl hr
      rw [Int.toNat_natCast, e1]
      simp only [List.tail_cons, List.headD_cons]
      have hfx : (x :: l).filter (· != x) = l := by
        rw [List.filter_cons, if_neg (by simp), filter_out e2]
      refine h.moved (by simp) (fun n hn => ?_)
      by_cases em : n = m
      · subst em
        rw [row_set_same hn, e1, hfx, if_pos ⟨hz2, rfl⟩]
      · rw [row_set_ne em, if_neg (fun hh => em (by omega)), List.append_nil, filter_out (e3 _ hn em)]
  · rw [if_neg hc, if_neg hc]; exact h
end
theorem rel_start (Z R : Int) : Rel (List.replicate (lim Z 8).toNat []) (lim R 64).toNat Z R [] := by
  have h1 := lim_in Z 8 (by omega)
  have h2 := lim_in R 64 (by omega)
  refine ⟨by rw [List.length_replicate]; omega, by omega, fun z hz => ?_, fun p hp => (by cases hp), List.nodup_nil⟩
  rw [List.length_replicate] at hz
  simp [row, List.getD, hz, rrow]
theorem rmove_le (Z : Int) (L : List (Int × Int)) (x z : Int) : (rmove Z L x z).length ≤ L.length + 1 := by
  unfold rmove
  rw [List.length_append]
  have := List.length_filter_le (fun p : Int × Int => p.1 != x) L
  split <;> simp <;> omega
theorem rputL_le (Z R : Int) (L : List (Int × Int)) (x z : Int) : (rputL Z R L x z).length ≤ L.length + 1 := by
  unfold rputL; split
  · exact rmove_le _ _ _ _
  · omega
theorem rpassL_le (Z R : Int) (L : List (Int × Int)) (z : Int) : (rpassL Z R L z).length ≤ L.length + 1 := by
  unfold rpassL; split
  · exact rmove_le _ _ _ _
  · omega
theorem rskipL_le (Z : Int) (L : List (Int × Int)) (z : Int) : (rskipL Z L z).length ≤ L.length + 1 := by
  unfold rskipL; split
  · exact rmove_le _ _ _ _
  · omega
end Go.Proofs.Ytjoiecedidmbcaa
