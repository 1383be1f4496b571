/- Walks over package place: what an address is, who shows a location. -/
import Derived.Test.YtbbihimlahngfaaModel
import Derived.Test.YtbbihimlahngfaaChecked
namespace Go.Proofs.Ytbbihimlahngfaa
open Go.RowKit

/-- What the memory of a Places holds. -/
structure PRep (w : World) (b mb : Nat) (s : St) : Prop where
  head : Blk w b 46 ((s.k.map (Value.int .i64)) ++ [Value.map (some mb)]).toArray
  len : s.k.length = 32
  map : w.ownsMap Try.prog 29 (plainElem (H := Unit) Try.prog 5) mb s.L.length (dm s.L)
def PF (b mb : Nat) : Nat → Prop := fun k => k = b ∨ k = mb
section
variable {F : Nat → Prop} {w w' : World} {b mb : Nat} {s : St}
theorem PRep.kept (h : PRep w b mb s) (hk : Kept F w w') (hn : ∀ k, PF b mb k → ¬ F k) : PRep w' b mb s :=
  ⟨h.head.kept hk (hn _ (.inl rfl)), h.len, hk.ownsMap h.map (hn _ (.inr rfl))⟩
theorem PRep.kept0 (h : PRep w b mb s) (hk : Kept Emp w w') : PRep w' b mb s := h.kept hk (fun _ _ h => h)
theorem PRep.ne (h : PRep w b mb s) : b ≠ mb := fun e => by
  obtain ⟨es, clock, hb, _⟩ := h.map
  have := h.head
  unfold Blk at this
  rw [e, hb] at this
  cases this
theorem PRep.kind (h : PRep w b mb s) {a : Nat} (ha : a < 32) : w.cell? ⟨b, a, none⟩ = some (.int .i64 (s.k.getD a 0)) := by
  have h1 := h.head.cell a
  have hl := h.len
  rw [h1]
  simp [List.getElem?_append_left, hl, ha, List.getD]
theorem PRep.mapc (h : PRep w b mb s) : w.cell? ⟨b, 32, none⟩ = some (.map (some mb)) := by
  have h1 := h.head.cell 32
  have hl := h.len
  rw [h1]
  simp [List.getElem?_append_right, hl]
end

def kn (a : Int) : Bool := decide (1 ≤ a ∧ a ≤ 31)
theorem known_any (p : Value) (a : Int) (w : World) : Calls Try.prog 24 #[p, .int .u8 a] w fun e w' => e = .returned (.bool (kn a)) ∧ w = w' := by
  by_cases h1 : 1 ≤ a
  · have hk : kn a = decide (a ≤ 31) := by simp [kn, h1]
    rw [hk]
    go_enter Try.func24, Try.ntmps24
    go_wp2
    go_ret
    exact ⟨rfl, rfl⟩
  · have hk : kn a = false := by simp [kn, h1]
    rw [hk]
    go_enter Try.func24, Try.ntmps24
    go_wp2
    go_ret
    exact ⟨rfl, rfl⟩

theorem is_any {w : World} {b mb : Nat} {s : St} (h : PRep w b mb s) (a : Nat) : Calls Try.prog 27 #[.pointer (some ⟨b, 0, none⟩), .int .u8 a] w fun e w' => e = .returned (.int .i64 (isS s.k a)) ∧ w = w' := by
  by_cases hk : kn a = true
  · have hk' : 1 ≤ (a : Int) ∧ (a : Int) ≤ 31 := by simpa [kn] using hk
    have hv : isS s.k a = s.k.getD a 0 := by simp only [isS, if_pos hk', Int.toNat_natCast]
    have c0 := h.kind (a := a) (by omega)
    rw [hv]
    clear hv
    have HK := Lib.hid hk
    generalize s.k.getD a 0 = v at c0
    go_enter Try.func27, Try.ntmps27
    go_wp2_with (go_at_call 24; refine (known_any _ _ _).mono ?_; rintro e w' ⟨rfl, rfl⟩; rw [HK.out])
    go_ret
    exact ⟨rfl, rfl⟩
  · simp only [Bool.not_eq_true] at hk
    have hv : isS s.k a = 0 := by
      have : ¬ (1 ≤ (a : Int) ∧ (a : Int) ≤ 31) := by simpa [kn] using hk
      simp only [isS, if_neg this]
    rw [hv]
    have HK := Lib.hid hk
    clear hk hv
    go_enter Try.func27, Try.ntmps27
    go_wp2_with (go_at_call 24; refine (known_any _ _ _).mono ?_; rintro e w' ⟨rfl, rfl⟩; rw [HK.out])
    go_ret
    exact ⟨rfl, rfl⟩

/-- At. -/
def atV (o : Option Int) : Value := .tuple #[.int .u8 (o.getD 0), .bool o.isSome]
theorem key_ok {l : Nat} (h : l < 65536) : (Lit.int .u16 (l : Int)).wf = true := by simp [Lit.wf, IntKind.min, IntKind.max, IntKind.bits, IntKind.signed]; omega
theorem at_any {w : World} {b mb : Nat} {s : St} (h : PRep w b mb s) (l : Nat) (hl : l < 65536) : Calls Try.prog 18 #[.pointer (some ⟨b, 32, none⟩), .int .u16 l] w fun e w' => e = .returned (atV (look s.L l)) ∧ w = w' := by
  have c0 := h.mapc
  have hm := h.map
  go_enter Try.func18, Try.ntmps18
  go_wp2_with (at_lookup; refine wpList_lookup_own_ok_int _ rfl _ _ 42 rfl 29 5 .u8 (Maps.int_keyed Try.underlying29) Try.underlying42 Try.underlying5 (Try.zeroValue5 _) mb s.L.length (dm s.L) rfl hm _ _ rfl (Maps.keyOf_int_mk Try.underlying29 (key_ok hl)) ?_; intro c hat hwc; rw [has_dm]; rw [atKey_dm] at hat; injection hat with hat; injection hat with _ hat; subst hat)
  go_ret2
  exact ⟨rfl, rfl⟩

/-- Of. -/
def ofV (o : Option Int) : Value := .tuple #[.int .u16 (o.getD 0), .bool o.isSome]
theorem ofS_some {L : Row} (hr : Ris L) (hi : L.Pairwise (fun p q => p.2 ≠ q.2)) {l a : Int} (h : (l, a) ∈ L) : ofS L a = some l := by
  induction L with
  | nil => simp at h
  | cons p r ih =>
    rcases List.mem_cons.1 h with rfl | h
    · simp [ofS]
    · have h1 := (List.pairwise_cons.1 hi).1 _ h
      have e : (p.2 == a) = false := by simpa using h1
      have := ih (List.pairwise_cons.1 hr).2 (List.pairwise_cons.1 hi).2 h
      simp only [ofS, List.find?_cons, e] at this ⊢
      exact this
theorem ofS_none {L : Row} {a : Int} (h : ∀ p ∈ L, p.2 ≠ a) : ofS L a = none := by
  unfold ofS
  rw [List.find?_eq_none.2 (fun p hp => by simpa using h p hp)]
  rfl
theorem ofS_mem {L : Row} {l a : Int} (h : ofS L a = some l) : (l, a) ∈ L := by
  unfold ofS at h
  obtain ⟨p, hp, rfl⟩ := Option.map_eq_some_iff.1 h
  have h1 := List.find?_some hp
  simp at h1
  rw [← h1]
  exact List.mem_of_find?_eq_some hp

set_option maxHeartbeats 800000 in
theorem of_any {w : World} {b mb : Nat} {s : St} (h : PRep w b mb s) (hr : Ris s.L) (hi : s.L.Pairwise (fun p q => p.2 ≠ q.2)) (a : Nat) :
    Calls Try.prog 20 #[.pointer (some ⟨b, 32, none⟩), .int .u8 a] w fun e w' => e = .returned (ofV (ofS s.L a)) ∧ Kept Emp w w' := by
  have c0 := h.mapc
  have hm := h.map
  have HS := Lib.hid (⟨hr, hi⟩ : Ris s.L ∧ s.L.Pairwise (fun p q => p.2 ≠ q.2))
  clear hr hi h
  go_enter Try.func20, Try.ntmps20
  go_wp2_with (at_range; refine wpList_range_own _ rfl _ 42 rfl 29 5 (Maps.int_keyed Try.underlying29) Try.underlying42 _ mb s.L.length (dm s.L) rfl hm ?_; intro w0 hrg0 hg0 hs0)
  have hk0 : Kept Emp w w0 := Kept.of_grown hg0 (fun k e => by cases e)
  clear hg0 hs0
  go_frame
  go_loopw [6, 7] (fun _ _ wr => ∃ (left : Lit → Bool) (cnt : Nat), wr.ranges Try.prog 29 (plainElem (H := Unit) Try.prog 5) mb w.heap.size s.L.length (dm s.L) left cnt ∧ (∀ p ∈ s.L, left (.int .u16 p.1) = false → p.2 ≠ (a : Int)) ∧ Kept Emp w wr) (fun _ _ wr => wr.rangeLeft mb w.heap.size)
  case atStart =>
    refine ⟨_, _, hrg0, fun p hp hl => ?_, hk0⟩
    rw [has_dm, look_of_mem HS.out.1 (a := p.2) hp] at hl
    cases hl
  case round =>
    obtain ⟨left, cnt, hrg, hno, hK⟩ := hrel
    have HNO := Lib.hid hno
    clear hno hrg0
    go_wp2_with (at_next; refine wpList_next_ranges_ii _ rfl _ rfl 29 5 .u16 .u8 (Maps.int_keyed Try.underlying29) Try.underlying29 Try.underlying5 mb w.heap.size s.L.length _ _ _ rfl hrg ?_ ?_)
    · intro hc0 hl0
      have HR := Lib.hid (ofS_none (L := s.L) (a := a) fun p hp => HNO.out p hp (hl0 _))
      clear hl0
      go_wp2
      go_ret2
      rw [HR.out]
      exact ⟨rfl, hK⟩
    · intro x c w2 cnt2 hwx hwc hlx hat hrg2 hlt hg2 hs2 hen
      have hlook : look s.L x = some c := by
        have h1 := hat (.lit (.int .u8 (c + 1)))
        rw [atKey_dm] at h1
        cases hq : look s.L x with
        | none => rw [hq] at h1; simp at h1; omega
        | some v => rw [hq] at h1; simp at h1; rw [h1]
      have hmem := look_mem hlook
      have hK2 : Kept Emp w w2 := hK.grown hg2 (fun k hk e => by cases e; omega)
      have hmeas : w2.rangeLeft mb w.heap.size < wr.rangeLeft mb w.heap.size := by rw [hrg2.left_eq, hrg.left_eq]; exact hlt
      have HH := Lib.hid (⟨hlook, hmem, hK2, hmeas, hrg2⟩ : look s.L x = some c ∧ (x, c) ∈ s.L ∧ Kept Emp w w2 ∧ w2.rangeLeft mb w.heap.size < wr.rangeLeft mb w.heap.size ∧ _)
      clear hat hs2 hg2 hlook hmem hK2 hmeas hrg2 hlx hlt hwx hwc
      by_cases hca : c = (a : Int)
      · subst hca
        go_wp2
        go_ret2
        rw [ofS_some HS.out.1 HS.out.2 HH.out.2.1]
        exact ⟨rfl, HH.out.2.2.1⟩
      · have hcb : (c == (a : Int)) = false := by simpa using hca
        go_wp2
        go_roundw
        case rel =>
          refine ⟨_, cnt2, HH.out.2.2.2.2, fun p hp hl => ?_, HH.out.2.2.1⟩
          by_cases he : p.1 = x
          · have h1 := look_of_mem HS.out.1 (a := p.2) hp
            rw [he, HH.out.1] at h1
            injection h1 with h1
            rw [← h1]
            exact hca
          · refine HNO.out p hp ?_
            simpa [Lit.sameKey, he] using hl
        case measure => exact HH.out.2.2.2.1
end Go.Proofs.Ytbbihimlahngfaa
