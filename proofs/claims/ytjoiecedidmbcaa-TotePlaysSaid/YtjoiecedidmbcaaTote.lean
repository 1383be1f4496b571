/- Walks over package tote: the queue of a zone, and what a Totes holds. -/
import Derived.Test.YtjoiecedidmbcaaLib
namespace Go.Proofs.Ytjoiecedidmbcaa
open Go.RowKit

/-- The row at place n. -/
def row (zs : List (List Int)) (n : Nat) : List Int := zs.getD n []
theorem row_eq {zs : List (List Int)} {n : Nat} (h : n < zs.length) : row zs n = zs[n] := by simp [row, List.getD, h]
theorem row_set_same {zs : List (List Int)} {n : Nat} {L : List Int} (h : n < zs.length) : row (zs.set n L) n = L := by simp [row, List.getD, h]
theorem row_set_ne {zs : List (List Int)} {n i : Nat} {L : List Int} (h : i ≠ n) : row (zs.set n L) i = row zs i := by simp [row, List.getD, List.getElem?_set, Ne.symm h]
/-- What the memory of a Totes holds: zs are its zones' rows, r the room; V i is the slice of zone i. -/
structure ToteRep (w : World) (b zb cap : Nat) (V : Nat → Value) (zs : List (List Int)) (r : Nat) : Prop where
  head : Blk w b 52 #[.slice (some ⟨zb, 0, none⟩) zs.length cap]
  few : zs.length ≤ 8
  zones : ∃ cs, Blk w zb 48 cs ∧ ∀ i, i < zs.length → cs[i * 2]? = some (V i) ∧ cs[i * 2 + 1]? = some (.int .i64 (r : Int))
  own : ∀ i, i < zs.length → w.ownsRow 0 30 1 (V i) (row zs i).length (u16s (row zs i))
  apart : ∀ i j k, i < zs.length → j < zs.length → i ≠ j → (V i).ownBlock = some k → (V j).ownBlock ≠ some k
  len : ∀ i, i < zs.length → (row zs i).length ≤ r
  room : r ≤ 64

def ToteF (b zb : Nat) (V : Nat → Value) (n : Nat) : Nat → Prop := fun k => k = b ∨ k = zb ∨ ∃ i, i < n ∧ (V i).ownBlock = some k

theorem ToteRep.kept {F : Nat → Prop} {w w' : World} {b zb cap : Nat} {V : Nat → Value} {zs : List (List Int)} {r : Nat} (h : ToteRep w b zb cap V zs r) (hk : Kept F w w') (hn : ∀ k, ToteF b zb V zs.length k → ¬ F k) : ToteRep w' b zb cap V zs r := by
  obtain ⟨h1, h2, ⟨cs, h3, h4⟩, h5, h6, h7, h8⟩ := h
  exact ⟨h1.kept hk (hn _ (.inl rfl)), h2, ⟨cs, h3.kept hk (hn _ (.inr (.inl rfl))), h4⟩, fun i hi => hk.ownsRow (h5 i hi) (fun k hb => hn _ (.inr (.inr ⟨i, hi, hb⟩))), h6, h7, h8⟩

theorem zone_no (b zb zn zc : Nat) (z : Int) (w : World) (c0 : w.cell? ⟨b, 0, none⟩ = some (.slice (some ⟨zb, 0, none⟩) zn zc)) (hz : z < 0 ∨ (zn : Int) ≤ z) :
    Calls Try.prog 20 #[.pointer (some ⟨b, 0, none⟩), .int .i64 z] w fun e w' => e = .returned (.pointer none) ∧ w = w' := by
  rcases hz with hz | hz
  · go_enter Try.func20, Try.ntmps20
    go_wp2
    go_ret
    exact ⟨rfl, rfl⟩
  · go_enter Try.func20, Try.ntmps20
    go_wp2
    all_goals go_ret
    all_goals exact ⟨rfl, rfl⟩

theorem zone_yes (b zb zn zc : Nat) (z : Nat) (w : World) (c0 : w.cell? ⟨b, 0, none⟩ = some (.slice (some ⟨zb, 0, none⟩) zn zc)) (hz : z < zn) :
    Calls Try.prog 20 #[.pointer (some ⟨b, 0, none⟩), .int .i64 z] w fun e w' => e = .returned (.pointer (some ⟨zb, z * 2, none⟩)) ∧ w = w' := by
  have h1 : ¬ ((z : Int) < 0) := by omega
  go_enter Try.func20, Try.ntmps20
  go_wp2
  go_ret
  exact ⟨rfl, rfl⟩

theorem full_any (b o : Nat) (v : Option Addr) (n c : Nat) (r : Int) (w : World) (c0 : w.cell? ⟨b, o, none⟩ = some (.slice v n c)) (c1 : w.cell? ⟨b, o + 1, none⟩ = some (.int .i64 r)) :
    Calls Try.prog 21 #[.pointer (some ⟨b, o, none⟩)] w fun e w' => e = .returned (.bool (decide (r ≤ (n : Int)))) ∧ ∃ q, w' = w.drewN q := by
  go_enter Try.func21, Try.ntmps21
  go_wp2
  go_quiet (fail)
  go_wp2
  go_ret
  exact ⟨rfl, _, rfl⟩

set_option maxHeartbeats 400000 in
theorem push_any (zb o : Nat) (v : Value) (n : Nat) (L : List Int) (x : Int) (cs : Array Value) (w : World) (hb : Blk w zb 48 cs) (hc : cs[o]? = some v) (own : w.ownsRow 0 30 1 v n (u16s L)) (hn : n ≤ 1000) :
    Calls Try.prog 22 #[.pointer (some ⟨zb, o, none⟩), .int .u16 x] w fun e w' => e = .returned (.tuple #[]) ∧ ∃ v', Blk w' zb 48 (cs.setIfInBounds o v') ∧ w'.ownsRow 0 30 1 v' (n + 1) (u16s (L ++ [x])) ∧
      Kept (fun k => k = zb ∨ v.ownBlock = some k) w w' ∧ (∀ k, v'.ownBlock = some k → v.ownBlock = some k ∨ w.heap.size ≤ k) := by
  obtain ⟨i0, hi, hz0, hz1, hz2⟩ := info_parts Try.info30
  have hne := own_ne own hb (by decide)
  have hlt := hb.lt
  have c0 : w.cell? ⟨zb, o, none⟩ = some v := (hb.cell o).trans hc
  have f0 : w.frozen? ⟨zb, o, none⟩ = false := hb.frozen o
  clear hc
  go_enter Try.func22, Try.ntmps22
  go_wp2_with (at_builtin; refine wpList_app rfl _ _ 38 rfl 30 i0 (.int .u16 0) 1 2 Try.underlying38 hi hz0 hz1 hz2 rfl (by decide) v n (u16s L) rfl (own.alloc _) _ 1 [.int .u16 x] rfl (Sl.new w 30 [.int .u16 x] 1 1 rfl (by unfold maxLen; omega)) ?c2 ?c3 ?c4 ?k)
  case c2 => exact ints_oneCell .u16 [x]
  case c3 => unfold maxLen; omega
  case c4 => omega
  case k =>
    intro v' w' h1 h2 _ h4
    have hb' : Blk w' zb 48 cs := (hb.alloc _).kept h2 hne
    have hne' : ∀ k, v'.ownBlock = some k → k ≠ zb := fun k hk e => by
      subst e
      rcases h4 _ hk with h | h
      · exact hne h
      · omega
    have c1 : w'.cell? ⟨zb, o, none⟩ = some v := (hb'.cell o).trans ((hb.cell o).symm.trans c0)
    have f1 : w'.frozen? ⟨zb, o, none⟩ = false := hb'.frozen o
    obtain ⟨g, cap', rfl⟩ : ∃ g cap', v' = .slice (some ⟨g, 0, none⟩) (n + 1) cap' := by
      rcases h1.2 with ⟨_, h⟩ | ⟨g, cap', _, h, _⟩
      · omega
      · exact ⟨g, cap', h⟩
    go_wp2
    go_end0
    refine ⟨rfl, .slice (some ⟨g, 0, none⟩) (n + 1) cap', hb'.set_ _ _, ?_, ?_, fun k hk => ?_⟩
    · rw [show u16s (L ++ [x]) = u16s L ++ [.int .u16 x] by simp]
      exact ownsRow_setCell_other h1 (fun e => hne' _ e rfl) _
    · refine Kept.setCell (((Kept.refl _ w).alloc _).trans h2 (fun j _ hj => .inr hj)) (fun _ => .inl rfl) _
    · rcases h4 k hk with h | h
      · exact .inl h
      · exact .inr (by omega)

set_option maxHeartbeats 400000 in
theorem pop_any (zb o : Nat) (v : Value) (n : Nat) (L : List Int) (x : Int) (cs : Array Value) (w : World) (hb : Blk w zb 48 cs) (hc : cs[o]? = some v) (own : w.ownsRow 0 30 1 v (n + 1) (u16s (x :: L))) (hn : n ≤ 1000) :
    Calls Try.prog 27 #[.pointer (some ⟨zb, o, none⟩)] w fun e w' => e = .returned (.int .u16 x) ∧ ∃ v', Blk w' zb 48 (cs.setIfInBounds o v') ∧ w'.ownsRow 0 30 1 v' n (u16s L) ∧
      Kept (fun k => k = zb) w w' ∧ (∀ k, v'.ownBlock = some k → w.heap.size ≤ k) := by
  have hne := own_ne own hb (by decide)
  have hlt := hb.lt
  have c0 : w.cell? ⟨zb, o, none⟩ = some v := (hb.cell o).trans hc
  have f0 : w.frozen? ⟨zb, o, none⟩ = false := hb.frozen o
  obtain ⟨g, cap, rfl, hc1, hc2, hg, hcell, _⟩ := own_some own
  have cx := hcell 0 (.int .u16 x) (by simp)
  have hsl : Sl w 1 (.slice (if cap = 1 then some ⟨g, 0, none⟩ else some ⟨g, 1, none⟩) n (cap - 1)) n (u16s L) := by
    have h := (Sl.of_own own).drop (k := 1) (by omega) (by omega)
    simpa [Addr.add] using h
  clear hc hcell
  go_enter Try.func27, Try.ntmps27
  go_wp2_with (go_at_call 28; refine (clone_any _ n L _ hsl (by omega)).mono ?_; rintro e w1 ⟨A, c, rfl, h1, h2, h3⟩; have hb' : Blk w1 zb 48 cs := hb.kept h2 (fun h => h); have c1 := (hb'.cell o).trans ((hb.cell o).symm.trans c0); have f1 := hb'.frozen o)
  all_goals
    go_ret
    refine ⟨rfl, _, hb'.set_ _ _, ownsRow_setCell_other h1 (fun e => ?_) _, Kept.setCell (F := fun k => k = zb) h2.of_emp (p := ⟨zb, o, none⟩) (fun _ => rfl) _, h3⟩
    have := h3 _ e
    simp at this
    omega

theorem ToteRep.set_ {w w' : World} {b zb cap : Nat} {V : Nat → Value} {zs : List (List Int)} {r : Nat} (h : ToteRep w b zb cap V zs r) {z : Nat} (hz : z < zs.length) {cs : Array Value} (hb : Blk w zb 48 cs)
    (hcs : ∀ i, i < zs.length → cs[i * 2]? = some (V i) ∧ cs[i * 2 + 1]? = some (.int .i64 (r : Int))) {v' : Value} {L' : List Int} (hb' : Blk w' zb 48 (cs.setIfInBounds (z * 2) v')) (own' : w'.ownsRow 0 30 1 v' L'.length (u16s L'))
    (hk : Kept (fun k => k = zb ∨ (V z).ownBlock = some k) w w') (hloc : ∀ k, v'.ownBlock = some k → (V z).ownBlock = some k ∨ w.heap.size ≤ k) (hlen : L'.length ≤ r) :
    ToteRep w' b zb cap (fun i => if i = z then v' else V i) (zs.set z L') r := by
  obtain ⟨h1, h2, _, h5, h6, h7, h8⟩ := h
  have hbz : b ≠ zb := fun e => by subst e; exact absurd (Blk.inj h1 hb).1 (by decide)
  have hown : ∀ i, i < zs.length → ∀ k, (V i).ownBlock = some k → k < w.heap.size ∧ k ≠ zb ∧ k ≠ b := fun i hi k hk =>
    ⟨lt_of_own (h5 i hi) k hk, fun e => own_ne (h5 i hi) hb (by decide) (e ▸ hk), fun e => own_ne (h5 i hi) h1 (by decide) (e ▸ hk)⟩
  refine ⟨?_, by simpa using h2, ⟨_, hb', fun i hi => ?_⟩, fun i hi => ?_, fun i j k hi hj hij hi' hj' => ?_, fun i hi => ?_, h8⟩
  · rw [List.length_set]
    refine h1.kept hk (fun e => ?_)
    rcases e with e | e
    · exact hbz e
    · exact (hown z hz _ e).2.2 rfl
  · simp only [List.length_set] at hi
    obtain ⟨a1, a2⟩ := hcs i hi
    have hsz : i * 2 + 1 < cs.size := (Array.getElem?_eq_some_iff.1 a2).1
    constructor
    · by_cases e : i = z
      · subst e
        simp only [if_true, Array.getElem?_setIfInBounds, if_pos (show i * 2 < cs.size by omega)]
      · rw [if_neg e, Array.getElem?_setIfInBounds, if_neg (by omega)]
        exact a1
    · rw [Array.getElem?_setIfInBounds, if_neg (by omega)]
      exact a2
  · simp only [List.length_set] at hi
    by_cases e : i = z
    · subst e
      simpa [row_set_same hi] using own'
    · have e1 : row (zs.set z L') i = row zs i := row_set_ne e
      simp only [if_neg e]
      rw [e1]
      refine hk.ownsRow (h5 i hi) (fun k hk' hf => ?_)
      rcases hf with hf | hf
      · exact (hown i hi k hk').2.1 hf
      · exact h6 z i k hz hi (Ne.symm e) hf hk'
  · simp only [List.length_set] at hi hj
    have key : ∀ m, m < zs.length → m ≠ z → (V m).ownBlock = some k → v'.ownBlock = some k → False := fun m hm hmz a1 a2 => by
      rcases hloc k a2 with a3 | a3
      · exact h6 z m k hz hm (Ne.symm hmz) a3 a1
      · have := (hown m hm k a1).1; omega
    by_cases ei : i = z
    · subst ei
      rw [if_neg (Ne.symm hij)] at hj'
      simp only [if_true] at hi'
      exact key j hj (Ne.symm hij) hj' hi'
    · rw [if_neg ei] at hi'
      by_cases ej : j = z
      · subst ej
        simp only [if_true] at hj'
        exact key i hi ei hi' hj'
      · rw [if_neg ej] at hj'
        exact h6 i j k hi hj hij hi' hj'
  · simp only [List.length_set] at hi
    by_cases e : i = z
    · subst e
      simpa [row_set_same hi] using hlen
    · have e1 : row (zs.set z L') i = row zs i := row_set_ne e
      rw [e1]
      exact h7 i hi

/-- A step of an object: only its own blocks have changed; what it has now is its own or new. -/
def Step (F F' : Nat → Prop) (w w' : World) : Prop := Kept F w w' ∧ ∀ k, F' k → F k ∨ w.heap.size ≤ k
theorem Step.refl (F : Nat → Prop) (w : World) : Step F F w w := ⟨Kept.refl _ _, fun _ h => .inl h⟩
theorem Step.trans {F F1 F2 : Nat → Prop} {w w1 w2 : World} (h : Step F F1 w w1) (k : Step F1 F2 w1 w2) : Step F F2 w w2 :=
  ⟨h.1.trans k.1 (fun j hj hf => by rcases h.2 j hf with a | a; exact a; omega), fun j hf => by
    rcases k.2 j hf with a | a
    · exact h.2 j a
    · exact .inr (Nat.le_trans h.1.size a)⟩
theorem Step.of_kept {F : Nat → Prop} {w w' : World} (h : Kept Emp w w') : Step F F w w' := ⟨h.of_emp, fun _ h => .inl h⟩

theorem tote_step {w w' : World} {b zb : Nat} {V : Nat → Value} {n z : Nat} (hz : z < n) {v' : Value}
    (hk : Kept (fun k => k = zb ∨ (V z).ownBlock = some k) w w') (hloc : ∀ k, v'.ownBlock = some k → (V z).ownBlock = some k ∨ w.heap.size ≤ k) :
    Step (ToteF b zb V n) (ToteF b zb (fun i => if i = z then v' else V i) n) w w' := by
  refine ⟨hk.mono (fun k _ h => ?_), fun k h => ?_⟩
  · rcases h with h | h
    · exact .inr (.inl h)
    · exact .inr (.inr ⟨z, hz, h⟩)
  · rcases h with h | h | ⟨i, hi, h⟩
    · exact .inl (.inl h)
    · exact .inl (.inr (.inl h))
    · by_cases e : i = z
      · subst e
        simp only [if_true] at h
        rcases hloc k h with h | h
        · exact .inl (.inr (.inr ⟨i, hz, h⟩))
        · exact .inr h
      · simp only [if_neg e] at h
        exact .inl (.inr (.inr ⟨i, hi, h⟩))

def inz (zs : List (List Int)) (z : Int) : Bool := decide (0 ≤ z) && decide (z < (zs.length : Int))
theorem inz_iff {zs : List (List Int)} {z : Int} : inz zs z = true ↔ 0 ≤ z ∧ z < (zs.length : Int) := by simp [inz]
theorem inz_no {zs : List (List Int)} {z : Int} : inz zs z = false ↔ z < 0 ∨ (zs.length : Int) ≤ z := by
  rw [← Bool.not_eq_true, inz_iff]; omega

theorem ToteRep.c0 {w : World} {b zb cap : Nat} {V : Nat → Value} {zs : List (List Int)} {r : Nat} (h : ToteRep w b zb cap V zs r) : w.cell? ⟨b, 0, none⟩ = some (.slice (some ⟨zb, 0, none⟩) zs.length cap) := h.head.cell 0

/-- zone: nil, or where the zone lies. -/
def zoneV (zb : Nat) (zs : List (List Int)) (z : Int) : Value := if inz zs z then .pointer (some ⟨zb, z.toNat * 2, none⟩) else .pointer none
theorem zone_any {w : World} {b zb cap : Nat} {V : Nat → Value} {zs : List (List Int)} {r : Nat} (h : ToteRep w b zb cap V zs r) (z : Int) :
    Calls Try.prog 20 #[.pointer (some ⟨b, 0, none⟩), .int .i64 z] w fun e w' => e = .returned (zoneV zb zs z) ∧ w = w' := by
  by_cases hz : inz zs z = true
  · obtain ⟨h0, h1⟩ := inz_iff.1 hz
    obtain ⟨n, rfl⟩ := Int.eq_ofNat_of_zero_le h0
    simp only [zoneV, hz, if_true, Int.toNat_natCast]
    exact zone_yes b zb zs.length cap n w h.c0 (by omega)
  · simp only [Bool.not_eq_true] at hz
    simp only [zoneV, hz]
    exact zone_no b zb zs.length cap z w h.c0 (inz_no.1 hz)

set_option maxHeartbeats 400000 in
/-- first: no such zone. -/
theorem first_arg {w : World} {b zb cap : Nat} {V : Nat → Value} {zs : List (List Int)} {r : Nat} (h : ToteRep w b zb cap V zs r) (z : Int) (hz : inz zs z = false) :
    Calls Try.prog 26 #[.pointer (some ⟨b, 0, none⟩), .int .i64 z] w fun e w' => e = .returned (.tuple #[.pointer none, .int .i64 1]) ∧ w = w' := by
  go_enter Try.func26, Try.ntmps26
  go_wp2_with (go_at_call 20; refine (zone_no b zb zs.length cap z _ h.c0 (inz_no.1 hz)).mono ?_; rintro e w' ⟨rfl, rfl⟩)
  go_ret2
  exact ⟨rfl, rfl⟩
theorem first_none {w : World} {b zb cap : Nat} {V : Nat → Value} {zs : List (List Int)} {r : Nat} (h : ToteRep w b zb cap V zs r) (z : Nat) (hz : z < zs.length) (h0 : row zs z = []) :
    Calls Try.prog 26 #[.pointer (some ⟨b, 0, none⟩), .int .i64 z] w fun e w' => e = .returned (.tuple #[.pointer none, .int .i64 6]) ∧ w = w' := by
  obtain ⟨cs, hb, hcs⟩ := h.zones
  obtain ⟨a1, a2⟩ := hcs z hz
  have ho := h.own z hz
  rw [h0] at ho
  obtain ⟨A, c, hv, _, _⟩ := own_slice ho
  have c1 : w.cell? ⟨zb, z * 2, none⟩ = some (.slice A 0 c) := (hb.cell _).trans (a1.trans (congrArg some hv))
  clear h0 hv
  go_enter Try.func26, Try.ntmps26
  go_wp2_with (go_at_call 20; refine (zone_yes b zb zs.length cap z _ h.c0 hz).mono ?_; rintro e w' ⟨rfl, rfl⟩)
  go_ret2
  exact ⟨rfl, rfl⟩
theorem first_some {w : World} {b zb cap : Nat} {V : Nat → Value} {zs : List (List Int)} {r : Nat} (h : ToteRep w b zb cap V zs r) (z : Nat) (hz : z < zs.length) (h0 : row zs z ≠ []) :
    Calls Try.prog 26 #[.pointer (some ⟨b, 0, none⟩), .int .i64 z] w fun e w' => e = .returned (.tuple #[.pointer (some ⟨zb, z * 2, none⟩), .int .i64 0]) ∧ w = w' := by
  obtain ⟨cs, hb, hcs⟩ := h.zones
  obtain ⟨a1, a2⟩ := hcs z hz
  have ho := h.own z hz
  obtain ⟨A, c, hv, _, _⟩ := own_slice ho
  have hl : 0 < (row zs z).length := List.length_pos_iff.2 h0
  have c1 : w.cell? ⟨zb, z * 2, none⟩ = some (.slice A (row zs z).length c) := (hb.cell _).trans (a1.trans (congrArg some hv))
  generalize (row zs z).length = m at c1 hl
  have hm : ((m : Int) == 0) = false := by simp; omega
  clear h0 hv
  go_enter Try.func26, Try.ntmps26
  go_wp2_with (go_at_call 20; refine (zone_yes b zb zs.length cap z _ h.c0 hz).mono ?_; rintro e w' ⟨rfl, rfl⟩)
  go_ret2
  exact ⟨rfl, rfl⟩

/-- In which zone a tote is first. -/
def whereIs (zs : List (List Int)) (x : Int) : Option Nat := zs.findIdx? (fun l => decide (x ∈ l))
theorem whereIs_no {zs : List (List Int)} {x : Int} (h : ∀ j, j < zs.length → x ∉ row zs j) : whereIs zs x = none := by
  unfold whereIs
  rw [List.findIdx?_eq_none_iff]
  intro l hl
  obtain ⟨j, hj, rfl⟩ := List.getElem_of_mem hl
  simpa [row_eq hj] using h j hj
theorem whereIs_at {zs : List (List Int)} {x : Int} {k : Nat} (hk : k < zs.length) (h : ∀ j, j < k → x ∉ row zs j) (e : x ∈ row zs k) : whereIs zs x = some k := by
  unfold whereIs
  rw [List.findIdx?_eq_some_iff_getElem]
  refine ⟨hk, by simpa [row_eq hk] using e, fun j hj => ?_⟩
  have hj' : j < zs.length := by omega
  simpa [row_eq hj'] using h j hj
def whereV : Option Nat → Value
  | some n => .tuple #[.int .i64 (n : Int), .bool true]
  | none => .tuple #[.int .i64 0, .bool false]

set_option maxHeartbeats 800000 in
theorem where_any {w : World} {b zb cap : Nat} {V : Nat → Value} {zs : List (List Int)} {r : Nat} (h : ToteRep w b zb cap V zs r) (hF : cap ≤ 9223372036854775807) (x : Int) :
    Calls Try.prog 15 #[.pointer (some ⟨b, 0, none⟩), .int .u16 x] w fun e w' => e = .returned (whereV (whereIs zs x)) ∧ Kept Emp w w' := by
  obtain ⟨cs, hb, hcs⟩ := h.zones
  have c0 := h.c0
  have hn8 := h.few
  have hown := h.own
  obtain ⟨n, hn⟩ : ∃ n, n = zs.length := ⟨_, rfl⟩
  rw [← hn] at c0 hn8 hcs hown
  have HN := Lib.hid hn
  clear hn
  have HH := Lib.hid h
  clear h
  go_enter Try.func15, Try.ntmps15
  go_wp2
  go_loopw [13] (fun i wr => ∃ k : Nat, k ≤ n ∧ i = .int .i64 k ∧ (∀ j, j < k → x ∉ row zs j) ∧ Kept Emp w wr) (fun i _ => n - (intOf i).toNat)
  case atStart => exact ⟨0, Nat.zero_le _, rfl, fun j hj => absurd hj (Nat.not_lt_zero _), Kept.refl _ _⟩
  case round =>
    obtain ⟨k, hk, rfl, hno, hK⟩ := hrel
    have HNO := Lib.hid hno
    clear hno
    by_cases hlt : k < n
    · obtain ⟨a1, a2⟩ := hcs k hlt
      have hbr := hb.kept hK (fun h => h)
      have ck := (hbr.cell (k * 2)).trans a1
      have ck1 := (hbr.cell (k * 2 + 1)).trans a2
      have ho := hK.ownsRow (hown k hlt) (fun _ _ h => h)
      obtain ⟨A, c, hv, _, _⟩ := own_slice ho
      rw [hv] at ck ho
      clear hv a1 a2
      have hcon := contains_any _ _ _ x _ (Sl.of_own (ho.alloc (.cells #[.slice A (row zs k).length c, .int .i64 (r : Int)] 48)))
      generalize (row zs k).length = m at ck hcon ho
      by_cases hx : x ∈ row zs k
      · have hd : decide (x ∈ row zs k) = true := by simpa using hx
        rw [hd] at hcon
        have HD := Lib.hid hx
        clear hd hx ho
        have HC := Lib.hid hcon
        clear hcon
        go_wp2_with (go_at_call 29; refine (HC.out).mono ?_; rintro e w' ⟨rfl, rfl⟩)
        go_ret2
        exact ⟨by rw [whereIs_at (by rw [← HN.out]; exact hlt) HNO.out HD.out]; rfl, hK.alloc _⟩
      · have hd : decide (x ∈ row zs k) = false := by simpa using hx
        rw [hd] at hcon
        have HD := Lib.hid hx
        clear hd hx ho
        have HC := Lib.hid hcon
        clear hcon
        go_wp2_with (go_at_call 29; refine (HC.out).mono ?_; rintro e w' ⟨rfl, rfl⟩)
        go_roundw
        case rel => exact ⟨k + 1, by omega, by go_num, fun j hj => by
          rcases Nat.lt_succ_iff_lt_or_eq.1 hj with h | h
          · exact HNO.out j h
          · subst h; exact HD.out, hK.alloc _⟩
        case measure => simp [intOf]; omega
    · go_wp2
      go_ret2
      exact ⟨by rw [whereIs_no (fun j hj => HNO.out j (by rw [← HN.out] at hj; omega))]; rfl, hK⟩

def putCode (zs : List (List Int)) (r : Nat) (x z : Int) : Int :=
  if inz zs z = false then 1 else if (whereIs zs x).isSome then 8 else if r ≤ (row zs z.toNat).length then 5 else 0
def putZs (zs : List (List Int)) (r : Nat) (x z : Int) : List (List Int) :=
  if putCode zs r x z = 0 then zs.set z.toNat (row zs z.toNat ++ [x]) else zs

theorem whereV_some {o : Option Nat} (h : o.isSome = true) : ∃ n : Int, whereV o = .tuple #[.int .i64 n, .bool true] := by
  cases o with
  | none => cases h
  | some n => exact ⟨n, rfl⟩
theorem whereV_none {o : Option Nat} (h : o.isSome = false) : whereV o = .tuple #[.int .i64 0, .bool false] := by
  cases o with
  | none => rfl
  | some n => cases h

set_option maxHeartbeats 800000 in
theorem put_any {w : World} {b zb cap : Nat} {V : Nat → Value} {zs : List (List Int)} {r : Nat} (h : ToteRep w b zb cap V zs r) (hF : cap ≤ 9223372036854775807) (x z : Int) :
    Calls Try.prog 6 #[.pointer (some ⟨b, 0, none⟩), .int .u16 x, .int .i64 z] w fun e w' => e = .returned (.int .i64 (putCode zs r x z)) ∧
      ∃ V', ToteRep w' b zb cap V' (putZs zs r x z) r ∧ Step (ToteF b zb V zs.length) (ToteF b zb V' zs.length) w w' := by
  have keep : ∀ w', Kept Emp w w' → putCode zs r x z ≠ 0 → ∃ V', ToteRep w' b zb cap V' (putZs zs r x z) r ∧ Step (ToteF b zb V zs.length) (ToteF b zb V' zs.length) w w' := fun w' hk hne => by
    refine ⟨V, ?_, Step.of_kept hk⟩
    rw [putZs, if_neg hne]
    exact h.kept hk (fun _ _ h => h)
  by_cases hz : inz zs z = true
  · obtain ⟨h0, h1⟩ := inz_iff.1 hz
    obtain ⟨n, rfl⟩ := Int.eq_ofNat_of_zero_le h0
    have hn : n < zs.length := by omega
    have hw := where_any h hF x
    by_cases hs : (whereIs zs x).isSome = true
    · have hcode : putCode zs r x n = 8 := by simp [putCode, hz, hs]
      obtain ⟨m, hm⟩ := whereV_some hs
      rw [hm] at hw
      clear hm hs
      rw [hcode]
      rw [hcode] at keep
      have HK := Lib.hid keep
      clear keep hcode hz
      go_enter Try.func6, Try.ntmps6
      go_wp2_with (first | (go_at_call 20; refine (zone_yes b zb zs.length cap n _ h.c0 hn).mono ?_; rintro e w' ⟨rfl, rfl⟩) | (go_at_call 15; refine hw.mono ?_; rintro e w' ⟨rfl, hk⟩))
      go_ret
      exact ⟨rfl, HK.out _ hk (by decide)⟩
    · simp only [Bool.not_eq_true] at hs
      have hwv := whereV_none hs
      rw [hwv] at hw
      obtain ⟨cs, hb, hcs⟩ := h.zones
      obtain ⟨a1, a2⟩ := hcs n hn
      have ho := h.own n hn
      obtain ⟨A, c, hv, _, _⟩ := own_slice ho
      have c1 : w.cell? ⟨zb, n * 2, none⟩ = some (.slice A (row zs n).length c) := (hb.cell _).trans (a1.trans (congrArg some hv))
      have c2 : w.cell? ⟨zb, n * 2 + 1, none⟩ = some (.int .i64 (r : Int)) := (hb.cell _).trans a2
      by_cases hr : r ≤ (row zs n).length
      · have hcode : putCode zs r x n = 5 := by simp [putCode, hz, hs, hr]
        rw [hcode]
        rw [hcode] at keep
        have HK := Lib.hid keep
        have hd : decide ((r : Int) ≤ ((row zs n).length : Int)) = true := by simpa using hr
        have hfull := fun W (d1 : W.cell? _ = _) (d2 : W.cell? _ = _) => full_any zb (n * 2) A (row zs n).length c r W d1 d2
        rw [hd] at hfull
        generalize (row zs n).length = m at c1 hfull
        clear keep hcode hz hs hwv hr hd hv ho a1 a2
        go_enter Try.func6, Try.ntmps6
        go_wp2_with (first | (go_at_call 20; refine (zone_yes b zb zs.length cap n _ h.c0 hn).mono ?_; rintro e w' ⟨rfl, rfl⟩) | (go_at_call 15; refine hw.mono ?_; rintro e w' ⟨rfl, hk⟩) | (go_at_call 21; refine (hfull _ (hk.cellSome c1 (fun h => h)) (hk.cellSome c2 (fun h => h))).mono ?_; rintro e w' ⟨rfl, q, rfl⟩))
        go_ret
        exact ⟨rfl, HK.out _ (hk.drewN _) (by decide)⟩
      · have hcode : putCode zs r x n = 0 := by simp [putCode, hz, hs, hr]
        have hzs : putZs zs r x n = zs.set n (row zs n ++ [x]) := by simp [putZs, hcode]
        rw [hcode, hzs]
        have hd : decide ((r : Int) ≤ ((row zs n).length : Int)) = false := by simpa using hr
        have hfull := fun W (d1 : W.cell? _ = _) (d2 : W.cell? _ = _) => full_any zb (n * 2) A (row zs n).length c r W d1 d2
        rw [hd] at hfull
        rw [hv] at ho a1
        have hlen := h.len n hn
        have hroom := h.room
        have fin : ∀ w1 w', Kept Emp w w1 → (∃ v', Blk w' zb 48 (cs.setIfInBounds (n * 2) v') ∧ w'.ownsRow 0 30 1 v' ((row zs n).length + 1) (u16s (row zs n ++ [x])) ∧ Kept (fun k => k = zb ∨ (Value.slice A (row zs n).length c).ownBlock = some k) w1 w' ∧ (∀ k, v'.ownBlock = some k → (Value.slice A (row zs n).length c).ownBlock = some k ∨ w1.heap.size ≤ k)) →
            ∃ V', ToteRep w' b zb cap V' (zs.set n (row zs n ++ [x])) r ∧ Step (ToteF b zb V zs.length) (ToteF b zb V' zs.length) w w' := by
          rintro w1 w' hk ⟨v', b1, b2, b3, b4⟩
          rw [← hv] at b3 b4
          have h' := h.kept hk (fun _ _ h => h)
          refine ⟨_, h'.set_ hn (hb.kept hk (fun h => h)) hcs b1 (by simpa using b2) b3 b4 (by simp; omega), ?_⟩
          exact (Step.of_kept hk).trans (tote_step hn b3 b4)
        have FIN := Lib.hid fin
        generalize hL : row zs n = L at c1 hfull ho a1 hlen
        have HL := Lib.hid hL
        clear hL keep hcode hzs hz hs hwv hr hd hv fin
        go_enter Try.func6, Try.ntmps6
        go_wp2_with (first | (go_at_call 20; refine (zone_yes b zb zs.length cap n _ h.c0 hn).mono ?_; rintro e w' ⟨rfl, rfl⟩) | (go_at_call 15; refine hw.mono ?_; rintro e w1 ⟨rfl, hk⟩) | (go_at_call 21; refine (hfull _ (hk.cellSome c1 (fun h => h)) (hk.cellSome c2 (fun h => h))).mono ?_; rintro e w' ⟨rfl, q, rfl⟩) | (go_at_call 22; refine (push_any zb (n * 2) (.slice A L.length c) L.length L x cs _ (hb.kept (hk.drewN q) (fun h => h)) a1 ((hk.drewN q).ownsRow ho (fun _ _ h => h)) (by omega)).mono ?_; rintro e w' ⟨rfl, hp⟩))
        go_ret
        rw [HL.out] at FIN
        exact ⟨rfl, FIN.out _ _ (hk.drewN q) hp⟩
  · simp only [Bool.not_eq_true] at hz
    have hcode : putCode zs r x z = 1 := by simp [putCode, hz]
    have hw := where_any h hF x
    obtain ⟨m, b1, hm⟩ : ∃ m b1, whereV (whereIs zs x) = .tuple #[.int .i64 m, .bool b1] := by cases whereIs zs x <;> exact ⟨_, _, rfl⟩
    rw [hm] at hw
    rw [hcode]
    rw [hcode] at keep
    have HK := Lib.hid keep
    have hno := zone_no b zb zs.length cap z w h.c0 (inz_no.1 hz)
    clear keep hcode hz hm
    go_enter Try.func6, Try.ntmps6
    go_wp2_with (first | (go_at_call 20; refine hno.mono ?_; rintro e w' ⟨rfl, rfl⟩) | (go_at_call 15; refine hw.mono ?_; rintro e w' ⟨rfl, hk⟩))
    all_goals
      go_ret
      exact ⟨rfl, HK.out _ hk (by decide)⟩
end Go.Proofs.Ytjoiecedidmbcaa
