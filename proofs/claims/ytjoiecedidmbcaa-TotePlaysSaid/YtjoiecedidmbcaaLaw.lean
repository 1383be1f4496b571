/- The law's walk: behind each step the answers agree, if the two rows are related. -/
import Derived.Test.YtjoiecedidmbcaaPlain
import Derived.Deep.DeepCutAuto
import Derived.Deep.CutBlock
namespace Go.Proofs.Ytjoiecedidmbcaa
open Go.RowKit

/-- The two objects of the law, apart from each other and from the blocks P of wb, which are as they were. -/
def TInv (wb : World) (P : Nat → Prop) (w : World) (b zb cap : Nat) (zs : List (List Int)) (r rb : Nat) (Z R : Int) (L : List (Int × Int)) : Prop :=
  (∀ k, P k → k < wb.heap.size) ∧ Kept (fun k => ¬ P k) wb w ∧ ∃ V A c, ToteRep w b zb cap V zs r ∧ RefRep w rb A c Z R L ∧ (∀ k, ToteF b zb V zs.length k → ¬ P k) ∧ (∀ k, RefF rb A k → ¬ P k) ∧ (∀ k, ToteF b zb V zs.length k → ¬ RefF rb A k)

section
variable {wb w w' : World} {P : Nat → Prop} {b zb cap : Nat} {zs zs' : List (List Int)} {r rb : Nat} {Z R : Int} {L L' : List (Int × Int)}
theorem ToteRep.ltF {V : Nat → Value} (h : ToteRep w b zb cap V zs r) : ∀ k, ToteF b zb V zs.length k → k < w.heap.size := fun k hk => by
  rcases hk with rfl | rfl | ⟨i, hi, hk⟩
  · exact h.head.lt
  · obtain ⟨_, hb, _⟩ := h.zones; exact hb.lt
  · exact lt_of_own (h.own i hi) k hk
theorem TInv.kept (h : TInv wb P w b zb cap zs r rb Z R L) (hk : Kept Emp w w') : TInv wb P w' b zb cap zs r rb Z R L := by
  obtain ⟨h0, h3, V, A, c, h1, h2, h4, h5, h6⟩ := h
  exact ⟨h0, h3.trans_emp hk, V, A, c, h1.kept hk (fun _ _ h => h), h2.kept hk (fun _ _ h => h), h4, h5, h6⟩
theorem TInv.tote (h : TInv wb P w b zb cap zs r rb Z R L) (hl : zs'.length = zs.length) (hp : ∀ V, ToteRep w b zb cap V zs r → ∃ V', ToteRep w' b zb cap V' zs' r ∧ Step (ToteF b zb V zs.length) (ToteF b zb V' zs.length) w w') : TInv wb P w' b zb cap zs' r rb Z R L := by
  obtain ⟨h0, h3, V, A, c, h1, h2, h4, h5, h6⟩ := h
  obtain ⟨V', h7, h8⟩ := hp V h1
  refine ⟨h0, h3.trans h8.1 (fun j _ hf => h4 j hf), V', A, c, h7, h2.kept h8.1 (fun k hk hf => h6 k hf hk), fun k hk => ?_, h5, fun k hk hr => ?_⟩
  · rw [hl] at hk
    rcases h8.2 k hk with h | h
    · exact h4 k h
    · intro hP; have := h0 k hP; have := h3.size; omega
  · rw [hl] at hk
    rcases h8.2 k hk with h | h
    · exact h6 k h hr
    · exact absurd (h2.ltF k hr) (Nat.not_lt.2 h)
theorem TInv.ref (h : TInv wb P w b zb cap zs r rb Z R L) (hp : ∀ A c, RefRep w rb A c Z R L → MovePost w rb A Z R L' w') : TInv wb P w' b zb cap zs r rb Z R L' := by
  obtain ⟨h0, h3, V, A, c, h1, h2, h4, h5, h6⟩ := h
  obtain ⟨A', c', h7, h8⟩ := hp A c h2
  refine ⟨h0, h3.trans h8.1 (fun j _ hf => h5 j hf), V, A', c', h1.kept h8.1 (fun k hk hf => h6 k hk hf), h7, h4, fun k hk => ?_, fun k hk hr => ?_⟩
  · rcases h8.2 k hk with h | h
    · exact h5 k h
    · intro hP; have := h0 k hP; have := h3.size; omega
  · rcases h8.2 k hr with h | h
    · exact h6 k hk h
    · exact absurd (h1.ltF k hk) (Nat.not_lt.2 h)
/-- One block more is watched. -/
theorem TInv.watch (h : TInv wb P w b zb cap zs r rb Z R L) (o : Obj) : TInv (w.alloc o) (fun k => P k ∨ k = w.heap.size) (w.alloc o) b zb cap zs r rb Z R L := by
  obtain ⟨h0, h3, V, A, c, h1, h2, h4, h5, h6⟩ := h
  have hk : Kept Emp w (w.alloc o) := (Kept.refl _ _).alloc o
  refine ⟨fun k hk => ?_, Kept.refl _ _, V, A, c, h1.kept hk (fun _ _ h => h), h2.kept hk (fun _ _ h => h), fun k hk hp => ?_, fun k hk hp => ?_, h6⟩
  · rw [World.size_alloc]
    rcases hk with hk | hk
    · have := h0 k hk; have := h3.size; omega
    · omega
  · rcases hp with hp | hp
    · exact h4 k hk hp
    · have := h1.ltF k hk; omega
  · rcases hp with hp | hp
    · exact h5 k hk hp
    · have := h2.ltF k hk; omega
theorem TInv.unwatch {w1 : World} {P' : Nat → Prop} (h : TInv w1 P' w b zb cap zs r rb Z R L) (h0 : ∀ k, P k → k < wb.heap.size) (hP : ∀ k, P k → P' k) (hk : Kept (fun k => ¬ P k) wb w1) : TInv wb P w b zb cap zs r rb Z R L := by
  obtain ⟨_, h3, V, A, c, h1, h2, h4, h5, h6⟩ := h
  exact ⟨h0, hk.trans h3 (fun j _ hj hp => hj (hP j hp)), V, A, c, h1, h2, fun k hk hp => h4 k hk (hP k hp), fun k hk hp => h5 k hk (hP k hp), h6⟩
theorem TInv.blk {t : TypeId} {cs : Array Value} {g : Nat} (h : TInv wb P w b zb cap zs r rb Z R L) (hb : Blk wb g t cs) (hg : P g) : Blk w g t cs := hb.kept h.2.1 (fun hn => hn hg)

theorem put_I (h : TInv wb P w b zb cap zs r rb Z R L) (hF : cap ≤ 9223372036854775807) (x z : Int) :
    Calls Try.prog 6 #[.pointer (some ⟨b, 0, none⟩), .int .u16 x, .int .i64 z] w fun e w' => e = .returned (.int .i64 (putCode zs r x z)) ∧ TInv wb P w' b zb cap (putZs zs r x z) r rb Z R L := by
  obtain ⟨h0, h3, V, A, c, h1, h2, h4, h5, h6⟩ := id h
  refine (put_any h1 hF x z).mono fun e w' he => ⟨he.1, ?_⟩
  obtain ⟨V', h7, h8⟩ := he.2
  refine ⟨h0, h3.trans h8.1 (fun j _ hf => h4 j hf), V', A, c, h7, h2.kept h8.1 (fun k hk hf => h6 k hf hk), fun k hk => ?_, h5, fun k hk hr => ?_⟩
  · rw [length_putZs] at hk
    rcases h8.2 k hk with h | h
    · exact h4 k h
    · intro hP; have := h0 k hP; have := h3.size; omega
  · rw [length_putZs] at hk
    rcases h8.2 k hk with h | h
    · exact h6 k h hr
    · exact absurd (h2.ltF k hr) (Nat.not_lt.2 h)
theorem pass_I (h : TInv wb P w b zb cap zs r rb Z R L) (z : Int) :
    Calls Try.prog 8 #[.pointer (some ⟨b, 0, none⟩), .int .i64 z] w fun e w' => e = .returned (.tuple #[.int .u16 (passVal zs r z), .int .i64 (passCode zs r z)]) ∧ TInv wb P w' b zb cap (passZs zs r z) r rb Z R L := by
  obtain ⟨h0, h3, V, A, c, h1, h2, h4, h5, h6⟩ := id h
  refine (pass_any h1 z).mono fun e w' he => ⟨he.1, ?_⟩
  obtain ⟨V', h7, h8⟩ := he.2
  refine ⟨h0, h3.trans h8.1 (fun j _ hf => h4 j hf), V', A, c, h7, h2.kept h8.1 (fun k hk hf => h6 k hf hk), fun k hk => ?_, h5, fun k hk hr => ?_⟩
  · rw [length_passZs] at hk
    rcases h8.2 k hk with h | h
    · exact h4 k h
    · intro hP; have := h0 k hP; have := h3.size; omega
  · rw [length_passZs] at hk
    rcases h8.2 k hk with h | h
    · exact h6 k h hr
    · exact absurd (h2.ltF k hr) (Nat.not_lt.2 h)
theorem skip_I (h : TInv wb P w b zb cap zs r rb Z R L) (z : Int) :
    Calls Try.prog 10 #[.pointer (some ⟨b, 0, none⟩), .int .i64 z] w fun e w' => e = .returned (.int .i64 (skipCode zs z)) ∧ TInv wb P w' b zb cap (skipZs zs z) r rb Z R L := by
  obtain ⟨h0, h3, V, A, c, h1, h2, h4, h5, h6⟩ := id h
  refine (skip_any h1 z).mono fun e w' he => ⟨he.1, ?_⟩
  obtain ⟨V', h7, h8⟩ := he.2
  refine ⟨h0, h3.trans h8.1 (fun j _ hf => h4 j hf), V', A, c, h7, h2.kept h8.1 (fun k hk hf => h6 k hf hk), fun k hk => ?_, h5, fun k hk hr => ?_⟩
  · rw [length_skipZs] at hk
    rcases h8.2 k hk with h | h
    · exact h4 k h
    · intro hP; have := h0 k hP; have := h3.size; omega
  · rw [length_skipZs] at hk
    rcases h8.2 k hk with h | h
    · exact h6 k h hr
    · exact absurd (h2.ltF k hr) (Nat.not_lt.2 h)
theorem rput_I (h : TInv wb P w b zb cap zs r rb Z R L) (hL : L.length < 100000) (x z : Int) :
    Calls Try.prog 7 #[.pointer (some ⟨rb, 0, none⟩), .int .u16 x, .int .i64 z] w fun e w' => e = .returned (.int .i64 (rputCode Z R L x z)) ∧ TInv wb P w' b zb cap zs r rb Z R (rputL Z R L x z) := by
  obtain ⟨h0, h3, V, A, c, h1, h2, h4, h5, h6⟩ := id h
  refine (rput_any h2 hL x z).mono fun e w' he => ⟨he.1, ?_⟩
  obtain ⟨A', c', h7, h8⟩ := he.2
  refine ⟨h0, h3.trans h8.1 (fun j _ hf => h5 j hf), V, A', c', h1.kept h8.1 (fun k hk hf => h6 k hk hf), h7, h4, fun k hk => ?_, fun k hk hr => ?_⟩
  · rcases h8.2 k hk with h | h
    · exact h5 k h
    · intro hP; have := h0 k hP; have := h3.size; omega
  · rcases h8.2 k hr with h | h
    · exact h6 k hk h
    · exact absurd (h1.ltF k hk) (Nat.not_lt.2 h)
theorem rpass_I (h : TInv wb P w b zb cap zs r rb Z R L) (hL : L.length < 100000) (z : Int) :
    Calls Try.prog 9 #[.pointer (some ⟨rb, 0, none⟩), .int .i64 z] w fun e w' => e = .returned (.tuple #[.int .u16 (rpassVal Z R L z), .int .i64 (rpassCode Z R L z)]) ∧ TInv wb P w' b zb cap zs r rb Z R (rpassL Z R L z) := by
  obtain ⟨h0, h3, V, A, c, h1, h2, h4, h5, h6⟩ := id h
  refine (rpass_any h2 hL z).mono fun e w' he => ⟨he.1, ?_⟩
  obtain ⟨A', c', h7, h8⟩ := he.2
  refine ⟨h0, h3.trans h8.1 (fun j _ hf => h5 j hf), V, A', c', h1.kept h8.1 (fun k hk hf => h6 k hk hf), h7, h4, fun k hk => ?_, fun k hk hr => ?_⟩
  · rcases h8.2 k hk with h | h
    · exact h5 k h
    · intro hP; have := h0 k hP; have := h3.size; omega
  · rcases h8.2 k hr with h | h
    · exact h6 k hk h
    · exact absurd (h1.ltF k hk) (Nat.not_lt.2 h)
theorem rskip_I (h : TInv wb P w b zb cap zs r rb Z R L) (hL : L.length < 100000) (z : Int) :
    Calls Try.prog 11 #[.pointer (some ⟨rb, 0, none⟩), .int .i64 z] w fun e w' => e = .returned (.int .i64 (rskipCode Z L z)) ∧ TInv wb P w' b zb cap zs r rb Z R (rskipL Z L z) := by
  obtain ⟨h0, h3, V, A, c, h1, h2, h4, h5, h6⟩ := id h
  refine (rskip_any h2 hL z).mono fun e w' he => ⟨he.1, ?_⟩
  obtain ⟨A', c', h7, h8⟩ := he.2
  refine ⟨h0, h3.trans h8.1 (fun j _ hf => h5 j hf), V, A', c', h1.kept h8.1 (fun k hk hf => h6 k hk hf), h7, h4, fun k hk => ?_, fun k hk hr => ?_⟩
  · rcases h8.2 k hk with h | h
    · exact h5 k h
    · intro hP; have := h0 k hP; have := h3.size; omega
  · rcases h8.2 k hr with h | h
    · exact h6 k hk h
    · exact absurd (h1.ltF k hk) (Nat.not_lt.2 h)
end

def stepCells : List (Int × Int × Int) → List Value
  | [] => []
  | p :: l => .int .i64 p.1 :: .int .u16 p.2.1 :: .int .i64 p.2.2 :: stepCells l
theorem stepCells_get {L : List (Int × Int × Int)} {i : Nat} {p : Int × Int × Int} (h : L[i]? = some p) : (stepCells L)[i * 3]? = some (.int .i64 p.1) ∧ (stepCells L)[i * 3 + 1]? = some (.int .u16 p.2.1) ∧ (stepCells L)[i * 3 + 2]? = some (.int .i64 p.2.2) := by
  induction L generalizing i with
  | nil => simp at h
  | cons q l ih =>
    cases i with
    | zero => simp at h; subst h; simp [stepCells]
    | succ i =>
      rw [show (i + 1) * 3 = i * 3 + 1 + 1 + 1 by omega]
      simp only [stepCells, List.getElem?_cons_succ] at h ⊢
      exact ih h
theorem length_stepCells (L : List (Int × Int × Int)) : (stepCells L).length = L.length * 3 := by induction L with | nil => rfl | cons p l ih => simp [stepCells, ih]; omega

section
variable {wb w w' : World} {P : Nat → Prop} {b zb cap : Nat} {zs : List (List Int)} {r rb : Nat} {Z R : Int} {L : List (Int × Int)}
theorem put_K (h : TInv wb P w b zb cap zs r rb Z R L) (hr : Rel zs r Z R L) (hF : cap ≤ 9223372036854775807) (x z : Int) :
    Calls Try.prog 6 #[.pointer (some ⟨b, 0, none⟩), .int .u16 x, .int .i64 z] w fun e w' => e = .returned (.int .i64 (rputCode Z R L x z)) ∧ TInv wb P w' b zb cap (putZs zs r x z) r rb Z R L := by
  rw [← hr.putCode]; exact put_I h hF x z
theorem pass_K (h : TInv wb P w b zb cap zs r rb Z R L) (hr : Rel zs r Z R L) (z : Int) :
    Calls Try.prog 8 #[.pointer (some ⟨b, 0, none⟩), .int .i64 z] w fun e w' => e = .returned (.tuple #[.int .u16 (rpassVal Z R L z), .int .i64 (rpassCode Z R L z)]) ∧ TInv wb P w' b zb cap (passZs zs r z) r rb Z R L := by
  rw [← hr.passCode, ← hr.passVal]; exact pass_I h z
theorem skip_K (h : TInv wb P w b zb cap zs r rb Z R L) (hr : Rel zs r Z R L) (z : Int) :
    Calls Try.prog 10 #[.pointer (some ⟨b, 0, none⟩), .int .i64 z] w fun e w' => e = .returned (.int .i64 (rskipCode Z L z)) ∧ TInv wb P w' b zb cap (skipZs zs z) r rb Z R L := by
  rw [← hr.skipCode]; exact skip_I h z
theorem row_K (h : TInv wb P w b zb cap zs r rb Z R L) (hr : Rel zs r Z R L) (z : Int) (l : List Int) (hl : l = rrow L z) :
    Calls Try.prog 12 #[.pointer (some ⟨b, 0, none⟩), .int .i64 z] w (RowPost w l) := by
  subst hl
  obtain ⟨h0, h3, V, A, c, h1, h2, h4, h5, h6⟩ := h
  have := row_any h1 z
  rw [hr.rowAt] at this
  refine this.mono fun e w' he => ?_
  obtain ⟨A', c', a1, a2, a3, a4⟩ := he
  exact ⟨A', c', a1, a2, a3, fun k hk => a4 k (by rw [ownBlock_slice]; exact hk)⟩
theorem rrow_K (h : TInv wb P w b zb cap zs r rb Z R L) (z : Int) (l : List Int) (hl : l = rrow L z) :
    Calls Try.prog 13 #[.pointer (some ⟨rb, 0, none⟩), .int .i64 z] w (RowPost w l) := by
  subst hl
  obtain ⟨h0, h3, V, A, c, h1, h2, h4, h5, h6⟩ := h
  exact rrow_any h2 z
theorem front_K (h : TInv wb P w b zb cap zs r rb Z R L) (hr : Rel zs r Z R L) (z : Int) (l : List Int) (hl : l = rrow L z) (x : Int) (is : Bool) (h1 : l.headD 0 = x) (h2 : (!l.isEmpty) = is) :
    Calls Try.prog 14 #[.pointer (some ⟨b, 0, none⟩), .int .i64 z] w fun e w' => e = .returned (.tuple #[.int .u16 x, .bool is]) ∧ w = w' := by
  subst h1; subst h2; subst hl
  obtain ⟨h0, h3, V, A, c, h1, h2, h4, h5, h6⟩ := h
  have := front_any h1 z
  rw [hr.rowAt] at this
  exact this
theorem where_K (h : TInv wb P w b zb cap zs r rb Z R L) (hr : Rel zs r Z R L) (hF : cap ≤ 9223372036854775807) (x : Int) (n : Int) (is : Bool) (hv : rwhereV (rwhere L x) = .tuple #[.int .i64 n, .bool is]) :
    Calls Try.prog 15 #[.pointer (some ⟨b, 0, none⟩), .int .u16 x] w fun e w' => e = .returned (.tuple #[.int .i64 n, .bool is]) ∧ Kept Emp w w' := by
  rw [← hv, ← hr.where_]
  obtain ⟨h0, h3, V, A, c, h1, h2, h4, h5, h6⟩ := h
  exact where_any h1 hF x
theorem rwhere_K (h : TInv wb P w b zb cap zs r rb Z R L) (x : Int) (n : Int) (is : Bool) (hv : rwhereV (rwhere L x) = .tuple #[.int .i64 n, .bool is]) :
    Calls Try.prog 16 #[.pointer (some ⟨rb, 0, none⟩), .int .u16 x] w fun e w' => e = .returned (.tuple #[.int .i64 n, .bool is]) ∧ w = w' := by
  rw [← hv]
  obtain ⟨h0, h3, V, A, c, h1, h2, h4, h5, h6⟩ := h
  exact rwhere_any h2 x
theorem len_K (h : TInv wb P w b zb cap zs r rb Z R L) (hr : Rel zs r Z R L) (z : Int) (l : List Int) (hl : l = rrow L z) :
    Calls Try.prog 18 #[.pointer (some ⟨b, 0, none⟩), .int .i64 z] w fun e w' => e = .returned (.int .i64 (l.length : Nat)) ∧ Kept Emp w w' := by
  subst hl
  obtain ⟨h0, h3, V, A, c, h1, h2, h4, h5, h6⟩ := h
  have := len_any h1 z
  rw [hr.rowAt] at this
  exact this
end

theorem row_at {w : World} {A : Option Addr} {c : Nat} {x : Int} {l : List Int} (h : w.ownsRow 0 30 1 (.slice A (x :: l).length c) (x :: l).length (u16s (x :: l))) : ∃ g, A = some ⟨g, 0, none⟩ ∧ w.cell? ⟨g, 0, none⟩ = some (.int .u16 x) ∧ ∃ cs, Blk w g 30 cs ∧ (x :: l).length ≤ cs.size := by
  rcases h.2 with ⟨_, h⟩ | ⟨g, cap, cur, he, _, hg, h1, h2, h3, h4⟩
  · simp at h
  · injection he with hA _ _
    subst hA
    have hc := h.cells (g := g) rfl 0 (.int .u16 x) (by simp)
    rw [Addr.add_lit] at hc
    exact ⟨g, rfl, hc, cur, hg, by rw [h3]; omega⟩

/-- What a round of the law leaves. -/
def LawI (w0 : World) (b zb cap rb : Nat) (Z R : Int) (m : Nat) (w : World) : Prop :=
  ∃ zs L, TInv w0 (fun k => k < w0.heap.size) w b zb cap zs (lim R 64).toNat rb Z R L ∧ Rel zs (lim R 64).toNat Z R L ∧ L.length ≤ m
def LawJ (wb : World) (w0s B : Nat) (b zb cap rb : Nat) (Z R : Int) (m : Nat) (w : World) : Prop :=
  ∃ zs L, TInv wb (fun k => k < w0s ∨ k = B) w b zb cap zs (lim R 64).toNat rb Z R L ∧ Rel zs (lim R 64).toNat Z R L ∧ L.length ≤ m

set_option maxHeartbeats 4000000 in
set_option maxRecDepth 100000 in
theorem law_any (w : World) (zones room : Int) (v : Value) (n : Nat) (S : List (Int × Int × Int)) (hs : Sl w 3 v n (stepCells S)) :
    Calls Try.prog 3 #[.int .i64 zones, .int .i64 room, v] w fun e w' => e = .returned (.bool true) ∧ Kept Emp w w' := by
  obtain ⟨hl, A, c, rfl, hnc, hcm, hA, h0⟩ := id hs
  have hlen : S.length = n := by rw [length_stepCells] at hl; omega
  unfold maxLen at hcm
  have hcap : (lim zones 8).toNat ≤ 9223372036854775807 := by have := lim_in zones 8 (by omega); omega
  have hq := q24neq
  have HLEN := Lib.hid hlen
  clear hl hs hlen
  go_enter Try.func3, Try.ntmps3
  go_wp2_with fail
  refine (shown_any _).mono ?_
  rintro e w1 ⟨rfl, hk1⟩
  go_wp2_with fail
  refine (new_any zones room _).mono ?_
  rintro e w2 ⟨b, zb, V, rfl, hT, hk2, hF⟩
  go_wp2_with fail
  have hI : LawI w b zb (lim zones 8).toNat w2.heap.size zones room 0 (w2.alloc (.cells #[.int .i64 zones, .int .i64 room, .slice none 0 0] 29)) := by
    have hka : Kept Emp w2 (w2.alloc (.cells #[.int .i64 zones, .int .i64 room, .slice none 0 0] 29)) := (Kept.refl _ _).alloc _
    have hlt := hT.ltF
    have hsz := hk1.size
    have hsz2 := hk2.size
    have hll : (List.replicate (lim zones 8).toNat ([] : List Int)).length = (lim zones 8).toNat := List.length_replicate ..
    rw [hll] at hlt
    refine ⟨_, [], ⟨fun k hk => hk, ?_, V, none, 0, hT.kept hka (fun _ _ h => h), ⟨Blk.new w2 29 _, World.ownsRow_nil _ _ _ _, Nat.zero_le _⟩, fun k hk => ?_, fun k hk => ?_, fun k hk hr => ?_⟩, rel_start zones room, Nat.le_refl _⟩
    · exact ((hk1.trans_emp hk2).trans_emp hka).of_emp
    · rw [hll] at hk; have := hF k hk; omega
    · rcases hk with hk | hk
      · omega
      · cases hk
    · rw [hll] at hk
      rcases hr with hr | hr
      · have := hlt k hk; omega
      · cases hr
  have hkw : Kept Emp w (w2.alloc (.cells #[.int .i64 zones, .int .i64 room, .slice none 0 0] 29)) := (hk1.trans_emp hk2).alloc _
  generalize w2.alloc (.cells #[.int .i64 zones, .int .i64 room, .slice none 0 0] 29) = w3 at hI hkw ⊢
  generalize w2.heap.size = rb at hI ⊢
  generalize (lim zones 8).toNat = cap at hI hcap
  clear hT hk2 hF hk1 V hq
  go_loopw [10] (fun i wr => ∃ k : Nat, k ≤ n ∧ k ≤ 200 ∧ i = .int .i64 k ∧ LawI w b zb cap rb zones room k wr) (fun i _ => n - (intOf i).toNat)
  case atStart => exact ⟨0, Nat.zero_le _, Nat.zero_le _, rfl, hI⟩
  case round =>
    obtain ⟨k, hk, hk200, rfl, hL⟩ := hrel
    by_cases hlt : k < n ∧ k < 200
    · obtain ⟨hlt, hlt2⟩ := hlt
      obtain ⟨p, hp⟩ : ∃ p, S[k]? = some p := ⟨_, List.getElem?_eq_getElem (by rw [HLEN.out]; exact hlt)⟩
      obtain ⟨g, o, rfl, hg, hc⟩ := h0 (by omega)
      have hKw : Kept Emp w wr := by obtain ⟨zs, L, h1, _⟩ := hL; exact h1.2.1.mono (fun k hk hn => absurd hk hn)
      have d0 := hKw.cellSome (hc _ _ (stepCells_get hp).1) (fun h => h)
      have d1 := hKw.cellSome (hc _ _ (stepCells_get hp).2.1) (fun h => h)
      have d2 := hKw.cellSome (hc _ _ (stepCells_get hp).2.2) (fun h => h)
      obtain ⟨kind, tote, zone⟩ := p
      simp only [← Nat.add_assoc] at d0 d1 d2
      clear hc h0 hp hKw
      go_upto_block 2 with fail
      go_cut [12] (fun ok wx => ok = .bool true ∧ LawJ (wr.alloc (.cells #[.int .i64 kind, .int .u16 tote, .int .i64 zone] 32)) w.heap.size wr.heap.size b zb cap rb zones room (k + 1) wx)
      case first =>
        obtain ⟨zs, L, hT, hr, hLk⟩ := hL
        have J0 := (hT.watch (.cells #[.int .i64 kind, .int .u16 tote, .int .i64 zone] 32)).unwatch (P := fun k => k < w.heap.size ∨ k = wr.heap.size) (wb := wr.alloc (.cells #[.int .i64 kind, .int .u16 tote, .int .i64 zone] 32)) (hT.watch _).1 (fun _ h => h) (Kept.refl _ _)
        have hB : Blk (wr.alloc (.cells #[.int .i64 kind, .int .u16 tote, .int .i64 zone] 32)) wr.heap.size 32 #[.int .i64 kind, .int .u16 tote, .int .i64 zone] := Blk.new _ _ _
        have hS : ∀ (wx : World) (zs : List (List Int)) (L : List (Int × Int)), TInv (wr.alloc (.cells #[.int .i64 kind, .int .u16 tote, .int .i64 zone] 32)) (fun k => k < w.heap.size ∨ k = wr.heap.size) wx b zb cap zs (lim room 64).toNat rb zones room L → wx.cell? ⟨wr.heap.size, 1, none⟩ = some (.int .u16 tote) ∧ wx.cell? ⟨wr.heap.size, 2, none⟩ = some (.int .i64 zone) := fun wx zs L h => ⟨(h.blk hB (.inr rfl)).cell 1, (h.blk hB (.inr rfl)).cell 2⟩
        have hL5 : L.length < 100000 := by omega
        have J1 := J0.kept ((Kept.refl Emp _).drew)
        have HS := Lib.hid hS
        clear hS hT hB d0 d1 d2
        by_cases k1 : kind = 1 ∨ kind = 2 ∨ kind = 3
        · have fin : ∀ wq, TInv (wr.alloc (.cells #[.int .i64 kind, .int .u16 tote, .int .i64 zone] 32)) (fun k => k < w.heap.size ∨ k = wr.heap.size) wq b zb cap (putZs zs (lim room 64).toNat tote zone) (lim room 64).toNat rb zones room (rputL zones room L tote zone) → LawJ (wr.alloc (.cells #[.int .i64 kind, .int .u16 tote, .int .i64 zone] 32)) w.heap.size wr.heap.size b zb cap rb zones room (k + 1) wq := fun wq h => ⟨_, _, h, hr.put _ _, by have := rputL_le zones room L tote zone; omega⟩
          have FIN := Lib.hid fin
          clear fin
          rcases k1 with rfl | rfl | rfl
          all_goals
            go_wp2_with fail
            go_region_held3 (fun w' => w'.cell? ⟨wr.heap.size, 1, none⟩ = some (.int .u16 tote) ∧ w'.cell? ⟨wr.heap.size, 2, none⟩ = some (.int .i64 zone)) (first | exact HS.out _ _ _ (by assumption)) (first | (go_at_call 6; refine (put_K J1 hr hcap tote zone).mono ?_; rintro e wp ⟨rfl, J2⟩) | (go_at_call 7; refine (rput_I J2 hL5 tote zone).mono ?_; rintro e wq ⟨rfl, J3⟩))
            all_goals
              go_wp2_with fail
              go_meet
              exact ⟨rfl, FIN.out _ J3⟩
        · by_cases k2 : kind = 4 ∨ kind = 5
          · have fin : ∀ wq, TInv (wr.alloc (.cells #[.int .i64 kind, .int .u16 tote, .int .i64 zone] 32)) (fun k => k < w.heap.size ∨ k = wr.heap.size) wq b zb cap (passZs zs (lim room 64).toNat zone) (lim room 64).toNat rb zones room (rpassL zones room L zone) → LawJ (wr.alloc (.cells #[.int .i64 kind, .int .u16 tote, .int .i64 zone] 32)) w.heap.size wr.heap.size b zb cap rb zones room (k + 1) wq := fun wq h => ⟨_, _, h, hr.pass _, by have := rpassL_le zones room L zone; omega⟩
            have FIN := Lib.hid fin
            clear fin k1
            rcases k2 with rfl | rfl
            all_goals
              go_wp2_with (first | (go_at_call 8; refine (pass_K J0 hr zone).mono ?_; rintro e wp ⟨rfl, J2⟩; obtain ⟨e1, e2⟩ := HS.out _ _ _ J2) | (go_at_call 9; refine (rpass_I J2 hL5 zone).mono ?_; rintro e wq ⟨rfl, J3⟩))
              go_meet
              exact ⟨rfl, FIN.out _ J3⟩
          · by_cases k3 : kind = 6
            · have fin : ∀ wq, TInv (wr.alloc (.cells #[.int .i64 kind, .int .u16 tote, .int .i64 zone] 32)) (fun k => k < w.heap.size ∨ k = wr.heap.size) wq b zb cap (skipZs zs zone) (lim room 64).toNat rb zones room (rskipL zones L zone) → LawJ (wr.alloc (.cells #[.int .i64 kind, .int .u16 tote, .int .i64 zone] 32)) w.heap.size wr.heap.size b zb cap rb zones room (k + 1) wq := fun wq h => ⟨_, _, h, hr.skip _, by have := rskipL_le zones L zone; omega⟩
              have FIN := Lib.hid fin
              clear fin k1 k2
              subst k3
              go_wp2_with fail
              go_region_held3 (fun w' => w'.cell? ⟨wr.heap.size, 1, none⟩ = some (.int .u16 tote) ∧ w'.cell? ⟨wr.heap.size, 2, none⟩ = some (.int .i64 zone)) (first | exact HS.out _ _ _ (by assumption)) (first | (go_at_call 10; refine (skip_K J1 hr zone).mono ?_; rintro e wp ⟨rfl, J2⟩) | (go_at_call 11; refine (rskip_I J2 hL5 zone).mono ?_; rintro e wq ⟨rfl, J3⟩))
              all_goals
                go_wp2_with fail
                go_meet
                exact ⟨rfl, FIN.out _ J3⟩
            · have fin : LawJ (wr.alloc (.cells #[.int .i64 kind, .int .u16 tote, .int .i64 zone] 32)) w.heap.size wr.heap.size b zb cap rb zones room (k + 1) (wr.alloc (.cells #[.int .i64 kind, .int .u16 tote, .int .i64 zone] 32)) := ⟨_, _, J0, hr, by omega⟩
              have n1 : (kind == 1) = false := by simp; omega
              have n2 : (kind == 2) = false := by simp; omega
              have n3 : (kind == 3) = false := by simp; omega
              have n4 : (kind == 4) = false := by simp; omega
              have n5 : (kind == 5) = false := by simp; omega
              have n6 : (kind == 6) = false := by simp; omega
              clear k1 k2 k3
              go_wp2_with fail
              go_meet
              exact ⟨rfl, fin⟩
      case rest =>
        obtain ⟨rfl, zs, L, hT, hr, hLk⟩ := hcut
        have hB : Blk wc wr.heap.size 32 #[.int .i64 kind, .int .u16 tote, .int .i64 zone] := hT.blk (Blk.new _ _ _) (.inr rfl)
        have b1 : wc.cell? ⟨wr.heap.size, 1, none⟩ = some (.int .u16 tote) := hB.cell 1
        have b2 : wc.cell? ⟨wr.heap.size, 2, none⟩ = some (.int .i64 zone) := hB.cell 2
        have fin : ∀ wx, Kept Emp wc wx → LawI w b zb cap rb zones room (k + 1) wx := fun wx hkx => by
          obtain ⟨zs0, L0, h0, _, _⟩ := hL
          exact ⟨zs, L, (hT.unwatch h0.1 (fun _ h => .inl h) (h0.2.1.alloc _)).kept hkx, hr, hLk⟩
        have FIN := Lib.hid fin
        clear fin hL d0 d1 d2
        obtain ⟨m, is2, hwv⟩ : ∃ m b1, rwhereV (rwhere L tote) = .tuple #[.int .i64 m, .bool b1] := by cases rwhere L tote <;> exact ⟨_, _, rfl⟩
        have HWV := Lib.hid hwv
        clear hwv
        obtain ⟨l, hl⟩ : ∃ l, l = rrow L zone := ⟨_, rfl⟩
        have HL := Lib.hid hl
        clear hl
        have hL6 : ∀ wx, Kept Emp wc wx → TInv (wr.alloc (.cells #[.int .i64 kind, .int .u16 tote, .int .i64 zone] 32)) (fun k => k < w.heap.size ∨ k = wr.heap.size) wx b zb cap zs (lim room 64).toNat rb zones room L := fun wx h => hT.kept h
        have HT := Lib.hid hL6
        clear hL6 hT
        cases l with
        | nil =>
          have q0 := Kept.refl Emp wc
          go_wp2_with (first | (go_at_call 12; refine (row_K (HT.out _ q0) hr zone [] HL.out).mono ?_; rintro e w1 ⟨A1, c1, rfl, o1, q1, _⟩; have q1 := q0.trans_emp q1; have b21 := q1.cellSome b2 (fun h => h)) | (go_at_call 13; refine (rrow_K (HT.out _ q1) zone [] HL.out).mono ?_; rintro e w2 ⟨A2, c2, rfl, o2, q2, _⟩; have o1 := q2.ownsRow o1 (fun _ _ h => h); have q2 := q1.trans_emp q2; have b22 := q2.cellSome b2 (fun h => h); have b12 := q2.cellSome b1 (fun h => h)) | (go_at_call 14; refine (front_K (HT.out _ q2) hr zone [] HL.out 0 false rfl rfl).mono ?_; rintro e wx ⟨rfl, rfl⟩) | (go_at_call 15; refine (where_K (HT.out _ q2) hr hcap tote m is2 HWV.out).mono ?_; rintro e w3 ⟨rfl, q3⟩; have o1 := q3.ownsRow o1 (fun _ _ h => h); have o2 := q3.ownsRow o2 (fun _ _ h => h); have q3 := q2.trans_emp q3; have b13 := q3.cellSome b1 (fun h => h); have b23 := q3.cellSome b2 (fun h => h)) | (go_at_call 16; refine (rwhere_K (HT.out _ q3) tote m is2 HWV.out).mono ?_; rintro e wx ⟨rfl, rfl⟩) | (go_at_call 17; refine (same_any _ _ _ _ _ [] [] (Sl.of_own o1) (Sl.of_own o2)).mono ?_; rintro e w4 ⟨rfl, q4⟩; have q4 := q3.trans_emp q4; have b24 := q4.cellSome b2 (fun h => h)) | (go_at_call 18; refine (len_K (HT.out _ q4) hr zone [] HL.out).mono ?_; rintro e w5 ⟨rfl, q5⟩; have q5 := q4.trans_emp q5))
          refine wp_loop_rounds 1 ?_
          rw [rounds_succ]
          go_wp2_with fail
          go_roundw
          case rel => exact ⟨k + 1, by omega, by omega, by go_num, FIN.out _ q5⟩
          case measure => simp [intOf]; omega
        | cons x l =>
          have q0 := Kept.refl Emp wc
          have hll : l.length + 1 ≤ 100000 := by have h1 := rrow_le L zone; rw [← HL.out] at h1; simp only [List.length_cons] at h1; omega
          go_wp2_with (first | (go_at_call 12; refine (row_K (HT.out _ q0) hr zone (x :: l) HL.out).mono ?_; rintro e w1 ⟨A1, c1, rfl, o1, q1, z1⟩; obtain ⟨g1, rfl, _, cs, hb1, hcs⟩ := row_at o1; have hg1 := z1 g1 rfl; clear z1; have q1 := q0.trans_emp q1; have b21 := q1.cellSome b2 (fun h => h)) | (go_at_call 13; refine (rrow_K (HT.out _ q1) zone (x :: l) HL.out).mono ?_; rintro e w2 ⟨A2, c2, rfl, o2, q2, _⟩; obtain ⟨g2, rfl, y2, _⟩ := row_at o2; have hb1 := hb1.kept q2 (fun h => h); have o1 := q2.ownsRow o1 (fun _ _ h => h); have q2 := q1.trans_emp q2; have b22 := q2.cellSome b2 (fun h => h); have b12 := q2.cellSome b1 (fun h => h)) | (go_at_call 14; refine (front_K (HT.out _ q2) hr zone (x :: l) HL.out x true rfl rfl).mono ?_; rintro e wx ⟨rfl, rfl⟩) | (go_at_call 15; refine (where_K (HT.out _ q2) hr hcap tote m is2 HWV.out).mono ?_; rintro e w3 ⟨rfl, q3⟩; have y3 := q3.cellSome y2 (fun h => h); have hb1 := hb1.kept q3 (fun h => h); have o1 := q3.ownsRow o1 (fun _ _ h => h); have o2 := q3.ownsRow o2 (fun _ _ h => h); have q3 := q2.trans_emp q3; have b13 := q3.cellSome b1 (fun h => h); have b23 := q3.cellSome b2 (fun h => h)) | (go_at_call 16; refine (rwhere_K (HT.out _ q3) tote m is2 HWV.out).mono ?_; rintro e wx ⟨rfl, rfl⟩) | (go_at_call 17; refine (same_any _ _ _ _ _ (x :: l) (x :: l) (Sl.of_own o1) (Sl.of_own o2)).mono ?_; rintro e w4 ⟨rfl, q4⟩; have y4 := q4.cellSome y3 (fun h => h); have hb1 := hb1.kept q4 (fun h => h); have q4 := q3.trans_emp q4; have b24 := q4.cellSome b2 (fun h => h)) | (go_at_call 18; refine (len_K (HT.out _ q4) hr zone (x :: l) HL.out).mono ?_; rintro e w5 ⟨rfl, q5⟩; have y5 := q5.cellSome y4 (fun h => h); have hb1 := hb1.kept q5 (fun h => h); have q5 := q4.trans_emp q5))
          simp only [List.length_cons] at hcs
          generalize l.length + 1 = mm at hll hcs ⊢
          go_loopw [25] (fun i wy => ∃ j : Nat, j ≤ mm ∧ i = .int .i64 j ∧ Kept Emp wc wy ∧ ∃ cs, Blk wy g1 30 cs ∧ mm ≤ cs.size) (fun i _ => mm - (intOf i).toNat)
          case atStart => exact ⟨0, Nat.zero_le _, rfl, q5, _, hb1, hcs⟩
          case round =>
            obtain ⟨j, hj, rfl, qy, cs', hby, hcs'⟩ := hrel
            have f1 := hby.frozen j
            have hcj : ∀ h : j < mm, ∃ vj, wr.cell? ⟨g1, j, none⟩ = some vj := fun h => ⟨cs'[j], (hby.cell j).trans (Array.getElem?_eq_getElem (by omega))⟩
            by_cases hjm : j < mm
            · obtain ⟨vj, hvj⟩ := hcj hjm
              clear hcj
              go_wp2_with fail
              go_roundw
              case rel => exact ⟨j + 1, by omega, by go_num, qy.setCell (fun h => absurd h (Nat.not_lt.2 hg1)) _, _, hby.set_ _ _, by simpa using hcs'⟩
              case measure => simp [intOf]; omega
            · go_wp2_with fail
              go_roundw
              case rel => exact ⟨k + 1, by omega, by omega, by go_num, FIN.out _ qy⟩
              case measure => simp [intOf]; omega
    · have hK : Kept Emp w wr := by obtain ⟨zs, L, h1, _⟩ := hL; exact h1.2.1.mono (fun k hk hn => absurd hk hn)
      have HK := Lib.hid hK
      by_cases h1 : k < n
      · have h2 : decide ((k : Int) < 200) = false := by simp; omega
        go_wp2_with fail
        go_ret
        exact ⟨rfl, HK.out⟩
      · go_wp2_with fail
        go_ret
        exact ⟨rfl, HK.out⟩
end Go.Proofs.Ytjoiecedidmbcaa
