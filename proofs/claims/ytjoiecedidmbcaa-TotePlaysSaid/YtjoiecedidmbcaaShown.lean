/- What must be in any case: the law's 'shown' is true. -/
import Derived.Test.YtjoiecedidmbcaaRefb
namespace Go.Proofs.Ytjoiecedidmbcaa
open Go.RowKit

/-- A Totes that was made since w0, and nothing of w0 has changed. -/
def TR (w0 w : World) (b zb cap : Nat) (zs : List (List Int)) (r : Nat) : Prop :=
  ∃ V, ToteRep w b zb cap V zs r ∧ Kept Emp w0 w ∧ ∀ k, ToteF b zb V zs.length k → w0.heap.size ≤ k

section
variable {w0 w : World} {b zb cap : Nat} {zs zs' : List (List Int)} {r : Nat}
theorem TR.step (h : TR w0 w b zb cap zs r) {w' : World} (hl : zs'.length = zs.length) (hp : ∀ V, ToteRep w b zb cap V zs r → ∃ V', ToteRep w' b zb cap V' zs' r ∧ Step (ToteF b zb V zs.length) (ToteF b zb V' zs.length) w w') : TR w0 w' b zb cap zs' r := by
  obtain ⟨V, h1, h2, h3⟩ := h
  obtain ⟨V', h4, h5⟩ := hp V h1
  refine ⟨V', h4, h2.trans h5.1 (fun j hj hf => by have := h3 j hf; omega), fun k hk => ?_⟩
  rw [hl] at hk
  rcases h5.2 k hk with h | h
  · exact h3 k h
  · exact Nat.le_trans h2.size h
theorem TR.kept (h : TR w0 w b zb cap zs r) {w' : World} (hk : Kept Emp w w') : TR w0 w' b zb cap zs r := by
  obtain ⟨V, h1, h2, h3⟩ := h
  exact ⟨V, h1.kept hk (fun _ _ h => h), h2.trans_emp hk, h3⟩

theorem length_putZs (zs : List (List Int)) (r : Nat) (x z : Int) : (putZs zs r x z).length = zs.length := by unfold putZs; split <;> simp
theorem length_passZs (zs : List (List Int)) (r : Nat) (z : Int) : (passZs zs r z).length = zs.length := by
  unfold passZs
  split
  · split <;> simp
  · rfl
theorem length_skipZs (zs : List (List Int)) (z : Int) : (skipZs zs z).length = zs.length := by unfold skipZs; split <;> simp

theorem put_T (h : TR w0 w b zb cap zs r) (hF : cap ≤ 9223372036854775807) (x z code : Int) (hc : putCode zs r x z = code) (hz : putZs zs r x z = zs') :
    Calls Try.prog 6 #[.pointer (some ⟨b, 0, none⟩), .int .u16 x, .int .i64 z] w fun e w' => e = .returned (.int .i64 code) ∧ TR w0 w' b zb cap zs' r := by
  subst hc; subst hz
  obtain ⟨V, h1, h2, h3⟩ := h
  refine (put_any h1 hF x z).mono fun e w' he => ⟨he.1, ?_⟩
  obtain ⟨V', h4, h5⟩ := he.2
  refine ⟨V', h4, h2.trans h5.1 (fun j hj hf => by have := h3 j hf; omega), fun k hk => ?_⟩
  rw [length_putZs] at hk
  rcases h5.2 k hk with h | h
  · exact h3 k h
  · exact Nat.le_trans h2.size h
theorem skip_T (h : TR w0 w b zb cap zs r) (z code : Int) (hc : skipCode zs z = code) (hz : skipZs zs z = zs') :
    Calls Try.prog 10 #[.pointer (some ⟨b, 0, none⟩), .int .i64 z] w fun e w' => e = .returned (.int .i64 code) ∧ TR w0 w' b zb cap zs' r := by
  subst hc; subst hz
  obtain ⟨V, h1, h2, h3⟩ := h
  refine (skip_any h1 z).mono fun e w' he => ⟨he.1, ?_⟩
  obtain ⟨V', h4, h5⟩ := he.2
  refine ⟨V', h4, h2.trans h5.1 (fun j hj hf => by have := h3 j hf; omega), fun k hk => ?_⟩
  rw [length_skipZs] at hk
  rcases h5.2 k hk with h | h
  · exact h3 k h
  · exact Nat.le_trans h2.size h
theorem pass_T (h : TR w0 w b zb cap zs r) (z val code : Int) (hv : passVal zs r z = val) (hc : passCode zs r z = code) (hz : passZs zs r z = zs') :
    Calls Try.prog 8 #[.pointer (some ⟨b, 0, none⟩), .int .i64 z] w fun e w' => e = .returned (.tuple #[.int .u16 val, .int .i64 code]) ∧ TR w0 w' b zb cap zs' r := by
  subst hc; subst hz; subst hv
  obtain ⟨V, h1, h2, h3⟩ := h
  refine (pass_any h1 z).mono fun e w' he => ⟨he.1, ?_⟩
  obtain ⟨V', h4, h5⟩ := he.2
  refine ⟨V', h4, h2.trans h5.1 (fun j hj hf => by have := h3 j hf; omega), fun k hk => ?_⟩
  rw [length_passZs] at hk
  rcases h5.2 k hk with h | h
  · exact h3 k h
  · exact Nat.le_trans h2.size h
theorem front_T (h : TR w0 w b zb cap zs r) (z val : Int) (is : Bool) (hv : (rowAt zs z).headD 0 = val) (hi : (!(rowAt zs z).isEmpty) = is) :
    Calls Try.prog 14 #[.pointer (some ⟨b, 0, none⟩), .int .i64 z] w fun e w' => e = .returned (.tuple #[.int .u16 val, .bool is]) ∧ TR w0 w' b zb cap zs r := by
  subst hv; subst hi
  obtain ⟨V, h1, h2, h3⟩ := id h
  refine (front_any h1 z).mono fun e w' he => ⟨he.1, ?_⟩
  obtain rfl := he.2
  exact h
theorem where_T (h : TR w0 w b zb cap zs r) (hF : cap ≤ 9223372036854775807) (x n : Int) (is : Bool) (hv : whereV (whereIs zs x) = .tuple #[.int .i64 n, .bool is]) :
    Calls Try.prog 15 #[.pointer (some ⟨b, 0, none⟩), .int .u16 x] w fun e w' => e = .returned (.tuple #[.int .i64 n, .bool is]) ∧ TR w0 w' b zb cap zs r := by
  rw [← hv]
  obtain ⟨V, h1, h2, h3⟩ := id h
  exact (where_any h1 hF x).mono fun e w' he => ⟨he.1, h.kept he.2⟩
theorem len_T (h : TR w0 w b zb cap zs r) (z n : Int) (hn : (((rowAt zs z).length : Nat) : Int) = n) :
    Calls Try.prog 18 #[.pointer (some ⟨b, 0, none⟩), .int .i64 z] w fun e w' => e = .returned (.int .i64 n) ∧ TR w0 w' b zb cap zs r := by
  subst hn
  obtain ⟨V, h1, h2, h3⟩ := id h
  exact (len_any h1 z).mono fun e w' he => ⟨he.1, h.kept he.2⟩
def RowT (w0 w : World) (b zb cap : Nat) (zs : List (List Int)) (r : Nat) (l : List Int) (e : Ending) (w' : World) : Prop :=
  ∃ A c, e = .returned (.slice A l.length c) ∧ w'.ownsRow 0 30 1 (.slice A l.length c) l.length (u16s l) ∧ TR w0 w' b zb cap zs r
theorem row_T (h : TR w0 w b zb cap zs r) (z : Int) (l : List Int) (hl : rowAt zs z = l) :
    Calls Try.prog 12 #[.pointer (some ⟨b, 0, none⟩), .int .i64 z] w (RowT w0 w b zb cap zs r l) := by
  subst hl
  obtain ⟨V, h1, h2, h3⟩ := id h
  refine (row_any h1 z).mono fun e w' he => ?_
  obtain ⟨A, c, h4, h5, h6, _⟩ := he
  exact ⟨A, c, h4, h5, h.kept h6⟩
end

theorem q24neq (w : World) (a : Addr) : (binOp .eql 24 (.pointer (some a)) (.pointer none)).run Try.prog w = .ok (.bool false) w := by kernel_rfl

set_option maxHeartbeats 3000000 in
theorem shown_any (w : World) : Calls Try.prog 4 #[] w fun e w' => e = .returned (.bool true) ∧ Kept Emp w w' := by
  have hq := q24neq
  go_enter Try.func4, Try.ntmps4
  go_wp2_with fail
  refine (new_any 2 2 _).mono ?_
  rintro e w1 ⟨b, zb, V, rfl, h1, hk, hF⟩
  have T : TR w w1 b zb 2 [[], []] 2 := ⟨V, h1, hk, hF⟩
  clear h1 hk hF
  go_wp2_with fail
  refine (put_T T (by decide) 7 0 0 (zs' := [[7], []]) (by decide +kernel) (by decide +kernel)).mono ?_
  rintro e w2 ⟨rfl, T⟩
  go_wp2_with fail
  refine (put_T T (by decide) 7 1 8 (zs' := [[7], []]) (by decide +kernel) (by decide +kernel)).mono ?_
  rintro e w3 ⟨rfl, T⟩
  go_wp2_with fail
  refine (put_T T (by decide) 8 0 0 (zs' := [[7, 8], []]) (by decide +kernel) (by decide +kernel)).mono ?_
  rintro e w4 ⟨rfl, T⟩
  go_wp2_with fail
  refine (put_T T (by decide) 9 0 5 (zs' := [[7, 8], []]) (by decide +kernel) (by decide +kernel)).mono ?_
  rintro e w5 ⟨rfl, T⟩
  go_wp2_with fail
  refine (put_T T (by decide) 9 2 1 (zs' := [[7, 8], []]) (by decide +kernel) (by decide +kernel)).mono ?_
  rintro e w6 ⟨rfl, T⟩
  go_wp2_with fail
  refine (skip_T T 0 0 (zs' := [[8, 7], []]) (by decide +kernel) (by decide +kernel)).mono ?_
  rintro e w7 ⟨rfl, T⟩
  go_wp2_with fail
  refine (front_T T 0 8 true (by decide +kernel) (by decide +kernel)).mono ?_
  rintro e w8 ⟨rfl, T⟩
  go_wp2_with fail
  refine (pass_T T 0 8 0 (zs' := [[7], [8]]) (by decide +kernel) (by decide +kernel) (by decide +kernel)).mono ?_
  rintro e w9 ⟨rfl, T⟩
  go_wp2_with fail
  refine (where_T T (by decide) 8 1 true (by rw [show whereIs [[7], [8]] 8 = some 1 by decide +kernel]; rfl)).mono ?_
  rintro e w10 ⟨rfl, T⟩
  go_wp2_with fail
  refine (pass_T T 1 8 0 (zs' := [[7], []]) (by decide +kernel) (by decide +kernel) (by decide +kernel)).mono ?_
  rintro e w11 ⟨rfl, T⟩
  go_wp2_with fail
  refine (pass_T T 1 0 6 (zs' := [[7], []]) (by decide +kernel) (by decide +kernel) (by decide +kernel)).mono ?_
  rintro e w12 ⟨rfl, T⟩
  go_wp2_with fail
  refine (where_T T (by decide) 8 0 false (by rw [show whereIs [[7], []] 8 = none by decide +kernel]; rfl)).mono ?_
  rintro e w13 ⟨rfl, T⟩
  go_wp2_with fail
  refine (len_T T 0 1 (by decide +kernel)).mono ?_
  rintro e w14 ⟨rfl, T⟩
  go_wp2_with fail
  refine (row_T T 0 [7] (by decide +kernel)).mono ?_
  rintro e w15 ⟨A, c, rfl, ho, T⟩
  go_wp2_with fail
  refine (same_any _ _ _ _ _ [7] [7] (Sl.of_own (ho.alloc _)) (Sl.new w15 30 [.int .u16 7] 1 1 rfl (by decide))).mono ?_
  rintro e w16 ⟨rfl, hk⟩
  go_wp2_with fail
  go_ret
  exact ⟨rfl, (((T.kept ((Kept.refl _ _).alloc _)).kept hk).choose_spec.2.1)⟩
end Go.Proofs.Ytjoiecedidmbcaa
