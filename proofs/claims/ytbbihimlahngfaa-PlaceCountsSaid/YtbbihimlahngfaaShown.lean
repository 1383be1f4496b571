/- What must be in any case: the law's 'shown' is true. -/
import Derived.Test.YtbbihimlahngfaaInv
namespace Go.Proofs.Ytbbihimlahngfaa
open Go.RowKit

theorem q25neq (w : World) (a : Addr) : (binOp .eql 25 (.pointer (some a)) (.pointer none)).run Try.prog w = .ok (.bool false) w := by kernel_rfl

section
variable {w0 w : World} {b mb : Nat} {s s' : St}
theorem map_C (h : PI w0 w b mb s) (l a : Nat) (c : Int) (hl : l < 65536) (ha : a < 256) (hc : mapCode s l a = c) (hs : mapS s l a = s') :
    Calls Try.prog 12 #[.pointer (some ⟨b, 0, none⟩), .int .u16 l, .int .u8 a] w fun e w' => e = .returned (.int .i64 c) ∧ PI w0 w' b mb s' := by subst hc; subst hs; exact map_T h l a hl ha
theorem fail_C (h : PI w0 w b mb s) (a : Nat) (t c : Int) (ht : failTo s a = t) (hc : failCode s a = c) (hs : failS s a = s') :
    Calls Try.prog 14 #[.pointer (some ⟨b, 0, none⟩), .int .u8 a] w fun e w' => e = .returned (.tuple #[.int .u8 t, .int .i64 c]) ∧ PI w0 w' b mb s' := by subst hc; subst hs; subst ht; exact fail_T h a
theorem bring_C (h : PI w0 w b mb s) (a : Nat) (c : Int) (hc : bringCode s a = c) (hs : bringS s a = s') :
    Calls Try.prog 16 #[.pointer (some ⟨b, 0, none⟩), .int .u8 a] w fun e w' => e = .returned (.int .i64 c) ∧ PI w0 w' b mb s' := by subst hc; subst hs; exact bring_T h a
theorem at_C (h : PI w0 w b mb s) (l : Nat) (c : Int) (i : Bool) (hl : l < 65536) (hc : (look s.L l).getD 0 = c) (hi : (look s.L l).isSome = i) :
    Calls Try.prog 18 #[.pointer (some ⟨b, 32, none⟩), .int .u16 l] w fun e w' => e = .returned (.tuple #[.int .u8 c, .bool i]) ∧ w = w' := by subst hc; subst hi; exact at_T h l hl
end

def kA : List Int := [0,0,0,0,0,0,0,0,1,1,0,0,0,0,0,0,0,0,0,0,0,0,0,0,0,0,0,0,0,0,0,0]
def kB : List Int := [0,3,0,0,0,0,0,0,1,1,0,0,0,0,0,0,0,0,0,0,0,0,0,0,0,0,0,0,0,0,0,0]
def kC : List Int := [0,2,0,0,0,0,0,0,3,1,0,0,0,0,0,0,0,0,0,0,0,0,0,0,0,0,0,0,0,0,0,0]
def kD : List Int := [0,1,0,0,0,0,0,0,3,1,0,0,0,0,0,0,0,0,0,0,0,0,0,0,0,0,0,0,0,0,0,0]
def kE : List Int := [0,1,0,0,0,0,0,0,3,2,0,0,0,0,0,0,0,0,0,0,0,0,0,0,0,0,0,0,0,0,0,0]

set_option maxRecDepth 100000 in
set_option maxHeartbeats 3000000 in
theorem shown_any (w : World) : Calls Try.prog 9 #[] w fun e w' => e = .returned (.bool true) ∧ Kept Emp w w' := by
  have hq := q25neq
  go_enter Try.func9, Try.ntmps9
  go_wp2_with fail
  refine (new_T _ 5 [9, 0, 8, 9, 40] _ (Sl.new w 5 [.int .u8 9, .int .u8 0, .int .u8 8, .int .u8 9, .int .u8 40] 1 5 rfl (by decide)) (by decide)).mono ?_
  rintro e w1 ⟨b, mb, rfl, T⟩
  rw [show newK [9, 0, 8, 9, 40] = kA by decide +kernel] at T
  go_wp2_with fail
  refine (map_C T 5 1 0 (s' := ⟨kB, [(5, 1)]⟩) (by decide) (by decide) (by decide +kernel) (by decide +kernel)).mono ?_
  rintro e w2 ⟨rfl, T⟩
  go_wp2_with fail
  refine (map_C T 5 2 8 (s' := ⟨kB, [(5, 1)]⟩) (by decide) (by decide) (by decide +kernel) (by decide +kernel)).mono ?_
  rintro e w3 ⟨rfl, T⟩
  go_wp2_with fail
  refine (map_C T 6 9 8 (s' := ⟨kB, [(5, 1)]⟩) (by decide) (by decide) (by decide +kernel) (by decide +kernel)).mono ?_
  rintro e w4 ⟨rfl, T⟩
  go_wp2_with fail
  refine (map_C T 64 2 1 (s' := ⟨kB, [(5, 1)]⟩) (by decide) (by decide) (by decide +kernel) (by decide +kernel)).mono ?_
  rintro e w5 ⟨rfl, T⟩
  go_wp2_with fail
  refine (fail_C T 1 8 0 (s' := ⟨kC, [(5, 8)]⟩) (by decide +kernel) (by decide +kernel) (by decide +kernel)).mono ?_
  rintro e w6 ⟨rfl, T⟩
  go_wp2_with fail
  refine (at_C T 5 8 true (by decide) (by decide +kernel) (by decide +kernel)).mono ?_
  rintro e w7 ⟨rfl, rfl⟩
  go_wp2_with fail
  refine (fail_C T 1 0 7 (s' := ⟨kC, [(5, 8)]⟩) (by decide +kernel) (by decide +kernel) (by decide +kernel)).mono ?_
  rintro e w7 ⟨rfl, T⟩
  go_wp2_with fail
  refine (bring_C T 1 0 (s' := ⟨kD, [(5, 8)]⟩) (by decide +kernel) (by decide +kernel)).mono ?_
  rintro e w8 ⟨rfl, T⟩
  go_wp2_with fail
  refine (fail_C T 9 0 0 (s' := ⟨kE, [(5, 8)]⟩) (by decide +kernel) (by decide +kernel) (by decide +kernel)).mono ?_
  rintro e w9 ⟨rfl, T⟩
  go_wp2_with fail
  refine (fail_C T 30 0 6 (s' := ⟨kE, [(5, 8)]⟩) (by decide +kernel) (by decide +kernel) (by decide +kernel)).mono ?_
  rintro e w10 ⟨rfl, T⟩
  go_wp2_with fail
  have hsp := spares_T T
  rw [show spares kE = [1] by decide +kernel] at hsp
  refine hsp.mono ?_
  rintro e v1 ⟨v, rfl, A, c, rfl, ho, hk, _⟩
  have hcv := sl_convert (Sl.of_own ho)
  rw [show strOfNums [1] = ⟨#[1]⟩ by rfl] at hcv
  simp only [List.length_cons, List.length_nil, Nat.zero_add] at hcv ⊢
  have T := T.on hk
  go_wp2_with fail
  refine (locs_T T).mono ?_
  rintro e v2 ⟨v, rfl, A2, c2, rfl, ho2, hk2, _⟩
  have T := T.on hk2
  go_wp2_with fail
  go_ret
  exact ⟨rfl, ((Kept.refl Emp w).alloc _).trans_emp T.kept⟩
end Go.Proofs.Ytbbihimlahngfaa
