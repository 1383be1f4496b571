/- Walks over package tote: Pass, Skip, Front, Row, Len. -/
import Derived.Test.YtjoiecedidmbcaaTote
namespace Go.Proofs.Ytjoiecedidmbcaa
open Go.RowKit

section
variable {w : World} {b zb cap : Nat} {V : Nat → Value} {zs : List (List Int)} {r : Nat}
theorem full_rep (h : ToteRep w b zb cap V zs r) {z : Nat} (hz : z < zs.length) (w1 : World) (hk : Kept Emp w w1) :
    Calls Try.prog 21 #[.pointer (some ⟨zb, z * 2, none⟩)] w1 fun e w' => e = .returned (.bool (decide (r ≤ (row zs z).length))) ∧ ∃ q, w' = w1.drewN q := by
  obtain ⟨cs, hb, hcs⟩ := h.zones
  obtain ⟨a1, a2⟩ := hcs z hz
  obtain ⟨A, c, hv, _, _⟩ := own_slice (h.own z hz)
  have hb1 := hb.kept hk (fun h => h)
  refine (full_any zb (z * 2) A (row zs z).length c r w1 ((hb1.cell _).trans (a1.trans (congrArg some hv))) ((hb1.cell _).trans a2)).mono ?_
  rintro e w' ⟨rfl, hq⟩
  exact ⟨ret_bool (by simp), hq⟩
theorem pop_rep (h : ToteRep w b zb cap V zs r) {z : Nat} (hz : z < zs.length) {x : Int} {L : List Int} (hx : row zs z = x :: L) :
    Calls Try.prog 27 #[.pointer (some ⟨zb, z * 2, none⟩)] w fun e w' => e = .returned (.int .u16 x) ∧ ∃ V', ToteRep w' b zb cap V' (zs.set z L) r ∧ Step (ToteF b zb V zs.length) (ToteF b zb V' zs.length) w w' := by
  obtain ⟨cs, hb, hcs⟩ := h.zones
  have ho := h.own z hz
  have hl := h.len z hz
  rw [hx] at ho hl
  simp only [List.length_cons] at hl ho
  have hr := h.room
  refine (pop_any zb (z * 2) (V z) L.length L x cs w hb (hcs z hz).1 ho (by omega)).mono ?_
  rintro e w' ⟨rfl, v', b1, b2, b3, b4⟩
  have b3' : Kept (fun k => k = zb ∨ (V z).ownBlock = some k) w w' := b3.mono (fun _ _ h => .inl h)
  exact ⟨rfl, _, h.set_ hz hb hcs b1 b2 b3' (fun k hk => .inr (b4 k hk)) (by omega), tote_step hz b3' (fun k hk => .inr (b4 k hk))⟩
theorem push_rep (h : ToteRep w b zb cap V zs r) {z : Nat} (hz : z < zs.length) (x : Int) (hl : (row zs z).length < r) :
    Calls Try.prog 22 #[.pointer (some ⟨zb, z * 2, none⟩), .int .u16 x] w fun e w' => e = .returned (.tuple #[]) ∧ ∃ V', ToteRep w' b zb cap V' (zs.set z (row zs z ++ [x])) r ∧ Step (ToteF b zb V zs.length) (ToteF b zb V' zs.length) w w' := by
  obtain ⟨cs, hb, hcs⟩ := h.zones
  have hr := h.room
  refine (push_any zb (z * 2) (V z) (row zs z).length (row zs z) x cs w hb (hcs z hz).1 (h.own z hz) (by omega)).mono ?_
  rintro e w' ⟨rfl, v', b1, b2, b3, b4⟩
  exact ⟨rfl, _, h.set_ hz hb hcs b1 (by simpa using b2) b3 b4 (by simp; omega), tote_step hz b3 b4⟩
end

def passCode (zs : List (List Int)) (r : Nat) (z : Int) : Int :=
  if inz zs z = false then 1 else if row zs z.toNat = [] then 6 else if z.toNat + 1 < zs.length ∧ r ≤ (row zs (z.toNat + 1)).length then 5 else 0
def passVal (zs : List (List Int)) (r : Nat) (z : Int) : Int := if passCode zs r z = 0 then (row zs z.toNat).headD 0 else 0
def passZs (zs : List (List Int)) (r : Nat) (z : Int) : List (List Int) :=
  if passCode zs r z = 0 then
    (if z.toNat + 1 < zs.length then (zs.set z.toNat (row zs z.toNat).tail).set (z.toNat + 1) (row zs (z.toNat + 1) ++ [(row zs z.toNat).headD 0]) else zs.set z.toNat (row zs z.toNat).tail)
  else zs

theorem q53neq (w : World) (a : Addr) : (binOp .neq 53 (.pointer (some a)) (.pointer none)).run Try.prog w = .ok (.bool true) w := by kernel_rfl
theorem q53neqn (w : World) : (binOp .neq 53 (.pointer none) (.pointer none)).run Try.prog w = .ok (.bool false) w := by kernel_rfl

set_option maxHeartbeats 1600000 in
theorem pass_any {w : World} {b zb cap : Nat} {V : Nat → Value} {zs : List (List Int)} {r : Nat} (h : ToteRep w b zb cap V zs r) (z : Int) :
    Calls Try.prog 8 #[.pointer (some ⟨b, 0, none⟩), .int .i64 z] w fun e w' => e = .returned (.tuple #[.int .u16 (passVal zs r z), .int .i64 (passCode zs r z)]) ∧
      ∃ V', ToteRep w' b zb cap V' (passZs zs r z) r ∧ Step (ToteF b zb V zs.length) (ToteF b zb V' zs.length) w w' := by
  have keep : ∀ w', Kept Emp w w' → passCode zs r z ≠ 0 → ∃ V', ToteRep w' b zb cap V' (passZs zs r z) r ∧ Step (ToteF b zb V zs.length) (ToteF b zb V' zs.length) w w' := fun w' hk hne => by
    refine ⟨V, ?_, Step.of_kept hk⟩
    rw [passZs, if_neg hne]
    exact h.kept hk (fun _ _ h => h)
  have val : passCode zs r z ≠ 0 → passVal zs r z = 0 := fun h => by rw [passVal, if_neg h]
  by_cases hz : inz zs z = true
  · obtain ⟨h0, h1⟩ := inz_iff.1 hz
    obtain ⟨n, rfl⟩ := Int.eq_ofNat_of_zero_le h0
    have hn : n < zs.length := by omega
    have h8 := h.few
    cases hrow : row zs n with
    | nil =>
      have hcode : passCode zs r n = 6 := by simp [passCode, hz, hrow]
      rw [val (by rw [hcode]; decide), hcode]
      rw [hcode] at keep
      have HK := Lib.hid keep
      have hf := first_none h n hn hrow
      clear keep val hcode hz hrow
      go_enter Try.func8, Try.ntmps8
      go_wp2_with (first | (go_at_call 26; refine hf.mono ?_; rintro e w' ⟨rfl, rfl⟩))
      go_ret2
      exact ⟨rfl, HK.out _ (Kept.refl _ _) (by decide)⟩
    | cons x L =>
      have hf := first_some h n hn (by rw [hrow]; exact List.cons_ne_nil _ _)
      by_cases hn1 : n + 1 < zs.length
      · have hzy := zone_yes b zb zs.length cap (n + 1) w h.c0 hn1
        rw [show (((n + 1 : Nat) : Int)) = (n : Int) + 1 by omega] at hzy
        have hful := fun w1 (hk : Kept Emp w w1) => full_rep h hn1 w1 hk
        have hnp := q53neq
        by_cases hfl : r ≤ (row zs (n + 1)).length
        · have hcode : passCode zs r n = 5 := by simp [passCode, hz, hrow, hn1, hfl]
          rw [val (by rw [hcode]; decide), hcode]
          rw [hcode] at keep
          have HK := Lib.hid keep
          have hd : decide (r ≤ (row zs (n + 1)).length) = true := by simpa using hfl
          rw [hd] at hful
          clear keep val hcode hz hrow hd
          go_enter Try.func8, Try.ntmps8
          go_wp2_with (first | (go_at_call 26; refine hf.mono ?_; rintro e w' ⟨rfl, rfl⟩) | (go_at_call 20; refine hzy.mono ?_; rintro e w' ⟨rfl, rfl⟩) | (go_at_call 21; refine (hful _ (Kept.refl _ _)).mono ?_; rintro e w' ⟨rfl, q, rfl⟩))
          go_ret2
          exact ⟨rfl, HK.out _ ((Kept.refl _ _).drewN _) (by decide)⟩
        · have hcode : passCode zs r n = 0 := by simp [passCode, hz, hrow, hn1, hfl]
          have hval : passVal zs r n = x := by simp [passVal, hcode, hrow]
          have hps : passZs zs r n = (zs.set n L).set (n + 1) (row (zs.set n L) (n + 1) ++ [x]) := by simp [passZs, hcode, hn1, hrow, row_set_ne]
          rw [hval, hcode, hps]
          have hd : decide (r ≤ (row zs (n + 1)).length) = false := by simpa using hfl
          rw [hd] at hful
          have hpop := fun w1 (hk : Kept Emp w w1) => pop_rep (h.kept hk (fun _ _ h => h)) hn hrow
          have hl1 : (row (zs.set n L) (n + 1)).length < r := by rw [row_set_ne (by omega)]; omega
          clear keep val hcode hz hrow hd hval hps
          go_enter Try.func8, Try.ntmps8
          go_wp2_with (first | (go_at_call 26; refine hf.mono ?_; rintro e w' ⟨rfl, rfl⟩) | (go_at_call 20; refine hzy.mono ?_; rintro e w' ⟨rfl, rfl⟩) | (go_at_call 21; refine (hful _ (Kept.refl _ _)).mono ?_; rintro e w' ⟨rfl, q, rfl⟩) | (go_at_call 27; refine (hpop _ ((Kept.refl _ _).drewN q)).mono ?_; rintro e w1 ⟨rfl, V1, h1, st1⟩) | (go_at_call 22; refine (push_rep h1 (by rw [List.length_set]; exact hn1) x hl1).mono ?_; rintro e w2 ⟨rfl, V2, h2, st2⟩))
          go_ret2
          refine ⟨rfl, V2, h2, ?_⟩
          rw [List.length_set] at st2
          exact ((Step.of_kept ((Kept.refl _ _).drewN q)).trans st1).trans st2
      · have hcode : passCode zs r n = 0 := by simp [passCode, hz, hrow, hn1]
        have hval : passVal zs r n = x := by simp [passVal, hcode, hrow]
        have hps : passZs zs r n = zs.set n L := by simp [passZs, hcode, hn1, hrow]
        rw [hval, hcode, hps]
        have hzy := zone_no b zb zs.length cap ((n : Int) + 1) w h.c0 (by omega)
        have hpop := pop_rep h hn hrow
        have hnp := q53neqn
        clear keep val hcode hz hrow hval hps
        go_enter Try.func8, Try.ntmps8
        go_wp2_with (first | (go_at_call 26; refine hf.mono ?_; rintro e w' ⟨rfl, rfl⟩) | (go_at_call 20; refine hzy.mono ?_; rintro e w' ⟨rfl, rfl⟩) | (go_at_call 27; refine hpop.mono ?_; rintro e w1 ⟨rfl, V1, h1, st1⟩))
        go_ret2
        exact ⟨rfl, V1, h1, st1⟩
  · simp only [Bool.not_eq_true] at hz
    have hcode : passCode zs r z = 1 := by simp [passCode, hz]
    rw [val (by rw [hcode]; decide), hcode]
    rw [hcode] at keep
    have HK := Lib.hid keep
    have hf := first_arg h z hz
    clear keep val hcode hz
    go_enter Try.func8, Try.ntmps8
    go_wp2_with (first | (go_at_call 26; refine hf.mono ?_; rintro e w' ⟨rfl, rfl⟩))
    go_ret2
    exact ⟨rfl, HK.out _ (Kept.refl _ _) (by decide)⟩

def skipCode (zs : List (List Int)) (z : Int) : Int := if inz zs z = false then 1 else if row zs z.toNat = [] then 6 else 0
def skipZs (zs : List (List Int)) (z : Int) : List (List Int) := if skipCode zs z = 0 then zs.set z.toNat ((row zs z.toNat).tail ++ [(row zs z.toNat).headD 0]) else zs

set_option maxHeartbeats 1600000 in
theorem skip_any {w : World} {b zb cap : Nat} {V : Nat → Value} {zs : List (List Int)} {r : Nat} (h : ToteRep w b zb cap V zs r) (z : Int) :
    Calls Try.prog 10 #[.pointer (some ⟨b, 0, none⟩), .int .i64 z] w fun e w' => e = .returned (.int .i64 (skipCode zs z)) ∧
      ∃ V', ToteRep w' b zb cap V' (skipZs zs z) r ∧ Step (ToteF b zb V zs.length) (ToteF b zb V' zs.length) w w' := by
  by_cases hz : inz zs z = true
  · obtain ⟨h0, h1⟩ := inz_iff.1 hz
    obtain ⟨n, rfl⟩ := Int.eq_ofNat_of_zero_le h0
    have hn : n < zs.length := by omega
    cases hrow : row zs n with
    | nil =>
      have hcode : skipCode zs n = 6 := by simp [skipCode, hz, hrow]
      have hps : skipZs zs n = zs := by simp [skipZs, hcode]
      rw [hcode, hps]
      have hf := first_none h n hn hrow
      clear hcode hz hrow hps
      go_enter Try.func10, Try.ntmps10
      go_wp2_with (first | (go_at_call 26; refine hf.mono ?_; rintro e w' ⟨rfl, rfl⟩))
      go_ret
      exact ⟨rfl, V, h, Step.refl _ _⟩
    | cons x L =>
      have hcode : skipCode zs n = 0 := by simp [skipCode, hz, hrow]
      have hps : skipZs zs n = zs.set n (L ++ [x]) := by simp [skipZs, hcode, hrow]
      rw [hcode, hps]
      have hf := first_some h n hn (by rw [hrow]; exact List.cons_ne_nil _ _)
      have hpop := pop_rep h hn hrow
      have hl := h.len n hn
      rw [hrow] at hl
      simp only [List.length_cons] at hl
      have hl1 : (row (zs.set n L) n).length < r := by rw [row_set_same hn]; omega
      have hss : (zs.set n L).set n (row (zs.set n L) n ++ [x]) = zs.set n (L ++ [x]) := by rw [row_set_same hn, List.set_set]
      have HSS := Lib.hid hss
      clear hcode hz hrow hps hss
      go_enter Try.func10, Try.ntmps10
      go_wp2_with (first | (go_at_call 26; refine hf.mono ?_; rintro e w' ⟨rfl, rfl⟩) | (go_at_call 27; refine hpop.mono ?_; rintro e w1 ⟨rfl, V1, h1, st1⟩) | (go_at_call 22; refine (push_rep h1 (by rw [List.length_set]; exact hn) x hl1).mono ?_; rintro e w2 ⟨rfl, V2, h2, st2⟩))
      go_ret
      rw [HSS.out] at h2
      rw [List.length_set] at st2
      exact ⟨rfl, V2, h2, st1.trans st2⟩
  · simp only [Bool.not_eq_true] at hz
    have hcode : skipCode zs z = 1 := by simp [skipCode, hz]
    have hps : skipZs zs z = zs := by simp [skipZs, hcode]
    rw [hcode, hps]
    have hf := first_arg h z hz
    clear hcode hz hps
    go_enter Try.func10, Try.ntmps10
    go_wp2_with (first | (go_at_call 26; refine hf.mono ?_; rintro e w' ⟨rfl, rfl⟩))
    go_ret
    exact ⟨rfl, V, h, Step.refl _ _⟩

/-- What a zone holds; none, if there is no such zone. -/
def rowAt (zs : List (List Int)) (z : Int) : List Int := if inz zs z then row zs z.toNat else []

set_option maxHeartbeats 800000 in
theorem front_any {w : World} {b zb cap : Nat} {V : Nat → Value} {zs : List (List Int)} {r : Nat} (h : ToteRep w b zb cap V zs r) (z : Int) :
    Calls Try.prog 14 #[.pointer (some ⟨b, 0, none⟩), .int .i64 z] w fun e w' => e = .returned (.tuple #[.int .u16 ((rowAt zs z).headD 0), .bool (!(rowAt zs z).isEmpty)]) ∧ w = w' := by
  by_cases hz : inz zs z = true
  · obtain ⟨h0, h1⟩ := inz_iff.1 hz
    obtain ⟨n, rfl⟩ := Int.eq_ofNat_of_zero_le h0
    have hn : n < zs.length := by omega
    have hra : rowAt zs n = row zs n := by simp [rowAt, hz]
    rw [hra]
    cases hrow : row zs n with
    | nil =>
      have hf := first_none h n hn hrow
      clear hz hrow hra
      go_enter Try.func14, Try.ntmps14
      go_wp2_with (first | (go_at_call 26; refine hf.mono ?_; rintro e w' ⟨rfl, rfl⟩))
      go_ret2
      exact ⟨rfl, rfl⟩
    | cons x L =>
      have hf := first_some h n hn (by rw [hrow]; exact List.cons_ne_nil _ _)
      obtain ⟨cs, hb, hcs⟩ := h.zones
      have ho := h.own n hn
      rw [hrow] at ho
      simp only [List.length_cons] at ho
      obtain ⟨g, c, hv, _, _, _, hcell, _⟩ := own_some ho
      have c1 : w.cell? ⟨zb, n * 2, none⟩ = some (.slice (some ⟨g, 0, none⟩) (L.length + 1) c) := (hb.cell _).trans ((hcs n hn).1.trans (congrArg some hv))
      have c2 := hcell 0 (.int .u16 x) (by simp)
      clear hz hrow hra hcell hv
      go_enter Try.func14, Try.ntmps14
      go_wp2_with (first | (go_at_call 26; refine hf.mono ?_; rintro e w' ⟨rfl, rfl⟩))
      go_ret2
      exact ⟨rfl, rfl⟩
  · simp only [Bool.not_eq_true] at hz
    have hra : rowAt zs z = [] := by simp [rowAt, hz]
    rw [hra]
    have hf := first_arg h z hz
    clear hz hra
    go_enter Try.func14, Try.ntmps14
    go_wp2_with (first | (go_at_call 26; refine hf.mono ?_; rintro e w' ⟨rfl, rfl⟩))
    go_ret2
    exact ⟨rfl, rfl⟩

theorem q53eq (w : World) (a : Addr) : (binOp .eql 53 (.pointer (some a)) (.pointer none)).run Try.prog w = .ok (.bool false) w := by kernel_rfl

set_option maxHeartbeats 800000 in
theorem row_any {w : World} {b zb cap : Nat} {V : Nat → Value} {zs : List (List Int)} {r : Nat} (h : ToteRep w b zb cap V zs r) (z : Int) :
    Calls Try.prog 12 #[.pointer (some ⟨b, 0, none⟩), .int .i64 z] w fun e w' => ∃ A c, e = .returned (.slice A (rowAt zs z).length c) ∧ w'.ownsRow 0 30 1 (.slice A (rowAt zs z).length c) (rowAt zs z).length (u16s (rowAt zs z)) ∧
      Kept Emp w w' ∧ ∀ k, (Value.slice A (rowAt zs z).length c).ownBlock = some k → w.heap.size ≤ k := by
  by_cases hz : inz zs z = true
  · obtain ⟨h0, h1⟩ := inz_iff.1 hz
    obtain ⟨n, rfl⟩ := Int.eq_ofNat_of_zero_le h0
    have hn : n < zs.length := by omega
    have hra : rowAt zs n = row zs n := by simp [rowAt, hz]
    rw [hra]
    have hzy := zone_yes b zb zs.length cap n w h.c0 hn
    obtain ⟨cs, hb, hcs⟩ := h.zones
    have ho := h.own n hn
    have hl := h.len n hn
    have hr := h.room
    obtain ⟨A, c, hv, _, _⟩ := own_slice ho
    have c1 : w.cell? ⟨zb, n * 2, none⟩ = some (.slice A (row zs n).length c) := (hb.cell _).trans ((hcs n hn).1.trans (congrArg some hv))
    rw [hv] at ho
    have hcl := clone_any _ _ _ _ (Sl.of_own ho) (by omega)
    generalize (row zs n).length = m at c1 hcl hl ⊢
    generalize row zs n = L at *
    clear hz hra hv ho
    go_enter Try.func12, Try.ntmps12
    go_wp2_with (first | (go_at_call 20; refine hzy.mono ?_; rintro e w' ⟨rfl, rfl⟩) | (go_at_call 28; refine hcl.mono ?_; rintro e w1 ⟨A, c, rfl, h1, h2, h3⟩))
    go_ret
    exact ⟨A, c, rfl, h1, h2, h3⟩
  · simp only [Bool.not_eq_true] at hz
    have hra : rowAt zs z = [] := by simp [rowAt, hz]
    rw [hra]
    have hf := zone_no b zb zs.length cap z w h.c0 (inz_no.1 hz)
    clear hz hra
    go_enter Try.func12, Try.ntmps12
    go_wp2_with (first | (go_at_call 20; refine hf.mono ?_; rintro e w' ⟨rfl, rfl⟩))
    go_ret
    exact ⟨none, 0, rfl, World.ownsRow_nil _ _ _ _, Kept.refl _ _, fun k hk => by cases hk⟩

theorem len_any {w : World} {b zb cap : Nat} {V : Nat → Value} {zs : List (List Int)} {r : Nat} (h : ToteRep w b zb cap V zs r) (z : Int) :
    Calls Try.prog 18 #[.pointer (some ⟨b, 0, none⟩), .int .i64 z] w fun e w' => e = .returned (.int .i64 ((rowAt zs z).length : Nat)) ∧ Kept Emp w w' := by
  have hr := row_any h z
  go_enter Try.func18, Try.ntmps18
  go_wp2_with (first | (go_at_call 12; refine hr.mono ?_; rintro e w1 ⟨A, c, rfl, h1, h2, h3⟩))
  go_ret
  exact ⟨rfl, h2⟩
end Go.Proofs.Ytjoiecedidmbcaa
