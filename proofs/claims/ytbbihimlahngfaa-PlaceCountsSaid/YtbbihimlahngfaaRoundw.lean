/- The walk over PlaceRound. -/
import Derived.Test.YtbbihimlahngfaaRound
import Derived.Test.YtbbihimlahngfaaArgs
namespace Go.Proofs.Ytbbihimlahngfaa
open Go.RowKit

theorem sl_take {w : World} {A : Option Addr} {n c : Nat} {L : List Int} (h : Sl w 1 (.slice A n c) n (u8s L)) (q : Int) (hq : 0 ≤ q) :
    ∃ k : Nat, (min (n : Int) q).toNat = k ∧ k ≤ q.toNat ∧ Sl w 1 (.slice A k c) k (u8s (L.take k)) := by
  refine ⟨_, rfl, by omega, ?_⟩
  have := h.take (k := (min (n : Int) q).toNat) (by omega)
  simpa [List.map_take] using this

theorem at_one {w0 w : World} {b mb : Nat} {s : St} {a : Nat} (T : PI w0 w b mb s) (h : One s a) :
    Calls Try.prog 18 #[.pointer (some ⟨b, 32, none⟩), .int .u16 9] w fun e w' => e = .returned (.tuple #[.int .u8 a, .bool true]) ∧ w = w' := by
  have := at_T T 9 (by omega)
  rw [show look s.L ((9 : Nat) : Int) = some (a : Int) from h.look] at this
  exact this
theorem PI.lt {w0 w : World} {b mb : Nat} {s : St} (T : PI w0 w b mb s) : b < w.heap.size ∧ mb < w.heap.size := ⟨T.rep.head.lt, T.rep.map.lt⟩

/-- A round of the second loop. -/
def Goes (w wr : World) (b mb : Nat) : Prop := ∃ s a, PI w wr b mb s ∧ One s a
theorem bools_get {B : List Bool} {j m : Nat} (h : (Bools B).length = m * 1) (hj : j < m) : ∃ x, (Bools B)[j]? = some (.bool x) := by
  have : j < B.length := by simpa [Bools] using (show j < (Bools B).length by omega)
  exact ⟨B[j], by simp [Bools, this]⟩

/-- While no address has been found. -/
def Find (w wr : World) (b mb : Nat) (K : List Int) (m : Nat) (f : Value) : Prop :=
  (f = .int .u8 0 ∧ PI w wr b mb ⟨newK K, []⟩ ∧ ∀ i : Nat, 1 ≤ i → i < m → kd (newK K) i = 1) ∨ (∃ a : Nat, f = .int .u8 a ∧ ∃ s, PI w wr b mb s ∧ One s a)

set_option maxHeartbeats 4000000 in
set_option maxRecDepth 100000 in
theorem round_any (w : World) (v vb : Value) (n m : Nat) (L : List Int) (B : List Bool) (hs : Sl w 1 v n (u8s L)) (hL : ∀ a ∈ L, 0 ≤ a) (hb : Sl w 1 vb m (Bools B)) :
    Calls Try.prog 7 #[v, vb] w fun e w' => e = .returned (.bool true) ∧ Kept Emp w w' := by
  obtain ⟨hl, A, c, rfl, hnc, hcm, hA, h0⟩ := id hs
  obtain ⟨hlb, A2, c2, rfl, hnc2, hcm2, hA2, h02⟩ := id hb
  have hq := q25neq
  unfold maxLen at hcm hcm2
  go_enter Try.func7, Try.ntmps7
  go_wp2_with fail
  refine (shown_any _).mono ?_
  rintro e w1 ⟨rfl, hk1⟩
  go_wp2_with fail
  obtain ⟨k, hk, hk30, hsk⟩ := sl_take (hs.kept hk1 (fun _ _ h => h)) 30 (by omega)
  rw [hk]
  refine (new_T _ k (L.take k) _ hsk (fun a ha => hL a (List.mem_of_mem_take ha))).mono ?_
  rintro e w2 ⟨b, mb, rfl, T⟩
  generalize L.take k = K at T hsk
  go_wp2_with fail
  have hF : Find w w2 b mb K 1 (.int .u8 0) := .inl ⟨rfl, ⟨T.rep, T.ok, hk1.trans_emp T.kept, Nat.le_trans hk1.size T.nb, Nat.le_trans hk1.size T.nm⟩, fun i h1 h2 => by omega⟩
  clear T hsk hk hk1 hL hs hl h0 hA hnc hcm
  go_loopw [7, 8] (fun f i wr => ∃ m : Nat, 1 ≤ m ∧ m ≤ 32 ∧ i = .int .u8 m ∧ Find w wr b mb K m f) (fun _ i _ => 32 - (intOf i).toNat)
  case atStart => exact ⟨1, by omega, by omega, rfl, hF⟩
  case round =>
    obtain ⟨q, hq1, hq32, rfl, hFq⟩ := hrel
    clear hF
    rcases hFq with ⟨rfl, T, hno⟩ | ⟨a, rfl, s, T, h1⟩
    · by_cases hq32' : q < 32
      · rcases round_first K hq1 hq32' with ⟨e0, e1, e2⟩ | ⟨e0, e1, e2⟩
        · have hm := map_T T 9 q (by omega) (by omega)
          rw [show ((9 : Nat) : Int) = 9 from rfl, e1] at hm
          have HE := Lib.hid e2
          have HM := Lib.hid hm
          clear e0 e1 e2 hm hno T
          go_wp2_with (first | (go_at_call 12; refine (HM.out).mono ?_; rintro e w3 ⟨rfl, T⟩))
          go_roundw
          case rel => exact ⟨q + 1, by omega, by omega, by go_num, .inr ⟨q, rfl, _, T, T.ok, HE.out⟩⟩
          case measure => simp [intOf]; omega
        · have hm := map_T T 9 q (by omega) (by omega)
          rw [show ((9 : Nat) : Int) = 9 from rfl, e1, e2] at hm
          have HE := Lib.hid (⟨e0, hno⟩ : kd (newK K) q = 1 ∧ ∀ i : Nat, 1 ≤ i → i < q → kd (newK K) i = 1)
          have HM := Lib.hid hm
          clear e0 e1 e2 hm hno T
          go_wp2_with (first | (go_at_call 12; refine (HM.out).mono ?_; rintro e w3 ⟨rfl, T⟩))
          go_roundw
          case rel => exact ⟨q + 1, by omega, by omega, by go_num, .inl ⟨rfl, T, fun i h1 h2 => by
            rcases Nat.lt_succ_iff_lt_or_eq.1 h2 with h | h
            · exact HE.out.2 i h1 h
            · subst h; exact HE.out.1⟩⟩
          case measure => simp [intOf]; omega
      · obtain rfl : q = 32 := by omega
        have hsp := spares_T T
        have hlen := all_spare (k := newK K) (fun i h1 h2 => hno i h1 h2) T.ok.zero
        have HS := Lib.hid hsp
        have HL := Lib.hid hlen
        clear hsp hlen hno
        go_wp2_with (first | (go_at_call 23; refine (HS.out).mono ?_; rintro e w3 ⟨v, rfl, A3, c3, rfl, _, hk3, _⟩; rw [HL.out]))
        go_ret
        exact ⟨rfl, T.kept.trans_emp hk3⟩
    · have ha := h1.rng
      have ha0 : ((a : Int) == 0) = false := by simp; omega
      have HO := Lib.hid h1
      clear h1
      by_cases hq32' : q < 32
      all_goals
        go_wp2_with fail
        go_loopw [9] (fun i wy => ∃ j : Nat, j ≤ m ∧ j ≤ 40 ∧ i = .int .i64 j ∧ Goes w wy b mb) (fun i _ => m - (intOf i).toNat)
        case atStart => exact ⟨0, by omega, by omega, rfl, s, a, T, HO.out⟩
        case round =>
          clear T ha ha0 HO s
          obtain ⟨j, hjm, hj40, rfl, s, a1, T, h1⟩ := hrel
          by_cases hj : j < m ∧ j < 40
          · obtain ⟨hj1, hj2⟩ := hj
            obtain ⟨x, hx⟩ := bools_get hlb hj1
            obtain ⟨g, o, rfl, hg, hc⟩ := h02 (by omega)
            have cx := hc j _ hx
            have HC := Lib.hid cx
            clear cx hc h02 hx
            have hat := at_one T h1
            have hsp := spares_T T
            cases hs0 : spares s.k with
            | nil =>
              obtain ⟨f1, f2, f3⟩ := h1.full hs0
              have hf : ∀ w', Kept Emp wr w' → Calls Try.prog 14 #[.pointer (some ⟨b, 0, none⟩), .int .u8 a1] w' fun e w'' => e = .returned (.tuple #[.int .u8 0, .int .i64 5]) ∧ PI w w'' b mb s := fun w' hk => by
                have := fail_T (T.on hk) a1
                rw [f1, f2, f3] at this
                exact this
              rw [hs0] at hsp
              have HA := Lib.hid hat
              have HS := Lib.hid hsp
              have HF := Lib.hid hf
              have H1 := Lib.hid h1
              clear hat hsp hf h1 f1 f2 f3 hs0 T
              go_wp2_with fail
              refine (HA.out).mono ?_
              rintro e wz ⟨rfl, rfl⟩
              go_wp2_with fail
              refine (HS.out).mono ?_
              rintro e w4 ⟨v4, rfl, A4, c4, rfl, _, hk4, _⟩
              simp only [List.length_nil]
              go_wp2_with fail
              refine (HF.out _ hk4).mono ?_
              rintro e w5 ⟨rfl, T⟩
              go_wp2_with fail
              refine (at_one T H1.out).mono ?_
              rintro e wz ⟨rfl, rfl⟩
              go_wp2_with fail
              go_roundw
              case rel => exact ⟨j + 1, by omega, by omega, by go_num, s, a1, T, H1.out⟩
              case measure => simp [intOf]; omega
            | cons t R =>
              obtain ⟨p, rfl, f1, f2, o1, f4, o2⟩ := h1.move hs0
              have hf : ∀ w', Kept Emp wr w' → Calls Try.prog 14 #[.pointer (some ⟨b, 0, none⟩), .int .u8 a1] w' fun e w'' => e = .returned (.tuple #[.int .u8 p, .int .i64 0]) ∧ PI w w'' b mb (failS s a1) ∧ Kept (PF b mb) w' w'' := fun w' hk => by
                have := fail_K (T.on hk) a1
                rw [f1, f2] at this
                exact this
              have hbr : ∀ w', PI w w' b mb (failS s a1) → Calls Try.prog 16 #[.pointer (some ⟨b, 0, none⟩), .int .u8 a1] w' fun e w'' => e = .returned (.int .i64 0) ∧ PI w w'' b mb (bringS (failS s a1) a1) := fun w' T => by
                have := bring_T T a1
                rw [f4] at this
                exact this
              rw [hs0] at hsp
              have hlt := T.lt
              have HA := Lib.hid hat
              have HS := Lib.hid hsp
              have HF := Lib.hid hf
              have HB := Lib.hid hbr
              have H1 := Lib.hid o1
              have H2 := Lib.hid o2
              clear hat hsp hf h1 f1 f2 f4 o1 o2 hs0 T hbr
              go_wp2_with fail
              refine (HA.out).mono ?_
              rintro e wz ⟨rfl, rfl⟩
              go_wp2_with fail
              refine (HS.out).mono ?_
              rintro e w4 ⟨v4, rfl, A4, c4, rfl, ho4, hk4, hn4⟩
              simp only [List.length_cons] at ho4 hn4 ⊢
              obtain ⟨g4, c', hv, _, _, hg4, hcell, _⟩ := own_some ho4
              injection hv with hA4 _ hcc
              subst hA4; subst hcc
              have hn := hn4 g4 rfl
              have cl := hcell 0 (.int .u8 p) (by simp)
              clear hcell hn4 ho4
              go_wp2_with fail
              refine (HF.out _ hk4).mono ?_
              rintro e w5 ⟨rfl, T, hk5⟩
              have cl5 := hk5.cellSome cl (by rintro (e | e) <;> simp only at e <;> omega)
              have cb := T.kept.cellSome HC.out (fun h => h)
              go_wp2_with fail
              refine (at_one T H1.out).mono ?_
              rintro e wz ⟨rfl, rfl⟩
              cases x with
              | false =>
                go_wp2_with fail
                go_roundw
                case rel => exact ⟨j + 1, by omega, by omega, by go_num, _, p, T, H1.out⟩
                case measure => simp [intOf]; omega
              | true =>
                go_wp2_with fail
                refine (HB.out _ T).mono ?_
                rintro e w6 ⟨rfl, T⟩
                go_wp2_with fail
                go_roundw
                case rel => exact ⟨j + 1, by omega, by omega, by go_num, _, p, T, H2.out⟩
                case measure => simp [intOf]; omega
          · have hlo := locs_T T
            have hl1 : (s.L.map (·.1)).length = 1 := by rw [h1.row]; rfl
            have HL := Lib.hid hlo
            have HN := Lib.hid hl1
            clear hlo hl1 h1
            by_cases hjm' : j < m
            · have h2 : decide ((j : Int) < 40) = false := by simp; omega
              go_wp2_with (first | (go_at_call 22; refine (HL.out).mono ?_; rintro e w4 ⟨v4, rfl, A4, c4, rfl, _, hk4, _⟩; rw [HN.out]))
              go_ret
              exact ⟨rfl, T.kept.trans_emp hk4⟩
            · go_wp2_with (first | (go_at_call 22; refine (HL.out).mono ?_; rintro e w4 ⟨v4, rfl, A4, c4, rfl, _, hk4, _⟩; rw [HN.out]))
              go_ret
              exact ⟨rfl, T.kept.trans_emp hk4⟩
end Go.Proofs.Ytbbihimlahngfaa
