/- The walk over PlaceCounts. -/
import Derived.Test.YtbbihimlahngfaaCounts
import Derived.Test.YtbbihimlahngfaaArgs
import Derived.Test.YtbbihimlahngfaaRoundw
import Derived.Deep.RegionHeld3
import Derived.Deep.DeepCutAuto
import Derived.Deep.CutBlock
namespace Go.Proofs.Ytbbihimlahngfaa
open Go.RowKit

def CountI (w wr : World) (b mb n0 : Nat) : Prop := ∃ s, PI w wr b mb s ∧ Cnt n0 s
def BackI (w wr : World) (b mb n0 N a f : Nat) : Prop := ∃ s, PI w wr b mb s ∧ Back n0 s a f ∧ s.L.length = N

set_option maxHeartbeats 4000000 in
set_option maxRecDepth 100000 in
theorem counts_any (w : World) (v vl : Value) (n m : Nat) (L : List Int) (S : List (Int × Nat × Nat)) (hs : Sl w 1 v n (u8s L)) (hL : ∀ a ∈ L, 0 ≤ a) (hb : Sl w 3 vl m (stepCells S)) (hF : Fine S) :
    Calls Try.prog 6 #[v, vl] w fun e w' => e = .returned (.bool true) ∧ Kept Emp w w' := by
  obtain ⟨hl, A, c, rfl, hnc, hcm, hA, h0⟩ := id hs
  obtain ⟨hlb, A2, c2, rfl, hnc2, hcm2, hA2, h02⟩ := id hb
  have hSl : S.length = m := by rw [length_stepCells] at hlb; omega
  have hq := q25neq
  unfold maxLen at hcm hcm2
  have HSL := Lib.hid hSl
  clear hlb hSl
  go_enter Try.func6, Try.ntmps6
  go_wp2_with fail
  refine (shown_any _).mono ?_
  rintro e w1 ⟨rfl, hk1⟩
  go_wp2_with fail
  obtain ⟨k, hk, hk30, hsk⟩ := sl_take (hs.kept hk1 (fun _ _ h => h)) 40 (by omega)
  rw [hk]
  refine (new_T _ k (L.take k) _ hsk (fun a ha => hL a (List.mem_of_mem_take ha))).mono ?_
  rintro e w2 ⟨b, mb, rfl, T⟩
  generalize L.take k = K at T hsk
  have T2 : PI w w2 b mb ⟨newK K, []⟩ := ⟨T.rep, T.ok, hk1.trans_emp T.kept, Nat.le_trans hk1.size T.nb, Nat.le_trans hk1.size T.nm⟩
  have hC := cnt_new K
  have hn32 : (spares (newK K)).length ≤ 32 := by simpa [sparesTo_all] using sparesTo_len (newK K) 32
  clear T hsk hk hk1 hL hs hl h0 hA hnc hcm hb
  have hsp := spares_T T2
  go_wp2_with fail
  refine hsp.mono ?_
  rintro e w3 ⟨v3, rfl, A3, c3, rfl, _, hk3, _⟩
  have T3 := T2.on hk3
  generalize (spares (newK K)).length = n0 at hC hn32 ⊢
  go_wp2_with fail
  go_loopw [8] (fun i wr => ∃ j : Nat, j ≤ m ∧ j ≤ 150 ∧ i = .int .i64 j ∧ CountI w wr b mb n0) (fun i _ => m - (intOf i).toNat)
  case atStart => exact ⟨0, by omega, by omega, rfl, _, T3, hC⟩
  case round =>
    clear T3 T2 hsp hC
    obtain ⟨j, hjm, hj150, rfl, s, T, hC⟩ := hrel
    by_cases hj : j < m ∧ j < 150
    · obtain ⟨hj1, hj2⟩ := hj
      obtain ⟨p, hp⟩ : ∃ p, S[j]? = some p := ⟨_, List.getElem?_eq_getElem (by rw [HSL.out]; exact hj1)⟩
      have hpf := hF p (List.mem_of_getElem? hp)
      obtain ⟨g, o, rfl, hg, hc⟩ := h02 (by omega)
      have d0 := T.kept.cellSome (hc _ _ (stepCells_get hp).1) (fun h => h)
      have d1 := T.kept.cellSome (hc _ _ (stepCells_get hp).2.1) (fun h => h)
      have d2 := T.kept.cellSome (hc _ _ (stepCells_get hp).2.2) (fun h => h)
      obtain ⟨kind, l, a⟩ := p
      simp only at hpf
      obtain ⟨hl6, ha6⟩ := hpf
      simp only [← Nat.add_assoc] at d0 d1 d2
      have T1 : PI w (wr.alloc (.cells #[.int .i64 kind, .int .u16 l, .int .u8 a] 31)) b mb s := T.on ((Kept.refl _ _).alloc _)
      have hmap := map_T T1 (l % 63) a (by omega) ha6
      rw [show ((l % 63 : Nat) : Int) = (l : Int) % 63 by omega] at hmap
      have hfail := fail_T T1 a
      have hbring := bring_T T1 a
      have HM := Lib.hid hmap
      have HF := Lib.hid hfail
      have HB := Lib.hid hbring
      have HC := Lib.hid hC
      have HT1 := Lib.hid T1
      clear hc h02 hp hF T T1 hC hmap hfail hbring
      by_cases k1 : kind = 1 ∨ kind = 2
      · rcases k1 with rfl | rfl
        all_goals
          go_wp2_with (first | (go_at_call 12; refine (HM.out).mono ?_; rintro e w4 ⟨rfl, T⟩))
          go_roundw
          case rel => exact ⟨j + 1, by omega, by omega, by go_num, _, T, HC.out.map (by omega)⟩
          case measure => simp [intOf]; omega
      · by_cases k2 : kind = 3 ∨ kind = 4
        · rcases k2 with rfl | rfl
          all_goals
            go_wp2_with (first | (go_at_call 14; refine (HF.out).mono ?_; rintro e w4 ⟨rfl, T⟩))
            go_roundw
            case rel => exact ⟨j + 1, by omega, by omega, by go_num, _, T, HC.out.fail _⟩
            case measure => simp [intOf]; omega
        · by_cases k3 : kind = 5
          · subst k3
            go_wp2_with (first | (go_at_call 16; refine (HB.out).mono ?_; rintro e w4 ⟨rfl, T⟩))
            go_roundw
            case rel => exact ⟨j + 1, by omega, by omega, by go_num, _, T, HC.out.bring _⟩
            case measure => simp [intOf]; omega
          · have n1 : (kind == 1) = false := by simp; omega
            have n2 : (kind == 2) = false := by simp; omega
            have n3 : (kind == 3) = false := by simp; omega
            have n4 : (kind == 4) = false := by simp; omega
            have n5 : (kind == 5) = false := by simp; omega
            clear k1 k2 k3
            go_wp2_with fail
            go_roundw
            case rel => exact ⟨j + 1, by omega, by omega, by go_num, _, HT1.out, HC.out⟩
            case measure => simp [intOf]; omega
    · have hN64 := T.ok.few
      obtain ⟨N, hN⟩ : ∃ N, N = s.L.length := ⟨_, rfl⟩
      rw [← hN] at hN64
      have hloc := locs_T T
      have hlen : (s.L.map (·.1)).length = N := by rw [hN, List.length_map]
      have HLo := Lib.hid hloc
      have HLe := Lib.hid hlen
      have HT := Lib.hid (⟨T, Back.start hC, hN.symm⟩ : PI w wr b mb s ∧ Back n0 s 1 0 ∧ s.L.length = N)
      clear hloc hlen T hC hN
      by_cases hjm' : j < m
      all_goals
        have h2 : j < m → decide ((j : Int) < 150) = false := fun h => by simp; omega
        first | have h3 := h2 hjm' | skip
        clear h2
        go_wp2_with (first | (go_at_call 22; refine (HLo.out).mono ?_; rintro e w4 ⟨v4, rfl, A4, c4, rfl, _, hk4, _⟩; rw [HLe.out]))
        go_loopw [10, 11] (fun f i wy => ∃ q fr : Nat, 1 ≤ q ∧ q ≤ 32 ∧ i = .int .u8 q ∧ f = .int .i64 fr ∧ fr ≤ q ∧ BackI w wy b mb n0 N q fr) (fun _ i _ => 32 - (intOf i).toNat)
        case atStart => exact ⟨1, 0, by omega, by omega, rfl, rfl, by omega, s, HT.out.1.on hk4, HT.out.2⟩
        case round =>
          clear HT HLo HLe
          obtain ⟨q, fr, hq1, hq32, rfl, rfl, hfr, s, T, hB, hN⟩ := hrel
          by_cases hq : q < 32
          · obtain ⟨b1, b2, b3, b4⟩ := hB.step hq1 hq
            have hbr := bring_T T q
            have hbL : (bringS s q).L.length = N := by rw [← hN]; unfold bringS; split <;> rfl
            have hof : ∀ w', PI w w' b mb (bringS s q) → Calls Try.prog 20 #[.pointer (some ⟨b, 32, none⟩), .int .u8 q] w' fun e w'' => e = .returned (.tuple #[.int .u16 ((ofS (bringS s q).L q).getD 0), .bool (ofS (bringS s q).L q).isSome]) ∧ Kept Emp w' w'' := fun w' T => of_T T q
            rw [b3] at hof
            by_cases h0 : kd s.k q = 0
            · have hc := b2.2 h0
              rw [hc] at hbr hof
              rw [if_pos h0] at b1
              simp only [show ((6 : Int) == 7) = false from rfl, Bool.false_and] at hof
              have HB1 := Lib.hid b1
              have HBr := Lib.hid hbr
              have HOf := Lib.hid hof
              have HBL := Lib.hid hbL
              generalize (ofS (bringS s q).L q).getD 0 = x at HOf
              clear b1 b2 b3 b4 hbr hof hbL h0 hc hB hN T
              go_wp2_with (first | (go_at_call 16; refine (HBr.out).mono ?_; rintro e w5 ⟨rfl, T⟩) | (go_at_call 20; refine (HOf.out _ T).mono ?_; rintro e w6 ⟨rfl, hk6⟩))
              go_roundw
              case rel => exact ⟨q + 1, fr + 1, by omega, by omega, by go_num, by go_num, by omega, _, T.on hk6, HB1.out, HBL.out⟩
              case measure => simp [intOf]; omega
            · rw [if_neg h0] at b1
              have hc6 : (bringCode s q == 6) = false := by simpa using fun h => h0 (b2.1 h)
              by_cases h3 : kd s.k q = 3
              · have hc := b4 h3
                rw [hc] at hbr hof
                simp only [h3, show ((7 : Int) == 7) = true from rfl, show ((3 : Int) == 3) = true from rfl, Bool.true_and] at hof
                have HB1 := Lib.hid b1
                have HBr := Lib.hid hbr
                have HOf := Lib.hid hof
                have HBL := Lib.hid hbL
                generalize (ofS (bringS s q).L q).getD 0 = x at HOf
                clear b1 b2 b3 b4 hbr hof hbL h0 hc hc6 h3 hB hN T
                go_wp2_with (first | (go_at_call 16; refine (HBr.out).mono ?_; rintro e w5 ⟨rfl, T⟩) | (go_at_call 20; refine (HOf.out _ T).mono ?_; rintro e w6 ⟨rfl, hk6⟩))
                go_roundw
                case rel => exact ⟨q + 1, fr, by omega, by omega, by go_num, rfl, by omega, _, T.on hk6, HB1.out, HBL.out⟩
                case measure => simp [intOf]; omega
              · have h3' : (kd s.k q == 3) = false := by simpa using h3
                rw [h3', Bool.and_false] at hof
                have HB1 := Lib.hid b1
                have HBr := Lib.hid hbr
                have HOf := Lib.hid hof
                have HBL := Lib.hid hbL
                generalize (ofS (bringS s q).L q).getD 0 = x at HOf
                generalize bringCode s q = cd at HBr hc6
                clear b1 b2 b3 b4 hbr hof hbL h0 h3 h3' hB hN T
                go_wp2_with (first | (go_at_call 16; refine (HBr.out).mono ?_; rintro e w5 ⟨rfl, T⟩) | (go_at_call 20; refine (HOf.out _ T).mono ?_; rintro e w6 ⟨rfl, hk6⟩))
                go_roundw
                case rel => exact ⟨q + 1, fr, by omega, by omega, by go_num, rfl, by omega, _, T.on hk6, HB1.out, HBL.out⟩
                case measure => simp [intOf]; omega
          · obtain rfl : q = 32 := by omega
            obtain ⟨z1, z2⟩ := hB.last
            rw [hN] at z1
            have T0 : PI w wr.drew b mb s := T.on ((Kept.refl _ _).drew)
            have hsp := spares_T T0
            have hlo := fun w' (hk : Kept Emp wr.drew w') => locs_T (T0.on hk)
            have hlen : (s.L.map (·.1)).length = N := by rw [← hN, List.length_map]
            have e1 : (fr : Int) = 31 - ((n0 : Int) + (N : Int)) := by omega
            have e2 : IntKind.i64.wrap (31 - ((n0 : Int) + (N : Int))) = 31 - ((n0 : Int) + (N : Int)) := by rw [IntWalk.i64_in _ (by omega)]
            have e3 : IntKind.i64.wrap ((n0 : Int) + (N : Int) - (N : Int)) = (n0 : Int) := by rw [IntWalk.i64_in _ (by omega)]; omega
            have e4 : IntKind.i64.wrap (n0 : Int) = (n0 : Int) := by rw [IntWalk.i64_in _ (by omega)]
            have HS := Lib.hid hsp
            have HL := Lib.hid hlo
            have HE := Lib.hid hlen
            have HZ := Lib.hid z2
            have HK := Lib.hid T0.kept
            clear hsp hlo hlen z1 z2 T T0 hB hN
            go_wp2_with fail
            go_region_held3 (fun _ => True) (trivial) (first | (go_at_call 23; refine (HS.out).mono ?_; rintro e w5 ⟨v5, rfl, A5, c5, rfl, _, hk5, _⟩; rw [HZ.out]) | (go_at_call 22; refine (HL.out _ hk5).mono ?_; rintro e w6 ⟨v6, rfl, A6, c6, rfl, _, hk6, _⟩; rw [HE.out]))
            all_goals
              go_wp2_with fail
              go_ret
              exact ⟨rfl, (HK.out.trans_emp hk5).trans_emp hk6⟩
end Go.Proofs.Ytbbihimlahngfaa
