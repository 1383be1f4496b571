/- The walk over Spares: an array read whole, a row made. -/
import Derived.Test.YtbbihimlahngfaaPlace
namespace Go.Proofs.Ytbbihimlahngfaa
open Go.RowKit

abbrev u8s (L : List Int) : List Value := L.map (Value.int .u8)
theorem Try.info5 : (Try.prog.info? 5).map (fun i => (i.zero, i.size, i.bytes)) = some (some (.int .u8 0), 1, 1) := by kernel_rfl
theorem Try.size39 : (Try.prog.info? 39).map (·.size) = some 32 := by kernel_rfl

theorem wpList_load_cells {P : Program} {w : World} {ops : Array Oper} {rest : List Oper} {o : Oper} {a : Act} {Q : Exit → Act → World → Prop} (hgd : o.guard = none) (ty : TypeId) (x : Operand) (ho : o.op = .load ty x)
    (g off : Nat) (hx : a.eval x = .pointer (some ⟨g, off, none⟩)) (n m : Nat) (e : TypeId) (hu : P.underlying ty = some (.array n e)) (hi : (P.info? ty).map (·.size) = some m) (cs : List Value) (hm : cs.length = m)
    (hc : ∀ j v, cs[j]? = some v → w.cell? ⟨g, off + j, none⟩ = some v) (h : wpList P ops Q rest (a.put o.dst (.agg cs.toArray)) w) : wpList P ops Q (o :: rest) a w := by
  refine wpList_plain hgd fun K hK => ?_
  have hl := run_loadCells_list (P := P) w ⟨g, off, none⟩ cs (fun j v hv => by rw [Addr.add_lit]; exact hc j v hv)
  have hrun : (Instr.loadAt ty (.pointer (some ⟨g, off, none⟩))).run P w = .ok (.agg cs.toArray) w := by
    cases hq : P.info? ty with
    | none => simp [hq] at hi
    | some i =>
      have hs : i.size = m := by simpa [hq] using hi
      rw [hm] at hl
      simp [Instr.loadAt, Instr.sureAddr, loadVar, isAgg, run_underlying hu, sizeOf, typeInfo, hq, hs, hl, Result.andThen]
  unfold Oper.wp
  simp [execOp, ho, hx, hrun, Result.andThen]
  exact hK _ _ h

/-- The spare ones below j. -/
def sparesTo (k : List Int) (j : Nat) : List Int := ((List.range j).filter (fun i => k.getD i 0 == 1)).map (fun i : Nat => (i : Int))
theorem sparesTo_all (k : List Int) : sparesTo k 32 = spares k := rfl
theorem sparesTo_yes {k : List Int} {j : Nat} (h : k.getD j 0 = 1) : sparesTo k (j + 1) = sparesTo k j ++ [(j : Int)] := by
  have e : (k.getD j 0 == 1) = true := by simp only [h]; rfl
  simp only [sparesTo, List.range_succ, List.filter_append, List.map_append]
  simp only [List.filter_cons, e]
  simp
theorem sparesTo_no {k : List Int} {j : Nat} (h : k.getD j 0 ≠ 1) : sparesTo k (j + 1) = sparesTo k j := by
  have e : (k.getD j 0 == 1) = false := by simpa using h
  simp only [sparesTo, List.range_succ, List.filter_append, List.map_append]
  simp only [List.filter_cons, e]
  simp
theorem sparesTo_len (k : List Int) (j : Nat) : (sparesTo k j).length ≤ j := by
  simp only [sparesTo, List.length_map]
  exact Nat.le_trans (List.length_filter_le _ _) (by simp)

def own8 (w w' : World) (v : Value) (L : List Int) : Prop := ∃ A c, v = .slice A L.length c ∧ w'.ownsRow 0 5 1 (.slice A L.length c) L.length (u8s L) ∧ Kept Emp w w' ∧ ∀ k, (Value.slice A L.length c).ownBlock = some k → w.heap.size ≤ k

set_option maxRecDepth 100000 in
set_option maxHeartbeats 1600000 in
theorem spares_any {w : World} {b mb : Nat} {s : St} (h : PRep w b mb s) :
    Calls Try.prog 23 #[.pointer (some ⟨b, 0, none⟩)] w fun e w' => ∃ v, e = .returned v ∧ own8 w w' v (spares s.k) := by
  obtain ⟨i0, hi, hz0, hz1, hz2⟩ := info_parts Try.info5
  have hl := h.len
  obtain ⟨cs, hcs⟩ : ∃ cs, cs = s.k.map (Value.int .i64) := ⟨_, rfl⟩
  have hcl : cs.length = 32 := by rw [hcs]; simpa using hl
  have hcell : ∀ j v, cs[j]? = some v → w.cell? ⟨b, 0 + j, none⟩ = some v := fun j v hv => by
    have hj : j < 32 := by rw [← hcl]; exact (List.getElem?_eq_some_iff.1 hv).1
    rw [Nat.zero_add, h.kind hj]
    rw [hcs] at hv
    rw [← hv]
    simp [List.getD, hl, hj]
  have hidx : ∀ (j : Nat), j < 32 → ∀ W : World, (Instr.index 39 (.agg cs.toArray) (.int .i64 (j : Int))).run Try.prog W = .ok (.int .i64 (s.k.getD j 0)) W := fun j hj W => by
    have hv : cs[j]? = some (.int .i64 (s.k[j]?.getD 0)) := by
      rw [hcs]
      simp [hl, hj]
    simp [Instr.index, asIntOf, run_underlying Try.underlying39, hj, part, hv, Try.isAgg3, Try.sizeOf3, Result.andThen]
  have HI := Lib.hid hidx
  have HC := Lib.hid hcs
  clear hidx hcs hl
  go_enter Try.func23, Try.ntmps23
  go_wp2_with (refine wpList_load_cells (o := ⟨some 8, _, _, _, _, _⟩) rfl 39 (.tmp 7) rfl b 0 rfl 32 32 3 Try.underlying39 Try.size39 cs hcl hcell ?_)
  generalize cs.toArray = A at HI
  go_loopw [2, 3, 4, 9] (fun v _ _ i wr => ∃ j : Nat, j ≤ 32 ∧ i = .int .i64 j ∧ own8 w wr v (sparesTo s.k j)) (fun _ _ _ i _ => 32 - (intOf i).toNat)
  case atStart => exact ⟨0, by omega, rfl, none, 0, rfl, World.ownsRow_nil _ _ _ _, Kept.refl _ _, fun k hk => by cases hk⟩
  case round =>
    obtain ⟨j, hj, rfl, A', c', rfl, hown, hK, hnew⟩ := hrel
    have hlen := sparesTo_len s.k j
    by_cases hlt : j < 32
    · have hix := HI.out j hlt
      have HN := Lib.hid (⟨hnew, hK⟩ : (∀ k, (Value.slice A' (sparesTo s.k j).length c').ownBlock = some k → w.heap.size ≤ k) ∧ Kept Emp w wr)
      clear hnew hK
      by_cases h1 : s.k.getD j 0 = 1
      · rw [h1] at hix
        have HL := Lib.hid (sparesTo_yes h1)
        obtain ⟨S, hS⟩ : ∃ S, S = sparesTo s.k j := ⟨_, rfl⟩
        rw [← hS] at hown hlen HN HL ⊢
        clear h1 hS
        go_wp2_with (at_builtin; refine wpList_app rfl _ _ 22 rfl 5 i0 (.int .u8 0) 1 1 Try.underlying22 hi hz0 hz1 hz2 rfl (by decide) _ S.length (u8s S) rfl (hown.alloc _) _ 1 [.int .u8 j] rfl (Sl.new wr 5 [.int .u8 j] 1 1 rfl (by unfold maxLen; omega)) (ints_oneCell .u8 [(j : Int)]) (by unfold maxLen; omega) (by omega) ?_; intro v' w' h1 h2 _ h4; obtain ⟨A1, c1, rfl, _⟩ := own_slice h1)
        go_roundw
        case rel =>
          refine ⟨j + 1, by omega, by go_num, ?_⟩
          have e := HL.out
          refine ⟨A1, c1, by rw [e]; simp, by rw [e]; simpa using h1, ?_, ?_⟩
          · refine (HN.out.2.alloc _).trans h2 (fun i hi hb => ?_)
            have := HN.out.1 i hb
            omega
          · intro k hk
            rw [e] at hk
            rcases h4 k (by simpa [Value.ownBlock] using hk) with h | h
            · exact HN.out.1 k h
            · have := HN.out.2.size
              simp at h; omega
        case measure => simp [intOf]; omega
      · have hb : (s.k.getD j 0 == 1) = false := by simpa using h1
        have HL := Lib.hid (sparesTo_no h1)
        obtain ⟨x, hx⟩ : ∃ x, x = s.k.getD j 0 := ⟨_, rfl⟩
        rw [← hx] at hix hb
        clear h1 hx
        go_wp2
        go_roundw
        case rel => exact ⟨j + 1, by omega, by go_num, by rw [HL.out]; exact ⟨A', c', rfl, hown, HN.out.2, HN.out.1⟩⟩
        case measure => simp [intOf]; omega
    · obtain rfl : j = 32 := by omega
      rw [sparesTo_all] at hown hnew hlen ⊢
      go_wp2
      go_ret
      exact ⟨_, rfl, A', c', rfl, hown, hK, hnew⟩
end Go.Proofs.Ytbbihimlahngfaa
