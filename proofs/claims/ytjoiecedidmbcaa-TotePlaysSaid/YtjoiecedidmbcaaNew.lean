/- Walks over tote.New, slices.Repeat, math/bits.Mul: the zones of a new Totes. -/
import Derived.Test.YtjoiecedidmbcaaTotb
import Derived.Laws.CopyRow
import Derived.Deep.RegionLaw
namespace Go.Proofs.Ytjoiecedidmbcaa
open Go.RowKit

theorem run_copyk {P : Program} (w : World) (dT sT ty elem : TypeId) (size g o dLen dCap : Nat) (a : Addr) (sLen sCap : Nat) (cur : Array Value) (t : TypeId) (cs : List Value)
    (hu : P.underlying dT = some (.slice elem)) (hs : (P.info? elem).map (·.size) = some size)
    (hg : w.heap[g]? = some (.cells cur t (0, 0))) (hn : cs.length = Nat.min sLen dLen * size)
    (hsrc : ∀ j v, cs[j]? = some v → w.cell? (a.add j) = some v) (hfit : o + cs.length ≤ cur.size) (h1 : ∀ v ∈ cs, v.oneCell' = true) :
    (Builtin.copy_ #[dT, sT] ty #[.slice (some ⟨g, o, none⟩) dLen dCap, .slice (some a) sLen sCap]).run P w =
      .ok (goInt (Nat.min sLen dLen)) (w.setRow g (cur.toList.take o ++ cs ++ cur.toList.drop (o + cs.length)).toArray) := by
  have hl := run_loadCells_list (P := P) w a cs hsrc
  have hst := run_storeCells_at P g o t cs 0 cur w hg (by simpa using hfit) h1
  cases hq : P.info? elem with
  | none => simp [hq] at hs
  | some i =>
    have hi : i.size = size := by simpa [hq] using hs
    simp [Builtin.copy_, run_underlying hu, Builtin.lenOf, Builtin.firstCells, sizeOf, typeInfo, hq, hi, ← hn, hl, hst]

theorem oper_copyk {P : Program} {w : World} {o : Oper} {a : Act} {K : Act → World → Prop} {Q : Exit → Act → World → Prop} (d s : Operand) (dT sT : TypeId)
    (ho : o.op = .call { callee := .builtin .copy, args := #[d, s], argTypes := #[dT, sT] }) (elem : TypeId) (size : Nat) (hu : P.underlying dT = some (.slice elem)) (hsz : (P.info? elem).map (·.size) = some size)
    (g off dLen dCap : Nat) (ad : Addr) (sLen sCap : Nat) (hd : a.eval d = .slice (some ⟨g, off, none⟩) dLen dCap) (hs : a.eval s = .slice (some ad) sLen sCap)
    (cur : Array Value) (t : TypeId) (hg : Blk w g t cur) (cs : List Value) (m : Nat) (hm : min sLen dLen = m) (hn : cs.length = m * size)
    (hsrc : ∀ j v, cs[j]? = some v → w.cell? (ad.add j) = some v) (hfit : off + cs.length ≤ cur.size) (h1 : ∀ v ∈ cs, v.oneCell' = true)
    (h : ∀ w', Blk w' g t (cur.toList.take off ++ cs ++ cur.toList.drop (off + cs.length)).toArray → Kept (fun k => k = g) w w' → K (a.put o.dst (.int .i64 (m : Int))) w') : o.wp P a w K Q := by
  have hrun := run_copyk (P := P) w dT sT o.type elem size g off dLen dCap ad sLen sCap cur t cs hu hsz hg (by rw [hn, ← hm]) hsrc hfit h1
  rw [show Nat.min sLen dLen = m from hm] at hrun
  have hgo : goInt (m : Int) = .int .i64 (m : Int) := rfl
  rw [hgo] at hrun
  unfold Oper.wp
  simp [execOp, ho, resolve, invoke, builtin, hd, hs, hrun, Result.andThen]
  refine h _ (by rw [List.append_assoc]; exact setRow_heap w g _ _ t _ hg) ⟨rfl, rfl, rfl, by simp, fun k _ hk => setRow_other w g k _ (fun e => hk (by simp [e]))⟩
theorem wpList_copyk {P : Program} {w : World} {ops : Array Oper} {rest : List Oper} {o : Oper} {a : Act} {Q : Exit → Act → World → Prop} (hgd : o.guard = none) (d s : Operand) (dT sT : TypeId)
    (ho : o.op = .call { callee := .builtin .copy, args := #[d, s], argTypes := #[dT, sT] }) (elem : TypeId) (size : Nat) (hu : P.underlying dT = some (.slice elem)) (hsz : (P.info? elem).map (·.size) = some size)
    (g off dLen dCap : Nat) (ad : Addr) (sLen sCap : Nat) (hd : a.eval d = .slice (some ⟨g, off, none⟩) dLen dCap) (hs : a.eval s = .slice (some ad) sLen sCap)
    (cur : Array Value) (t : TypeId) (hg : Blk w g t cur) (cs : List Value) (m : Nat) (hm : min sLen dLen = m) (hn : cs.length = m * size)
    (hsrc : ∀ j v, cs[j]? = some v → w.cell? (ad.add j) = some v) (hfit : off + cs.length ≤ cur.size) (h1 : ∀ v ∈ cs, v.oneCell' = true)
    (h : ∀ w', Blk w' g t (cur.toList.take off ++ cs ++ cur.toList.drop (off + cs.length)).toArray → Kept (fun k => k = g) w w' → wpList P ops Q rest (a.put o.dst (.int .i64 (m : Int))) w') : wpList P ops Q (o :: rest) a w :=
  wpList_plain hgd fun _ hK => oper_copyk d s dT sT ho elem size hu hsz g off dLen dCap ad sLen sCap hd hs cur t hg cs m hm hn hsrc hfit h1 fun w' h2 h3 => hK _ _ (h w' h2 h3)
theorem step_copyk {P : Program} {w : World} {ops : Array Oper} {o : Oper} {a : Act} {K : Act → World → Prop} {Q : Exit → Act → World → Prop} {E : Prop} (hgd : o.guard = none) (d s : Operand) (dT sT : TypeId)
    (ho : o.op = .call { callee := .builtin .copy, args := #[d, s], argTypes := #[dT, sT] }) (elem : TypeId) (size : Nat) (hu : P.underlying dT = some (.slice elem)) (hsz : (P.info? elem).map (·.size) = some size)
    (g off dLen dCap : Nat) (ad : Addr) (sLen sCap : Nat) (hd : a.eval d = .slice (some ⟨g, off, none⟩) dLen dCap) (hs : a.eval s = .slice (some ad) sLen sCap)
    (cur : Array Value) (t : TypeId) (hg : Blk w g t cur) (cs : List Value) (m : Nat) (hm : min sLen dLen = m) (hn : cs.length = m * size)
    (hsrc : ∀ j v, cs[j]? = some v → w.cell? (ad.add j) = some v) (hfit : off + cs.length ≤ cur.size) (h1 : ∀ v ∈ cs, v.oneCell' = true)
    (h : ∀ w', Blk w' g t (cur.toList.take off ++ cs ++ cur.toList.drop (off + cs.length)).toArray → Kept (fun k => k = g) w w' → K (a.put o.dst (.int .i64 (m : Int))) w') :
    if Region.wanted o (yielded ops a.tmps) = true then Oper.wp P o a w K Q else E := by
  rw [if_pos (by simp [Region.wanted, hgd])]
  exact oper_copyk d s dT sT ho elem size hu hsz g off dLen dCap ad sLen sCap hd hs cur t hg cs m hm hn hsrc hfit h1 h

set_option maxHeartbeats 400000 in
theorem mul64_one (y : Nat) (hy : y < 65536) (w : World) :
    Calls Try.prog 33 #[.int .u64 1, .int .u64 y] w fun e w' => e = .returned (.tuple #[.int .u64 0, .int .u64 y]) ∧ w = w' := by
  have e1 : bits .and .u64 (y : Int) 4294967295 = y := by
    have := bits_and_u64_nat y 4294967295 (by omega) (by omega)
    rw [show ((4294967295 : Nat) : Int) = 4294967295 by rfl] at this
    rw [this]
    congr 1
    rw [show (4294967295 : Nat) = 2 ^ 32 - 1 by rfl, Nat.and_two_pow_sub_one_eq_mod]
    omega
  have e2 : (y : Int) / 4294967296 = 0 := by omega
  have e0 : bits .and .u64 1 4294967295 = 1 := by decide +kernel
  have e3 : bits .and .u64 0 4294967295 = 0 := by decide +kernel
  go_enter Try.func33, Try.ntmps33
  go_wp2
  go_ret2
  exact ⟨rfl, rfl⟩
theorem mul_one (y : Nat) (hy : y < 65536) (w : World) :
    Calls Try.prog 30 #[.int .u64 1, .int .u64 y] w fun e w' => e = .returned (.tuple #[.int .u64 0, .int .u64 y]) ∧ w = w' := by
  go_enter Try.func30, Try.ntmps30
  go_wp2_with (first | (go_at_call 33; refine (mul64_one y hy _).mono ?_; rintro e w' ⟨rfl, rfl⟩))
  go_ret2
  exact ⟨rfl, rfl⟩

/-- n queues of no tote, of room r. -/
def emptyCells (r : Int) : Nat → List Value
  | 0 => []
  | n + 1 => .slice none 0 0 :: .int .i64 r :: emptyCells r n
theorem length_emptyCells (r : Int) (n : Nat) : (emptyCells r n).length = n * 2 := by induction n with | zero => rfl | succ n ih => simp [emptyCells, ih]; omega
theorem emptyCells_add (r : Int) (n m : Nat) : emptyCells r n ++ emptyCells r m = emptyCells r (n + m) := by
  induction n with
  | zero => simp [emptyCells]
  | succ n ih => rw [show n + 1 + m = (n + m) + 1 by omega]; simp [emptyCells, ih]
theorem emptyCells_take (r : Int) (n m : Nat) (h : m ≤ n) : (emptyCells r n).take (m * 2) = emptyCells r m := by
  rw [show n = m + (n - m) by omega, ← emptyCells_add, List.take_left' (length_emptyCells r m)]
theorem emptyCells_even (r : Int) (n i : Nat) (h : i < n) : (emptyCells r n)[i * 2]? = some (.slice none 0 0) ∧ (emptyCells r n)[i * 2 + 1]? = some (.int .i64 r) := by
  induction n generalizing i with
  | zero => omega
  | succ n ih =>
    cases i with
    | zero => simp [emptyCells]
    | succ i =>
      rw [show (i + 1) * 2 = i * 2 + 1 + 1 by omega]
      simp only [emptyCells, List.getElem?_cons_succ]
      exact ih i (by omega)
theorem emptyCells_one (r : Int) (n : Nat) : ∀ u ∈ emptyCells r n, u.oneCell' = true := by
  induction n with
  | zero => simp [emptyCells]
  | succ n ih => intro u hu; simp [emptyCells] at hu; rcases hu with rfl | rfl | hu; rfl; rfl; exact ih u hu

theorem Try.info48 : (Try.prog.info? 48).map (fun i => (i.zero, i.size, i.bytes)) = some (some (.agg #[.slice none 0 0, .int .i64 0]), 2, 32) := by kernel_rfl

theorem Try.size48 : (Try.prog.info? 48).map (·.size) = some 2 := by kernel_rfl

set_option maxHeartbeats 1000000 in
theorem repeat_any (g : Nat) (r : Int) (n : Nat) (hn : n ≤ 8) (hn1 : 1 ≤ n) (w : World) (hb : Blk w g 48 #[.slice none 0 0, .int .i64 r]) :
    Calls Try.prog 19 #[.slice (some ⟨g, 0, none⟩) 1 1, .int .i64 n] w fun e w' => e = .returned (.slice (some ⟨w.heap.size, 0, none⟩) n n) ∧ Blk w' w.heap.size 48 (emptyCells r n).toArray ∧ Kept Emp w w' := by
  obtain ⟨i0, hi, hz0, hz1, hz2⟩ := info_parts Try.info48
  have h1 : ¬ ((n : Int) < 0) := by omega
  have hlt := hb.lt
  have hsplit : ∀ (Z : List Value), Z.length = n * 2 → ∃ Y, Y.length = (n - 1) * 2 ∧ (Z.take 0 ++ [.slice none 0 0, .int .i64 r] ++ Z.drop (0 + 2)) = emptyCells r 1 ++ Y := fun Z hZ => ⟨Z.drop 2, by simp [hZ]; omega, by simp [emptyCells]⟩
  have HS := Lib.hid hsplit
  clear hsplit
  go_enter Try.func19, Try.ntmps19
  go_wp2_with (first | (go_at_call 30; refine (mul_one n (by omega) _).mono ?_; rintro e w' ⟨rfl, rfl⟩) | (at_make; refine wpList_make_full _ rfl _ _ 49 rfl 0 48 i0 (.agg #[.slice none 0 0, .int .i64 0]) 2 Try.underlying49 hi hz0 hz1 .i64 .i64 _ _ n rfl rfl rfl rfl (by rw [hz2]; omega) (by unfold maxLen; omega) (Nat.zero_le _) ?_; intro w1 hown hgr; obtain ⟨cur, hcur, hcs⟩ : ∃ cur, Blk w1 w.heap.size 48 cur ∧ cur.size = n * 2 := (by rcases hown.2 with ⟨e, _⟩ | ⟨g', c', cur, e, _, hh, _, _, hs, _⟩; cases e; cases e; exact ⟨cur, hh, hs⟩); have hk1 : Kept Emp w w1 := Kept.of_grown hgr (fun k e => by cases e); clear hown hgr) | ((with_reducible show wpList _ _ _ _ _ _); (refine wpList_copyk (o := ⟨some 33, _, _, _, _, _⟩) rfl (.tmp 31) (.tmp 32) 49 49 rfl 48 2 Try.underlying49 Try.size48 w.heap.size 0 n n ⟨g, 0, none⟩ 1 1 rfl rfl cur 48 hcur [.slice none 0 0, .int .i64 r] 1 (by omega) rfl ?c1 ?c2 ?c3 ?k)))
  case c1 =>
    intro j v hj
    have hb1 := hb.kept hk1 (fun h => h)
    rw [Addr.add_lit, hb1.cell]
    match j, hj with
    | 0, hj => simpa using hj
    | 1, hj => simpa using hj
  case c2 => simp; omega
  case c3 => intro u hu; simp at hu; rcases hu with rfl | rfl <;> rfl
  case k =>
    intro w2 hb2 hk2
    obtain ⟨Y, hY, hcells⟩ := HS.out cur.toList (by simpa using hcs)
    have hb2' : Blk w2 w.heap.size 48 (emptyCells r 1 ++ Y).toArray := by rw [← hcells]; exact hb2
    have hk2' : Kept Emp w w2 := hk1.trans hk2 (fun j hj e => by omega)
    clear hb2 hk2 hcells hcur hcs hk1 HS
    go_wp2
    go_loopw [8] (fun i wr => ∃ c : Nat, ∃ Y : List Value, 1 ≤ c ∧ c ≤ n ∧ i = .int .i64 c ∧ Y.length = (n - c) * 2 ∧ Blk wr w.heap.size 48 (emptyCells r c ++ Y).toArray ∧ Kept Emp w wr) (fun i _ => n - (intOf i).toNat)
    case atStart => exact ⟨1, Y, by omega, hn1, rfl, hY, hb2', hk2'⟩
    case round =>
      obtain ⟨c, Y, hc1, hcn, rfl, hY, hbr, hkr⟩ := hrel
      by_cases hlt : c < n
      · have hne : ¬ n = c := by omega
        obtain ⟨m, hm, hmle, hmle2, hm1⟩ : ∃ m, min c (n - c) = m ∧ m ≤ c ∧ m ≤ n - c ∧ 1 ≤ m := ⟨_, rfl, by omega, by omega, by omega⟩
        have hsrc : ∀ j v, (emptyCells r m)[j]? = some v → wr.drew.cell? ((⟨w.heap.size, 0, none⟩ : Addr).add j) = some v := by
          intro j v hj
          have hj' : j < m * 2 := by have := (List.getElem?_eq_some_iff.1 hj).1; rwa [length_emptyCells] at this
          rw [Addr.add_lit, Nat.zero_add, hbr.drew.cell]
          rw [← emptyCells_take r c _ hmle, List.getElem?_take] at hj
          rw [if_pos hj'] at hj
          simp only [List.getElem?_toArray]
          rw [List.getElem?_append_left (by rw [length_emptyCells]; omega)]
          exact hj
        have hfit : c * 2 + (emptyCells r m).length ≤ (emptyCells r c ++ Y).toArray.size := by
          simp only [List.size_toArray, List.length_append, length_emptyCells, hY]; omega
        have hnew : ((emptyCells r c ++ Y).toArray.toList.take (c * 2) ++ emptyCells r m ++ (emptyCells r c ++ Y).toArray.toList.drop (c * 2 + (emptyCells r m).length)) = emptyCells r (c + m) ++ Y.drop (m * 2) := by
          have hl := length_emptyCells r c
          rw [length_emptyCells]
          simp only []
          rw [List.take_left' hl, emptyCells_add, ← hl, List.drop_append]
          simp
        have HNEW := Lib.hid hnew
        have HSRC := Lib.hid hsrc
        have HFIT := Lib.hid hfit
        have HY := Lib.hid hY
        have HM := Lib.hid hm
        have hwr : IntKind.i64.wrap ((c : Int) + (m : Int)) = ((c + m : Nat) : Int) := by rw [IntWalk.i64_in _ (by omega)]; omega
        clear hY hsrc hfit hnew hm
        go_wp2
        go_region_law (refine step_copyk rfl (.tmp 41) (.tmp 44) 49 49 rfl 48 2 Try.underlying49 Try.size48 w.heap.size (c * 2) (n - c) (n - c) ⟨w.heap.size, 0, none⟩ c n ?hd ?hs (emptyCells r c ++ Y).toArray 48 hbr.drew (emptyCells r m) m HM.out (length_emptyCells _ _) (HSRC.out) (HFIT.out) (emptyCells_one _ _) ?_; (case hd => go_simp); (case hs => go_simp); intro w3 hb3 hk3)
        all_goals
          rw [HNEW.out] at hb3
          go_simp
          go_wp2
          go_roundw
          case rel => exact ⟨c + m, Y.drop (m * 2), by omega, by omega, by go_num, by rw [List.length_drop, HY.out]; omega, hb3, hkr.drew.trans hk3 (fun j hj e => by omega)⟩
          case measure => simp [intOf]; omega
      · obtain rfl : n = c := by omega
        go_wp2
        go_ret
        obtain rfl : Y = [] := List.eq_nil_of_length_eq_zero (by rw [hY]; omega)
        exact ⟨rfl, by simpa using hbr, hkr⟩
theorem repeat_int (g : Nat) (r r' nz : Int) (n : Nat) (hr : r' = r) (hnz : nz = (n : Int)) (hn : n ≤ 8) (hn1 : 1 ≤ n) (w : World) (hb : Blk w g 48 #[.slice none 0 0, .int .i64 r']) :
    Calls Try.prog 19 #[.slice (some ⟨g, 0, none⟩) 1 1, .int .i64 nz] w fun e w' => e = .returned (.slice (some ⟨w.heap.size, 0, none⟩) n n) ∧ Blk w' w.heap.size 48 (emptyCells r n).toArray ∧ Kept Emp w w' := by
  subst hr; subst hnz
  exact repeat_any g r' n hn hn1 w hb
def lim (x hi : Int) : Int := min (max x 1) hi
theorem lim_in (x hi : Int) (h : 1 ≤ hi) : 1 ≤ lim x hi ∧ lim x hi ≤ hi := by unfold lim; omega

set_option maxHeartbeats 1000000 in
theorem new_any (zones room : Int) (w : World) :
    Calls Try.prog 5 #[.int .i64 zones, .int .i64 room] w fun e w' => ∃ b zb V, e = .returned (.pointer (some ⟨b, 0, none⟩)) ∧ ToteRep w' b zb (lim zones 8).toNat V (List.replicate (lim zones 8).toNat []) (lim room 64).toNat ∧ Kept Emp w w' ∧
      ∀ k, ToteF b zb V (lim zones 8).toNat k → w.heap.size ≤ k := by
  obtain ⟨n, hn, hn1, hn8⟩ : ∃ n : Nat, lim zones 8 = (n : Int) ∧ 1 ≤ n ∧ n ≤ 8 := by
    have := lim_in zones 8 (by omega)
    exact ⟨(lim zones 8).toNat, by omega, by omega, by omega⟩
  obtain ⟨r, hr, hr1, hr8⟩ : ∃ n : Nat, lim room 64 = (n : Int) ∧ 1 ≤ n ∧ n ≤ 64 := by
    have := lim_in room 64 (by omega)
    exact ⟨(lim room 64).toNat, by omega, by omega, by omega⟩
  rw [hn, hr, Int.toNat_natCast, Int.toNat_natCast]
  have hn' : min (max zones 1) 8 = (n : Int) := hn
  have hr' : min (max room 1) 64 = (r : Int) := hr
  clear hn hr
  go_enter Try.func5, Try.ntmps5
  go_wp2_with (first | (go_at_call 19; refine (repeat_int (w.heap.size + 1) (r : Int) _ _ n (by omega) (by omega) hn8 hn1 _ (heap_alloc2_new w _ (.cells _ 48))).mono ?_; rintro e w1 ⟨rfl, hb1, hk1⟩))
  all_goals
    go_ret
    have hk : Kept Emp w w1 := ((((Kept.refl _ w).alloc _).alloc _).trans hk1 (fun _ _ h => h))
    have hsz := hk1.size
    simp only [World.size_alloc] at hsz hb1
    refine ⟨w1.heap.size, rfl, w.heap.size + 1 + 1, fun _ => .slice none 0 0, ⟨?_, by simpa using hn8, ⟨_, hb1.alloc _, fun i hi => ?_⟩, fun i hi => ?_, fun i j k _ _ _ h => (by cases h), fun i hi => ?_, hr8⟩, hk.alloc _, fun k hk => ?_⟩
    · simpa using Blk.new w1 52 #[.slice (some ⟨w.heap.size + 1 + 1, 0, none⟩) n n]
    · simp only [List.length_replicate] at hi
      simpa using emptyCells_even (r : Int) n i hi
    · simp only [List.length_replicate] at hi
      have e : row (List.replicate n []) i = [] := by simp [row, List.getD, hi]
      rw [e]
      exact World.ownsRow_nil _ _ _ _
    · simp only [List.length_replicate] at hi
      have e : row (List.replicate n []) i = [] := by simp [row, List.getD, hi]
      rw [e]
      exact Nat.zero_le _
    · rcases hk with h | h | ⟨i, _, h⟩
      · omega
      · omega
      · cases h
end Go.Proofs.Ytjoiecedidmbcaa
