/- The walk over Fail of one that shows a location, while one is spare. -/
import Derived.Test.YtbbihimlahngfaaFail
namespace Go.Proofs.Ytbbihimlahngfaa
open Go.RowKit

theorem cells_set {k : List Int} {mb a : Nat} (hl : k.length = 32) (ha : a < 32) (v : Int) :
    ((k.map (Value.int .i64)) ++ [Value.map (some mb)]).toArray.setIfInBounds a (.int .i64 v) = (((k.set a v).map (Value.int .i64)) ++ [Value.map (some mb)]).toArray := by
  simp only [List.setIfInBounds_toArray, List.map_set]
  rw [List.set_append_left _ _ (by simp [hl]; omega)]

set_option maxRecDepth 100000 in
set_option maxHeartbeats 3200000 in
theorem fail_move {w : World} {b mb : Nat} {s : St} (h : PRep w b mb s) (ok : Ok s) (hs : s.L.length ≤ 70000) (a : Nat) (hk : isS s.k a = 3) (t : Int) (T : List Int) (hsp : spares s.k = t :: T) :
    Calls Try.prog 14 #[.pointer (some ⟨b, 0, none⟩), .int .u8 a] w fun e w' => e = .returned (.tuple #[.int .u8 t, .int .i64 0]) ∧ PRep w' b mb ⟨(s.k.set a 2).set t.toNat 3, repl s.L a t⟩ ∧ Kept (PF b mb) w w' := by
  have hr := isS_range (k := s.k) (a := a) (by omega)
  have ha : a < 32 := by omega
  have hka : s.k.getD a 0 = 3 := by
    have : isS s.k a = s.k.getD a 0 := by simp only [isS, if_pos hr, Int.toNat_natCast]
    rw [← this]; exact hk
  obtain ⟨i, rfl, hi, hki⟩ := spares_mem (k := s.k) (t := t) (by rw [hsp]; simp)
  have hia : i ≠ a := fun e => by subst e; omega
  obtain ⟨⟨l, a'⟩, hmem, ha'⟩ := ok.back a ha hka
  simp only at ha'
  subst ha'
  have hloc := ok.locs _ hmem
  simp only at hloc
  have hof : ofS s.L a = some l := ofS_some ok.ris ok.inj hmem
  obtain ⟨ln, rfl⟩ := Int.eq_ofNat_of_zero_le hloc.1
  have hln : ln < 65536 := by omega
  have hSP := spares_any h
  have keep : ∀ w', Kept Emp w w' → Calls Try.prog 27 #[.pointer (some ⟨b, 0, none⟩), .int .u8 a] w' fun e w'' => e = .returned (.int .i64 3) ∧ w' = w'' := fun w' hk' => by rw [← hk]; exact is_any (h.kept0 hk') a
  have keep2 : ∀ w', Kept Emp w w' → Calls Try.prog 20 #[.pointer (some ⟨b, 32, none⟩), .int .u8 a] w' fun e w'' => e = .returned (.tuple #[.int .u16 ln, .bool true]) ∧ Kept Emp w' w'' := fun w' hk' => by
    have := of_any (h.kept0 hk') ok.ris ok.inj a
    rw [hof] at this
    exact this
  rw [hsp] at hSP
  have fin : ∀ W (o2 : Obj), Kept Emp w W → (∀ W' : World, W'.heap[mb]? = some o2 → W'.ownsMap Try.prog 29 (plainElem (H := Unit) Try.prog 5) mb (s.L.length + 1) (dm (repl s.L a i))) → ∀ W', W'.heap[mb]? = some o2 →
      Blk W' b 46 ((((s.k.map (Value.int .i64)) ++ [Value.map (some mb)]).toArray.setIfInBounds a (.int .i64 2)).setIfInBounds i (.int .i64 3)) → Kept (PF b mb) W W' →
      PRep W' b mb ⟨(s.k.set a 2).set i 3, repl s.L a i⟩ ∧ Kept (PF b mb) w W' := fun W o2 q0 qm W' q1 q2 q3 => by
    refine ⟨⟨?_, by simpa using h.len, ?_⟩, q0.emp_trans q3⟩
    · rw [cells_set h.len ha, cells_set (by simpa using h.len) hi] at q2
      exact q2
    · have := own_tight (qm W' q1)
      rw [size_dm] at this
      exact this
  have hput : put s.L ln i = repl s.L a i := put_repl ok.ris ok.inj hmem _
  have law : ∀ W, Kept Emp w W → ∃ (v0 : Value) (st : Nat) (o0 o1 o2 : Obj), W.heap[mb]? = some o0 ∧
      (∀ W' : World, W'.heap[mb]? = some o0 → (Instr.mapEntry 42 (.map (some mb)) (.int .u16 ln)).run Try.prog W' = .ok (.tuple #[v0, .int .i64 st]) (setMap W' mb o1)) ∧
      (∀ W' : World, W'.heap[mb]? = some o1 → (Instr.entryStore 42 (.map (some mb)) (.int .i64 st) (.int .u8 i)).run Try.prog W' = .ok () (setMap W' mb o2)) ∧
      (∀ W' : World, W'.heap[mb]? = some o2 → W'.ownsMap Try.prog 29 (plainElem (H := Unit) Try.prog 5) mb (s.L.length + 1) (dm (repl s.L a i))) := fun W hW => by
    obtain ⟨v0, st, o0, o1, o2, g0, g1, g2, g3⟩ := entry_own (h.kept0 hW).map (Maps.int_keyed Try.underlying29) Try.underlying42 Try.zeroValue5 (by unfold maxLen; omega) (key := .int .u16 ln) (val := .int .u8 i) (Maps.keyOf_int_mk Try.underlying29 (key_ok hln)) (plainElem_int Try.underlying5 (u8_ok (by omega)))
    rw [put_dm _ ok.ris, hput] at g3
    exact ⟨v0, st, o0, o1, o2, g0, g1, g2, g3⟩
  have hne := h.ne
  have HS := Lib.hid hSP
  have HI := Lib.hid keep
  have HO := Lib.hid keep2
  have HL := Lib.hid law
  have FIN := Lib.hid fin
  have HH := Lib.hid h
  have pmb : PF b mb mb := .inr rfl
  have pb : PF b mb b := .inl rfl
  have hs0 : ∀ (W : World) (i : Nat) (v : Value), (W.setCell ⟨b, i, none⟩ v).heap[mb]? = W.heap[mb]? := fun W i v => heap_setCell_other W _ mb v (Ne.symm hne)
  have hc0 : ∀ (W : World) (o : Obj) (i : Nat), (setMap W mb o).cell? ⟨b, i, none⟩ = W.cell? ⟨b, i, none⟩ := fun W o i => setMap_cell hne W o
  have hf0 : ∀ (W : World) (o : Obj) (i : Nat), (setMap W mb o).frozen? ⟨b, i, none⟩ = W.frozen? ⟨b, i, none⟩ := fun W o i => setMap_frozen hne W o
  clear hSP keep keep2 law fin h hput hof hmem hk hka hki hloc hsp ok hr
  go_enter Try.func14, Try.ntmps14
  go_wp2_with (first | (go_at_call 23; refine (HS.out).mono ?_; rintro e w1 ⟨v, rfl, hv⟩; obtain ⟨A, c, rfl, h1, h2, h3⟩ := hv) | (go_at_call 27; refine (HI.out _ h2).mono ?_; rintro e w' ⟨rfl, rfl⟩) | (go_at_call 20; refine (HO.out _ h2).mono ?_; rintro e W ⟨rfl, h4⟩))
  have hW : Kept Emp w W := h2.trans_emp h4
  have hP := HH.out.kept0 hW
  obtain ⟨v0, st, o0, o1, o2, g0, g1, g2, g3⟩ := HL.out W hW
  have hrow := h4.ownsRow h1 (fun _ _ h => h)
  have hgm := fun g (e : (Value.slice A (i :: T : List Int).length c).ownBlock = some g) => own_ne hrow hP.head (by decide)
  obtain ⟨g, c', hv, _, hc2, hg, hcell, _⟩ := own_some hrow
  injection hv with hA _ hcc
  subst hA; subst hcc
  have hgb : g ≠ b := fun e => own_ne hrow hP.head (by decide) (by rw [e]; rfl)
  have hgmb : g ≠ mb := fun e => by
    rcases hrow.2 with ⟨hx, _⟩ | ⟨g', _, _, hx, _, hh, _⟩
    · cases hx
    · cases hx
      rw [e] at hh
      obtain ⟨es, ck, hb, _⟩ := hP.map
      rw [hb] at hh
      cases hh
  have cg := hcell 0 (.int .u8 i) (by simp)
  have c32 := hP.mapc
  have ca := hP.kind (a := a) ha
  have fa := hP.head.frozen a
  have ci := hP.kind (a := i) hi
  have fi := hP.head.frozen i
  obtain ⟨x, hx⟩ : ∃ x, x = s.k.getD a 0 := ⟨_, rfl⟩
  obtain ⟨y, hy⟩ : ∃ y, y = s.k.getD i 0 := ⟨_, rfl⟩
  rw [← hx] at ca
  rw [← hy] at ci
  have hmlt : mb < W.heap.size := lt_of_block g0
  have hcg : ∀ (W : World) (o : Obj) (j : Nat), (setMap W mb o).cell? ⟨g, j, none⟩ = W.cell? ⟨g, j, none⟩ := fun W o j => setMap_cell hgmb W o
  have same : ∀ (X : World) (o : Obj), mb < X.heap.size → (setMap X mb o).heap[mb]? = some o := fun X o h => setMap_same h o
  have HP := Lib.hid hP
  have G3 := Lib.hid g3
  have HW := Lib.hid hW
  have A2 : ∀ X : World, X.heap[mb]? = some o0 → (X.setCell ⟨b, a, none⟩ (.int .i64 2)).heap[mb]? = some o0 := fun X h => (hs0 _ _ _).trans h
  have B2 : ∀ X : World, X.heap[mb]? = some o0 → (X.setCell ⟨b, i, none⟩ (.int .i64 3)).heap[mb]? = some o0 := fun X h => (hs0 _ _ _).trans h
  have e1 := g1 W.drew g0
  have e2 := g1 (W.drew.setCell ⟨b, a, none⟩ (.int .i64 2)) (A2 _ g0)
  have e3 := g1 (W.setCell ⟨b, a, none⟩ (.int .i64 2)).drew (A2 _ g0)
  have e4 := g1 ((W.drew.setCell ⟨b, a, none⟩ (.int .i64 2)).setCell ⟨b, i, none⟩ (.int .i64 3)) (B2 _ (A2 _ g0))
  have e5 := g1 ((W.setCell ⟨b, a, none⟩ (.int .i64 2)).drew.setCell ⟨b, i, none⟩ (.int .i64 3)) (B2 _ (A2 _ g0))
  have e6 := g1 ((W.setCell ⟨b, a, none⟩ (.int .i64 2)).setCell ⟨b, i, none⟩ (.int .i64 3)).drew (B2 _ (A2 _ g0))
  have sz : ∀ X : World, X.heap[mb]? = some o0 → (setMap X mb o1).heap[mb]? = some o1 := fun X h => setMap_same (lt_of_block h) o1
  have s2 : ∀ (X : World) i v, X.heap[mb]? = some o1 → (X.setCell ⟨b, i, none⟩ v).heap[mb]? = some o1 := fun X i v h => (hs0 _ _ _).trans h
  have d1 := g2 (setMap W.drew mb o1) (sz _ g0)
  have d2 := g2 ((setMap W.drew mb o1).setCell ⟨b, a, none⟩ (.int .i64 2)) (s2 _ _ _ (sz _ g0))
  have d3 := g2 (((setMap W.drew mb o1).setCell ⟨b, a, none⟩ (.int .i64 2)).setCell ⟨b, i, none⟩ (.int .i64 3)) (s2 _ _ _ (s2 _ _ _ (sz _ g0)))
  have d4 := g2 (setMap (W.drew.setCell ⟨b, a, none⟩ (.int .i64 2)) mb o1) (sz _ (A2 _ g0))
  have d5 := g2 ((setMap (W.drew.setCell ⟨b, a, none⟩ (.int .i64 2)) mb o1).setCell ⟨b, i, none⟩ (.int .i64 3)) (s2 _ _ _ (sz _ (A2 _ g0)))
  have d6 := g2 (setMap (W.setCell ⟨b, a, none⟩ (.int .i64 2)).drew mb o1) (sz _ (A2 _ g0))
  have d7 := g2 ((setMap (W.setCell ⟨b, a, none⟩ (.int .i64 2)).drew mb o1).setCell ⟨b, i, none⟩ (.int .i64 3)) (s2 _ _ _ (sz _ (A2 _ g0)))
  have d8 := g2 (setMap ((W.drew.setCell ⟨b, a, none⟩ (.int .i64 2)).setCell ⟨b, i, none⟩ (.int .i64 3)) mb o1) (sz _ (B2 _ (A2 _ g0)))
  have d9 := g2 (setMap ((W.setCell ⟨b, a, none⟩ (.int .i64 2)).drew.setCell ⟨b, i, none⟩ (.int .i64 3)) mb o1) (sz _ (B2 _ (A2 _ g0)))
  have d10 := g2 (setMap ((W.setCell ⟨b, a, none⟩ (.int .i64 2)).setCell ⟨b, i, none⟩ (.int .i64 3)).drew mb o1) (sz _ (B2 _ (A2 _ g0)))
  clear g1 g2 g3 hgm hrow hcell h1 h2 h3 h4 hx hy hP hW A2 B2 sz s2 same hs
  go_region
  all_goals go_wp2
  all_goals go_ret2
  all_goals
    refine ⟨rfl, FIN.out W o2 HW.out G3.out _ ?_ ?_ ?_⟩
    · first
        | with_reducible exact setMap_same (by simpa [setMap_size] using hmlt) _
        | with_reducible exact (hs0 _ _ _).trans (setMap_same (by simpa [setMap_size] using hmlt) _)
    · repeat (first | with_reducible refine Blk.setMap ?_ hne _ | with_reducible refine Blk.drew ?_)
      with_reducible refine Blk.set_ ?_ _ _
      repeat (first | with_reducible refine Blk.setMap ?_ hne _ | with_reducible refine Blk.drew ?_)
      with_reducible refine Blk.set_ ?_ _ _
      repeat (first | with_reducible refine Blk.setMap ?_ hne _ | with_reducible refine Blk.drew ?_)
      exact HP.out.head
    · repeat (first | with_reducible refine Kept.setMap ?_ pmb _ | with_reducible refine Kept.setCell ?_ (fun _ => pb) _ | with_reducible refine Kept.drew ?_)
      exact Kept.refl _ _

/-- Fail, whatever the address. -/
theorem fail_any {w : World} {b mb : Nat} {s : St} (h : PRep w b mb s) (ok : Ok s) (hs : s.L.length ≤ 70000) (a : Nat) :
    Calls Try.prog 14 #[.pointer (some ⟨b, 0, none⟩), .int .u8 a] w fun e w' => e = .returned (.tuple #[.int .u8 (failTo s a), .int .i64 (failCode s a)]) ∧ PRep w' b mb (failS s a) ∧ Kept (PF b mb) w w' := by
  have hrange : 0 ≤ isS s.k a ∧ isS s.k a ≤ 3 := by
    unfold isS
    split
    · rename_i hr
      simpa using ok.kinds a (by omega)
    · omega
  by_cases h3 : isS s.k a = 3
  · cases hsp : spares s.k with
    | nil =>
      have e : failTo s a = 0 := by simp [failTo, hsp]
      rw [e]
      exact fail_few h a (.inr hsp) hrange
    | cons t T =>
      have e1 : failTo s a = t := by simp [failTo, h3, hsp]
      have e2 : failCode s a = 0 := by simp [failCode, h3, hsp]
      have e3 : failS s a = ⟨(s.k.set a 2).set t.toNat 3, repl s.L a t⟩ := by simp [failS, h3, hsp, e1]
      rw [e1, e2, e3]
      exact fail_move h ok hs a h3 t T hsp
  · have e : failTo s a = 0 := by simp [failTo, h3]
    rw [e]
    exact fail_few h a (.inl h3) hrange
end Go.Proofs.Ytbbihimlahngfaa
