/- A store into a map as a region does it: the entry first, the value behind. No program is named here. -/
import Derived.Test.YtbbihimlahngfaaModel
import Derived.WideKeyEntry
namespace Go.Proofs.Ytbbihimlahngfaa
open Go.RowKit
open Go.WideElems (Fit findIdx_born findIdx_arr modify_last set_self)
open Go.Maps (Keyed)
open Go.ChangeMaps Go.MapKept Go.ChangeShapes Go.WideShapes

def setMap (W : World) (b : Nat) (o : Obj) : World := setBlock W b o

section
variable {H : Type} {P : Program} {w : World} {t k e : TypeId} {R : Value → Option (DataW H × List MemPlace)} {b : Nat}

theorem entry_keyed {es : Array MapEntry} {clock : Nat} (K : Keyed P k) (ht : P.underlying t = some (.map k e)) {z : Value} (hz : ∀ u : World, (zeroValue e).run P u = .ok z u) (hb : w.heap[b]? = some (.map es clock)) (F : Fit P k R es clock)
    {key : Value} {kl : Lit} (hkey : keyOf P k key = some kl) :
    ∃ (v0 : Value) (st : Nat) (es1 : Array MapEntry) (clock1 : Nat),
      (∀ W : World, W.heap[b]? = some (.map es clock) → (Instr.mapEntry t (.map (some b)) key).run P W = .ok (.tuple #[v0, .int .i64 st]) (setMap W b (.map es1 clock1))) ∧
      ∀ (val : Value), ∃ es' clock', (∀ (w2 : World), w2.heap[b]? = some (.map es1 clock1) → (Instr.entryStore t (.map (some b)) (.int .i64 st) val).run P w2 = .ok () (setMap w2 b (.map es' clock'))) ∧
        (Instr.mapUpdate t (.map (some b)) key val).run P w = .ok () (setBlock w b (.map es' clock')) := by
  obtain ⟨s1, s2, s3⟩ := F.stamped
  rcases K.find w hkey es.toList F.keys with ⟨h1, h2⟩ | ⟨j, e0, h1, h2, h3⟩
  · refine ⟨z, clock, es.push ⟨key, z, clock⟩, clock + 1, fun W hW => ?_, fun val => ⟨es.push ⟨key, val, clock⟩, clock + 1, fun w2 hw2 => ?_, ?_⟩⟩
    · rcases K.find W hkey es.toList F.keys with ⟨h1', _⟩ | ⟨j, e0, _, hj, h3⟩
      · simp [Instr.mapEntry, run_underlying ht, MapKept.run_getObj_map hW, K.check W false hkey, h1', hz, MapKept.run_setObj_map _ hW, Result.andThen, setMap, setBlock, goInt]
      · exact absurd h3 (h2 e0 (List.mem_of_getElem? hj))
    · have hidx : (es.push ⟨key, z, clock⟩).findIdx? (fun e => ((e.born : Nat) : Int) == ((clock : Nat) : Int)) = some es.size := by
        rw [findIdx_arr]
        exact findIdx_born (l := (es.push ⟨key, z, clock⟩).toList) (j := es.size) (e0 := ⟨key, z, clock⟩) (by
          simp only [Array.toList_push, List.map_append, List.map_cons, List.map_nil]
          refine List.nodup_append.2 ⟨s2, by simp, fun a ha c hc e1 => ?_⟩
          simp only [List.mem_singleton] at hc
          obtain ⟨x, hx, rfl⟩ := List.mem_map.1 ha
          have := s1 x hx
          omega) (by simp)
      have hmod : (es.push ⟨key, z, clock⟩).modify es.size (fun e => { e with val := val }) = es.push ⟨key, val, clock⟩ := by
        apply Array.ext'
        rw [Array.toList_modify, Array.toList_push, Array.toList_push, ← Array.length_toList, modify_last]
      simp [Instr.entryStore, MapKept.run_getObj_map hw2, asInt, asIntOf, hidx, hmod, MapKept.run_setObj_map _ hw2, Result.andThen, setMap, setBlock]
    · simp [Instr.mapUpdate, run_underlying ht, MapKept.run_getObj_map hb, K.check w false hkey, h1, MapKept.run_setObj_map _ hb, Result.andThen, setBlock]
  · have hj : es[j]? = some e0 := by simpa using h2
    have hsame : es.modify j (fun e => { e with key := key }) = es := by
      apply Array.ext'
      rw [Array.toList_modify, modify_eq_set _ _ _ _ h2]
      have : ({ e0 with key := key } : MapEntry) = e0 := by rw [← h3]
      rw [this]
      exact set_self _ _ _ h2
    have hfind : ∀ W : World, (Instr.findKey k key es.toList).run P W = .ok (some (j, e0.val)) W := fun W => by
      rcases K.find W hkey es.toList F.keys with ⟨_, h2'⟩ | ⟨j', e1, h1', h2', h3'⟩
      · exact absurd h3 (h2' e0 (List.mem_of_getElem? h2))
      · have hl1 := (List.getElem?_eq_some_iff.1 h2).1
        have hl2 := (List.getElem?_eq_some_iff.1 h2').1
        have hjj : j' = j := by
          have hp := List.pairwise_iff_getElem.1 s3
          obtain ⟨q1, e1'⟩ := List.getElem?_eq_some_iff.1 h2
          obtain ⟨q2, e2'⟩ := List.getElem?_eq_some_iff.1 h2'
          rcases Nat.lt_trichotomy j' j with hlt | heq | hgt
          · have hne := hp j' j (by simpa using q2) (by simpa using q1) hlt
            simp only [List.getElem_map] at hne
            exact absurd (by rw [e1', e2', h3, h3']) hne
          · exact heq
          · have hne := hp j j' (by simpa using q1) (by simpa using q2) hgt
            simp only [List.getElem_map] at hne
            exact absurd (by rw [e1', e2', h3, h3']) hne
        subst hjj
        rw [h2] at h2'
        injection h2' with h2'
        rw [h1', ← h2']
    refine ⟨e0.val, e0.born, es, clock, fun W hW => ?_, fun val => ⟨es.modify j (fun e' => { e' with key := key, val := val }), clock, fun w2 hw2 => ?_, ?_⟩⟩
    · simp [Instr.mapEntry, run_underlying ht, MapKept.run_getObj_map hW, K.check W false hkey, hfind W, hj, h3, K.stays W hkey, hsame, MapKept.run_setObj_map _ hW, Result.andThen, setMap, setBlock, goInt]
    · have hidx : es.findIdx? (fun e => ((e.born : Nat) : Int) == ((e0.born : Nat) : Int)) = some j := by
        rw [findIdx_arr]
        exact findIdx_born s2 h2
      have hmod : es.modify j (fun e => { e with val := val }) = es.modify j (fun e' => { e' with key := key, val := val }) := by
        apply Array.ext'
        rw [Array.toList_modify, Array.toList_modify, modify_eq_set _ _ _ _ h2, modify_eq_set _ _ _ _ h2, ← h3]
      simp [Instr.entryStore, MapKept.run_getObj_map hw2, asInt, asIntOf, hidx, hmod, MapKept.run_setObj_map _ hw2, Result.andThen, setMap, setBlock]
    · simp [Instr.mapUpdate, run_underlying ht, MapKept.run_getObj_map hb, K.check w false hkey, h1, hj, h3, K.stays w hkey, MapKept.run_setObj_map _ hb, Result.andThen, setBlock]

/-- A store into the call's own map, as a region does it. -/
theorem entry_own {n : Nat} {D : DataW H} (hown : w.ownsMap P k R b n D) (K : Keyed P k) (ht : P.underlying t = some (.map k e)) {z : Value} (hz : ∀ u : World, (zeroValue e).run P u = .ok z u) (hn : n < maxLen)
    {key val : Value} {kl : Lit} {d : DataW H} {ps : List MemPlace} (hkey : keyOf P k key = some kl) (hv : R val = some (d, ps)) :
    ∃ (v0 : Value) (st : Nat) (o0 o1 o2 : Obj), w.heap[b]? = some o0 ∧
      (∀ W : World, W.heap[b]? = some o0 → (Instr.mapEntry t (.map (some b)) key).run P W = .ok (.tuple #[v0, .int .i64 st]) (setMap W b o1)) ∧
      (∀ W : World, W.heap[b]? = some o1 → (Instr.entryStore t (.map (some b)) (.int .i64 st) val).run P W = .ok () (setMap W b o2)) ∧
      (∀ W : World, W.heap[b]? = some o2 → W.ownsMap P k R b (n + 1) (D.put kl d)) := by
  obtain ⟨w', hrun, hown', _⟩ := hown.update K ht hn hkey hv
  obtain ⟨es, clock, hb, F, hs, hD⟩ := hown
  obtain ⟨v0, st, es1, c1, h1, h2⟩ := entry_keyed K ht hz hb F hkey
  obtain ⟨es2, c2, h3, h4⟩ := h2 val
  refine ⟨v0, st, _, _, _, hb, h1, h3, fun W hW => ?_⟩
  rw [h4] at hrun
  injection hrun with _ hw
  have hb2 : w'.heap[b]? = some (.map es2 c2) := by rw [← hw]; exact heap_setBlock_same hb _
  obtain ⟨es', clock', hb', rest⟩ := hown'
  rw [hb2] at hb'
  injection hb' with hb'
  injection hb' with e1 e2
  subst e1; subst e2
  exact ⟨_, _, hW, rest⟩
end
section
variable {w W : World} {b : Nat} {o : Obj}
theorem setMap_same (h : b < W.heap.size) (o : Obj) : (setMap W b o).heap[b]? = some o := by simp [setMap, setBlock, h]
theorem setMap_size (W : World) (b : Nat) (o : Obj) : (setMap W b o).heap.size = W.heap.size := by simp [setMap, setBlock]
theorem setMap_other {i : Nat} (h : i ≠ b) (W : World) (o : Obj) : (setMap W b o).heap[i]? = W.heap[i]? := by
  simp [setMap, setBlock, Array.getElem?_setIfInBounds, Ne.symm h]
theorem setMap_cell {p : Addr} (h : p.block ≠ b) (W : World) (o : Obj) : (setMap W b o).cell? p = W.cell? p := World.cell?_of_block (setMap_other h W o)
theorem setMap_frozen {p : Addr} (h : p.block ≠ b) (W : World) (o : Obj) : (setMap W b o).frozen? p = W.frozen? p := World.frozen?_of_block (setMap_other h W o)
theorem Kept.setMap {F : Nat → Prop} (h : Kept F w W) (hf : F b) (o : Obj) : Kept F w (setMap W b o) :=
  h.trans (G := fun k => k = b) ⟨rfl, rfl, rfl, by simp [Ytbbihimlahngfaa.setMap, setBlock], fun k _ hk => setMap_other hk W o⟩ (fun k _ hk => by subst hk; exact hf)
theorem Blk.setMap {g : Nat} {t : TypeId} {cs : Array Value} (h : Blk W g t cs) (hg : g ≠ b) (o : Obj) : Blk (setMap W b o) g t cs := (setMap_other hg W o).trans h
end
end Go.Proofs.Ytbbihimlahngfaa
