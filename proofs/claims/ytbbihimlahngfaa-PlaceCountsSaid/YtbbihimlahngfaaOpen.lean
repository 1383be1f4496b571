/- What is handed in, as lists: rows of bytes, of truth values, of steps. -/
import Derived.Test.YtbbihimlahngfaaInv
import Derived.Test.YtbbihimlahngfaaArgs
import Derived.ProofKit
import Derived.OpenShut
import Derived.ChangeOld
import Derived.Below
import Derived.Deep.Slices
import Derived.Deep.Fields
import Derived.ChangeSame
namespace Go.Proofs.Ytbbihimlahngfaa
open Go.ChangeShapes Go.WideShapes Go.ChangeAt Go.RowKit Go.Deep

theorem stepCells_append (L M : List (Int × Nat × Nat)) : stepCells (L ++ M) = stepCells L ++ stepCells M := by
  induction L with
  | nil => rfl
  | cons p l ih => simp [stepCells, ih]
theorem steps_of {w : World} {a : Addr} : ∀ n : Nat, (∀ i, i < n → ∃ p : Int × Nat × Nat, (p.2.1 < 65536 ∧ p.2.2 < 256) ∧ w.cell? (a.add (i * 3)) = some (.int .i64 p.1) ∧ w.cell? (a.add (i * 3 + 1)) = some (.int .u16 (p.2.1 : Int)) ∧ w.cell? (a.add (i * 3 + 2)) = some (.int .u8 (p.2.2 : Int))) →
    ∃ S : List (Int × Nat × Nat), Fine S ∧ S.length = n ∧ ∀ j u, (stepCells S)[j]? = some u → w.cell? (a.add j) = some u
  | 0, _ => ⟨[], by simp [Fine], rfl, fun j u h => by simp [stepCells] at h⟩
  | n + 1, h => by
    obtain ⟨S, hF, hS, hc⟩ := steps_of n (fun i hi => h i (by omega))
    obtain ⟨p, hp, h0, h1, h2⟩ := h n (by omega)
    refine ⟨S ++ [p], fun q hq => ?_, by simp [hS], fun j u hu => ?_⟩
    · rcases List.mem_append.1 hq with hq | hq
      · exact hF q hq
      · rw [List.mem_singleton.1 hq]; exact hp
    · rw [stepCells_append] at hu
      have hl := length_stepCells S
      rw [hS] at hl
      by_cases hj : j < n * 3
      · rw [List.getElem?_append_left (by omega)] at hu
        exact hc j u hu
      · rw [List.getElem?_append_right (by omega), hl] at hu
        have hjl : j - n * 3 < 3 := by
          have := (List.getElem?_eq_some_iff.1 hu).1
          simpa [stepCells] using this
        have hj3 : j = n * 3 ∨ j = n * 3 + 1 ∨ j = n * 3 + 2 := by omega
        rcases hj3 with rfl | rfl | rfl
        · simp [stepCells] at hu; subst hu; exact h0
        · simp [stepCells] at hu; subst hu; exact h1
        · simp [stepCells] at hu; subst hu; exact h2
theorem row_of {α : Type} (enc : α → Value) (ok : α → Prop) {w : World} {a : Addr} : ∀ n : Nat, (∀ i, i < n → ∃ x : α, ok x ∧ w.cell? (a.add i) = some (enc x)) → ∃ L : List α, (∀ x ∈ L, ok x) ∧ L.length = n ∧ ∀ j u, (L.map enc)[j]? = some u → w.cell? (a.add j) = some u
  | 0, _ => ⟨[], by simp, rfl, fun j u h => by simp at h⟩
  | n + 1, h => by
    obtain ⟨L, hF, hL, hc⟩ := row_of enc ok n (fun i hi => h i (by omega))
    obtain ⟨x, hx, h0⟩ := h n (by omega)
    refine ⟨L ++ [x], fun q hq => ?_, by simp [hL], fun j u hu => ?_⟩
    · rcases List.mem_append.1 hq with hq | hq
      · exact hF q hq
      · rw [List.mem_singleton.1 hq]; exact hx
    · rw [List.map_append] at hu
      by_cases hj : j < n
      · rw [List.getElem?_append_left (by simp [hL]; exact hj)] at hu
        exact hc j u hu
      · rw [List.getElem?_append_right (by simp [hL]; omega)] at hu
        simp only [List.map_cons, List.map_nil, List.length_map, hL] at hu
        have hjn : j - n = 0 := by
          have := (List.getElem?_eq_some_iff.1 hu).1
          simpa using this
        rw [hjn] at hu
        simp at hu
        subst hu
        obtain rfl : j = n := by omega
        exact h0

theorem Sl.of_arg {w : World} {a : Addr} {len cap k : Nat} (hlc : len ≤ cap) (hm : cap ≤ maxLen) (hk : 0 < k) {xs : List Value} (hx : xs.length = len * k) (h : ∀ j u, xs[j]? = some u → w.cell? (a.add j) = some u) : Sl w k (.slice (some a) len cap) len xs := by
  refine ⟨hx, _, _, rfl, hlc, hm, fun e => (by cases e), fun h0 => ?_⟩
  have hpos : 0 < xs.length := by rw [hx]; exact Nat.mul_pos h0 hk
  have hc := h 0 _ (List.getElem?_eq_getElem hpos)
  obtain ⟨b, off, spot⟩ := a
  have hspot : spot = none := by simpa [Addr.add] using World.cell?_spot hc
  subst hspot
  refine ⟨b, off, rfl, World.block_lt_of_cell? w _ hc, fun j u hu => ?_⟩
  have := h j u hu
  rwa [Addr.add_lit] at this

section
variable {H : Type} {enc : TypeId × Value → H} {P : Program} {w : World} {base : Nat} {spare : Nat → Bool} {held : Bool}
/-- A slice of structs, all of one-cell fields: each cell, and what it reads as. -/
theorem open_slice_fields {t e : TypeId} {fs : Array Field} {fuel : Nat} {cs : List Value} {x : DataW H × List MemPlace} (ht : P.underlying t = some (.slice e)) (he : P.underlying e = some (.struct fs))
    (hone : oneCellFields P fs = true) (hC : P.cellsOf e = fs.size) (h : DataW.trod enc P w base spare held fuel t cs = some x) :
    (cs = [.slice none 0 0] ∧ x = (.nil, [])) ∨
    ∃ (a : Addr) (len cap m : Nat), cs = [.slice (some a) len cap] ∧ len ≤ cap ∧ cap ≤ maxLen ∧ m = (if spare a.block then cap else len) ∧
      ∀ i, i < m → ∃ (n : Nat), ∀ (j : Nat) (f : Field), fs[j]? = some f → ∃ (v : Value) (y : DataW H × List MemPlace), w.cell? (a.add (i * fs.size + j)) = some v ∧ DataW.trod enc P w base spare held n f.type [v] = some y := by
  rcases open_slice ht h with h0 | ⟨a, len, cap, m, n, D, Pl, hcs, hb, hl, hm, hmm, hx, hi⟩
  · exact .inl h0
  · refine .inr ⟨a, len, cap, m, hcs, hl, hm, hmm, fun i him => ?_⟩
    obtain ⟨cs', hc, ht'⟩ := hi i him
    rw [hC] at hc
    obtain ⟨ys, n', hn', hy, hlen, hyl, hf⟩ := DataW.trod_struct he ht'
    obtain ⟨_, hcl, hat⟩ := World.cells?_some hc
    refine ⟨n', fun j f hj => ?_⟩
    obtain ⟨ho, hk⟩ := hone_of hone j f hj
    have hjl : j < fs.size := (Array.getElem?_eq_some_iff.1 hj).1
    have hcell := hat j hjl
    have hv : cs'[j]? = some (cs'[j]'(by omega)) := List.getElem?_eq_getElem (by omega)
    have h1 := hf j f hj
    rw [ho, hk] at h1
    have hone' : (cs'.drop j).take 1 = [cs'[j]'(by omega)] := by
      rw [List.drop_eq_getElem_cons (by omega)]
      rfl
    rw [hone'] at h1
    have hys : ys[j]? = some (ys[j]'(by omega)) := List.getElem?_eq_getElem (by omega)
    refine ⟨_, _, ?_, h1.trans hys⟩
    rw [← Go.Deep.add_add, hcell, hv]
/-- A slice whose elements are one cell each. -/
theorem open_slice_one {t e : TypeId} {fuel : Nat} {cs : List Value} {x : DataW H × List MemPlace} (ht : P.underlying t = some (.slice e)) (hC : P.cellsOf e = 1) (h : DataW.trod enc P w base spare held fuel t cs = some x) :
    (cs = [.slice none 0 0] ∧ x = (.nil, [])) ∨
    ∃ (a : Addr) (len cap m : Nat), cs = [.slice (some a) len cap] ∧ len ≤ cap ∧ cap ≤ maxLen ∧ m = (if spare a.block then cap else len) ∧
      ∀ i, i < m → ∃ (n : Nat) (v : Value) (y : DataW H × List MemPlace), w.cell? (a.add i) = some v ∧ DataW.trod enc P w base spare held n e [v] = some y := by
  rcases open_slice ht h with h0 | ⟨a, len, cap, m, n, D, Pl, hcs, hb, hl, hm, hmm, hx, hi⟩
  · exact .inl h0
  · refine .inr ⟨a, len, cap, m, hcs, hl, hm, hmm, fun i him => ?_⟩
    obtain ⟨cs', hc, ht'⟩ := hi i him
    rw [hC, Nat.mul_one] at hc
    obtain ⟨_, hcl, hat⟩ := World.cells?_some hc
    have hcell := hat 0 (by omega)
    have e1 : cs' = [cs'[0]'(by omega)] := List.ext_getElem (by simp [hcl]) (fun j h1 h2 => by
      have : j = 0 := by simp at h2; exact h2
      subst this; rfl)
    refine ⟨n, cs'[0]'(by omega), _, ?_, by rw [← e1]; exact ht'⟩
    rw [List.getElem?_eq_getElem (by omega)] at hcell
    rw [← hcell]
    congr 1
end

section
variable {H : Type} {enc : TypeId × Value → H} {W : World} {A : Option Addr} {len cap fuel : Nat} {x : DataW H × List MemPlace}
theorem open_u8s (h : DataW.trod enc Try.prog W 0 (fun _ => true) true fuel 22 [.slice A len cap] = some x) : ∃ L : List Int, (∀ a ∈ L, 0 ≤ a ∧ a < 256) ∧ Sl W 1 (.slice A len cap) len (u8s L) := by
  rcases open_slice_one Try.underlying22 (by kernel_rfl) h with ⟨hcs, _⟩ | ⟨a, l, c, m, hcs, hl, hm, hmm, hi⟩
  · injection hcs with hcs
    cases hcs
    exact ⟨[], by simp, Sl.nil W 1⟩
  · injection hcs with hcs
    cases hcs
    simp only [if_true] at hmm
    subst hmm
    obtain ⟨L, hok, hLl, hLc⟩ := row_of (Value.int .u8) (fun a => 0 ≤ a ∧ a < 256) (w := W) (a := a) len (fun i hil => by
      obtain ⟨n, v, y, hc, ht⟩ := hi i (by omega)
      obtain ⟨z, e, _, hw⟩ := DataW.trod_int Try.underlying5 ht
      simp at e
      subst e
      have := bounds_u8 hw
      exact ⟨z, by omega, hc⟩)
    exact ⟨L, hok, Sl.of_arg hl hm (by omega) (by simp [hLl]) hLc⟩
theorem open_bools (h : DataW.trod enc Try.prog W 0 (fun _ => true) true fuel 61 [.slice A len cap] = some x) : ∃ L : List Bool, Sl W 1 (.slice A len cap) len (Bools L) := by
  rcases open_slice_one Try.underlying61 (by kernel_rfl) h with ⟨hcs, _⟩ | ⟨a, l, c, m, hcs, hl, hm, hmm, hi⟩
  · injection hcs with hcs
    cases hcs
    exact ⟨[], Sl.nil W 1⟩
  · injection hcs with hcs
    cases hcs
    simp only [if_true] at hmm
    subst hmm
    obtain ⟨L, _, hLl, hLc⟩ := row_of Value.bool (fun _ => True) (w := W) (a := a) len (fun i hil => by
      obtain ⟨n, v, y, hc, ht⟩ := hi i (by omega)
      obtain ⟨z, e, _⟩ := DataW.trod_bool Try.underlying4 ht
      simp at e
      subst e
      exact ⟨z, trivial, hc⟩)
    exact ⟨L, Sl.of_arg hl hm (by omega) (by simp [Bools, hLl]) hLc⟩
theorem open_steps (h : DataW.trod enc Try.prog W 0 (fun _ => true) true fuel 23 [.slice A len cap] = some x) : ∃ S : List (Int × Nat × Nat), Fine S ∧ Sl W 3 (.slice A len cap) len (stepCells S) := by
  rcases open_slice_fields Try.underlying23 Try.underlying31 (by kernel_rfl) (by kernel_rfl) h with ⟨hcs, _⟩ | ⟨a, l, c, m, hcs, hl, hm, hmm, hi⟩
  · injection hcs with hcs
    cases hcs
    exact ⟨[], by simp [Fine], Sl.nil W 3⟩
  · injection hcs with hcs
    cases hcs
    simp only [if_true] at hmm
    subst hmm
    obtain ⟨S, hF, hSl, hSc⟩ := steps_of (w := W) (a := a) len (fun i hil => by
      obtain ⟨n, hf⟩ := hi i (by omega)
      obtain ⟨x0, y0, c0, t0⟩ := hf 0 _ rfl
      obtain ⟨x1, y1, c1, t1⟩ := hf 1 _ rfl
      obtain ⟨x2, y2, c2, t2⟩ := hf 2 _ rfl
      obtain ⟨z0, e0, _, _⟩ := DataW.trod_int Try.underlying3 t0
      obtain ⟨z1, e1, _, w1⟩ := DataW.trod_int Try.underlying29 t1
      obtain ⟨z2, e2, _, w2⟩ := DataW.trod_int Try.underlying5 t2
      simp at e0 e1 e2
      subst e0; subst e1; subst e2
      have b1 : 0 ≤ z1 ∧ z1 ≤ 65535 := by simp [Lit.wf, IntKind.min, IntKind.max, IntKind.signed, IntKind.bits] at w1; omega
      have b2 := bounds_u8 w2
      obtain ⟨n1, rfl⟩ := Int.eq_ofNat_of_zero_le b1.1
      obtain ⟨n2, rfl⟩ := Int.eq_ofNat_of_zero_le b2.1
      exact ⟨(z0, n1, n2), ⟨by simp only; omega, by simp only; omega⟩, c0, c1, c2⟩)
    exact ⟨S, hF, Sl.of_arg hl hm (by omega) (by rw [length_stepCells, hSl]) hSc⟩
end
end Go.Proofs.Ytbbihimlahngfaa
