/- TotePlays: whatever the zones, the room and the steps, the law's call returns true, and what was handed in reads as it did. No condition. -/
import Derived.Test.YtjoiecedidmbcaaLaw
import Derived.Test.YtjoiecedidmbcaaRows
import Derived.ProofKit
import Derived.OpenShut
import Derived.ChangeOld
import Derived.Below
import Derived.Deep.Slices
import Derived.Deep.Fields
import Derived.ChangeSame
namespace Go.Proofs.Ytjoiecedidmbcaa
open Go.ChangeShapes Go.WideShapes Go.ChangeAt Go.RowKit Go.Deep
set_option linter.unusedVariables false

theorem Try.own : ownKnob Try.prog.godebug = none := by kernel_rfl
theorem Try.laidOut : laidOutB Try.prog = true := by kernel_rfl

section
variable {H : Type} {enc : TypeId × Value → H} {P : Program} {w : World} {base : Nat} {spare : Nat → Bool} {held : Bool}
/-- A slice of structs, all of one-cell fields: each cell, and what it reads as. -/
theorem open_slice_fields {t e : TypeId} {fs : Array Field} {fuel : Nat} {cs : List Value} {x : DataW H × List MemPlace} (ht : P.underlying t = some (.slice e)) (he : P.underlying e = some (.struct fs))
    (hone : oneCellFields P fs = true) (hC : P.cellsOf e = fs.size) (h : DataW.trod enc P w base spare held fuel t cs = some x) :
    (cs = [.slice none 0 0] ∧ x = (.nil, [])) ∨
    ∃ (a : Addr) (len cap m : Nat), cs = [.slice (some a) len cap] ∧ len ≤ cap ∧ cap ≤ maxLen ∧ m = (if spare a.block then cap else len) ∧
      ∀ i, i < m → ∃ (n : Nat), ∀ (j : Nat) (f : Field), fs[j]? = some f → ∃ (v : Value) (y : DataW H × List MemPlace), w.cell? (a.add (i * fs.size + j)) = some v ∧ DataW.trod enc P w base spare held n f.type [v] = some y := by
  rcases open_slice ht h with h0 | ⟨a, len, cap, m, n, D, Pl, hcs, hb, hl, hm, hmm, hx, hi⟩
  · exact .inl h0
  · refine .inr ⟨a, len, cap, m, hcs, hl, hm, hmm, fun i him => ?_⟩
    obtain ⟨cs', hc, ht'⟩ := hi i him
    rw [hC] at hc
    obtain ⟨ys, n', hn', hy, hlen, hyl, hf⟩ := DataW.trod_struct he ht'
    obtain ⟨_, hcl, hat⟩ := World.cells?_some hc
    refine ⟨n', fun j f hj => ?_⟩
    obtain ⟨ho, hk⟩ := hone_of hone j f hj
    have hjl : j < fs.size := (Array.getElem?_eq_some_iff.1 hj).1
    have hcell := hat j hjl
    have hv : cs'[j]? = some (cs'[j]'(by omega)) := List.getElem?_eq_getElem (by omega)
    have h1 := hf j f hj
    rw [ho, hk] at h1
    have hone' : (cs'.drop j).take 1 = [cs'[j]'(by omega)] := by
      rw [List.drop_eq_getElem_cons (by omega)]
      rfl
    rw [hone'] at h1
    have hys : ys[j]? = some (ys[j]'(by omega)) := List.getElem?_eq_getElem (by omega)
    refine ⟨_, _, ?_, h1.trans hys⟩
    rw [← Go.Deep.add_add, hcell, hv]
end

theorem Sl.of_arg {w : World} {a : Addr} {len cap k : Nat} (hlc : len ≤ cap) (hm : cap ≤ maxLen) (hk : 0 < k) {xs : List Value} (hx : xs.length = len * k) (h : ∀ j u, xs[j]? = some u → w.cell? (a.add j) = some u) : Sl w k (.slice (some a) len cap) len xs := by
  refine ⟨hx, _, _, rfl, hlc, hm, fun e => (by cases e), fun h0 => ?_⟩
  have hpos : 0 < xs.length := by rw [hx]; exact Nat.mul_pos h0 hk
  have hc := h 0 _ (List.getElem?_eq_getElem hpos)
  obtain ⟨b, off, spot⟩ := a
  have hspot : spot = none := by simpa [Addr.add] using World.cell?_spot hc
  subst hspot
  refine ⟨b, off, rfl, World.block_lt_of_cell? w _ hc, fun j u hu => ?_⟩
  have := h j u hu
  rwa [Addr.add_lit] at this

theorem stepCells_append (L M : List (Int × Int × Int)) : stepCells (L ++ M) = stepCells L ++ stepCells M := by
  induction L with
  | nil => rfl
  | cons p l ih => simp [stepCells, ih]
theorem steps_of {w : World} {a : Addr} : ∀ n : Nat, (∀ i, i < n → ∃ p : Int × Int × Int, w.cell? (a.add (i * 3)) = some (.int .i64 p.1) ∧ w.cell? (a.add (i * 3 + 1)) = some (.int .u16 p.2.1) ∧ w.cell? (a.add (i * 3 + 2)) = some (.int .i64 p.2.2)) →
    ∃ S : List (Int × Int × Int), S.length = n ∧ ∀ j u, (stepCells S)[j]? = some u → w.cell? (a.add j) = some u
  | 0, _ => ⟨[], rfl, fun j u h => by simp [stepCells] at h⟩
  | n + 1, h => by
    obtain ⟨S, hS, hc⟩ := steps_of n (fun i hi => h i (by omega))
    obtain ⟨p, h0, h1, h2⟩ := h n (by omega)
    refine ⟨S ++ [p], by simp [hS], fun j u hu => ?_⟩
    rw [stepCells_append] at hu
    have hl := length_stepCells S
    rw [hS] at hl
    by_cases hj : j < n * 3
    · rw [List.getElem?_append_left (by omega)] at hu
      exact hc j u hu
    · rw [List.getElem?_append_right (by omega), hl] at hu
      have hjl : j - n * 3 < 3 := by
        have := (List.getElem?_eq_some_iff.1 hu).1
        simpa [stepCells] using this
      have hj3 : j = n * 3 ∨ j = n * 3 + 1 ∨ j = n * 3 + 2 := by omega
      rcases hj3 with rfl | rfl | rfl
      · simp [stepCells] at hu; subst hu; exact h0
      · simp [stepCells] at hu; subst hu; exact h1
      · simp [stepCells] at hu; subst hu; exact h2

set_option maxRecDepth 100000 in
theorem lifted (os : Os) (started : os.Started) (H : Type) (enc : TypeId × Value → H) :
    ReturnsInHanded {} Try.checked os 3 .any (Rows.totePlaysSpec.pre6 enc Try.prog Try.f3 Rows.totePlaysRow.domain false) (Rows.totePlaysSpec.post enc Try.prog Try.f3 false true false false) := by
  refine returnsInHanded_of_change (C := Try.checked) Try.own started (by kernel_rfl) Try.func3
    (ChangeSpec.witness6 (enc := enc) (C := Try.checked) false ⟨#[], #[.int .i64 0, .int .i64 0, .slice none 0 0], []⟩ 8 (by kernel_rfl) (by kernel_rfl) (by kernel_rfl) (by kernel_rfl)) ?_
  intro W base args ds gs before hval0 hW hcnd _
  have hval : ∀ (j : Nat) t v, Try.f3.params[j]? = some t → args[j]? = some v → Value.okWide Try.prog W .any base t v := hval0
  have hW' := hW
  obtain ⟨p, q, hA0, hV, rfl, hfz, hnd⟩ := hW
  have hA : DataW.TrodAll enc Try.prog W 0 (fun _ => true) true Try.f3.params.toList args.toList ds p := hA0
  rw [Try.params3] at hA hval
  obtain ⟨v0, v1, v2, d0, d1, d2, p0, p1, p2, rfl, rfl, rfl, h0, h1, h2⟩ := trodAll_three hA
  obtain ⟨rfl, rfl⟩ := trodVars_none hV
  obtain ⟨a0, rfl, rfl, rfl, w0⟩ := open_int Try.underlying3 (hval 0 3 v0 rfl rfl) h0
  obtain ⟨a1, rfl, rfl, rfl, w1⟩ := open_int Try.underlying3 (hval 1 3 v1 rfl rfl) h1
  obtain ⟨A, len, cap, rfl⟩ := okWide_slice Try.underlying22 (hval 2 22 v2 rfl rfl)
  have k2 := h2
  have lt2 : ∀ x ∈ p2, x.block < W.heap.size := by obtain ⟨m, hm⟩ := k2; exact DataW.trod_lt m _ _ _ hm
  obtain ⟨S, hS⟩ : ∃ S, Sl W 3 (.slice A len cap) len (stepCells S) := by
    obtain ⟨fuel, hf⟩ := h2
    rcases open_slice_fields Try.underlying22 Try.underlying32 (by kernel_rfl) (by kernel_rfl) hf with ⟨hcs, _⟩ | ⟨a, l, c, m, hcs, hl, hm, hmm, hi⟩
    · simp [Value.cells] at hcs
      obtain ⟨rfl, rfl, rfl⟩ := hcs
      exact ⟨[], Sl.nil W 3⟩
    · simp [Value.cells] at hcs
      obtain ⟨rfl, rfl, rfl⟩ := hcs
      simp only [if_true] at hmm
      subst hmm
      obtain ⟨S, hSl, hSc⟩ := steps_of (w := W) (a := a) len (fun i hil => by
        obtain ⟨n, hf⟩ := hi i (by omega)
        obtain ⟨x0, y0, c0, t0⟩ := hf 0 _ rfl
        obtain ⟨x1, y1, c1, t1⟩ := hf 1 _ rfl
        obtain ⟨x2, y2, c2, t2⟩ := hf 2 _ rfl
        obtain ⟨z0, e0, _, _⟩ := DataW.trod_int Try.underlying3 t0
        obtain ⟨z1, e1, _, _⟩ := DataW.trod_int Try.underlying30 t1
        obtain ⟨z2, e2, _, _⟩ := DataW.trod_int Try.underlying3 t2
        simp at e0 e1 e2
        subst e0; subst e1; subst e2
        exact ⟨(z0, z1, z2), c0, c1, c2⟩)
      exact ⟨S, Sl.of_arg hl hm (by omega) (by rw [length_stepCells, hSl]) hSc⟩
  clear hA0 hval0
  refine (law_any W a0 a1 (.slice A len cap) len S hS).mono fun e W' ⟨he, hk⟩ => ?_
  subst he
  have bel : Below W.heap.size W W' := hk.below (Nat.le_refl _) (fun _ _ h => h)
  exact ⟨_, rfl, _, _, _, [], _, [], hW', trodAll_mk1 (shut_bool Try.underlying4 _), (trodAll_cons_mk (shut_int Try.underlying3 w0) (trodAll_cons_mk (shut_int Try.underlying3 w1) (trodAll_cons_mk (Below.trod Try.laidOut (by kernel_rfl) (of_decide_eq_true (by kernel_rfl)) k2 bel lt2) trodAll_mk0))), rfl, bel.frame _, fun h => by cases h⟩

theorem over : Rows.totePlaysRow.holds Try.pinned (OpenSpec.ofChange Rows.totePlaysSpec) :=
  OpenClaim.holds_of_wide 3 Try.f3 rfl rfl rfl rfl rfl rfl rfl ⟨rfl, rfl, rfl, rfl, rfl⟩ rfl rfl rfl rfl rfl (by kernel_rfl) Try.func3 (by kernel_rfl)
    (of_decide_eq_true (by kernel_rfl)) (by unfold Func.isWrapper; first | (rw [if_pos (by decide +kernel)]; kernel_rfl) | (rw [if_neg (by decide +kernel)]; exact ⟨rfl, rfl⟩))
    (fun os started H enc _ => lifted os started H enc)

theorem tote_plays : Rows.TotePlaysSaid := over
#print axioms tote_plays
end Go.Proofs.Ytjoiecedidmbcaa
