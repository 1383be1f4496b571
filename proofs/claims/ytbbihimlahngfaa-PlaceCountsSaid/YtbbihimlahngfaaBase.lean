/- Words for memory that all walks of this seat use: what is kept, slices that read as lists, append. No program is named here. -/
import Derived.WalkKit
import Derived.WalkSpells
import Derived.WalkLawsBesides
import Derived.Deep.QuietTactic
import Derived.BigQuiet
import Derived.Deep.Draws
import Derived.Lib.Hide
import Derived.Maps.AppendAt
import Derived.Laws.AppendOwnNone
namespace Go.Proofs.Ytbbihimlahngfaa
open Go.RowKit

/-- All blocks of 'w' outside F are in w' as they were; the streams too. -/
structure Kept (F : Nat → Prop) (w w' : World) : Prop where
  os : w'.os = w.os
  tape : w'.tape = w.tape
  output : w'.output = w.output
  size : w.heap.size ≤ w'.heap.size
  block : ∀ k, k < w.heap.size → ¬ F k → w'.heap[k]? = w.heap[k]?

def Emp : Nat → Prop := fun _ => False
def Bk (v : Value) : Nat → Prop := fun k => v.ownBlock = some k

section
variable {F G : Nat → Prop} {w w0 w1 w2 w' : World}
theorem Kept.refl (F : Nat → Prop) (w : World) : Kept F w w := ⟨rfl, rfl, rfl, Nat.le_refl _, fun _ _ _ => rfl⟩
theorem Kept.mono (h : Kept F w w') (hf : ∀ k, k < w.heap.size → F k → G k) : Kept G w w' :=
  ⟨h.os, h.tape, h.output, h.size, fun k hk hg => h.block k hk (fun hf' => hg (hf k hk hf'))⟩
theorem Kept.trans (h : Kept F w0 w1) (k : Kept G w1 w2) (hf : ∀ j, j < w0.heap.size → G j → F j) : Kept F w0 w2 :=
  ⟨k.os.trans h.os, k.tape.trans h.tape, k.output.trans h.output, Nat.le_trans h.size k.size,
   fun j hj hn => (k.block j (Nat.lt_of_lt_of_le hj h.size) (fun hg => hn (hf j hj hg))).trans (h.block j hj hn)⟩
theorem Kept.trans_emp (h : Kept F w0 w1) (k : Kept Emp w1 w2) : Kept F w0 w2 := h.trans k (fun _ _ hf => hf.elim)
theorem Kept.emp_trans (h : Kept Emp w0 w1) (k : Kept F w1 w2) : Kept F w0 w2 := (h.mono (fun _ _ hf => hf.elim)).trans k (fun _ _ hf => hf)
theorem Kept.of_emp (h : Kept Emp w0 w1) : Kept F w0 w1 := h.mono (fun _ _ hf => hf.elim)
theorem Kept.drew (h : Kept F w0 w) : Kept F w0 w.drew := ⟨h.os, h.tape, h.output, h.size, h.block⟩
theorem Kept.drewN (h : Kept F w0 w) (n : Nat) : Kept F w0 (w.drewN n) := ⟨h.os, h.tape, h.output, h.size, h.block⟩
theorem Kept.alloc (h : Kept F w0 w) (o : Obj) : Kept F w0 (w.alloc o) :=
  h.trans (G := Emp) ⟨rfl, rfl, rfl, by simp, fun k hk _ => Below.heap_alloc w o k hk⟩ (fun _ _ hf => hf.elim)
theorem Kept.setCell (h : Kept F w0 w) {p : Addr} (hp : p.block < w0.heap.size → F p.block) (u : Value) : Kept F w0 (w.setCell p u) :=
  h.trans (G := fun k => k = p.block) ⟨rfl, rfl, rfl, by simp, fun k _ hn => heap_setCell_other w p k u hn⟩ (fun k hk hf => by subst hf; exact hp hk)
theorem Kept.of_grown {row : Option Nat} (hg : w.grownBy w' row) (hr : ∀ k, row = some k → F k) : Kept F w w' :=
  ⟨hg.os, hg.tape, hg.output, hg.size, fun k hk hn => hg.block k hk (fun e => hn (hr k e.symm))⟩
theorem Kept.grown (h : Kept F w0 w) {row : Option Nat} (hg : w.grownBy w' row) (hr : ∀ k, k < w0.heap.size → row = some k → F k) : Kept F w0 w' :=
  h.trans (G := fun k => row = some k) (Kept.of_grown hg fun _ e => e) hr
theorem Kept.cell (h : Kept F w w') {p : Addr} (hp : p.block < w.heap.size) (hn : ¬ F p.block) : w'.cell? p = w.cell? p :=
  World.cell?_of_block (h.block _ hp hn)
theorem Kept.cellSome (h : Kept F w w') {p : Addr} {v : Value} (hc : w.cell? p = some v) (hn : ¬ F p.block) : w'.cell? p = some v :=
  (h.cell (World.block_lt_of_cell? w p hc) hn).trans hc
theorem Kept.frozen (h : Kept F w w') {p : Addr} (hp : p.block < w.heap.size) (hn : ¬ F p.block) : w'.frozen? p = w.frozen? p :=
  World.frozen?_of_block (h.block _ hp hn)
theorem Kept.below {B : Nat} (h : Kept F w w') (hB : B ≤ w.heap.size) (hf : ∀ k, k < B → ¬ F k) : Below B w w' :=
  ⟨h.os, h.tape, h.output, h.size, fun k hk => h.block k (Nat.lt_of_lt_of_le hk hB) (hf k hk)⟩
theorem Kept.ownsRow {b : Nat} {e : TypeId} {size : Nat} {v : Value} {n : Nat} {xs : List Value} (h : Kept F w w') (ho : w.ownsRow b e size v n xs) (hn : ∀ k, v.ownBlock = some k → ¬ F k) : w'.ownsRow b e size v n xs := by
  refine ⟨ho.1, ?_⟩
  rcases ho.2 with hn' | ⟨g, cap, cur, rfl, hb, hgg, rest⟩
  · exact .inl hn'
  · exact .inr ⟨g, cap, cur, rfl, hb, (h.block g (lt_of_block hgg) (hn g rfl)).trans hgg, rest⟩
end

/-- Block g is just the cells cs of element type t; none is frozen. -/
def Blk (w : World) (g : Nat) (t : TypeId) (cs : Array Value) : Prop := w.heap[g]? = some (.cells cs t (0, 0))
section
variable {F : Nat → Prop} {w w' : World} {g : Nat} {t : TypeId} {cs : Array Value}
theorem Blk.lt (h : Blk w g t cs) : g < w.heap.size := lt_of_block h
theorem Blk.cell (h : Blk w g t cs) (i : Nat) : w.cell? ⟨g, i, none⟩ = cs[i]? := cell_of_row w g i cs t (0, 0) h
theorem Blk.frozen (h : Blk w g t cs) (i : Nat) : w.frozen? ⟨g, i, none⟩ = false := by
  unfold Blk at h
  simp [World.frozen?, h]
theorem Blk.new (w : World) (t : TypeId) (cs : Array Value) : Blk (w.alloc (.cells cs t)) w.heap.size t cs := heap_alloc_new w _
theorem Blk.kept (h : Blk w g t cs) (hk : Kept F w w') (hn : ¬ F g) : Blk w' g t cs := (hk.block g h.lt hn).trans h
theorem Blk.set_ (h : Blk w g t cs) (i : Nat) (u : Value) : Blk (w.setCell ⟨g, i, none⟩ u) g t (cs.setIfInBounds i u) := by
  unfold Blk at h ⊢
  simp [World.setCell, Array.getElem?_modify, h]
theorem Blk.far (h : Blk w g t cs) {p : Addr} (hp : g ≠ p.block) (u : Value) : Blk (w.setCell p u) g t cs := (heap_setCell_other w p g u hp).trans h
theorem Blk.alloc (h : Blk w g t cs) (o : Obj) : Blk (w.alloc o) g t cs := (Below.heap_alloc w o g h.lt).trans h
theorem Blk.drew (h : Blk w g t cs) : Blk w.drew g t cs := h
theorem Blk.drewN (h : Blk w g t cs) (n : Nat) : Blk (w.drewN n) g t cs := h
theorem Blk.inj {t' : TypeId} {cs' : Array Value} (h : Blk w g t cs) (h' : Blk w g t' cs') : t = t' ∧ cs = cs' := by
  unfold Blk at h h'
  rw [h] at h'
  injection h' with h'
  injection h' with hc ht
  exact ⟨ht, hc⟩
theorem own_ne {e : TypeId} {size n : Nat} {v : Value} {xs : List Value} (h : w.ownsRow 0 e size v n xs) (hg : Blk w g t cs) (hne : e ≠ t) : v.ownBlock ≠ some g := by
  rcases h.2 with ⟨rfl, _⟩ | ⟨g', cap, cur, rfl, _, hh, _⟩
  · simp [Value.ownBlock]
  · intro he
    have : g' = g := by simpa [Value.ownBlock] using he
    subst this
    exact hne (Blk.inj (t := e) hh hg).1
end

/-- The slice value v, of n elements of 'size' cells each, reads as the cells xs. -/
def Sl (w : World) (size : Nat) (v : Value) (n : Nat) (xs : List Value) : Prop :=
  xs.length = n * size ∧ ∃ (A : Option Addr) (c : Nat), v = .slice A n c ∧ n ≤ c ∧ c ≤ maxLen ∧ (A = none → c = 0) ∧
    (0 < n → ∃ g o, A = some ⟨g, o, none⟩ ∧ g < w.heap.size ∧ ∀ j u, xs[j]? = some u → w.cell? ⟨g, o + j, none⟩ = some u)
section
variable {F : Nat → Prop} {w w' : World} {size n : Nat} {v : Value} {xs : List Value}
theorem Sl.nil (w : World) (size : Nat) : Sl w size (.slice none 0 0) 0 [] := ⟨by simp, none, 0, rfl, Nat.le_refl _, Nat.zero_le _, fun _ => rfl, fun h => absurd h (Nat.lt_irrefl _)⟩
theorem Sl.kept (h : Sl w size v n xs) (hk : Kept F w w') (hn : ∀ k, v.ownBlock = some k → ¬ F k) : Sl w' size v n xs := by
  obtain ⟨h1, A, c, rfl, h2, h3, h4, h5⟩ := h
  refine ⟨h1, A, c, rfl, h2, h3, h4, fun h0 => ?_⟩
  obtain ⟨g, o, rfl, hg, hc⟩ := h5 h0
  exact ⟨g, o, rfl, Nat.lt_of_lt_of_le hg hk.size, fun j u hu => hk.cellSome (hc j u hu) (hn g rfl)⟩
theorem Sl.of_own {b : Nat} {e : TypeId} (h : w.ownsRow b e size v n xs) : Sl w size v n xs := by
  refine ⟨h.1, ?_⟩
  rcases h.2 with ⟨rfl, rfl⟩ | ⟨g, cap, cur, rfl, hb, hgg, h1, h2, h3, h4⟩
  · exact ⟨none, 0, rfl, Nat.le_refl _, Nat.zero_le _, fun _ => rfl, fun h => absurd h (Nat.lt_irrefl _)⟩
  · refine ⟨some ⟨g, 0, none⟩, cap, rfl, h1, h2, fun e => (by cases e), fun _ => ⟨g, 0, rfl, lt_of_block hgg, fun j u hu => ?_⟩⟩
    have := h.cells (g := g) rfl j u hu
    rwa [Addr.add_lit] at this
/-- A cut: 'v[k:]', as the model spells it. -/
theorem Sl.drop {A : Option Addr} {c k : Nat} (h : Sl w size (.slice A n c) n xs) (hk : k ≤ n) (hs : 0 < size) : Sl w size (.slice (if c = k then A else A.map (·.add (k * size))) (n - k) (c - k)) (n - k) (xs.drop (k * size)) := by
  obtain ⟨h1, A', c', he, h2, h3, h4, h5⟩ := h
  injection he with hA _ hc
  subst hA; subst hc
  refine ⟨by rw [List.length_drop, h1, Nat.sub_mul], _, _, rfl, by omega, by omega, ?_, fun h0 => ?_⟩
  · intro hn
    split at hn
    · omega
    · cases A with
      | none => have := h4 rfl; omega
      | some a => simp at hn
  · obtain ⟨g, o, rfl, hg, hc⟩ := h5 (by omega)
    rw [if_neg (by omega)]
    refine ⟨g, o + k * size, by simp only [Option.map_some]; rw [Addr.add_lit], hg, fun j u hu => ?_⟩
    rw [Nat.add_assoc]
    exact hc _ u (by rw [← hu, List.getElem?_drop])
theorem Sl.take {A : Option Addr} {c k : Nat} (h : Sl w size (.slice A n c) n xs) (hk : k ≤ n) : Sl w size (.slice A k c) k (xs.take (k * size)) := by
  obtain ⟨h1, A', c', he, h2, h3, h4, h5⟩ := h
  injection he with hA _ hc
  subst hA; subst hc
  refine ⟨by rw [List.length_take, h1]; exact Nat.min_eq_left (Nat.mul_le_mul_right _ hk), _, _, rfl, by omega, by omega, h4, fun h0 => ?_⟩
  obtain ⟨g, o, rfl, hg, hc⟩ := h5 (by omega)
  refine ⟨g, o, rfl, hg, fun j u hu => hc j u ?_⟩
  rw [List.getElem?_take] at hu
  split at hu
  · exact hu
  · cases hu
end

section
variable {P : Program} {w : World}
/-- append onto a row of the program's own, of whatever source. -/
theorem run_app (t ty e : TypeId) (i : TypeInfo) (z : Value) (size bytes : Nat) (ht : P.underlying t = some (.slice e)) (hi : P.info? e = some i) (hz : i.zero = some z)
    (hsize : i.size = size) (hby : i.bytes = bytes) (hzs : z.cells.size = size) (hsz : 0 < size)
    (v : Value) (n : Nat) (xs : List Value) (hown : w.ownsRow 0 e size v n xs) (vx : Value) (m : Nat) (news : List Value) (hsl : Sl w size vx m news) (h1 : ∀ u ∈ news, u.oneCell' = true)
    (h63 : n + m ≤ maxLen) (hbytes : (n + m) * bytes ≤ 140737488355328) :
    ∃ v' w', (Builtin.append_ #[t, t] ty #[v, vx]).run P w = .ok v' w' ∧ w'.ownsRow 0 e size v' (n + m) (xs ++ news) ∧ w.grownBy w' v.ownBlock ∧
      (v' = .slice none 0 0 ↔ v = .slice none 0 0 ∧ m = 0) ∧ (v'.ownBlock = v.ownBlock ∨ v'.ownBlock = some w.heap.size) := by
  obtain ⟨hl, A, c, rfl, _, _, hA, h0⟩ := hsl
  cases A with
  | some a =>
    refine run_append_own_at (P := P) w 0 t ty e i z size bytes ht hi hz hsize hby hzs hsz v n xs hown a m c news hl ?_ h1 h63 hbytes (Nat.zero_le _)
    intro j u hu
    have hm : 0 < m := by
      rcases Nat.eq_zero_or_pos m with rfl | h
      · have : news = [] := List.eq_nil_of_length_eq_zero (by simpa using hl)
        subst this; simp at hu
      · exact h
    obtain ⟨g, o, he, _, hc⟩ := h0 hm
    obtain rfl := Option.some.inj he
    rw [Addr.add_lit]
    exact hc j u hu
  | none =>
    have hm : m = 0 := by
      rcases Nat.eq_zero_or_pos m with h | h
      · exact h
      · obtain ⟨g, o, he, _⟩ := h0 h; cases he
    have hc := hA rfl
    subst hm; subst hc
    have hn : news = [] := List.eq_nil_of_length_eq_zero (by simpa using hl)
    subst hn
    refine ⟨v, w, run_append_owned_none (P := P) w 0 t ty e i size ht hi v n xs hown, by simpa using hown, ⟨rfl, rfl, rfl, Nat.le_refl _, fun _ _ _ => rfl⟩, by simp, .inl rfl⟩
theorem wpList_app {ops : Array Oper} {rest : List Oper} {o : Oper} {a : Act} {Q : Exit → Act → World → Prop} (hgd : o.guard = none) (s x : Operand) (t : TypeId)
    (ho : o.op = .call { callee := .builtin .append, args := #[s, x], argTypes := #[t, t] })
    (e : TypeId) (i : TypeInfo) (z : Value) (size bytes : Nat) (ht : P.underlying t = some (.slice e)) (hi : P.info? e = some i) (hz : i.zero = some z)
    (hsize : i.size = size) (hby : i.bytes = bytes) (hzs : z.cells.size = size) (hsz : 0 < size)
    (v : Value) (n : Nat) (xs : List Value) (hs : a.eval s = v) (hown : w.ownsRow 0 e size v n xs)
    (vx : Value) (m : Nat) (news : List Value) (hx : a.eval x = vx) (hsl : Sl w size vx m news) (h1 : ∀ u ∈ news, u.oneCell' = true)
    (h63 : n + m ≤ maxLen) (hbytes : (n + m) * bytes ≤ 140737488355328)
    (h : ∀ v' w', w'.ownsRow 0 e size v' (n + m) (xs ++ news) → Kept (Bk v) w w' → (v' = .slice none 0 0 ↔ v = .slice none 0 0 ∧ m = 0) → (∀ k, v'.ownBlock = some k → v.ownBlock = some k ∨ w.heap.size ≤ k) → wpList P ops Q rest (a.put o.dst v') w') :
    wpList P ops Q (o :: rest) a w := by
  refine wpList_plain hgd fun K hK => ?_
  obtain ⟨v', w', hr, h2, h3, h4, h5⟩ := run_app (P := P) (w := w) t o.type e i z size bytes ht hi hz hsize hby hzs hsz v n xs hown vx m news hsl h1 h63 hbytes
  unfold Oper.wp execOp
  simp only [ho, resolve, invoke, builtin, Sem.run_bind, Sem.run_pure, Result.andThen_ok, List.map_toArray, List.map_cons, List.map_nil, hs, hx, hr]
  refine hK _ _ (h v' w' h2 (Kept.of_grown h3 fun k e => e) h4 (fun k hk => ?_))
  rcases h5 with h5 | h5
  · exact .inl (h5 ▸ hk)
  · rw [h5] at hk; right; injection hk with hk; omega
/-- A new block that holds the cells, as 'buildSlice' lays it: it reads so. -/
theorem Sl.new (w : World) (t : TypeId) (cs : List Value) (size n : Nat) (hn : cs.length = n * size) (hm : n ≤ maxLen) : Sl (w.alloc (.cells cs.toArray t)) size (.slice (some ⟨w.heap.size, 0, none⟩) n n) n cs :=
  ⟨hn, _, _, rfl, Nat.le_refl _, hm, fun e => (by cases e), fun _ => ⟨w.heap.size, 0, rfl, by simp, fun j u hu => by
    rw [Blk.cell (Blk.new w t _)]; simpa using hu⟩⟩
end

theorem own_slice {w : World} {b : Nat} {e : TypeId} {size : Nat} {v : Value} {n : Nat} {xs : List Value} (h : w.ownsRow b e size v n xs) : ∃ A c, v = .slice A n c ∧ n ≤ c ∧ c ≤ 9223372036854775807 := by
  rcases h.2 with ⟨rfl, rfl⟩ | ⟨g, cap, cur, rfl, _, _, h1, h2, _⟩
  · exact ⟨none, 0, rfl, Nat.le_refl _, Nat.zero_le _⟩
  · exact ⟨_, cap, rfl, h1, h2⟩
theorem own_some {w : World} {b : Nat} {e : TypeId} {size : Nat} {v : Value} {n : Nat} {xs : List Value} (h : w.ownsRow b e size v (n + 1) xs) : ∃ g c, v = .slice (some ⟨g, 0, none⟩) (n + 1) c ∧ n + 1 ≤ c ∧ c ≤ 9223372036854775807 ∧ g < w.heap.size ∧
    (∀ j u, xs[j]? = some u → w.cell? ⟨g, j, none⟩ = some u) ∧ (∀ j, w.frozen? ⟨g, j, none⟩ = false) := by
  rcases h.2 with ⟨_, h⟩ | ⟨g, cap, cur, rfl, _, hg, h1, h2, h3, h4⟩
  · omega
  · refine ⟨g, cap, rfl, h1, h2, lt_of_block hg, fun j u hu => ?_, fun j => frozen_of_row w g j cur e hg⟩
    have := h.cells (g := g) rfl j u hu
    rwa [Addr.add_lit, Nat.zero_add] at this
/-- '.slice' values: the block of a value that is nil or at a block. -/
theorem lt_of_own {w : World} {b : Nat} {e : TypeId} {size : Nat} {v : Value} {n : Nat} {xs : List Value} (h : w.ownsRow b e size v n xs) : ∀ k, v.ownBlock = some k → k < w.heap.size := fun k hk => (h.lt k hk).2

end Go.Proofs.Ytbbihimlahngfaa
