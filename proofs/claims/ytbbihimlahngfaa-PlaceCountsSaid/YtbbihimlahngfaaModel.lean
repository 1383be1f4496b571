/- Who shows which location, as plain lists; and a map's datum that reads so. No program is named here. -/
import Derived.Test.YtbbihimlahngfaaBase
import Derived.Maps.OwnSet
import Derived.Maps.OwnOps
import Derived.Maps.RangeWalk
import Derived.Maps.Views
import Derived.Maps.Ext
namespace Go.Proofs.Ytbbihimlahngfaa
open Go.RowKit

abbrev Row := List (Int × Int)
/-- By rising locations. -/
def Ris (L : Row) : Prop := L.Pairwise (fun p q => p.1 < q.1)
def look (L : Row) (l : Int) : Option Int := (L.find? (fun p => p.1 == l)).map (·.2)
def put : Row → Int → Int → Row
  | [], l, a => [(l, a)]
  | p :: r, l, a => if l < p.1 then (l, a) :: p :: r else if p.1 = l then (l, a) :: r else p :: put r l a

/-- The datum of a map that holds the row. -/
def enc (p : Int × Int) : Lit × DataW Unit := (.int .u16 p.1, .lit (.int .u8 p.2))
def dm (L : Row) : DataW Unit := .map (L.map enc)

theorem find_enc (L : Row) (l : Int) : (L.map enc).find? (fun p => p.1.sameKey (.int .u16 l)) = (L.find? (fun p => p.1 == l)).map enc := by
  rw [List.find?_map]
  congr 1
  congr 1
  funext p
  simp only [enc, Function.comp, Lit.sameKey, true_and]
  by_cases h : p.1 = l <;> simp [h]
theorem has_dm (L : Row) (l : Int) : Maps.has (dm L) (.int .u16 l) = (look L l).isSome := by
  have h : Maps.has (dm L) (.int .u16 l) = ((L.map enc).find? (fun p => p.1.sameKey (.int .u16 l))).isSome := by
    rw [dm, Maps.has_eq, Bool.eq_iff_iff, List.find?_isSome, List.any_eq_true]
  rw [h, find_enc, look]
  simp
theorem atKey_dm (L : Row) (l : Int) (z : Int) : (dm L).atKey (.int .u16 l) (.lit (.int .u8 z)) = .lit (.int .u8 ((look L l).getD z)) := by
  simp only [dm, DataW.atKey, find_enc, look]
  cases L.find? (fun p => p.1 == l) <;> simp [enc]
theorem size_dm (L : Row) : Maps.size (dm L) = L.length := by simp [dm, Maps.size]
theorem insert_lt (x : Lit × DataW Unit) : ∀ (L : List (Lit × DataW Unit)), (∀ y ∈ L, x.1.before y.1 = true) → DataW.insert x L = x :: L
  | [], _ => rfl
  | y :: r, h => by simp [DataW.insert, h y (by simp)]
theorem put_dm (L : Row) (hL : Ris L) (l a : Int) : (dm L).put (.int .u16 l) (.lit (.int .u8 a)) = dm (put L l a) := by
  show DataW.map (DataW.insert (enc (l, a)) ((L.map enc).filter fun p => !p.1.sameKey (.int .u16 l))) = .map ((put L l a).map enc)
  congr 1
  induction L with
  | nil => rfl
  | cons p r ih =>
    have hr : Ris r := (List.pairwise_cons.1 hL).2
    have hp : ∀ q ∈ r, p.1 < q.1 := (List.pairwise_cons.1 hL).1
    have keep : ∀ (r : Row), (∀ q ∈ r, l < q.1) → ((r.map enc).filter fun p => !p.1.sameKey (.int .u16 l)) = r.map enc := fun r h => by
      refine List.filter_eq_self.2 fun y hy => ?_
      obtain ⟨q, hq, rfl⟩ := List.mem_map.1 hy
      have := h q hq
      simp [enc, Lit.sameKey]
      omega
    by_cases h1 : l < p.1
    · have hall : ∀ q ∈ p :: r, l < q.1 := fun q hq => by
        rcases List.mem_cons.1 hq with rfl | hq
        · exact h1
        · have := hp q hq; omega
      rw [keep _ hall, insert_lt _ _ (fun y hy => by
        obtain ⟨q, hq, rfl⟩ := List.mem_map.1 hy
        simpa [enc, Lit.before] using hall q hq)]
      simp [put, h1]
    · by_cases h2 : p.1 = l
      · have hall : ∀ q ∈ r, l < q.1 := fun q hq => by have := hp q hq; omega
        have e1 : ((p :: r).map enc).filter (fun p => !p.1.sameKey (.int .u16 l)) = r.map enc := by
          rw [List.map_cons, List.filter_cons, if_neg (by simp [enc, Lit.sameKey, h2]), keep _ hall]
        rw [e1, insert_lt _ _ (fun y hy => by
          obtain ⟨q, hq, rfl⟩ := List.mem_map.1 hy
          simpa [enc, Lit.before] using hall q hq)]
        simp [put, h1, h2]
      · have e1 : ((p :: r).map enc).filter (fun p => !p.1.sameKey (.int .u16 l)) = enc p :: ((r.map enc).filter fun p => !p.1.sameKey (.int .u16 l)) := by
          rw [List.map_cons, List.filter_cons, if_pos (by simp [enc, Lit.sameKey, h2])]
        rw [e1]
        have e2 : (enc (l, a)).1.before (enc p).1 = false := by simp [enc, Lit.before]; omega
        simp only [DataW.insert, e2, Bool.false_eq_true, if_false, put, h1, h2, List.map_cons]
        rw [ih hr]

theorem look_mem {L : Row} {l a : Int} (h : look L l = some a) : (l, a) ∈ L := by
  unfold look at h
  obtain ⟨p, hp, rfl⟩ := Option.map_eq_some_iff.1 h
  have h1 := List.find?_some hp
  simp at h1
  rw [← h1]
  exact List.mem_of_find?_eq_some hp
theorem look_of_mem {L : Row} (hL : Ris L) {l a : Int} (h : (l, a) ∈ L) : look L l = some a := by
  induction L with
  | nil => simp at h
  | cons p r ih =>
    have hr : Ris r := (List.pairwise_cons.1 hL).2
    have hp : ∀ q ∈ r, p.1 < q.1 := (List.pairwise_cons.1 hL).1
    rcases List.mem_cons.1 h with rfl | h
    · simp [look]
    · have := hp _ h
      have e : (p.1 == l) = false := by simp; simp at this; omega
      have := ih hr h
      simp only [look, List.find?_cons, e] at this ⊢
      exact this
theorem mem_put {L : Row} (hL : Ris L) (l a : Int) (p : Int × Int) : p ∈ put L l a ↔ p = (l, a) ∨ (p ∈ L ∧ p.1 ≠ l) := by
  induction L with
  | nil => simp [put]
  | cons q r ih =>
    have hr : Ris r := (List.pairwise_cons.1 hL).2
    have hq : ∀ q' ∈ r, q.1 < q'.1 := (List.pairwise_cons.1 hL).1
    have off : ∀ {m : Int}, m ≤ q.1 → p ∈ r → p.1 ≠ m := fun hm hp e => by have := hq p hp; omega
    unfold put
    split
    · rename_i h1
      simp only [List.mem_cons]
      constructor
      · rintro (rfl | rfl | h)
        · exact .inl rfl
        · exact .inr ⟨.inl rfl, by omega⟩
        · exact .inr ⟨.inr h, off (by omega) h⟩
      · rintro (rfl | ⟨rfl | h, _⟩)
        · exact .inl rfl
        · exact .inr (.inl rfl)
        · exact .inr (.inr h)
    · split
      · rename_i h1 h2
        simp only [List.mem_cons]
        constructor
        · rintro (rfl | h)
          · exact .inl rfl
          · exact .inr ⟨.inr h, off (by omega) h⟩
        · rintro (rfl | ⟨rfl | h, h3⟩)
          · exact .inl rfl
          · exact absurd h2 h3
          · exact .inr h
      · rename_i h1 h2
        simp only [List.mem_cons, ih hr]
        constructor
        · rintro (rfl | rfl | ⟨h, h3⟩)
          · exact .inr ⟨.inl rfl, h2⟩
          · exact .inl rfl
          · exact .inr ⟨.inr h, h3⟩
        · rintro (rfl | ⟨rfl | h, h3⟩)
          · exact .inr (.inl rfl)
          · exact .inl rfl
          · exact .inr (.inr ⟨h, h3⟩)
theorem ris_put {L : Row} (hL : Ris L) (l a : Int) : Ris (put L l a) := by
  induction L with
  | nil => simp [put, Ris]
  | cons q r ih =>
    have hr : Ris r := (List.pairwise_cons.1 hL).2
    have hq : ∀ q' ∈ r, q.1 < q'.1 := (List.pairwise_cons.1 hL).1
    unfold put
    split
    · rename_i h1
      refine List.pairwise_cons.2 ⟨fun q' h => ?_, hL⟩
      rcases List.mem_cons.1 h with rfl | h
      · exact h1
      · have := hq q' h; simp; omega
    · split
      · rename_i h1 h2
        exact List.pairwise_cons.2 ⟨fun q' h => by have := hq q' h; simp; omega, hr⟩
      · rename_i h1 h2
        refine List.pairwise_cons.2 ⟨fun q' h => ?_, ih hr⟩
        rcases (mem_put hr l a q').1 h with rfl | ⟨h, _⟩
        · simp; omega
        · exact hq q' h

/-- A map is of no more entries than its datum has. -/
theorem own_tight {H : Type} {P : Program} {k : TypeId} {R : Value → Option (DataW H × List MemPlace)} {w : World} {b n : Nat} {D : DataW H} (h : w.ownsMap P k R b n D) : w.ownsMap P k R b (Maps.size D) D := by
  obtain ⟨es, clock, hb, F, _, hD⟩ := h
  refine ⟨es, clock, hb, F, ?_, hD⟩
  rw [hD, Maps.size_eq, length_sorted]
  simp
theorem Kept.ownsMap {H : Type} {F : Nat → Prop} {P : Program} {k : TypeId} {R : Value → Option (DataW H × List MemPlace)} {w w' : World} {b n : Nat} {D : DataW H} (hk : Kept F w w') (h : w.ownsMap P k R b n D) (hn : ¬ F b) : w'.ownsMap P k R b n D := by
  obtain ⟨es, clock, hb, rest⟩ := h
  exact ⟨es, clock, (hk.block b (lt_of_block hb) hn).trans hb, rest⟩

/-! ### what an address is, and the steps -/
/-- What address a is; free, if there is none. -/
def isS (k : List Int) (a : Int) : Int := if 1 ≤ a ∧ a ≤ 31 then k.getD a.toNat 0 else 0
/-- All that are spare. -/
def spares (k : List Int) : List Int := ((List.range 32).filter (fun i => k.getD i 0 == 1)).map (fun i : Nat => (i : Int))
structure St where
  k : List Int
  L : Row
  deriving DecidableEq
structure Ok (s : St) : Prop where
  len : s.k.length = 32
  zero : s.k.getD 0 0 = 0
  ris : Ris s.L
  locs : ∀ p ∈ s.L, 0 ≤ p.1 ∧ p.1 < 64
  adrs : ∀ p ∈ s.L, 1 ≤ p.2 ∧ p.2 ≤ 31 ∧ s.k.getD p.2.toNat 0 = 3
  back : ∀ i, i < 32 → s.k.getD i 0 = 3 → ∃ p ∈ s.L, p.2 = i
  inj' : ∀ p ∈ s.L, ∀ q ∈ s.L, p.2 = q.2 → p = q
  kinds : ∀ i, i < 32 → 0 ≤ s.k.getD i 0 ∧ s.k.getD i 0 ≤ 3
theorem Ok.inj {s : St} (h : Ok s) : s.L.Pairwise (fun p q => p.2 ≠ q.2) := h.ris.imp_of_mem fun {p q} hp hq hlt e => by
  have := h.inj' p hp q hq e
  subst this
  omega
/-- Which location an address shows. -/
def ofS (L : Row) (a : Int) : Option Int := (L.find? (fun p => p.2 == a)).map (·.1)
def mapCode (s : St) (l a : Int) : Int :=
  if 64 ≤ l ∨ ¬ (1 ≤ a ∧ a ≤ 31) then 1 else if (look s.L l).isSome ∨ isS s.k a ≠ 0 then 8 else 0
def mapS (s : St) (l a : Int) : St := if mapCode s l a = 0 then ⟨s.k.set a.toNat 3, put s.L l a⟩ else s
def failTo (s : St) (a : Int) : Int := if isS s.k a = 3 then (spares s.k).headD 0 else 0
def failCode (s : St) (a : Int) : Int :=
  if isS s.k a = 0 then 6 else if isS s.k a = 2 then 7 else if isS s.k a = 1 then 0 else if spares s.k = [] then 5 else 0
def repl (L : Row) (a t : Int) : Row := L.map (fun p => if p.2 = a then (p.1, t) else p)
def failS (s : St) (a : Int) : St :=
  if isS s.k a = 1 then ⟨s.k.set a.toNat 2, s.L⟩
  else if isS s.k a = 3 ∧ spares s.k ≠ [] then ⟨(s.k.set a.toNat 2).set (failTo s a).toNat 3, repl s.L a (failTo s a)⟩ else s
def bringCode (s : St) (a : Int) : Int := if isS s.k a = 0 then 6 else if isS s.k a = 2 then 0 else 7
def bringS (s : St) (a : Int) : St := if isS s.k a = 2 then ⟨s.k.set a.toNat 1, s.L⟩ else s
end Go.Proofs.Ytbbihimlahngfaa
