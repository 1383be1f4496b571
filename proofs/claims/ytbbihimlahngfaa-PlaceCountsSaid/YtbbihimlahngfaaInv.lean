/- A Places that was made since a world, and nothing of that world has changed: the steps in that form. -/
import Derived.Test.YtbbihimlahngfaaMove
import Derived.Test.YtbbihimlahngfaaNew
import Derived.Test.YtbbihimlahngfaaOk
import Derived.Laws.BytesArg
namespace Go.Proofs.Ytbbihimlahngfaa
open Go.RowKit

structure PI (w0 w : World) (b mb : Nat) (s : St) : Prop where
  rep : PRep w b mb s
  ok : Ok s
  kept : Kept Emp w0 w
  nb : w0.heap.size ≤ b
  nm : w0.heap.size ≤ mb
section
variable {w0 w w' : World} {b mb : Nat} {s s' : St}
theorem PI.few (h : PI w0 w b mb s) : s.L.length ≤ 70000 := Nat.le_trans h.ok.few (by omega)
theorem PI.on (h : PI w0 w b mb s) (hk : Kept Emp w w') : PI w0 w' b mb s := ⟨h.rep.kept0 hk, h.ok, h.kept.trans_emp hk, h.nb, h.nm⟩
theorem PI.off {F : Nat → Prop} (h : PI w0 w b mb s) (hk : Kept F w w') (hf : ∀ k, F k → w0.heap.size ≤ k ∧ k ≠ b ∧ k ≠ mb) : PI w0 w' b mb s :=
  ⟨h.rep.kept hk (fun k hp hF => by rcases hp with rfl | rfl; exact (hf _ hF).2.1 rfl; exact (hf _ hF).2.2 rfl), h.ok, h.kept.trans hk (fun j hj hF => absurd (hf j hF).1 (by omega)), h.nb, h.nm⟩
theorem PI.step (h : PI w0 w b mb s) (hr : PRep w' b mb s') (hk : Kept (PF b mb) w w') (ho : Ok s') : PI w0 w' b mb s' :=
  ⟨hr, ho, h.kept.trans hk (fun j hj hf => by have := h.nb; have := h.nm; rcases hf with rfl | rfl <;> omega), h.nb, h.nm⟩

theorem Ok.new (L : List Int) : Ok ⟨newK L, []⟩ := by
  have key : ∀ (L k : List Int), k.length = 32 → (∀ i, 0 ≤ kd k i ∧ kd k i ≤ 1) → kd k 0 = 0 →
      (∀ i, 0 ≤ kd (L.foldl (fun k a => if kn a then k.set a.toNat 1 else k) k) i ∧ kd (L.foldl (fun k a => if kn a then k.set a.toNat 1 else k) k) i ≤ 1) ∧ kd (L.foldl (fun k a => if kn a then k.set a.toNat 1 else k) k) 0 = 0 := by
    intro L
    induction L with
    | nil => intro k _ h1 h2; exact ⟨h1, h2⟩
    | cons a L ih =>
      intro k hl h1 h2
      simp only [List.foldl_cons]
      by_cases hk : kn a = true
      · have hk' : 1 ≤ a ∧ a ≤ 31 := by simpa [kn] using hk
        rw [if_pos hk]
        refine ih _ (by simpa using hl) (fun i => ?_) ?_
        · rw [kd_set (by omega)]; split; omega; exact h1 i
        · rw [kd_set (by omega), if_neg (by omega)]; exact h2
      · rw [if_neg hk]
        exact ih k hl h1 h2
  have h0 : ∀ i, kd (List.replicate 32 (0 : Int)) i = 0 := fun i => by
    unfold kd
    simp only [List.getD, List.getElem?_replicate]
    split <;> rfl
  obtain ⟨h1, h2⟩ := key L (List.replicate 32 0) (by simp) (fun i => by rw [h0]; omega) (h0 0)
  refine ⟨newK_len L, h2, List.Pairwise.nil, by simp, by simp, fun i hi h3 => ?_, by simp, fun i hi => ?_⟩
  · have := (h1 i).2
    change kd (newK L) i = 3 at h3
    change kd (newK L) i ≤ 1 at this
    omega
  · have := h1 i
    change 0 ≤ kd (newK L) i ∧ kd (newK L) i ≤ 3
    change 0 ≤ kd (newK L) i ∧ kd (newK L) i ≤ 1 at this
    omega

theorem new_T (v : Value) (n : Nat) (L : List Int) (w : World) (hv : Sl w 1 v n (L.map (Value.int .u8))) (hL : ∀ a ∈ L, 0 ≤ a) :
    Calls Try.prog 10 #[v] w fun e w' => ∃ b mb, e = .returned (.pointer (some ⟨b, 0, none⟩)) ∧ PI w w' b mb ⟨newK L, []⟩ :=
  (new_any v n L w hv hL).mono fun e w' he => by
    obtain ⟨b, mb, h1, h2, h3, h4, h5⟩ := he
    exact ⟨b, mb, h1, h2, Ok.new L, h3, h4, h5⟩
theorem map_T (h : PI w0 w b mb s) (l a : Nat) (hl : l < 65536) (ha : a < 256) :
    Calls Try.prog 12 #[.pointer (some ⟨b, 0, none⟩), .int .u16 l, .int .u8 a] w fun e w' => e = .returned (.int .i64 (mapCode s l a)) ∧ PI w0 w' b mb (mapS s l a) :=
  (map_any h.rep h.ok.ris h.few l a hl ha).mono fun e w' he => ⟨he.1, h.step he.2.1 he.2.2 (h.ok.map (by omega))⟩
theorem fail_T (h : PI w0 w b mb s) (a : Nat) :
    Calls Try.prog 14 #[.pointer (some ⟨b, 0, none⟩), .int .u8 a] w fun e w' => e = .returned (.tuple #[.int .u8 (failTo s a), .int .i64 (failCode s a)]) ∧ PI w0 w' b mb (failS s a) :=
  (fail_any h.rep h.ok h.few a).mono fun e w' he => ⟨he.1, h.step he.2.1 he.2.2 (h.ok.fail a)⟩
theorem bring_T (h : PI w0 w b mb s) (a : Nat) :
    Calls Try.prog 16 #[.pointer (some ⟨b, 0, none⟩), .int .u8 a] w fun e w' => e = .returned (.int .i64 (bringCode s a)) ∧ PI w0 w' b mb (bringS s a) :=
  (bring_any h.rep a).mono fun e w' he => ⟨he.1, h.step he.2.1 he.2.2 (h.ok.bring a)⟩
theorem map_K (h : PI w0 w b mb s) (l a : Nat) (hl : l < 65536) (ha : a < 256) :
    Calls Try.prog 12 #[.pointer (some ⟨b, 0, none⟩), .int .u16 l, .int .u8 a] w fun e w' => e = .returned (.int .i64 (mapCode s l a)) ∧ PI w0 w' b mb (mapS s l a) ∧ Kept (PF b mb) w w' :=
  (map_any h.rep h.ok.ris h.few l a hl ha).mono fun e w' he => ⟨he.1, h.step he.2.1 he.2.2 (h.ok.map (by omega)), he.2.2⟩
theorem fail_K (h : PI w0 w b mb s) (a : Nat) :
    Calls Try.prog 14 #[.pointer (some ⟨b, 0, none⟩), .int .u8 a] w fun e w' => e = .returned (.tuple #[.int .u8 (failTo s a), .int .i64 (failCode s a)]) ∧ PI w0 w' b mb (failS s a) ∧ Kept (PF b mb) w w' :=
  (fail_any h.rep h.ok h.few a).mono fun e w' he => ⟨he.1, h.step he.2.1 he.2.2 (h.ok.fail a), he.2.2⟩
theorem bring_K (h : PI w0 w b mb s) (a : Nat) :
    Calls Try.prog 16 #[.pointer (some ⟨b, 0, none⟩), .int .u8 a] w fun e w' => e = .returned (.int .i64 (bringCode s a)) ∧ PI w0 w' b mb (bringS s a) ∧ Kept (PF b mb) w w' :=
  (bring_any h.rep a).mono fun e w' he => ⟨he.1, h.step he.2.1 he.2.2 (h.ok.bring a), he.2.2⟩
theorem at_T (h : PI w0 w b mb s) (l : Nat) (hl : l < 65536) :
    Calls Try.prog 18 #[.pointer (some ⟨b, 32, none⟩), .int .u16 l] w fun e w' => e = .returned (.tuple #[.int .u8 ((look s.L l).getD 0), .bool (look s.L l).isSome]) ∧ w = w' := at_any h.rep l hl
theorem of_T (h : PI w0 w b mb s) (a : Nat) :
    Calls Try.prog 20 #[.pointer (some ⟨b, 32, none⟩), .int .u8 a] w fun e w' => e = .returned (.tuple #[.int .u16 ((ofS s.L a).getD 0), .bool (ofS s.L a).isSome]) ∧ Kept Emp w w' := of_any h.rep h.ok.ris h.ok.inj a
theorem spares_T (h : PI w0 w b mb s) : Calls Try.prog 23 #[.pointer (some ⟨b, 0, none⟩)] w fun e w' => ∃ v, e = .returned v ∧ own8 w w' v (spares s.k) := spares_any h.rep
theorem locs_T (h : PI w0 w b mb s) : Calls Try.prog 22 #[.pointer (some ⟨b, 32, none⟩)] w fun e w' => ∃ v, e = .returned v ∧ own16 w w' v (s.L.map (·.1)) := locs_any h.rep h.ok.ris h.few
end

/-- 'string(b)' of a row of bytes. -/
theorem sl_convert {w : World} {A : Option Addr} {n c : Nat} {L : List Int} (h : Sl w 1 (.slice A n c) n (u8s L)) : (convert 22 9 (.slice A n c)).run Try.prog w = .ok (.string (strOfNums L)) w := by
  obtain ⟨hl, A', c', he, _, _, _, h0⟩ := h
  cases he
  have hn : L.length = n := by simpa using hl
  cases A with
  | none =>
    have : n = 0 := by
      rcases Nat.eq_zero_or_pos n with h | h
      · exact h
      · obtain ⟨g, o, e, _⟩ := h0 h; cases e
    subst this
    obtain rfl : L = [] := List.eq_nil_of_length_eq_zero hn
    have := run_convert_bytes_nil (P := Try.prog) w 22 5 Try.underlying22 Try.underlying5 0 c 9 Try.underlying9
    rw [this]; rfl
  | some a =>
    rcases Nat.eq_zero_or_pos n with h | h
    · subst h
      obtain rfl : L = [] := List.eq_nil_of_length_eq_zero hn
      rw [run_convert_bytes_string w 22 9 5 _ 0 c Try.underlying22 Try.underlying5 Try.underlying9]
      have hz : (loadCells a 0).run Try.prog w = .ok (([] : List Int).map (Value.int .u8)).toArray w := run_loadCells_list (P := Try.prog) w a [] (fun j v hv => by simp at hv)
      rw [run_bytesToString w a 0 c [] hz]
      rfl
    · obtain ⟨g, o, e, hg, hc⟩ := h0 h
      cases e
      exact run_convert_bytes_arg (P := Try.prog) w 22 5 Try.underlying22 Try.underlying5 g o n c L hn (fun i hi => hc i _ (by simp [List.getD, show i < L.length by omega])) 9 Try.underlying9
end Go.Proofs.Ytbbihimlahngfaa
