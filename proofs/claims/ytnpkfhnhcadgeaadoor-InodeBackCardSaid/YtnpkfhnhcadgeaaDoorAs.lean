/- append of a string's bytes, and of no zeros, onto a slice of bytes of the call's own. -/
import Derived.Test.YtnpkfhnhcadgeaaDoorAz
import Derived.Lib.AppendStr
namespace Go.Proofs.YtnpkfhnhcadgeaaDoor
open Go.RowKit
set_option linter.unusedVariables false
set_option linter.unusedSimpArgs false
section
variable {P : Program} (w : World)
theorem run_str {t u ty e : Nat} {z : Value} {by_ : Nat} (hE : Elt P t e z 1 by_) (hu : P.underlying u = some .string) (A : Addr) (n c : Nat) (xs : List Value) (hown : Ow w e 1 (some A) n c xs) (s : ByteArray) (hb : n + s.size ≤ 4294967296) :
    ∃ A' c' w', (Builtin.append_ #[t, u] ty #[.slice (some A) n c, .string s]).run P w = .ok (.slice A' (n + s.size) c') w' ∧ Ow w' e 1 A' (n + s.size) c' (xs ++ Lib.strCells s) ∧ Kp (bks (some A)) w w' ∧
      (A' = some A ∨ A' = some ⟨w.heap.size, 0, none⟩) := by
  obtain ⟨ht, hi, hzs, hsz, hby⟩ := hE
  obtain ⟨i, hi', hz, hs, hby'⟩ := info_parts hi
  clear hi
  have hi := hi'
  clear hi'
  subst hby'
  have hl := Lib.strCells_length s
  rcases hown.2 with ⟨hv, _⟩ | ⟨g, cap, cur, hv, hbg, hg, hnc, hcm, hcs, htake⟩
  · cases hv
  · injection hv with hA hn hc
    injection hA with hA
    subst hA; subst hc
    have hlen : (xs ++ Lib.strCells s).length = (n + s.size) * 1 := by rw [List.length_append, hown.1, hl, Nat.add_mul, Nat.mul_one]; omega
    by_cases hroom : n + s.size ≤ c
    · have hr := Lib.run_append_room_string (P := P) w t u ty e i ht hu hi hs g n c cur hg s hroom (by omega)
      refine ⟨_, _, _, hr, ⟨hlen, .inr ⟨g, c, _, rfl, hbg, setRow_heap w g cur _ e _ hg, hroom, hcm, ?_, ?_⟩⟩, (Kp.refl _ w).setRow (.inl (by simp [bks])) _, .inl rfl⟩
      · simp only [List.size_toArray, List.length_append, List.length_take, List.length_drop, Array.length_toList, hl]
        omega
      · rw [Nat.mul_one] at htake
        rw [htake, ← hlen]
        exact List.take_left
    · have holds : ∀ j u, xs[j]? = some u → w.cell? ((⟨g, 0, none⟩ : Addr).add j) = some u := World.ownsRow.cells hown (g := g) rfl
      have hbytes : (n + s.size) * i.bytes ≤ 140737488355328 := Nat.le_trans (Nat.mul_le_mul hb hby) (by decide)
      have hr := Lib.run_append_grow_string (P := P) w t u ty e i z ht hu hi hz ⟨g, 0, none⟩ n c xs (by rw [hs]; exact hown.1) holds s (by omega) (by omega) (growslice_fits (by omega) hbytes)
      have hge := grownCap_ge w (n + s.size) c e
      have hcm2 : grownCap w (n + s.size) c e ≤ maxLen := grownCap_le_maxLen w (n + s.size) c e (by simp only [maxLen]; omega)
      refine ⟨_, _, _, hr, ⟨hlen, .inr ⟨w.heap.size, _, _, rfl, by simp, heap_alloc_new w.drew _, hge, hcm2, ?_, ?_⟩⟩, ((Kp.refl _ w).drew).alloc _, .inr rfl⟩
      · have h1 := hown.1
        simp only [Array.size_append, List.size_toArray, size_zeroCells, hzs, hl]
        omega
      · simp only [Array.toList_append, List.append_assoc]
        rw [← List.append_assoc, ← hlen]
        exact List.take_left
theorem wpList_str {ops : Array Oper} {rest : List Oper} {o : Oper} {a : Act} {Q : Exit → Act → World → Prop} (hgd : o.guard = none) (s x : Operand) (t u : Nat)
    (ho : o.op = .call { callee := .builtin .append, args := #[s, x], argTypes := #[t, u] })
    {e : Nat} {z : Value} {by_ : Nat} (hE : Elt P t e z 1 by_) (hu : P.underlying u = some .string) (A : Addr) (n c : Nat) (xs : List Value) (hs : a.eval s = .slice (some A) n c) (hown : Ow w e 1 (some A) n c xs)
    (y : ByteArray) (hx : a.eval x = .string y) (hb : n + y.size ≤ 4294967296)
    (h : ∀ A' c' w', Ow w' e 1 A' (n + y.size) c' (xs ++ Lib.strCells y) → Kp (bks (some A)) w w' → (A' = some A ∨ A' = some ⟨w.heap.size, 0, none⟩) → wpList P ops Q rest (a.put o.dst (.slice A' (n + y.size) c')) w') : wpList P ops Q (o :: rest) a w := by
  obtain ⟨A', c', w', hrun, h2, h3, h4⟩ := run_str (P := P) w (ty := o.type) hE hu A n c xs hown y hb
  exact Lib.wpList_append_run w hgd s x t u ho _ _ hs hx _ _ hrun (h A' c' w' h2 h3 h4)
theorem run_zeros0 {t tn ty e : Nat} {z : Value} {by_ : Nat} {k kn : IntKind} (hE : Elt P t e z 1 by_) (htn : P.underlying tn = some (.int kn)) (A : Addr) (n c : Nat) (xs : List Value) (hown : Ow w e 1 (some A) n c xs) :
    (Builtin.append_ #[t, tn] ty #[.slice (some A) n c, .int k 0]).run P w = .ok (.slice (some A) n c) w := by
  obtain ⟨ht, hi, hzs, hsz, hby⟩ := hE
  obtain ⟨i, hi', hz, hs, hby'⟩ := info_parts hi
  clear hi
  rcases hown.2 with ⟨hv, _⟩ | ⟨g, cap, cur, hv, hbg, hg, hnc, hcm, hcs, htake⟩
  · cases hv
  · injection hv with hA hn hc
    subst hc
    have hw : IntKind.i64.wrap 0 = 0 := rfl
    simp [Builtin.append_, run_underlying ht, run_underlying htn, sizeOf, typeInfo, zeroValue, hi', hz, asInt, asIntOf, hw, hs, hnc, Builtin.zeroCells, storeCells]
/-- So many zeros, none too. -/
theorem wpList_zerosU {ops : Array Oper} {rest : List Oper} {o : Oper} {a : Act} {Q : Exit → Act → World → Prop} (hgd : o.guard = none) (s x : Operand) (t tn : Nat)
    (ho : o.op = .call { callee := .builtin .append, args := #[s, x], argTypes := #[t, tn] })
    {e : Nat} {v : Value} {by_ : Nat} {k kn : IntKind} (hE : Elt P t e v 1 by_) (hv : v.cells = #[v]) (hv1 : v.oneCell' = true) (htn : P.underlying tn = some (.int kn)) (A : Addr) (n c : Nat) (xs : List Value) (hs : a.eval s = .slice (some A) n c) (hown : Ow w e 1 (some A) n c xs)
    (m : Nat) (hx : a.eval x = .int k m) (hb : n + m ≤ 4294967296)
    (h : ∀ A' c' w', Ow w' e 1 A' (n + m) c' (xs ++ List.replicate m v) → Kp (bks (some A)) w w' → (A' = some A ∨ A' = some ⟨w.heap.size, 0, none⟩) → wpList P ops Q rest (a.put o.dst (.slice A' (n + m) c')) w') : wpList P ops Q (o :: rest) a w := by
  by_cases h0 : 0 < m
  · refine wpList_zeros w hgd s x t tn ho hE htn A n c xs hs hown m (by rw [hv, zeros_one]; intro u hu; rw [List.eq_of_mem_replicate hu]; exact hv1) hx h0 hb ?_
    rw [hv, zeros_one]
    exact h
  · obtain rfl : m = 0 := by omega
    exact Lib.wpList_append_run w hgd s x t tn ho _ _ hs hx _ _ (run_zeros0 (P := P) w (ty := o.type) (k := k) hE htn A n c xs hown) (h (some A) c w (by simpa using hown) (Kp.refl _ _) (.inl rfl))
end
end Go.Proofs.YtnpkfhnhcadgeaaDoor
