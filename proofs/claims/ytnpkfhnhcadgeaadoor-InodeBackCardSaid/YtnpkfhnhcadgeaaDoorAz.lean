/- append of so many zeros (append(s, make([]T, n)...)) onto a slice of the call's own. -/
import Derived.Test.YtnpkfhnhcadgeaaDoorBase
import Derived.Lib.AppendZeros
namespace Go.Proofs.YtnpkfhnhcadgeaaDoor
open Go.RowKit
set_option linter.unusedVariables false
set_option linter.unusedSimpArgs false
section
variable {P : Program} (w : World)
theorem run_zeros_room (t tn ty e : TypeId) (i : TypeInfo) (z : Value) (k kn : IntKind) (ht : P.underlying t = some (.slice e)) (htn : P.underlying tn = some (.int kn)) (hi : P.info? e = some i) (hz : i.zero = some z)
    (g sLen sCap m : Nat) (cur : Array Value) (hg : w.heap[g]? = some (.cells cur e (0, 0))) (h0 : 0 < m) (hs : 0 < i.size) (hzs : z.cells.size = i.size) (h1 : ∀ u ∈ (Builtin.zeroCells z.cells m).toList, u.oneCell' = true)
    (hroom : sLen + m ≤ sCap) (hfit : sLen * i.size + m * i.size ≤ cur.size) (h63 : (m : Int) ≤ 9223372036854775807) (h48 : m * i.bytes ≤ 281474976710656) :
    (Builtin.append_ #[t, tn] ty #[.slice (some ⟨g, 0, none⟩) sLen sCap, .int k m]).run P w =
      .ok (.slice (some ⟨g, 0, none⟩) (sLen + m) sCap) (w.setRow g (cur.toList.take (sLen * i.size) ++ (Builtin.zeroCells z.cells m).toList ++ cur.toList.drop (sLen * i.size + m * i.size)).toArray) := by
  have hw : IntKind.i64.wrap (m : Int) = m := by rw [IntKind.wrap_i64]; omega
  have hl : (Builtin.zeroCells z.cells m).toList.length = m * i.size := by rw [Array.length_toList, size_zeroCells, hzs]
  have hst := run_storeCells_at P g (sLen * i.size) e (Builtin.zeroCells z.cells m).toList 0 cur w hg (by rw [hl]; omega) h1
  simp only [Nat.add_zero, hl] at hst
  have hns : ¬ (m * i.size = 0) := Nat.mul_ne_zero (by omega) (by omega)
  have hneg : ¬ ((m : Int) < 0) := by omega
  have h48i : ¬ (281474976710656 < (m : Int) * (i.bytes : Int)) := by
    rw [← Int.natCast_mul]; omega
  have hm0 : ¬ m = 0 := by omega
  have hsz : ¬ i.size = 0 := by omega
  simp [Builtin.append_, run_underlying ht, run_underlying htn, sizeOf, typeInfo, zeroValue, hi, hz, asInt, asIntOf, hw, hneg, h48i, hroom, hns, hm0, hsz, Addr.add_lit, hst]
theorem run_zeros_grow (t tn ty e : TypeId) (i : TypeInfo) (z : Value) (k kn : IntKind) (ht : P.underlying t = some (.slice e)) (htn : P.underlying tn = some (.int kn)) (hi : P.info? e = some i) (hz : i.zero = some z)
    (b : Addr) (sLen sCap m : Nat) (olds : List Value) (hlo : olds.length = sLen * i.size) (holds : ∀ j v, olds[j]? = some v → w.cell? (b.add j) = some v)
    (h0 : 0 < m) (hs : 0 < i.size) (hgr : sCap < sLen + m) (h63 : ((sLen + m : Nat) : Int) ≤ 9223372036854775807) (h48 : m * i.bytes ≤ 281474976710656) (hfit : Builtin.nextslicecap (sLen + m) sCap * i.bytes ≤ 281474976710656) :
    (Builtin.append_ #[t, tn] ty #[.slice (some b) sLen sCap, .int k m]).run P w =
      .ok (.slice (some ⟨w.heap.size, 0, none⟩) (sLen + m) (grownCap w (sLen + m) sCap e))
        (w.drew.alloc (.cells (olds.toArray ++ Builtin.zeroCells z.cells m ++ Builtin.zeroCells z.cells (grownCap w (sLen + m) sCap e - (sLen + m))) e)) := by
  have hw : IntKind.i64.wrap (m : Int) = m := by rw [IntKind.wrap_i64]; omega
  have hn : ¬ (sLen + m ≤ sCap) := by omega
  have h63' : ¬ (9223372036854775807 < ((sLen : Int) + (m : Int))) := by omega
  have h48' : ¬ (281474976710656 < Builtin.nextslicecap (sLen + m) sCap * i.bytes) := by omega
  have hfo := run_firstCells_some (P := P) w.drew i.size sLen b sLen sCap olds hlo (by simpa using holds)
  have hneg : ¬ ((m : Int) < 0) := by omega
  have h48i : ¬ (281474976710656 < (m : Int) * (i.bytes : Int)) := by
    rw [← Int.natCast_mul]; omega
  have hm0 : ¬ m = 0 := by omega
  have hsz : ¬ i.size = 0 := by omega
  simp [Builtin.append_, run_underlying ht, run_underlying htn, sizeOf, typeInfo, zeroValue, hi, hz, asInt, asIntOf, hw, hneg, h48i, hn, h63', h48', hm0, hsz, Question.forced, hfo, newRow, grownCap]
  intro h; exact absurd h (Nat.mul_ne_zero hm0 hsz)
theorem run_zeros {t tn ty e : Nat} {z : Value} {sz by_ : Nat} {k kn : IntKind} (hE : Elt P t e z sz by_) (htn : P.underlying tn = some (.int kn)) (A : Addr) (n c : Nat) (xs : List Value) (hown : Ow w e sz (some A) n c xs) (m : Nat) (hz1 : ∀ u ∈ (Builtin.zeroCells z.cells m).toList, u.oneCell' = true) (h0 : 0 < m) (hb : n + m ≤ 4294967296) :
    ∃ A' c' w', (Builtin.append_ #[t, tn] ty #[.slice (some A) n c, .int k m]).run P w = .ok (.slice A' (n + m) c') w' ∧ Ow w' e sz A' (n + m) c' (xs ++ (Builtin.zeroCells z.cells m).toList) ∧ Kp (bks (some A)) w w' ∧
      (A' = some A ∨ A' = some ⟨w.heap.size, 0, none⟩) := by
  obtain ⟨ht, hi, hzs, hsz, hby⟩ := hE
  obtain ⟨i, hi', hz, hs, hby'⟩ := info_parts hi
  clear hi
  have hi := hi'
  clear hi'
  subst hs; subst hby'
  have hl : (Builtin.zeroCells z.cells m).toList.length = m * i.size := by rw [Array.length_toList, size_zeroCells, hzs]
  have hbm : m * i.bytes ≤ 281474976710656 := Nat.le_trans (Nat.mul_le_mul (show m ≤ 4294967296 by omega) hby) (by decide)
  rcases hown.2 with ⟨hv, _⟩ | ⟨g, cap, cur, hv, hbg, hg, hnc, hcm, hcs, htake⟩
  · cases hv
  · injection hv with hA hn hc
    injection hA with hA
    subst hA; subst hc
    have hlen : (xs ++ (Builtin.zeroCells z.cells m).toList).length = (n + m) * i.size := by rw [List.length_append, hown.1, hl, Nat.add_mul]
    by_cases hroom : n + m ≤ c
    · have hfit : n * i.size + m * i.size ≤ cur.size := by rw [hcs, ← Nat.add_mul]; exact Nat.mul_le_mul_right _ hroom
      have hr := run_zeros_room (P := P) w t tn ty e i z k kn ht htn hi hz g n c m cur hg h0 hsz hzs hz1 hroom hfit (by omega) hbm
      refine ⟨_, _, _, hr, ⟨hlen, .inr ⟨g, c, _, rfl, hbg, setRow_heap w g cur _ e _ hg, hroom, hcm, ?_, ?_⟩⟩, (Kp.refl _ w).setRow (.inl (by simp [bks])) _, .inl rfl⟩
      · simp only [List.size_toArray, List.length_append, List.length_take, List.length_drop, Array.length_toList, hl]
        omega
      · rw [htake, ← hlen]
        exact List.take_left
    · have holds : ∀ j u, xs[j]? = some u → w.cell? ((⟨g, 0, none⟩ : Addr).add j) = some u := World.ownsRow.cells hown (g := g) rfl
      have hbytes : (n + m) * i.bytes ≤ 140737488355328 := Nat.le_trans (Nat.mul_le_mul hb hby) (by decide)
      have hr := run_zeros_grow (P := P) w t tn ty e i z k kn ht htn hi hz ⟨g, 0, none⟩ n c m xs hown.1 holds h0 hsz (by omega) (by omega) hbm (growslice_fits (by omega) hbytes)
      have hge := grownCap_ge w (n + m) c e
      have hcm2 : grownCap w (n + m) c e ≤ maxLen := grownCap_le_maxLen w (n + m) c e (by simp only [maxLen]; omega)
      refine ⟨_, _, _, hr, ⟨hlen, .inr ⟨w.heap.size, _, _, rfl, by simp, heap_alloc_new w.drew _, hge, hcm2, ?_, ?_⟩⟩, ((Kp.refl _ w).drew).alloc _, .inr rfl⟩
      · simp only [Array.size_append, List.size_toArray, size_zeroCells, hzs, hown.1, ← Nat.add_mul]
        congr 1
        omega
      · simp only [Array.toList_append, List.append_assoc]
        rw [← List.append_assoc, ← hlen]
        exact List.take_left
/-- The operation, for the walk. -/
theorem wpList_zeros {ops : Array Oper} {rest : List Oper} {o : Oper} {a : Act} {Q : Exit → Act → World → Prop} (hgd : o.guard = none) (s x : Operand) (t tn : Nat)
    (ho : o.op = .call { callee := .builtin .append, args := #[s, x], argTypes := #[t, tn] })
    {e : Nat} {z : Value} {sz by_ : Nat} {k kn : IntKind} (hE : Elt P t e z sz by_) (htn : P.underlying tn = some (.int kn)) (A : Addr) (n c : Nat) (xs : List Value) (hs : a.eval s = .slice (some A) n c) (hown : Ow w e sz (some A) n c xs)
    (m : Nat) (hz1 : ∀ u ∈ (Builtin.zeroCells z.cells m).toList, u.oneCell' = true) (hx : a.eval x = .int k m) (h0 : 0 < m) (hb : n + m ≤ 4294967296)
    (h : ∀ A' c' w', Ow w' e sz A' (n + m) c' (xs ++ (Builtin.zeroCells z.cells m).toList) → Kp (bks (some A)) w w' → (A' = some A ∨ A' = some ⟨w.heap.size, 0, none⟩) → wpList P ops Q rest (a.put o.dst (.slice A' (n + m) c')) w') : wpList P ops Q (o :: rest) a w := by
  obtain ⟨A', c', w', hrun, h2, h3, h4⟩ := run_zeros (P := P) w (ty := o.type) (k := k) hE htn A n c xs hown m hz1 h0 hb
  exact Lib.wpList_append_run w hgd s x t tn ho _ _ hs hx _ _ hrun (h A' c' w' h2 h3 h4)
/-- The same, in a drawn region. -/
theorem step_zeros {ops : Array Oper} {o : Oper} {a : Act} {K : Act → World → Prop} {Q : Exit → Act → World → Prop} {E : Prop} (hg : o.guard = none) (s x : Operand) (t tn : Nat)
    (ho : o.op = .call { callee := .builtin .append, args := #[s, x], argTypes := #[t, tn] })
    {e : Nat} {z : Value} {sz by_ : Nat} {k kn : IntKind} (hE : Elt P t e z sz by_) (htn : P.underlying tn = some (.int kn)) (A : Addr) (n c : Nat) (xs : List Value) (hs : a.eval s = .slice (some A) n c) (hown : Ow w e sz (some A) n c xs)
    (m : Nat) (hz1 : ∀ u ∈ (Builtin.zeroCells z.cells m).toList, u.oneCell' = true) (hx : a.eval x = .int k m) (h0 : 0 < m) (hb : n + m ≤ 4294967296)
    (h : ∀ A' c' w', Ow w' e sz A' (n + m) c' (xs ++ (Builtin.zeroCells z.cells m).toList) → Kp (bks (some A)) w w' → (A' = some A ∨ A' = some ⟨w.heap.size, 0, none⟩) → K (a.put o.dst (.slice A' (n + m) c')) w') :
    if Region.wanted o (yielded ops a.tmps) = true then Oper.wp P o a w K Q else E := by
  obtain ⟨A', c', w', hrun, h2, h3, h4⟩ := run_zeros (P := P) w (ty := o.type) (k := k) hE htn A n c xs hown m hz1 h0 hb
  have hw : Region.wanted o (yielded ops a.tmps) = true := by simp [Region.wanted, hg]
  rw [if_pos hw]
  exact Lib.wp_append_run w s x t tn ho _ _ hs hx _ _ hrun (h A' c' w' h2 h3 h4)
end
theorem zeros_one (v : Value) (m : Nat) : (Builtin.zeroCells #[v] m).toList = List.replicate m v := by
  simp only [Builtin.zeroCells]
  simp [Nat.mod_one]
  exact List.eq_replicate_iff.2 ⟨by simp, by simp⟩
end Go.Proofs.YtnpkfhnhcadgeaaDoor
