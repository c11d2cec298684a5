/- Arguments opened to lists, and what the bound of the second form says of them: strings, fields, requests. -/
import Derived.Test.YtjjigngighneeaaDoorOpen
import Derived.Test.YtjjigngighneeaaDoorRows
import Derived.Test.YtjjigngighneeaaDoorReqF
namespace Go.Proofs.YtjjigngighneeaaDoor
open Go.ChangeShapes Go.WideShapes Go.ChangeAt Go.RowKit Go.Deep
set_option linter.unusedVariables false
set_option linter.unusedSimpArgs false

theorem bulk_app {H : Type} (l r : List (DataW H)) : Rows.uptoBulkAll (l ++ r) = Rows.uptoBulkAll l + Rows.uptoBulkAll r := by
  induction l with
  | nil => simp [Rows.uptoBulkAll]
  | cons x l ih => simp only [List.cons_append, Rows.uptoBulkAll, ih]; omega
section
variable {H : Type} {enc : TypeId × Value → H} {P : Program} {W : World}
/-- Whatever reads as type t is 'vals' of some a, 'ok' holds of it, and it is no longer than the reading's bulk. -/
structure OpnS (enc : TypeId × Value → H) (P : Program) (W : World) (t : Nat) {α : Type} (vals : α → List Value) (ok : α → Prop) (sz : α → Nat) : Prop where
  op : ∀ fuel cs x, DataW.trod enc P W 0 (fun _ => true) true fuel t cs = some x → ∃ a, cs = vals a ∧ ok a ∧ sz a ≤ Rows.uptoBulk x.1
theorem opnS_string {t : Nat} (ht : P.underlying t = some .string) : OpnS enc P W t (fun s => [.string s]) (fun s => s.size ≤ maxLen) (fun s => s.size + 1) :=
  ⟨fun fuel cs x h => by
    obtain ⟨n, hc, hx, hw⟩ := DataW.trod_string ht h
    refine ⟨n, hc, hw, ?_⟩
    subst hx
    simp only [Rows.uptoBulk, Array.length_toList]
    exact Nat.le_refl _⟩
theorem opnS_pair {t : Nat} {f0 f1 : Field} (ht : P.underlying t = some (.struct #[f0, f1])) (hc : P.cellsOf t = 2) (o0 : f0.offset = 0) (o1 : f1.offset = 1) (c0 : P.cellsOf f0.type = 1) (c1 : P.cellsOf f1.type = 1)
    (t0 : P.underlying f0.type = some .string) (t1 : P.underlying f1.type = some .string) : OpnS enc P W t (fun s : ByteArray × ByteArray => [.string s.1, .string s.2]) (fun s => s.1.size ≤ maxLen ∧ s.2.size ≤ maxLen) (fun s => s.1.size + s.2.size + 3) :=
  ⟨fun fuel cs x h => by
    obtain ⟨y0, y1, n, rfl, hl, h0, h1⟩ := trod_struct2 ht h
    rw [hc] at hl
    match cs, hl with
    | [a, b], _ =>
      rw [o0, c0] at h0
      rw [o1, c1] at h1
      obtain ⟨s0, e0, k0, z0⟩ := (opnS_string t0).op _ _ _ h0
      obtain ⟨s1, e1, k1, z1⟩ := (opnS_string t1).op _ _ _ h1
      simp at e0 e1
      subst e0; subst e1
      refine ⟨(s0, s1), rfl, ⟨k0, k1⟩, ?_⟩
      simp only [Rows.uptoBulk, Rows.uptoBulkAll]
      omega⟩
theorem opnS_slice {t e K : Nat} {α : Type} {vals : α → List Value} {ok : α → Prop} {sz : α → Nat} (ht : P.underlying t = some (.slice e)) (hK : P.cellsOf e = K) (hv : ∀ a, (vals a).length = K) (he : OpnS enc P W e vals ok sz) :
    OpnS enc P W t (Sin.vals (α := α)) (Sin.ok W vals ok) (fun s => (s.l.map sz).sum) := ⟨fun fuel cs x h => by
  rcases open_slice ht h with ⟨rfl, rfl⟩ | ⟨a, len, cap, m, n, D, Pl, rfl, _, hl, hm, hmm, rfl, hi⟩
  · exact ⟨⟨none, 0, 0, []⟩, rfl, ⟨rfl, Nat.le_refl _, Nat.zero_le _, by simp, Rd.nil, fun _ => ⟨rfl, rfl⟩⟩, by simp⟩
  · simp only [if_true] at hmm
    subst hmm
    have hex : ∀ i, i < len → ∃ y, (ok y ∧ ∀ j, j < K → W.cell? ((a.add (i * K)).add j) = (vals y)[j]?) ∧ sz y ≤ Rows.uptoBulk (D i) := by
      intro i hil
      obtain ⟨cs', hc, htr⟩ := hi i (by omega)
      obtain ⟨y, rfl, hy, hz⟩ := he.op _ _ _ htr
      obtain ⟨_, hcl, hat⟩ := World.cells?_some hc
      rw [hK] at hat
      exact ⟨y, ⟨hy, hat⟩, hz⟩
    have hlist : ∀ k, k ≤ len → ∃ l : List α, l.length = k ∧ (∀ i y, l[i]? = some y → ok y ∧ ∀ j, j < K → W.cell? ((a.add (i * K)).add j) = (vals y)[j]?) ∧ (l.map sz).sum ≤ Rows.uptoBulkAll ((List.range k).map D) := by
      intro k
      induction k with
      | zero => intro _; exact ⟨[], rfl, by simp, by simp⟩
      | succ k ih =>
        intro hk
        obtain ⟨l, hl', hl2, hl3⟩ := ih (by omega)
        obtain ⟨y, hy, hz⟩ := hex k (by omega)
        refine ⟨l ++ [y], by simp [hl'], fun i z hz => ?_, ?_⟩
        · rcases Nat.lt_or_ge i l.length with h' | h'
          · rw [List.getElem?_append_left h'] at hz; exact hl2 i z hz
          · rw [List.getElem?_append_right h'] at hz
            have hil : i - l.length = 0 := by
              rcases Nat.eq_zero_or_pos (i - l.length) with e | e
              · exact e
              · rw [List.getElem?_eq_none (by simp; omega)] at hz; cases hz
            have hi' : i = k := by omega
            rw [hil] at hz
            simp at hz
            subst hz
            subst hi'
            exact hy
        · simp only [List.range_succ, List.map_append, bulk_app, List.map_cons, List.map_nil, List.sum_append, List.sum_cons, List.sum_nil, Rows.uptoBulkAll]
          omega
    obtain ⟨l, hll, hla, hls⟩ := hlist len (Nat.le_refl _)
    refine ⟨⟨some a, len, _, l⟩, rfl, ⟨hll, hl, hm, ?_, ?_, fun h => by cases h⟩, by simp only [Rows.uptoBulk]; omega⟩
    · intro y hy
      obtain ⟨i, hi'⟩ := List.getElem?_of_mem hy
      exact (hla i y hi').1
    · intro hne
      have hKp : 0 < K := by
        rcases Nat.eq_zero_or_pos K with h0 | h0
        · exfalso; apply hne
          apply List.eq_nil_of_length_eq_zero
          rw [flat_len hv, h0, Nat.mul_zero]
        · exact h0
      have hl0 : 0 < l.length := by
        cases l with
        | nil => exact absurd rfl hne
        | cons => simp
      have hcell : ∀ j u, (l.flatMap vals)[j]? = some u → W.cell? (a.add j) = some u := by
        intro j u hu
        have hj : j < l.length * K := by
          rcases Nat.lt_or_ge j (l.length * K) with h | h
          · exact h
          · rw [List.getElem?_eq_none (by rw [flat_len hv]; exact h)] at hu; cases hu
        have hq : j / K < l.length := Nat.div_lt_of_lt_mul (by rw [Nat.mul_comm]; exact hj)
        have hm' : j % K < K := Nat.mod_lt _ hKp
        have e : j / K * K + j % K = j := Nat.div_add_mod' j K
        have hx : l[j / K]? = some l[j / K] := List.getElem?_eq_getElem hq
        have h2 := (hla _ _ hx).2 _ hm'
        rw [← e, flat_get hv hx hm'] at hu
        rw [Go.Deep.add_add, e] at h2
        rw [h2]; exact hu
      obtain ⟨u0, hu0⟩ : ∃ u, (l.flatMap vals)[0]? = some u := ⟨_, List.getElem?_eq_getElem (by rw [flat_len hv]; exact Nat.mul_pos hl0 hKp)⟩
      have h0 := hcell 0 u0 hu0
      have ha0 : a.add 0 = a := rfl
      rw [ha0] at h0
      have hs : a.spot = none := by
        unfold World.cell? at h0
        split at h0
        · cases hsp : a.spot with
          | none => rfl
          | some _ => simp [hsp] at h0
        · cases h0
      obtain ⟨b, off, sp⟩ := a
      simp only at hs
      subst hs
      refine ⟨b, off, rfl, by simp, World.block_lt_of_cell? W _ h0, fun j u hu => ?_⟩
      have := hcell j u hu
      have e : (⟨b, off, none⟩ : Addr).add j = ⟨b, off + j, none⟩ := by unfold Addr.add; split <;> simp_all
      rwa [e] at this⟩
end
/-- A field's two texts. -/
def fdB (s : ByteArray × ByteArray) : Fd := (s.1.data.toList, s.2.data.toList)
set_option maxRecDepth 100000 in
/-- A request that came in, and its bulk. -/
theorem top_request {H : Type} {enc : TypeId × Value → H} {W : World} {base : Nat} {v : Value} {d : DataW H} {p : List MemPlace} (hv : Value.okWide Tryd.prog W .any base 37 v) (h : DataW.Trod enc Tryd.prog W 0 (fun _ => true) true 37 v d p) :
    ∃ (m t : ByteArray) (minor : Int) (s : Sin (ByteArray × ByteArray)) (cl : Bool), v = .agg #[.string m, .string t, .int .i64 minor, .slice s.A s.n s.c, .bool cl] ∧
      Sin.ok W (fun s : ByteArray × ByteArray => [Value.string s.1, Value.string s.2]) (fun s => s.1.size ≤ maxLen ∧ s.2.size ≤ maxLen) s ∧ (s.l.map fun s => s.1.size + s.2.size + 3).sum ≤ Rows.uptoBulk d := by
  obtain ⟨cs, rfl, hsz⟩ := okWide_struct Tryd.underlying37 hv
  obtain ⟨fuel, hf⟩ := h
  obtain ⟨xs, n, _, hx, hl, hxl, hg⟩ := DataW.trod_struct Tryd.underlying37 hf
  have hc5 : Tryd.prog.cellsOf 37 = 5 := by kernel_rfl
  have hc1 : Tryd.prog.cellsOf 9 = 1 := by kernel_rfl
  have hc2 : Tryd.prog.cellsOf 3 = 1 := by kernel_rfl
  have hc3 : Tryd.prog.cellsOf 35 = 1 := by kernel_rfl
  have hc4 : Tryd.prog.cellsOf 4 = 1 := by kernel_rfl
  rw [hc5] at hsz
  obtain ⟨l, hl5⟩ : ∃ l, cs = l.toArray := ⟨cs.toList, by simp⟩
  subst hl5
  match l, hsz with
  | [c0, c1, c2, c3, c4], _ =>
    match xs, hxl with
    | [x0, x1, x2, x3, x4], _ =>
      have g0 : DataW.trod enc Tryd.prog W 0 (fun _ => true) true n 9 (([c0, c1, c2, c3, c4].drop 0).take (Tryd.prog.cellsOf 9)) = some x0 := hg 0 _ rfl
      rw [hc1] at g0
      replace g0 : DataW.trod enc Tryd.prog W 0 (fun _ => true) true n 9 [c0] = some x0 := g0
      have g1 : DataW.trod enc Tryd.prog W 0 (fun _ => true) true n 9 (([c0, c1, c2, c3, c4].drop 1).take (Tryd.prog.cellsOf 9)) = some x1 := hg 1 _ rfl
      rw [hc1] at g1
      replace g1 : DataW.trod enc Tryd.prog W 0 (fun _ => true) true n 9 [c1] = some x1 := g1
      have g2 : DataW.trod enc Tryd.prog W 0 (fun _ => true) true n 3 (([c0, c1, c2, c3, c4].drop 2).take (Tryd.prog.cellsOf 3)) = some x2 := hg 2 _ rfl
      rw [hc2] at g2
      replace g2 : DataW.trod enc Tryd.prog W 0 (fun _ => true) true n 3 [c2] = some x2 := g2
      have g3 : DataW.trod enc Tryd.prog W 0 (fun _ => true) true n 35 (([c0, c1, c2, c3, c4].drop 3).take (Tryd.prog.cellsOf 35)) = some x3 := hg 3 _ rfl
      rw [hc3] at g3
      replace g3 : DataW.trod enc Tryd.prog W 0 (fun _ => true) true n 35 [c3] = some x3 := g3
      have g4 : DataW.trod enc Tryd.prog W 0 (fun _ => true) true n 4 (([c0, c1, c2, c3, c4].drop 4).take (Tryd.prog.cellsOf 4)) = some x4 := hg 4 _ rfl
      rw [hc4] at g4
      replace g4 : DataW.trod enc Tryd.prog W 0 (fun _ => true) true n 4 [c4] = some x4 := g4
      obtain ⟨m, e0, -, -⟩ := DataW.trod_string Tryd.underlying9 g0
      obtain ⟨t, e1, -, -⟩ := DataW.trod_string Tryd.underlying9 g1
      obtain ⟨mi, e2, -, -⟩ := DataW.trod_int Tryd.underlying3 g2
      obtain ⟨s, e3, k3, z3⟩ := (opnS_slice (K := 2) Tryd.underlying35 (by kernel_rfl) (fun _ => rfl) (opnS_pair Tryd.underlying51 (by kernel_rfl) rfl rfl hc1 hc1 Tryd.underlying9 Tryd.underlying9)).op _ _ _ g3
      obtain ⟨cl, e4, -⟩ := DataW.trod_bool Tryd.underlying4 g4
      simp [Sin.vals] at e0 e1 e2 e3 e4
      subst e0; subst e1; subst e2; subst e3; subst e4
      refine ⟨m, t, mi, s, cl, rfl, k3, ?_⟩
      have hd : d = .agg [x0.1, x1.1, x2.1, x3.1, x4.1] := by have := congrArg Prod.fst hx; simpa using this
      rw [hd]
      simp only [Rows.uptoBulk, Rows.uptoBulkAll]
      omega
end Go.Proofs.YtjjigngighneeaaDoor
