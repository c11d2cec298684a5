/- A law's arguments opened to lists; and the law's frame: what is left to show is one call that returns true and turns no old block. -/
import Derived.Test.YtnpkfhnhcadgeaaDoorBase
import Derived.Test.YtnpkfhnhcadgeaaDoorRows
import Derived.ProofKit
import Derived.OpenShut
import Derived.ShutString
import Derived.Deep.Slices
import Derived.Deep.Fields
import Derived.ChangeSame
import Derived.Carry
namespace Go.Proofs.YtnpkfhnhcadgeaaDoor
open Go.ChangeShapes Go.WideShapes Go.ChangeAt Go.RowKit Go.Deep
set_option linter.unusedVariables false
set_option linter.unusedSimpArgs false

/-- Old data may be asked for in any later world of the call. -/
theorem Rd.to {w w' : World} {N N' S : List Nat} {A : Option Addr} {xs : List Value} (h : Rd w N A xs) (hk : Kp S w w') (hs : ∀ s ∈ S, s ∈ N ∨ w.heap.size ≤ s) (hn : ∀ s ∈ N', s ∈ N ∨ w.heap.size ≤ s) : Rd w' N' A xs := fun hx => by
  obtain ⟨b, off, rfl, hN, hb, hc⟩ := h hx
  refine ⟨b, off, rfl, fun hm => (hn b hm).elim hN (fun e => by omega), Nat.lt_of_lt_of_le hb hk.size, fun j u hu => ?_⟩
  rw [hk.cell (p := ⟨b, off + j, none⟩) hb (fun hm => (hs b hm).elim hN (fun e => by omega))]
  exact hc j u hu

section
variable {H : Type} {enc : TypeId × Value → H} {P : Program} {W : World}
/-- Whatever reads as type t is 'vals' of some a, and 'ok' holds of it. -/
structure Opn (enc : TypeId × Value → H) (P : Program) (W : World) (t : Nat) {α : Type} (vals : α → List Value) (ok : α → Prop) : Prop where
  op : ∀ fuel cs x, DataW.trod enc P W 0 (fun _ => true) true fuel t cs = some x → ∃ a, cs = vals a ∧ ok a
theorem opn_int {t : Nat} {k : IntKind} (ht : P.underlying t = some (.int k)) : Opn enc P W t (fun n => [.int k n]) (fun n => (Lit.int k n).wf = true) :=
  ⟨fun fuel cs x h => by obtain ⟨n, hc, _, hw⟩ := DataW.trod_int ht h; exact ⟨n, hc, hw⟩⟩
theorem opn_string {t : Nat} (ht : P.underlying t = some .string) : Opn enc P W t (fun s => [.string s]) (fun s => s.size ≤ maxLen) :=
  ⟨fun fuel cs x h => by obtain ⟨n, hc, _, hw⟩ := DataW.trod_string ht h; exact ⟨n, hc, hw⟩⟩
/-- A slice that came in. -/
structure Sin (α : Type) where
  A : Option Addr
  n : Nat
  c : Nat
  l : List α
def Sin.vals {α : Type} (s : Sin α) : List Value := [.slice s.A s.n s.c]
structure Sin.ok {α : Type} (W : World) (vals : α → List Value) (okE : α → Prop) (s : Sin α) : Prop where
  len : s.l.length = s.n
  cap : s.n ≤ s.c
  max : s.c ≤ maxLen
  all : ∀ a ∈ s.l, okE a
  rd : Rd W [] s.A (s.l.flatMap vals)
  nil : s.A = none → s.n = 0 ∧ s.c = 0
theorem opn_slice {t e K : Nat} {α : Type} {vals : α → List Value} {ok : α → Prop} (ht : P.underlying t = some (.slice e)) (hK : P.cellsOf e = K) (hv : ∀ a, (vals a).length = K) (he : Opn enc P W e vals ok) :
    Opn enc P W t (Sin.vals (α := α)) (Sin.ok W vals ok) := ⟨fun fuel cs x h => by
  rcases open_slice ht h with ⟨rfl, _⟩ | ⟨a, len, cap, m, n, D, Pl, rfl, _, hl, hm, hmm, _, hi⟩
  · exact ⟨⟨none, 0, 0, []⟩, rfl, rfl, Nat.le_refl _, Nat.zero_le _, by simp, Rd.nil, fun _ => ⟨rfl, rfl⟩⟩
  · simp only [if_true] at hmm
    subst hmm
    have hex : ∀ i, i < len → ∃ y, ok y ∧ ∀ j, j < K → W.cell? ((a.add (i * K)).add j) = (vals y)[j]? := by
      intro i hil
      obtain ⟨cs', hc, htr⟩ := hi i (by omega)
      obtain ⟨y, rfl, hy⟩ := he.op _ _ _ htr
      obtain ⟨_, hcl, hat⟩ := World.cells?_some hc
      rw [hK] at hat
      exact ⟨y, hy, hat⟩
    have hlist : ∀ k, k ≤ len → ∃ l : List α, l.length = k ∧ ∀ i y, l[i]? = some y → ok y ∧ ∀ j, j < K → W.cell? ((a.add (i * K)).add j) = (vals y)[j]? := by
      intro k
      induction k with
      | zero => intro _; exact ⟨[], rfl, by simp⟩
      | succ k ih =>
        intro hk
        obtain ⟨l, hl', hl2⟩ := ih (by omega)
        obtain ⟨y, hy, hc⟩ := hex k (by omega)
        refine ⟨l ++ [y], by simp [hl'], fun i z hz => ?_⟩
        rcases Nat.lt_or_ge i l.length with h' | h'
        · rw [List.getElem?_append_left h'] at hz; exact hl2 i z hz
        · rw [List.getElem?_append_right h'] at hz
          have hil : i - l.length = 0 := by
            rcases Nat.eq_zero_or_pos (i - l.length) with e | e
            · exact e
            · rw [List.getElem?_eq_none (by simp; omega)] at hz; cases hz
          have hi' : i = k := by omega
          rw [hil] at hz
          simp at hz
          subst hz
          subst hi'
          exact ⟨hy, hc⟩
    obtain ⟨l, hll, hla⟩ := hlist len (Nat.le_refl _)
    refine ⟨⟨some a, len, _, l⟩, rfl, hll, hl, hm, ?_, ?_, fun h => by cases h⟩
    · intro y hy
      obtain ⟨i, hi'⟩ := List.getElem?_of_mem hy
      exact (hla i y hi').1
    · intro hne
      have hKp : 0 < K := by
        rcases Nat.eq_zero_or_pos K with h0 | h0
        · exfalso; apply hne
          apply List.eq_nil_of_length_eq_zero
          rw [flat_len hv, h0, Nat.mul_zero]
        · exact h0
      have hl0 : 0 < l.length := by
        cases l with
        | nil => exact absurd rfl hne
        | cons => simp
      have hcell : ∀ j u, (l.flatMap vals)[j]? = some u → W.cell? (a.add j) = some u := by
        intro j u hu
        have hj : j < l.length * K := by
          rcases Nat.lt_or_ge j (l.length * K) with h | h
          · exact h
          · rw [List.getElem?_eq_none (by rw [flat_len hv]; exact h)] at hu; cases hu
        have hq : j / K < l.length := Nat.div_lt_of_lt_mul (by rw [Nat.mul_comm]; exact hj)
        have hm' : j % K < K := Nat.mod_lt _ hKp
        have e : j / K * K + j % K = j := Nat.div_add_mod' j K
        have hx : l[j / K]? = some l[j / K] := List.getElem?_eq_getElem hq
        have h2 := (hla _ _ hx).2 _ hm'
        rw [← e, flat_get hv hx hm'] at hu
        rw [Go.Deep.add_add, e] at h2
        rw [h2]; exact hu
      obtain ⟨u0, hu0⟩ : ∃ u, (l.flatMap vals)[0]? = some u := ⟨_, List.getElem?_eq_getElem (by rw [flat_len hv]; exact Nat.mul_pos hl0 hKp)⟩
      have h0 := hcell 0 u0 hu0
      have ha0 : a.add 0 = a := rfl
      rw [ha0] at h0
      have hs : a.spot = none := by
        unfold World.cell? at h0
        split at h0
        · cases hsp : a.spot with
          | none => rfl
          | some _ => simp [hsp] at h0
        · cases h0
      obtain ⟨b, off, sp⟩ := a
      simp only at hs
      subst hs
      refine ⟨b, off, rfl, by simp, World.block_lt_of_cell? W _ h0, fun j u hu => ?_⟩
      have := hcell j u hu
      have e : (⟨b, off, none⟩ : Addr).add j = ⟨b, off + j, none⟩ := by unfold Addr.add; split <;> simp_all
      rwa [e] at this⟩
theorem top_slice {t e : Nat} {base : Nat} {α : Type} {ok : Sin α → Prop} (ht : P.underlying t = some (.slice e)) (O : Opn enc P W t (Sin.vals (α := α)) ok) {v : Value} {d : DataW H} {p : List MemPlace}
    (hv : Value.okWide P W .any base t v) (h : DataW.Trod enc P W 0 (fun _ => true) true t v d p) : ∃ s : Sin α, v = .slice s.A s.n s.c ∧ ok s := by
  obtain ⟨A, n, c, rfl⟩ := okWide_slice ht hv
  obtain ⟨fuel, hf⟩ := h
  obtain ⟨s, hs, hok⟩ := O.op _ _ _ hf
  exact ⟨s, by simpa [Sin.vals, Value.cells] using hs, hok⟩

/-- A field of one cell. -/
theorem fld {base n : Nat} {spare : Nat → Bool} {held : Bool} {fs : Array Field} {xs : List (DataW H × List MemPlace)} {cs : List Value}
    (hg : ∀ (i : Nat) (f : Field), fs[i]? = some f → DataW.trod enc P W base spare held n f.type ((cs.drop f.offset).take (P.cellsOf f.type)) = xs[i]?) (hxl : xs.length = fs.size)
    (i : Nat) {f : Field} (hf : fs[i]? = some f) (hc : P.cellsOf f.type = 1) {c : Value} (hcs : cs[f.offset]? = some c) : ∃ y, DataW.trod enc P W base spare held n f.type [c] = some y := by
  have h := hg i f hf
  have hi : i < xs.length := by rw [hxl]; exact (Array.getElem?_eq_some_iff.1 hf).1
  have e : (cs.drop f.offset).take 1 = [c] := by
    have hl : f.offset < cs.length := (List.getElem?_eq_some_iff.1 hcs).1
    have hv : cs[f.offset] = c := (List.getElem?_eq_some_iff.1 hcs).2
    rw [List.drop_eq_getElem_cons hl, hv]; rfl
  rw [hc, e, List.getElem?_eq_getElem hi] at h
  exact ⟨_, h⟩
theorem fld_int {base n : Nat} {spare : Nat → Bool} {held : Bool} {fs : Array Field} {xs : List (DataW H × List MemPlace)} {cs : List Value}
    (hg : ∀ (i : Nat) (f : Field), fs[i]? = some f → DataW.trod enc P W base spare held n f.type ((cs.drop f.offset).take (P.cellsOf f.type)) = xs[i]?) (hxl : xs.length = fs.size)
    (i : Nat) {f : Field} {k : IntKind} (hf : fs[i]? = some f) (hc : P.cellsOf f.type = 1) (ht : P.underlying f.type = some (.int k)) {c : Value} (hcs : cs[f.offset]? = some c) : ∃ m, c = .int k m ∧ (Lit.int k m).wf = true := by
  obtain ⟨y, hy⟩ := fld hg hxl i hf hc hcs
  obtain ⟨m, hm, _, hw⟩ := DataW.trod_int ht hy
  injection hm with hm
  exact ⟨m, hm, hw⟩
theorem fld_string {base n : Nat} {spare : Nat → Bool} {held : Bool} {fs : Array Field} {xs : List (DataW H × List MemPlace)} {cs : List Value}
    (hg : ∀ (i : Nat) (f : Field), fs[i]? = some f → DataW.trod enc P W base spare held n f.type ((cs.drop f.offset).take (P.cellsOf f.type)) = xs[i]?) (hxl : xs.length = fs.size)
    (i : Nat) {f : Field} (hf : fs[i]? = some f) (hc : P.cellsOf f.type = 1) (ht : P.underlying f.type = some .string) {c : Value} (hcs : cs[f.offset]? = some c) : ∃ s : ByteArray, c = .string s ∧ s.size ≤ maxLen := by
  obtain ⟨y, hy⟩ := fld hg hxl i hf hc hcs
  obtain ⟨m, hm, _, hw⟩ := DataW.trod_string ht hy
  injection hm with hm
  exact ⟨m, hm, hw⟩

/-- Readings stay where no old block has turned. -/
theorem trodAll_below (hl : laidOutB P = true) {W' : World} (hb : Below W.heap.size W W') : ∀ (ts : List TypeId) (vs : List Value) (ds : List (DataW H)) (ps : List MemPlace), (∀ t ∈ ts, P.readableRec t = true ∧ t < P.types.size) →
    (∀ x ∈ ps, x.block < W.heap.size) → DataW.TrodAll enc P W 0 (fun _ => true) true ts vs ds ps → DataW.TrodAll enc P W' 0 (fun b => decide (b < W.heap.size)) true ts vs ds ps := by
  intro ts
  induction ts with
  | nil =>
    intro vs ds ps _ _ h
    cases vs <;> cases ds <;> simp_all [DataW.TrodAll]
  | cons t ts ih =>
    intro vs ds ps hr hlt h
    obtain ⟨v, vs', d, ds', p, q, rfl, rfl, rfl, h1, h2⟩ := trodAll_cons h
    have hr1 := hr t (by simp)
    exact trodAll_cons_mk (Below.trod hl hr1.1 hr1.2 h1 hb (fun x hx => hlt x (by simp [hx]))) (ih _ _ _ (fun t' ht' => hr t' (by simp [ht'])) (fun x hx => hlt x (by simp [hx])) h2)
theorem law_post {f : Func} {s : ChangeSpec} {W' : World} {args : Array Value} {ds gs : List (DataW H)} {before : List MemPlace} {tb : Nat} (hl : laidOutB P = true) (hread : ∀ t ∈ f.params.toList, P.readableRec t = true ∧ t < P.types.size)
    (hr : f.resultTypes = #[tb]) (hu : P.underlying tb = some .bool) (hvs : s.vars = []) (hfn : (s.fn H (ds ++ gs)).results = [.lit (.bool true)]) (hfa : (s.fn H (ds ++ gs)).args = ds) (hfv : (s.fn H (ds ++ gs)).vars = [])
    (hW : DataW.Whole enc P f.params.toList s.vars false W args.toList ds gs before) (hb : Below W.heap.size W W') : s.post enc P f false true false false W args (.bool true) W' := by
  obtain ⟨p, q, hA, hV, he, hz, hn⟩ := hW
  rw [hvs] at hV
  obtain ⟨rfl, rfl⟩ := trodVars_none hV
  rw [List.append_nil] at he
  subst he
  have hWh : DataW.Whole enc P f.params.toList s.vars false W args.toList ds [] before := ⟨before, [], hA, by rw [hvs]; exact hV, by simp, hz, hn⟩
  have hlt : ∀ x ∈ before, x.block < W.heap.size := fun x hx => DataW.Whole.lt hWh x hx
  refine ⟨ds, [], before, [], before, [], ⟨before, [], hA, by rw [hvs]; exact hV, by simp, hz, hn⟩, ?_, ?_, ?_, ?_, fun h => by cases h⟩
  · rw [hfn, hr]
    exact trodAll_cons_mk (shut_bool hu true) trodAll_mk0
  · rw [hfa]
    exact trodAll_below hl hb _ _ _ _ hread hlt hA
  · rw [hfv, hvs]; rfl
  · exact World.keptBut_mono (fun x hx => ⟨hx, .inr (.inl hx)⟩) (hb.frame (· ∈ before))
end
/-- From what a law's walk gives to what its row asks. -/
theorem law_calls {f : FuncId} {args : Array Value} {w : World} (h : ∀ R : Ending → World → Prop, (∀ w', Kp [] w w' → R (.returned (.bool true)) w') → Calls Tryd.prog f args w R) :
    Calls Tryd.prog f args w fun e w' => e = .returned (.bool true) ∧ Below w.heap.size w w' := h _ fun _ hk => ⟨rfl, hk.below_nil⟩
end Go.Proofs.YtnpkfhnhcadgeaaDoor
