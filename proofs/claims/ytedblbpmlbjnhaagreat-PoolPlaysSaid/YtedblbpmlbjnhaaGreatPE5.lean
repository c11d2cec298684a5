/- A law's arguments opened to lists; and the law's frame: what is left to show is one call that returns true and turns no old block. Package gather: pieces, their size, what may be, cuts. A call that came in (pantlerref09.Call), and the program's form of it (pantlerlaw09.Of). -/
import Derived.Test.YtedblbpmlbjnhaaGreatPE1
import Derived.Test.YtedblbpmlbjnhaaGreatRows
import Derived.ProofKit
import Derived.OpenShut
import Derived.ShutString
import Derived.Deep.Slices
import Derived.Deep.Fields
import Derived.ChangeSame
import Derived.Carry
import Derived.Test.YtedblbpmlbjnhaaGreatPE4
namespace Go.Proofs.YtedblbpmlbjnhaaGreat
/-! ### A law's arguments opened to lists; and the law's frame: what is left to show is one call that returns true and turns no old block. -/
section
open Go.ChangeShapes Go.WideShapes Go.ChangeAt Go.RowKit Go.Deep
set_option linter.unusedVariables false
set_option linter.unusedSimpArgs false

/-- Old data may be asked for in any later world of the call. -/
theorem Rd.to {w w' : World} {N N' S : List Nat} {A : Option Addr} {xs : List Value} (h : Rd w N A xs) (hk : Kp S w w') (hs : ∀ s ∈ S, s ∈ N ∨ w.heap.size ≤ s) (hn : ∀ s ∈ N', s ∈ N ∨ w.heap.size ≤ s) : Rd w' N' A xs := fun hx => by
  obtain ⟨b, off, rfl, hN, hb, hc⟩ := h hx
  refine ⟨b, off, rfl, fun hm => (hn b hm).elim hN (fun e => by omega), Nat.lt_of_lt_of_le hb hk.size, fun j u hu => ?_⟩
  rw [hk.cell (p := ⟨b, off + j, none⟩) hb (fun hm => (hs b hm).elim hN (fun e => by omega))]
  exact hc j u hu

section
variable {H : Type} {enc : TypeId × Value → H} {P : Program} {W : World}
/-- Whatever reads as type t is 'vals' of some a, and 'ok' holds of it. -/
structure Opn (enc : TypeId × Value → H) (P : Program) (W : World) (t : Nat) {α : Type} (vals : α → List Value) (ok : α → Prop) : Prop where
  op : ∀ fuel cs x, DataW.trod enc P W 0 (fun _ => true) true fuel t cs = some x → ∃ a, cs = vals a ∧ ok a
/-- A slice that came in. -/
structure Sin (α : Type) where
  A : Option Addr
  n : Nat
  c : Nat
  l : List α
def Sin.vals {α : Type} (s : Sin α) : List Value := [.slice s.A s.n s.c]
structure Sin.ok {α : Type} (W : World) (vals : α → List Value) (okE : α → Prop) (s : Sin α) : Prop where
  len : s.l.length = s.n
  cap : s.n ≤ s.c
  max : s.c ≤ maxLen
  all : ∀ a ∈ s.l, okE a
  rd : Rd W [] s.A (s.l.flatMap vals)
  nil : s.A = none → s.n = 0 ∧ s.c = 0
theorem opn_slice {t e K : Nat} {α : Type} {vals : α → List Value} {ok : α → Prop} (ht : P.underlying t = some (.slice e)) (hK : P.cellsOf e = K) (hv : ∀ a, (vals a).length = K) (he : Opn enc P W e vals ok) :
    Opn enc P W t (Sin.vals (α := α)) (Sin.ok W vals ok) := ⟨fun fuel cs x h => by
  rcases open_slice ht h with ⟨rfl, _⟩ | ⟨a, len, cap, m, n, D, Pl, rfl, _, hl, hm, hmm, _, hi⟩
  · exact ⟨⟨none, 0, 0, []⟩, rfl, rfl, Nat.le_refl _, Nat.zero_le _, by simp, Rd.nil, fun _ => ⟨rfl, rfl⟩⟩
  · simp only [if_true] at hmm
    subst hmm
    have hex : ∀ i, i < len → ∃ y, ok y ∧ ∀ j, j < K → W.cell? ((a.add (i * K)).add j) = (vals y)[j]? := by
      intro i hil
      obtain ⟨cs', hc, htr⟩ := hi i (by omega)
      obtain ⟨y, rfl, hy⟩ := he.op _ _ _ htr
      obtain ⟨_, hcl, hat⟩ := World.cells?_some hc
      rw [hK] at hat
      exact ⟨y, hy, hat⟩
    have hlist : ∀ k, k ≤ len → ∃ l : List α, l.length = k ∧ ∀ i y, l[i]? = some y → ok y ∧ ∀ j, j < K → W.cell? ((a.add (i * K)).add j) = (vals y)[j]? := by
      intro k
      induction k with
      | zero => intro _; exact ⟨[], rfl, by simp⟩
      | succ k ih =>
        intro hk
        obtain ⟨l, hl', hl2⟩ := ih (by omega)
        obtain ⟨y, hy, hc⟩ := hex k (by omega)
        refine ⟨l ++ [y], by simp [hl'], fun i z hz => ?_⟩
        rcases Nat.lt_or_ge i l.length with h' | h'
        · rw [List.getElem?_append_left h'] at hz; exact hl2 i z hz
        · rw [List.getElem?_append_right h'] at hz
          have hil : i - l.length = 0 := by
            rcases Nat.eq_zero_or_pos (i - l.length) with e | e
            · exact e
            · rw [List.getElem?_eq_none (by simp; omega)] at hz; cases hz
          have hi' : i = k := by omega
          rw [hil] at hz
          simp at hz
          subst hz
          subst hi'
          exact ⟨hy, hc⟩
    obtain ⟨l, hll, hla⟩ := hlist len (Nat.le_refl _)
    refine ⟨⟨some a, len, _, l⟩, rfl, hll, hl, hm, ?_, ?_, fun h => by cases h⟩
    · intro y hy
      obtain ⟨i, hi'⟩ := List.getElem?_of_mem hy
      exact (hla i y hi').1
    · intro hne
      have hKp : 0 < K := by
        rcases Nat.eq_zero_or_pos K with h0 | h0
        · exfalso; apply hne
          apply List.eq_nil_of_length_eq_zero
          rw [flat_len hv, h0, Nat.mul_zero]
        · exact h0
      have hl0 : 0 < l.length := by
        cases l with
        | nil => exact absurd rfl hne
        | cons => simp
      have hcell : ∀ j u, (l.flatMap vals)[j]? = some u → W.cell? (a.add j) = some u := by
        intro j u hu
        have hj : j < l.length * K := by
          rcases Nat.lt_or_ge j (l.length * K) with h | h
          · exact h
          · rw [List.getElem?_eq_none (by rw [flat_len hv]; exact h)] at hu; cases hu
        have hq : j / K < l.length := Nat.div_lt_of_lt_mul (by rw [Nat.mul_comm]; exact hj)
        have hm' : j % K < K := Nat.mod_lt _ hKp
        have e : j / K * K + j % K = j := Nat.div_add_mod' j K
        have hx : l[j / K]? = some l[j / K] := List.getElem?_eq_getElem hq
        have h2 := (hla _ _ hx).2 _ hm'
        rw [← e, flat_get hv hx hm'] at hu
        rw [Go.Deep.add_add, e] at h2
        rw [h2]; exact hu
      obtain ⟨u0, hu0⟩ : ∃ u, (l.flatMap vals)[0]? = some u := ⟨_, List.getElem?_eq_getElem (by rw [flat_len hv]; exact Nat.mul_pos hl0 hKp)⟩
      have h0 := hcell 0 u0 hu0
      have ha0 : a.add 0 = a := rfl
      rw [ha0] at h0
      have hs : a.spot = none := by
        unfold World.cell? at h0
        split at h0
        · cases hsp : a.spot with
          | none => rfl
          | some _ => simp [hsp] at h0
        · cases h0
      obtain ⟨b, off, sp⟩ := a
      simp only at hs
      subst hs
      refine ⟨b, off, rfl, by simp, World.block_lt_of_cell? W _ h0, fun j u hu => ?_⟩
      have := hcell j u hu
      have e : (⟨b, off, none⟩ : Addr).add j = ⟨b, off + j, none⟩ := by unfold Addr.add; split <;> simp_all
      rwa [e] at this⟩
theorem top_slice {t e : Nat} {base : Nat} {α : Type} {ok : Sin α → Prop} (ht : P.underlying t = some (.slice e)) (O : Opn enc P W t (Sin.vals (α := α)) ok) {v : Value} {d : DataW H} {p : List MemPlace}
    (hv : Value.okWide P W .any base t v) (h : DataW.Trod enc P W 0 (fun _ => true) true t v d p) : ∃ s : Sin α, v = .slice s.A s.n s.c ∧ ok s := by
  obtain ⟨A, n, c, rfl⟩ := okWide_slice ht hv
  obtain ⟨fuel, hf⟩ := h
  obtain ⟨s, hs, hok⟩ := O.op _ _ _ hf
  exact ⟨s, by simpa [Sin.vals, Value.cells] using hs, hok⟩

/-- A field of one cell. -/
theorem fld {base n : Nat} {spare : Nat → Bool} {held : Bool} {fs : Array Field} {xs : List (DataW H × List MemPlace)} {cs : List Value}
    (hg : ∀ (i : Nat) (f : Field), fs[i]? = some f → DataW.trod enc P W base spare held n f.type ((cs.drop f.offset).take (P.cellsOf f.type)) = xs[i]?) (hxl : xs.length = fs.size)
    (i : Nat) {f : Field} (hf : fs[i]? = some f) (hc : P.cellsOf f.type = 1) {c : Value} (hcs : cs[f.offset]? = some c) : ∃ y, DataW.trod enc P W base spare held n f.type [c] = some y := by
  have h := hg i f hf
  have hi : i < xs.length := by rw [hxl]; exact (Array.getElem?_eq_some_iff.1 hf).1
  have e : (cs.drop f.offset).take 1 = [c] := by
    have hl : f.offset < cs.length := (List.getElem?_eq_some_iff.1 hcs).1
    have hv : cs[f.offset] = c := (List.getElem?_eq_some_iff.1 hcs).2
    rw [List.drop_eq_getElem_cons hl, hv]; rfl
  rw [hc, e, List.getElem?_eq_getElem hi] at h
  exact ⟨_, h⟩
theorem fld_int {base n : Nat} {spare : Nat → Bool} {held : Bool} {fs : Array Field} {xs : List (DataW H × List MemPlace)} {cs : List Value}
    (hg : ∀ (i : Nat) (f : Field), fs[i]? = some f → DataW.trod enc P W base spare held n f.type ((cs.drop f.offset).take (P.cellsOf f.type)) = xs[i]?) (hxl : xs.length = fs.size)
    (i : Nat) {f : Field} {k : IntKind} (hf : fs[i]? = some f) (hc : P.cellsOf f.type = 1) (ht : P.underlying f.type = some (.int k)) {c : Value} (hcs : cs[f.offset]? = some c) : ∃ m, c = .int k m ∧ (Lit.int k m).wf = true := by
  obtain ⟨y, hy⟩ := fld hg hxl i hf hc hcs
  obtain ⟨m, hm, _, hw⟩ := DataW.trod_int ht hy
  injection hm with hm
  exact ⟨m, hm, hw⟩
theorem fld_string {base n : Nat} {spare : Nat → Bool} {held : Bool} {fs : Array Field} {xs : List (DataW H × List MemPlace)} {cs : List Value}
    (hg : ∀ (i : Nat) (f : Field), fs[i]? = some f → DataW.trod enc P W base spare held n f.type ((cs.drop f.offset).take (P.cellsOf f.type)) = xs[i]?) (hxl : xs.length = fs.size)
    (i : Nat) {f : Field} (hf : fs[i]? = some f) (hc : P.cellsOf f.type = 1) (ht : P.underlying f.type = some .string) {c : Value} (hcs : cs[f.offset]? = some c) : ∃ s : ByteArray, c = .string s ∧ s.size ≤ maxLen := by
  obtain ⟨y, hy⟩ := fld hg hxl i hf hc hcs
  obtain ⟨m, hm, _, hw⟩ := DataW.trod_string ht hy
  injection hm with hm
  exact ⟨m, hm, hw⟩

/-- Readings stay where no old block has turned. -/
theorem trodAll_below (hl : laidOutB P = true) {W' : World} (hb : Below W.heap.size W W') : ∀ (ts : List TypeId) (vs : List Value) (ds : List (DataW H)) (ps : List MemPlace), (∀ t ∈ ts, P.readableRec t = true ∧ t < P.types.size) →
    (∀ x ∈ ps, x.block < W.heap.size) → DataW.TrodAll enc P W 0 (fun _ => true) true ts vs ds ps → DataW.TrodAll enc P W' 0 (fun b => decide (b < W.heap.size)) true ts vs ds ps := by
  intro ts
  induction ts with
  | nil =>
    intro vs ds ps _ _ h
    cases vs <;> cases ds <;> simp_all [DataW.TrodAll]
  | cons t ts ih =>
    intro vs ds ps hr hlt h
    obtain ⟨v, vs', d, ds', p, q, rfl, rfl, rfl, h1, h2⟩ := trodAll_cons h
    have hr1 := hr t (by simp)
    exact trodAll_cons_mk (Below.trod hl hr1.1 hr1.2 h1 hb (fun x hx => hlt x (by simp [hx]))) (ih _ _ _ (fun t' ht' => hr t' (by simp [ht'])) (fun x hx => hlt x (by simp [hx])) h2)
theorem law_post {f : Func} {s : ChangeSpec} {W' : World} {args : Array Value} {ds gs : List (DataW H)} {before : List MemPlace} {tb : Nat} (hl : laidOutB P = true) (hread : ∀ t ∈ f.params.toList, P.readableRec t = true ∧ t < P.types.size)
    (hr : f.resultTypes = #[tb]) (hu : P.underlying tb = some .bool) (hvs : s.vars = []) (hfn : (s.fn H (ds ++ gs)).results = [.lit (.bool true)]) (hfa : (s.fn H (ds ++ gs)).args = ds) (hfv : (s.fn H (ds ++ gs)).vars = [])
    (hW : DataW.Whole enc P f.params.toList s.vars false W args.toList ds gs before) (hb : Below W.heap.size W W') : s.post enc P f false true false false W args (.bool true) W' := by
  obtain ⟨p, q, hA, hV, he, hz, hn⟩ := hW
  rw [hvs] at hV
  obtain ⟨rfl, rfl⟩ := trodVars_none hV
  rw [List.append_nil] at he
  subst he
  have hWh : DataW.Whole enc P f.params.toList s.vars false W args.toList ds [] before := ⟨before, [], hA, by rw [hvs]; exact hV, by simp, hz, hn⟩
  have hlt : ∀ x ∈ before, x.block < W.heap.size := fun x hx => DataW.Whole.lt hWh x hx
  refine ⟨ds, [], before, [], before, [], ⟨before, [], hA, by rw [hvs]; exact hV, by simp, hz, hn⟩, ?_, ?_, ?_, ?_, fun h => by cases h⟩
  · rw [hfn, hr]
    exact trodAll_cons_mk (shut_bool hu true) trodAll_mk0
  · rw [hfa]
    exact trodAll_below hl hb _ _ _ _ hread hlt hA
  · rw [hfv, hvs]; rfl
  · exact World.keptBut_mono (fun x hx => ⟨hx, .inr (.inl hx)⟩) (hb.frame (· ∈ before))
end
/-- From what a law's walk gives to what its row asks. -/
theorem law_calls {f : FuncId} {args : Array Value} {w : World} (h : ∀ R : Ending → World → Prop, (∀ w', Kp [] w w' → R (.returned (.bool true)) w') → Calls Tryz.prog f args w R) :
    Calls Tryz.prog f args w fun e w' => e = .returned (.bool true) ∧ Below w.heap.size w w' := h _ fun _ hk => ⟨rfl, hk.below_nil⟩
end
/-! ### Package gather: pieces, their size, what may be, cuts. -/
section
open Go.RowKit
set_option linter.unusedVariables false
set_option linter.unusedSimpArgs false
set_option maxRecDepth 100000

/-- A piece. -/
structure Pc where
  f : Int
  o : Int
  n : Int
def Pc.vals (p : Pc) : List Value := [.int .i64 p.f, .int .i64 p.o, .int .i64 p.n]
theorem pvals_len (p : Pc) : p.vals.length = 3 := rfl
theorem pvals_one (p : Pc) : ∀ u ∈ p.vals, u.oneCell' = true := by intro u hu; simp [Pc.vals] at hu; rcases hu with rfl | rfl | rfl <;> rfl
/-- Numbers that an int has. -/
def Pc.ok (p : Pc) : Prop := (-9223372036854775808 ≤ p.f ∧ p.f ≤ 9223372036854775807) ∧ (-9223372036854775808 ≤ p.o ∧ p.o ≤ 9223372036854775807) ∧ (-9223372036854775808 ≤ p.n ∧ p.n ≤ 9223372036854775807)
def wB (p : Pc) : Bool := decide (0 ≤ p.o ∧ 0 ≤ p.n ∧ p.o + p.n ≤ 256)
def pszF (n : Int) (p : Pc) : Int := if 0 < p.n then n + min p.n (1048576 - n) else n
def psz (l : List Pc) : Int := l.foldl pszF 0
theorem pszF_bd {n : Int} {p : Pc} (h0 : 0 ≤ n) (h1 : n ≤ 1048576) : 0 ≤ pszF n p ∧ pszF n p ≤ 1048576 ∧ n ≤ pszF n p := by
  unfold pszF; split <;> omega
theorem psz_from {l : List Pc} : ∀ {n : Int}, 0 ≤ n → n ≤ 1048576 → 0 ≤ l.foldl pszF n ∧ l.foldl pszF n ≤ 1048576 ∧ n ≤ l.foldl pszF n := by
  induction l with
  | nil => intro n h0 h1; simp; omega
  | cons p l ih => intro n h0 h1; have := @pszF_bd n p h0 h1; have := ih (n := pszF n p) (by omega) (by omega); simp only [List.foldl_cons]; omega
theorem psz_bd (l : List Pc) : 0 ≤ psz l ∧ psz l ≤ 1048576 := by have := @psz_from l 0 (by omega) (by omega); unfold psz; omega
theorem foldl_snoc {α β : Type} {f : β → α → β} {b : β} {l : List α} {k : Nat} {x : α} (hx : l[k]? = some x) : (l.take (k + 1)).foldl f b = f ((l.take k).foldl f b) x := by
  have hk : k < l.length := (List.getElem?_eq_some_iff.1 hx).1
  have e : l[k] = x := (List.getElem?_eq_some_iff.1 hx).2
  rw [List.take_succ_eq_append_getElem hk, e, List.foldl_append]
  rfl
theorem get_lt {α : Type} {l : List α} {k : Nat} (hk : k < l.length) : ∃ x, l[k]? = some x ∧ x ∈ l := ⟨l[k], List.getElem?_eq_getElem hk, List.getElem_mem hk⟩

theorem elt_pc : Elt Tryz.prog 43 187 (.agg #[.int .i64 0, .int .i64 0, .int .i64 0]) 3 24 := ⟨Tryz.underlying43, by kernel_rfl, rfl, by decide, by decide⟩

section
variable {R : Ending → World → Prop} {w : World}

set_option maxHeartbeats 400000 in
theorem within_any (p : Pc) (hp : p.ok) (h : ∀ w', Kp [] w w' → R (.returned (.bool (wB p))) w') : Calls Tryz.prog 152 #[.agg #[.int .i64 p.f, .int .i64 p.o, .int .i64 p.n]] w R := by
  have H := Lib.hid h
  obtain ⟨pf, po, pn⟩ := p
  obtain ⟨_, h1, h2⟩ := hp
  simp only at h1 h2
  clear h
  have hk := fun o => (Kp.refl [] w).alloc o
  go_enter Tryz.func152, Tryz.ntmps152
  go_wp2
  all_goals (refine rcast (H.out _ (hk _)) (congrArg Value.bool ?_); rw [Bool.eq_iff_iff]; simp [wB] <;> omega)

set_option maxHeartbeats 400000 in
theorem gsize_any {N : List Nat} {A : Option Addr} {n c : Nat} {l : List Pc} (hr : Rd w N A (l.flatMap Pc.vals)) (hl : l.length = n) (hn : n ≤ 1000000) (hok : ∀ p ∈ l, p.ok)
    (h : ∀ w', Kp [] w w' → R (.returned (.int .i64 (psz l))) w') : Calls Tryz.prog 153 #[.slice A n c] w R := by
  have H := Lib.hid h
  have HL := Lib.hid hl
  clear h hl
  go_enter Tryz.func153, Tryz.ntmps153
  go_wp2
  go_loopw [3, 8] (fun s i wr => ∃ k : Nat, k ≤ n ∧ i = .int .i64 k ∧ s = .int .i64 (psz (l.take k)) ∧ Kp [] w wr) (fun _ i _ => n - (intOf i).toNat)
  case atStart => exact ⟨0, Nat.zero_le _, rfl, rfl, Kp.refl _ _⟩
  case round =>
    obtain ⟨k, hk, rfl, rfl, kr⟩ := hrel
    by_cases hlt : k < n
    · obtain ⟨x, hx, hm⟩ := get_lt (l := l) (k := k) (by rw [HL.out]; exact hlt)
      obtain ⟨b, off, rfl, _, _, hc⟩ := rd_at (hr.kp kr (by simp)) pvals_len (by omega) hx
      have c0 := hc 0 _ rfl
      have c1 := hc 1 _ rfl
      have c2 := hc 2 _ rfl
      rw [Nat.add_zero] at c0
      obtain ⟨_, _, hx1, hx2⟩ := hok x hm
      have hs := foldl_snoc (f := pszF) (b := 0) hx
      obtain ⟨s0, s1⟩ := psz_bd (l.take k)
      have HS := Lib.hid (show psz (l.take (k + 1)) = pszF (psz (l.take k)) x from hs)
      clear hc hx hs
      generalize psz (l.take k) = s at *
      go_wp2
      · have hv : pszF s x = s + min x.n (1048576 - s) := by unfold pszF; rw [if_pos (by omega)]
        exact ⟨⟨k + 1, by omega, by go_num, icast (by rw [HS.out, hv]; split <;> omega), kr.alloc _⟩, by simp [intOf]; omega⟩
      · exact ⟨⟨k + 1, by omega, by go_num, icast (by rw [HS.out]; unfold pszF; rw [if_neg (by omega)]), kr.alloc _⟩, by simp [intOf]; omega⟩
    · have e : l.take k = l := List.take_of_length_le (by have := HL.out; omega)
      rw [e]
      clear e
      go_wp2
      exact H.out _ kr

set_option maxHeartbeats 400000 in
theorem of_any {N : List Nat} {A : Option Addr} {n c : Nat} {l : List Pc} (hr : Rd w N A (l.flatMap Pc.vals)) (hl : l.length = n) (hn : n ≤ 1000000)
    (h : ∀ A' c' w', Kp [] w w' → Ow w' 187 3 A' n c' (l.flatMap Pc.vals) → (∀ b ∈ bks A', w.heap.size ≤ b) → R (.returned (.slice A' n c')) w') : Calls Tryz.prog 35 #[.slice A n c] w R := by
  have H := Lib.hid h
  have HL := Lib.hid hl
  clear h hl
  go_enter Tryz.func35, Tryz.ntmps35
  go_wp2
  go_loopw [3, 4] (fun v i wr => ∃ (k : Nat) (A' : Option Addr) (c' : Nat), k ≤ n ∧ i = .int .i64 k ∧ v = .slice A' k c' ∧ Kp [] w wr ∧ Ow wr 187 3 A' k c' ((l.take k).flatMap Pc.vals) ∧ (∀ b ∈ bks A', w.heap.size ≤ b)) (fun _ i _ => n - (intOf i).toNat)
  case atStart => exact ⟨0, none, 0, Nat.zero_le _, rfl, rfl, Kp.refl _ _, Ow.nil, by simp [bks]⟩
  case round =>
    obtain ⟨k, A', c', hk, rfl, rfl, kr, ho, hA⟩ := hrel
    by_cases hlt : k < n
    · obtain ⟨x, hx, hm⟩ := get_lt (l := l) (k := k) (by rw [HL.out]; exact hlt)
      obtain ⟨b, off, rfl, _, _, hc⟩ := rd_at (hr.kp kr (by simp)) pvals_len (by omega) hx
      have c0 := hc 0 _ rfl
      have c1 := hc 1 _ rfl
      have c2 := hc 2 _ rfl
      rw [Nat.add_zero] at c0
      have HX := Lib.hid hx
      clear hc hx
      go_wp2_with (at_builtin; refine wpList_app _ rfl (.tmp 11) (.tmp 16) _ rfl elt_pc A' k c' _ rfl (ho.alloc _) [] (some ⟨wr.heap.size, 0, none⟩) 1 1 x.vals rfl (Rd.of_bk (Bk.newAt rfl _ _) (by simp)) rfl (pvals_one x) (by omega) ?_; intro A2 c2' w2 ho2 hk2 hA2)
      exact ⟨⟨k + 1, A2, c2', by omega, by go_num, rfl, (kr.alloc _).thn hk2 (fun s hs => .inr (hA s hs)), ho2.cast rfl (flat_snoc HX.out).symm, bks_app hA2 hA (by have := kr.size; simp; omega)⟩, by simp [intOf]; omega⟩
    · have e : l.take k = l := List.take_of_length_le (by have := HL.out; omega)
      obtain rfl : k = n := by omega
      rw [e] at ho
      clear e
      go_wp2
      exact H.out _ _ _ kr ho hA

/-! ### Cut -/
def cbad (p : Pc) : Bool := decide (p.f < 0 ∨ 256 < p.f) || !wB p
def cstep (s : Int × Int × List Pc) (p : Pc) : Int × Int × List Pc :=
  (s.1 - min s.1 p.n, s.2.1 - min s.2.1 (p.n - min s.1 p.n), if 0 < min s.2.1 (p.n - min s.1 p.n) then s.2.2 ++ [⟨p.f, p.o + min s.1 p.n, min s.2.1 (p.n - min s.1 p.n)⟩] else s.2.2)
def cfold (from_ n : Int) (l : List Pc) : Int × Int × List Pc := l.foldl cstep (from_, n, [])
def cutE (l : List Pc) (from_ n : Int) : Bool := l.any cbad || decide (from_ < 0 ∨ n < 0 ∨ psz l < from_ ∨ psz l - from_ < n)
def cutF (l : List Pc) (from_ n : Int) : Int × List Pc := if cutE l from_ n then (1, []) else (0, (cfold from_ n l).2.2)
theorem any_snoc_pc {l : List Pc} {p : Pc → Bool} {k : Nat} {x : Pc} (hx : l[k]? = some x) : (l.take (k + 1)).any p = ((l.take k).any p || p x) := by
  have hk : k < l.length := (List.getElem?_eq_some_iff.1 hx).1
  have e : l[k] = x := (List.getElem?_eq_some_iff.1 hx).2
  rw [List.take_succ_eq_append_getElem hk, e]
  simp
theorem wB_bd {p : Pc} (h : wB p = true) : 0 ≤ p.o ∧ 0 ≤ p.n ∧ p.o + p.n ≤ 256 := by simpa [wB] using h
end

/-! ### pieces that came in, opened -/
section
open Go.ChangeShapes Go.WideShapes Go.ChangeAt Go.RowKit Go.Deep
variable {H : Type} {enc : TypeId × Value → H} {W : World}
theorem i64_bd {m : Int} (h : (Lit.int .i64 m).wf = true) : -9223372036854775808 ≤ m ∧ m ≤ 9223372036854775807 := by have := bounds_i64 h; omega
theorem opn_pc : Opn enc Tryz.prog W 189 Pc.vals Pc.ok := ⟨fun fuel cs x h => by
  obtain ⟨xs, n, _, _, hlen, hxl, hg⟩ := DataW.trod_struct Tryz.underlying189 h
  have hK : Tryz.prog.cellsOf 189 = 3 := by kernel_rfl
  have hI : Tryz.prog.cellsOf 3 = 1 := by kernel_rfl
  rw [hK] at hlen
  match cs, hlen with
  | [c0, c1, c2], _ =>
    obtain ⟨m0, rfl, h0⟩ := fld_int hg hxl 0 rfl hI Tryz.underlying3 rfl
    obtain ⟨m1, rfl, h1⟩ := fld_int hg hxl 1 rfl hI Tryz.underlying3 rfl
    obtain ⟨m2, rfl, h2⟩ := fld_int hg hxl 2 rfl hI Tryz.underlying3 rfl
    exact ⟨⟨m0, m1, m2⟩, rfl, i64_bd h0, i64_bd h1, i64_bd h2⟩⟩
theorem opn_pcs : Opn enc Tryz.prog W 32 (Sin.vals (α := Pc)) (Sin.ok W Pc.vals Pc.ok) :=
  opn_slice (K := 3) Tryz.underlying32 (by kernel_rfl) (fun _ => rfl) opn_pc
end
end
/-! ### A call that came in (pantlerref09.Call), and the program's form of it (pantlerlaw09.Of). -/
section
open Go.RowKit Go.Shelf Go.ChangeShapes Go.WideShapes Go.ChangeAt Go.Deep
set_option linter.unusedVariables false
set_option linter.unusedSimpArgs false
set_option maxRecDepth 100000

/-- A step of a filter. -/
structure FOp where
  c : Int
  k : Int
  t : Int
  f : Int
def FOp.vals (o : FOp) : List Value := [.int .i64 o.c, .int .u32 o.k, .int .i64 o.t, .int .i64 o.f]
theorem ovals_len (o : FOp) : o.vals.length = 4 := rfl
theorem ovals_one (o : FOp) : ∀ u ∈ o.vals, u.oneCell' = true := by intro u hu; simp [FOp.vals] at hu; rcases hu with rfl | rfl | rfl | rfl <;> rfl
def i64B (n : Int) : Prop := -9223372036854775808 ≤ n ∧ n ≤ 9223372036854775807
structure FOp.ok (o : FOp) : Prop where
  c : i64B o.c
  k : 0 ≤ o.k ∧ o.k ≤ 4294967295
  t : i64B o.t
  f : i64B o.f
/-- A call. -/
structure Cl where
  op : Int
  env : Int
  a : Int
  b : Int
  c : Int
  s : ByteArray
  p : Sin FOp
  l : Sin Pc
def Cl.vals (x : Cl) : List Value := [.int .i64 x.op, .int .i64 x.env, .int .i64 x.a, .int .i64 x.b, .int .i64 x.c, .string x.s, .slice x.p.A x.p.n x.p.c, .slice x.l.A x.l.n x.l.c]
structure Cl.ok (W : World) (x : Cl) : Prop where
  op : i64B x.op
  env : i64B x.env
  a : i64B x.a
  b : i64B x.b
  c : i64B x.c
  s : x.s.size ≤ maxLen
  p : x.p.ok W FOp.vals FOp.ok
  l : x.l.ok W Pc.vals Pc.ok
section
variable {H : Type} {enc : TypeId × Value → H} {W : World}
end
end
end Go.Proofs.YtedblbpmlbjnhaaGreat
