/- ServeStays: what comes in, opened. A table of files that comes in, opened. The frame of a law whose row lists variables: what is listed and the world's shape handed to the walk together. ServeResp: what comes in, opened: a slice of strings none of which is longer than memory reaches. What the rows list, in the walks' words. -/
import Derived.Test.YtnmafahbdfilcaaGreatDoorPC28
import Derived.Test.YtnmafahbdfilcaaGreatDoorPC1
import Derived.Test.YtnmafahbdfilcaaGreatDoorPC29
import Derived.SizedLaws
import Derived.Handed
import Derived.LaidMore
import Derived.Lay
import Derived.Shelf.Vars
import Derived.Stop.Joined
import Derived.Test.YtnmafahbdfilcaaGreatDoorPC37
import Derived.Test.YtnmafahbdfilcaaGreatDoorRows
import Derived.Stop.LaidErr
import Derived.Lib.LaidTab
import Derived.Test.YtnmafahbdfilcaaGreatDoorPC2
namespace Go.Proofs.YtnmafahbdfilcaaGreatDoor
/-! ### ServeStays: what comes in, opened. -/
section
open Go.RowKit Go.Shelf Go.ChangeShapes Go.WideShapes Go.ChangeAt Go.Deep
set_option linter.unusedVariables false
set_option linter.unusedSimpArgs false
set_option maxRecDepth 100000
def i64F (n : Int) : Prop := -9223372036854775808 ≤ n ∧ n ≤ 9223372036854775807
theorem i64_bdF {m : Int} (h : (Lit.int .i64 m).wf = true) : i64F m := by
  simp [Lit.wf, IntKind.min, IntKind.max, IntKind.signed, IntKind.bits] at h
  unfold i64F
  omega
structure FileA where
  v : Int
  mt : Int
  len : Int
  kd : ByteArray
def FileA.vals (x : FileA) : List Value := [.int .i64 x.v, .int .i64 x.mt, .int .i64 x.len, .string x.kd]
section
variable {H : Type} {enc : TypeId × Value → H} {W : World}
theorem opn_file27 : Opn enc Tryz.prog W 26 FileA.vals (fun x => i64F x.v ∧ i64F x.mt ∧ i64F x.len) := ⟨fun fuel cs x h => by
  obtain ⟨xs, n, _, _, hlen, hxl, hg⟩ := DataW.trod_struct Tryz.underlying26 h
  have hK : Tryz.prog.cellsOf 26 = 4 := by kernel_rfl
  have hI : Tryz.prog.cellsOf 3 = 1 := by kernel_rfl
  have hJ : Tryz.prog.cellsOf 2 = 1 := by kernel_rfl
  have hS : Tryz.prog.cellsOf 9 = 1 := by kernel_rfl
  rw [hK] at hlen
  match cs, hlen with
  | [c0, c1, c2, c3], _ =>
    obtain ⟨m0, rfl, h0⟩ := fld_int hg hxl 0 rfl hI Tryz.underlying3 rfl
    obtain ⟨m1, rfl, h1⟩ := fld_int hg hxl 1 rfl hJ Tryz.underlying2 rfl
    obtain ⟨m2, rfl, h2⟩ := fld_int hg hxl 2 rfl hI Tryz.underlying3 rfl
    obtain ⟨m3, rfl, h3⟩ := fld_string hg hxl 3 rfl hS Tryz.underlying9 rfl
    exact ⟨⟨m0, m1, m2, m3⟩, rfl, i64_bdF h0, i64_bdF h1, i64_bdF h2⟩⟩
theorem top_agg {t base : Nat} {fs : Array Field} {α : Type} {vals : α → List Value} {ok : α → Prop} (ht : Tryz.prog.underlying t = some (.struct fs)) (O : Opn enc Tryz.prog W t vals ok) {v : Value} {d : DataW H} {p : List MemPlace}
    (hv : Value.okWide Tryz.prog W .any base t v) (h : DataW.Trod enc Tryz.prog W 0 (fun _ => true) true t v d p) : ∃ a, v = .agg (vals a).toArray ∧ ok a := by
  obtain ⟨cs, rfl, hsz⟩ := okWide_struct ht hv
  obtain ⟨fuel, hf⟩ := h
  obtain ⟨a, ha, hok⟩ := O.op _ _ _ hf
  refine ⟨a, ?_, hok⟩
  congr 1
  rw [← ha]
  simp [Value.cells]
end
theorem stays_top {R : Ending → World → Prop} {W : World} (x : ByteArray) (s : Sin ByteArray) (f : FileA) (now : Int) (ws : Sin.ok W (fun s : ByteArray => [Value.string s]) (fun s => s.size ≤ maxLen) s) (wf : i64F f.v ∧ i64F f.mt ∧ i64F f.len) (hw : Lw W) (h : ∀ w', Kp [] W w' → R (.returned (.bool true)) w') :
    Calls Tryz.prog 6 #[.string x, .slice s.A s.n s.c, .agg f.vals.toArray, .int .i64 now] W R := by
  have e : f.kd = S f.kd.data.toList := S_eta _
  unfold FileA.vals
  rw [e]
  refine stays_walk x s.l f.v f.mt f.len f.kd.data.toList now (by have := ws.rd; rwa [show s.l.flatMap (fun s : ByteArray => [Value.string s]) = s.l.map Value.string from by induction s.l with | nil => rfl | cons y l ih => simp only [List.flatMap_cons, List.map_cons, ih]; rfl] at this) ws.len wf.1 wf.2.1 wf.2.2 hw h
end
/-! ### A table of files that comes in, opened. -/
section
open Go.RowKit Go.Shelf Go.ChangeShapes Go.WideShapes Go.ChangeAt Go.Deep
set_option linter.unusedVariables false
set_option linter.unusedSimpArgs false
set_option maxRecDepth 100000
structure FlA where
  nm : ByteArray
  s : ByteArray
  v : Int
  mt : Int
def FlA.vals (x : FlA) : List Value := [.string x.nm, .string x.s, .int .i64 x.v, .int .i64 x.mt]
def FlA.fl (x : FlA) : Fl := ⟨x.nm.data.toList, x.s.data.toList, x.v, x.mt⟩
theorem fla_vals (l : List FlA) : l.flatMap FlA.vals = (l.map FlA.fl).flatMap flC := by
  induction l with
  | nil => rfl
  | cons x l ih =>
    simp only [List.flatMap_cons, List.map_cons, ih]
    unfold FlA.vals flC FlA.fl
    simp only
    rw [← S_eta, ← S_eta]
section
variable {H : Type} {enc : TypeId × Value → H} {W : World}
theorem opn_file28 : Opn enc Tryz.prog W 58 FlA.vals (fun x => i64F x.v ∧ i64F x.mt) := ⟨fun fuel cs x h => by
  obtain ⟨xs, n, _, _, hlen, hxl, hg⟩ := DataW.trod_struct Tryz.underlying58 h
  have hK : Tryz.prog.cellsOf 58 = 4 := by kernel_rfl
  have hI : Tryz.prog.cellsOf 3 = 1 := by kernel_rfl
  have hJ : Tryz.prog.cellsOf 2 = 1 := by kernel_rfl
  have hS : Tryz.prog.cellsOf 9 = 1 := by kernel_rfl
  rw [hK] at hlen
  match cs, hlen with
  | [c0, c1, c2, c3], _ =>
    obtain ⟨m0, rfl, h0⟩ := fld_string hg hxl 0 rfl hS Tryz.underlying9 rfl
    obtain ⟨m1, rfl, h1⟩ := fld_string hg hxl 1 rfl hS Tryz.underlying9 rfl
    obtain ⟨m2, rfl, h2⟩ := fld_int hg hxl 2 rfl hI Tryz.underlying3 rfl
    obtain ⟨m3, rfl, h3⟩ := fld_int hg hxl 3 rfl hJ Tryz.underlying2 rfl
    exact ⟨⟨m0, m1, m2, m3⟩, rfl, i64_bdF h2, i64_bdF h3⟩⟩
end
end
/-! ### The frame of a law whose row lists variables: what is listed and the world's shape handed to the walk together. -/
section
open Go
variable {H : Type} {enc : TypeId × Value → H}

theorem handed_cs {a : Assume} {C : Checked} {os : Os} {f : FuncId} {fn : Func} {s : ChangeSpec} {conds : List PathCond} {apart fresh handsOn again : Bool} {X : World → Array Value → Prop}
    (hX : ∀ (w w' : World) (args : Array Value), w.heap = w'.heap → X w args → X w' args)
    (own : ownKnob C.prog.godebug = none) (started : os.Started) (noInit : C.prog.inits.idxOf? f = none) (hfn : C.prog.funcs[f]? = some fn)
    (witness : ∃ (w : World) (tape : Tape) (i : Input), w.os = os ∧ (w.forCall tape i).Shaped C.prog ∧ i.vars = [] ∧ Input.okWide C.prog (w.forCall tape i) .any w.heap.size f i ∧
      ((s.pre enc C.prog fn conds apart (w.forCall tape i).memory i.args ∧ X (w.forCall tape i).memory i.args) ∧ sizedMet enc C.prog fn (OpenSpec.ofChange s) apart (w.forCall tape i).memory i.args) ∧ a.holds C.prog (lone (Frame.enter C.prog f i.args .normal) [] (w.forCall tape i)))
    (contract : ∀ (W : World) (base : Nat) (args : Array Value) (ds gs : List (DataW H)) (before : List MemPlace),
      (∀ (j : Nat) t v, fn.params[j]? = some t → args[j]? = some v → Value.okWide C.prog W .any base t v) →
      DataW.Whole enc C.prog fn.params.toList s.vars apart W args.toList ds gs before →
      (DataW.weightsEach C.prog (fn.params.toList ++ s.plain.varTypes C.prog) (ds ++ gs)).all (· ≤ reachBytes) = true → X W args → W.ShapedOpen C.prog →
      Calls C.prog f args W fun e W' => ∃ v, e = .returned v ∧ s.post enc C.prog fn apart fresh handsOn again W args v W') :
    ReturnsInHanded a C os f .any (fun w args => (s.pre enc C.prog fn conds apart w args ∧ X w args) ∧ sizedMet enc C.prog fn (OpenSpec.ofChange s) apart w args) (s.post enc C.prog fn apart fresh handsOn again) := by
  refine returnsInHanded_of_calls own started noInit witness ?_
  intro w tape i _ hsh _ hok hpre _
  obtain ⟨_, _, _, fn', hfn', _, _, _, _, hval⟩ := hok
  have e : fn' = fn := Option.some.inj (hfn'.symm.trans hfn)
  subst e
  obtain ⟨⟨⟨ds, gs, before, hw, _⟩, hx⟩, hz⟩ := hpre
  have hw' := DataW.Whole.of_heap (w' := w.forCall tape i) (by rfl) hw
  refine (contract (w.forCall tape i) w.heap.size i.args ds gs before hval hw' (hz.weights hw) (hX _ _ _ (by rfl) hx) hsh).mono fun e W' ⟨v, he, hp⟩ => ?_
  subst he
  exact ChangeSpec.post_blind hp
end
/-! ### ServeResp: what comes in, opened: a slice of strings none of which is longer than memory reaches. -/
section
open Go.RowKit Go.Shelf Go.ChangeShapes Go.WideShapes Go.ChangeAt Go.Deep
set_option linter.unusedVariables false
set_option linter.unusedSimpArgs false
set_option maxRecDepth 100000
theorem weightsAll_mem {H : Type} {P : Program} {e : TypeId} {d : DataW H} : ∀ {l : List (DataW H)}, d ∈ l → ∀ n ∈ d.weights P e, n ∈ DataW.weightsAll P e l := by
  intro l
  induction l with
  | nil => intro h; cases h
  | cons x l ih =>
    intro h n hn
    simp only [DataW.weightsAll, List.mem_append]
    rcases List.mem_cons.1 h with rfl | h
    · exact .inl hn
    · exact .inr (ih h n hn)
section
variable {H : Type} {enc : TypeId × Value → H} {P : Program} {W : World}
/-- Whatever reads as type t, and reaches no further than memory, is 'vals' of some a of which 'ok' holds. -/
structure OpnW (enc : TypeId × Value → H) (P : Program) (W : World) (t : Nat) {α : Type} (vals : α → List Value) (ok : α → Prop) : Prop where
  op : ∀ fuel cs x, DataW.trod enc P W 0 (fun _ => true) true fuel t cs = some x → (∀ n ∈ x.1.weights P t, n ≤ reachBytes) → ∃ a, cs = vals a ∧ ok a
theorem opnW_string {t : Nat} (ht : P.underlying t = some .string) : OpnW enc P W t (fun s => [.string s]) (fun s => s.size ≤ reachBytes) :=
  ⟨fun fuel cs x h hr => by
    obtain ⟨n, hc, hx, hw⟩ := DataW.trod_string ht h
    refine ⟨n, hc, ?_⟩
    subst hx
    have := hr n.data.toList.length (by simp [DataW.weights])
    rwa [Array.length_toList] at this⟩
theorem opnW_slice {t e K : Nat} {α : Type} {vals : α → List Value} {ok : α → Prop} (ht : P.underlying t = some (.slice e)) (hK : P.cellsOf e = K) (hv : ∀ a, (vals a).length = K) (he : OpnW enc P W e vals ok) :
    OpnW enc P W t (Sin.vals (α := α)) (Sin.ok W vals ok) := ⟨fun fuel cs x h hw => by
  rcases open_slice ht h with ⟨rfl, rfl⟩ | ⟨a, len, cap, m, n, D, Pl, rfl, _, hl, hm, hmm, rfl, hi⟩
  · exact ⟨⟨none, 0, 0, []⟩, rfl, ⟨rfl, Nat.le_refl _, Nat.zero_le _, by simp, Rd.nil, fun _ => ⟨rfl, rfl⟩⟩⟩
  · simp only [if_true] at hmm
    subst hmm
    have hwD : ∀ i, i < len → ∀ n ∈ (D i).weights P e, n ≤ reachBytes := fun i hi n hn => hw n (by
      simp only [DataW.weights, ht]
      refine List.mem_cons_of_mem _ (List.mem_append_left _ ?_)
      exact weightsAll_mem (by simp; exact ⟨i, hi, rfl⟩) n hn)
    have hex : ∀ i, i < len → ∃ y, ok y ∧ ∀ j, j < K → W.cell? ((a.add (i * K)).add j) = (vals y)[j]? := by
      intro i hil
      obtain ⟨cs', hc, htr⟩ := hi i (by omega)
      obtain ⟨y, rfl, hy⟩ := he.op _ _ _ htr (hwD i hil)
      obtain ⟨_, hcl, hat⟩ := World.cells?_some hc
      rw [hK] at hat
      exact ⟨y, hy, hat⟩
    have hlist : ∀ k, k ≤ len → ∃ l : List α, l.length = k ∧ (∀ i y, l[i]? = some y → ok y ∧ ∀ j, j < K → W.cell? ((a.add (i * K)).add j) = (vals y)[j]?) := by
      intro k
      induction k with
      | zero => intro _; exact ⟨[], rfl, by simp⟩
      | succ k ih =>
        intro hk
        obtain ⟨l, hl', hl2⟩ := ih (by omega)
        obtain ⟨y, hy⟩ := hex k (by omega)
        refine ⟨l ++ [y], by simp [hl'], fun i z hz => ?_⟩
        · rcases Nat.lt_or_ge i l.length with h' | h'
          · rw [List.getElem?_append_left h'] at hz; exact hl2 i z hz
          · rw [List.getElem?_append_right h'] at hz
            have hil : i - l.length = 0 := by
              rcases Nat.eq_zero_or_pos (i - l.length) with e | e
              · exact e
              · rw [List.getElem?_eq_none (by simp; omega)] at hz; cases hz
            have hi' : i = k := by omega
            rw [hil] at hz
            simp at hz
            subst hz
            subst hi'
            exact hy
    obtain ⟨l, hll, hla⟩ := hlist len (Nat.le_refl _)
    refine ⟨⟨some a, len, _, l⟩, rfl, ⟨hll, hl, hm, ?_, ?_, fun h => by cases h⟩⟩
    · intro y hy
      obtain ⟨i, hi'⟩ := List.getElem?_of_mem hy
      exact (hla i y hi').1
    · intro hne
      have hKp : 0 < K := by
        rcases Nat.eq_zero_or_pos K with h0 | h0
        · exfalso; apply hne
          apply List.eq_nil_of_length_eq_zero
          rw [flat_len hv, h0, Nat.mul_zero]
        · exact h0
      have hl0 : 0 < l.length := by
        cases l with
        | nil => exact absurd rfl hne
        | cons => simp
      have hcell : ∀ j u, (l.flatMap vals)[j]? = some u → W.cell? (a.add j) = some u := by
        intro j u hu
        have hj : j < l.length * K := by
          rcases Nat.lt_or_ge j (l.length * K) with h | h
          · exact h
          · rw [List.getElem?_eq_none (by rw [flat_len hv]; exact h)] at hu; cases hu
        have hq : j / K < l.length := Nat.div_lt_of_lt_mul (by rw [Nat.mul_comm]; exact hj)
        have hm' : j % K < K := Nat.mod_lt _ hKp
        have e : j / K * K + j % K = j := Nat.div_add_mod' j K
        have hx : l[j / K]? = some l[j / K] := List.getElem?_eq_getElem hq
        have h2 := (hla _ _ hx).2 _ hm'
        rw [← e, flat_get hv hx hm'] at hu
        rw [Go.Deep.add_add, e] at h2
        rw [h2]; exact hu
      obtain ⟨u0, hu0⟩ : ∃ u, (l.flatMap vals)[0]? = some u := ⟨_, List.getElem?_eq_getElem (by rw [flat_len hv]; exact Nat.mul_pos hl0 hKp)⟩
      have h0 := hcell 0 u0 hu0
      have ha0 : a.add 0 = a := rfl
      rw [ha0] at h0
      have hs : a.spot = none := by
        unfold World.cell? at h0
        split at h0
        · cases hsp : a.spot with
          | none => rfl
          | some _ => simp [hsp] at h0
        · cases h0
      obtain ⟨b, off, sp⟩ := a
      simp only at hs
      subst hs
      refine ⟨b, off, rfl, by simp, World.block_lt_of_cell? W _ h0, fun j u hu => ?_⟩
      have := hcell j u hu
      have e : (⟨b, off, none⟩ : Addr).add j = ⟨b, off + j, none⟩ := by unfold Addr.add; split <;> simp_all
      rwa [e] at this⟩
theorem top_sliceW {t e : Nat} {base : Nat} {α : Type} {ok : Sin α → Prop} (ht : P.underlying t = some (.slice e)) (O : OpnW enc P W t (Sin.vals (α := α)) ok) {v : Value} {d : DataW H} {p : List MemPlace}
    (hv : Value.okWide P W .any base t v) (h : DataW.Trod enc P W 0 (fun _ => true) true t v d p) (hr : ∀ n ∈ d.weights P t, n ≤ reachBytes) : ∃ s : Sin α, v = .slice s.A s.n s.c ∧ ok s := by
  obtain ⟨A, n, c, rfl⟩ := okWide_slice ht hv
  obtain ⟨fuel, hf⟩ := h
  obtain ⟨s, hs, hok⟩ := O.op _ _ _ hf hr
  exact ⟨s, by simpa [Sin.vals, Value.cells] using hs, hok⟩
theorem sized_at {ts : List TypeId} {ds : List (DataW H)} (h : (DataW.weightsEach P ts ds).all (· ≤ reachBytes) = true) {j : Nat} {t : TypeId} {d : DataW H} (ht : ts[j]? = some t) (hd : ds[j]? = some d) : ∀ n ∈ d.weights P t, n ≤ reachBytes := fun n hn => by
  have := List.all_eq_true.1 h _ (DataW.weights_mem_each ht hd n hn)
  simpa using this
end
theorem sresp_top {R : Ending → World → Prop} {W : World} (q : Sin ByteArray) (s : Sin FlA) (now : Int) (wq : Sin.ok W (fun s : ByteArray => [Value.string s]) (fun s => s.size ≤ reachBytes) q) (ws : Sin.ok W FlA.vals (fun x => i64F x.v ∧ i64F x.mt) s) (hw : Lw W) (h : ∀ w', Kp [] W w' → R (.returned (.bool true)) w') :
    Calls Tryz.prog 5 #[.slice q.A q.n q.c, .slice s.A s.n s.c, .int .i64 now] W R := by
  have rd0 := ws.rd
  rw [fla_vals] at rd0
  have e1 : q.l.flatMap (fun s : ByteArray => [Value.string s]) = strs (q.l.map fun y => y.data.toList) := by
    induction q.l with
    | nil => rfl
    | cons y l ih =>
      simp only [List.flatMap_cons, List.map_cons, ih, strs, List.singleton_append, List.cons.injEq, Value.string.injEq, and_true]
      exact S_eta y
  have rd1 := wq.rd
  rw [e1] at rd1
  have zr := reachBytes_lt
  refine sresp_walk (q.l.map fun y => y.data.toList) (s.l.map FlA.fl) now rd1 (by rw [List.length_map]; exact wq.len) (fun y hy => ?_) rd0 (by rw [List.length_map]; exact ws.len) (fun f hf => ?_) hw h
  · obtain ⟨g, hg, rfl⟩ := List.mem_map.1 hy
    have := wq.all g hg
    have lx : g.data.toList.length = g.size := by rw [Array.length_toList]; rfl
    omega
  · obtain ⟨g, hg, rfl⟩ := List.mem_map.1 hf
    have hok := ws.all g hg
    exact ⟨hok.1.2, hok.2.2⟩
theorem lw_sresp {W : World} (hL : laidMetH Tryz.prog Rows.serveRespRow.laid W) (hsh : W.ShapedOpen Tryz.prog) : Lw W := by
  refine ⟨ml_of_shape hsh, ?_⟩
  rw [MakeChecks.laidMetH_plain _ _ _ (by kernel_rfl)] at hL
  first
  | exact Lib.tabIs_of_head (g := 1) (by kernel_rfl) (by kernel_rfl) Tryz.underlying236 Tryz.underlying160 (by kernel_rfl) (by kernel_rfl) hL
  | exact Lib.tabIs_of_head (g := 1) (by kernel_rfl) (by kernel_rfl) Tryz.underlying236 Tryz.underlying160 (by kernel_rfl) (by kernel_rfl) (laidMet.tail hL)
  | exact Lib.tabIs_of_head (g := 1) (by kernel_rfl) (by kernel_rfl) Tryz.underlying236 Tryz.underlying160 (by kernel_rfl) (by kernel_rfl) (laidMet.tail (laidMet.tail hL))
  | exact Lib.tabIs_of_head (g := 1) (by kernel_rfl) (by kernel_rfl) Tryz.underlying236 Tryz.underlying160 (by kernel_rfl) (by kernel_rfl) (laidMet.tail (laidMet.tail (laidMet.tail hL)))
  | exact Lib.tabIs_of_head (g := 1) (by kernel_rfl) (by kernel_rfl) Tryz.underlying236 Tryz.underlying160 (by kernel_rfl) (by kernel_rfl) (laidMet.tail (laidMet.tail (laidMet.tail (laidMet.tail hL))))
  | exact Lib.tabIs_of_head (g := 1) (by kernel_rfl) (by kernel_rfl) Tryz.underlying236 Tryz.underlying160 (by kernel_rfl) (by kernel_rfl) (laidMet.tail (laidMet.tail (laidMet.tail (laidMet.tail (laidMet.tail hL)))))
  | exact Lib.tabIs_of_head (g := 1) (by kernel_rfl) (by kernel_rfl) Tryz.underlying236 Tryz.underlying160 (by kernel_rfl) (by kernel_rfl) (laidMet.tail (laidMet.tail (laidMet.tail (laidMet.tail (laidMet.tail (laidMet.tail hL))))))
  | exact Lib.tabIs_of_head (g := 1) (by kernel_rfl) (by kernel_rfl) Tryz.underlying236 Tryz.underlying160 (by kernel_rfl) (by kernel_rfl) (laidMet.tail (laidMet.tail (laidMet.tail (laidMet.tail (laidMet.tail (laidMet.tail (laidMet.tail hL)))))))
end
/-! ### What the rows list, in the walks' words. -/
section
open Go Go.ChangeShapes Go.WideShapes Go.ChangeAt Go.RowKit Go.Proofs
set_option linter.unusedVariables false

theorem lw_snil {W : World} (hL : laidMetH Tryz.prog Rows.serveNilRow.laid W) (hsh : W.ShapedOpen Tryz.prog) : Lw W := by
  refine ⟨ml_of_shape hsh, ?_⟩
  rw [MakeChecks.laidMetH_plain _ _ _ (by kernel_rfl)] at hL
  first
  | exact Lib.tabIs_of_head (g := 1) (by kernel_rfl) (by kernel_rfl) Tryz.underlying236 Tryz.underlying160 (by kernel_rfl) (by kernel_rfl) hL
  | exact Lib.tabIs_of_head (g := 1) (by kernel_rfl) (by kernel_rfl) Tryz.underlying236 Tryz.underlying160 (by kernel_rfl) (by kernel_rfl) (laidMet.tail hL)
  | exact Lib.tabIs_of_head (g := 1) (by kernel_rfl) (by kernel_rfl) Tryz.underlying236 Tryz.underlying160 (by kernel_rfl) (by kernel_rfl) (laidMet.tail (laidMet.tail hL))
  | exact Lib.tabIs_of_head (g := 1) (by kernel_rfl) (by kernel_rfl) Tryz.underlying236 Tryz.underlying160 (by kernel_rfl) (by kernel_rfl) (laidMet.tail (laidMet.tail (laidMet.tail hL)))
  | exact Lib.tabIs_of_head (g := 1) (by kernel_rfl) (by kernel_rfl) Tryz.underlying236 Tryz.underlying160 (by kernel_rfl) (by kernel_rfl) (laidMet.tail (laidMet.tail (laidMet.tail (laidMet.tail hL))))
  | exact Lib.tabIs_of_head (g := 1) (by kernel_rfl) (by kernel_rfl) Tryz.underlying236 Tryz.underlying160 (by kernel_rfl) (by kernel_rfl) (laidMet.tail (laidMet.tail (laidMet.tail (laidMet.tail (laidMet.tail hL)))))
  | exact Lib.tabIs_of_head (g := 1) (by kernel_rfl) (by kernel_rfl) Tryz.underlying236 Tryz.underlying160 (by kernel_rfl) (by kernel_rfl) (laidMet.tail (laidMet.tail (laidMet.tail (laidMet.tail (laidMet.tail (laidMet.tail hL))))))
  | exact Lib.tabIs_of_head (g := 1) (by kernel_rfl) (by kernel_rfl) Tryz.underlying236 Tryz.underlying160 (by kernel_rfl) (by kernel_rfl) (laidMet.tail (laidMet.tail (laidMet.tail (laidMet.tail (laidMet.tail (laidMet.tail (laidMet.tail hL)))))))
theorem lw_sstays {W : World} (hL : laidMetH Tryz.prog Rows.serveStaysRow.laid W) (hsh : W.ShapedOpen Tryz.prog) : Lw W := by
  refine ⟨ml_of_shape hsh, ?_⟩
  rw [MakeChecks.laidMetH_plain _ _ _ (by kernel_rfl)] at hL
  first
  | exact Lib.tabIs_of_head (g := 1) (by kernel_rfl) (by kernel_rfl) Tryz.underlying236 Tryz.underlying160 (by kernel_rfl) (by kernel_rfl) hL
  | exact Lib.tabIs_of_head (g := 1) (by kernel_rfl) (by kernel_rfl) Tryz.underlying236 Tryz.underlying160 (by kernel_rfl) (by kernel_rfl) (laidMet.tail hL)
  | exact Lib.tabIs_of_head (g := 1) (by kernel_rfl) (by kernel_rfl) Tryz.underlying236 Tryz.underlying160 (by kernel_rfl) (by kernel_rfl) (laidMet.tail (laidMet.tail hL))
  | exact Lib.tabIs_of_head (g := 1) (by kernel_rfl) (by kernel_rfl) Tryz.underlying236 Tryz.underlying160 (by kernel_rfl) (by kernel_rfl) (laidMet.tail (laidMet.tail (laidMet.tail hL)))
  | exact Lib.tabIs_of_head (g := 1) (by kernel_rfl) (by kernel_rfl) Tryz.underlying236 Tryz.underlying160 (by kernel_rfl) (by kernel_rfl) (laidMet.tail (laidMet.tail (laidMet.tail (laidMet.tail hL))))
  | exact Lib.tabIs_of_head (g := 1) (by kernel_rfl) (by kernel_rfl) Tryz.underlying236 Tryz.underlying160 (by kernel_rfl) (by kernel_rfl) (laidMet.tail (laidMet.tail (laidMet.tail (laidMet.tail (laidMet.tail hL)))))
  | exact Lib.tabIs_of_head (g := 1) (by kernel_rfl) (by kernel_rfl) Tryz.underlying236 Tryz.underlying160 (by kernel_rfl) (by kernel_rfl) (laidMet.tail (laidMet.tail (laidMet.tail (laidMet.tail (laidMet.tail (laidMet.tail hL))))))
  | exact Lib.tabIs_of_head (g := 1) (by kernel_rfl) (by kernel_rfl) Tryz.underlying236 Tryz.underlying160 (by kernel_rfl) (by kernel_rfl) (laidMet.tail (laidMet.tail (laidMet.tail (laidMet.tail (laidMet.tail (laidMet.tail (laidMet.tail hL)))))))
theorem lw_spipes {W : World} (hL : laidMetH Tryz.prog Rows.servePipesRow.laid W) (hsh : W.ShapedOpen Tryz.prog) : Lw W := by
  refine ⟨ml_of_shape hsh, ?_⟩
  rw [MakeChecks.laidMetH_plain _ _ _ (by kernel_rfl)] at hL
  first
  | exact Lib.tabIs_of_head (g := 1) (by kernel_rfl) (by kernel_rfl) Tryz.underlying236 Tryz.underlying160 (by kernel_rfl) (by kernel_rfl) hL
  | exact Lib.tabIs_of_head (g := 1) (by kernel_rfl) (by kernel_rfl) Tryz.underlying236 Tryz.underlying160 (by kernel_rfl) (by kernel_rfl) (laidMet.tail hL)
  | exact Lib.tabIs_of_head (g := 1) (by kernel_rfl) (by kernel_rfl) Tryz.underlying236 Tryz.underlying160 (by kernel_rfl) (by kernel_rfl) (laidMet.tail (laidMet.tail hL))
  | exact Lib.tabIs_of_head (g := 1) (by kernel_rfl) (by kernel_rfl) Tryz.underlying236 Tryz.underlying160 (by kernel_rfl) (by kernel_rfl) (laidMet.tail (laidMet.tail (laidMet.tail hL)))
  | exact Lib.tabIs_of_head (g := 1) (by kernel_rfl) (by kernel_rfl) Tryz.underlying236 Tryz.underlying160 (by kernel_rfl) (by kernel_rfl) (laidMet.tail (laidMet.tail (laidMet.tail (laidMet.tail hL))))
  | exact Lib.tabIs_of_head (g := 1) (by kernel_rfl) (by kernel_rfl) Tryz.underlying236 Tryz.underlying160 (by kernel_rfl) (by kernel_rfl) (laidMet.tail (laidMet.tail (laidMet.tail (laidMet.tail (laidMet.tail hL)))))
  | exact Lib.tabIs_of_head (g := 1) (by kernel_rfl) (by kernel_rfl) Tryz.underlying236 Tryz.underlying160 (by kernel_rfl) (by kernel_rfl) (laidMet.tail (laidMet.tail (laidMet.tail (laidMet.tail (laidMet.tail (laidMet.tail hL))))))
  | exact Lib.tabIs_of_head (g := 1) (by kernel_rfl) (by kernel_rfl) Tryz.underlying236 Tryz.underlying160 (by kernel_rfl) (by kernel_rfl) (laidMet.tail (laidMet.tail (laidMet.tail (laidMet.tail (laidMet.tail (laidMet.tail (laidMet.tail hL)))))))
theorem lw_rlen {W : World} (hL : laidMetH Tryz.prog Rows.respondLengthRow.laid W) (hsh : W.ShapedOpen Tryz.prog) : Lw W := by
  refine ⟨ml_of_shape hsh, ?_⟩
  rw [MakeChecks.laidMetH_plain _ _ _ (by kernel_rfl)] at hL
  first
  | exact Lib.tabIs_of_head (g := 1) (by kernel_rfl) (by kernel_rfl) Tryz.underlying236 Tryz.underlying160 (by kernel_rfl) (by kernel_rfl) hL
  | exact Lib.tabIs_of_head (g := 1) (by kernel_rfl) (by kernel_rfl) Tryz.underlying236 Tryz.underlying160 (by kernel_rfl) (by kernel_rfl) (laidMet.tail hL)
  | exact Lib.tabIs_of_head (g := 1) (by kernel_rfl) (by kernel_rfl) Tryz.underlying236 Tryz.underlying160 (by kernel_rfl) (by kernel_rfl) (laidMet.tail (laidMet.tail hL))
  | exact Lib.tabIs_of_head (g := 1) (by kernel_rfl) (by kernel_rfl) Tryz.underlying236 Tryz.underlying160 (by kernel_rfl) (by kernel_rfl) (laidMet.tail (laidMet.tail (laidMet.tail hL)))
  | exact Lib.tabIs_of_head (g := 1) (by kernel_rfl) (by kernel_rfl) Tryz.underlying236 Tryz.underlying160 (by kernel_rfl) (by kernel_rfl) (laidMet.tail (laidMet.tail (laidMet.tail (laidMet.tail hL))))
  | exact Lib.tabIs_of_head (g := 1) (by kernel_rfl) (by kernel_rfl) Tryz.underlying236 Tryz.underlying160 (by kernel_rfl) (by kernel_rfl) (laidMet.tail (laidMet.tail (laidMet.tail (laidMet.tail (laidMet.tail hL)))))
  | exact Lib.tabIs_of_head (g := 1) (by kernel_rfl) (by kernel_rfl) Tryz.underlying236 Tryz.underlying160 (by kernel_rfl) (by kernel_rfl) (laidMet.tail (laidMet.tail (laidMet.tail (laidMet.tail (laidMet.tail (laidMet.tail hL))))))
  | exact Lib.tabIs_of_head (g := 1) (by kernel_rfl) (by kernel_rfl) Tryz.underlying236 Tryz.underlying160 (by kernel_rfl) (by kernel_rfl) (laidMet.tail (laidMet.tail (laidMet.tail (laidMet.tail (laidMet.tail (laidMet.tail (laidMet.tail hL)))))))
theorem lw_rform {W : World} (hL : laidMetH Tryz.prog Rows.respondFormRow.laid W) (hsh : W.ShapedOpen Tryz.prog) : Lw W := by
  refine ⟨ml_of_shape hsh, ?_⟩
  rw [MakeChecks.laidMetH_plain _ _ _ (by kernel_rfl)] at hL
  first
  | exact Lib.tabIs_of_head (g := 1) (by kernel_rfl) (by kernel_rfl) Tryz.underlying236 Tryz.underlying160 (by kernel_rfl) (by kernel_rfl) hL
  | exact Lib.tabIs_of_head (g := 1) (by kernel_rfl) (by kernel_rfl) Tryz.underlying236 Tryz.underlying160 (by kernel_rfl) (by kernel_rfl) (laidMet.tail hL)
  | exact Lib.tabIs_of_head (g := 1) (by kernel_rfl) (by kernel_rfl) Tryz.underlying236 Tryz.underlying160 (by kernel_rfl) (by kernel_rfl) (laidMet.tail (laidMet.tail hL))
  | exact Lib.tabIs_of_head (g := 1) (by kernel_rfl) (by kernel_rfl) Tryz.underlying236 Tryz.underlying160 (by kernel_rfl) (by kernel_rfl) (laidMet.tail (laidMet.tail (laidMet.tail hL)))
  | exact Lib.tabIs_of_head (g := 1) (by kernel_rfl) (by kernel_rfl) Tryz.underlying236 Tryz.underlying160 (by kernel_rfl) (by kernel_rfl) (laidMet.tail (laidMet.tail (laidMet.tail (laidMet.tail hL))))
  | exact Lib.tabIs_of_head (g := 1) (by kernel_rfl) (by kernel_rfl) Tryz.underlying236 Tryz.underlying160 (by kernel_rfl) (by kernel_rfl) (laidMet.tail (laidMet.tail (laidMet.tail (laidMet.tail (laidMet.tail hL)))))
  | exact Lib.tabIs_of_head (g := 1) (by kernel_rfl) (by kernel_rfl) Tryz.underlying236 Tryz.underlying160 (by kernel_rfl) (by kernel_rfl) (laidMet.tail (laidMet.tail (laidMet.tail (laidMet.tail (laidMet.tail (laidMet.tail hL))))))
  | exact Lib.tabIs_of_head (g := 1) (by kernel_rfl) (by kernel_rfl) Tryz.underlying236 Tryz.underlying160 (by kernel_rfl) (by kernel_rfl) (laidMet.tail (laidMet.tail (laidMet.tail (laidMet.tail (laidMet.tail (laidMet.tail (laidMet.tail hL)))))))
end
end Go.Proofs.YtnmafahbdfilcaaGreatDoor
