/- ServePipes, walked. ServePipes: what comes in, opened. The frame of a law whose row lists variables: what is listed and the world's shape handed to the walk together. What the rows list, in the walks' words. -/
import Derived.Test.YtnmafahbdfilcaaGreatDoorPB30
import Derived.Test.YtnmafahbdfilcaaGreatDoorPB26
import Derived.Test.YtnmafahbdfilcaaGreatDoorPB1
import Derived.SizedLaws
import Derived.Handed
import Derived.LaidMore
import Derived.Lay
import Derived.Shelf.Vars
import Derived.Stop.Joined
import Derived.Test.YtnmafahbdfilcaaGreatDoorPB2
import Derived.Test.YtnmafahbdfilcaaGreatDoorRows
import Derived.Stop.LaidErr
import Derived.Lib.LaidTab
namespace Go.Proofs.YtnmafahbdfilcaaGreatDoor
/-! ### ServePipes, walked. -/
section
open Go.RowKit Go.Shelf
set_option linter.unusedVariables false
set_option linter.unusedSimpArgs false
set_option maxRecDepth 100000
section
variable {R : Ending → World → Prop} {w : World}
set_option maxHeartbeats 8000000 in
theorem spipes_walk (x y : List UInt8) (l : List Fl) (now : Int) {A : Option Addr} {n c : Nat} (hr : Rd w [] A (l.flatMap flC)) (hl : l.length = n) (hv : ∀ f ∈ l, f.v ≤ 9223372036854775807 ∧ f.mt ≤ 9223372036854775807) (hx : x.length ≤ 9223372036854775000) (hy : y.length ≤ 281474976710656) (hx2 : x.length ≤ 281474976710656) (hw : Lw w)
    (h : ∀ w', Kp [] w w' → R (.returned (.bool true)) w') :
    Calls Tryz.prog 8 #[.string (S x), .string (S y), .slice A n c, .int .i64 now] w R := by
  have H := Lib.hid h
  have HR := Lib.hid hr
  have HL := Lib.hid hl
  have HV := Lib.hid hv
  clear h hr hl hv hx
  have HFar : Hid (∀ (R : Ending → World → Prop) (w1 : World), Kp [] w w1 → (R (.returned (.bool true)) w1) → (Hid (n ≤ 20 ∧ tblOk l) → R (.returned (.bool false)) w1) → Calls Tryz.prog 18 #[.slice A n c] w1 R) := Lib.hid (fun R w1 k h1 h0 => far28_any l (HR.out.kp k (by simp)) HL.out (fun b e => by
    cases b with
    | true => exact h1
    | false =>
      obtain ⟨e1, e2⟩ := e rfl
      exact h0 (Lib.hid ⟨e1, fun f hf => ⟨(e2 f hf).1, ⟨(e2 f hf).2.1, (HV.out f hf).1⟩, ⟨(e2 f hf).2.2, (HV.out f hf).2⟩⟩⟩)))
  have x1 : IntKind.i64.wrap ((x.length : Int) + y.length) = x.length + y.length := wrap_ok (by omega) (by omega)
  obtain ⟨cz, hcz⟩ : ∃ cz, decide ((900 : Int) < (x.length : Int) + y.length) = cz := ⟨_, rfl⟩
  go_enter Tryz.func8, Tryz.ntmps8
  go_upto_region 3 with (go_at_call 17; ((refine alive28_any hw ?_); intro w1 k1))
  have K1 := Lib.hid k1
  clear k1
  cases cz with
  | true =>
    go_wp2_with (go_at_call 18; (refine HFar.out _ _ K1.out ?_ (fun hf => ?_)))
    all_goals exact H.out _ K1.out
  | false =>
    have hxy : x.length + y.length ≤ 900 := by simp at hcz; omega
    go_upto_region 5 with (go_at_call 18; (refine HFar.out _ _ K1.out ?_ (fun hf => ?_)))
    · exact H.out _ K1.out
    have HA : Hid (∀ (R : Ending → World → Prop) (w1 : World) (z : List UInt8), z.length ≤ 900 → Kp [] w w1 → (∀ (T : List UInt8) (ov : Bool) (k : Nat) (w' : World), Kp [] w w' → Hid (ansF l now 100 z = (T, ov, k)) → T.length ≤ 100000000 → R (.returned (.tuple #[.string (S T), .bool ov, .int .i64 k])) w') → Calls Tryz.prog 29 #[.string (S z), .slice A n c, .int .i64 now] w1 R) := Lib.hid (fun R w1 z hz k h => answers28_any z l now (HR.out.kp k (by simp)) HL.out hf.out.1 hf.out.2 hz (hw.kp k) (fun T ov k' w' j e ht => h T ov k' w' (k.trans j) e ht))
    clear hf HFar HV HR HL hcz
    go_upto_region 6 with (go_at_call 29; ((refine HA.out _ _ _ (by omega) K1.out ?_); intro T1 ov1 m1 w2 k2 h2 l2))
    have K2 := Lib.hid k2
    clear k2
    cases ov1 with
    | true =>
      go_wp2
      exact H.out _ K2.out
    | false =>
      obtain ⟨mz, hmz⟩ : ∃ mz, ((m1 : Int) != 0) = mz := ⟨_, rfl⟩
      cases mz with
      | true =>
        go_wp2
        exact H.out _ K2.out
      | false =>
        have hm1 : m1 = 0 := by simpa using hmz
        go_upto_region 9 with (go_at_call 29; ((refine HA.out _ _ _ (by omega) K2.out ?_); intro T2 ov2 m2 w3 k3 h3 l3))
        have K3 := Lib.hid k3
        clear k3
        go_upto_region 10 with (go_at_call 29; ((refine HA.out _ _ _ (by rw [List.length_append]; omega) K3.out ?_); intro T3 ov3 m3 w4 k4 h4 l4))
        have K4 := Lib.hid k4
        clear k4
        have e := ansF_app l now _ x y (Nat.le_refl _) hxy (by rw [h2.out, hm1])
        rw [h2.out, h3.out, h4.out] at e
        simp only [Prod.mk.injEq] at e
        obtain ⟨e1, e2, e3⟩ := e
        subst e1; subst e2; subst e3
        have f1 : (T1 ++ T2 == T1 ++ T2) = true := by simp
        have f2 : (ov3 == ov3) = true := by simp
        have f3 : ((m3 : Int) == m3) = true := by simp
        clear h2 h3 h4
        go_wp2
        exact H.out _ K4.out
end
end
/-! ### ServePipes: what comes in, opened. -/
section
open Go.RowKit Go.Shelf Go.ChangeShapes Go.WideShapes Go.ChangeAt Go.Deep
set_option linter.unusedVariables false
set_option linter.unusedSimpArgs false
set_option maxRecDepth 100000
structure FlA where
  nm : ByteArray
  s : ByteArray
  v : Int
  mt : Int
def FlA.vals (x : FlA) : List Value := [.string x.nm, .string x.s, .int .i64 x.v, .int .i64 x.mt]
def FlA.fl (x : FlA) : Fl := ⟨x.nm.data.toList, x.s.data.toList, x.v, x.mt⟩
theorem fla_vals (l : List FlA) : l.flatMap FlA.vals = (l.map FlA.fl).flatMap flC := by
  induction l with
  | nil => rfl
  | cons x l ih =>
    simp only [List.flatMap_cons, List.map_cons, ih]
    unfold FlA.vals flC FlA.fl
    simp only
    rw [← S_eta, ← S_eta]
section
variable {H : Type} {enc : TypeId × Value → H} {W : World}
theorem opn_file28 : Opn enc Tryz.prog W 58 FlA.vals (fun x => i64F x.v ∧ i64F x.mt) := ⟨fun fuel cs x h => by
  obtain ⟨xs, n, _, _, hlen, hxl, hg⟩ := DataW.trod_struct Tryz.underlying58 h
  have hK : Tryz.prog.cellsOf 58 = 4 := by kernel_rfl
  have hI : Tryz.prog.cellsOf 3 = 1 := by kernel_rfl
  have hJ : Tryz.prog.cellsOf 2 = 1 := by kernel_rfl
  have hS : Tryz.prog.cellsOf 9 = 1 := by kernel_rfl
  rw [hK] at hlen
  match cs, hlen with
  | [c0, c1, c2, c3], _ =>
    obtain ⟨m0, rfl, h0⟩ := fld_string hg hxl 0 rfl hS Tryz.underlying9 rfl
    obtain ⟨m1, rfl, h1⟩ := fld_string hg hxl 1 rfl hS Tryz.underlying9 rfl
    obtain ⟨m2, rfl, h2⟩ := fld_int hg hxl 2 rfl hI Tryz.underlying3 rfl
    obtain ⟨m3, rfl, h3⟩ := fld_int hg hxl 3 rfl hJ Tryz.underlying2 rfl
    exact ⟨⟨m0, m1, m2, m3⟩, rfl, i64_bdF h2, i64_bdF h3⟩⟩
end
theorem spipes_top {R : Ending → World → Prop} {W : World} (x y : ByteArray) (s : Sin FlA) (now : Int) (hx : x.data.toList.length ≤ 281474976710656) (hy : y.data.toList.length ≤ 281474976710656) (ws : Sin.ok W FlA.vals (fun x => i64F x.v ∧ i64F x.mt) s) (hw : Lw W) (h : ∀ w', Kp [] W w' → R (.returned (.bool true)) w') :
    Calls Tryz.prog 8 #[.string x, .string y, .slice s.A s.n s.c, .int .i64 now] W R := by
  have rd0 := ws.rd
  rw [fla_vals] at rd0
  have lx : x.data.toList.length = x.size := by rw [Array.length_toList]; rfl
  have ly : y.data.toList.length = y.size := by rw [Array.length_toList]; rfl
  rw [S_eta x, S_eta y]
  refine spipes_walk x.data.toList y.data.toList (s.l.map FlA.fl) now rd0 (by rw [List.length_map]; exact ws.len) (fun f hf => ?_) (by omega) (by omega) (by omega) hw h
  obtain ⟨g, hg, rfl⟩ := List.mem_map.1 hf
  have hok := ws.all g hg
  exact ⟨hok.1.2, hok.2.2⟩
end
/-! ### The frame of a law whose row lists variables: what is listed and the world's shape handed to the walk together. -/
section
open Go
variable {H : Type} {enc : TypeId × Value → H}

theorem handed_cs {a : Assume} {C : Checked} {os : Os} {f : FuncId} {fn : Func} {s : ChangeSpec} {conds : List PathCond} {apart fresh handsOn again : Bool} {X : World → Array Value → Prop}
    (hX : ∀ (w w' : World) (args : Array Value), w.heap = w'.heap → X w args → X w' args)
    (own : ownKnob C.prog.godebug = none) (started : os.Started) (noInit : C.prog.inits.idxOf? f = none) (hfn : C.prog.funcs[f]? = some fn)
    (witness : ∃ (w : World) (tape : Tape) (i : Input), w.os = os ∧ (w.forCall tape i).Shaped C.prog ∧ i.vars = [] ∧ Input.okWide C.prog (w.forCall tape i) .any w.heap.size f i ∧
      ((s.pre enc C.prog fn conds apart (w.forCall tape i).memory i.args ∧ X (w.forCall tape i).memory i.args) ∧ sizedMet enc C.prog fn (OpenSpec.ofChange s) apart (w.forCall tape i).memory i.args) ∧ a.holds C.prog (lone (Frame.enter C.prog f i.args .normal) [] (w.forCall tape i)))
    (contract : ∀ (W : World) (base : Nat) (args : Array Value) (ds gs : List (DataW H)) (before : List MemPlace),
      (∀ (j : Nat) t v, fn.params[j]? = some t → args[j]? = some v → Value.okWide C.prog W .any base t v) →
      DataW.Whole enc C.prog fn.params.toList s.vars apart W args.toList ds gs before →
      (DataW.weightsEach C.prog (fn.params.toList ++ s.plain.varTypes C.prog) (ds ++ gs)).all (· ≤ reachBytes) = true → X W args → W.ShapedOpen C.prog →
      Calls C.prog f args W fun e W' => ∃ v, e = .returned v ∧ s.post enc C.prog fn apart fresh handsOn again W args v W') :
    ReturnsInHanded a C os f .any (fun w args => (s.pre enc C.prog fn conds apart w args ∧ X w args) ∧ sizedMet enc C.prog fn (OpenSpec.ofChange s) apart w args) (s.post enc C.prog fn apart fresh handsOn again) := by
  refine returnsInHanded_of_calls own started noInit witness ?_
  intro w tape i _ hsh _ hok hpre _
  obtain ⟨_, _, _, fn', hfn', _, _, _, _, hval⟩ := hok
  have e : fn' = fn := Option.some.inj (hfn'.symm.trans hfn)
  subst e
  obtain ⟨⟨⟨ds, gs, before, hw, _⟩, hx⟩, hz⟩ := hpre
  have hw' := DataW.Whole.of_heap (w' := w.forCall tape i) (by rfl) hw
  refine (contract (w.forCall tape i) w.heap.size i.args ds gs before hval hw' (hz.weights hw) (hX _ _ _ (by rfl) hx) hsh).mono fun e W' ⟨v, he, hp⟩ => ?_
  subst he
  exact ChangeSpec.post_blind hp
end
/-! ### What the rows list, in the walks' words. -/
section
open Go Go.ChangeShapes Go.WideShapes Go.ChangeAt Go.RowKit Go.Proofs
set_option linter.unusedVariables false

theorem lw_snil {W : World} (hL : laidMetH Tryz.prog Rows.serveNilRow.laid W) (hsh : W.ShapedOpen Tryz.prog) : Lw W := by
  refine ⟨ml_of_shape hsh, ?_⟩
  rw [MakeChecks.laidMetH_plain _ _ _ (by kernel_rfl)] at hL
  first
  | exact Lib.tabIs_of_head (g := 1) (by kernel_rfl) (by kernel_rfl) Tryz.underlying236 Tryz.underlying160 (by kernel_rfl) (by kernel_rfl) hL
  | exact Lib.tabIs_of_head (g := 1) (by kernel_rfl) (by kernel_rfl) Tryz.underlying236 Tryz.underlying160 (by kernel_rfl) (by kernel_rfl) (laidMet.tail hL)
  | exact Lib.tabIs_of_head (g := 1) (by kernel_rfl) (by kernel_rfl) Tryz.underlying236 Tryz.underlying160 (by kernel_rfl) (by kernel_rfl) (laidMet.tail (laidMet.tail hL))
  | exact Lib.tabIs_of_head (g := 1) (by kernel_rfl) (by kernel_rfl) Tryz.underlying236 Tryz.underlying160 (by kernel_rfl) (by kernel_rfl) (laidMet.tail (laidMet.tail (laidMet.tail hL)))
  | exact Lib.tabIs_of_head (g := 1) (by kernel_rfl) (by kernel_rfl) Tryz.underlying236 Tryz.underlying160 (by kernel_rfl) (by kernel_rfl) (laidMet.tail (laidMet.tail (laidMet.tail (laidMet.tail hL))))
  | exact Lib.tabIs_of_head (g := 1) (by kernel_rfl) (by kernel_rfl) Tryz.underlying236 Tryz.underlying160 (by kernel_rfl) (by kernel_rfl) (laidMet.tail (laidMet.tail (laidMet.tail (laidMet.tail (laidMet.tail hL)))))
  | exact Lib.tabIs_of_head (g := 1) (by kernel_rfl) (by kernel_rfl) Tryz.underlying236 Tryz.underlying160 (by kernel_rfl) (by kernel_rfl) (laidMet.tail (laidMet.tail (laidMet.tail (laidMet.tail (laidMet.tail (laidMet.tail hL))))))
  | exact Lib.tabIs_of_head (g := 1) (by kernel_rfl) (by kernel_rfl) Tryz.underlying236 Tryz.underlying160 (by kernel_rfl) (by kernel_rfl) (laidMet.tail (laidMet.tail (laidMet.tail (laidMet.tail (laidMet.tail (laidMet.tail (laidMet.tail hL)))))))
theorem lw_sstays {W : World} (hL : laidMetH Tryz.prog Rows.serveStaysRow.laid W) (hsh : W.ShapedOpen Tryz.prog) : Lw W := by
  refine ⟨ml_of_shape hsh, ?_⟩
  rw [MakeChecks.laidMetH_plain _ _ _ (by kernel_rfl)] at hL
  first
  | exact Lib.tabIs_of_head (g := 1) (by kernel_rfl) (by kernel_rfl) Tryz.underlying236 Tryz.underlying160 (by kernel_rfl) (by kernel_rfl) hL
  | exact Lib.tabIs_of_head (g := 1) (by kernel_rfl) (by kernel_rfl) Tryz.underlying236 Tryz.underlying160 (by kernel_rfl) (by kernel_rfl) (laidMet.tail hL)
  | exact Lib.tabIs_of_head (g := 1) (by kernel_rfl) (by kernel_rfl) Tryz.underlying236 Tryz.underlying160 (by kernel_rfl) (by kernel_rfl) (laidMet.tail (laidMet.tail hL))
  | exact Lib.tabIs_of_head (g := 1) (by kernel_rfl) (by kernel_rfl) Tryz.underlying236 Tryz.underlying160 (by kernel_rfl) (by kernel_rfl) (laidMet.tail (laidMet.tail (laidMet.tail hL)))
  | exact Lib.tabIs_of_head (g := 1) (by kernel_rfl) (by kernel_rfl) Tryz.underlying236 Tryz.underlying160 (by kernel_rfl) (by kernel_rfl) (laidMet.tail (laidMet.tail (laidMet.tail (laidMet.tail hL))))
  | exact Lib.tabIs_of_head (g := 1) (by kernel_rfl) (by kernel_rfl) Tryz.underlying236 Tryz.underlying160 (by kernel_rfl) (by kernel_rfl) (laidMet.tail (laidMet.tail (laidMet.tail (laidMet.tail (laidMet.tail hL)))))
  | exact Lib.tabIs_of_head (g := 1) (by kernel_rfl) (by kernel_rfl) Tryz.underlying236 Tryz.underlying160 (by kernel_rfl) (by kernel_rfl) (laidMet.tail (laidMet.tail (laidMet.tail (laidMet.tail (laidMet.tail (laidMet.tail hL))))))
  | exact Lib.tabIs_of_head (g := 1) (by kernel_rfl) (by kernel_rfl) Tryz.underlying236 Tryz.underlying160 (by kernel_rfl) (by kernel_rfl) (laidMet.tail (laidMet.tail (laidMet.tail (laidMet.tail (laidMet.tail (laidMet.tail (laidMet.tail hL)))))))
theorem lw_spipes {W : World} (hL : laidMetH Tryz.prog Rows.servePipesRow.laid W) (hsh : W.ShapedOpen Tryz.prog) : Lw W := by
  refine ⟨ml_of_shape hsh, ?_⟩
  rw [MakeChecks.laidMetH_plain _ _ _ (by kernel_rfl)] at hL
  first
  | exact Lib.tabIs_of_head (g := 1) (by kernel_rfl) (by kernel_rfl) Tryz.underlying236 Tryz.underlying160 (by kernel_rfl) (by kernel_rfl) hL
  | exact Lib.tabIs_of_head (g := 1) (by kernel_rfl) (by kernel_rfl) Tryz.underlying236 Tryz.underlying160 (by kernel_rfl) (by kernel_rfl) (laidMet.tail hL)
  | exact Lib.tabIs_of_head (g := 1) (by kernel_rfl) (by kernel_rfl) Tryz.underlying236 Tryz.underlying160 (by kernel_rfl) (by kernel_rfl) (laidMet.tail (laidMet.tail hL))
  | exact Lib.tabIs_of_head (g := 1) (by kernel_rfl) (by kernel_rfl) Tryz.underlying236 Tryz.underlying160 (by kernel_rfl) (by kernel_rfl) (laidMet.tail (laidMet.tail (laidMet.tail hL)))
  | exact Lib.tabIs_of_head (g := 1) (by kernel_rfl) (by kernel_rfl) Tryz.underlying236 Tryz.underlying160 (by kernel_rfl) (by kernel_rfl) (laidMet.tail (laidMet.tail (laidMet.tail (laidMet.tail hL))))
  | exact Lib.tabIs_of_head (g := 1) (by kernel_rfl) (by kernel_rfl) Tryz.underlying236 Tryz.underlying160 (by kernel_rfl) (by kernel_rfl) (laidMet.tail (laidMet.tail (laidMet.tail (laidMet.tail (laidMet.tail hL)))))
  | exact Lib.tabIs_of_head (g := 1) (by kernel_rfl) (by kernel_rfl) Tryz.underlying236 Tryz.underlying160 (by kernel_rfl) (by kernel_rfl) (laidMet.tail (laidMet.tail (laidMet.tail (laidMet.tail (laidMet.tail (laidMet.tail hL))))))
  | exact Lib.tabIs_of_head (g := 1) (by kernel_rfl) (by kernel_rfl) Tryz.underlying236 Tryz.underlying160 (by kernel_rfl) (by kernel_rfl) (laidMet.tail (laidMet.tail (laidMet.tail (laidMet.tail (laidMet.tail (laidMet.tail (laidMet.tail hL)))))))
theorem lw_rlen {W : World} (hL : laidMetH Tryz.prog Rows.respondLengthRow.laid W) (hsh : W.ShapedOpen Tryz.prog) : Lw W := by
  refine ⟨ml_of_shape hsh, ?_⟩
  rw [MakeChecks.laidMetH_plain _ _ _ (by kernel_rfl)] at hL
  first
  | exact Lib.tabIs_of_head (g := 1) (by kernel_rfl) (by kernel_rfl) Tryz.underlying236 Tryz.underlying160 (by kernel_rfl) (by kernel_rfl) hL
  | exact Lib.tabIs_of_head (g := 1) (by kernel_rfl) (by kernel_rfl) Tryz.underlying236 Tryz.underlying160 (by kernel_rfl) (by kernel_rfl) (laidMet.tail hL)
  | exact Lib.tabIs_of_head (g := 1) (by kernel_rfl) (by kernel_rfl) Tryz.underlying236 Tryz.underlying160 (by kernel_rfl) (by kernel_rfl) (laidMet.tail (laidMet.tail hL))
  | exact Lib.tabIs_of_head (g := 1) (by kernel_rfl) (by kernel_rfl) Tryz.underlying236 Tryz.underlying160 (by kernel_rfl) (by kernel_rfl) (laidMet.tail (laidMet.tail (laidMet.tail hL)))
  | exact Lib.tabIs_of_head (g := 1) (by kernel_rfl) (by kernel_rfl) Tryz.underlying236 Tryz.underlying160 (by kernel_rfl) (by kernel_rfl) (laidMet.tail (laidMet.tail (laidMet.tail (laidMet.tail hL))))
  | exact Lib.tabIs_of_head (g := 1) (by kernel_rfl) (by kernel_rfl) Tryz.underlying236 Tryz.underlying160 (by kernel_rfl) (by kernel_rfl) (laidMet.tail (laidMet.tail (laidMet.tail (laidMet.tail (laidMet.tail hL)))))
  | exact Lib.tabIs_of_head (g := 1) (by kernel_rfl) (by kernel_rfl) Tryz.underlying236 Tryz.underlying160 (by kernel_rfl) (by kernel_rfl) (laidMet.tail (laidMet.tail (laidMet.tail (laidMet.tail (laidMet.tail (laidMet.tail hL))))))
  | exact Lib.tabIs_of_head (g := 1) (by kernel_rfl) (by kernel_rfl) Tryz.underlying236 Tryz.underlying160 (by kernel_rfl) (by kernel_rfl) (laidMet.tail (laidMet.tail (laidMet.tail (laidMet.tail (laidMet.tail (laidMet.tail (laidMet.tail hL)))))))
theorem lw_rform {W : World} (hL : laidMetH Tryz.prog Rows.respondFormRow.laid W) (hsh : W.ShapedOpen Tryz.prog) : Lw W := by
  refine ⟨ml_of_shape hsh, ?_⟩
  rw [MakeChecks.laidMetH_plain _ _ _ (by kernel_rfl)] at hL
  first
  | exact Lib.tabIs_of_head (g := 1) (by kernel_rfl) (by kernel_rfl) Tryz.underlying236 Tryz.underlying160 (by kernel_rfl) (by kernel_rfl) hL
  | exact Lib.tabIs_of_head (g := 1) (by kernel_rfl) (by kernel_rfl) Tryz.underlying236 Tryz.underlying160 (by kernel_rfl) (by kernel_rfl) (laidMet.tail hL)
  | exact Lib.tabIs_of_head (g := 1) (by kernel_rfl) (by kernel_rfl) Tryz.underlying236 Tryz.underlying160 (by kernel_rfl) (by kernel_rfl) (laidMet.tail (laidMet.tail hL))
  | exact Lib.tabIs_of_head (g := 1) (by kernel_rfl) (by kernel_rfl) Tryz.underlying236 Tryz.underlying160 (by kernel_rfl) (by kernel_rfl) (laidMet.tail (laidMet.tail (laidMet.tail hL)))
  | exact Lib.tabIs_of_head (g := 1) (by kernel_rfl) (by kernel_rfl) Tryz.underlying236 Tryz.underlying160 (by kernel_rfl) (by kernel_rfl) (laidMet.tail (laidMet.tail (laidMet.tail (laidMet.tail hL))))
  | exact Lib.tabIs_of_head (g := 1) (by kernel_rfl) (by kernel_rfl) Tryz.underlying236 Tryz.underlying160 (by kernel_rfl) (by kernel_rfl) (laidMet.tail (laidMet.tail (laidMet.tail (laidMet.tail (laidMet.tail hL)))))
  | exact Lib.tabIs_of_head (g := 1) (by kernel_rfl) (by kernel_rfl) Tryz.underlying236 Tryz.underlying160 (by kernel_rfl) (by kernel_rfl) (laidMet.tail (laidMet.tail (laidMet.tail (laidMet.tail (laidMet.tail (laidMet.tail hL))))))
  | exact Lib.tabIs_of_head (g := 1) (by kernel_rfl) (by kernel_rfl) Tryz.underlying236 Tryz.underlying160 (by kernel_rfl) (by kernel_rfl) (laidMet.tail (laidMet.tail (laidMet.tail (laidMet.tail (laidMet.tail (laidMet.tail (laidMet.tail hL)))))))
end
end Go.Proofs.YtnmafahbdfilcaaGreatDoor
