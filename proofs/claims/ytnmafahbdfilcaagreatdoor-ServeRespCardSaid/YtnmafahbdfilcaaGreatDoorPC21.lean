/- respond: what an answer's status is. -/
import Derived.Test.YtnmafahbdfilcaaGreatDoorPC20
import Derived.Test.YtnmafahbdfilcaaGreatDoorPC9
import Derived.Deep.RegionHeldLaw
namespace Go.Proofs.YtnmafahbdfilcaaGreatDoor
/-! ### respond: what an answer's status is. -/
section
open Go.RowKit Go.Shelf
set_option linter.unusedVariables false
set_option linter.unusedSimpArgs false
set_option maxRecDepth 100000
/-- The status, and the spans. -/
noncomputable def chooseM (r : Req) (there : Bool) (v mt len : Int) : Int × List (Int × Int) :=
  if readsM r.m = false then (405, []) else if (r.t.head? == some 47) = false then (400, []) else if there = false then (404, []) else
  if checkM r v mt ≠ 0 then (checkM r v mt, []) else if rangedM r v mt = false then (200, []) else
  match parseM (allF r.fs rgL) len with
  | none => (200, [])
  | some [] => (416, [])
  | some (z :: zs) => (206, z :: zs)
section
variable {R : Ending → World → Prop} {w : World}
set_option maxHeartbeats 16000000 in
theorem choose_any (r : Req) (there : Bool) (minor : Int) (cl : Bool) (v mt len : Int) (kd : List UInt8) (now : Int) {A : Option Addr} {c g : Nat} (hb : Bk w g 75 (ansG 0 minor cl v mt len kd now none 0 0 none 0 0)) (hr : Rd w [g] A (r.fs.flatMap fldC)) (hn : r.fs.length ≤ 2000) (hc : r.fs.length ≤ c)
    (hv : 0 ≤ v ∧ v ≤ 9223372036854775807) (hmt : 0 ≤ mt ∧ mt ≤ 9223372036854775807) (hlen : 0 ≤ len ∧ len ≤ 35184372088832) (hw : Lw w) (hsz : ∀ nm, (allF r.fs nm).length ≤ 2000000)
    (h : ∀ B n d w', Kp [g] w w' → Bk w' g 75 (ansG 0 minor cl v mt len kd now B n d none 0 0) → Hid (n = (chooseM r there v mt len).2.length ∧ Rd w' [g] B ((chooseM r there v mt len).2.flatMap spV)) → R (.returned (.int .i64 (chooseM r there v mt len).1)) w') :
    Calls Tryz.prog 30 #[.pointer (some ⟨g, 0, none⟩), .agg #[.string (S r.m), .string (S r.t), .int .i64 r.minor, .slice A r.fs.length c, .bool r.close], .bool there] w R := by
  have HB := Lib.hid hb
  have HR := Lib.hid hr
  have HS : Hid (∀ st, (chooseM r there v mt len) = (st, []) → ∀ w', Kp [] w w' → R (.returned (.int .i64 st)) w') := Lib.hid (fun st e w' k => by
    rw [e] at h
    exact h none 0 0 w' (k.mono (by simp)) (HB.out.kp k (by simp)) (Lib.hid ⟨rfl, Rd.nil⟩))
  have H := Lib.hid h
  clear h hb hr
  obtain ⟨rd, hrd⟩ : ∃ x, readsM r.m = x := ⟨_, rfl⟩
  obtain ⟨hd, hhd⟩ : ∃ x, (r.t.head? == some 47) = x := ⟨_, rfl⟩
  have HRd : Hid (∀ b1 b2, (r.m == [71, 69, 84]) = b1 → (r.m == [72, 69, 65, 68]) = b2 → rd = (b1 || b2)) := Lib.hid (fun b1 b2 h1 h2 => by rw [← hrd]; unfold readsM; rw [h1, h2])
  have HPre : Hid (∀ (R : Ending → World → Prop) (W : World), R (.returned (.bool hd)) W → Calls Tryz.prog 42 #[.string (S r.t), .string ⟨#[47]⟩] W R) := Lib.hid (fun R W h => pre_any _ 47 (by rw [hhd]; exact h))
  go_enter Tryz.func30, Tryz.ntmps30
  go_upto_region 1 with (fail)
  refine gen_worldC (fun W => ∃ g4, w.heap.size = g4 ∧ Hid (Kp [] w W ∧ Bk W g4 35 (reqC r A c) ∧ Bk W g 75 (ansG 0 minor cl v mt len kd now none 0 0 none 0 0))) ⟨_, rfl, Lib.hid ⟨(Kp.refl _ _).alloc _, (Bk.new' _ _ _).cast rfl, HB.out.alloc _⟩⟩ ?_
  rintro W ⟨g4, hg, hW⟩
  rw [hg]
  clear hg
  have HC : Hid (∀ W', Kp [] W W' → (W'.cell? ⟨g4, 0, none⟩ = some (.string (S r.m)) ∧ W'.cell? ⟨g4, 1, none⟩ = some (.string (S r.t)) ∧ W'.cell? ⟨g4, 2, none⟩ = some (.int .i64 r.minor) ∧ W'.cell? ⟨g4, 3, none⟩ = some (.slice A r.fs.length c) ∧ W'.cell? ⟨g4, 4, none⟩ = some (.bool r.close)) ∧ W'.cell? ⟨g, 3, none⟩ = some (.int .i64 v) ∧ W'.cell? ⟨g, 4, none⟩ = some (.int .i64 mt) ∧ W'.cell? ⟨g, 5, none⟩ = some (.int .i64 len)) :=
    Lib.hid (fun W' k => ⟨⟨(hW.out.2.1.kp k (by simp)).cell 0, (hW.out.2.1.kp k (by simp)).cell 1, (hW.out.2.1.kp k (by simp)).cell 2, (hW.out.2.1.kp k (by simp)).cell 3, (hW.out.2.1.kp k (by simp)).cell 4⟩, (hW.out.2.2.kp k (by simp)).cell 3, (hW.out.2.2.kp k (by simp)).cell 4, (hW.out.2.2.kp k (by simp)).cell 5⟩)
  have KW : Hid (∀ w', Kp [] W w' → Kp [] w w') := Lib.hid (fun w' k => hW.out.1.trans k)
  have kk := Kp.refl [] W
  obtain ⟨⟨p0, p1, p2, p3, p4⟩, x3, x4, x5⟩ := HC.out _ kk
  go_cut [10] (fun x W' => x = .bool (!rd) ∧ W' = W)
  case first =>
    cases q1 : (r.m == [71, 69, 84]) <;> cases q2 : (r.m == [72, 69, 65, 68])
    all_goals
      have hrd := Lib.hid (HRd.out _ _ q1 q2)
      go_wp2
      go_meet
      exact ⟨by rw [hrd.out]; rfl, rfl⟩
  case rest =>
    obtain ⟨hx1, hx2⟩ := hcut
    rw [hx1, hx2]
    clear hx1 hx2
    cases rd with
    | false =>
      have HE := Lib.hid (HS.out 405 (by unfold chooseM; rw [hrd, if_pos rfl]))
      go_wp2
      exact HE.out _ (KW.out _ kk)
    | true =>
      cases hd with
      | false =>
        have HE := Lib.hid (HS.out 400 (by unfold chooseM; rw [hrd, if_neg (by simp), hhd, if_pos rfl]))
        go_wp2_with (go_at_call 42; refine HPre.out _ _ ?_)
        exact HE.out _ (KW.out _ kk)
      | true =>
        cases there with
        | false =>
          have HE := Lib.hid (HS.out 404 (by unfold chooseM; rw [hrd, if_neg (by simp), hhd, if_neg (by simp), if_pos rfl]))
          go_wp2_with (go_at_call 42; refine HPre.out _ _ ?_)
          exact HE.out _ (KW.out _ kk)
        | true =>
          have HCh : Hid (chooseM r true v mt len = if checkM r v mt ≠ 0 then (checkM r v mt, []) else if rangedM r v mt = false then (200, []) else
              match parseM (allF r.fs rgL) len with
              | none => (200, [])
              | some [] => (416, [])
              | some (z :: zs) => (206, z :: zs)) := Lib.hid (by unfold chooseM; rw [hrd, if_neg (by simp), hhd, if_neg (by simp), if_neg (by simp)])
          go_upto_region 7 with (go_at_call 42; refine HPre.out _ _ ?_)
          have HC2 : Hid (∀ w', Kp [] W w' → w'.cell? ⟨g4, 0, none⟩ = some (.string (S r.m)) ∧ w'.cell? ⟨g4, 1, none⟩ = some (.string (S r.t)) ∧ w'.cell? ⟨g4, 2, none⟩ = some (.int .i64 r.minor) ∧ w'.cell? ⟨g4, 3, none⟩ = some (.slice A r.fs.length c) ∧ w'.cell? ⟨g4, 4, none⟩ = some (.bool r.close) ∧ w'.cell? ⟨g, 3, none⟩ = some (.int .i64 v) ∧ w'.cell? ⟨g, 4, none⟩ = some (.int .i64 mt) ∧ w'.cell? ⟨g, 5, none⟩ = some (.int .i64 len)) := Lib.hid (fun w' k => by
            obtain ⟨⟨a, b, d, e, f⟩, q⟩ := HC.out w' k
            exact ⟨a, b, d, e, f, q⟩)
          have HR0 : Hid (∀ w', Kp [] w w' → Rd w' [] A (r.fs.flatMap fldC)) := Lib.hid (fun w' k => (HR.out.kp k (by simp)).sub (by simp))
          have HCk : Hid (∀ (R : Ending → World → Prop) (w1 : World), Kp [] W w1 → (∀ w', Kp [] W w' → R (.returned (.int .i64 (checkM r v mt))) w') → Calls Tryz.prog 43 #[.agg #[.string (S r.m), .string (S r.t), .int .i64 r.minor, .slice A r.fs.length c, .bool r.close], .bool true, .int .i64 v, .int .i64 mt] w1 R) := Lib.hid (fun R w1 k h => check_any r v mt (HR0.out _ (KW.out _ k)) hn hc hv hmt (hw.kp (KW.out _ k)) hsz (fun w' k' => h w' (k.trans k')))
          have HRg : Hid (∀ (R : Ending → World → Prop) (w1 : World), Kp [] W w1 → (∀ w', Kp [] W w' → R (.returned (.bool (rangedM r v mt))) w') → Calls Tryz.prog 44 #[.agg #[.string (S r.m), .string (S r.t), .int .i64 r.minor, .slice A r.fs.length c, .bool r.close], .int .i64 v, .int .i64 mt] w1 R) := Lib.hid (fun R w1 k h => ranged_any r v mt (HR0.out _ (KW.out _ k)) hn hc hv hmt (hw.kp (KW.out _ k)) (by have := hsz irL; omega) (fun w' k' => h w' (k.trans k')))
          obtain ⟨ck, hck⟩ : ∃ x, checkM r v mt = x := ⟨_, rfl⟩
          obtain ⟨rg, hrg⟩ : ∃ x, rangedM r v mt = x := ⟨_, rfl⟩
          obtain ⟨ar, har⟩ : ∃ x, allF r.fs rgL = x := ⟨_, rfl⟩
          rw [hck] at HCk HCh
          rw [hrg] at HRg HCh
          rw [har] at HCh
          have HAr : Hid (∀ (R : Ending → World → Prop) (w1 : World), Kp [] W w1 → (∀ w', Kp [] W w' → R (.returned (.string (S ar))) w') → Calls Tryz.prog 46 #[.agg #[.string (S r.m), .string (S r.t), .int .i64 r.minor, .slice A r.fs.length c, .bool r.close], .string ⟨#[114, 97, 110, 103, 101]⟩] w1 R) := Lib.hid (fun R w1 k h => all_any' r.fs rgL r.m r.t r.minor r.close w1 (HR0.out _ (KW.out _ k)) (by omega) (by have := hsz rgL; omega) (fun w' k' => by rw [har]; exact h w' (k.trans k')))
          have harl : ar.length ≤ 2000000 := by rw [← har]; exact hsz _
          have HPa : Hid (∀ (R : Ending → World → Prop) (w1 : World), Kp [] W w1 → (∀ B n d b w', Kp [] W w' → Hid ((parseM ar len = none ∧ b = false) ∨ ∃ zs, parseM ar len = some zs ∧ b = true ∧ n = zs.length ∧ Rd w' [g] B (zs.flatMap spV)) → R (.returned (.tuple #[.slice B n d, .bool b])) w') → Calls Tryz.prog 45 #[.string (S ar), .int .i64 len] w1 R) := Lib.hid (fun R w1 k h => parse_any ar len w1 harl (by omega) (by omega) (hw.ml.kp (KW.out _ k)) (fun w' e k' => h none 0 0 false w' (k.trans k') (Lib.hid (.inl ⟨e.out, rfl⟩))) (fun zs B d w' e o hB k' => h B _ d true w' (k.trans k') (Lib.hid (.inr ⟨zs, e.out, rfl, rfl, o.rd (fun b hb => by have := hB b hb; have := (HB.out.kp (KW.out _ k) (by simp)).lt; simp; omega)⟩))))
          clear hck hrg har hrd hhd
          go_region_held_law (fun w' => w'.cell? ⟨g4, 0, none⟩ = some (.string (S r.m)) ∧ w'.cell? ⟨g4, 1, none⟩ = some (.string (S r.t)) ∧ w'.cell? ⟨g4, 2, none⟩ = some (.int .i64 r.minor) ∧ w'.cell? ⟨g4, 3, none⟩ = some (.slice A r.fs.length c) ∧ w'.cell? ⟨g4, 4, none⟩ = some (.bool r.close) ∧ w'.cell? ⟨g, 3, none⟩ = some (.int .i64 v) ∧ w'.cell? ⟨g, 4, none⟩ = some (.int .i64 mt) ∧ w'.cell? ⟨g, 5, none⟩ = some (.int .i64 len)) ((refine HC2.out _ ?_; repeat (first | with_reducible exact kk2 | with_reducible exact kk | with_reducible exact Kp.refl _ _ | with_reducible refine Kp.drew ?_))) (first | (go_simp; go_at_call 43; (with_reducible refine HCk.out _ _ (by repeat (first | with_reducible exact Kp.refl _ _ | with_reducible refine Kp.drew ?_)) ?_); intro w2 kk2))
          clear p0 p1 p2 p3 p4 x3 x4 x5
          by_cases hz : ck = 0
          · subst hz
            rw [if_neg (by simp)] at HCh
            obtain ⟨p0, p1, p2, p3, p4, x3, x4, x5⟩ := HC2.out _ kk2
            go_upto_region 10 with (fail)
            go_region_held_law (fun w' => w'.cell? ⟨g4, 0, none⟩ = some (.string (S r.m)) ∧ w'.cell? ⟨g4, 1, none⟩ = some (.string (S r.t)) ∧ w'.cell? ⟨g4, 2, none⟩ = some (.int .i64 r.minor) ∧ w'.cell? ⟨g4, 3, none⟩ = some (.slice A r.fs.length c) ∧ w'.cell? ⟨g4, 4, none⟩ = some (.bool r.close) ∧ w'.cell? ⟨g, 3, none⟩ = some (.int .i64 v) ∧ w'.cell? ⟨g, 4, none⟩ = some (.int .i64 mt) ∧ w'.cell? ⟨g, 5, none⟩ = some (.int .i64 len)) ((refine HC2.out _ ?_; repeat (first | with_reducible exact kk5 | with_reducible exact kk4 | with_reducible exact kk3 | with_reducible exact kk2 | with_reducible exact Kp.refl _ _ | with_reducible refine Kp.drew ?_))) (first | (go_simp; go_at_call 44; (with_reducible refine HRg.out _ _ (by repeat (first | with_reducible exact kk5 | with_reducible exact kk4 | with_reducible exact kk3 | with_reducible exact kk2 | with_reducible exact Kp.refl _ _ | with_reducible refine Kp.drew ?_)) ?_); intro w3 kk3))
            clear p0 p1 p2 p3 p4 x3 x4 x5
            cases rg with
            | false =>
              have HE := Lib.hid (HS.out 200 (by rw [HCh.out, if_pos rfl]))
              go_wp2
              exact HE.out _ (KW.out _ kk3)
            | true =>
              rw [if_neg (by simp)] at HCh
              obtain ⟨p0, p1, p2, p3, p4, x3, x4, x5⟩ := HC2.out _ kk3
              go_upto_region 12 with (fail)
              go_region_held_law (fun w' => w'.cell? ⟨g4, 0, none⟩ = some (.string (S r.m)) ∧ w'.cell? ⟨g4, 1, none⟩ = some (.string (S r.t)) ∧ w'.cell? ⟨g4, 2, none⟩ = some (.int .i64 r.minor) ∧ w'.cell? ⟨g4, 3, none⟩ = some (.slice A r.fs.length c) ∧ w'.cell? ⟨g4, 4, none⟩ = some (.bool r.close) ∧ w'.cell? ⟨g, 3, none⟩ = some (.int .i64 v) ∧ w'.cell? ⟨g, 4, none⟩ = some (.int .i64 mt) ∧ w'.cell? ⟨g, 5, none⟩ = some (.int .i64 len)) ((refine HC2.out _ ?_; repeat (first | with_reducible exact kk5 | with_reducible exact kk4 | with_reducible exact kk3 | with_reducible exact kk2 | with_reducible exact Kp.refl _ _ | with_reducible refine Kp.drew ?_))) (first | (go_simp; go_at_call 46; (with_reducible refine HAr.out _ _ (by repeat (first | with_reducible exact kk5 | with_reducible exact kk4 | with_reducible exact kk3 | with_reducible exact kk2 | with_reducible exact Kp.refl _ _ | with_reducible refine Kp.drew ?_)) ?_); intro w4 kk4) | (go_simp; go_at_call 45; (with_reducible refine HPa.out _ _ (by repeat (first | with_reducible exact kk5 | with_reducible exact kk4 | with_reducible exact kk3 | with_reducible exact kk2 | with_reducible exact Kp.refl _ _ | with_reducible refine Kp.drew ?_)) ?_); intro B n d b w5 kk5 hP))
              clear p0 p1 p2 p3 p4 x3 x4 x5
              rcases hP.out with ⟨e, rfl⟩ | ⟨zs, e, rfl, e2, hrB⟩
              · have HE := Lib.hid (HS.out 200 (by rw [HCh.out, e]))
                clear e hP
                go_wp2
                exact HE.out _ (KW.out _ kk5)
              · have HRB := Lib.hid hrB
                clear hrB hP
                cases zs with
                | nil =>
                  have HE := Lib.hid (HS.out 416 (by rw [HCh.out, e]))
                  have e3 : n = 0 := e2
                  clear e e2
                  subst e3
                  go_wp2
                  exact HE.out _ (KW.out _ kk5)
                | cons z zs =>
                  have HE : Hid (chooseM r true v mt len = (206, z :: zs)) := Lib.hid (by rw [HCh.out, e])
                  have e3 : ((n : Int) == 0) = false := by rw [e2]; simp; omega
                  have b5 := HB.out.kp (KW.out _ kk5) (by simp)
                  have f8 := b5.frozen 8
                  have c8 : w5.cell? ⟨g, 8, none⟩ = some (.slice none 0 0) := b5.cell 8
                  have E2 := Lib.hid e2
                  clear e e2
                  go_wp2
                  have kS : Kp [g] w5 (w5.setCell ⟨g, 8, none⟩ (.slice B n d)) := (Kp.refl [g] w5).setCell (.inl (by simp)) _
                  have hfin := H.out B n d (w5.setCell ⟨g, 8, none⟩ (.slice B n d)) (((KW.out _ kk5).mono (by simp)).trans kS) ((b5.set_ 8 _).cast rfl)
                  rw [HE.out] at hfin
                  exact hfin (Lib.hid ⟨E2.out, HRB.out.kp kS (by simp)⟩)
          · have hne : (ck != 0) = true := by simpa using hz
            have HE := Lib.hid (HS.out ck (by rw [HCh.out, if_pos hz]))
            clear hz
            go_wp2
            exact HE.out _ (KW.out _ kk2)
end
end
end Go.Proofs.YtnmafahbdfilcaaGreatDoor
