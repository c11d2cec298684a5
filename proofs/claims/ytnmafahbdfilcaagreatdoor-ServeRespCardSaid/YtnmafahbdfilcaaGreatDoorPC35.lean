/- The document's Status. The document's Of of any request. pantlerlaw28: the text of a plan; a file of a table; is a table more than is looked at. The document's Text of a plan. The document's Kind; how long names and kinds are. ServePipes: what a plan tells is short; a parser beside a talk; one round of the answers in plain words. -/
import Derived.Test.YtnmafahbdfilcaaGreatDoorPC31
import Derived.Test.YtnmafahbdfilcaaGreatDoorPC34
import Derived.Test.YtnmafahbdfilcaaGreatDoorPC22
import Derived.Deep.RegionHeldLaw
import Derived.Test.YtnmafahbdfilcaaGreatDoorPC33
import Derived.Test.YtnmafahbdfilcaaGreatDoorPC29
import Derived.Deep.CutBlock
import Derived.Deep.DeepCutAuto
import Derived.BigQuiet
import Derived.Test.YtnmafahbdfilcaaGreatDoorPC26
import Derived.Test.YtnmafahbdfilcaaGreatDoorPC27
namespace Go.Proofs.YtnmafahbdfilcaaGreatDoor
/-! ### The document's Status. -/
section
open Go.RowKit Go.Shelf
set_option linter.unusedVariables false
set_option linter.unusedSimpArgs false
set_option maxRecDepth 100000
def pickZ : Option (List (Int × Int)) → Int × List (Int × Int)
  | none => (200, [])
  | some [] => (416, [])
  | some (z :: zs) => (206, z :: zs)
theorem choose_pick (r : Req) (there : Bool) (v mt len : Int) : chooseM r there v mt len = if readsM r.m = false then (405, []) else if (r.t.head? == some 47) = false then (400, []) else if there = false then (404, []) else
    if checkM r v mt ≠ 0 then (checkM r v mt, []) else if rangedM r v mt = false then (200, []) else pickZ (parseM (allF r.fs rgL) len) := by
  unfold chooseM
  cases parseM (allF r.fs rgL) len with
  | none => rfl
  | some zs => cases zs <;> rfl
section
variable {R : Ending → World → Prop} {w : World}
set_option maxHeartbeats 8000000 in
theorem rstatus_any (r : Req) (there : Bool) (v mt len : Int) (kd : List UInt8) {A : Option Addr} {c : Nat} (hr : Rd w [] A (r.fs.flatMap fldC)) (hn : r.fs.length ≤ 2000) (hv : 0 ≤ v ∧ v ≤ 9223372036854775807) (hmt : 0 ≤ mt ∧ mt ≤ 9223372036854775807) (hlen : 0 ≤ len ∧ len ≤ 35184372088832) (hsz : ∀ nm, (allF r.fs nm).length ≤ 100000) (hvl : ∀ x ∈ r.fs, x.2.length ≤ 2000000)
    (h : ∀ B n d w', Kp [] w w' → Hid (n = (chooseM r there v mt len).2.length ∧ Rd w' [] B ((chooseM r there v mt len).2.flatMap spV)) → R (.returned (.tuple #[.int .i64 (chooseM r there v mt len).1, .slice B n d])) w') :
    Calls Tryz.prog 102 #[.agg #[.string (S r.m), .string (S r.t), .int .i64 r.minor, .slice A r.fs.length c, .bool r.close], .bool there, .agg #[.int .i64 v, .int .i64 mt, .int .i64 len, .string (S kd)]] w R := by
  have H := Lib.hid h
  have HR := Lib.hid hr
  have HVL := Lib.hid hvl
  have HCk : Hid (∀ (R : Ending → World → Prop) (w1 : World), Kp [] w w1 → (∀ w', Kp [] w1 w' → R (.returned (.int .i64 (checkM r v mt))) w') → Calls Tryz.prog 129 #[.agg #[.string (S r.m), .string (S r.t), .int .i64 r.minor, .slice A r.fs.length c, .bool r.close], .bool true, .int .i64 v, .int .i64 mt] w1 R) := Lib.hid (fun R w1 k h => rcheck26_any r v mt (HR.out.kp k (by simp)) hn hv hmt (fun nm => by have := hsz nm; omega) hvl h)
  have HRg : Hid (∀ (R : Ending → World → Prop) (w1 : World), Kp [] w w1 → (∀ w', Kp [] w1 w' → R (.returned (.bool (rangedM r v mt))) w') → Calls Tryz.prog 130 #[.agg #[.string (S r.m), .string (S r.t), .int .i64 r.minor, .slice A r.fs.length c, .bool r.close], .int .i64 v, .int .i64 mt] w1 R) := Lib.hid (fun R w1 k h => rranged26_any r v mt (HR.out.kp k (by simp)) hn hv hmt (fun nm => by have := hsz nm; omega) hvl h)
  have HAl : Hid (∀ (R : Ending → World → Prop) (w1 : World), Kp [] w w1 → (∀ w', Kp [] w1 w' → Kp [] w w' → R (.returned (.string (S (allF r.fs rgL)))) w') → Calls Tryz.prog 54 #[.agg #[.string (S r.m), .string (S r.t), .int .i64 r.minor, .slice A r.fs.length c, .bool r.close], .string ⟨#[114, 97, 110, 103, 101]⟩] w1 R) := Lib.hid (fun R w1 k h => rall24_any r rgL w1 (HR.out.kp k (by simp)) (by omega) (by have := hsz rgL; omega) (fun x hx => by have := HVL.out x hx; omega) (fun w' j => h w' j (k.trans j)))
  have HPa : Hid (∀ (R : Ending → World → Prop) (w1 : World), Kp [] w w1 → (parseM (allF r.fs rgL) len = none → ∀ w', Kp [] w w' → Kp [] w1 w' → R (.returned (.tuple #[.slice none 0 0, .bool false])) w') → (∀ zs, parseM (allF r.fs rgL) len = some zs → ∀ B d w', Hid (Rd w' [] B (zs.flatMap spV)) → Kp [] w w' → Kp [] w1 w' → R (.returned (.tuple #[.slice B zs.length d, .bool true])) w') → Calls Tryz.prog 131 #[.string (S (allF r.fs rgL)), .int .i64 len] w1 R) := Lib.hid (fun R w1 k h0 h1 => rparse_any _ len w1 (hsz _) hlen.2 (by omega) (fun w' e j => h0 e.out w' (k.trans j) j) (fun zs B d w' e o hb j => h1 zs e.out B d w' (Lib.hid (o.rd (by simp))) (k.trans j) j))
  have HCh : Hid (chooseM r there v mt len = if readsM r.m = false then (405, []) else if (r.t.head? == some 47) = false then (400, []) else if there = false then (404, []) else
      if checkM r v mt ≠ 0 then (checkM r v mt, []) else if rangedM r v mt = false then (200, []) else
      pickZ (parseM (allF r.fs rgL) len)) := Lib.hid (choose_pick r there v mt len)
  obtain ⟨ch, hch⟩ : ∃ ch, chooseM r there v mt len = ch := ⟨_, rfl⟩
  obtain ⟨ck, hck⟩ : ∃ ck, checkM r v mt = ck := ⟨_, rfl⟩
  obtain ⟨rg, hrg⟩ : ∃ rg, rangedM r v mt = rg := ⟨_, rfl⟩
  obtain ⟨al, hal⟩ : ∃ al, allF r.fs rgL = al := ⟨_, rfl⟩
  rw [hch] at H HCh
  rw [hck] at HCk HCh
  rw [hrg] at HRg HCh
  rw [hal] at HAl HPa HCh
  obtain ⟨pz, hpz⟩ : ∃ pz, parseM al len = pz := ⟨_, rfl⟩
  rw [hpz] at HPa HCh
  obtain ⟨q1, hq1⟩ : ∃ q, (r.m == [71, 69, 84]) = q := ⟨_, rfl⟩
  obtain ⟨q2, hq2⟩ : ∃ q, (r.m == [72, 69, 65, 68]) = q := ⟨_, rfl⟩
  have hrd : readsM r.m = (q1 || q2) := by unfold readsM; rw [hq1, hq2]
  rw [hrd] at HCh
  have HE : Hid (∀ (z : Int) (W' : World), ch = (z, []) → Kp [] w W' → R (.returned (.tuple #[.int .i64 z, .slice none 0 0])) W') := Lib.hid (fun z W' e k => by
    subst e
    exact H.out none 0 0 W' k (Lib.hid ⟨rfl, Rd.nil⟩))
  clear h hr hsz hvl hch hck hrg hal hpz hrd
  go_enter Tryz.func102, Tryz.ntmps102
  go_upto_region 1 with (fail)
  refine gen_worldC (fun W => ∃ gr gf, w.heap.size = gr ∧ gr + 1 = gf ∧ Hid (Kp [] w W ∧ Bk W gr 24 (reqC r A c) ∧ Bk W gf 26 [.int .i64 v, .int .i64 mt, .int .i64 len, .string (S kd)])) ⟨_, _, rfl, rfl, Lib.hid ⟨((Kp.refl _ _).alloc _).alloc _, ((Bk.new' _ _ _).alloc _).cast rfl, (Bk.newAt (by simp) _ _).cast rfl⟩⟩ ?_
  rintro W ⟨gr, gf, hgr, hgf, hW⟩
  rw [hgr, hgf]
  clear hgr hgf
  have HC : Hid (∀ W', Kp [] W W' → ((W'.cell? ⟨gr, 0, none⟩ = some (.string (S r.m)) ∧ W'.cell? ⟨gr, 1, none⟩ = some (.string (S r.t)) ∧ W'.cell? ⟨gr, 2, none⟩ = some (.int .i64 r.minor) ∧ W'.cell? ⟨gr, 3, none⟩ = some (.slice A r.fs.length c) ∧ W'.cell? ⟨gr, 4, none⟩ = some (.bool r.close)) ∧ (W'.cell? ⟨gf, 0, none⟩ = some (.int .i64 v) ∧ W'.cell? ⟨gf, 1, none⟩ = some (.int .i64 mt) ∧ W'.cell? ⟨gf, 2, none⟩ = some (.int .i64 len) ∧ W'.cell? ⟨gf, 3, none⟩ = some (.string (S kd))))) := Lib.hid (fun W' k => ⟨(bk5' (hW.out.2.1.kp k (by simp))).1, (bk4r (hW.out.2.2.kp k (by simp))).1⟩)
  have KW := Lib.hid hW.out.1
  obtain ⟨⟨p0, p1, p2, p3, p4⟩, ⟨z0, z1, z2, z3⟩⟩ := HC.out W (Kp.refl _ _)
  go_upto_region 1 with (fail)
  go_cut [18] (fun x W' => x = .bool (!(q1 || q2)) ∧ W' = W)
  case first =>
    cases q1 with
    | true =>
      go_wp2
      go_meet
      exact ⟨rfl, rfl⟩
    | false =>
      cases q2 with
      | true =>
        go_wp2
        go_meet
        exact ⟨rfl, rfl⟩
      | false =>
        go_wp2
        go_meet
        exact ⟨rfl, rfl⟩
  case rest =>
    obtain ⟨hx1, hx2⟩ := hcut
    rw [hx1, hx2]
    clear hx1 hx2 hq1 hq2
    obtain ⟨rd, hrd⟩ : ∃ rd, (q1 || q2) = rd := ⟨_, rfl⟩
    rw [hrd] at HCh ⊢
    clear hrd
    cases rd with
    | false =>
      have e := HE.out 405 _ (by rw [HCh.out]; rfl) KW.out
      have E := Lib.hid e
      clear e
      go_wp2
      exact E.out
    | true =>
      have HC3 : Hid (∀ x : Bool, (r.t.head? == some 47) = x → x = false → ch = (400, [])) := Lib.hid (fun x e e2 => by subst e2; rw [HCh.out, if_neg (by simp), if_pos e])
      go_upto_region 3 with (fail)
      go_cut [28] (fun x W' => x = .bool (!(r.t.head? == some 47)) ∧ W' = W)
      case first =>
        by_cases ht : r.t = []
        · have hl : ((r.t.length : Int) == 0) = true := by rw [ht]; rfl
          have hv9 : (r.t.head? == some 47) = false := by rw [ht]; rfl
          clear ht
          go_wp2
          go_meet
          exact ⟨by rw [hv9]; rfl, rfl⟩
        · have hpos := List.length_pos_iff.2 ht
          have hl : ((r.t.length : Int) == 0) = false := by simp; exact ht
          obtain ⟨x, hx⟩ : ∃ x, r.t[0]'hpos = x := ⟨_, rfl⟩
          have hhd : r.t.head? = some x := by rw [List.head?_eq_getElem?, List.getElem?_eq_getElem hpos, hx]
          obtain ⟨q, hq⟩ : ∃ q, ((x.toNat : Int) != 47) = q := ⟨_, rfl⟩
          have hq2 : (!(r.t.head? == some 47)) = q := by rw [hhd, ← hq]; exact (u8_bne x 47).symm
          clear ht hhd
          go_wp2
          go_meet
          exact ⟨by rw [hq2], rfl⟩
      case rest =>
        obtain ⟨hx1, hx2⟩ := hcut
        rw [hx1, hx2]
        clear hx1 hx2
        obtain ⟨hq, hhq⟩ : ∃ hq, (r.t.head? == some 47) = hq := ⟨_, rfl⟩
        rw [hhq]
        cases hq with
        | false =>
          have E := Lib.hid (HE.out 400 _ (HC3.out _ hhq rfl) KW.out)
          go_wp2
          exact E.out
        | true =>
          have HC4 : Hid (ch = if there = false then (404, []) else
            if ck ≠ 0 then (ck, []) else if rg = false then (200, []) else
            pickZ pz) := Lib.hid (by rw [HCh.out, if_neg (by simp), if_neg (by rw [hhq]; simp)])
          clear HCh HC3 hhq
          cases there with
          | false =>
            have E := Lib.hid (HE.out 404 _ (by rw [HC4.out]; rfl) KW.out)
            go_wp2
            exact E.out
          | true =>
            by_cases hk0 : ck = 0
            · subst hk0
              have HC5 : Hid (ch = if rg = false then ((200 : Int), ([] : List (Int × Int))) else pickZ pz) := Lib.hid (by rw [HC4.out, if_neg (by simp), if_neg (by simp)])
              clear HC4
              go_upto_region 10 with (go_at_call 129; ((with_reducible refine HCk.out _ _ KW.out ?_); intro w5 k5; obtain ⟨⟨p0, p1, p2, p3, p4⟩, ⟨z0, z1, z2, z3⟩⟩ := HC.out _ k5))
              have K5 := Lib.hid k5
              have K5w := Lib.hid (KW.out.trans k5)
              clear k5
              cases rg with
              | false =>
                have e : ch = (200, []) := by rw [HC5.out]; rfl
                go_wp2_with (go_at_call 130; ((with_reducible refine HRg.out _ _ K5w.out ?_); intro w6 k6))
                exact HE.out 200 _ e (K5w.out.trans k6)
              | true =>
                have HC6 : Hid (ch = pickZ pz) := Lib.hid (by rw [HC5.out, if_neg (by simp)])
                clear HC5
                go_upto_region 11 with (go_at_call 130; ((with_reducible refine HRg.out _ _ K5w.out ?_); intro w6 k6; obtain ⟨⟨p0, p1, p2, p3, p4⟩, ⟨z0, z1, z2, z3⟩⟩ := HC.out _ (K5.out.trans k6)))
                have K6 := Lib.hid (K5.out.trans k6)
                have K6w := Lib.hid (K5w.out.trans k6)
                clear k6
                have HD6 : Hid (Kp [] w w6.drew) := Lib.hid K6w.out.drew
                have HD6' : Hid (Kp [] W w6.drew) := Lib.hid K6.out.drew
                go_cut [9, 10] (fun x y W' => ∃ B n d ok, x = .slice B n d ∧ y = .bool ok ∧ Hid (Kp [] w W' ∧ (ok = false → pz = none) ∧ (ok = true → ∃ zs, pz = some zs ∧ n = zs.length ∧ Rd W' [] B (zs.flatMap spV))))
                case first =>
                  cases pz with
                  | none =>
                    go_region_held_law (fun W' => ((W'.cell? ⟨gr, 0, none⟩ = some (.string (S r.m)) ∧ W'.cell? ⟨gr, 1, none⟩ = some (.string (S r.t)) ∧ W'.cell? ⟨gr, 2, none⟩ = some (.int .i64 r.minor) ∧ W'.cell? ⟨gr, 3, none⟩ = some (.slice A r.fs.length c) ∧ W'.cell? ⟨gr, 4, none⟩ = some (.bool r.close)) ∧ (W'.cell? ⟨gf, 0, none⟩ = some (.int .i64 v) ∧ W'.cell? ⟨gf, 1, none⟩ = some (.int .i64 mt) ∧ W'.cell? ⟨gf, 2, none⟩ = some (.int .i64 len) ∧ W'.cell? ⟨gf, 3, none⟩ = some (.string (S kd))))) (first | with_reducible exact HC.out _ HD6'.out | with_reducible exact HC.out _ (HD6'.out.trans j7) | with_reducible exact HC.out _ ((HD6'.out.trans j7).trans j8)) (first | (go_simp; go_at_call 54; (with_reducible refine HAl.out _ _ HD6.out ?_); intro w7 j7 k7) | (go_simp; go_at_call 131; (with_reducible refine HPa.out _ _ k7 (fun _ w8 k8 j8 => ?_) (fun zs e => by cases e))))
                    all_goals
                      go_wp2
                      go_meet
                      exact ⟨none, 0, 0, false, rfl, rfl, Lib.hid ⟨k8, (fun _ => by trivial), (fun e => by cases e)⟩⟩
                  | some zs =>
                    go_region_held_law (fun W' => ((W'.cell? ⟨gr, 0, none⟩ = some (.string (S r.m)) ∧ W'.cell? ⟨gr, 1, none⟩ = some (.string (S r.t)) ∧ W'.cell? ⟨gr, 2, none⟩ = some (.int .i64 r.minor) ∧ W'.cell? ⟨gr, 3, none⟩ = some (.slice A r.fs.length c) ∧ W'.cell? ⟨gr, 4, none⟩ = some (.bool r.close)) ∧ (W'.cell? ⟨gf, 0, none⟩ = some (.int .i64 v) ∧ W'.cell? ⟨gf, 1, none⟩ = some (.int .i64 mt) ∧ W'.cell? ⟨gf, 2, none⟩ = some (.int .i64 len) ∧ W'.cell? ⟨gf, 3, none⟩ = some (.string (S kd))))) (first | with_reducible exact HC.out _ HD6'.out | with_reducible exact HC.out _ (HD6'.out.trans j7) | with_reducible exact HC.out _ ((HD6'.out.trans j7).trans j8)) (first | (go_simp; go_at_call 54; (with_reducible refine HAl.out _ _ HD6.out ?_); intro w7 j7 k7) | (go_simp; go_at_call 131; (with_reducible refine HPa.out _ _ k7 (fun e => by cases e) (fun zs' e B d w8 h8 k8 j8 => ?_)); injection e with e; subst e))
                    all_goals
                      go_wp2
                      go_meet
                      exact ⟨B, _, d, true, rfl, rfl, Lib.hid ⟨k8, (fun e => by cases e), (fun _ => ⟨_, rfl, rfl, h8.out⟩)⟩⟩
                case rest =>
                  obtain ⟨B, n, d, ok, hx1, hx2, hp⟩ := hcut
                  rw [hx1, hx2]
                  clear hx1 hx2 p0 p1 p2 p3 p4 z0 z1 z2 z3
                  cases ok with
                  | false =>
                    have e : ch = (200, []) := by rw [HC6.out, hp.out.2.1 rfl]; rfl
                    have E := Lib.hid (HE.out 200 _ e hp.out.1)
                    clear e
                    go_wp2
                    exact E.out
                  | true =>
                    obtain ⟨zs, e1, e2, e3⟩ := hp.out.2.2 rfl
                    subst e2
                    cases zs with
                    | nil =>
                      have e : ch = (416, []) := by rw [HC6.out, e1]; rfl
                      have E := Lib.hid (HE.out 416 _ e hp.out.1)
                      clear e e1 e3
                      go_wp2
                      exact E.out
                    | cons z zs =>
                      have e : ch = (206, z :: zs) := by rw [HC6.out, e1]; rfl
                      have E : Hid (R (.returned (.tuple #[.int .i64 206, .slice B (z :: zs).length d])) wc) := Lib.hid (by
                        subst e
                        exact H.out B _ d _ hp.out.1 (Lib.hid ⟨rfl, e3⟩))
                      have hl : (((zs.length : Int) + 1) == 0) = false := by simp; omega
                      clear e e1 e3
                      go_wp2
                      exact E.out
            · have g0 : (ck != 0) = true := by simpa using hk0
              have e : ch = (ck, []) := by rw [HC4.out, if_neg (by simp), if_pos hk0]
              go_wp2_with (go_at_call 129; ((with_reducible refine HCk.out _ _ KW.out ?_); intro w5 k5))
              exact HE.out ck _ e (KW.out.trans k5)
end
end
/-! ### The document's Of of any request. -/
section
open Go.RowKit Go.Shelf
set_option linter.unusedVariables false
set_option linter.unusedSimpArgs false
set_option maxRecDepth 100000
theorem nw27 (w : World) : Bk (w.alloc (.cells #[.int .i64 0, .string ⟨#[]⟩, .slice none 0 0, .bool false] 91)) w.heap.size 91 [.int .i64 0, .string ⟨#[]⟩, .slice none 0 0, .bool false] := (Bk.new' _ _ _).cast rfl
theorem nw27d (w : World) : Bk (w.drew.alloc (.cells #[.int .i64 0, .string ⟨#[]⟩, .slice none 0 0, .bool false] 91)) w.heap.size 91 [.int .i64 0, .string ⟨#[]⟩, .slice none 0 0, .bool false] := (Bk.newAt rfl _ _).cast rfl
/-- As plan_fin2, the parts taken away. -/
theorem plan_fin3 {w w2 : World} {pb rb tt : Nat} {A1 A2 : Option Addr} {z z1 z2 : Int} {s1 s2 L : ByteArray} {n1 n2 c1 c2 : Nat} {d d1 d2 : Bool} (k : Kp [] w w2) (h1 : w.heap.size ≤ rb) (h2 : rb < pb) (bp : Bk w2 pb tt [.int .i64 z1, .string s1, .slice A1 n1 c1, .bool d1]) (br : Bk w2 rb tt [.int .i64 z2, .string s2, .slice A2 n2 c2, .bool d2]) :
    ∃ W', ((((((w2.setCell ⟨pb, 1, none⟩ (.string L)).setCell ⟨pb, 2, none⟩ (.slice none 0 0)).setCell ⟨rb, 0, none⟩ (.int .i64 z)).setCell ⟨rb, 1, none⟩ (.string L)).setCell ⟨rb, 2, none⟩ (.slice none 0 0)).setCell ⟨rb, 3, none⟩ (.bool d)) = W' ∧ Kp [] w W' ∧ Bk W' rb tt [.int .i64 z, .string L, .slice none 0 0, .bool d] := by
  have kk : Kp [rb, pb] w2 ((((((w2.setCell ⟨pb, 1, none⟩ (.string L)).setCell ⟨pb, 2, none⟩ (.slice none 0 0)).setCell ⟨rb, 0, none⟩ (.int .i64 z)).setCell ⟨rb, 1, none⟩ (.string L)).setCell ⟨rb, 2, none⟩ (.slice none 0 0)).setCell ⟨rb, 3, none⟩ (.bool d)) :=
    ((((((Kp.refl _ _).setCell (p := ⟨pb, 1, none⟩) (.inl (by simp)) _).setCell (p := ⟨pb, 2, none⟩) (.inl (by simp)) _).setCell (p := ⟨rb, 0, none⟩) (.inl (by simp)) _).setCell (p := ⟨rb, 1, none⟩) (.inl (by simp)) _).setCell (p := ⟨rb, 2, none⟩) (.inl (by simp)) _).setCell (p := ⟨rb, 3, none⟩) (.inl (by simp)) _
  refine ⟨_, rfl, k.thn kk (fun s hs => .inr (by simp at hs; omega)), ?_⟩
  exact (((((((br.far (p := ⟨pb, 1, none⟩) (by simp; omega) (.string L)).far (p := ⟨pb, 2, none⟩) (by simp; omega) (.slice none 0 0)).set_ 0 _).set_ 1 _).set_ 2 _).set_ 3 _).cast rfl)
section
variable {R : Ending → World → Prop} {w : World}
set_option maxHeartbeats 8000000 in
theorem rof27_any (r : Req) (there : Bool) (v mt len : Int) (kd : List UInt8) (now : Int) {A : Option Addr} {c : Nat} (hr : Rd w [] A (r.fs.flatMap fldC)) (hn : r.fs.length ≤ 2000)
    (hv : 0 ≤ v ∧ v ≤ 9223372036854775807) (hmt : 0 ≤ mt ∧ mt ≤ 9223372036854775807) (hlen : 0 ≤ len ∧ len ≤ 35184372088832) (hkd : kd.length ≤ 300) (hsz : ∀ nm, (allF r.fs nm).length ≤ 100000) (hvl : ∀ x ∈ r.fs, x.2.length ≤ 2000000)
    (h : ∀ A' n c' w', Kp [] w w' → Hid (Rd w' [] A' ((ofP r there v mt len kd).flatMap ptV) ∧ (ofP r there v mt len kd).length = n ∧ n ≤ 21) → R (.returned (.agg #[.int .i64 (chooseM r there v mt len).1, .string (S (ofH r there v mt len kd now)), .slice A' n c', .bool (r.close || (chooseM r there v mt len).1 == 400)])) w') :
    Calls Tryz.prog 59 #[.agg #[.string (S r.m), .string (S r.t), .int .i64 r.minor, .slice A r.fs.length c, .bool r.close], .bool there, .agg #[.int .i64 v, .int .i64 mt, .int .i64 len, .string (S kd)], .int .i64 now] w R := by
  have H := Lib.hid h
  have HR := Lib.hid hr
  have hok := choose_ok r there v mt len
  have hst := choose_st r there v mt len
  have hzo := hok.2.1
  have hz4 := hok.2.2.1
  have hne := hok.2.2.2
  have hpo := parts_ok (zs := (chooseM r there v mt len).2) hst.1 hst.2 hlen.1 hlen.2 hkd (fun z hz => okZ_sp hlen.2 (hzo z hz))
  have HSt : Hid (∀ (R : Ending → World → Prop) (w1 : World), Kp [] w w1 → (∀ B n d w', Kp [] w1 w' → Hid (n = (chooseM r there v mt len).2.length ∧ Rd w' [] B ((chooseM r there v mt len).2.flatMap spV)) → R (.returned (.tuple #[.int .i64 (chooseM r there v mt len).1, .slice B n d])) w') → Calls Tryz.prog 102 #[.agg #[.string (S r.m), .string (S r.t), .int .i64 r.minor, .slice A r.fs.length c, .bool r.close], .bool there, .agg #[.int .i64 v, .int .i64 mt, .int .i64 len, .string (S kd)]] w1 R) := Lib.hid (fun R w1 k h => rstatus_any r there v mt len kd (HR.out.kp k (by simp)) hn hv hmt hlen hsz hvl h)
  have HPa : Hid (∀ (R : Ending → World → Prop) (w1 : World) (B : Option Addr) (nb db : Nat), Hid (nb = (chooseM r there v mt len).2.length ∧ Rd w1 [] B ((chooseM r there v mt len).2.flatMap spV)) → (∀ A n c w', Kp [] w1 w' → Hid (Rd w' [] A ((partsG (chooseM r there v mt len).1 len kd (chooseM r there v mt len).2).flatMap ptV) ∧ (partsG (chooseM r there v mt len).1 len kd (chooseM r there v mt len).2).length = n ∧ n ≤ 21) → R (.returned (.slice A n c)) w') → Calls Tryz.prog 56 #[.int .i64 (chooseM r there v mt len).1, .slice B nb db, .agg #[.int .i64 v, .int .i64 mt, .int .i64 len, .string (S kd)]] w1 R) := Lib.hid (fun R w1 B nb db hb h => rparts27_any _ v mt len kd _ hst hb.out.2 hb.out.1.symm (by have := hb.out.1; omega) hzo hne hlen hkd h)
  have HHd : Hid (∀ (R : Ending → World → Prop) (w1 : World) (B : Option Addr) (nb db : Nat) (A : Option Addr) (n c : Nat), (nb = (chooseM r there v mt len).2.length ∧ Rd w1 [] B ((chooseM r there v mt len).2.flatMap spV)) → (Rd w1 [] A ((partsG (chooseM r there v mt len).1 len kd (chooseM r there v mt len).2).flatMap ptV) ∧ (partsG (chooseM r there v mt len).1 len kd (chooseM r there v mt len).2).length = n ∧ n ≤ 21) → (∀ w', Kp [] w1 w' → R (.returned (.string (S (ofH r there v mt len kd now)))) w') → Calls Tryz.prog 57 #[.int .i64 (chooseM r there v mt len).1, .slice B nb db, .slice A n c, .agg #[.int .i64 v, .int .i64 mt, .int .i64 len, .string (S kd)], .int .i64 r.minor, .bool (r.close || (chooseM r there v mt len).1 == 400), .int .i64 now] w1 R) := Lib.hid (fun R w1 B nb db A n c hb ha h => rhead27_any _ r.minor _ v mt len kd now _ _ hb.2 hb.1.symm (by have := hb.1; omega) (fun z hz => okZ_sp hlen.2 (hzo z hz)) ha.1 ha.2.1 (by have := ha.2.2; omega) hpo hne hst hv hmt hlen hkd h)
  have e9 : ofP r there v mt len kd = if (r.m == [72, 69, 65, 68]) = true then [] else partsG (chooseM r there v mt len).1 len kd (chooseM r there v mt len).2 := rfl
  rw [e9] at H
  clear h hr hsz hvl hok hpo hzo hne e9
  obtain ⟨hd, hhd⟩ : ∃ hd, ofH r there v mt len kd now = hd := ⟨_, rfl⟩
  rw [hhd] at H HHd
  obtain ⟨ps, hps⟩ : ∃ ps, partsG (chooseM r there v mt len).1 len kd (chooseM r there v mt len).2 = ps := ⟨_, rfl⟩
  rw [hps] at H HPa HHd
  obtain ⟨st, hste⟩ : ∃ st, (chooseM r there v mt len).1 = st := ⟨_, rfl⟩
  obtain ⟨zs, hzs⟩ : ∃ zs, (chooseM r there v mt len).2 = zs := ⟨_, rfl⟩
  rw [hste] at H HSt HPa HHd
  rw [hzs] at HSt HPa HHd
  clear hhd hps hste hzs hst hz4
  obtain ⟨only, hon⟩ : ∃ only, (r.m == [72, 69, 65, 68]) = only := ⟨_, rfl⟩
  rw [hon] at H
  obtain ⟨rc, hrc⟩ : ∃ rc, r.close = rc := ⟨_, rfl⟩
  rw [hrc] at H HSt HHd ⊢
  obtain ⟨cl, hcl⟩ : ∃ cl, (rc || st == 400) = cl := ⟨_, rfl⟩
  rw [hcl] at H HHd
  go_enter Tryz.func59, Tryz.ntmps59
  go_upto_region 2 with (go_at_call 102; ((refine HSt.out _ _ (((Kp.refl _ _).alloc _).alloc _ |>.alloc _) ?_); intro B nb db w1 k1 hB))
  refine gen_worldC (fun W => ∃ (g1 g2 g3 : Nat), w.heap.size = g1 ∧ g1 + 1 = g2 ∧ g2 + 1 = g3 ∧ Hid (Kp [] w W ∧ Bk W g1 24 [.string (S r.m), .string (S r.t), .int .i64 r.minor, .slice A r.fs.length c, .bool rc] ∧ Bk W g2 26 [.int .i64 v, .int .i64 mt, .int .i64 len, .string (S kd)] ∧ Bk W g3 91 [.int .i64 0, .string ⟨#[]⟩, .slice none 0 0, .bool false] ∧ (nb = zs.length ∧ Rd W [] B (zs.flatMap spV))) ∧ g3 < W.heap.size) ⟨_, _, _, rfl, rfl, rfl, Lib.hid ⟨((((Kp.refl _ _).alloc _).alloc _).alloc _).trans k1, ((((Bk.new' w _ _).alloc _).alloc _).kp k1 (by simp)).cast rfl, (((Bk.newAt (by simp) _ _).alloc _).kp k1 (by simp)).cast rfl, ((Bk.newAt (by simp) _ _).kp k1 (by simp)).cast rfl, hB.out⟩, by have := k1.size; simp at this; omega⟩ ?_
  rintro W ⟨g1, g2, g3, hg1, hg2, hg3, hW, hlt⟩
  rw [hg1, hg2, hg3]
  have HG : Hid (w.heap.size ≤ g1 ∧ g1 < g2 ∧ g2 < g3 ∧ g3 < W.heap.size) := Lib.hid (by omega)
  clear hg1 hg2 hg3 hlt k1 hB HSt HR
  have HC : Hid (∀ W', Kp [] W W' → (W'.cell? ⟨g1, 4, none⟩ = some (.bool rc) ∧ W'.cell? ⟨g2, 0, none⟩ = some (.int .i64 v) ∧ W'.cell? ⟨g2, 1, none⟩ = some (.int .i64 mt) ∧ W'.cell? ⟨g2, 2, none⟩ = some (.int .i64 len) ∧ W'.cell? ⟨g2, 3, none⟩ = some (.string (S kd)))) := Lib.hid (fun W' k => ⟨(hW.out.2.1.kp k (by simp)).cell 4, (hW.out.2.2.1.kp k (by simp)).cell 0, (hW.out.2.2.1.kp k (by simp)).cell 1, (hW.out.2.2.1.kp k (by simp)).cell 2, (hW.out.2.2.1.kp k (by simp)).cell 3⟩)
  have HD : Hid (Kp [] W W.drew) := Lib.hid (Kp.refl _ _).drew
  have HP9 : Hid (∀ (R : Ending → World → Prop) (w1 : World), Kp [] W w1 → (∀ A n c w', Kp [] w1 w' → Kp [] W w' → Hid (Rd w' [] A (ps.flatMap ptV) ∧ ps.length = n ∧ n ≤ 21) → R (.returned (.slice A n c)) w') → Calls Tryz.prog 56 #[.int .i64 st, .slice B nb db, .agg #[.int .i64 v, .int .i64 mt, .int .i64 len, .string (S kd)]] w1 R) := Lib.hid (fun R w1 k h => HPa.out R w1 B nb db (Lib.hid ⟨hW.out.2.2.2.2.1, hW.out.2.2.2.2.2.kp k (by simp)⟩) (fun A n c w' k' hh => h A n c w' k' (k.trans k') hh))
  clear HPa
  obtain ⟨y4, z0, z1, z2, z3⟩ := HC.out W (Kp.refl _ _)
  go_cut [11] (fun x W' => ∃ gp A n d, x = .pointer (some ⟨gp, 0, none⟩) ∧ Hid (Kp [] W W' ∧ Bk W' gp 91 [.int .i64 st, .string ⟨#[]⟩, .slice A n d, .bool cl] ∧ (Rd W' [] A (ps.flatMap ptV) ∧ ps.length = n ∧ n ≤ 21) ∧ W.heap.size ≤ gp))
  case first =>
    cases rc with
    | true =>
      have hcl2 : true = cl := by rw [← hcl]; rfl
      subst hcl2
      clear hcl
      refine wp_region_held_drew (S := fun W' => (W'.cell? ⟨g1, 4, none⟩ = some (.bool true) ∧ W'.cell? ⟨g2, 0, none⟩ = some (.int .i64 v) ∧ W'.cell? ⟨g2, 1, none⟩ = some (.int .i64 mt) ∧ W'.cell? ⟨g2, 2, none⟩ = some (.int .i64 len) ∧ W'.cell? ⟨g2, 3, none⟩ = some (.string (S kd)))) (by kernel_rfl) (HC.out _ HD.out) (fun hHeld => ?_)
      refine wpAnyH_take (i := 0) (oi := { dst := some 19, op := Op.move (Operand.tmp 9), type := 3, pos := "ref.go:154", after := #[], guard := none }) (v := ?_) rfl (by kernel_rfl) (by kernel_rfl) (by kernel_rfl) (fun _ _ _ h => h) (Or.inl ⟨by rfl, ?_⟩) hHeld ?_
      rotate_left
      · intro w hSw; (try dsimp only at hSw); go_split_ands; go_simp; (try with_reducible rfl)
      (try simp only [Act.put, List.setIfInBounds_toArray, List.set_cons_zero, List.set_cons_succ])
      refine wpAnyH_take (i := 1) (oi := { dst := some 20, op := Op.move (Operand.tmp 9), type := 3, pos := "ref.go:154", after := #[], guard := none }) (v := ?_) rfl (by kernel_rfl) (by kernel_rfl) (by kernel_rfl) (fun _ _ _ h => h) (Or.inl ⟨by rfl, ?_⟩) hHeld ?_
      rotate_left
      · intro w hSw; (try dsimp only at hSw); go_split_ands; go_simp; (try with_reducible rfl)
      (try simp only [Act.put, List.setIfInBounds_toArray, List.set_cons_zero, List.set_cons_succ])
      refine wpAnyH_take (i := 2) (oi := { dst := some 21, op := Op.move (Operand.tmp 10), type := 161, pos := "ref.go:154", after := #[], guard := none }) (v := ?_) rfl (by kernel_rfl) (by kernel_rfl) (by kernel_rfl) (fun _ _ _ h => h) (Or.inl ⟨by rfl, ?_⟩) hHeld ?_
      rotate_left
      · intro w hSw; (try dsimp only at hSw); go_split_ands; go_simp; (try with_reducible rfl)
      (try simp only [Act.put, List.setIfInBounds_toArray, List.set_cons_zero, List.set_cons_succ])
      refine wpAnyH_take (i := 3) (oi := { dst := some 22, op := Op.load 26 (Operand.tmp 6), type := 26, pos := "ref.go:154", after := #[], guard := none }) (v := ?_) rfl (by kernel_rfl) (by kernel_rfl) (by kernel_rfl) (fun _ _ _ h => h) (Or.inl ⟨by rfl, ?_⟩) hHeld ?_
      rotate_left
      · intro w hSw; (try dsimp only at hSw); go_split_ands; go_simp; (try with_reducible rfl)
      (try simp only [Act.put, List.setIfInBounds_toArray, List.set_cons_zero, List.set_cons_succ])
      refine wpAnyH_take (i := 5) (oi := { dst := some 24, op := Op.fieldAddr 24 (Operand.tmp 4) 4, type := 0, pos := "ref.go:154", after := #[], guard := none }) (v := ?_) rfl (by kernel_rfl) (by kernel_rfl) (by kernel_rfl) (fun _ _ _ h => h) (Or.inl ⟨by rfl, ?_⟩) hHeld ?_
      rotate_left
      · intro w hSw; (try dsimp only at hSw); go_split_ands; go_simp; (try with_reducible rfl)
      (try simp only [Act.put, List.setIfInBounds_toArray, List.set_cons_zero, List.set_cons_succ])
      refine wpAnyH_take (i := 6) (oi := { dst := some 25, op := Op.load 4 (Operand.tmp 24), type := 4, pos := "ref.go:154", after := #[{ on := 5, ground := Ground.data }], guard := none }) (v := ?_) rfl (by kernel_rfl) (by kernel_rfl) (by kernel_rfl) (fun _ _ _ h => h) (Or.inl ⟨by rfl, ?_⟩) hHeld ?_
      rotate_left
      · intro w hSw; (try dsimp only at hSw); go_split_ands; go_simp; (try with_reducible rfl)
      (try simp only [Act.put, List.setIfInBounds_toArray, List.set_cons_zero, List.set_cons_succ])
      refine wpAnyH_ready (rs := [4, 12]) (by kernel_rfl) (by simp) ?_
      refine AllReadyH.cons rfl (fun K hK => ?_) (AllReadyH.cons rfl (fun K hK => ?_) AllReadyH.nil)
      · rw [if_pos (by rfl)]
        go_simp
        go_at_call 56
        (with_reducible refine HP9.out _ _ HD.out ?_)
        intro A4 n4 d4 w4 j4 k4 h4
        go_wp2
        refine hK.out _ _ (HC.out _ k4) (fun hHeld => ?_)
        clear hK K
        (try simp only [Act.put, List.setIfInBounds_toArray, List.set_cons_zero, List.set_cons_succ])
        refine wpAnyH_take (i := 7) (oi := { dst := some 26, op := Op.move (Operand.tmp 25), type := 4, pos := "ref.go:154", after := #[{ on := 6, ground := Ground.data }, { on := 4, ground := Ground.chain }], guard := none }) (v := ?_) rfl (by kernel_rfl) (by kernel_rfl) (by kernel_rfl) (fun _ _ _ h => h) (Or.inl ⟨by rfl, ?_⟩) hHeld ?_
        rotate_left
        · intro w hSw; (try dsimp only at hSw); go_split_ands; go_simp; (try with_reducible rfl)
        (try simp only [Act.put, List.setIfInBounds_toArray, List.set_cons_zero, List.set_cons_succ])
        refine wpAnyH_take (i := 8) (oi := { dst := some 27, op := Op.move (Operand.tmp 9), type := 3, pos := "ref.go:154", after := #[{ on := 7, ground := Ground.guard }], guard := some (7, false) }) (v := undef) rfl (by kernel_rfl) (by kernel_rfl) (by kernel_rfl) (fun _ _ _ h => h) (Or.inr ⟨by rfl, rfl⟩) hHeld ?_
        (try simp only [Act.put, List.setIfInBounds_toArray, List.set_cons_zero, List.set_cons_succ])
        refine wpAnyH_take (i := 9) (oi := { dst := some 28, op := Op.binOp BinOp.eql 3 (Operand.tmp 27) (Operand.const (Value.int IntKind.i64 400)) 3, type := 4, pos := "ref.go:154", after := #[{ on := 8, ground := Ground.data }, { on := 7, ground := Ground.guard }], guard := some (7, false) }) (v := undef) rfl (by kernel_rfl) (by kernel_rfl) (by kernel_rfl) (fun _ _ _ h => h) (Or.inr ⟨by rfl, rfl⟩) hHeld ?_
        (try simp only [Act.put, List.setIfInBounds_toArray, List.set_cons_zero, List.set_cons_succ])
        refine wpAnyH_take (i := 10) (oi := { dst := some 29, op := Op.pick (Operand.tmp 26) (Operand.const (Value.bool true)) (Operand.tmp 28), type := 4, pos := "ref.go:154", after := #[{ on := 7, ground := Ground.data }, { on := 9, ground := Ground.data }], guard := none }) (v := ?_) rfl (by kernel_rfl) (by kernel_rfl) (by kernel_rfl) (fun _ _ _ h => h) (Or.inl ⟨by rfl, ?_⟩) hHeld ?_
        rotate_left
        · intro w hSw; (try dsimp only at hSw); go_split_ands; go_simp; (try with_reducible rfl)
        (try simp only [Act.put, List.setIfInBounds_toArray, List.set_cons_zero, List.set_cons_succ])
        refine wpAnyH_take (i := 11) (oi := { dst := some 30, op := Op.build 91 #[(0, Operand.tmp 19), (2, Operand.tmp 23), (3, Operand.tmp 29)], type := 91, pos := "ref.go:154", after := #[{ on := 0, ground := Ground.data }, { on := 4, ground := Ground.data }, { on := 10, ground := Ground.data }], guard := none }) (v := ?_) rfl (by kernel_rfl) (by kernel_rfl) (by kernel_rfl) (fun _ _ _ h => h) (Or.inl ⟨by rfl, ?_⟩) hHeld ?_
        rotate_left
        · intro w hSw; (try dsimp only at hSw); go_split_ands; go_simp; (try with_reducible rfl)
        (try simp only [Act.put, List.setIfInBounds_toArray, List.set_cons_zero, List.set_cons_succ])
        refine wpAnyH_ready (rs := [12]) (by kernel_rfl) (by simp) ?_
        refine AllReadyH.cons rfl (fun K hK => ?_) AllReadyH.nil
        rw [if_pos (by rfl)]
        go_simp
        refine hK.out _ _ (HC.out _ (k4.alloc _)) (fun hHeld => ?_)
        clear hK K
        (try simp only [Act.put, List.setIfInBounds_toArray, List.set_cons_zero, List.set_cons_succ])
        refine wpAnyH_ready (rs := [13]) (by kernel_rfl) (by simp) ?_
        refine AllReadyH.cons rfl (fun K hK => ?_) AllReadyH.nil
        rw [if_pos (by rfl)]
        go_simp
        refine hK.out _ _ (HC.out _ (k4.alloc _)) (fun hHeld => ?_)
        clear hK K
        (try simp only [Act.put, List.setIfInBounds_toArray, List.set_cons_zero, List.set_cons_succ])
        refine wpAnyH_done (by kernel_rfl) ?_ _
        go_wp2
        go_meet
        exact ⟨_, A4, n4, d4, rfl, Lib.hid ⟨k4.alloc _, (Bk.new' _ _ _).cast rfl, ⟨(h4.out.1).kp (S := []) ((Kp.refl _ _).alloc _) (by simp), h4.out.2⟩, k4.size⟩⟩
      · rw [if_pos (by rfl)]
        go_simp
        refine hK.out _ _ (HC.out _ (Kp.drew (Kp.alloc (Kp.refl [] W) _))) (fun hHeld => ?_)
        clear hK K
        (try simp only [Act.put, List.setIfInBounds_toArray, List.set_cons_zero, List.set_cons_succ])
        refine wpAnyH_ready (rs := [4]) (by kernel_rfl) (by simp) ?_
        refine AllReadyH.cons rfl (fun K hK => ?_) AllReadyH.nil
        rw [if_pos (by rfl)]
        go_simp
        go_at_call 56
        (with_reducible refine HP9.out _ _ (Kp.drew (Kp.alloc (Kp.refl [] W) _)) ?_)
        intro A4 n4 d4 w4 j4 k4 h4
        go_wp2
        refine hK.out _ _ (HC.out _ k4) (fun hHeld => ?_)
        clear hK K
        (try simp only [Act.put, List.setIfInBounds_toArray, List.set_cons_zero, List.set_cons_succ])
        refine wpAnyH_take (i := 7) (oi := { dst := some 26, op := Op.move (Operand.tmp 25), type := 4, pos := "ref.go:154", after := #[{ on := 6, ground := Ground.data }, { on := 4, ground := Ground.chain }], guard := none }) (v := ?_) rfl (by kernel_rfl) (by kernel_rfl) (by kernel_rfl) (fun _ _ _ h => h) (Or.inl ⟨by rfl, ?_⟩) hHeld ?_
        rotate_left
        · intro w hSw; (try dsimp only at hSw); go_split_ands; go_simp; (try with_reducible rfl)
        (try simp only [Act.put, List.setIfInBounds_toArray, List.set_cons_zero, List.set_cons_succ])
        refine wpAnyH_take (i := 8) (oi := { dst := some 27, op := Op.move (Operand.tmp 9), type := 3, pos := "ref.go:154", after := #[{ on := 7, ground := Ground.guard }], guard := some (7, false) }) (v := undef) rfl (by kernel_rfl) (by kernel_rfl) (by kernel_rfl) (fun _ _ _ h => h) (Or.inr ⟨by rfl, rfl⟩) hHeld ?_
        (try simp only [Act.put, List.setIfInBounds_toArray, List.set_cons_zero, List.set_cons_succ])
        refine wpAnyH_take (i := 9) (oi := { dst := some 28, op := Op.binOp BinOp.eql 3 (Operand.tmp 27) (Operand.const (Value.int IntKind.i64 400)) 3, type := 4, pos := "ref.go:154", after := #[{ on := 8, ground := Ground.data }, { on := 7, ground := Ground.guard }], guard := some (7, false) }) (v := undef) rfl (by kernel_rfl) (by kernel_rfl) (by kernel_rfl) (fun _ _ _ h => h) (Or.inr ⟨by rfl, rfl⟩) hHeld ?_
        (try simp only [Act.put, List.setIfInBounds_toArray, List.set_cons_zero, List.set_cons_succ])
        refine wpAnyH_take (i := 10) (oi := { dst := some 29, op := Op.pick (Operand.tmp 26) (Operand.const (Value.bool true)) (Operand.tmp 28), type := 4, pos := "ref.go:154", after := #[{ on := 7, ground := Ground.data }, { on := 9, ground := Ground.data }], guard := none }) (v := ?_) rfl (by kernel_rfl) (by kernel_rfl) (by kernel_rfl) (fun _ _ _ h => h) (Or.inl ⟨by rfl, ?_⟩) hHeld ?_
        rotate_left
        · intro w hSw; (try dsimp only at hSw); go_split_ands; go_simp; (try with_reducible rfl)
        (try simp only [Act.put, List.setIfInBounds_toArray, List.set_cons_zero, List.set_cons_succ])
        refine wpAnyH_take (i := 11) (oi := { dst := some 30, op := Op.build 91 #[(0, Operand.tmp 19), (2, Operand.tmp 23), (3, Operand.tmp 29)], type := 91, pos := "ref.go:154", after := #[{ on := 0, ground := Ground.data }, { on := 4, ground := Ground.data }, { on := 10, ground := Ground.data }], guard := none }) (v := ?_) rfl (by kernel_rfl) (by kernel_rfl) (by kernel_rfl) (fun _ _ _ h => h) (Or.inl ⟨by rfl, ?_⟩) hHeld ?_
        rotate_left
        · intro w hSw; (try dsimp only at hSw); go_split_ands; go_simp; (try with_reducible rfl)
        (try simp only [Act.put, List.setIfInBounds_toArray, List.set_cons_zero, List.set_cons_succ])
        have bz4 : Bk w4 W.heap.size 91 [.int .i64 0, .string ⟨#[]⟩, .slice none 0 0, .bool false] := Bk.kp (nw27 W).drew j4 (by simp)
        obtain ⟨⟨z0, z1, z2, z3⟩, ⟨zz0, zz1, zz2, zz3⟩⟩ := bk4r bz4
        refine wpAnyH_ready (rs := [13]) (by kernel_rfl) (by simp) ?_
        refine AllReadyH.cons rfl (fun K hK => ?_) AllReadyH.nil
        rw [if_pos (by rfl)]
        go_simp
        refine hK.out _ _ (HC.out _ ((((Kp.setCell k4 (.inr (by have := k4.size; first | (simp; done) | (simp; omega))) _).setCell (.inr (by have := k4.size; first | (simp; done) | (simp; omega))) _).setCell (.inr (by have := k4.size; first | (simp; done) | (simp; omega))) _).setCell (.inr (by have := k4.size; first | (simp; done) | (simp; omega))) _)) (fun hHeld => ?_)
        clear hK K
        (try simp only [Act.put, List.setIfInBounds_toArray, List.set_cons_zero, List.set_cons_succ])
        refine wpAnyH_done (by kernel_rfl) ?_ _
        go_wp2
        go_meet
        obtain ⟨W', hW', kW, bW⟩ := put4 bz4 (.int .i64 st) (.string ⟨#[]⟩) (.slice A4 n4 d4) (.bool true)
        rw [hW']
        exact ⟨_, A4, n4, d4, rfl, Lib.hid ⟨k4.thn kW (fun s hs => .inr (by have := k4.size; simp at hs; omega)), bW, ⟨((rd_notP h4.out.1 bz4).kp kW (by simp)).sub (by simp), h4.out.2⟩, Nat.le_refl _⟩⟩
    | false =>
      have hcl2 : (st == 400) = cl := by rw [← hcl]; rfl
      clear hcl
      go_region_held_law (fun W' => (W'.cell? ⟨g1, 4, none⟩ = some (.bool false) ∧ W'.cell? ⟨g2, 0, none⟩ = some (.int .i64 v) ∧ W'.cell? ⟨g2, 1, none⟩ = some (.int .i64 mt) ∧ W'.cell? ⟨g2, 2, none⟩ = some (.int .i64 len) ∧ W'.cell? ⟨g2, 3, none⟩ = some (.string (S kd)))) (first | with_reducible exact HC.out _ k4 | with_reducible exact HC.out _ HD.out | with_reducible exact HC.out _ (Kp.drew (Kp.alloc (Kp.refl [] W) _)) | with_reducible exact HC.out _ (Kp.alloc k4 _) | with_reducible exact HC.out _ (Kp.alloc HD.out _) | exact HC.out _ ((((Kp.setCell k4 (.inr (by have := k4.size; first | (simp; done) | (simp; omega))) _).setCell (.inr (by have := k4.size; first | (simp; done) | (simp; omega))) _).setCell (.inr (by have := k4.size; first | (simp; done) | (simp; omega))) _).setCell (.inr (by have := k4.size; first | (simp; done) | (simp; omega))) _)) (first | (go_simp; go_at_call 56; (with_reducible refine HP9.out _ _ (by first | with_reducible exact HD.out | with_reducible exact Kp.alloc HD.out _ | with_reducible exact Kp.drew (Kp.alloc (Kp.refl [] W) _)) ?_); intro A4 n4 d4 w4 j4 k4 h4; (try (have bz4 : Bk w4 W.heap.size 91 [.int .i64 0, .string ⟨#[]⟩, .slice none 0 0, .bool false] := (by first | exact Bk.kp (nw27d W) j4 (by simp) | exact Bk.kp (nw27 W).drew j4 (by simp)); obtain ⟨⟨z0, z1, z2, z3⟩, ⟨zz0, zz1, zz2, zz3⟩⟩ := bk4r bz4))))
      all_goals
        go_wp2
        go_meet
        first
        | exact ⟨_, A4, n4, d4, rfl, Lib.hid ⟨k4.alloc _, (Bk.new' _ _ _).cast rfl, ⟨(h4.out.1).kp (S := []) ((Kp.refl _ _).alloc _) (by simp), h4.out.2⟩, k4.size⟩⟩
        | (obtain ⟨W', hW', kW, bW⟩ := put4 bz4 (.int .i64 st) (.string ⟨#[]⟩) (.slice A4 n4 d4) (.bool cl)
           rw [hW']
           exact ⟨_, A4, n4, d4, rfl, Lib.hid ⟨k4.thn kW (fun s hs => .inr (by have := k4.size; simp at hs; omega)), bW, ⟨((rd_notP h4.out.1 bz4).kp kW (by simp)).sub (by simp), h4.out.2⟩, Nat.le_refl _⟩⟩)
  case rest =>
    obtain ⟨gp, A5, n5, d5, hx9, hC⟩ := hcut
    rw [hx9]
    clear hx9 y4 z0 z1 z2 z3 HP9 HD hcl hrc
    obtain ⟨⟨x0, x1, x2, x3⟩, ⟨u0, u1, u2, u3⟩⟩ := bk4r hC.out.2.1
    obtain ⟨y4, z0, z1, z2, z3⟩ := HC.out _ hC.out.1
    have y2 : wc.cell? ⟨g1, 2, none⟩ = some (.int .i64 r.minor) := (hW.out.2.1.kp hC.out.1 (by simp)).cell 2
    have HB5 : Hid (nb = zs.length ∧ Rd wc [] B (zs.flatMap spV)) := Lib.hid ⟨hW.out.2.2.2.2.1, hW.out.2.2.2.2.2.kp hC.out.1 (by simp)⟩
    go_upto_region 4 with (go_at_call 57; ((refine HHd.out _ _ _ _ _ _ _ _ HB5.out hC.out.2.2.1 ?_); intro w6 k6; have HW6 : Hid (Bk w6 g1 24 [.string (S r.m), .string (S r.t), .int .i64 r.minor, .slice A r.fs.length c, .bool rc] ∧ Bk w6 g3 91 [.int .i64 0, .string ⟨#[]⟩, .slice none 0 0, .bool false] ∧ Bk w6 gp 91 [.int .i64 st, .string ⟨#[]⟩, .slice A5 n5 d5, .bool cl] ∧ (Rd w6 [] A5 (ps.flatMap ptV) ∧ ps.length = n5 ∧ n5 ≤ 21) ∧ Kp [] w w6) := Lib.hid ⟨(hW.out.2.1.kp hC.out.1 (by simp)).kp k6 (by simp), (hW.out.2.2.2.1.kp hC.out.1 (by simp)).kp k6 (by simp), hC.out.2.1.kp k6 (by simp), ⟨hC.out.2.2.1.1.kp k6 (by simp), hC.out.2.2.1.2⟩, (hW.out.1.trans hC.out.1).trans k6⟩; clear k6; obtain ⟨⟨x0, x1, x2, x3⟩, ⟨u0, u1, u2, u3⟩⟩ := bk4r HW6.out.2.2.1; have y0 : w6.cell? ⟨g1, 0, none⟩ = some (.string (S r.m)) := HW6.out.1.cell 0; obtain ⟨⟨q0, q1, q2, q3⟩, ⟨p0, p1, p2, p3⟩⟩ := bk4r HW6.out.2.1))
    have hn1 : g1 ≠ gp := by have := HG.out; have := hC.out.2.2.2; omega
    have hn2 : gp ≠ g1 := Ne.symm hn1
    have hn3 : g3 ≠ gp := by have := HG.out; have := hC.out.2.2.2; omega
    have hn4 : gp ≠ g3 := Ne.symm hn3
    cases only with
    | false =>
      go_wp2
      obtain ⟨W', hW', kF, bF, rF⟩ := plan_fin2 (L := S hd) (A := A5) (n := n5) (c := d5) (d := cl) HW6.out.2.2.2.2 (by have := HG.out; omega) (by have := HG.out; have := hC.out.2.2.2; omega) HW6.out.2.2.1 HW6.out.2.1 HW6.out.2.2.2.1.1
      rw [hW']
      obtain ⟨⟨f0, f1, f2, f3⟩, _⟩ := bk4r bF
      exact bodyPost_ret (v := .agg #[.int .i64 st, .string (S hd), .slice A5 n5 d5, .bool cl]) (by simp [results, Tryz.results59, go_sem, f0, f1, f2, f3]; try rfl) rfl (H.out A5 n5 d5 _ kF (Lib.hid ⟨rF, HW6.out.2.2.2.1.2⟩))
    | true =>
      go_wp2
      obtain ⟨W', hW', kF, bF⟩ := plan_fin3 (L := S hd) (d := cl) HW6.out.2.2.2.2 (by have := HG.out; omega) (by have := HG.out; have := hC.out.2.2.2; omega) HW6.out.2.2.1 HW6.out.2.1
      rw [hW']
      obtain ⟨⟨f0, f1, f2, f3⟩, _⟩ := bk4r bF
      exact bodyPost_ret (v := .agg #[.int .i64 st, .string (S hd), .slice none 0 0, .bool cl]) (by simp [results, Tryz.results59, go_sem, f0, f1, f2, f3]; try rfl) rfl (H.out none 0 0 _ kF (Lib.hid ⟨Rd.nil, rfl, by omega⟩))
end
end
/-! ### pantlerlaw28: the text of a plan; a file of a table; is a table more than is looked at. -/
section
open Go.RowKit Go.Shelf
set_option linter.unusedVariables false
set_option linter.unusedSimpArgs false
set_option maxRecDepth 100000
theorem txt_take {ps : List Pt} {k : Nat} {p : Pt} (hp : ps[k]? = some p) (f : Pt → List UInt8) : (ps.take (k + 1)).flatMap f = (ps.take k).flatMap f ++ f p := by
  rw [List.take_add_one, hp]; simp
section
variable {R : Ending → World → Prop} {w : World}
set_option maxHeartbeats 4000000 in
theorem text28_any (st : Int) (hd : List UInt8) (ps : List Pt) (cl : Bool) (s : List UInt8) {A : Option Addr} {n c : Nat} {len : Int} (hr : Rd w [] A (ps.flatMap ptV)) (hl : ps.length = n) (hn : n ≤ 21)
    (hok : ∀ p ∈ ps, inP len p ∧ okPt p) (hlen : len ≤ 35184372088832) (hh : hd.length ≤ 4000) (hs : s.length ≤ 9000) (h : ∀ w', Kp [] w w' → R (.returned (.string (S (txtP hd ps s)))) w') :
    Calls Tryz.prog 25 #[.agg #[.int .i64 st, .string (S hd), .slice A n c, .bool cl], .string (S s)] w R := by
  have H := Lib.hid h
  have HR := Lib.hid hr
  have HO := Lib.hid hok
  have HL := Lib.hid hl
  clear h hr hok hl
  go_enter Tryz.func25, Tryz.ntmps25
  go_upto_region 1 with (fail)
  refine gen_worldC (fun W => ∃ g, w.heap.size = g ∧ Hid (Kp [] w W ∧ Bk W g 31 [.int .i64 st, .string (S hd), .slice A n c, .bool cl])) ⟨_, rfl, Lib.hid ⟨(Kp.refl _ _).alloc _, (Bk.new' _ _ _).cast rfl⟩⟩ ?_
  rintro W ⟨g, hg, hW⟩
  rw [hg]
  clear hg
  have y1 : W.cell? ⟨g, 1, none⟩ = some (.string (S hd)) := hW.out.2.cell 1
  go_wp2
  clear y1
  go_loopw [5, 6] (fun ov iv wr => ∃ (k : Nat) (o : List UInt8), k ≤ n ∧ iv = .int .i64 k ∧ ov = .string (S o) ∧ o.length ≤ 4000 + k * 10000 ∧ Hid (o = hd ++ (ps.take k).flatMap (pcP s)) ∧ Hid (Kp [] w wr ∧ Bk wr g 31 [.int .i64 st, .string (S hd), .slice A n c, .bool cl])) (fun _ iv _ => n - (intOf iv).toNat)
  case atStart => exact ⟨0, hd, Nat.zero_le _, rfl, rfl, by omega, Lib.hid (by simp), hW⟩
  case round =>
    obtain ⟨k, o, hk, rfl, rfl, ho, heq, hr9⟩ := hrel
    have y2 : wr.cell? ⟨g, 2, none⟩ = some (.slice A n c) := hr9.out.2.cell 2
    by_cases hlt : k < n
    · obtain ⟨⟨pt, pf, pl⟩, hp⟩ : ∃ p, ps[k]? = some p := ⟨_, List.getElem?_eq_getElem (by have := HL.out; omega)⟩
      obtain ⟨b, off, rfl, _, _, hc⟩ := rd_at (HR.out.kp hr9.out.1 (by simp)) ptV_len (by omega) hp
      have z0 : wr.cell? ⟨b, off + k * 3, none⟩ = some (.string (S pt)) := hc 0 _ rfl
      have z1 : wr.cell? ⟨b, off + k * 3 + 1, none⟩ = some (.int .i64 pf) := hc 1 _ rfl
      have z2 : wr.cell? ⟨b, off + k * 3 + 2, none⟩ = some (.int .i64 pl) := hc 2 _ rfl
      obtain ⟨hin, hop⟩ := HO.out _ (List.mem_of_getElem? hp)
      unfold okPt at hop
      unfold inP at hin
      obtain ⟨o1, o2, o3⟩ := hop
      obtain ⟨i1, i2, i3⟩ := hin
      simp only at o1 o2 o3 i1 i2 i3
      have HK : Hid (Kp [] w (wr.alloc (.cells #[.string (S pt), .int .i64 pf, .int .i64 pl] 40)) ∧ Bk (wr.alloc (.cells #[.string (S pt), .int .i64 pf, .int .i64 pl] 40)) g 31 [.int .i64 st, .string (S hd), .slice (some ⟨b, off, none⟩) n c, .bool cl]) := Lib.hid ⟨hr9.out.1.alloc _, hr9.out.2.alloc _⟩
      have HT : Hid ((ps.take (k + 1)).flatMap (pcP s) = (ps.take k).flatMap (pcP s) ++ pcP s (pt, pf, pl)) := Lib.hid (txt_take hp _)
      clear hc hp hr9
      by_cases hpos : 0 < pl
      · obtain ⟨i4, rfl⟩ := i3 hpos
        clear i3
        obtain ⟨a, rfl⟩ : ∃ a : Nat, pf = a := ⟨pf.toNat, by omega⟩
        obtain ⟨e, rfl⟩ : ∃ e : Nat, pl = e := ⟨pl.toNat, by omega⟩
        have g3 : decide ((0 : Int) < e) = true := by simpa using hpos
        have g1 : decide ((0 : Int) ≤ a) = true := by simp
        have g4 : IntKind.i64.wrap ((a : Int) + e) = a + e := wrap_ok (by omega) (by omega)
        by_cases hfit : a + e ≤ s.length
        · have g5 : decide ((a : Int) + e ≤ s.length) = true := by simp; omega
          have HE : Hid (o ++ (s.take (a + e)).drop a = hd ++ (ps.take (k + 1)).flatMap (pcP s)) := Lib.hid (by
            rw [HT.out, heq.out]
            have : pcP s ([], (a : Int), (e : Int)) = (s.take (a + e)).drop a := by
              unfold pcP
              simp only
              rw [if_pos ⟨by omega, by omega, by omega⟩, slc_eq]
              rfl
            rw [this]; simp)
          have hz : ((s.take (a + e)).drop a).length ≤ 9000 := by rw [List.length_drop, List.length_take]; omega
          clear heq HT
          go_wp2
          exact ⟨⟨k + 1, _, by omega, by go_num, rfl, by (try simp only [List.length_append] at *); omega, HE, HK⟩, by simp [intOf]; omega⟩
        · have g5 : decide ((a : Int) + e ≤ s.length) = false := by simp; omega
          have HE : Hid (o = hd ++ (ps.take (k + 1)).flatMap (pcP s)) := Lib.hid (by
            rw [HT.out, heq.out]
            have : pcP s ([], (a : Int), (e : Int)) = [] := by
              unfold pcP
              simp only
              rw [if_neg (by omega)]
              simp
            rw [this]; simp)
          clear heq HT
          go_wp2
          exact ⟨⟨k + 1, _, by omega, by go_num, rfl, by (try simp only [List.length_append] at *); omega, HE, HK⟩, by simp [intOf]; omega⟩
      · have g3 : decide (0 < pl) = false := by simpa using hpos
        have HE : Hid (o ++ pt = hd ++ (ps.take (k + 1)).flatMap (pcP s)) := Lib.hid (by
          rw [HT.out, heq.out]
          have : pcP s (pt, pf, pl) = pt := by
            unfold pcP
            simp only
            rw [if_neg (by omega)]
            simp
          rw [this]; simp)
        clear heq HT
        go_wp2
        exact ⟨⟨k + 1, _, by omega, by go_num, rfl, by (try simp only [List.length_append] at *); omega, HE, HK⟩, by simp [intOf]; omega⟩
    · obtain rfl : k = n := by omega
      have e : o = txtP hd ps s := by rw [heq.out, List.take_of_length_le (by have := HL.out; omega)]; rfl
      rw [← e] at H
      clear heq e
      go_wp2
      exact H.out _ hr9.out.1
set_option maxHeartbeats 4000000 in
theorem find28_any (l : List Fl) (nm : List UInt8) {A : Option Addr} {n c : Nat} (hr : Rd w [] A (l.flatMap flC)) (hl : l.length = n) (hn : n ≤ 20)
    (h : ∀ w', Kp [] w w' → R (.returned (.tuple #[.agg #[.string (S (findL l nm).1.nm), .string (S (findL l nm).1.s), .int .i64 (findL l nm).1.v, .int .i64 (findL l nm).1.mt], .bool (findL l nm).2])) w') :
    Calls Tryz.prog 22 #[.slice A n c, .string (S nm)] w R := by
  have H := Lib.hid h
  have HR := Lib.hid hr
  have HL := Lib.hid hl
  clear h hr hl
  obtain ⟨b2, hb2⟩ : ∃ b2, (!nm.isEmpty) = b2 := ⟨_, rfl⟩
  go_enter Tryz.func22, Tryz.ntmps22
  go_upto_region 1 with (fail)
  refine gen_worldC (fun W => ∃ g, w.heap.size = g ∧ Hid (Kp [] w W ∧ Bk W g 58 [.string ⟨#[]⟩, .string ⟨#[]⟩, .int .i64 0, .int .i64 0])) ⟨_, rfl, Lib.hid ⟨(Kp.refl _ _).alloc _, (Bk.new' _ _ _).cast rfl⟩⟩ ?_
  rintro W ⟨g, hg, hW⟩
  rw [hg]
  have HG : Hid (w.heap.size = g) := Lib.hid hg
  clear hg
  go_wp2
  go_loopw [6] (fun iv wr => ∃ (k : Nat), k ≤ n ∧ iv = .int .i64 k ∧ Hid (findL (l.drop k) nm = findL l nm) ∧ wr = W) (fun iv _ => n - (intOf iv).toNat)
  case atStart => exact ⟨0, Nat.zero_le _, rfl, Lib.hid (by simp), rfl⟩
  case round =>
    obtain ⟨k, hk, rfl, hd, rfl⟩ := hrel
    obtain ⟨⟨x0, x1, x2, x3⟩, ⟨y0, y1, y2, y3⟩⟩ := bk4r hW.out.2
    by_cases hlt : k < n
    · obtain ⟨⟨fn, fs, fv, fm⟩, hp⟩ : ∃ p, l[k]? = some p := ⟨_, List.getElem?_eq_getElem (by have := HL.out; omega)⟩
      obtain ⟨b, off, rfl, _, _, hc⟩ := rd_at (HR.out.kp hW.out.1 (by simp)) flC_len (by omega) hp
      have z0 : wr.cell? ⟨b, off + k * 4, none⟩ = some (.string (S fn)) := hc 0 _ rfl
      have z1 : wr.cell? ⟨b, off + k * 4 + 1, none⟩ = some (.string (S fs)) := hc 1 _ rfl
      have z2 : wr.cell? ⟨b, off + k * 4 + 2, none⟩ = some (.int .i64 fv) := hc 2 _ rfl
      have z3 : wr.cell? ⟨b, off + k * 4 + 3, none⟩ = some (.int .i64 fm) := hc 3 _ rfl
      obtain ⟨b1, hb1⟩ : ∃ b1, (fn == nm) = b1 := ⟨_, rfl⟩
      have hhit : flHit ⟨fn, fs, fv, fm⟩ nm = (b1 && b2) := by unfold flHit; rw [hb1, ← hb2]; cases nm <;> rfl
      have HN : Hid ((b1 && b2) = false → findL (l.drop (k + 1)) nm = findL l nm) := Lib.hid (fun e => findL_no hp hd.out (by rw [hhit, e]))
      have HY : Hid ((b1 && b2) = true → findL l nm = (⟨fn, fs, fv, fm⟩, true)) := Lib.hid (fun e => findL_yes hp hd.out (by rw [hhit, e]))
      clear hc hp hd hhit
      cases b1 with
      | false =>
        go_wp2
        exact ⟨⟨k + 1, by omega, by go_num, Lib.hid (HN.out rfl), by trivial⟩, by simp [intOf]; omega⟩
      | true =>
        cases b2 with
        | false =>
          go_wp2
          exact ⟨⟨k + 1, by omega, by go_num, Lib.hid (HN.out rfl), by trivial⟩, by simp [intOf]; omega⟩
        | true =>
          have e := HY.out rfl
          go_wp2
          obtain ⟨W', hW', kW, bW⟩ := put4 hW.out.2 (.string (S fn)) (.string (S fs)) (.int .i64 fv) (.int .i64 fm)
          obtain ⟨⟨v0, v1, v2, v3⟩, _⟩ := bk4r bW
          rw [e] at H
          have kF : Kp [] w W' := hW.out.1.thn kW (fun s hs => .inr (by have := HG.out; simp at hs; omega))
          first
          | (rw [hW']; exact bodyPost_ret (v := .tuple #[.agg #[.string (S fn), .string (S fs), .int .i64 fv, .int .i64 fm], .bool true]) (by simp [results, Tryz.results22, go_sem, v0, v1, v2, v3]) rfl (H.out _ kF))
          | skip
    · obtain rfl : k = n := by omega
      have e : findL l nm = (noFl, false) := by rw [← hd.out, List.drop_of_length_le (by have := HL.out; omega)]; rfl
      rw [e] at H
      clear hd e
      go_wp2
      obtain ⟨W', hW', kW, bW⟩ := put4 hW.out.2 (.string ⟨#[]⟩) (.string ⟨#[]⟩) (.int .i64 0) (.int .i64 0)
      obtain ⟨⟨v0, v1, v2, v3⟩, _⟩ := bk4r bW
      have kF : Kp [] w W' := hW.out.1.thn kW (fun s hs => .inr (by have := HG.out; simp at hs; omega))
      first
      | (rw [hW']; exact bodyPost_ret (v := .tuple #[.agg #[.string ⟨#[]⟩, .string ⟨#[]⟩, .int .i64 0, .int .i64 0], .bool false]) (by simp [results, Tryz.results22, go_sem, v0, v1, v2, v3]) rfl (H.out _ kF))
      | skip
set_option maxHeartbeats 4000000 in
theorem far28_any (l : List Fl) {A : Option Addr} {n c : Nat} (hr : Rd w [] A (l.flatMap flC)) (hl : l.length = n)
    (h : ∀ b, (b = false → n ≤ 20 ∧ ∀ f ∈ l, f.s.length ≤ 9000 ∧ 0 ≤ f.v ∧ 0 ≤ f.mt) → R (.returned (.bool b)) w) :
    Calls Tryz.prog 18 #[.slice A n c] w R := by
  have H := Lib.hid h
  have HR := Lib.hid hr
  have HL := Lib.hid hl
  clear h hr hl
  go_enter Tryz.func18, Tryz.ntmps18
  by_cases hn : n ≤ 20
  · have f0 : decide ((20 : Int) < n) = false := by simp; omega
    go_wp2
    go_loopw [3] (fun iv wr => ∃ (k : Nat), k ≤ n ∧ iv = .int .i64 k ∧ Hid (∀ f ∈ l.take k, f.s.length ≤ 9000 ∧ 0 ≤ f.v ∧ 0 ≤ f.mt) ∧ wr = w) (fun iv _ => n - (intOf iv).toNat)
    case atStart => exact ⟨0, Nat.zero_le _, rfl, Lib.hid (by simp), rfl⟩
    case round =>
      obtain ⟨k, hk, rfl, hd, rfl⟩ := hrel
      by_cases hlt : k < n
      · obtain ⟨⟨fn, fs, fv, fm⟩, hp⟩ : ∃ p, l[k]? = some p := ⟨_, List.getElem?_eq_getElem (by have := HL.out; omega)⟩
        obtain ⟨b, off, rfl, _, _, hc⟩ := rd_at HR.out flC_len (by omega) hp
        have z1 : wr.cell? ⟨b, off + k * 4 + 1, none⟩ = some (.string (S fs)) := hc 1 _ rfl
        have z2 : wr.cell? ⟨b, off + k * 4 + 2, none⟩ = some (.int .i64 fv) := hc 2 _ rfl
        have z3 : wr.cell? ⟨b, off + k * 4 + 3, none⟩ = some (.int .i64 fm) := hc 3 _ rfl
        obtain ⟨c1, d1⟩ : ∃ c, decide ((9000 : Int) < fs.length) = c := ⟨_, rfl⟩
        obtain ⟨c2, d2⟩ : ∃ c, decide (fv < 0) = c := ⟨_, rfl⟩
        obtain ⟨c3, d3⟩ : ∃ c, decide (fm < 0) = c := ⟨_, rfl⟩
        have HS : Hid (c1 = false → c2 = false → c3 = false → ∀ f ∈ l.take (k + 1), f.s.length ≤ 9000 ∧ 0 ≤ f.v ∧ 0 ≤ f.mt) := Lib.hid (fun e1 e2 e3 f hf => by
          rw [List.take_add_one, hp] at hf
          rcases List.mem_append.1 hf with hf | hf
          · exact hd.out f hf
          · simp at hf
            subst hf
            subst e1; subst e2; subst e3
            simp at d1 d2 d3
            simp only
            omega)
        clear hc hp hd
        cases c1 with
        | true =>
          go_wp2
          exact H.out true (fun e => by cases e)
        | false =>
          cases c2 with
          | true =>
            go_wp2
            exact H.out true (fun e => by cases e)
          | false =>
            cases c3 with
            | true =>
              go_wp2
              exact H.out true (fun e => by cases e)
            | false =>
              go_wp2
              exact ⟨⟨k + 1, by omega, by go_num, Lib.hid (HS.out rfl rfl rfl), by trivial⟩, by simp [intOf]; omega⟩
      · obtain rfl : k = n := by omega
        have hd2 := hd.out
        rw [List.take_of_length_le (by have := HL.out; omega)] at hd2
        have HD := Lib.hid hd2
        clear hd hd2
        go_wp2
        exact H.out false (fun _ => ⟨hn, HD.out⟩)
  · have f0 : decide ((20 : Int) < n) = true := by simp; omega
    go_wp2
    exact H.out true (fun e => by cases e)
end
end
/-! ### The document's Text of a plan. -/
section
open Go.RowKit Go.Shelf
set_option linter.unusedVariables false
set_option linter.unusedSimpArgs false
set_option maxRecDepth 100000
section
variable {R : Ending → World → Prop} {w : World}
set_option maxHeartbeats 4000000 in
theorem rtext27_any (st : Int) (hd : List UInt8) (ps : List Pt) (cl : Bool) (s : List UInt8) {A : Option Addr} {n c : Nat} (hr : Rd w [] A (ps.flatMap ptV)) (hl : ps.length = n) (hn : n ≤ 21)
    (hok : ∀ p ∈ ps, inP s.length p ∧ okPt p) (hh : hd.length ≤ 4000) (hs : s.length ≤ 9000) (h : ∀ w', Kp [] w w' → R (.returned (.string (S (txtP hd ps s)))) w') :
    Calls Tryz.prog 38 #[.agg #[.int .i64 st, .string (S hd), .slice A n c, .bool cl], .string (S s)] w R := by
  have H := Lib.hid h
  have HR := Lib.hid hr
  have HO := Lib.hid hok
  have HL := Lib.hid hl
  clear h hr hok hl
  go_enter Tryz.func38, Tryz.ntmps38
  go_upto_region 1 with (fail)
  refine gen_worldC (fun W => ∃ g, w.heap.size = g ∧ Hid (Kp [] w W ∧ Bk W g 91 [.int .i64 st, .string (S hd), .slice A n c, .bool cl])) ⟨_, rfl, Lib.hid ⟨(Kp.refl _ _).alloc _, (Bk.new' _ _ _).cast rfl⟩⟩ ?_
  rintro W ⟨g, hg, hW⟩
  rw [hg]
  clear hg
  have y1 : W.cell? ⟨g, 1, none⟩ = some (.string (S hd)) := hW.out.2.cell 1
  go_wp2
  clear y1
  go_loopw [5, 6] (fun ov iv wr => ∃ (k : Nat) (o : List UInt8), k ≤ n ∧ iv = .int .i64 k ∧ ov = .string (S o) ∧ o.length ≤ 4000 + k * 10000 ∧ Hid (o = hd ++ (ps.take k).flatMap (pcP s)) ∧ Hid (Kp [] w wr ∧ Bk wr g 91 [.int .i64 st, .string (S hd), .slice A n c, .bool cl])) (fun _ iv _ => n - (intOf iv).toNat)
  case atStart => exact ⟨0, hd, Nat.zero_le _, rfl, rfl, by omega, Lib.hid (by simp), hW⟩
  case round =>
    obtain ⟨k, o, hk, rfl, rfl, ho, heq, hr9⟩ := hrel
    have y2 : wr.cell? ⟨g, 2, none⟩ = some (.slice A n c) := hr9.out.2.cell 2
    by_cases hlt : k < n
    · obtain ⟨⟨pt, pf, pl⟩, hp⟩ : ∃ p, ps[k]? = some p := ⟨_, List.getElem?_eq_getElem (by have := HL.out; omega)⟩
      obtain ⟨b, off, rfl, _, _, hc⟩ := rd_at (HR.out.kp hr9.out.1 (by simp)) ptV_len (by omega) hp
      have z0 : wr.cell? ⟨b, off + k * 3, none⟩ = some (.string (S pt)) := hc 0 _ rfl
      have z1 : wr.cell? ⟨b, off + k * 3 + 1, none⟩ = some (.int .i64 pf) := hc 1 _ rfl
      have z2 : wr.cell? ⟨b, off + k * 3 + 2, none⟩ = some (.int .i64 pl) := hc 2 _ rfl
      obtain ⟨hin, hop⟩ := HO.out _ (List.mem_of_getElem? hp)
      unfold okPt at hop
      unfold inP at hin
      obtain ⟨o1, o2, o3⟩ := hop
      obtain ⟨i1, i2, i3⟩ := hin
      simp only at o1 o2 o3 i1 i2 i3
      have HT : Hid ((ps.take (k + 1)).flatMap (pcP s) = (ps.take k).flatMap (pcP s) ++ pcP s (pt, pf, pl)) := Lib.hid (txt_take hp _)
      have HKr := Lib.hid hr9.out
      clear hc hp hr9
      by_cases hpos : 0 < pl
      · obtain ⟨i4, rfl⟩ := i3 hpos
        clear i3
        obtain ⟨a, rfl⟩ : ∃ a : Nat, pf = a := ⟨pf.toNat, by omega⟩
        obtain ⟨e, rfl⟩ : ∃ e : Nat, pl = e := ⟨pl.toNat, by omega⟩
        have g3 : decide ((0 : Int) < e) = true := by simpa using hpos
        have g4 : IntKind.i64.wrap ((a : Int) + e) = a + e := wrap_ok (by omega) (by omega)
        have hfit : a + e ≤ s.length := by omega
        have HE : Hid (o ++ (s.take (a + e)).drop a = hd ++ (ps.take (k + 1)).flatMap (pcP s)) := Lib.hid (by
          rw [HT.out, heq.out]
          have : pcP s ([], (a : Int), (e : Int)) = (s.take (a + e)).drop a := by
            unfold pcP
            simp only
            rw [if_pos ⟨by omega, by omega, by omega⟩, slc_eq]
            rfl
          rw [this]; simp)
        have hz : ((s.take (a + e)).drop a).length ≤ 9000 := by rw [List.length_drop, List.length_take]; omega
        clear heq HT
        go_upto_region 7 with (fail)
        go_quiet (fail)
        go_wp2
        exact ⟨⟨k + 1, _, by omega, by go_num, rfl, by (try simp only [List.length_append] at *); omega, HE, Lib.hid ⟨HKr.out.1.drewN _, HKr.out.2.drewN _⟩⟩, by simp [intOf]; omega⟩
      · have g3 : decide (0 < pl) = false := by simpa using hpos
        have HE : Hid (o ++ pt = hd ++ (ps.take (k + 1)).flatMap (pcP s)) := Lib.hid (by
          rw [HT.out, heq.out]
          have : pcP s (pt, pf, pl) = pt := by
            unfold pcP
            simp only
            rw [if_neg (by omega)]
            simp
          rw [this]; simp)
        clear heq HT
        go_wp2
        exact ⟨⟨k + 1, _, by omega, by go_num, rfl, by simp only [List.length_append] at *; omega, HE, HKr⟩, by simp [intOf]; omega⟩
    · obtain rfl : k = n := by omega
      have e : o = txtP hd ps s := by rw [heq.out, List.take_of_length_le (by have := HL.out; omega)]; rfl
      rw [← e] at H
      clear heq e
      go_wp2
      exact H.out _ hr9.out.1
end
end
/-! ### The document's Kind; how long names and kinds are. -/
section
open Go.RowKit
set_option linter.unusedVariables false
set_option maxRecDepth 100000

theorem kd_drop {l : List UInt8} {k : Nat} (h : k < l.length) : (l.take (k + 1)).drop k = [l[k]] := by
  rw [List.drop_take, Nat.add_sub_cancel_left, List.drop_eq_getElem_cons h]
  rfl
theorem lst_snoc (c x : UInt8) (l : List UInt8) : lst c (l ++ [x]) = if x = c then [] else lst c l ++ [x] := by
  unfold lst
  rw [List.reverse_append, List.reverse_singleton, List.singleton_append, List.takeWhile_cons]
  by_cases h : x = c
  · subst h; simp
  · have : (x == c) = false := by simpa using h
    simp [this, h]
/-- Behind the last stroke of t: is there a dot, and what stands behind the last one. -/
def kst (t : List UInt8) : Bool × List UInt8 := ((lst 47 t).contains 46, lst 46 (lst 47 t))
theorem kst_snoc (t : List UInt8) (x : UInt8) : kst (t ++ [x]) = if x = 47 then (false, []) else if x = 46 then (true, []) else ((kst t).1, (kst t).2 ++ [x]) := by
  unfold kst
  rw [lst_snoc]
  by_cases h : x = 47
  · subst h; rfl
  · rw [if_neg h, if_neg h, lst_snoc]
    by_cases h2 : x = 46
    · subst h2; simp
    · rw [if_neg h2, if_neg h2]
      have : (x == 46) = false := by simpa using h2
      have h3 : ¬ 46 = x := Ne.symm h2
      simp [h3]
theorem kindL_kst (l : List UInt8) : kindL l = if (kst l).1 then extK (kst l).2 else octS := rfl
theorem kst_len (t : List UInt8) : (kst t).2.length ≤ t.length := Nat.le_trans (lst_len _ _) (lst_len _ _)
set_option maxHeartbeats 2000000 in
theorem rkind_any {R : Ending → World → Prop} (l : List UInt8) (w : World) (h0 : l.length ≤ 1000000) (h : R (.returned (.string (S (kindL l)))) w) : Calls Tryz.prog 24 #[.string (S l)] w R := by
  have H := Lib.hid h
  clear h
  go_enter Tryz.func24, Tryz.ntmps24
  go_wp2
  go_loop [3, 4, 5] (fun end_ dot i => ∃ (k : Nat) (q : Bool × List UInt8), end_ = .string (S q.2) ∧ dot = .bool q.1 ∧ i = .int .i64 k ∧ k ≤ l.length ∧ q.2.length ≤ k ∧ Hid (kst (l.take k) = q)) (fun _ _ i => l.length - (intOf i).toNat)
  case atStart => exact ⟨0, (false, []), rfl, rfl, rfl, Nat.zero_le _, Nat.le_refl _, Lib.hid rfl⟩
  case round =>
    obtain ⟨k, ⟨d, e⟩, rfl, rfl, rfl, hk, he, hq⟩ := hrel
    simp only at he hq
    by_cases hlt : k < l.length
    · obtain ⟨x, hx⟩ : ∃ x, l[k]'hlt = x := ⟨_, rfl⟩
      have hs : kst (l.take (k + 1)) = if x = 47 then (false, []) else if x = 46 then (true, []) else (d, e ++ [x]) := by
        rw [List.take_succ_eq_append_getElem hlt, hx, kst_snoc, hq.out]
      have hdt : (l.take (k + 1)).drop k = [x] := by rw [kd_drop hlt, hx]
      by_cases h47 : x = 47
      · have b : ((x.toNat : Int) == 47) = true := (u8_beq x 47).trans (by simpa using h47)
        rw [if_pos h47] at hs
        have HS := Lib.hid hs
        clear hs h47 hq
        go_wp2
        go_round
        case rel => exact ⟨k + 1, (false, []), rfl, rfl, by go_num, by omega, Nat.zero_le _, HS⟩
        case measure => simp [intOf]; omega
      · have b : ((x.toNat : Int) == 47) = false := (u8_beq x 47).trans (by simpa using h47)
        rw [if_neg h47] at hs
        by_cases h46 : x = 46
        · have b2 : ((x.toNat : Int) == 46) = true := (u8_beq x 46).trans (by simpa using h46)
          rw [if_pos h46] at hs
          have HS := Lib.hid hs
          clear hs h47 h46 hq
          go_wp2
          go_round
          case rel => exact ⟨k + 1, (true, []), rfl, rfl, by go_num, by omega, Nat.zero_le _, HS⟩
          case measure => simp [intOf]; omega
        · have b2 : ((x.toNat : Int) == 46) = false := (u8_beq x 46).trans (by simpa using h46)
          rw [if_neg h46] at hs
          have HS := Lib.hid hs
          clear hs h47 h46 hq
          go_wp2
          go_round
          case rel => exact ⟨k + 1, (d, e ++ [x]), rfl, rfl, by go_num, by omega, by simp; omega, HS⟩
          case measure => simp [intOf]; omega
    · have hl : l.take k = l := List.take_of_length_le (by omega)
      have HK : Hid (kindL l = if d then extK e else octS) := by
        refine Lib.hid ?_
        have := hq.out
        rw [hl] at this
        rw [kindL_kst, this]
      clear hq hl
      cases d
      · go_wp2
        exact rcast H.out (congrArg (fun x => Value.string (S x)) HK.out)
      · generalize kindL l = res at *
        by_cases c0 : e = [104, 116, 109, 108]
        · subst c0
          have := HK.out
          subst this
          go_wp2
          exact H.out
        by_cases c1 : e = [116, 120, 116]
        · subst c1
          have := HK.out
          subst this
          go_wp2
          exact H.out
        by_cases c2 : e = [99, 115, 115]
        · subst c2
          have := HK.out
          subst this
          go_wp2
          exact H.out
        by_cases c3 : e = [106, 115]
        · subst c3
          have := HK.out
          subst this
          go_wp2
          exact H.out
        by_cases c4 : e = [112, 110, 103]
        · subst c4
          have := HK.out
          subst this
          go_wp2
          exact H.out
        by_cases c5 : e = [106, 115, 111, 110]
        · subst c5
          have := HK.out
          subst this
          go_wp2
          exact H.out
        have d0 : (e == [104, 116, 109, 108]) = false := by simpa using c0
        have d1 : (e == [116, 120, 116]) = false := by simpa using c1
        have d2 : (e == [99, 115, 115]) = false := by simpa using c2
        have d3 : (e == [106, 115]) = false := by simpa using c3
        have d4 : (e == [112, 110, 103]) = false := by simpa using c4
        have d5 : (e == [106, 115, 111, 110]) = false := by simpa using c5
        have HX : Hid (res = octS) := by
          have := HK.out
          rw [if_pos rfl] at this
          unfold extK at this
          rw [if_neg c0, if_neg c2, if_neg c1, if_neg c3, if_neg c4, if_neg c5] at this
          exact Lib.hid this
        clear c0 c1 c2 c3 c4 c5
        go_wp2
        have := HX.out
        subst this
        exact H.out
theorem kindL_len (l : List UInt8) : (kindL l).length ≤ 300 := by
  unfold kindL
  split
  · unfold extK
    repeat' split
    all_goals decide
  · decide
theorem dec_len : ∀ (k : Nat) (l n : List UInt8), l.length ≤ k → dec l = some n → n.length ≤ l.length
  | 0, l, n, h, e => by
    have : l = [] := List.length_eq_zero_iff.1 (by omega)
    subst this
    rw [dec] at e
    injection e with e; subst e; simp
  | k + 1, [], n, h, e => by
    rw [dec] at e
    injection e with e; subst e; simp
  | k + 1, c :: r, n, h, e => by
    by_cases hc : c.toNat = 37
    · by_cases hr : r.length < 2
      · rw [dec_short hc hr] at e; cases e
      · match r, h, e, hr with
        | [], _, _, hr => simp at hr
        | [a], _, _, hr => simp at hr
        | a :: b :: r, h, e, _ =>
          rw [dec_hex r hc] at e
          split at e
          · cases e
          · cases hd : dec r with
            | none => rw [hd] at e; cases e
            | some m =>
              rw [hd] at e
              have := dec_len k r m (by simp at h; omega) hd
              simp at e
              subst e
              simp
              omega
    · rw [dec_ne r hc] at e
      cases hd : dec r with
      | none => rw [hd] at e; cases e
      | some m =>
        rw [hd] at e
        have := dec_len k r m (by simp at h; omega) hd
        simp at e
        subst e
        simp
        omega
theorem bef_le (c : UInt8) (l : List UInt8) : (bef c l).length ≤ l.length := by
  induction l with
  | nil => simp [bef]
  | cons x l ih =>
    unfold bef
    split
    · simp
    · simp only [List.length_cons]; omega
theorem ofL_len (l : List UInt8) : (ofL l).1.length ≤ 128 := by
  unfold ofL
  split
  · simp
  · split
    · simp
    · split
      · decide
      · split
        · simp
        · rename_i n hd
          have h1 := dec_len _ _ n (Nat.le_refl _) hd
          have h2 := bef_le 63 l
          rw [List.length_drop] at h1
          split
          · simp only; omega
          · simp
theorem nxtOp_len {b : List UInt8} {ov : Bool} {a : AskP} (h : nxtOp b ov = some a) : a.1.length ≤ 128 := by
  unfold nxtOp at h
  split at h
  · cases h
  · injection h with h
    subst h
    simp only
    split
    · exact ofL_len _
    · simp
end
/-! ### ServePipes: what a plan tells is short; a parser beside a talk; one round of the answers in plain words. -/
section
open Go.RowKit Go.Shelf
set_option linter.unusedVariables false
set_option linter.unusedSimpArgs false
set_option maxRecDepth 100000
theorem plan_short (a : AskP) (there : Bool) (v mt len : Int) (kd : List UInt8) (now : Int) (hkd : kd.length ≤ 300) (hv : 0 ≤ v ∧ v ≤ 9223372036854775807) (hmt : 0 ≤ mt ∧ mt ≤ 9223372036854775807) (hlen : 0 ≤ len ∧ len ≤ 35184372088832) :
    (planT a there v mt len kd now).2.1.length ≤ 4000 ∧ ∃ ln, ln ≤ 35184372088832 ∧ ∀ p ∈ (planT a there v mt len kd now).2.2.1, inP ln p ∧ okPt p := by
  unfold planT
  split
  · refine ⟨ofH_len _ _ v mt len kd now hkd hv hmt hlen, len, hlen.2, ?_⟩
    intro p hp
    simp only at hp
    unfold ofP at hp
    split at hp
    · cases hp
    · have hcc := choose_ok a.2.2 (there && !(a.1 == [])) v mt len
      have hst := choose_st a.2.2 (there && !(a.1 == [])) v mt len
      exact ⟨parts_in hlen.1 hcc.2.1 p hp, parts_ok hst.1 hst.2 hlen.1 hlen.2 hkd (fun z hz => okZ_sp hlen.2 (hcc.2.1 z hz)) p hp⟩
  · exact ⟨wrH_len _ _, 0, by decide, (wr_parts _).1⟩
/-- A table that is looked at. -/
def tblOk (l : List Fl) : Prop := ∀ f ∈ l, f.s.length ≤ 9000 ∧ (0 ≤ f.v ∧ f.v ≤ 9223372036854775807) ∧ (0 ≤ f.mt ∧ f.mt ≤ 9223372036854775807)
theorem tbl_find {l : List Fl} (h : tblOk l) (nm : List UInt8) : (findL l nm).1.s.length ≤ 9000 ∧ (0 ≤ (findL l nm).1.v ∧ (findL l nm).1.v ≤ 9223372036854775807) ∧ (0 ≤ (findL l nm).1.mt ∧ (findL l nm).1.mt ≤ 9223372036854775807) := by
  rcases findL_in (l := l) (nm := nm) with e | e
  · rw [e]; decide
  · exact h _ e
/-- One round: nothing more comes. -/
theorem rnd_none (l : List Fl) (now : Int) {b : List UInt8} (hb : b.length ≤ 900) (h : nxtOp b false = none) : nextF b = (noReq, -1, b, false) ∧ ansF l now 100 b = ([], false, b.length) := by
  rcases next_cases (b := b) (by omega) with ⟨e, _⟩ | ⟨st, hst, e⟩ | ⟨r, rest, e, hl⟩
  · refine ⟨e, ?_⟩
    rw [ansF, nxtOp_more e, e]
  · obtain ⟨a, ha, _⟩ := nxtOp_bad hst e
    rw [ha] at h; cases h
  · rw [nxtOp_good e] at h; cases h
/-- One round: an ask. -/
theorem rnd_some (l : List Fl) (now : Int) {b : List UInt8} {a : AskP} (hb : b.length ≤ 900) (h : nxtOp b false = some a) :
    (nextF b).2.2.1.length ≤ b.length ∧ (endsB a = true → ansF l now 100 b = (ansT l now a, true, (nextF b).2.2.1.length)) ∧
    (endsB a = false → (nextF b).2.2.2 = false ∧ (nextF b).2.2.1.length + 12 ≤ b.length ∧ ansF l now 100 b = (ansT l now a ++ (ansF l now 100 (nextF b).2.2.1).1, (ansF l now 100 (nextF b).2.2.1).2)) := by
  rcases next_cases (b := b) (by omega) with ⟨e, _⟩ | ⟨st, hst, e⟩ | ⟨r, rest, e, hl⟩
  · rw [nxtOp_more e] at h; cases h
  · obtain ⟨a', ha, he⟩ := nxtOp_bad hst e
    rw [ha] at h
    injection h with h
    subst h
    refine ⟨by rw [e]; simp, fun _ => by rw [ansF, ha]; simp only; rw [if_pos he], fun h2 => ?_⟩
    rw [he] at h2; cases h2
  · have h12 := next_len12 (by omega) e
    have ha := nxtOp_good e
    rw [ha] at h
    injection h with h
    subst h
    refine ⟨by rw [e]; simp only; omega, fun he => by rw [ansF, ha]; simp only; rw [if_pos he], fun he => ?_⟩
    rw [e]
    refine ⟨rfl, h12, ?_⟩
    rw [ansF, ha, e]
    simp only
    rw [if_neg (by simp [he]), ansF_fuel l now 99 100 rest (by omega) (by omega) (by omega)]
/-- A block of a parser's is no row of fields. -/
theorem rd_notPs {w : World} {N : List Nat} {A : Option Addr} {l : List Fd} {g tt : Nat} {s : ByteArray} {d : Bool} (r : Rd w N A (l.flatMap fldC)) (b : Bk w g tt [.string s, .bool d]) : Rd w (g :: N) A (l.flatMap fldC) := fun hx => by
  obtain ⟨b0, off, rfl, hN, hb, hc⟩ := r hx
  refine ⟨b0, off, rfl, ?_, hb, hc⟩
  intro hm
  rcases List.mem_cons.1 hm with rfl | hm
  · cases l with
    | nil => exact hx rfl
    | cons p l =>
      have c0 := hc 0 _ rfl
      have c1 := hc 1 _ rfl
      rw [b.cell] at c0 c1
      rcases off with _ | _ | off <;> simp at c0 c1
  · exact hN hm
theorem bk_tt {w : World} {g t t' : Nat} {cs cs' : List Value} (h : Bk w g t cs) (h' : Bk w g t' cs') : cs = cs' := by
  unfold Bk at h h'
  rw [h] at h'
  injection h' with h'
  injection h' with h'
  have := congrArg Array.toList h'
  simpa using this
/-- An open ask's block is no parser's. -/
theorem OpA.par {w : World} {N : List Nat} {op : Option AskP} {oa : Option Addr} {g : Nat} {b : List UInt8} {ov : Bool} (h : OpA w N op oa) (p : Ps w g b ov) : OpA w (g :: N) op oa := by
  unfold OpA at h ⊢
  cases op with
  | none => exact h
  | some a =>
    obtain ⟨ag, A, c, e, hn, hb, hr, hc⟩ := h
    refine ⟨ag, A, c, e, ?_, hb, rd_notPs hr p, hc⟩
    intro hm
    rcases List.mem_cons.1 hm with rfl | hm
    · have := bk_tt hb p
      unfold askC PsC at this
      simp at this
    · exact hn hm
theorem OpA.less {w : World} {N N' : List Nat} {op : Option AskP} {oa : Option Addr} (h : OpA w N op oa) (hs : ∀ x ∈ N', x ∈ N) : OpA w N' op oa := by
  unfold OpA at h ⊢
  cases op with
  | none => exact h
  | some a =>
    obtain ⟨ag, A, c, e, hn, hb, hr, hc⟩ := h
    exact ⟨ag, A, c, e, fun hm => hn (hs _ hm), hb, hr.sub hs, hc⟩
/-- The talk stays where the law's own parser goes on. -/
theorem TB.par {w0 w w' : World} {tg pg qg : Nat} {s : TkS} {b : List UInt8} {ov : Bool} (h : TB w0 w tg pg s) (p : Ps w qg b ov) (hq : w0.heap.size ≤ qg) (n1 : qg ≠ tg) (n2 : qg ≠ pg) (k : Kp [qg] w w') : TB w0 w' tg pg s := by
  obtain ⟨oa, b1, o1⟩ := h.tk.tk
  refine ⟨h.kp.thn k (fun x hx => .inr (by simp at hx; omega)), h.gt, h.gp, ⟨h.tk.ne, Bk.kp h.tk.ps k (by simp; omega), oa, b1.kp k (by simp; omega), ?_⟩⟩
  exact ((o1.par p).kp k (by simp)).less (by simp)
end
end Go.Proofs.YtnmafahbdfilcaaGreatDoor
