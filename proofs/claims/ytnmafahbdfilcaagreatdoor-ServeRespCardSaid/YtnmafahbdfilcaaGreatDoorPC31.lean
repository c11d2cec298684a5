/- The document's Check and Ranged. The document's Length and Head of any answer. The document's Ranged. -/
import Derived.Test.YtnmafahbdfilcaaGreatDoorPC25
import Derived.Test.YtnmafahbdfilcaaGreatDoorPC30
import Derived.Test.YtnmafahbdfilcaaGreatDoorPC20
import Derived.Deep.CutBlock
import Derived.Deep.DeepCutAuto
import Derived.Test.YtnmafahbdfilcaaGreatDoorPC24
import Derived.Test.YtnmafahbdfilcaaGreatDoorPC29
namespace Go.Proofs.YtnmafahbdfilcaaGreatDoor
/-! ### The document's Check and Ranged. -/
section
open Go.RowKit Go.Shelf
set_option linter.unusedVariables false
set_option linter.unusedSimpArgs false
set_option maxRecDepth 100000
theorem getF_pos (fs : List Fd) (nm : List UInt8) : (getF fs nm).2 = decide (0 < (valsF fs nm).length) := by
  unfold getF
  cases valsF fs nm <;> simp
theorem join_first (v : List UInt8) (vs : List (List UInt8)) (sep : List UInt8) : ∃ t, Lib.join (v :: vs) sep = v ++ t ∧ (v = [] → t = [] ∨ ∃ t', t = sep ++ t') := by
  cases vs with
  | nil => exact ⟨[], by rw [Lib.join_one]; simp, fun _ => .inl rfl⟩
  | cons x vs => exact ⟨sep ++ Lib.join (x :: vs) sep, by first | rfl | simp [Lib.join], fun _ => .inr ⟨_, rfl⟩⟩
/-- A date's first value is no empty one. -/
theorem par_first {fs : List Fd} {nm : List UInt8} (h2 : (getF fs nm).2 = true) (hp : parOk (allF fs nm)) : ((getF fs nm).1 == []) = false := by
  cases hb : ((getF fs nm).1 == []) with
  | false => rfl
  | true =>
    exfalso
    have he : (getF fs nm).1 = [] := by simpa using hb
    unfold getF at h2 he
    cases hv : valsF fs nm with
    | nil => rw [hv] at h2; cases h2
    | cons v vs =>
      rw [hv] at he
      simp only at he
      subst he
      obtain ⟨h29, hd, ht⟩ := hp
      unfold allF at h29 ht
      rw [hv] at h29 ht
      obtain ⟨t, e1, e2⟩ := join_first [] vs [44, 32]
      rw [e1] at h29 ht
      have hab := (told_ab ht (by have := hd.2.2; unfold allF at this; rw [hv, e1] at this; unfold parN at ht; rw [e1] at *; exact this)).2
      have hm := List.mem_of_getElem? hab
      rcases e2 rfl with e | ⟨t', e⟩
      · subst e; simp at h29
      · subst e
        simp only [wdN, List.mem_cons, List.not_mem_nil, or_false] at hm
        simp at hm
theorem date_doc_yes {fs : List Fd} {nm : List UInt8} (hp : parOk (allF fs nm)) : (dateM fs nm).2 = ((getF fs nm).2 && true) ∧ (((getF fs nm).2 && true) = true → (dateM fs nm).1 = parN (allF fs nm)) := by
  unfold dateM
  cases h : (getF fs nm).2 with
  | false => rw [if_neg (by simp)]; simp
  | true =>
    rw [if_pos ⟨rfl, hp⟩, par_first h hp]
    simp
theorem date_doc_no {fs : List Fd} {nm : List UInt8} (hp : ¬ parOk (allF fs nm)) : (dateM fs nm).2 = ((getF fs nm).2 && false) ∧ (((getF fs nm).2 && false) = true → (dateM fs nm).1 = 0) := by
  unfold dateM
  rw [if_neg (fun h => hp h.2)]
  simp
theorem date_doc_none {fs : List Fd} {nm : List UInt8} (h : (getF fs nm).2 = false) : (dateM fs nm).2 = false := by
  unfold dateM
  rw [if_neg (fun e => by rw [h] at e; cases e.1)]
section
variable {R : Ending → World → Prop} {w : World}
theorem rtag26_wide (v m : Int) (hv : 0 ≤ v ∧ v ≤ 9223372036854775807) (hm : 0 ≤ m ∧ m ≤ 9223372036854775807) (h : ∀ w', Kp [] w w' → R (.returned (.string (S (tagL v m)))) w') : Calls Tryz.prog 97 #[.int .i64 v, .int .i64 m] w R := by
  have H := Lib.hid h
  obtain ⟨v0, v1⟩ := hv
  obtain ⟨m0, m1⟩ := hm
  have e1 := itoaL_len v (by omega) (by omega)
  have e2 := itoaL_len m (by omega) (by omega)
  have kk : Kp [] w w := Kp.refl _ _
  clear h
  go_enter Tryz.func97, Tryz.ntmps97
  go_wp2_with (go_at_call 14; ((refine rdigits_sgn _ _ (by omega) (by omega) ?_); intro w1 k1; have kk := kk.trans k1))
  exact H.out _ kk
set_option maxHeartbeats 16000000 in
theorem rcheck26_any (r : Req) (v mt : Int) {A : Option Addr} {c : Nat} (hr : Rd w [] A (r.fs.flatMap fldC)) (hn : r.fs.length ≤ 2000) (hv : 0 ≤ v ∧ v ≤ 9223372036854775807) (hmt : 0 ≤ mt ∧ mt ≤ 9223372036854775807) (hsz : ∀ nm, (allF r.fs nm).length ≤ 2000000) (hvl : ∀ x ∈ r.fs, x.2.length ≤ 2000000)
    (h : ∀ w', Kp [] w w' → R (.returned (.int .i64 (checkM r v mt))) w') :
    Calls Tryz.prog 129 #[.agg #[.string (S r.m), .string (S r.t), .int .i64 r.minor, .slice A r.fs.length c, .bool r.close], .bool true, .int .i64 v, .int .i64 mt] w R := by
  have H := Lib.hid h
  have HR := Lib.hid hr
  have HVL := Lib.hid hvl
  obtain ⟨t, ht⟩ : ∃ t, tagL v mt = t := ⟨_, rfl⟩
  have htl : t.length ≤ 100 := by
    rw [← ht]
    have e1 := itoaL_len v (by omega) (by omega)
    have e2 := itoaL_len mt (by omega) (by omega)
    unfold tagL
    simp only [List.length_cons, List.length_append, List.length_nil]
    omega
  have HTg : Hid (∀ (R : Ending → World → Prop) (w1 : World), Kp [] w w1 → (∀ w', Kp [] w1 w' → R (.returned (.string (S t))) w') → Calls Tryz.prog 97 #[.int .i64 v, .int .i64 mt] w1 R) := Lib.hid (fun R w1 k h => rtag26_wide v mt hv hmt (fun w' j => by rw [ht]; exact h w' j))
  have HC1 : Hid (∀ (R : Ending → World → Prop) (w1 : World), Kp [] w w1 → (∀ w', Kp [] w1 w' → R (.returned (.int .i64 (valsF r.fs imL).length)) w') → Calls Tryz.prog 13 #[.agg #[.string (S r.m), .string (S r.t), .int .i64 r.minor, .slice A r.fs.length c, .bool r.close], .string ⟨#[105, 102, 45, 109, 97, 116, 99, 104]⟩] w1 R) := Lib.hid (fun R w1 k h => rcount24_any r imL (HR.out.kp k (by simp)) (by omega) h)
  have HC2 : Hid (∀ (R : Ending → World → Prop) (w1 : World), Kp [] w w1 → (∀ w', Kp [] w1 w' → R (.returned (.int .i64 (valsF r.fs iuL).length)) w') → Calls Tryz.prog 13 #[.agg #[.string (S r.m), .string (S r.t), .int .i64 r.minor, .slice A r.fs.length c, .bool r.close], .string ⟨#[105, 102, 45, 117, 110, 109, 111, 100, 105, 102, 105, 101, 100, 45, 115, 105, 110, 99, 101]⟩] w1 R) := Lib.hid (fun R w1 k h => rcount24_any r iuL (HR.out.kp k (by simp)) (by omega) h)
  have HC3 : Hid (∀ (R : Ending → World → Prop) (w1 : World), Kp [] w w1 → (∀ w', Kp [] w1 w' → R (.returned (.int .i64 (valsF r.fs inL).length)) w') → Calls Tryz.prog 13 #[.agg #[.string (S r.m), .string (S r.t), .int .i64 r.minor, .slice A r.fs.length c, .bool r.close], .string ⟨#[105, 102, 45, 110, 111, 110, 101, 45, 109, 97, 116, 99, 104]⟩] w1 R) := Lib.hid (fun R w1 k h => rcount24_any r inL (HR.out.kp k (by simp)) (by omega) h)
  have HC4 : Hid (∀ (R : Ending → World → Prop) (w1 : World), Kp [] w w1 → (∀ w', Kp [] w1 w' → R (.returned (.int .i64 (valsF r.fs ifL).length)) w') → Calls Tryz.prog 13 #[.agg #[.string (S r.m), .string (S r.t), .int .i64 r.minor, .slice A r.fs.length c, .bool r.close], .string ⟨#[105, 102, 45, 109, 111, 100, 105, 102, 105, 101, 100, 45, 115, 105, 110, 99, 101]⟩] w1 R) := Lib.hid (fun R w1 k h => rcount24_any r ifL (HR.out.kp k (by simp)) (by omega) h)
  have HA1 : Hid (∀ (R : Ending → World → Prop) (w1 : World), Kp [] w w1 → (∀ w', Kp [] w1 w' → R (.returned (.string (S (allF r.fs imL)))) w') → Calls Tryz.prog 54 #[.agg #[.string (S r.m), .string (S r.t), .int .i64 r.minor, .slice A r.fs.length c, .bool r.close], .string ⟨#[105, 102, 45, 109, 97, 116, 99, 104]⟩] w1 R) := Lib.hid (fun R w1 k h => rall24_any r imL w1 (HR.out.kp k (by simp)) (by omega) (by have := hsz imL; omega) (fun x hx => by have := HVL.out x hx; omega) h)
  have HA2 : Hid (∀ (R : Ending → World → Prop) (w1 : World), Kp [] w w1 → (∀ w', Kp [] w1 w' → R (.returned (.string (S (allF r.fs iuL)))) w') → Calls Tryz.prog 54 #[.agg #[.string (S r.m), .string (S r.t), .int .i64 r.minor, .slice A r.fs.length c, .bool r.close], .string ⟨#[105, 102, 45, 117, 110, 109, 111, 100, 105, 102, 105, 101, 100, 45, 115, 105, 110, 99, 101]⟩] w1 R) := Lib.hid (fun R w1 k h => rall24_any r iuL w1 (HR.out.kp k (by simp)) (by omega) (by have := hsz iuL; omega) (fun x hx => by have := HVL.out x hx; omega) h)
  have HA3 : Hid (∀ (R : Ending → World → Prop) (w1 : World), Kp [] w w1 → (∀ w', Kp [] w1 w' → R (.returned (.string (S (allF r.fs inL)))) w') → Calls Tryz.prog 54 #[.agg #[.string (S r.m), .string (S r.t), .int .i64 r.minor, .slice A r.fs.length c, .bool r.close], .string ⟨#[105, 102, 45, 110, 111, 110, 101, 45, 109, 97, 116, 99, 104]⟩] w1 R) := Lib.hid (fun R w1 k h => rall24_any r inL w1 (HR.out.kp k (by simp)) (by omega) (by have := hsz inL; omega) (fun x hx => by have := HVL.out x hx; omega) h)
  have HA4 : Hid (∀ (R : Ending → World → Prop) (w1 : World), Kp [] w w1 → (∀ w', Kp [] w1 w' → R (.returned (.string (S (allF r.fs ifL)))) w') → Calls Tryz.prog 54 #[.agg #[.string (S r.m), .string (S r.t), .int .i64 r.minor, .slice A r.fs.length c, .bool r.close], .string ⟨#[105, 102, 45, 109, 111, 100, 105, 102, 105, 101, 100, 45, 115, 105, 110, 99, 101]⟩] w1 R) := Lib.hid (fun R w1 k h => rall24_any r ifL w1 (HR.out.kp k (by simp)) (by omega) (by have := hsz ifL; omega) (fun x hx => by have := HVL.out x hx; omega) h)
  have HM1 : Hid (∀ (R : Ending → World → Prop) (w1 : World), Kp [] w w1 → (∀ w', Kp [] w1 w' → R (.returned (.bool (matchM (allF r.fs imL) t false))) w') → Calls Tryz.prog 151 #[.string (S (allF r.fs imL)), .string (S t), .bool false] w1 R) := Lib.hid (fun R w1 k h => rmatch_any _ t false w1 (hsz _) (by omega) h)
  have HM3 : Hid (∀ (R : Ending → World → Prop) (w1 : World), Kp [] w w1 → (∀ w', Kp [] w1 w' → R (.returned (.bool (matchM (allF r.fs inL) t true))) w') → Calls Tryz.prog 151 #[.string (S (allF r.fs inL)), .string (S t), .bool true] w1 R) := Lib.hid (fun R w1 k h => rmatch_any _ t true w1 (hsz _) (by omega) h)
  have HP2 : Hid (∀ (R : Ending → World → Prop) (w1 : World), Kp [] w w1 → (∀ d ok w', Hid ((dateM r.fs iuL).2 = ((getF r.fs iuL).2 && ok) ∧ (((getF r.fs iuL).2 && ok) = true → (dateM r.fs iuL).1 = d)) → Kp [] w1 w' → R (.returned (.tuple #[.int .i64 d, .bool ok])) w') → Calls Tryz.prog 152 #[.string (S (allF r.fs iuL))] w1 R) := Lib.hid (fun R w1 k h => rparse3_any _ (hsz _) (fun hp w' j => h _ true w' (Lib.hid (date_doc_yes hp.out)) j) (fun hp w' j => h _ false w' (Lib.hid (date_doc_no hp.out)) j))
  have HP4 : Hid (∀ (R : Ending → World → Prop) (w1 : World), Kp [] w w1 → (∀ d ok w', Hid ((dateM r.fs ifL).2 = ((getF r.fs ifL).2 && ok) ∧ (((getF r.fs ifL).2 && ok) = true → (dateM r.fs ifL).1 = d)) → Kp [] w1 w' → R (.returned (.tuple #[.int .i64 d, .bool ok])) w') → Calls Tryz.prog 152 #[.string (S (allF r.fs ifL))] w1 R) := Lib.hid (fun R w1 k h => rparse3_any _ (hsz _) (fun hp w' j => h _ true w' (Lib.hid (date_doc_yes hp.out)) j) (fun hp w' j => h _ false w' (Lib.hid (date_doc_no hp.out)) j))
  have HCk : Hid (checkM r v mt = ckF (getF r.fs imL).2 (getF r.fs inL).2 (matchM (allF r.fs imL) t false) (matchM (allF r.fs inL) t true) (readsM r.m) (dateM r.fs iuL) (dateM r.fs ifL) mt) := Lib.hid (by unfold checkM; rw [ht])
  have g1 := getF_pos r.fs imL
  have g2 := getF_pos r.fs iuL
  have g3 := getF_pos r.fs inL
  have g4 := getF_pos r.fs ifL
  obtain ⟨ck, hck⟩ : ∃ ck, checkM r v mt = ck := ⟨_, rfl⟩
  rw [hck] at H HCk
  obtain ⟨a1, ha1⟩ : ∃ a, allF r.fs imL = a := ⟨_, rfl⟩
  obtain ⟨a2, ha2⟩ : ∃ a, allF r.fs iuL = a := ⟨_, rfl⟩
  obtain ⟨a3, ha3⟩ : ∃ a, allF r.fs inL = a := ⟨_, rfl⟩
  obtain ⟨a4, ha4⟩ : ∃ a, allF r.fs ifL = a := ⟨_, rfl⟩
  rw [ha1] at HA1 HM1 HCk
  rw [ha2] at HA2 HP2
  rw [ha3] at HA3 HM3 HCk
  rw [ha4] at HA4 HP4
  obtain ⟨mm, hmm⟩ : ∃ x, matchM a1 t false = x := ⟨_, rfl⟩
  obtain ⟨mn, hmn⟩ : ∃ x, matchM a3 t true = x := ⟨_, rfl⟩
  rw [hmm] at HM1 HCk
  rw [hmn] at HM3 HCk
  obtain ⟨n1, hn1⟩ : ∃ n, (valsF r.fs imL).length = n := ⟨_, rfl⟩
  obtain ⟨n2, hn2⟩ : ∃ n, (valsF r.fs iuL).length = n := ⟨_, rfl⟩
  obtain ⟨n3, hn3⟩ : ∃ n, (valsF r.fs inL).length = n := ⟨_, rfl⟩
  obtain ⟨n4, hn4⟩ : ∃ n, (valsF r.fs ifL).length = n := ⟨_, rfl⟩
  rw [hn1] at HC1 g1
  rw [hn2] at HC2 g2
  rw [hn3] at HC3 g3
  rw [hn4] at HC4 g4
  rw [g1, g3] at HCk
  rw [g2] at HP2
  rw [g4] at HP4
  have HD2 : Hid (n2 = 0 → (dateM r.fs iuL).2 = false) := Lib.hid (fun e => by subst e; exact date_doc_none (by rw [g2]; rfl))
  have HD4 : Hid (n4 = 0 → (dateM r.fs ifL).2 = false) := Lib.hid (fun e => by subst e; exact date_doc_none (by rw [g4]; rfl))
  obtain ⟨⟨du1, du2⟩, hdu⟩ : ∃ x, dateM r.fs iuL = x := ⟨_, rfl⟩
  obtain ⟨⟨dm1, dm2⟩, hdm⟩ : ∃ x, dateM r.fs ifL = x := ⟨_, rfl⟩
  rw [hdu] at HP2 HD2 HCk
  rw [hdm] at HP4 HD4 HCk
  obtain ⟨q1, hq1⟩ : ∃ q, (r.m == [71, 69, 84]) = q := ⟨_, rfl⟩
  obtain ⟨q2, hq2⟩ : ∃ q, (r.m == [72, 69, 65, 68]) = q := ⟨_, rfl⟩
  have hrd : readsM r.m = (q1 || q2) := by unfold readsM; rw [hq1, hq2]
  obtain ⟨rds, hrds⟩ : ∃ x, readsM r.m = x := ⟨_, rfl⟩
  rw [hrds] at HCk hrd
  have HRds := Lib.hid hrd
  clear hrd
  clear h hr hsz hvl g1 g2 g3 g4 hck ha1 ha2 ha3 ha4 hmm hmn hn1 hn2 hn3 hn4 hdu hdm ht htl
  simp only at HP2 HP4 HD2 HD4
  go_enter Tryz.func129, Tryz.ntmps129
  go_upto_region 1 with (fail)
  refine gen_worldC (fun W => ∃ g, w.heap.size = g ∧ Hid (Kp [] w W ∧ Bk W g 24 (reqC r A c))) ⟨_, rfl, Lib.hid ⟨(Kp.refl _ _).alloc _, (Bk.new' _ _ _).cast rfl⟩⟩ ?_
  rintro W ⟨g, hg, hW⟩
  rw [hg]
  clear hg
  have HC : Hid (∀ W', Kp [] W W' → (W'.cell? ⟨g, 0, none⟩ = some (.string (S r.m)) ∧ W'.cell? ⟨g, 1, none⟩ = some (.string (S r.t)) ∧ W'.cell? ⟨g, 2, none⟩ = some (.int .i64 r.minor) ∧ W'.cell? ⟨g, 3, none⟩ = some (.slice A r.fs.length c) ∧ W'.cell? ⟨g, 4, none⟩ = some (.bool r.close))) := Lib.hid (fun W' k => (bk5' (hW.out.2.kp k (by simp))).1)
  have HBW : Hid (∀ W', Kp [] W W' → Kp [] w W') := Lib.hid (fun W' k => hW.out.1.trans k)
  have GTg : Hid (∀ (R : Ending → World → Prop) (w1 : World), Kp [] W w1 → (∀ w', Kp [] W w' → R (.returned (.string (S t))) w') → Calls Tryz.prog 97 #[.int .i64 v, .int .i64 mt] w1 R) := Lib.hid (fun R w1 k h => HTg.out R w1 (hW.out.1.trans k) (fun w' j => h w' (k.trans j)))
  have GC1 : Hid (∀ (R : Ending → World → Prop) (w1 : World), Kp [] W w1 → (∀ w', Kp [] W w' → R (.returned (.int .i64 n1)) w') → Calls Tryz.prog 13 #[.agg #[.string (S r.m), .string (S r.t), .int .i64 r.minor, .slice A r.fs.length c, .bool r.close], .string ⟨#[105, 102, 45, 109, 97, 116, 99, 104]⟩] w1 R) := Lib.hid (fun R w1 k h => HC1.out R w1 (hW.out.1.trans k) (fun w' j => h w' (k.trans j)))
  have GA1 : Hid (∀ (R : Ending → World → Prop) (w1 : World), Kp [] W w1 → (∀ w', Kp [] W w' → R (.returned (.string (S a1))) w') → Calls Tryz.prog 54 #[.agg #[.string (S r.m), .string (S r.t), .int .i64 r.minor, .slice A r.fs.length c, .bool r.close], .string ⟨#[105, 102, 45, 109, 97, 116, 99, 104]⟩] w1 R) := Lib.hid (fun R w1 k h => HA1.out R w1 (hW.out.1.trans k) (fun w' j => h w' (k.trans j)))
  have GC2 : Hid (∀ (R : Ending → World → Prop) (w1 : World), Kp [] W w1 → (∀ w', Kp [] W w' → R (.returned (.int .i64 n2)) w') → Calls Tryz.prog 13 #[.agg #[.string (S r.m), .string (S r.t), .int .i64 r.minor, .slice A r.fs.length c, .bool r.close], .string ⟨#[105, 102, 45, 117, 110, 109, 111, 100, 105, 102, 105, 101, 100, 45, 115, 105, 110, 99, 101]⟩] w1 R) := Lib.hid (fun R w1 k h => HC2.out R w1 (hW.out.1.trans k) (fun w' j => h w' (k.trans j)))
  have GA2 : Hid (∀ (R : Ending → World → Prop) (w1 : World), Kp [] W w1 → (∀ w', Kp [] W w' → R (.returned (.string (S a2))) w') → Calls Tryz.prog 54 #[.agg #[.string (S r.m), .string (S r.t), .int .i64 r.minor, .slice A r.fs.length c, .bool r.close], .string ⟨#[105, 102, 45, 117, 110, 109, 111, 100, 105, 102, 105, 101, 100, 45, 115, 105, 110, 99, 101]⟩] w1 R) := Lib.hid (fun R w1 k h => HA2.out R w1 (hW.out.1.trans k) (fun w' j => h w' (k.trans j)))
  have GC3 : Hid (∀ (R : Ending → World → Prop) (w1 : World), Kp [] W w1 → (∀ w', Kp [] W w' → R (.returned (.int .i64 n3)) w') → Calls Tryz.prog 13 #[.agg #[.string (S r.m), .string (S r.t), .int .i64 r.minor, .slice A r.fs.length c, .bool r.close], .string ⟨#[105, 102, 45, 110, 111, 110, 101, 45, 109, 97, 116, 99, 104]⟩] w1 R) := Lib.hid (fun R w1 k h => HC3.out R w1 (hW.out.1.trans k) (fun w' j => h w' (k.trans j)))
  have GA3 : Hid (∀ (R : Ending → World → Prop) (w1 : World), Kp [] W w1 → (∀ w', Kp [] W w' → R (.returned (.string (S a3))) w') → Calls Tryz.prog 54 #[.agg #[.string (S r.m), .string (S r.t), .int .i64 r.minor, .slice A r.fs.length c, .bool r.close], .string ⟨#[105, 102, 45, 110, 111, 110, 101, 45, 109, 97, 116, 99, 104]⟩] w1 R) := Lib.hid (fun R w1 k h => HA3.out R w1 (hW.out.1.trans k) (fun w' j => h w' (k.trans j)))
  have GC4 : Hid (∀ (R : Ending → World → Prop) (w1 : World), Kp [] W w1 → (∀ w', Kp [] W w' → R (.returned (.int .i64 n4)) w') → Calls Tryz.prog 13 #[.agg #[.string (S r.m), .string (S r.t), .int .i64 r.minor, .slice A r.fs.length c, .bool r.close], .string ⟨#[105, 102, 45, 109, 111, 100, 105, 102, 105, 101, 100, 45, 115, 105, 110, 99, 101]⟩] w1 R) := Lib.hid (fun R w1 k h => HC4.out R w1 (hW.out.1.trans k) (fun w' j => h w' (k.trans j)))
  have GA4 : Hid (∀ (R : Ending → World → Prop) (w1 : World), Kp [] W w1 → (∀ w', Kp [] W w' → R (.returned (.string (S a4))) w') → Calls Tryz.prog 54 #[.agg #[.string (S r.m), .string (S r.t), .int .i64 r.minor, .slice A r.fs.length c, .bool r.close], .string ⟨#[105, 102, 45, 109, 111, 100, 105, 102, 105, 101, 100, 45, 115, 105, 110, 99, 101]⟩] w1 R) := Lib.hid (fun R w1 k h => HA4.out R w1 (hW.out.1.trans k) (fun w' j => h w' (k.trans j)))
  have GM1 : Hid (∀ (R : Ending → World → Prop) (w1 : World), Kp [] W w1 → (∀ w', Kp [] W w' → R (.returned (.bool mm)) w') → Calls Tryz.prog 151 #[.string (S a1), .string (S t), .bool false] w1 R) := Lib.hid (fun R w1 k h => HM1.out R w1 (hW.out.1.trans k) (fun w' j => h w' (k.trans j)))
  have GM3 : Hid (∀ (R : Ending → World → Prop) (w1 : World), Kp [] W w1 → (∀ w', Kp [] W w' → R (.returned (.bool mn)) w') → Calls Tryz.prog 151 #[.string (S a3), .string (S t), .bool true] w1 R) := Lib.hid (fun R w1 k h => HM3.out R w1 (hW.out.1.trans k) (fun w' j => h w' (k.trans j)))
  have GP2 : Hid (∀ (R : Ending → World → Prop) (w1 : World), Kp [] W w1 → (∀ d ok w', Hid (du2 = (decide (0 < n2) && ok) ∧ ((decide (0 < n2) && ok) = true → du1 = d)) → Kp [] W w' → R (.returned (.tuple #[.int .i64 d, .bool ok])) w') → Calls Tryz.prog 152 #[.string (S a2)] w1 R) := Lib.hid (fun R w1 k h => HP2.out R w1 (hW.out.1.trans k) (fun d ok w' e j => h d ok w' e (k.trans j)))
  have GP4 : Hid (∀ (R : Ending → World → Prop) (w1 : World), Kp [] W w1 → (∀ d ok w', Hid (dm2 = (decide (0 < n4) && ok) ∧ ((decide (0 < n4) && ok) = true → dm1 = d)) → Kp [] W w' → R (.returned (.tuple #[.int .i64 d, .bool ok])) w') → Calls Tryz.prog 152 #[.string (S a4)] w1 R) := Lib.hid (fun R w1 k h => HP4.out R w1 (hW.out.1.trans k) (fun d ok w' e j => h d ok w' e (k.trans j)))
  clear HTg HC1 HC2 HC3 HC4 HA1 HA2 HA3 HA4 HM1 HM3 HP2 HP4 hW
  obtain ⟨c0, c1, c2, c3, c4⟩ := HC.out W (Kp.refl _ _)
  go_upto_if 20 with (first | (go_at_call 97; ((with_reducible refine GTg.out _ _ (by first | assumption | exact Kp.refl _ _) ?_); intro w5 k5; obtain ⟨c0, c1, c2, c3, c4⟩ := HC.out _ k5)) | (go_at_call 13; ((with_reducible refine GC1.out _ _ (by first | assumption | exact Kp.refl _ _) ?_); intro w5 k5; obtain ⟨c0, c1, c2, c3, c4⟩ := HC.out _ k5)))
  go_cut [] (fun W' => Hid (Kp [] W W' ∧ (decide (0 < n1) && !mm) = false ∧ (!decide (0 < n1) && (du2 && decide (du1 < mt))) = false))
  case first =>
    rcases Nat.eq_zero_or_pos n1 with rfl | p1
    · rcases Nat.eq_zero_or_pos n2 with rfl | p2
      · have e2 := HD2.out rfl
        subst e2
        go_wp2_with (go_at_call 13; ((with_reducible refine GC2.out _ _ (by first | assumption | exact Kp.refl _ _) ?_); intro w5 k5; obtain ⟨c0, c1, c2, c3, c4⟩ := HC.out _ k5))
        go_meet
        exact Lib.hid ⟨k5, by simp, by simp⟩
      · go_upto_region 7 with (first | (go_at_call 13; ((with_reducible refine GC2.out _ _ (by first | assumption | exact Kp.refl _ _) ?_); intro w5 k5; obtain ⟨c0, c1, c2, c3, c4⟩ := HC.out _ k5)) | (go_at_call 54; ((with_reducible refine GA2.out _ _ (by first | assumption | exact Kp.refl _ _) ?_); intro w5 k5; obtain ⟨c0, c1, c2, c3, c4⟩ := HC.out _ k5)) | (go_at_call 152; ((with_reducible refine GP2.out _ _ (by first | assumption | exact Kp.refl _ _) ?_); intro d ok w5 hd5 k5; obtain ⟨c0, c1, c2, c3, c4⟩ := HC.out _ k5)))
        obtain ⟨e1, e2⟩ := hd5.out
        rw [decide_eq_true p2] at e1 e2
        cases ok with
        | false =>
          have e3 : du2 = false := by rw [e1]; rfl
          subst e3
          clear e1 e2
          go_wp2
          go_meet
          exact Lib.hid ⟨k5, by simp, by simp⟩
        | true =>
          have e3 : du2 = true := by rw [e1]; rfl
          have e4 : du1 = d := e2 rfl
          subst e3; subst e4
          clear e1 e2
          by_cases hlt : du1 < mt
          · have e5 : decide (du1 < mt) = true := decide_eq_true hlt
            have e6 : ck = 412 := by rw [HCk.out]; unfold ckF; simp [hlt]
            subst e6
            go_wp2
            exact H.out _ (HBW.out _ k5)
          · have e5 : decide (du1 < mt) = false := decide_eq_false hlt
            go_wp2
            go_meet
            exact Lib.hid ⟨k5, by simp, by simp [hlt]⟩
    · have e0 : decide (0 < n1) = true := decide_eq_true p1
      cases mm with
      | false =>
        have e6 : ck = 412 := by rw [HCk.out]; unfold ckF; simp [p1]
        subst e6
        go_wp2_with (first | (go_at_call 54; ((with_reducible refine GA1.out _ _ (by first | assumption | exact Kp.refl _ _) ?_); intro w5 k5; obtain ⟨c0, c1, c2, c3, c4⟩ := HC.out _ k5)) | (go_at_call 151; ((with_reducible refine GM1.out _ _ (by first | assumption | exact Kp.refl _ _) ?_); intro w5 k5; obtain ⟨c0, c1, c2, c3, c4⟩ := HC.out _ k5)))
        exact H.out _ (HBW.out _ k5)
      | true =>
        go_wp2_with (first | (go_at_call 54; ((with_reducible refine GA1.out _ _ (by first | assumption | exact Kp.refl _ _) ?_); intro w5 k5; obtain ⟨c0, c1, c2, c3, c4⟩ := HC.out _ k5)) | (go_at_call 151; ((with_reducible refine GM1.out _ _ (by first | assumption | exact Kp.refl _ _) ?_); intro w5 k5; obtain ⟨c0, c1, c2, c3, c4⟩ := HC.out _ k5)))
        go_meet
        exact Lib.hid ⟨k5, by simp, by simp [p1]⟩
  case rest =>
    obtain ⟨hk, e1, e2⟩ := hcut.out
    have HCk2 : Hid (ck = if decide (0 < n3) && mn then (if rds then 304 else 412) else if !decide (0 < n3) && (dm2 && (rds && decide (mt ≤ dm1))) then 304 else 0) := Lib.hid (by rw [HCk.out]; unfold ckF; rw [e1, e2]; simp only [Bool.false_eq_true, if_false])
    clear hcut e1 e2 HCk c0 c1 c2 c3 c4
    obtain ⟨W2, hW2⟩ : ∃ x, wc = x := ⟨_, rfl⟩
    rw [hW2] at hk ⊢
    clear hW2
    obtain ⟨c0, c1, c2, c3, c4⟩ := HC.out W2 hk
    go_upto_region 9 with (fail)
    go_cut [12] (fun x W' => x = .bool rds ∧ W' = W2)
    case first =>
      cases q1 with
      | true =>
        go_wp2
        go_meet
        exact ⟨by rw [HRds.out]; rfl, rfl⟩
      | false =>
        cases q2 with
        | true =>
          go_wp2
          go_meet
          exact ⟨by rw [HRds.out]; rfl, rfl⟩
        | false =>
          go_wp2
          go_meet
          exact ⟨by rw [HRds.out]; rfl, rfl⟩
    case rest =>
      obtain ⟨hx1, hx2⟩ := hcut
      rw [hx1, hx2]
      clear hx1 hx2
      rcases Nat.eq_zero_or_pos n3 with rfl | p3
      · rcases Nat.eq_zero_or_pos n4 with rfl | p4
        · have e2 := HD4.out rfl
          subst e2
          have e6 : ck = 0 := by rw [HCk2.out]; simp
          subst e6
          go_wp2_with (first | (go_at_call 13; ((with_reducible refine GC3.out _ _ (by first | assumption | exact Kp.refl _ _) ?_); intro w5 k5; obtain ⟨c0, c1, c2, c3, c4⟩ := HC.out _ k5)) | (go_at_call 13; ((with_reducible refine GC4.out _ _ (by first | assumption | exact Kp.refl _ _) ?_); intro w5 k5; obtain ⟨c0, c1, c2, c3, c4⟩ := HC.out _ k5)))
          exact H.out _ (HBW.out _ k5)
        · cases rds with
          | false =>
            have e6 : ck = 0 := by rw [HCk2.out]; simp
            subst e6
            go_wp2_with (first | (go_at_call 13; ((with_reducible refine GC3.out _ _ (by first | assumption | exact Kp.refl _ _) ?_); intro w5 k5; obtain ⟨c0, c1, c2, c3, c4⟩ := HC.out _ k5)) | (go_at_call 13; ((with_reducible refine GC4.out _ _ (by first | assumption | exact Kp.refl _ _) ?_); intro w5 k5; obtain ⟨c0, c1, c2, c3, c4⟩ := HC.out _ k5)))
            exact H.out _ (HBW.out _ k5)
          | true =>
            go_upto_region 17 with (first | (go_at_call 13; ((with_reducible refine GC3.out _ _ (by first | assumption | exact Kp.refl _ _) ?_); intro w5 k5; obtain ⟨c0, c1, c2, c3, c4⟩ := HC.out _ k5)) | (go_at_call 13; ((with_reducible refine GC4.out _ _ (by first | assumption | exact Kp.refl _ _) ?_); intro w5 k5; obtain ⟨c0, c1, c2, c3, c4⟩ := HC.out _ k5)) | (go_at_call 54; ((with_reducible refine GA4.out _ _ (by first | assumption | exact Kp.refl _ _) ?_); intro w5 k5; obtain ⟨c0, c1, c2, c3, c4⟩ := HC.out _ k5)) | (go_at_call 152; ((with_reducible refine GP4.out _ _ (by first | assumption | exact Kp.refl _ _) ?_); intro d ok w5 hd5 k5; obtain ⟨c0, c1, c2, c3, c4⟩ := HC.out _ k5)))
            obtain ⟨e1, e2⟩ := hd5.out
            rw [decide_eq_true p4] at e1 e2
            cases ok with
            | false =>
              have e3 : dm2 = false := by rw [e1]; rfl
              subst e3
              have e6 : ck = 0 := by rw [HCk2.out]; simp
              subst e6
              clear e1 e2
              go_wp2
              exact H.out _ (HBW.out _ k5)
            | true =>
              have e3 : dm2 = true := by rw [e1]; rfl
              have e4 : dm1 = d := e2 rfl
              subst e3; subst e4
              clear e1 e2
              by_cases hlt : mt ≤ dm1
              · have e5 : decide (mt ≤ dm1) = true := decide_eq_true hlt
                have e6 : ck = 304 := by rw [HCk2.out]; simp [hlt]
                subst e6
                go_wp2
                exact H.out _ (HBW.out _ k5)
              · have e5 : decide (mt ≤ dm1) = false := decide_eq_false hlt
                have e6 : ck = 0 := by rw [HCk2.out]; simp [hlt]
                subst e6
                go_wp2
                exact H.out _ (HBW.out _ k5)
      · have e0 : decide (0 < n3) = true := decide_eq_true p3
        cases mn with
        | false =>
          have e6 : ck = 0 := by rw [HCk2.out]; simp [p3]
          subst e6
          go_wp2_with (first | (go_at_call 13; ((with_reducible refine GC3.out _ _ (by first | assumption | exact Kp.refl _ _) ?_); intro w5 k5; obtain ⟨c0, c1, c2, c3, c4⟩ := HC.out _ k5)) | (go_at_call 54; ((with_reducible refine GA3.out _ _ (by first | assumption | exact Kp.refl _ _) ?_); intro w5 k5; obtain ⟨c0, c1, c2, c3, c4⟩ := HC.out _ k5)) | (go_at_call 151; ((with_reducible refine GM3.out _ _ (by first | assumption | exact Kp.refl _ _) ?_); intro w5 k5; obtain ⟨c0, c1, c2, c3, c4⟩ := HC.out _ k5)))
          exact H.out _ (HBW.out _ k5)
        | true =>
          cases rds with
          | true =>
            have e6 : ck = 304 := by rw [HCk2.out]; simp [p3]
            subst e6
            go_wp2_with (first | (go_at_call 13; ((with_reducible refine GC3.out _ _ (by first | assumption | exact Kp.refl _ _) ?_); intro w5 k5; obtain ⟨c0, c1, c2, c3, c4⟩ := HC.out _ k5)) | (go_at_call 54; ((with_reducible refine GA3.out _ _ (by first | assumption | exact Kp.refl _ _) ?_); intro w5 k5; obtain ⟨c0, c1, c2, c3, c4⟩ := HC.out _ k5)) | (go_at_call 151; ((with_reducible refine GM3.out _ _ (by first | assumption | exact Kp.refl _ _) ?_); intro w5 k5; obtain ⟨c0, c1, c2, c3, c4⟩ := HC.out _ k5)))
            exact H.out _ (HBW.out _ k5)
          | false =>
            have e6 : ck = 412 := by rw [HCk2.out]; simp [p3]
            subst e6
            go_wp2_with (first | (go_at_call 13; ((with_reducible refine GC3.out _ _ (by first | assumption | exact Kp.refl _ _) ?_); intro w5 k5; obtain ⟨c0, c1, c2, c3, c4⟩ := HC.out _ k5)) | (go_at_call 54; ((with_reducible refine GA3.out _ _ (by first | assumption | exact Kp.refl _ _) ?_); intro w5 k5; obtain ⟨c0, c1, c2, c3, c4⟩ := HC.out _ k5)) | (go_at_call 151; ((with_reducible refine GM3.out _ _ (by first | assumption | exact Kp.refl _ _) ?_); intro w5 k5; obtain ⟨c0, c1, c2, c3, c4⟩ := HC.out _ k5)))
            exact H.out _ (HBW.out _ k5)
end
end
/-! ### The document's Length and Head of any answer. -/
section
open Go.RowKit Go.Shelf
set_option linter.unusedVariables false
set_option linter.unusedSimpArgs false
set_option maxRecDepth 100000
section
variable {R : Ending → World → Prop} {w : World}
set_option maxHeartbeats 2000000 in
theorem rlen27_any (l : List Pt) {A : Option Addr} {n c : Nat} (hr : Rd w [] A (l.flatMap ptV)) (hl : l.length = n) (hn : n ≤ 100) (hok : ∀ p ∈ l, okPt p)
    (h : ∀ w', Kp [] w w' → R (.returned (.int .i64 (sumG l))) w') : Calls Tryz.prog 99 #[.slice A n c] w R := by
  have H := Lib.hid h
  have HR := Lib.hid hr
  have HO := Lib.hid hok
  have HL := Lib.hid hl
  clear h hr hok hl
  go_enter Tryz.func99, Tryz.ntmps99
  go_wp2
  go_loopw [3, 4] (fun sv iv wr => ∃ (k : Nat) (s : Int), k ≤ n ∧ iv = .int .i64 k ∧ sv = .int .i64 s ∧ 0 ≤ s ∧ s ≤ k * 35184372089832 ∧ Hid (s = sumG (l.take k)) ∧ Kp [] w wr) (fun _ iv _ => n - (intOf iv).toNat)
  case atStart => exact ⟨0, 0, Nat.zero_le _, rfl, rfl, by omega, by omega, Lib.hid (by simp [sumG]), Kp.refl _ _⟩
  case round =>
    obtain ⟨k, s, hk, rfl, rfl, s0, s1, hs, kr⟩ := hrel
    by_cases hlt : k < n
    · obtain ⟨⟨pt, pf, pl⟩, hp⟩ : ∃ p, l[k]? = some p := ⟨_, List.getElem?_eq_getElem (by have := HL.out; omega)⟩
      obtain ⟨b, off, rfl, _, _, hc⟩ := rd_at (HR.out.kp kr (by simp)) ptV_len (by omega) hp
      have y0 : wr.cell? ⟨b, off + k * 3, none⟩ = some (.string (S pt)) := hc 0 _ rfl
      have y2 : wr.cell? ⟨b, off + k * 3 + 2, none⟩ = some (.int .i64 pl) := hc 2 _ rfl
      have hop := HO.out _ (List.mem_of_getElem? hp)
      unfold okPt at hop
      obtain ⟨o1, o2, o3⟩ := hop
      simp only at o1 o2 o3
      have x1 : IntKind.i64.wrap (s + (pt.length : Int)) = s + pt.length := wrap_ok (by omega) (by omega)
      have x2 : IntKind.i64.wrap (s + (pt.length : Int) + pl) = s + pt.length + pl := wrap_ok (by omega) (by omega)
      have HS : Hid (s + (pt.length : Int) + pl = sumG (l.take (k + 1))) := Lib.hid (by rw [sum_take hp, hs.out]; simp only; omega)
      clear hc hp hs
      go_upto_region 5 with (fail)
      go_quiet (fail)
      go_wp2
      exact ⟨⟨k + 1, _, by omega, by go_num, rfl, by omega, by omega, HS, kr.drewN _⟩, by simp [intOf]; omega⟩
    · obtain rfl : k = n := by omega
      have e : sumG (l.take k) = sumG l := by rw [List.take_of_length_le (by have := HL.out; omega)]
      rw [e] at hs
      have HS := hs.out
      clear e hs
      subst HS
      go_wp2
      exact H.out _ kr
end
end
/-! ### The document's Ranged. -/
section
open Go.RowKit Go.Shelf
set_option linter.unusedVariables false
set_option linter.unusedSimpArgs false
set_option maxRecDepth 100000
theorem civ_all (w : World) {n : Int} (h0 : 0 ≤ n) (h1 : n ≤ 253402300799) : ∃ y m d hh mi s wd : Nat, CivN n y m d hh mi s wd := by
  have h := cof_nat (R := fun _ _ => ∃ y m d hh mi s wd : Nat, CivN n y m d hh mi s wd) n w h0 h1 (fun y m d hh mi s wd c w' k => ⟨y, m, d, hh, mi, s, wd, c⟩)
  obtain ⟨e, w', fr, hr, _⟩ := h []
  exact hr
theorem told_ex (w : World) {n : Int} (h0 : 0 ≤ n) (h1 : n ≤ 253402300799) : ∃ D, Told n D := by
  obtain ⟨y, m, d, hh, mi, s, wd, c⟩ := civ_all w h0 h1
  obtain ⟨a, ha⟩ : ∃ a, wdN[wd]? = some a := ⟨_, List.getElem?_eq_getElem (by have := c.ew; simp [wdN]; omega)⟩
  obtain ⟨b, hb⟩ : ∃ b, moN[m - 1]? = some b := ⟨_, List.getElem?_eq_getElem (by have := c.m0; have := c.m1; simp [moN]; omega)⟩
  exact ⟨_, y, m, d, hh, mi, s, wd, a, b, c, ha, hb, rfl⟩
theorem told_no {mt : Int} {a : List UInt8} (h : mayB mt = false) : toldM mt a = false := by
  unfold toldM
  rw [if_neg (fun e => by rw [h] at e; cases e.1)]
theorem told_yes {mt : Int} {a D : List UInt8} (h : mayB mt = true) (hD : Told mt D) : toldM mt a = (a == D) := by
  unfold toldM
  by_cases e : a = D
  · subst e
    rw [if_pos ⟨h, hD⟩]; simp
  · rw [if_neg (fun x => e (told_uniq x.2 hD))]
    simp [e]
section
variable {R : Ending → World → Prop} {w : World}
set_option maxHeartbeats 8000000 in
theorem rranged26_any (r : Req) (v mt : Int) {A : Option Addr} {c : Nat} (hr : Rd w [] A (r.fs.flatMap fldC)) (hn : r.fs.length ≤ 2000) (hv : 0 ≤ v ∧ v ≤ 9223372036854775807) (hmt : 0 ≤ mt ∧ mt ≤ 9223372036854775807) (hsz : ∀ nm, (allF r.fs nm).length ≤ 2000000) (hvl : ∀ x ∈ r.fs, x.2.length ≤ 2000000)
    (h : ∀ w', Kp [] w w' → R (.returned (.bool (rangedM r v mt))) w') :
    Calls Tryz.prog 130 #[.agg #[.string (S r.m), .string (S r.t), .int .i64 r.minor, .slice A r.fs.length c, .bool r.close], .int .i64 v, .int .i64 mt] w R := by
  have H := Lib.hid h
  have HR := Lib.hid hr
  have HVL := Lib.hid hvl
  have HC1 : Hid (∀ (R : Ending → World → Prop) (w1 : World), Kp [] w w1 → (∀ w', Kp [] w1 w' → R (.returned (.int .i64 (valsF r.fs rgL).length)) w') → Calls Tryz.prog 13 #[.agg #[.string (S r.m), .string (S r.t), .int .i64 r.minor, .slice A r.fs.length c, .bool r.close], .string ⟨#[114, 97, 110, 103, 101]⟩] w1 R) := Lib.hid (fun R w1 k h => rcount24_any r rgL (HR.out.kp k (by simp)) (by omega) h)
  have HC2 : Hid (∀ (R : Ending → World → Prop) (w1 : World), Kp [] w w1 → (∀ w', Kp [] w1 w' → R (.returned (.int .i64 (valsF r.fs irL).length)) w') → Calls Tryz.prog 13 #[.agg #[.string (S r.m), .string (S r.t), .int .i64 r.minor, .slice A r.fs.length c, .bool r.close], .string ⟨#[105, 102, 45, 114, 97, 110, 103, 101]⟩] w1 R) := Lib.hid (fun R w1 k h => rcount24_any r irL (HR.out.kp k (by simp)) (by omega) h)
  have HA2 : Hid (∀ (R : Ending → World → Prop) (w1 : World), Kp [] w w1 → (∀ w', Kp [] w1 w' → R (.returned (.string (S (allF r.fs irL)))) w') → Calls Tryz.prog 54 #[.agg #[.string (S r.m), .string (S r.t), .int .i64 r.minor, .slice A r.fs.length c, .bool r.close], .string ⟨#[105, 102, 45, 114, 97, 110, 103, 101]⟩] w1 R) := Lib.hid (fun R w1 k h => rall24_any r irL w1 (HR.out.kp k (by simp)) (by omega) (by have := hsz irL; omega) (fun x hx => by have := HVL.out x hx; omega) h)
  have HTg : Hid (∀ (R : Ending → World → Prop) (w1 : World), (∀ w', Kp [] w1 w' → R (.returned (.string (S (tagL v mt)))) w') → Calls Tryz.prog 97 #[.int .i64 v, .int .i64 mt] w1 R) := Lib.hid (fun R w1 h => rtag26_wide v mt hv hmt h)
  have HMy : Hid (∀ (R : Ending → World → Prop) (w1 : World), R (.returned (.bool (mayB mt))) w1 → Calls Tryz.prog 95 #[.int .i64 mt] w1 R) := Lib.hid (fun R w1 h => may3_any mt w1 h)
  have g1 := getF_pos r.fs rgL
  have g2 := getF_pos r.fs irL
  have HRg : Hid (rangedM r v mt = ((getF r.fs rgL).2 && (r.m == [71, 69, 84]) && (!(getF r.fs irL).2 || ((allF r.fs irL == tagL v mt) || toldM mt (allF r.fs irL))))) := Lib.hid rfl
  obtain ⟨q1, hq1⟩ : ∃ q, (r.m == [71, 69, 84]) = q := ⟨_, rfl⟩
  obtain ⟨rg, hrg⟩ : ∃ x, rangedM r v mt = x := ⟨_, rfl⟩
  obtain ⟨n1, hn1⟩ : ∃ n, (valsF r.fs rgL).length = n := ⟨_, rfl⟩
  obtain ⟨n2, hn2⟩ : ∃ n, (valsF r.fs irL).length = n := ⟨_, rfl⟩
  obtain ⟨a, ha⟩ : ∃ a, allF r.fs irL = a := ⟨_, rfl⟩
  obtain ⟨t, ht⟩ : ∃ t, tagL v mt = t := ⟨_, rfl⟩
  rw [hrg] at H HRg
  rw [hn1] at HC1 g1
  rw [hn2] at HC2 g2
  rw [ha] at HA2
  rw [ht] at HTg
  rw [g1, g2, hq1, ha, ht] at HRg
  clear h hr hsz hvl g1 g2 hrg hn1 hn2 ha ht
  go_enter Tryz.func130, Tryz.ntmps130
  go_upto_region 1 with (fail)
  refine gen_worldC (fun W => ∃ g, w.heap.size = g ∧ Hid (Kp [] w W ∧ Bk W g 24 (reqC r A c))) ⟨_, rfl, Lib.hid ⟨(Kp.refl _ _).alloc _, (Bk.new' _ _ _).cast rfl⟩⟩ ?_
  rintro W ⟨g, hg, hW⟩
  rw [hg]
  clear hg
  have HC : Hid (∀ W', Kp [] W W' → (W'.cell? ⟨g, 0, none⟩ = some (.string (S r.m)) ∧ W'.cell? ⟨g, 1, none⟩ = some (.string (S r.t)) ∧ W'.cell? ⟨g, 2, none⟩ = some (.int .i64 r.minor) ∧ W'.cell? ⟨g, 3, none⟩ = some (.slice A r.fs.length c) ∧ W'.cell? ⟨g, 4, none⟩ = some (.bool r.close))) := Lib.hid (fun W' k => (bk5' (hW.out.2.kp k (by simp))).1)
  obtain ⟨c0, c1, c2, c3, c4⟩ := HC.out W (Kp.refl _ _)
  cases q1 with
  | false =>
    have e : rg = false := by rw [HRg.out]; simp
    subst e
    go_wp2
    exact H.out _ hW.out.1
  | true =>
    rcases Nat.eq_zero_or_pos n1 with rfl | p1
    · have e : rg = false := by rw [HRg.out]; simp
      subst e
      go_wp2_with (go_at_call 13; ((with_reducible refine HC1.out _ _ hW.out.1 ?_); intro w5 k5; obtain ⟨c0, c1, c2, c3, c4⟩ := HC.out _ k5))
      exact H.out _ (hW.out.1.trans k5)
    · have e1 : ((n1 : Int) == 0) = false := by simp; omega
      have e2 : decide (0 < n1) = true := decide_eq_true p1
      go_upto_region 3 with (go_at_call 13; ((with_reducible refine HC1.out _ _ hW.out.1 ?_); intro w5 k5; obtain ⟨c0, c1, c2, c3, c4⟩ := HC.out _ k5))
      rcases Nat.eq_zero_or_pos n2 with rfl | p2
      · have e : rg = true := by rw [HRg.out]; simp [p1]
        subst e
        go_wp2_with (go_at_call 13; ((with_reducible refine HC2.out _ _ (hW.out.1.trans k5) ?_); intro w6 k6; obtain ⟨c0, c1, c2, c3, c4⟩ := HC.out _ (k5.trans k6)))
        exact H.out _ (hW.out.1.trans (k5.trans k6))
      · have e3 : ((n2 : Int) == 0) = false := by simp; omega
        have HRg2 : Hid (rg = ((a == t) || toldM mt a)) := Lib.hid (by rw [HRg.out]; simp [p1, p2])
        clear HRg
        go_upto_region 6 with (first | (go_at_call 13; ((with_reducible refine HC2.out _ _ (hW.out.1.trans k5) ?_); intro w6 k6; obtain ⟨c0, c1, c2, c3, c4⟩ := HC.out _ (k5.trans k6))) | (go_at_call 54; ((with_reducible refine HA2.out _ _ (hW.out.1.trans (k5.trans k6)) ?_); intro w7 k7)))
        have K7 := Lib.hid (hW.out.1.trans ((k5.trans k6).trans k7))
        clear hW k5 k6 k7 c0 c1 c2 c3 c4 HC
        obtain ⟨q2, hq2⟩ : ∃ q, (a == t) = q := ⟨_, rfl⟩
        cases q2 with
        | true =>
          have e : rg = true := by rw [HRg2.out, hq2]; rfl
          subst e
          go_wp2_with (go_at_call 97; ((with_reducible refine HTg.out _ _ ?_); intro w8 k8))
          exact H.out _ (K7.out.trans k8)
        | false =>
          have HRg3 : Hid (rg = toldM mt a) := Lib.hid (by rw [HRg2.out, hq2]; rfl)
          obtain ⟨mb, hmb⟩ : ∃ mb, mayB mt = mb := ⟨_, rfl⟩
          rw [hmb] at HMy
          cases mb with
          | false =>
            have e : rg = false := by rw [HRg3.out]; exact told_no hmb
            subst e
            go_wp2_with (first | (go_at_call 97; ((with_reducible refine HTg.out _ _ ?_); intro w8 k8)) | (go_at_call 95; (with_reducible refine HMy.out _ _ ?_)))
            exact H.out _ (K7.out.trans k8)
          | true =>
            have hm2 : 0 ≤ mt ∧ mt ≤ 253402300799 := by unfold mayB at hmb; simpa using hmb
            obtain ⟨D, hD⟩ := told_ex w hm2.1 hm2.2
            have HPr : Hid (∀ (R : Ending → World → Prop) (w1 : World), (∀ w', Kp [] w1 w' → R (.returned (.string (S D))) w') → Calls Tryz.prog 96 #[.int .i64 mt] w1 R) := Lib.hid (fun R w1 hh => print3_any mt w1 hm2.1 hm2.2 hD hh)
            obtain ⟨q3, hq3⟩ : ∃ q, (a == D) = q := ⟨_, rfl⟩
            have e : rg = q3 := by rw [HRg3.out, ← hq3]; exact told_yes hmb hD
            subst e
            go_wp2_with (first | (go_at_call 97; ((with_reducible refine HTg.out _ _ ?_); intro w8 k8)) | (go_at_call 95; (with_reducible refine HMy.out _ _ ?_)) | (go_at_call 96; ((with_reducible refine HPr.out _ _ ?_); intro w9 k9)))
            exact H.out _ (K7.out.trans (k8.trans k9))
end
end
end Go.Proofs.YtnmafahbdfilcaaGreatDoor
