/- CondOwn walked. -/
import Derived.Test.YtjjigngighneeaaDoorRanged
import Derived.Test.YtjjigngighneeaaDoorCkr
import Derived.Deep.RegionHeld3
namespace Go.Proofs.YtjjigngighneeaaDoor
open Go.RowKit Go.Shelf
set_option linter.unusedVariables false
set_option linter.unusedSimpArgs false
set_option maxRecDepth 100000

def mthd (get : Bool) : List UInt8 := if get then [71, 69, 84] else [80, 85, 84]
def rqO (m : List UInt8) (fs : List Fd) : Req := ⟨m, [], 1, fs, false⟩
theorem o1u (t : List UInt8) : getF [(imL, t)] iuL = ([], false) := by simp [getF, valsF, imL, iuL]
theorem o1f (t : List UInt8) : getF [(imL, t)] ifL = ([], false) := by simp [getF, valsF, imL, ifL]
theorem o1m (t : List UInt8) : (getF [(imL, t)] imL).2 = true := by simp [getF, valsF, imL]
theorem o1n (t : List UInt8) : (getF [(imL, t)] inL).2 = false := by simp [getF, valsF, imL, inL]
theorem o1a (t : List UInt8) : allF [(imL, t)] imL = t := by simp [allF, valsF, Lib.join]
theorem o1b (t : List UInt8) : allF [(imL, t)] inL = [] := by simp [allF, valsF, imL, inL, Lib.join]
theorem o2u (t : List UInt8) : getF [(inL, t)] iuL = ([], false) := by simp [getF, valsF, inL, iuL]
theorem o2f (t : List UInt8) : getF [(inL, t)] ifL = ([], false) := by simp [getF, valsF, inL, ifL]
theorem o2m (t : List UInt8) : (getF [(inL, t)] imL).2 = false := by simp [getF, valsF, imL, inL]
theorem o2n (t : List UInt8) : (getF [(inL, t)] inL).2 = true := by simp [getF, valsF, inL]
theorem o2a (t : List UInt8) : allF [(inL, t)] inL = t := by simp [allF, valsF, Lib.join]
theorem o2b (t : List UInt8) : allF [(inL, t)] imL = [] := by simp [allF, valsF, imL, inL, Lib.join]
theorem o3g (s t : List UInt8) : (getF [(rgL, s), (irL, t)] rgL).2 = true := by simp [getF, valsF, rgL, irL]
theorem o3i (s t : List UInt8) : (getF [(rgL, s), (irL, t)] irL).2 = true := by simp [getF, valsF, rgL, irL]
theorem o3a (s t : List UInt8) : allF [(rgL, s), (irL, t)] irL = t := by simp [allF, valsF, rgL, irL, Lib.join]
def rqL (m : List UInt8) (A : Option Addr) (n : Nat) : List Value := [.string (S m), .string ⟨#[]⟩, .int .i64 1, .slice A n n, .bool false]
set_option maxHeartbeats 8000000 in
theorem own_walk {R : Ending → World → Prop} (v mt : Int) (get : Bool) (s : List UInt8) (w : World) (hv : 0 ≤ v ∧ v ≤ 4294967295) (hmt : 0 ≤ mt ∧ mt ≤ 4294967295) (hs : s.length ≤ 9223372036854775807) (hw : Lw w) (h : ∀ w', Kp [] w w' → R (.returned (.bool true)) w') :
    Calls Tryd.prog 5 #[.int .u32 v, .int .u32 mt, .bool get, .string (S s)] w R := by
  have H := Lib.hid h
  clear h
  by_cases hs2 : s.length ≤ 300
  · obtain ⟨t, ht⟩ : ∃ t, tagL v mt = t := ⟨_, rfl⟩
    have HT : Hid (∀ (R : Ending → World → Prop) (w1 : World), Lw w1 → (∀ w', Kp [] w1 w' → R (.returned (.string (S t))) w') → Calls Tryd.prog 20 #[.int .i64 v, .int .i64 mt] w1 R) := Lib.hid (fun R w1 h1 h => tag_any v mt w1 hv hmt h1 (by rw [ht]; exact h))
    have wv : IntKind.i64.wrap v = v := wrap_ok (by omega) (by omega)
    have wm : IntKind.i64.wrap mt = mt := wrap_ok (by omega) (by omega)
    go_enter Tryd.func5, Tryd.ntmps5
    go_upto_region 7 with (first | (go_at_call 19; ((refine alive26_any _ hw ?_); intro w1 k1; have K1 := Lib.hid k1; clear k1)) | (go_at_call 20; ((refine HT.out _ _ (hw.kp K1.out) ?_); intro w2 k2; have K2 := Lib.hid (K1.out.trans k2); clear k2)))
    refine gen_worldC (fun W => Kp [] w W ∧ Bk W w2.heap.size 37 [.string ⟨#[71, 69, 84]⟩, .string ⟨#[]⟩, .int .i64 1, .slice none 0 0, .bool false]) ⟨K2.out.alloc _, (Bk.new' _ _ _).cast rfl⟩ ?_
    rintro W ⟨kW, bW⟩
    have hg := K2.out.size
    generalize w2.heap.size = g at bW hg ⊢
    have KW := Lib.hid kW
    have BW := Lib.hid bW
    obtain ⟨⟨p0, p1, p2, p3, p4⟩, ⟨q0, q1, q2, q3, q4⟩⟩ := bk5 bW
    have htl : t.length ≤ 100 := by
      have e1 := itoaL_len v (by omega) (by omega)
      have e2 := itoaL_len mt (by omega) (by omega)
      rw [← ht]; unfold tagL; simp; omega
    obtain ⟨bb, hbf, hb44, hbo⟩ := tag_form2 hv hmt
    have hmt1 : matchM t (tagL v mt) false = true := by rw [← ht, hbf]; exact own_match hb44 hbo
    have hmt2 : matchM (87 :: 47 :: t) (tagL v mt) true = true := by rw [← ht, hbf]; exact own_weak hb44 hbo
    have HTX : Hid (t = 34 :: (bb ++ [34])) := Lib.hid (by rw [← ht, hbf])
    have HNX := Lib.hid (tag_next (v := v) (m := mt) hv.1)
    have HHT := Lib.hid ht
    have hlw : ∀ {w1 : World}, Kp [] w w1 → Lw w1 := fun k => hw.kp k
    clear kW bW
    cases get
    all_goals
      go_upto_region 11 with (fail)
      first
      | (obtain ⟨m, hm⟩ : ∃ m, mthd false = m := ⟨_, rfl⟩
         refine gen_worldC (fun W' => Kp [] w W' ∧ Bk W' g 37 (rqL m none 0)) ⟨KW.out.setCell (.inr hg) _, (BW.out.set_ 0 _).cast (by rw [← hm]; rfl)⟩ ?_)
      | (obtain ⟨m, hm⟩ : ∃ m, mthd true = m := ⟨_, rfl⟩
         refine gen_worldC (fun W' => Kp [] w W' ∧ Bk W' g 37 (rqL m none 0)) ⟨KW.out, BW.out.cast (by rw [← hm]; rfl)⟩ ?_)
      clear KW BW p0 p1 p2 p3 p4 q0 q1 q2 q3 q4
      rintro W1 ⟨kW1, bW1⟩
      have KW1 := Lib.hid kW1
      have BW1 := Lib.hid bW1
      obtain ⟨⟨p0, p1, p2, p3, p4⟩, ⟨q0, q1, q2, q3, q4⟩⟩ := bk5 bW1
      have hlt := bW1.lt
      clear kW1 bW1
      have HOf : Hid (∀ (R : Ending → World → Prop) (fs : List Fd) (A : Option Addr) (c : Nat) (w1 : World), fs.length ≤ 10 → Rd w1 [] A (fs.flatMap fldC) → (∀ A' c' w', Kp [] w1 w' → Rd w' [] A' (fs.flatMap fldC) → fs.length ≤ c' → R (.returned (.agg #[.string (S m), .string (S []), .int .i64 1, .slice A' fs.length c', .bool false])) w') → Calls Tryd.prog 14 #[.agg #[.string (S m), .string ⟨#[]⟩, .int .i64 1, .slice A fs.length c, .bool false]] w1 R) := Lib.hid (fun R fs A c w1 hl hr h => of24_any (rqO m fs) w1 hr (by have : (rqO m fs).fs.length = fs.length := rfl; omega) (fun A' c' w' a b _ d => h A' c' w' a b d))
      have HC1 : Hid (∀ (R : Ending → World → Prop) (w1 : World) (A' : Option Addr) (c' : Nat), Kp [] w w1 → Rd w1 [] A' ([(imL, t)].flatMap fldC) → 1 ≤ c' → (∀ w', Kp [] w1 w' → R (.returned (.int .i64 0)) w') → Calls Tryd.prog 21 #[.agg #[.string (S m), .string (S []), .int .i64 1, .slice A' 1 c', .bool false], .bool true, .int .i64 v, .int .i64 mt] w1 R) := Lib.hid (fun R w1 A' c' k h1 h2 h => check_m (rqO m [(imL, t)]) v mt w1 h1 (show (1 : Nat) ≤ 100 by decide) h2 hv hmt (hlw k) (o1u t) (o1f t) (o1m t) (o1n t) (by rw [show (rqO m [(imL, t)]).fs = [(imL, t)] from rfl, o1a]; omega) (by rw [show (rqO m [(imL, t)]).fs = [(imL, t)] from rfl, o1b]; decide) (by rw [show (rqO m [(imL, t)]).fs = [(imL, t)] from rfl, o1a]; exact hmt1) h)
      have HC2 : Hid (∀ (R : Ending → World → Prop) (w1 : World) (A' : Option Addr) (c' : Nat), Kp [] w w1 → Rd w1 [] A' ([(imL, t)].flatMap fldC) → 1 ≤ c' → (∀ w', Kp [] w1 w' → R (.returned (.int .i64 412)) w') → Calls Tryd.prog 21 #[.agg #[.string (S m), .string (S []), .int .i64 1, .slice A' 1 c', .bool false], .bool false, .int .i64 v, .int .i64 mt] w1 R) := Lib.hid (fun R w1 A' c' k h1 h2 h => check_m0 (rqO m [(imL, t)]) v mt w1 h1 (show (1 : Nat) ≤ 100 by decide) h2 hv hmt (hlw k) (o1u t) (o1f t) (o1m t) (o1n t) (by rw [show (rqO m [(imL, t)]).fs = [(imL, t)] from rfl, o1a]; omega) (by rw [show (rqO m [(imL, t)]).fs = [(imL, t)] from rfl, o1b]; decide) h)
      have HC3 : Hid (∀ (R : Ending → World → Prop) (w1 : World) (A' : Option Addr) (c' : Nat), Kp [] w w1 → Rd w1 [] A' ([(inL, 87 :: 47 :: t)].flatMap fldC) → 1 ≤ c' → (∀ w', Kp [] w1 w' → R (.returned (.int .i64 (if m = [71, 69, 84] then 304 else 412))) w') → Calls Tryd.prog 21 #[.agg #[.string (S m), .string (S []), .int .i64 1, .slice A' 1 c', .bool false], .bool true, .int .i64 v, .int .i64 mt] w1 R) := Lib.hid (by
        intro R w1 A' c' k h1 h2 h
        first
        | exact check_nr (rqO m [(inL, 87 :: 47 :: t)]) v mt w1 h1 (show (1 : Nat) ≤ 100 by decide) h2 hv hmt (hlw k) (o2u _) (o2f _) (o2m _) (o2n _) (by rw [show (rqO m [(inL, 87 :: 47 :: t)]).fs = [(inL, 87 :: 47 :: t)] from rfl, o2b]; decide) (by rw [show (rqO m [(inL, 87 :: 47 :: t)]).fs = [(inL, 87 :: 47 :: t)] from rfl, o2a]; simp; omega) (by rw [show (rqO m [(inL, 87 :: 47 :: t)]).fs = [(inL, 87 :: 47 :: t)] from rfl, o2a]; exact hmt2) (.inl (by rw [show (rqO m [(inL, 87 :: 47 :: t)]).m = m from rfl, ← hm]; rfl)) (by rw [if_pos (by rw [← hm]; rfl)] at h; exact h)
        | exact check_nw (rqO m [(inL, 87 :: 47 :: t)]) v mt w1 h1 (show (1 : Nat) ≤ 100 by decide) h2 hv hmt (hlw k) (o2u _) (o2f _) (o2m _) (o2n _) (by rw [show (rqO m [(inL, 87 :: 47 :: t)]).fs = [(inL, 87 :: 47 :: t)] from rfl, o2b]; decide) (by rw [show (rqO m [(inL, 87 :: 47 :: t)]).fs = [(inL, 87 :: 47 :: t)] from rfl, o2a]; simp; omega) (by rw [show (rqO m [(inL, 87 :: 47 :: t)]).fs = [(inL, 87 :: 47 :: t)] from rfl, o2a]; exact hmt2) (by rw [show (rqO m [(inL, 87 :: 47 :: t)]).m = m from rfl, ← hm]; rfl) (by rw [show (rqO m [(inL, 87 :: 47 :: t)]).m = m from rfl, ← hm]; rfl) (by rw [if_neg (by rw [← hm]; decide)] at h; exact h))
      have HC4 : Hid (∀ (R : Ending → World → Prop) (w1 : World) (A' : Option Addr) (c' : Nat), Kp [] w w1 → Rd w1 [] A' ([(inL, 87 :: 47 :: t)].flatMap fldC) → 1 ≤ c' → (∀ w', Kp [] w1 w' → R (.returned (.int .i64 0)) w') → Calls Tryd.prog 21 #[.agg #[.string (S m), .string (S []), .int .i64 1, .slice A' 1 c', .bool false], .bool false, .int .i64 v, .int .i64 mt] w1 R) := Lib.hid (fun R w1 A' c' k h1 h2 h => check_n0 (rqO m [(inL, 87 :: 47 :: t)]) v mt w1 h1 (show (1 : Nat) ≤ 100 by decide) h2 hv hmt (hlw k) (o2u _) (o2f _) (o2m _) (o2n _) (by rw [show (rqO m [(inL, 87 :: 47 :: t)]).fs = [(inL, 87 :: 47 :: t)] from rfl, o2b]; decide) (by rw [show (rqO m [(inL, 87 :: 47 :: t)]).fs = [(inL, 87 :: 47 :: t)] from rfl, o2a]; simp; omega) h)
      have HC5 : Hid (∀ (R : Ending → World → Prop) (w1 : World) (A' : Option Addr) (c' : Nat), Kp [] w w1 → Rd w1 [] A' ([(rgL, s), (irL, t)].flatMap fldC) → 2 ≤ c' → (∀ w', Kp [] w1 w' → R (.returned (.bool (m == [71, 69, 84]))) w') → Calls Tryd.prog 22 #[.agg #[.string (S m), .string (S []), .int .i64 1, .slice A' 2 c', .bool false], .int .i64 v, .int .i64 mt] w1 R) := Lib.hid (by
        intro R w1 A' c' k h1 h2 h
        first
        | exact ranged_tag (rqO m [(rgL, s), (irL, t)]) v mt (bb ++ [34]) w1 h1 (show (2 : Nat) ≤ 100 by decide) h2 (by omega) hmt (hlw k) (by rw [← hm]; rfl) (o3g _ _) (o3i _ _) (by rw [show (rqO m [(rgL, s), (irL, t)]).fs = [(rgL, s), (irL, t)] from rfl, o3a]; exact HTX.out) (by have e := congrArg List.length HTX.out; simp only [List.length_append, List.length_cons, List.length_nil] at e ⊢; omega) (by rw [← HTX.out, HHT.out, show (t == t) = true by simp]; rw [show (m == [71, 69, 84]) = true by rw [← hm]; rfl] at h; exact h)
        | exact ranged_put (rqO m [(rgL, s), (irL, t)]) v mt w1 h1 (show (2 : Nat) ≤ 100 by decide) h2 (by rw [show (rqO m [(rgL, s), (irL, t)]).m = m from rfl, ← hm]; rfl) (o3g _ _) (by rw [show (m == [71, 69, 84]) = false by rw [← hm]; rfl] at h; exact h))
      have HC6 : Hid (∀ (R : Ending → World → Prop) (w1 : World) (A' : Option Addr) (c' : Nat), Kp [] w w1 → Rd w1 [] A' ([(rgL, s), (irL, t)].flatMap fldC) → 2 ≤ c' → (∀ w', Kp [] w1 w' → R (.returned (.bool false)) w') → Calls Tryd.prog 22 #[.agg #[.string (S m), .string (S []), .int .i64 1, .slice A' 2 c', .bool false], .int .i64 (v + 1), .int .i64 mt] w1 R) := Lib.hid (by
        intro R w1 A' c' k h1 h2 h
        first
        | exact ranged_tag (rqO m [(rgL, s), (irL, t)]) (v + 1) mt (bb ++ [34]) w1 h1 (show (2 : Nat) ≤ 100 by decide) h2 (by omega) hmt (hlw k) (by rw [← hm]; rfl) (o3g _ _) (o3i _ _) (by rw [show (rqO m [(rgL, s), (irL, t)]).fs = [(rgL, s), (irL, t)] from rfl, o3a]; exact HTX.out) (by have e := congrArg List.length HTX.out; simp only [List.length_append, List.length_cons, List.length_nil] at e ⊢; omega) (by rw [← HTX.out, ← HHT.out, HNX.out]; exact h)
        | exact ranged_put (rqO m [(rgL, s), (irL, t)]) (v + 1) mt w1 h1 (show (2 : Nat) ≤ 100 by decide) h2 (by rw [show (rqO m [(rgL, s), (irL, t)]).m = m from rfl, ← hm]; rfl) (o3g _ _) h)
      clear hbf hmt1 hmt2 ht hlw hb44 hbo
      first
      | (have hcI : (if m = [71, 69, 84] then (304 : Int) else 412) = 412 := by rw [if_neg (by rw [← hm]; decide)]
         have heB : (m == [71, 69, 84]) = false := by rw [← hm]; rfl
         rw [hcI] at HC3; rw [heB] at HC5; clear hcI heB)
      | (have hcI : (if m = [71, 69, 84] then (304 : Int) else 412) = 304 := by rw [if_pos (by rw [← hm]; rfl)]
         have heB : (m == [71, 69, 84]) = true := by rw [← hm]; rfl
         rw [hcI] at HC3; rw [heB] at HC5; clear hcI heB)
      go_upto_region 12 with (fail)
      refine gen_worldC (fun W' => ∃ f, Kp [] w W' ∧ Bk W' g 37 (rqL m (some ⟨f, 0, none⟩) 1) ∧ Rd W' [] (some ⟨f, 0, none⟩) ([(imL, t)].flatMap fldC) ∧ f = W1.heap.size) ⟨_, (KW1.out.setCell (.inr hg) _).alloc _, ((BW1.out.set_ 3 _).alloc _).cast rfl, Rd.of_bk ((Bk.newAt (by simp) _ _).cast rfl) (by simp), rfl⟩ ?_
      rintro V10 ⟨f10, kV, bV, rV, hf10⟩
      rw [← hf10]
      clear hf10
      have KV10 := Lib.hid kV
      have BV10 := Lib.hid bV
      have RV10 := Lib.hid rV
      have HB10 : Hid (∀ w', Kp [] V10 w' → w'.cell? ⟨g, 0, none⟩ = some (.string (S m)) ∧ w'.cell? ⟨g, 1, none⟩ = some (.string ⟨#[]⟩) ∧ w'.cell? ⟨g, 2, none⟩ = some (.int .i64 1) ∧ w'.cell? ⟨g, 3, none⟩ = some (.slice (some ⟨f10, 0, none⟩) 1 1) ∧ w'.cell? ⟨g, 4, none⟩ = some (.bool false)) := Lib.hid (fun w' k' => (bk5 (BV10.out.kp k' (by simp))).1)
      clear kV bV rV
      obtain ⟨p100, p101, p102, p103, p104⟩ := HB10.out _ (Kp.refl _ _)
      go_upto_region 13 with (first | (go_at_call 14; ((refine HOf.out _ [(imL, t)] (some ⟨f10, 0, none⟩) 1 _ (show 1 ≤ 10 by decide) RV10.out ?_); intro A10 c10 v10 k10 rd10 n10)) | (go_at_call 21; ((refine HC1.out _ _ _ _ (KV10.out.trans k10) rd10 n10 ?_); intro v11 j11; have J11 := Lib.hid (k10.trans j11); clear k10 j11)))
      obtain ⟨p110, p111, p112, p113, p114⟩ := HB10.out _ J11.out
      go_upto_region 14 with (first | (go_at_call 14; ((refine HOf.out _ [(imL, t)] (some ⟨f10, 0, none⟩) 1 _ (show 1 ≤ 10 by decide) (RV10.out.kp J11.out (by simp)) ?_); intro A11 c11 v12 k12 rd12 n12)) | (go_at_call 21; ((refine HC2.out _ _ _ _ ((KV10.out.trans J11.out).trans k12) rd12 n12 ?_); intro v13 j13; have J13 := Lib.hid ((J11.out.trans k12).trans j13); clear k12 j13)))
      have KX10 := Lib.hid (KV10.out.trans J13.out)
      have BX10 := Lib.hid (BV10.out.kp J13.out (by simp))
      obtain ⟨⟨x100, x101, x102, x103, x104⟩, ⟨y100, y101, y102, y103, y104⟩⟩ := bk5 BX10.out
      have hlx10 := BX10.out.lt
      go_upto_region 15 with (fail)
      refine gen_worldC (fun W' => ∃ f, Kp [] w W' ∧ Bk W' g 37 (rqL m (some ⟨f, 0, none⟩) 1) ∧ Rd W' [] (some ⟨f, 0, none⟩) ([(inL, 87 :: 47 :: t)].flatMap fldC) ∧ f = v13.heap.size) ⟨_, (KX10.out.setCell (.inr hg) _).alloc _, ((BX10.out.set_ 3 _).alloc _).cast rfl, Rd.of_bk ((Bk.newAt (by simp) _ _).cast rfl) (by simp), rfl⟩ ?_
      rintro V20 ⟨f20, kV, bV, rV, hf20⟩
      rw [← hf20]
      clear hf20
      have KV20 := Lib.hid kV
      have BV20 := Lib.hid bV
      have RV20 := Lib.hid rV
      have HB20 : Hid (∀ w', Kp [] V20 w' → w'.cell? ⟨g, 0, none⟩ = some (.string (S m)) ∧ w'.cell? ⟨g, 1, none⟩ = some (.string ⟨#[]⟩) ∧ w'.cell? ⟨g, 2, none⟩ = some (.int .i64 1) ∧ w'.cell? ⟨g, 3, none⟩ = some (.slice (some ⟨f20, 0, none⟩) 1 1) ∧ w'.cell? ⟨g, 4, none⟩ = some (.bool false)) := Lib.hid (fun w' k' => (bk5 (BV20.out.kp k' (by simp))).1)
      clear kV bV rV
      obtain ⟨p200, p201, p202, p203, p204⟩ := HB20.out _ (Kp.refl _ _)
      go_upto_region 16 with (first | (go_at_call 14; ((refine HOf.out _ [(inL, 87 :: 47 :: t)] (some ⟨f20, 0, none⟩) 1 _ (show 1 ≤ 10 by decide) RV20.out ?_); intro A20 c20 v20 k20 rd20 n20)) | (go_at_call 21; ((refine HC3.out _ _ _ _ (KV20.out.trans k20) rd20 n20 ?_); intro v21 j21; have J21 := Lib.hid (k20.trans j21); clear k20 j21)))
      obtain ⟨p210, p211, p212, p213, p214⟩ := HB20.out _ J21.out
      go_upto_region 17 with (first | (go_at_call 14; ((refine HOf.out _ [(inL, 87 :: 47 :: t)] (some ⟨f20, 0, none⟩) 1 _ (show 1 ≤ 10 by decide) (RV20.out.kp J21.out (by simp)) ?_); intro A21 c21 v22 k22 rd22 n22)) | (go_at_call 21; ((refine HC4.out _ _ _ _ ((KV20.out.trans J21.out).trans k22) rd22 n22 ?_); intro v23 j23; have J23 := Lib.hid ((J21.out.trans k22).trans j23); clear k22 j23)))
      have KX20 := Lib.hid (KV20.out.trans J23.out)
      have BX20 := Lib.hid (BV20.out.kp J23.out (by simp))
      obtain ⟨⟨x200, x201, x202, x203, x204⟩, ⟨y200, y201, y202, y203, y204⟩⟩ := bk5 BX20.out
      have hlx20 := BX20.out.lt
      go_upto_region 18 with (fail)
      refine gen_worldC (fun W' => ∃ f, Kp [] w W' ∧ Bk W' g 37 (rqL m (some ⟨f, 0, none⟩) 2) ∧ Rd W' [] (some ⟨f, 0, none⟩) ([(rgL, s), (irL, t)].flatMap fldC) ∧ f = v23.heap.size) ⟨_, (KX20.out.setCell (.inr hg) _).alloc _, ((BX20.out.set_ 3 _).alloc _).cast rfl, Rd.of_bk ((Bk.newAt (by simp) _ _).cast rfl) (by simp), rfl⟩ ?_
      rintro V30 ⟨f30, kV, bV, rV, hf30⟩
      rw [← hf30]
      clear hf30
      have KV30 := Lib.hid kV
      have BV30 := Lib.hid bV
      have RV30 := Lib.hid rV
      have HB30 : Hid (∀ w', Kp [] V30 w' → w'.cell? ⟨g, 0, none⟩ = some (.string (S m)) ∧ w'.cell? ⟨g, 1, none⟩ = some (.string ⟨#[]⟩) ∧ w'.cell? ⟨g, 2, none⟩ = some (.int .i64 1) ∧ w'.cell? ⟨g, 3, none⟩ = some (.slice (some ⟨f30, 0, none⟩) 2 2) ∧ w'.cell? ⟨g, 4, none⟩ = some (.bool false)) := Lib.hid (fun w' k' => (bk5 (BV30.out.kp k' (by simp))).1)
      clear kV bV rV
      obtain ⟨p300, p301, p302, p303, p304⟩ := HB30.out _ (Kp.refl _ _)
      go_upto_region 19 with (first | (go_at_call 14; ((refine HOf.out _ [(rgL, s), (irL, t)] (some ⟨f30, 0, none⟩) 2 _ (show 2 ≤ 10 by decide) RV30.out ?_); intro A30 c30 v30 k30 rd30 n30)) | (go_at_call 22; ((refine HC5.out _ _ _ _ (KV30.out.trans k30) rd30 n30 ?_); intro v31 j31; have J31 := Lib.hid (k30.trans j31); clear k30 j31)))
      obtain ⟨p310, p311, p312, p313, p314⟩ := HB30.out _ J31.out
      go_wp2_with (first | (go_at_call 14; ((refine HOf.out _ [(rgL, s), (irL, t)] (some ⟨f30, 0, none⟩) 2 _ (show 2 ≤ 10 by decide) (RV30.out.kp J31.out (by simp)) ?_); intro A31 c31 v32 k32 rd32 n32)) | (go_at_call 22; ((refine HC6.out _ _ _ _ ((KV30.out.trans J31.out).trans k32) rd32 n32 ?_); intro v33 j33; have J33 := Lib.hid ((J31.out.trans k32).trans j33); clear k32 j33)))
      first | exact H.out _ (KV30.out.trans J33.out) | exact H.out _ (KV30.out.trans J31.out)
  · have h2 : 300 < s.length := by omega
    clear hs2
    go_enter Tryd.func5, Tryd.ntmps5
    go_wp2_with (go_at_call 19; ((refine alive26_any _ hw ?_); intro w1 k1))
    exact H.out _ k1
end Go.Proofs.YtjjigngighneeaaDoor
