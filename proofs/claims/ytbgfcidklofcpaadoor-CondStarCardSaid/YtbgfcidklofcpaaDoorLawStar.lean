/- CondStar walked. -/
import Derived.Test.YtbgfcidklofcpaaDoorCkr
import Derived.Test.YtbgfcidklofcpaaDoorLawCond
import Derived.Test.YtbgfcidklofcpaaDoorReqBd
namespace Go.Proofs.YtbgfcidklofcpaaDoor
open Go.RowKit Go.Shelf
set_option linter.unusedVariables false
set_option linter.unusedSimpArgs false
set_option maxRecDepth 100000

def rqGet : Req := ⟨[71, 69, 84], [], 1, [(imL, [42])], false⟩
def rqPut : Req := ⟨[80, 85, 84], [], 1, [(inL, [32, 42, 32])], false⟩
def rqHead : Req := ⟨[72, 69, 65, 68], [], 1, [(inL, [32, 42, 32])], false⟩
theorem match_star (t : List UInt8) : matchM [42] t false = true := by
  unfold matchM; rw [show (trimL [42] == [42]) = true by decide +kernel]; rfl
theorem match_star2 (t : List UInt8) : matchM [32, 42, 32] t true = true := by
  unfold matchM; rw [show (trimL [32, 42, 32] == [42]) = true by decide +kernel]; rfl
theorem dec_dig : ∀ (k n : Nat), n < 10 ^ (k + 1) → ∀ c ∈ decL n, 48 ≤ c.toNat ∧ c.toNat ≤ 57 := by
  intro k
  induction k with
  | zero =>
    intro n h c hc
    rw [decL_small (by simpa using h)] at hc
    obtain rfl := List.mem_singleton.1 hc
    rw [UInt8.toNat_ofNat']; omega
  | succ k ih =>
    intro n h c hc
    by_cases h1 : n < 10
    · rw [decL_small h1] at hc
      obtain rfl := List.mem_singleton.1 hc
      rw [UInt8.toNat_ofNat']; omega
    · rw [decL_big h1] at hc
      rcases List.mem_append.1 hc with hc | hc
      · exact ih (n / 10) (by rw [Nat.pow_succ] at h; omega) c hc
      · obtain rfl := List.mem_singleton.1 hc
        rw [UInt8.toNat_ofNat']; omega
theorem itoa_dig {v : Int} (h0 : 0 ≤ v) (h1 : v ≤ 4294967295) : ∀ c ∈ itoaL v, 48 ≤ c.toNat ∧ c.toNat ≤ 57 := by
  obtain ⟨n, rfl⟩ : ∃ n : Nat, v = n := ⟨v.toNat, by omega⟩
  rw [itoaL_nat]
  exact dec_dig 9 n (by omega)
theorem tag_form {v m : Int} (hv : 0 ≤ v ∧ v ≤ 4294967295) (hm : 0 ≤ m ∧ m ≤ 4294967295) : ∃ b : List UInt8, tagL v m = 34 :: (b ++ [34]) ∧ (44 : UInt8) ∉ b := by
  refine ⟨118 :: (itoaL v ++ 45 :: itoaL m), by unfold tagL; simp, ?_⟩
  intro h
  rcases List.mem_cons.1 h with h | h
  · revert h; decide
  · rcases List.mem_append.1 h with h | h
    · have := itoa_dig hv.1 hv.2 _ h; revert this; decide
    · rcases List.mem_cons.1 h with h | h
      · revert h; decide
      · have := itoa_dig hm.1 hm.2 _ h; revert this; decide
theorem trim_same {a z : UInt8} {l : List UInt8} (ha : blkB a = false) (hz : blkB z = false) : trimL (a :: (l ++ [z])) = a :: (l ++ [z]) := by
  rw [trimL_eq]
  rw [List.dropWhile_cons_of_neg (by simp [ha])]
  unfold rdropB
  rw [show (a :: (l ++ [z])).reverse = z :: (l.reverse ++ [a]) by simp, List.dropWhile_cons_of_neg (by simp [hz])]
  simp
theorem trim_lead {z : UInt8} {a : UInt8} {l : List UInt8} (ha : blkB a = false) (hz : blkB z = false) : trimL (32 :: a :: (l ++ [z])) = a :: (l ++ [z]) := by
  rw [trimL_eq]
  rw [List.dropWhile_cons_of_pos (by decide), List.dropWhile_cons_of_neg (by simp [ha])]
  unfold rdropB
  rw [show (a :: (l ++ [z])).reverse = z :: (l.reverse ++ [a]) by simp, List.dropWhile_cons_of_neg (by simp [hz])]
  simp
theorem match_not {b : List UInt8} (hb : (44 : UInt8) ∉ b) (t : List UInt8) : matchM ((34 :: (b ++ [34])) ++ ([44, 32] ++ ((34 :: (b ++ [34])) ++ [120]))) t true = false := by
  have e0 : (34 :: (b ++ [34])) ++ ([44, 32] ++ ((34 :: (b ++ [34])) ++ [120])) = 34 :: ((b ++ [34] ++ [44, 32] ++ 34 :: (b ++ [34])) ++ [120]) := by simp
  have e1 : (34 :: (b ++ [34])) ++ ([44, 32] ++ ((34 :: (b ++ [34])) ++ [120])) = (34 :: (b ++ [34])) ++ 44 :: (32 :: 34 :: ((b ++ [34]) ++ [120])) := by simp
  have h1 : (trimL ((34 :: (b ++ [34])) ++ ([44, 32] ++ ((34 :: (b ++ [34])) ++ [120]))) == [42]) = false := by
    rw [e0, trim_same (by decide) (by decide)]; rfl
  have hs : spl 44 ((34 :: (b ++ [34])) ++ 44 :: (32 :: 34 :: ((b ++ [34]) ++ [120]))) = [34 :: (b ++ [34]), 32 :: 34 :: ((b ++ [34]) ++ [120])] := by
    rw [spl_cut (by simp [hb]), spl_one (by simp [hb])]
  have hx : (34 :: ((b ++ [34]) ++ [120])) ∈ itemsL ((34 :: (b ++ [34])) ++ 44 :: (32 :: 34 :: ((b ++ [34]) ++ [120]))) := by
    unfold itemsL
    rw [hs, List.mem_flatMap]
    refine ⟨32 :: 34 :: ((b ++ [34]) ++ [120]), by simp, ?_⟩
    unfold oneI
    rw [trim_lead (by decide) (by decide), if_neg (by simp)]
    simp
  have ht : tg (34 :: ((b ++ [34]) ++ [120])) = false := by
    refine tg_f (not_tag (i := b.length + 2) (x := 120) ?_ ?_)
    · unfold stripW
      rw [if_neg (by simp)]
      simp [List.getElem?_append]
    · unfold stripW
      rw [if_neg (by simp)]
      unfold Good
      rw [if_pos (by right; simp)]
      decide
  unfold matchM
  rw [h1, Bool.false_or, e1]
  have ha : (itemsL ((34 :: (b ++ [34])) ++ 44 :: (32 :: 34 :: ((b ++ [34]) ++ [120])))).all tg = false := by
    rw [List.all_eq_false]; exact ⟨_, hx, by rw [ht]; exact Bool.false_ne_true⟩
  rw [ha]; rfl
theorem match_mono (l t : List UInt8) (h : matchM l t false = true) : matchM l t true = true := by
  unfold matchM at *
  rcases Bool.or_eq_true _ _ ▸ h with h | h
  · rw [h]; rfl
  · rw [Bool.and_eq_true] at h
    rw [h.1]
    have : (itemsL l).any (hitB t true) = true := by
      rw [List.any_eq_true] at h ⊢
      obtain ⟨x, hx, hh⟩ := h.2
      refine ⟨x, hx, ?_⟩
      unfold hitB at *
      simp at hh ⊢
      exact .inl hh
    rw [this]; simp
set_option maxHeartbeats 8000000 in
theorem star_walk {R : Ending → World → Prop} (v mt : Int) (s : List UInt8) (w : World) (hv : 0 ≤ v ∧ v ≤ 4294967295) (hmt : 0 ≤ mt ∧ mt ≤ 4294967295) (hs : s.length ≤ 9223372036854775807) (hw : Lw w) (h : ∀ w', Kp [] w w' → R (.returned (.bool true)) w') :
    Calls Tryd.prog 6 #[.int .u32 v, .int .u32 mt, .string (S s)] w R := by
  have H := Lib.hid h
  clear h
  by_cases hs2 : s.length ≤ 300
  · go_enter Tryd.func6, Tryd.ntmps6
    go_upto_region 9 with (go_at_call 24; ((refine alive26_any _ hw ?_); intro w1 k1; have K1 := Lib.hid k1; clear k1))
    refine gen_world (fun W => Kp [] w W ∧ Bk W w1.heap.size 55 (fldC (imL, [42])) ∧ Bk W (w1.heap.size + 1) 24 [.string ⟨#[71, 69, 84]⟩, .string ⟨#[]⟩, .int .i64 1, .slice (some ⟨w1.heap.size, 0, none⟩) 1 1, .bool false] ∧ Bk W (w1.heap.size + 1 + 1) 55 (fldC (inL, [32, 42, 32])) ∧ Bk W (w1.heap.size + 1 + 1 + 1) 24 [.string ⟨#[80, 85, 84]⟩, .string ⟨#[]⟩, .int .i64 1, .slice (some ⟨w1.heap.size + 1 + 1, 0, none⟩) 1 1, .bool false] ∧ Bk W (w1.heap.size + 1 + 1 + 1 + 1) 24 [.string ⟨#[72, 69, 65, 68]⟩, .string ⟨#[]⟩, .int .i64 1, .slice (some ⟨w1.heap.size + 1 + 1, 0, none⟩) 1 1, .bool false]) ⟨((((K1.out.alloc _).alloc _).alloc _).alloc _).alloc _, (((((Bk.newAt rfl _ _).alloc _).alloc _).alloc _).alloc _).cast rfl, (((((Bk.newAt (by simp) _ _).alloc _).alloc _).alloc _)).cast rfl, ((((Bk.newAt (by simp) _ _).alloc _).alloc _)).cast rfl, (((Bk.newAt (by simp) _ _).alloc _)).cast rfl, (Bk.newAt (by simp) _ _).cast rfl⟩ ?_
    rintro W ⟨kW, a1, a2, a3, a4, a5⟩
    generalize w1.heap.size + 1 + 1 + 1 + 1 = b9 at a5 ⊢
    generalize w1.heap.size + 1 + 1 + 1 = b8 at a4 ⊢
    generalize w1.heap.size + 1 + 1 = f2 at a3 a4 a5 ⊢
    generalize w1.heap.size + 1 = b7 at a2 ⊢
    generalize w1.heap.size = f1 at a1 a2 ⊢
    have Rf1 : Rd W [] (some ⟨f1, 0, none⟩) (rqGet.fs.flatMap fldC) := Rd.of_bk a1 (by simp)
    have Rf2 : Rd W [] (some ⟨f2, 0, none⟩) (rqPut.fs.flatMap fldC) := Rd.of_bk a3 (by simp)
    have Rf2' : Rd W [] (some ⟨f2, 0, none⟩) (rqHead.fs.flatMap fldC) := Rf2
    obtain ⟨t, ht⟩ : ∃ t, tagL v mt = t := ⟨_, rfl⟩
    obtain ⟨bb, hbf, hbn⟩ := tag_form hv hmt
    have htl : t.length ≤ 100 := by
      have e1 := itoaL_len v (by omega) (by omega)
      have e2 := itoaL_len mt (by omega) (by omega)
      rw [← ht]; unfold tagL; simp; omega
    have hmn : matchM (t ++ ([44, 32] ++ (t ++ [120]))) t true = false := by
      rw [← ht, hbf]; exact match_not hbn _
    obtain ⟨m1, hm1⟩ : ∃ b, matchM s t false = b := ⟨_, rfl⟩
    obtain ⟨m2, hm2⟩ : ∃ b, matchM s t true = b := ⟨_, rfl⟩
    have hmm : m1 = true → m2 = true := fun h => by rw [← hm2]; exact match_mono s t (by rw [hm1]; exact h)
    have HMM := Lib.hid hmm
    have HT : Hid (∀ (R : Ending → World → Prop) (w1 : World), Lw w1 → (∀ w', Kp [] w1 w' → R (.returned (.string (S t))) w') → Calls Tryd.prog 25 #[.int .i64 v, .int .i64 mt] w1 R) := Lib.hid (fun R w1 h1 h => tag_any v mt w1 hv hmt h1 (by rw [ht]; exact h))
    have HN : Hid (∀ (R : Ending → World → Prop) (w1 : World) (l : List UInt8), l = t ++ ([44, 32] ++ (t ++ [120])) → Ml w1 → (∀ w', Kp [] w1 w' → R (.returned (.bool false)) w') → Calls Tryd.prog 27 #[.string (S l), .string (S t), .bool true] w1 R) := Lib.hid (fun R w1 l e h1 h => by subst e; exact match_any _ t true w1 (by simp; omega) (by omega) h1 (by rw [hmn]; exact h))
    have HL1 : Hid (∀ (R : Ending → World → Prop) (w1 : World), Ml w1 → (∀ w', Kp [] w1 w' → R (.returned (.bool m1)) w') → Calls Tryd.prog 27 #[.string (S s), .string (S t), .bool false] w1 R) := Lib.hid (fun R w1 h1 h => match_any s t false w1 (by omega) (by omega) h1 (by rw [hm1]; exact h))
    have HL2 : Hid (∀ (R : Ending → World → Prop) (w1 : World), Ml w1 → (∀ w', Kp [] w1 w' → R (.returned (.bool m2)) w') → Calls Tryd.prog 27 #[.string (S s), .string (S t), .bool true] w1 R) := Lib.hid (fun R w1 h1 h => match_any s t true w1 (by omega) (by omega) h1 (by rw [hm2]; exact h))
    have HO1 : Hid (∀ (R : Ending → World → Prop) (w1 : World), Kp [] W w1 → (∀ A' c' w', Kp [] w1 w' → Rd w' [] A' (rqGet.fs.flatMap fldC) → 1 ≤ c' → R (.returned (.agg #[.string (S [71, 69, 84]), .string (S []), .int .i64 1, .slice A' 1 c', .bool false])) w') → Calls Tryd.prog 9 #[.agg #[.string ⟨#[71, 69, 84]⟩, .string ⟨#[]⟩, .int .i64 1, .slice (some ⟨f1, 0, none⟩) 1 1, .bool false]] w1 R) := Lib.hid (fun R w1 k h => of24_any rqGet w1 (Rf1.kp k (by simp)) (by decide) (fun A' c' w' a b _ d => h A' c' w' a b d))
    have HO2 : Hid (∀ (R : Ending → World → Prop) (w1 : World), Kp [] W w1 → (∀ A' c' w', Kp [] w1 w' → Rd w' [] A' (rqPut.fs.flatMap fldC) → 1 ≤ c' → R (.returned (.agg #[.string (S [80, 85, 84]), .string (S []), .int .i64 1, .slice A' 1 c', .bool false])) w') → Calls Tryd.prog 9 #[.agg #[.string ⟨#[80, 85, 84]⟩, .string ⟨#[]⟩, .int .i64 1, .slice (some ⟨f2, 0, none⟩) 1 1, .bool false]] w1 R) := Lib.hid (fun R w1 k h => of24_any rqPut w1 (Rf2.kp k (by simp)) (by decide) (fun A' c' w' a b _ d => h A' c' w' a b d))
    have HO3 : Hid (∀ (R : Ending → World → Prop) (w1 : World), Kp [] W w1 → (∀ A' c' w', Kp [] w1 w' → Rd w' [] A' (rqHead.fs.flatMap fldC) → 1 ≤ c' → R (.returned (.agg #[.string (S [72, 69, 65, 68]), .string (S []), .int .i64 1, .slice A' 1 c', .bool false])) w') → Calls Tryd.prog 9 #[.agg #[.string ⟨#[72, 69, 65, 68]⟩, .string ⟨#[]⟩, .int .i64 1, .slice (some ⟨f2, 0, none⟩) 1 1, .bool false]] w1 R) := Lib.hid (fun R w1 k h => of24_any rqHead w1 (Rf2'.kp k (by simp)) (by decide) (fun A' c' w' a b _ d => h A' c' w' a b d))
    have HC1 : Hid (∀ (R : Ending → World → Prop) (w1 : World) (A' : Option Addr) (c' : Nat), Kp [] w w1 → Rd w1 [] A' (rqGet.fs.flatMap fldC) → 1 ≤ c' → (∀ w', Kp [] w1 w' → R (.returned (.int .i64 0)) w') → Calls Tryd.prog 26 #[.agg #[.string (S [71, 69, 84]), .string (S []), .int .i64 1, .slice A' 1 c', .bool false], .bool true, .int .i64 v, .int .i64 mt] w1 R) := Lib.hid (fun R w1 A' c' k h1 h2 h => check_m rqGet v mt w1 h1 (by decide) h2 hv hmt (hw.kp k) (by decide +kernel) (by decide +kernel) (by decide +kernel) (by decide +kernel) (by decide +kernel) (by decide +kernel) (by rw [show allF rqGet.fs imL = [42] by decide +kernel]; exact match_star _) h)
    have HC2 : Hid (∀ (R : Ending → World → Prop) (w1 : World) (A' : Option Addr) (c' : Nat), Kp [] w w1 → Rd w1 [] A' (rqPut.fs.flatMap fldC) → 1 ≤ c' → (∀ w', Kp [] w1 w' → R (.returned (.int .i64 412)) w') → Calls Tryd.prog 26 #[.agg #[.string (S [80, 85, 84]), .string (S []), .int .i64 1, .slice A' 1 c', .bool false], .bool true, .int .i64 v, .int .i64 mt] w1 R) := Lib.hid (fun R w1 A' c' k h1 h2 h => check_nw rqPut v mt w1 h1 (by decide) h2 hv hmt (hw.kp k) (by decide +kernel) (by decide +kernel) (by decide +kernel) (by decide +kernel) (by decide +kernel) (by decide +kernel) (by rw [show allF rqPut.fs inL = [32, 42, 32] by decide +kernel]; exact match_star2 _) (by decide) (by decide) h)
    have HC3 : Hid (∀ (R : Ending → World → Prop) (w1 : World) (A' : Option Addr) (c' : Nat), Kp [] w w1 → Rd w1 [] A' (rqHead.fs.flatMap fldC) → 1 ≤ c' → (∀ w', Kp [] w1 w' → R (.returned (.int .i64 304)) w') → Calls Tryd.prog 26 #[.agg #[.string (S [72, 69, 65, 68]), .string (S []), .int .i64 1, .slice A' 1 c', .bool false], .bool true, .int .i64 v, .int .i64 mt] w1 R) := Lib.hid (fun R w1 A' c' k h1 h2 h => check_nr rqHead v mt w1 h1 (by decide) h2 hv hmt (hw.kp k) (by decide +kernel) (by decide +kernel) (by decide +kernel) (by decide +kernel) (by decide +kernel) (by decide +kernel) (by rw [show allF rqHead.fs inL = [32, 42, 32] by decide +kernel]; exact match_star2 _) (by right; decide) h)
    have HBX : Hid (∀ w', Kp [] W w' → (w'.cell? ⟨b7, 0, none⟩ = some (.string ⟨#[71, 69, 84]⟩) ∧ w'.cell? ⟨b7, 1, none⟩ = some (.string ⟨#[]⟩) ∧ w'.cell? ⟨b7, 2, none⟩ = some (.int .i64 1) ∧ w'.cell? ⟨b7, 3, none⟩ = some (.slice (some ⟨f1, 0, none⟩) 1 1) ∧ w'.cell? ⟨b7, 4, none⟩ = some (.bool false)) ∧ (w'.cell? ⟨b8, 0, none⟩ = some (.string ⟨#[80, 85, 84]⟩) ∧ w'.cell? ⟨b8, 1, none⟩ = some (.string ⟨#[]⟩) ∧ w'.cell? ⟨b8, 2, none⟩ = some (.int .i64 1) ∧ w'.cell? ⟨b8, 3, none⟩ = some (.slice (some ⟨f2, 0, none⟩) 1 1) ∧ w'.cell? ⟨b8, 4, none⟩ = some (.bool false)) ∧ (w'.cell? ⟨b9, 0, none⟩ = some (.string ⟨#[72, 69, 65, 68]⟩) ∧ w'.cell? ⟨b9, 1, none⟩ = some (.string ⟨#[]⟩) ∧ w'.cell? ⟨b9, 2, none⟩ = some (.int .i64 1) ∧ w'.cell? ⟨b9, 3, none⟩ = some (.slice (some ⟨f2, 0, none⟩) 1 1) ∧ w'.cell? ⟨b9, 4, none⟩ = some (.bool false))) := Lib.hid (fun w' k' => ⟨(bk5 (a2.kp k' (by simp))).1, (bk5 (a4.kp k' (by simp))).1, (bk5 (a5.kp k' (by simp))).1⟩)
    have KW := Lib.hid kW
    have wv : IntKind.i64.wrap v = v := wrap_ok (by omega) (by omega)
    have wm : IntKind.i64.wrap mt = mt := wrap_ok (by omega) (by omega)
    have K0 := Lib.hid (Kp.refl [] W)
    clear a1 a2 a3 a4 a5 Rf1 Rf2 Rf2' kW hm1 hm2 hmm hmn hbf hbn ht
    go_upto_region 10 with (go_at_call 25; ((refine HT.out _ _ (hw.kp KW.out) ?_); intro w2 k2; have K2 := Lib.hid (K0.out.trans k2); clear k2))
    obtain ⟨⟨x0, x1, x2, x3, x4⟩, ⟨y0, y1, y2, y3, y4⟩, ⟨z0, z1, z2, z3, z4⟩⟩ := HBX.out w2 K2.out
    cases m1 <;> cases m2
    all_goals
      first
      | (exact absurd (HMM.out rfl) Bool.false_ne_true)
      | (go_wp2_with (first | (go_at_call 9; ((with_reducible refine HO1.out _ _ K2.out ?_); intro A3 c3 w3 k3 rd3 nc3; have K3 := Lib.hid (K2.out.trans k3); have RD3 := Lib.hid rd3; clear k3 rd3)) | (go_at_call 26; ((with_reducible refine HC1.out _ _ _ _ (KW.out.trans K3.out) RD3.out nc3 ?_); intro w4 k4; have K4 := Lib.hid (K3.out.trans k4); obtain ⟨_, ⟨y0, y1, y2, y3, y4⟩, _⟩ := HBX.out w4 K4.out; clear k4)) | (go_at_call 9; ((with_reducible refine HO2.out _ _ K4.out ?_); intro A5 c5 w5 k5 rd5 nc5; have K5 := Lib.hid (K4.out.trans k5); have RD5 := Lib.hid rd5; clear k5 rd5)) | (go_at_call 26; ((with_reducible refine HC2.out _ _ _ _ (KW.out.trans K5.out) RD5.out nc5 ?_); intro w6 k6; have K6 := Lib.hid (K5.out.trans k6); obtain ⟨_, _, ⟨z0, z1, z2, z3, z4⟩⟩ := HBX.out w6 K6.out; clear k6)) | (go_at_call 9; ((with_reducible refine HO3.out _ _ K6.out ?_); intro A7 c7 w7 k7 rd7 nc7; have K7 := Lib.hid (K6.out.trans k7); have RD7 := Lib.hid rd7; clear k7 rd7)) | (go_at_call 26; ((with_reducible refine HC3.out _ _ _ _ (KW.out.trans K7.out) RD7.out nc7 ?_); intro w8 k8; have K8 := Lib.hid (K7.out.trans k8); clear k8)) | (go_at_call 27; ((with_reducible refine HL1.out _ _ (hw.kp (KW.out.trans K9.out)).ml ?_); intro w10 k10; have K10 := Lib.hid (K9.out.trans k10); clear k10)) | (go_at_call 27; ((with_reducible refine HL2.out _ _ (hw.kp (KW.out.trans K10.out)).ml ?_); intro w11 k11; have K11 := Lib.hid (K10.out.trans k11); clear k11)) | (go_at_call 27; ((refine HN.out _ _ _ (by simp) (hw.kp (KW.out.trans K8.out)).ml ?_); intro w9 k9; have K9 := Lib.hid (K8.out.trans k9); clear k9)))
         first | exact H.out _ (KW.out.trans K11.out) | exact H.out _ (KW.out.trans K10.out))
  · have h2 : 300 < s.length := by omega
    clear hs2
    go_enter Tryd.func6, Tryd.ntmps6
    go_wp2_with (go_at_call 24; ((refine alive26_any _ hw ?_); intro w1 k1))
    exact H.out _ k1
end Go.Proofs.YtbgfcidklofcpaaDoor
