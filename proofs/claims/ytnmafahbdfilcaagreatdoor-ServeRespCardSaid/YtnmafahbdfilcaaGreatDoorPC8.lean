/- Package respond: the answer to what is none, walked. -/
import Derived.Test.YtnmafahbdfilcaaGreatDoorPC7
import Derived.Deep.RegionHeldLaw
namespace Go.Proofs.YtnmafahbdfilcaaGreatDoor
/-! ### Package respond: the answer to what is none, walked. -/
section
open Go.RowKit
set_option linter.unusedVariables false
set_option linter.unusedSimpArgs false
set_option maxRecDepth 100000

/-- The statuses of what is no request. -/
def okS (st : Int) : Prop := st = 400 ∨ st = 414 ∨ st = 431 ∨ st = 501 ∨ st = 505
def bodyT (st : Int) : List UInt8 := decL st.toNat ++ 32 :: (rsnL st ++ [10])
def ansC (st now : Int) (A : Option Addr) (n c : Nat) : List Value := [.int .i64 st, .int .i64 1, .bool true, .int .i64 0, .int .i64 0, .int .i64 0, .string ⟨#[]⟩, .int .i64 now, .slice none 0 0, .slice A n c]
theorem bk10 {w : World} {g tt : Nat} {a b c d e f k l m n : Value} (h : Bk w g tt [a, b, c, d, e, f, k, l, m, n]) : (w.cell? ⟨g, 0, none⟩ = some a ∧ w.cell? ⟨g, 1, none⟩ = some b ∧ w.cell? ⟨g, 2, none⟩ = some c ∧ w.cell? ⟨g, 3, none⟩ = some d ∧ w.cell? ⟨g, 4, none⟩ = some e ∧ w.cell? ⟨g, 5, none⟩ = some f ∧ w.cell? ⟨g, 6, none⟩ = some k ∧ w.cell? ⟨g, 7, none⟩ = some l ∧ w.cell? ⟨g, 8, none⟩ = some m ∧ w.cell? ⟨g, 9, none⟩ = some n) ∧ w.frozen? ⟨g, 9, none⟩ = false :=
  ⟨⟨h.cell 0, h.cell 1, h.cell 2, h.cell 3, h.cell 4, h.cell 5, h.cell 6, h.cell 7, h.cell 8, h.cell 9⟩, h.frozen 9⟩
theorem dec3 {n : Nat} (h : n ≤ 9999) : (decL n).length ≤ 10 := by have := decL_len (k := 4) n (by omega); omega
theorem elt_part : Elt Tryz.prog 29 40 (.agg #[.string ByteArray.empty, .int .i64 0, .int .i64 0]) 3 32 := ⟨Tryz.underlying29, by kernel_rfl, rfl, by decide, by decide⟩
theorem part_one (t : List UInt8) : ∀ u ∈ partC t, u.oneCell' = true := by
  intro u hu
  simp only [partC, List.mem_cons, List.not_mem_nil, or_false] at hu
  rcases hu with rfl | rfl | rfl <;> rfl
set_option maxHeartbeats 4000000 in
theorem lay_any {R : Ending → World → Prop} (st now : Int) (g : Nat) (w : World) (hst : okS st) (hw : Lw w) (hb : Bk w g 75 (ansC st now none 0 0))
    (h : ∀ A c w', Kp [g] w w' → Bk w' g 75 (ansC st now A 1 c) → Rd w' [g] A (partC (bodyT st)) → R (.returned (.tuple #[])) w') : Calls Tryz.prog 47 #[.pointer (some ⟨g, 0, none⟩)] w R := by
  have H := Lib.hid h
  obtain ⟨⟨p0, p1, p2, p3, p4, p5, p6, p7, p8, p9⟩, f9⟩ := bk10 hb
  have B := Lib.hid hb
  obtain ⟨k, rfl⟩ : ∃ k : Nat, st = k := ⟨st.toNat, by unfold okS at hst; omega⟩
  have hk : k ≤ 9999 := by unfold okS at hst; omega
  have n1 : ¬ (k : Int) = 200 := by unfold okS at hst; omega
  have n2 : ¬ (k : Int) = 206 := by unfold okS at hst; omega
  have n3 : ¬ (k : Int) = 304 := by unfold okS at hst; omega
  obtain ⟨rs, hrs⟩ : ∃ rs, rsnL (k : Int) = rs := ⟨_, rfl⟩
  have hrl : rs.length ≤ 40 := by rw [← hrs]; exact rsn_len _
  have hdl := dec3 hk
  have HI : Hid (∀ (R : Ending → World → Prop) (w : World), Lw w → (∀ w', Kp [] w w' → R (.returned (.string (S (decL k)))) w') → Calls Tryz.prog 77 #[.int .i64 k] w R) := Lib.hid (fun R w a b => itoa_any k w (by omega) a b)
  have HRs : Hid (∀ (R : Ending → World → Prop) (w : World), R (.returned (.string (S rs))) w → Calls Tryz.prog 16 #[.int .i64 k] w R) := Lib.hid (fun R w h => reason_any k w (by rw [hrs]; exact h))
  have HBT : Hid (bodyT k = decL k ++ 32 :: (rs ++ [10])) := Lib.hid (by unfold bodyT; rw [hrs, Int.toNat_natCast])
  obtain ⟨ds, hds⟩ : ∃ ds, decL k = ds := ⟨_, rfl⟩
  rw [hds] at hdl HI HBT
  clear h hst hb hrs hds
  have HSK : Hid (∀ w', Kp [] w w' → w'.cell? ⟨g, 0, none⟩ = some (.int .i64 k)) := Lib.hid (fun w' k' => (B.out.kp k' (by simp)).cell 0)
  have HI2 : Hid (∀ (R : Ending → World → Prop) (w1 : World), Kp [] w w1 → (∀ w', Kp [] w1 w' → Kp [] w w' → R (.returned (.string (S ds))) w') → Calls Tryz.prog 77 #[.int .i64 k] w1 R) := Lib.hid (fun R w1 k h => HI.out R w1 (hw.kp k) (fun w' a => h w' a (k.trans a)))
  go_enter Tryz.func47, Tryz.ntmps47
  go_upto_region 2 with (fail)
  go_region_held_law (fun w' => w'.cell? ⟨g, 0, none⟩ = some (.int .i64 k)) (first | exact HSK.out _ (by assumption) | exact HSK.out _ (Kp.alloc (by assumption) _) | exact HSK.out _ (Kp.refl [] _).drew) (first | (go_simp; go_at_call 77; (refine HI2.out _ _ (by first | assumption | exact (Kp.refl [] _).drew) ?_); intro w1 j1 k1) | (go_simp; go_at_call 16; (refine HRs.out _ _ ?_)))
  all_goals
    go_wp2
    obtain ⟨T, hT⟩ : ∃ T, ds ++ 32 :: (rs ++ [10]) = T := ⟨_, rfl⟩
    have hTl : T.length ≤ 100 := by rw [← hT]; simp; omega
    have hTn : (T == []) = false := by rw [← hT]; cases ds <;> rfl
    have hTp : 0 < T.length := by rw [← hT]; simp only [List.length_append, List.length_cons]; omega
    rw [hT] at HBT ⊢
    refine gen_worldC (fun W => ∃ f, w1.heap.size = f ∧ Kp [] w W ∧ Bk W g 75 (ansC k now none 0 0) ∧ Bk W f 40 (partC T)) ⟨_, rfl, k1.alloc _, (B.out.kp k1 (by simp)).alloc _, (Bk.new' _ _ _).cast rfl⟩ ?_
    rintro W ⟨f, hf, kW, bW, bf⟩
    rw [hf]
    clear hf hT
    obtain ⟨⟨x0, x1, x2, x3, x4, x5, x6, x7, x8, x9⟩, y9⟩ := bk10 bW
    have e0 := bf.cell 0
    have e1 := bf.cell 1
    have e2 := bf.cell 2
    simp only [partC, List.getElem?_cons_zero, List.getElem?_cons_succ] at e0 e1 e2
    have KW := Lib.hid kW
    have BW := Lib.hid bW
    clear kW bW bf k1 j1
    refine wp_loop_rounds 2 ?_
    rw [rounds_succ]
    go_upto_region 20 with (fail)
    refine gen_worldC (fun W' => ∃ pb, W.heap.size = pb ∧ Kp [] w W' ∧ Bk W' g 75 (ansC k now none 0 0) ∧ Bk W' pb 40 (partC T)) ⟨_, rfl, KW.out.alloc _, BW.out.alloc _, (Bk.new' _ _ _).cast rfl⟩ ?_
    rintro W2 ⟨pb, hpb, kW2, bW2, bp2⟩
    rw [hpb]
    clear hpb x0 x1 x2 x3 x4 x5 x6 x7 x8 x9 y9 e0 e1 e2 p0 p1 p2 p3 p4 p5 p6 p7 p8 p9 f9
    obtain ⟨⟨x0, x1, x2, x3, x4, x5, x6, x7, x8, x9⟩, y9⟩ := bk10 bW2
    have e0 := bp2.cell 0
    have e1 := bp2.cell 1
    have e2 := bp2.cell 2
    simp only [partC, List.getElem?_cons_zero, List.getElem?_cons_succ] at e0 e1 e2
    have KW2 := Lib.hid kW2
    have BW2 := Lib.hid bW2
    have BP2 := Lib.hid bp2
    have hltg := bW2.lt
    have hltp := bp2.lt
    have x9a : ∀ o, (W2.drew.alloc o).cell? ⟨g, 9, none⟩ = some (.slice none 0 0) := fun o => (bW2.drew.alloc o).cell 9
    clear kW2 bW2 bp2
    go_region_law (refine step_app rfl (.tmp 108) (.tmp 110) _ rfl elt_part none 0 0 [] (by simp [Act.eval, Act.put]) Ow.nil [] (some ⟨W2.heap.size, 0, none⟩) 1 1 (partC T) (by simp [Act.eval, Act.put]) (Rd.of_bk (Bk.newAt rfl _ _) (by simp)) rfl (part_one _) (by omega) ?_; intro A3 c3 w5 ho5 hk5 hA5; have b5 := (BW2.out.drew.alloc _).kp hk5 (by simp [bks]); have g9 := b5.cell 9; have h9 := b5.frozen 9; have hlt9 := b5.lt; simp only [ansC, List.getElem?_cons_zero, List.getElem?_cons_succ] at g9)
    all_goals
      go_wp2
      rw [rounds_succ]
      go_wp2
      go_end0
      have kfin : Kp [] w w5 := (KW2.out.drew.alloc _).trans hk5
      refine H.out A3 c3 _ ((kfin.mono (by simp)).setCell (p := ⟨g, 9, none⟩) (.inl (by simp)) _) ((b5.set_ 9 _).cast rfl) ?_
      refine Rd.kp (ho5.rd (N := [g]) ?_) (S := [g]) ((Kp.refl _ _).setCell (p := ⟨g, 9, none⟩) (.inl (by simp)) _) (fun s hs => .inl hs) |> fun h => by rw [HBT.out]; exact h
      rcases hA5 with rfl | rfl
      · simp [bks]
      · simp [bks]; omega
end
end Go.Proofs.YtnmafahbdfilcaaGreatDoor
