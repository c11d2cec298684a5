/- The document's table: a frame is taken. The document's table: any call does what the program's does. -/
import Derived.Test.YtedblbpmlbjnhaaGreatPE21
import Derived.Test.YtedblbpmlbjnhaaGreatPE22
import Derived.Test.YtedblbpmlbjnhaaGreatPE23
import Derived.Test.YtedblbpmlbjnhaaGreatPE24
import Derived.Test.YtedblbpmlbjnhaaGreatPE25
namespace Go.Proofs.YtedblbpmlbjnhaaGreat
/-! ### The document's table: a frame is taken. -/
section
open Go.RowKit
set_option linter.unusedVariables false
set_option linter.unusedSimpArgs false
set_option maxRecDepth 100000
section
variable {R : Ending → World → Prop} {bM bO bH bB : Nat} {fs : List Fr} {w : World}
set_option maxHeartbeats 1600000 in
theorem rdo_alloc (hT : RT w bM bO bH bB fs) (e f o n : Int) (s : ByteArray) (he : e = 1 ∨ e = 2)
    (h : ∀ g er fs' w', Hid (tAlloc fs e = (g, er, fs')) → Kp [bO, bH, bB] w w' → RT w' bM bO bH bB fs' → R (.returned (.tuple #[.int .i64 g, .string ⟨#[]⟩, .int .i64 er])) w') :
    Calls Tryz.prog 54 #[.pointer (some ⟨bM, 0, none⟩), .agg #[.int .i64 0, .int .i64 e, .int .i64 f, .int .i64 o, .int .i64 n, .string s]] w R := by
  have H := Lib.hid h
  clear h
  have hn := hT.n1
  have HT := Lib.hid hT
  have HE := Lib.hid (show envB e = true by rcases he with rfl | rfl <;> rfl)
  clear hT
  rcases he with rfl | rfl
  all_goals
    go_enter Tryz.func54, Tryz.ntmps54
    go_upto_region 1 with (fail)
    refine gen_world (fun W => Kp [] w W ∧ RT W bM bO bH bB fs ∧ Bk W w.heap.size 132 [.int .i64 0, .int .i64 _, .int .i64 f, .int .i64 o, .int .i64 n, .string s]) ⟨(Kp.refl _ _).alloc _, HT.out.kp ((Kp.refl [] w).alloc _) (by simp) (by simp) (by simp) (by simp), Bk.newAt rfl _ _⟩ ?_
    rintro W ⟨kW, tW, bW⟩
    obtain ⟨cc0, cc1, cc2, ht⟩ := tW.t
    have q0 := ht.cell 0
    have c0 := bW.cell 0
    have c1 := bW.cell 1
    simp only [List.getElem?_cons_zero, List.getElem?_cons_succ] at q0 c0 c1
    have TW := Lib.hid tW
    have KW := Lib.hid kW
    clear tW kW ht bW
    go_wp2
    go_loop [8] (fun iv => ∃ k : Nat, k ≤ fs.length ∧ iv = .int .i64 k ∧ Hid ((fs.take k).findIdx? (fun x => x.ow == 0) = none)) (fun iv => fs.length - (intOf iv).toNat)
    case atStart => exact ⟨0, Nat.zero_le _, rfl, rfl⟩
    case round =>
      obtain ⟨k, hk, rfl, hf⟩ := hrel
      by_cases hlt : k < fs.length
      · have hx : fs[k]? = some fs[k] := List.getElem?_eq_getElem hlt
        have hc2 := TW.out.ow hx
        have hz2 := TW.out.o.frozen k
        generalize fs[k] = x at hx hc2
        have HX := Lib.hid hx
        clear hx
        cases hb : (x.ow == 0)
        · have HF : Hid ((fs.take (k + 1)).findIdx? (fun x => x.ow == 0) = none) := Lib.hid (find_next (p := fun x => x.ow == 0) hf.out HX.out hb)
          go_wp2
          exact ⟨⟨k + 1, by omega, by go_num, HF⟩, by simp [intOf]; omega⟩
        · have HA : ∀ e, Hid (envB e = true) → Hid (tAlloc fs e = ((k : Int), 0, fs.set k { x with ow := e })) := fun e he => Lib.hid (by simp [tAlloc, he.out, find_first (p := fun x => x.ow == 0) hf.out HX.out hb, HX.out])
          go_wp2
          go_region
          all_goals go_wp2
          all_goals go_ret3
          all_goals exact H.out _ _ _ _ (HA _ HE) (by have k3 : Kp [bO, bH, bB] w W := KW.out.mono (by simp)
                                                      repeat first | exact k3 | refine Kp.setCell ?_ (.inl (by simp)) _ | refine Kp.drewN ?_ _ | refine Kp.drew ?_) (by repeat first | exact TW.out | refine RT.putOw ?_ HX.out _ | refine RT.drewN ?_ _ | refine RT.drew ?_)
      · have HA : ∀ e, Hid (envB e = true) → Hid (tAlloc fs e = (0, 10, fs)) := fun e he => Lib.hid (by
          have h2 := hf.out
          rw [List.take_of_length_le (by omega)] at h2
          simp [tAlloc, he.out, h2])
        go_wp2
        go_ret3
        exact H.out _ _ _ _ (HA _ HE) (KW.out.mono (by simp)) TW.out
end
end
/-! ### The document's table: any call does what the program's does. -/
section
open Go.RowKit
set_option linter.unusedVariables false
set_option linter.unusedSimpArgs false
set_option maxRecDepth 100000
section
variable {R : Ending → World → Prop} {bM bO bH bB : Nat} {fs : List Fr} {w : World}
/-- What holds of a table: holds are from 0 to m, a frame that is held is somebody's. -/
structure Fok (m : Int) (fs : List Fr) : Prop where
  ho : ∀ x ∈ fs, 0 ≤ x.ho ∧ x.ho ≤ m
  pg : ∀ x ∈ fs, x.bs.length = 256
theorem cut_same {l : List UInt8} {o n : Int} (h1 : 0 ≤ o) (h2 : 0 ≤ n) : (l.take (o + n).toNat).drop o.toNat = cutB l o n := by
  unfold cutB
  rw [List.drop_take, show (o + n).toNat - o.toNat = n.toNat by omega]
theorem env_of {e : Int} (h : envB e = true) : e = 1 ∨ e = 2 := by
  unfold envB at h; have := of_decide_eq_true h; omega
theorem env_not {e : Int} (h : envB e = false) : e ≠ 1 ∧ e ≠ 2 := by
  unfold envB at h; have := of_decide_eq_false h; omega
theorem env3 (e : Int) : e = 1 ∨ e = 2 ∨ (e ≠ 1 ∧ e ≠ 2) := by omega
theorem fz_eq {x : Fr} (h : x.ho = 0) : { x with ow := 0, bs := zB } = fz := by
  unfold fz; rw [h]; rfl
theorem rdo_any (hT : RT w bM bO bH bB fs) (a : Ac) {m : Int} (hm : m ≤ 1000000000) (hF : Fok m fs) (k0 : 0 ≤ a.k) (k7 : a.k ≤ 7) (o1 : -9223372036854775808 ≤ a.o) (o2 : a.o ≤ 9223372036854775807)
    (h : ∀ n s e fs' w', Hid (dDo fs a = ⟨n, s, e, fs'⟩) → Kp [bO, bH, bB] w w' → RT w' bM bO bH bB fs' → R (.returned (.tuple #[.int .i64 n, .string ⟨s.toArray⟩, .int .i64 e])) w') :
    Calls Tryz.prog 54 #[.pointer (some ⟨bM, 0, none⟩), .agg #[.int .i64 a.k, .int .i64 a.e, .int .i64 a.f, .int .i64 a.o, .int .i64 a.n, .string a.s]] w R := by
  obtain ⟨k, e, f, o, n, s⟩ := a
  simp only at *
  have up : ∀ {w' : World}, Kp [] w w' → Kp [bO, bH, bB] w w' := fun hk => hk.mono (by simp)
  have tk : ∀ {w' : World}, Kp [] w w' → RT w' bM bO bH bB fs := fun hk => hT.kp hk (by simp) (by simp) (by simp) (by simp)
  have hle := hT.n1
  by_cases k6 : k < 6
  · cases he : envB e with
    | false =>
      refine rdo_env k e f o n s k0 (by omega) (env_not he) (fun w' hk => h 0 [] 1 fs w' ?_ (up hk) (tk hk))
      have hq : ownE fs e f = 1 := by unfold ownE; rw [he]; rfl
      unfold Hid dDo
      simp only
      (repeat' split) <;> first | (simp [tAlloc, tFree, tGive, tRead, tWrite, tHold, quietE, hq, he]; done) | omega
    | true =>
      have he2 := env_of he
      by_cases hk0 : k = 0
      · subst hk0
        refine rdo_alloc hT e f o n s he2 (fun g er fs' w' q1 q2 q3 => h g [] er fs' w' ?_ q2 q3)
        unfold Hid dDo
        simp [q1.out]
      · cases hx : fat fs f with
        | none =>
          refine rdo_rng hT k e f o n s (by omega) k7 (fun _ => he2) (fat_none hx) (fun w' hk => h 0 [] 1 fs w' ?_ (up hk) (tk hk))
          have hq : ownE fs e f = 1 := by unfold ownE; rw [he, hx]; rfl
          unfold Hid dDo
          simp only
          (repeat' split) <;> simp [tAlloc, tFree, tGive, tRead, tWrite, tHold, quietE, hq, he] <;> omega
        | some x =>
          obtain ⟨f0, hi⟩ := fat_some hx
          obtain ⟨i, rfl⟩ : ∃ i : Nat, f = i := ⟨f.toNat, by omega⟩
          rw [Int.toNat_natCast] at hi
          by_cases how : x.ow = e
          · have hq : ownE fs e i = 0 := by unfold ownE; rw [he, hx]; simp [how]
            have hho := hF.ho x (List.mem_of_getElem? hi)
            have hpg := hF.pg x (List.mem_of_getElem? hi)
            have hkk : k = 1 ∨ k = 2 ∨ k = 3 ∨ k = 4 ∨ k = 5 := by omega
            rcases hkk with rfl | rfl | rfl | rfl | rfl
            · by_cases hb : 0 < x.ho
              · exact rdo_busy1 hT e o n i s x hi he2 how hb (fun w' hk hr => h 0 [] 21 fs w' (by unfold Hid dDo; simp [tFree, quietE, hq, hx, hb]) (up hk) hr)
              · refine rdo_free hT e o n i s x hi he2 how (by omega) (fun w' hk hr => h 0 [] 0 _ w' (by unfold Hid dDo; simp [tFree, quietE, hq, hx, hb] <;> rfl) hk ?_)
                rw [fz_eq (by omega)] at hr; exact hr
            · cases hn : envB n with
              | false =>
                have := env_not hn
                exact rdo_to hT e o n i s x hi he2 how this.1 this.2 (fun w' hk hr => h 0 [] 1 fs w' (by unfold Hid dDo; simp [tGive, hq, hn]) (up hk) hr)
              | true =>
                by_cases hb : 0 < x.ho
                · exact rdo_busy2 hT e o n i s x hi he2 how (env_of hn) hb (fun w' hk hr => h 0 [] 21 fs w' (by unfold Hid dDo; simp [tGive, hq, hn, hx, hb]) (up hk) hr)
                · exact rdo_give hT e o n i s x hi he2 how (env_of hn) (by omega) (fun w' hk hr => h 0 [] 0 _ w' (by unfold Hid dDo; simp [tGive, hq, hn, hx, hb] <;> rfl) hk hr)
            · cases hs : spanB o n with
              | false => exact rdo_span3 hT e o n i s x hi he2 how hs o1 o2 (fun w' hk hr => h 0 [] 1 fs w' (by unfold Hid dDo; simp [tRead, hq, hs]) (up hk) hr)
              | true =>
                have ⟨s1, s2, s3⟩ : 0 ≤ o ∧ 0 ≤ n ∧ o + n ≤ 256 := by simpa [spanB] using hs
                refine rdo_read hT e o n i s x hi he2 how hs o1 o2 hpg (fun w' hk hr => ?_)
                rw [cut_same s1 s2]
                exact h 0 (cutB x.bs o n) 0 fs w' (by unfold Hid dDo; simp [tRead, hq, hs, hx]) (up hk) hr
            · have hz : s.data.toList.length = s.size := by rw [Array.length_toList]; rfl
              cases hs : spanB o s.size with
              | false => exact rdo_span4 hT e o n i s x hi he2 how hs o1 o2 (fun w' hk hr => h 0 [] 1 fs w' (by unfold Hid dDo; simp only; rw [tWrite, hz, hs, hq]; simp) (up hk) hr)
              | true =>
                by_cases hb : 0 < x.ho
                · exact rdo_busy4 hT e o n i s x hi he2 how hs o1 o2 hb (fun w' hk hr => h 0 [] 21 fs w' (by unfold Hid dDo; simp only; rw [tWrite, hz, hs, hq, hx]; simp [hb]) (up hk) hr)
                · exact rdo_write hT e o n i s x hi he2 how hs o1 o2 (by omega) hpg (fun w' hk hr => h 0 [] 0 _ w' (by unfold Hid dDo; simp only; rw [tWrite, hz, hs, hq, hx]; simp [hb] <;> rfl) hk hr)
            · exact rdo_hold hT e o n i s x hi he2 how (by omega) (by omega) (fun w' hk hr => h 0 [] 0 _ w' (by unfold Hid dDo; simp [tHold, hq, hx] <;> rfl) hk hr)
          · refine rdo_own hT k e o n i s x hi (by omega) (by omega) he2 how (fun w' hk => h 0 [] 20 fs w' ?_ (up hk) (tk hk))
            have hq : ownE fs e i = 20 := by unfold ownE; rw [he, hx]; simp [how]
            unfold Hid dDo
            simp only
            (repeat' split) <;> simp [tAlloc, tFree, tGive, tRead, tWrite, tHold, quietE, hq, he] <;> omega
  · cases hx : fat fs f with
    | none =>
      refine rdo_rng hT k e f o n s (by omega) k7 (fun h => absurd h k6) (fat_none hx) (fun w' hk => h 0 [] 1 fs w' ?_ (up hk) (tk hk))
      have hq : heldE fs f = 1 := by unfold heldE; rw [hx]
      have hkk : k = 6 ∨ k = 7 := by omega
      unfold Hid dDo
      rcases hkk with rfl | rfl <;> simp [tDrop, tFetch, hq]
    | some x =>
      obtain ⟨f0, hi⟩ := fat_some hx
      obtain ⟨i, rfl⟩ : ∃ i : Nat, f = i := ⟨f.toNat, by omega⟩
      rw [Int.toNat_natCast] at hi
      have hho := hF.ho x (List.mem_of_getElem? hi)
      have hpg := hF.pg x (List.mem_of_getElem? hi)
      have hkk : k = 6 ∨ k = 7 := by omega
      by_cases h0 : x.ho = 0
      · have hq : heldE fs i = 1 := by unfold heldE; rw [hx]; simp [h0]
        rcases hkk with rfl | rfl
        · exact rdo_unh6 hT e o n i s x hi (env3 e) h0 (fun w' hk hr => h 0 [] 1 fs w' (by unfold Hid dDo; simp [tDrop, hq]) (up hk) hr)
        · exact rdo_unh7 hT e o n i s x hi (env3 e) h0 (fun w' hk hr => h 0 [] 1 fs w' (by unfold Hid dDo; simp [tFetch, hq]) (up hk) hr)
      · have hq : heldE fs i = 0 := by unfold heldE; rw [hx]; simp [h0]
        rcases hkk with rfl | rfl
        · exact rdo_drop hT e o n i s x hi (env3 e) h0 (by omega) (by omega) (fun w' hk hr => h 0 [] 0 _ w' (by unfold Hid dDo; simp [tDrop, hq, hx] <;> rfl) hk hr)
        · cases hs : spanB o n with
          | false => exact rdo_span7 hT e o n i s x hi (env3 e) h0 hs o1 o2 (fun w' hk hr => h 0 [] 1 fs w' (by unfold Hid dDo; simp [tFetch, hq, hs]) (up hk) hr)
          | true =>
            have ⟨s1, s2, s3⟩ : 0 ≤ o ∧ 0 ≤ n ∧ o + n ≤ 256 := by simpa [spanB] using hs
            refine rdo_fetch hT e o n i s x hi (env3 e) h0 hs o1 o2 hpg (fun w' hk hr => ?_)
            rw [cut_same s1 s2]
            exact h 0 (cutB x.bs o n) 0 fs w' (by unfold Hid dDo; simp [tFetch, hq, hs, hx]) (up hk) hr
end
end
end Go.Proofs.YtedblbpmlbjnhaaGreat
