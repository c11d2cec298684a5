/- The document's table: any call does what the program's does. pantlerref09: Call, the ops that ask the table or the disk. -/
import Derived.Test.YtedblbpmlbjnhaaGreatPD30
import Derived.Test.YtedblbpmlbjnhaaGreatPD31
import Derived.Test.YtedblbpmlbjnhaaGreatPD32
import Derived.Test.YtedblbpmlbjnhaaGreatPD29
import Derived.Test.YtedblbpmlbjnhaaGreatPD28
import Derived.Deep.RegionHeldLaw
namespace Go.Proofs.YtedblbpmlbjnhaaGreat
/-! ### The document's table: any call does what the program's does. -/
section
open Go.RowKit
set_option linter.unusedVariables false
set_option linter.unusedSimpArgs false
set_option maxRecDepth 100000
section
variable {R : Ending → World → Prop} {bM bO bH bB : Nat} {fs : List Fr} {w : World}
/-- What holds of a table: holds are from 0 to m, a frame that is held is somebody's. -/
structure Fok (m : Int) (fs : List Fr) : Prop where
  ho : ∀ x ∈ fs, 0 ≤ x.ho ∧ x.ho ≤ m
  pg : ∀ x ∈ fs, x.bs.length = 256
theorem cut_same {l : List UInt8} {o n : Int} (h1 : 0 ≤ o) (h2 : 0 ≤ n) : (l.take (o + n).toNat).drop o.toNat = cutB l o n := by
  unfold cutB
  rw [List.drop_take, show (o + n).toNat - o.toNat = n.toNat by omega]
theorem env_of {e : Int} (h : envB e = true) : e = 1 ∨ e = 2 := by
  unfold envB at h; have := of_decide_eq_true h; omega
theorem env_not {e : Int} (h : envB e = false) : e ≠ 1 ∧ e ≠ 2 := by
  unfold envB at h; have := of_decide_eq_false h; omega
theorem env3 (e : Int) : e = 1 ∨ e = 2 ∨ (e ≠ 1 ∧ e ≠ 2) := by omega
theorem fz_eq {x : Fr} (h : x.ho = 0) : { x with ow := 0, bs := zB } = fz := by
  unfold fz; rw [h]; rfl
theorem rdo_any (hT : RT w bM bO bH bB fs) (a : Ac) {m : Int} (hm : m ≤ 1000000000) (hF : Fok m fs) (k0 : 0 ≤ a.k) (k7 : a.k ≤ 7) (o1 : -9223372036854775808 ≤ a.o) (o2 : a.o ≤ 9223372036854775807)
    (h : ∀ n s e fs' w', Hid (dDo fs a = ⟨n, s, e, fs'⟩) → Kp [bO, bH, bB] w w' → RT w' bM bO bH bB fs' → R (.returned (.tuple #[.int .i64 n, .string ⟨s.toArray⟩, .int .i64 e])) w') :
    Calls Tryz.prog 54 #[.pointer (some ⟨bM, 0, none⟩), .agg #[.int .i64 a.k, .int .i64 a.e, .int .i64 a.f, .int .i64 a.o, .int .i64 a.n, .string a.s]] w R := by
  obtain ⟨k, e, f, o, n, s⟩ := a
  simp only at *
  have up : ∀ {w' : World}, Kp [] w w' → Kp [bO, bH, bB] w w' := fun hk => hk.mono (by simp)
  have tk : ∀ {w' : World}, Kp [] w w' → RT w' bM bO bH bB fs := fun hk => hT.kp hk (by simp) (by simp) (by simp) (by simp)
  have hle := hT.n1
  by_cases k6 : k < 6
  · cases he : envB e with
    | false =>
      refine rdo_env k e f o n s k0 (by omega) (env_not he) (fun w' hk => h 0 [] 1 fs w' ?_ (up hk) (tk hk))
      have hq : ownE fs e f = 1 := by unfold ownE; rw [he]; rfl
      unfold Hid dDo
      simp only
      (repeat' split) <;> first | (simp [tAlloc, tFree, tGive, tRead, tWrite, tHold, quietE, hq, he]; done) | omega
    | true =>
      have he2 := env_of he
      by_cases hk0 : k = 0
      · subst hk0
        refine rdo_alloc hT e f o n s he2 (fun g er fs' w' q1 q2 q3 => h g [] er fs' w' ?_ q2 q3)
        unfold Hid dDo
        simp [q1.out]
      · cases hx : fat fs f with
        | none =>
          refine rdo_rng hT k e f o n s (by omega) k7 (fun _ => he2) (fat_none hx) (fun w' hk => h 0 [] 1 fs w' ?_ (up hk) (tk hk))
          have hq : ownE fs e f = 1 := by unfold ownE; rw [he, hx]; rfl
          unfold Hid dDo
          simp only
          (repeat' split) <;> simp [tAlloc, tFree, tGive, tRead, tWrite, tHold, quietE, hq, he] <;> omega
        | some x =>
          obtain ⟨f0, hi⟩ := fat_some hx
          obtain ⟨i, rfl⟩ : ∃ i : Nat, f = i := ⟨f.toNat, by omega⟩
          rw [Int.toNat_natCast] at hi
          by_cases how : x.ow = e
          · have hq : ownE fs e i = 0 := by unfold ownE; rw [he, hx]; simp [how]
            have hho := hF.ho x (List.mem_of_getElem? hi)
            have hpg := hF.pg x (List.mem_of_getElem? hi)
            have hkk : k = 1 ∨ k = 2 ∨ k = 3 ∨ k = 4 ∨ k = 5 := by omega
            rcases hkk with rfl | rfl | rfl | rfl | rfl
            · by_cases hb : 0 < x.ho
              · exact rdo_busy1 hT e o n i s x hi he2 how hb (fun w' hk hr => h 0 [] 21 fs w' (by unfold Hid dDo; simp [tFree, quietE, hq, hx, hb]) (up hk) hr)
              · refine rdo_free hT e o n i s x hi he2 how (by omega) (fun w' hk hr => h 0 [] 0 _ w' (by unfold Hid dDo; simp [tFree, quietE, hq, hx, hb] <;> rfl) hk ?_)
                rw [fz_eq (by omega)] at hr; exact hr
            · cases hn : envB n with
              | false =>
                have := env_not hn
                exact rdo_to hT e o n i s x hi he2 how this.1 this.2 (fun w' hk hr => h 0 [] 1 fs w' (by unfold Hid dDo; simp [tGive, hq, hn]) (up hk) hr)
              | true =>
                by_cases hb : 0 < x.ho
                · exact rdo_busy2 hT e o n i s x hi he2 how (env_of hn) hb (fun w' hk hr => h 0 [] 21 fs w' (by unfold Hid dDo; simp [tGive, hq, hn, hx, hb]) (up hk) hr)
                · exact rdo_give hT e o n i s x hi he2 how (env_of hn) (by omega) (fun w' hk hr => h 0 [] 0 _ w' (by unfold Hid dDo; simp [tGive, hq, hn, hx, hb] <;> rfl) hk hr)
            · cases hs : spanB o n with
              | false => exact rdo_span3 hT e o n i s x hi he2 how hs o1 o2 (fun w' hk hr => h 0 [] 1 fs w' (by unfold Hid dDo; simp [tRead, hq, hs]) (up hk) hr)
              | true =>
                have ⟨s1, s2, s3⟩ : 0 ≤ o ∧ 0 ≤ n ∧ o + n ≤ 256 := by simpa [spanB] using hs
                refine rdo_read hT e o n i s x hi he2 how hs o1 o2 hpg (fun w' hk hr => ?_)
                rw [cut_same s1 s2]
                exact h 0 (cutB x.bs o n) 0 fs w' (by unfold Hid dDo; simp [tRead, hq, hs, hx]) (up hk) hr
            · have hz : s.data.toList.length = s.size := by rw [Array.length_toList]; rfl
              cases hs : spanB o s.size with
              | false => exact rdo_span4 hT e o n i s x hi he2 how hs o1 o2 (fun w' hk hr => h 0 [] 1 fs w' (by unfold Hid dDo; simp only; rw [tWrite, hz, hs, hq]; simp) (up hk) hr)
              | true =>
                by_cases hb : 0 < x.ho
                · exact rdo_busy4 hT e o n i s x hi he2 how hs o1 o2 hb (fun w' hk hr => h 0 [] 21 fs w' (by unfold Hid dDo; simp only; rw [tWrite, hz, hs, hq, hx]; simp [hb]) (up hk) hr)
                · exact rdo_write hT e o n i s x hi he2 how hs o1 o2 (by omega) hpg (fun w' hk hr => h 0 [] 0 _ w' (by unfold Hid dDo; simp only; rw [tWrite, hz, hs, hq, hx]; simp [hb] <;> rfl) hk hr)
            · exact rdo_hold hT e o n i s x hi he2 how (by omega) (by omega) (fun w' hk hr => h 0 [] 0 _ w' (by unfold Hid dDo; simp [tHold, hq, hx] <;> rfl) hk hr)
          · refine rdo_own hT k e o n i s x hi (by omega) (by omega) he2 how (fun w' hk => h 0 [] 20 fs w' ?_ (up hk) (tk hk))
            have hq : ownE fs e i = 20 := by unfold ownE; rw [he, hx]; simp [how]
            unfold Hid dDo
            simp only
            (repeat' split) <;> simp [tAlloc, tFree, tGive, tRead, tWrite, tHold, quietE, hq, he] <;> omega
  · cases hx : fat fs f with
    | none =>
      refine rdo_rng hT k e f o n s (by omega) k7 (fun h => absurd h k6) (fat_none hx) (fun w' hk => h 0 [] 1 fs w' ?_ (up hk) (tk hk))
      have hq : heldE fs f = 1 := by unfold heldE; rw [hx]
      have hkk : k = 6 ∨ k = 7 := by omega
      unfold Hid dDo
      rcases hkk with rfl | rfl <;> simp [tDrop, tFetch, hq]
    | some x =>
      obtain ⟨f0, hi⟩ := fat_some hx
      obtain ⟨i, rfl⟩ : ∃ i : Nat, f = i := ⟨f.toNat, by omega⟩
      rw [Int.toNat_natCast] at hi
      have hho := hF.ho x (List.mem_of_getElem? hi)
      have hpg := hF.pg x (List.mem_of_getElem? hi)
      have hkk : k = 6 ∨ k = 7 := by omega
      by_cases h0 : x.ho = 0
      · have hq : heldE fs i = 1 := by unfold heldE; rw [hx]; simp [h0]
        rcases hkk with rfl | rfl
        · exact rdo_unh6 hT e o n i s x hi (env3 e) h0 (fun w' hk hr => h 0 [] 1 fs w' (by unfold Hid dDo; simp [tDrop, hq]) (up hk) hr)
        · exact rdo_unh7 hT e o n i s x hi (env3 e) h0 (fun w' hk hr => h 0 [] 1 fs w' (by unfold Hid dDo; simp [tFetch, hq]) (up hk) hr)
      · have hq : heldE fs i = 0 := by unfold heldE; rw [hx]; simp [h0]
        rcases hkk with rfl | rfl
        · exact rdo_drop hT e o n i s x hi (env3 e) h0 (by omega) (by omega) (fun w' hk hr => h 0 [] 0 _ w' (by unfold Hid dDo; simp [tDrop, hq, hx] <;> rfl) hk hr)
        · cases hs : spanB o n with
          | false => exact rdo_span7 hT e o n i s x hi (env3 e) h0 hs o1 o2 (fun w' hk hr => h 0 [] 1 fs w' (by unfold Hid dDo; simp [tFetch, hq, hs]) (up hk) hr)
          | true =>
            have ⟨s1, s2, s3⟩ : 0 ≤ o ∧ 0 ≤ n ∧ o + n ≤ 256 := by simpa [spanB] using hs
            refine rdo_fetch hT e o n i s x hi (env3 e) h0 hs o1 o2 hpg (fun w' hk hr => ?_)
            rw [cut_same s1 s2]
            exact h 0 (cutB x.bs o n) 0 fs w' (by unfold Hid dDo; simp [tFetch, hq, hs, hx]) (up hk) hr
end
end
/-! ### pantlerref09: Call, the ops that ask the table or the disk. -/
section
open Go.RowKit Go.Shelf
set_option linter.unusedVariables false
set_option linter.unusedSimpArgs false
set_option maxRecDepth 100000
/-- The document's call and the program's are the same. -/
structure KCl (x : Kc) (z : Cl) : Prop where
  op : x.op = z.op
  env : x.env = z.env
  a : x.a = z.a
  b : x.b = z.b
  c : x.c = z.c
  s : x.s = z.s.data.toList
  p : x.p = z.p.l
  l : x.l = z.l.l
/-- What the document's call keeps and answers. -/
def RcP (R : Ending → World → Prop) (w0 : World) (B : Nat) (w : World) (q : QA) (k' : KS) (n : Int) (l : List UInt8) (e : Int) : Prop :=
  ∀ q' w', Kp q.own w w' → Qn w0 B w' q' k' → q'.own = q.own → q'.bM = q.bM ∧ q'.bD = q.bD → R (.returned (.tuple #[.int .i64 n, .string (S l), .int .i64 e])) w'
section
variable {R : Ending → World → Prop} {w0 w : World} {B m : Nat} {q : QA} {k : KS}
theorem RcP.cast {k' k'' : KS} {n n' e e' : Int} {l l' : List UInt8} (h : RcP R w0 B w q k' n l e) (h1 : k' = k'') (h2 : n = n') (h3 : l = l') (h4 : e = e') : RcP R w0 B w q k'' n' l' e' := by subst h1; subst h2; subst h3; subst h4; exact h
set_option maxHeartbeats 4000000 in
theorem rc_1 (hQ : Qn w0 B w q k) (hF : Fok (16 * m) k.fs) (hm : m ≤ 10000) (c : Cl) (hi : i64B c.b) (he1 : 1 ≤ c.env) (he2 : c.env ≤ 2)
    (h : RcP R w0 B w q { k with fs := (dDo k.fs ⟨0, c.env, 0, 0, 0, ⟨#[]⟩⟩).fs } (dDo k.fs ⟨0, c.env, 0, 0, 0, ⟨#[]⟩⟩).n (dDo k.fs ⟨0, c.env, 0, 0, 0, ⟨#[]⟩⟩).s (dDo k.fs ⟨0, c.env, 0, 0, 0, ⟨#[]⟩⟩).e) :
    Calls Tryz.prog 11 #[.pointer (some ⟨q.g, 0, none⟩), .agg #[.int .i64 1, .int .i64 c.env, .int .i64 c.a, .int .i64 c.b, .int .i64 c.c, .string c.s, .slice c.p.A c.p.n c.p.c, .slice c.l.A c.l.n c.l.c]] w R := by
  have H := Lib.hid h
  have HQ := Lib.hid hQ
  have HD : Hid (∀ (R : Ending → World → Prop) (w1 : World), Kp [] w w1 → (∀ w', Kp [q.bO, q.bH, q.bB] w1 w' → RT w' q.bM q.bO q.bH q.bB (dDo k.fs ⟨0, c.env, 0, 0, 0, ⟨#[]⟩⟩).fs → R (.returned (.tuple #[.int .i64 (dDo k.fs ⟨0, c.env, 0, 0, 0, ⟨#[]⟩⟩).n, .string (S (dDo k.fs ⟨0, c.env, 0, 0, 0, ⟨#[]⟩⟩).s), .int .i64 (dDo k.fs ⟨0, c.env, 0, 0, 0, ⟨#[]⟩⟩).e])) w') →
      Calls Tryz.prog 54 #[.pointer (some ⟨q.bM, 0, none⟩), .agg #[.int .i64 0, .int .i64 c.env, .int .i64 0, .int .i64 0, .int .i64 0, .string ⟨#[]⟩]] w1 R) := Lib.hid (fun R w1 k1 h => rdo_any (hQ.kp k1).t ⟨0, c.env, 0, 0, 0, ⟨#[]⟩⟩ (m := 16 * m) (by omega) hF (by simp) (by simp) (by unfold i64B at hi; simp; try omega) (by unfold i64B at hi; simp; try omega) (fun n s e fs' w' hd kk ht => by
        have hd := hd.out
        rw [hd] at h
        exact h w' kk ht))
  have hn1 : ¬ c.env < 1 := by omega
  have hn2 : ¬ 2 < c.env := by omega
  obtain ⟨dn, hdn⟩ : ∃ v, (dDo k.fs ⟨0, c.env, 0, 0, 0, ⟨#[]⟩⟩).n = v := ⟨_, rfl⟩
  obtain ⟨ds, hds⟩ : ∃ v, (dDo k.fs ⟨0, c.env, 0, 0, 0, ⟨#[]⟩⟩).s = v := ⟨_, rfl⟩
  obtain ⟨de, hde⟩ : ∃ v, (dDo k.fs ⟨0, c.env, 0, 0, 0, ⟨#[]⟩⟩).e = v := ⟨_, rfl⟩
  obtain ⟨df, hdf⟩ : ∃ v, (dDo k.fs ⟨0, c.env, 0, 0, 0, ⟨#[]⟩⟩).fs = v := ⟨_, rfl⟩
  rw [hdn, hds, hde, hdf] at HD H
  clear h hQ hF hdn hds hde hdf hi
  go_enter Tryz.func11, Tryz.ntmps11
  go_upto_region 5 with (fail)
  refine genV (fun W => ∃ gx, w.heap.size = gx ∧ Kp [] w W ∧ Bk W gx 34 [.int .i64 1, .int .i64 c.env, .int .i64 c.a, .int .i64 c.b, .int .i64 c.c, .string c.s, .slice c.p.A c.p.n c.p.c, .slice c.l.A c.l.n c.l.c]) ⟨_, rfl, (Kp.refl _ _).alloc _, (Bk.newAt (by simp) _ _).cast rfl⟩ ?_
  rintro W ⟨gx, hgx, kW, bW⟩
  rw [hgx]
  have QW := Lib.hid (HQ.out.kp kW)
  have KW := Lib.hid kW
  have hgq : gx ∉ [q.bO, q.bH, q.bB] := fun hm => by have h1 := HQ.out.t.o.lt; have h2 := HQ.out.t.h.lt; have h3 := HQ.out.t.b.lt; simp at hm; omega
  have HS : Hid (∀ W', Kp [q.bO, q.bH, q.bB] W W' → (fun w' => w'.cell? ⟨q.g, 0, none⟩ = some (.pointer (some ⟨q.bM, 0, none⟩)) ∧ w'.cell? ⟨gx, 1, none⟩ = some (.int .i64 c.env)) W') := Lib.hid (fun W' k' => ⟨(QW.out.g.kp k' QW.out.nes.1).cell 0, (bW.kp k' hgq).cell 1⟩)
  clear hgx kW bW hgq
  go_region_held_law (fun w' => w'.cell? ⟨q.g, 0, none⟩ = some (.pointer (some ⟨q.bM, 0, none⟩)) ∧ w'.cell? ⟨gx, 1, none⟩ = some (.int .i64 c.env)) (first | with_reducible exact HS.out _ (Kp.drew (Kp.refl _ _)) | with_reducible exact HS.out _ kk2) (first | (go_simp; go_at_call 54; (refine HD.out _ _ (KW.out.trans (by repeat (first | with_reducible exact Kp.refl _ _ | with_reducible refine Kp.drew ?_))) ?_); intro w2 kk ht2; have kk2 : Kp [q.bO, q.bH, q.bB] W w2 := ((Kp.refl [q.bO, q.bH, q.bB] W).drew).trans kk))
  all_goals
    obtain ⟨q2, k2⟩ := QW.out.setT kk2 ht2
    go_wp2
    exact bodyPost_ret (v := .tuple #[.int .i64 dn, .string (S ds), .int .i64 de]) (by simp [results, Tryz.results11, go_sem]; try rfl) rfl (H.out q _ ((KW.out.mono (by simp)).thn k2 (fun s hs => .inl hs)) q2 rfl ⟨rfl, rfl⟩)
set_option maxHeartbeats 4000000 in
theorem rc_2 (hQ : Qn w0 B w q k) (hF : Fok (16 * m) k.fs) (hm : m ≤ 10000) (c : Cl) (hi : i64B c.b) (he1 : 1 ≤ c.env) (he2 : c.env ≤ 2)
    (h : RcP R w0 B w q { k with fs := (dDo k.fs ⟨1, c.env, c.a, 0, 0, ⟨#[]⟩⟩).fs } (dDo k.fs ⟨1, c.env, c.a, 0, 0, ⟨#[]⟩⟩).n (dDo k.fs ⟨1, c.env, c.a, 0, 0, ⟨#[]⟩⟩).s (dDo k.fs ⟨1, c.env, c.a, 0, 0, ⟨#[]⟩⟩).e) :
    Calls Tryz.prog 11 #[.pointer (some ⟨q.g, 0, none⟩), .agg #[.int .i64 2, .int .i64 c.env, .int .i64 c.a, .int .i64 c.b, .int .i64 c.c, .string c.s, .slice c.p.A c.p.n c.p.c, .slice c.l.A c.l.n c.l.c]] w R := by
  have H := Lib.hid h
  have HQ := Lib.hid hQ
  have HD : Hid (∀ (R : Ending → World → Prop) (w1 : World), Kp [] w w1 → (∀ w', Kp [q.bO, q.bH, q.bB] w1 w' → RT w' q.bM q.bO q.bH q.bB (dDo k.fs ⟨1, c.env, c.a, 0, 0, ⟨#[]⟩⟩).fs → R (.returned (.tuple #[.int .i64 (dDo k.fs ⟨1, c.env, c.a, 0, 0, ⟨#[]⟩⟩).n, .string (S (dDo k.fs ⟨1, c.env, c.a, 0, 0, ⟨#[]⟩⟩).s), .int .i64 (dDo k.fs ⟨1, c.env, c.a, 0, 0, ⟨#[]⟩⟩).e])) w') →
      Calls Tryz.prog 54 #[.pointer (some ⟨q.bM, 0, none⟩), .agg #[.int .i64 1, .int .i64 c.env, .int .i64 c.a, .int .i64 0, .int .i64 0, .string ⟨#[]⟩]] w1 R) := Lib.hid (fun R w1 k1 h => rdo_any (hQ.kp k1).t ⟨1, c.env, c.a, 0, 0, ⟨#[]⟩⟩ (m := 16 * m) (by omega) hF (by simp) (by simp) (by unfold i64B at hi; simp; try omega) (by unfold i64B at hi; simp; try omega) (fun n s e fs' w' hd kk ht => by
        have hd := hd.out
        rw [hd] at h
        exact h w' kk ht))
  have hn1 : ¬ c.env < 1 := by omega
  have hn2 : ¬ 2 < c.env := by omega
  obtain ⟨dn, hdn⟩ : ∃ v, (dDo k.fs ⟨1, c.env, c.a, 0, 0, ⟨#[]⟩⟩).n = v := ⟨_, rfl⟩
  obtain ⟨ds, hds⟩ : ∃ v, (dDo k.fs ⟨1, c.env, c.a, 0, 0, ⟨#[]⟩⟩).s = v := ⟨_, rfl⟩
  obtain ⟨de, hde⟩ : ∃ v, (dDo k.fs ⟨1, c.env, c.a, 0, 0, ⟨#[]⟩⟩).e = v := ⟨_, rfl⟩
  obtain ⟨df, hdf⟩ : ∃ v, (dDo k.fs ⟨1, c.env, c.a, 0, 0, ⟨#[]⟩⟩).fs = v := ⟨_, rfl⟩
  rw [hdn, hds, hde, hdf] at HD H
  clear h hQ hF hdn hds hde hdf hi
  go_enter Tryz.func11, Tryz.ntmps11
  go_upto_region 7 with (fail)
  refine genV (fun W => ∃ gx, w.heap.size = gx ∧ Kp [] w W ∧ Bk W gx 34 [.int .i64 2, .int .i64 c.env, .int .i64 c.a, .int .i64 c.b, .int .i64 c.c, .string c.s, .slice c.p.A c.p.n c.p.c, .slice c.l.A c.l.n c.l.c]) ⟨_, rfl, (Kp.refl _ _).alloc _, (Bk.newAt (by simp) _ _).cast rfl⟩ ?_
  rintro W ⟨gx, hgx, kW, bW⟩
  rw [hgx]
  have QW := Lib.hid (HQ.out.kp kW)
  have KW := Lib.hid kW
  have hgq : gx ∉ [q.bO, q.bH, q.bB] := fun hm => by have h1 := HQ.out.t.o.lt; have h2 := HQ.out.t.h.lt; have h3 := HQ.out.t.b.lt; simp at hm; omega
  have HS : Hid (∀ W', Kp [q.bO, q.bH, q.bB] W W' → (fun w' => w'.cell? ⟨q.g, 0, none⟩ = some (.pointer (some ⟨q.bM, 0, none⟩)) ∧ w'.cell? ⟨gx, 1, none⟩ = some (.int .i64 c.env) ∧ w'.cell? ⟨gx, 2, none⟩ = some (.int .i64 c.a)) W') := Lib.hid (fun W' k' => ⟨(QW.out.g.kp k' QW.out.nes.1).cell 0, (bW.kp k' hgq).cell 1, (bW.kp k' hgq).cell 2⟩)
  clear hgx kW bW hgq
  go_region_held_law (fun w' => w'.cell? ⟨q.g, 0, none⟩ = some (.pointer (some ⟨q.bM, 0, none⟩)) ∧ w'.cell? ⟨gx, 1, none⟩ = some (.int .i64 c.env) ∧ w'.cell? ⟨gx, 2, none⟩ = some (.int .i64 c.a)) (first | with_reducible exact HS.out _ (Kp.drew (Kp.refl _ _)) | with_reducible exact HS.out _ kk2) (first | (go_simp; go_at_call 54; (refine HD.out _ _ (KW.out.trans (by repeat (first | with_reducible exact Kp.refl _ _ | with_reducible refine Kp.drew ?_))) ?_); intro w2 kk ht2; have kk2 : Kp [q.bO, q.bH, q.bB] W w2 := ((Kp.refl [q.bO, q.bH, q.bB] W).drew).trans kk))
  all_goals
    obtain ⟨q2, k2⟩ := QW.out.setT kk2 ht2
    go_wp2
    exact bodyPost_ret (v := .tuple #[.int .i64 dn, .string (S ds), .int .i64 de]) (by simp [results, Tryz.results11, go_sem]; try rfl) rfl (H.out q _ ((KW.out.mono (by simp)).thn k2 (fun s hs => .inl hs)) q2 rfl ⟨rfl, rfl⟩)
set_option maxHeartbeats 4000000 in
theorem rc_3 (hQ : Qn w0 B w q k) (hF : Fok (16 * m) k.fs) (hm : m ≤ 10000) (c : Cl) (hi : i64B c.b) (he1 : 1 ≤ c.env) (he2 : c.env ≤ 2)
    (h : RcP R w0 B w q { k with fs := (dDo k.fs ⟨2, c.env, c.a, 0, c.b, ⟨#[]⟩⟩).fs } (dDo k.fs ⟨2, c.env, c.a, 0, c.b, ⟨#[]⟩⟩).n (dDo k.fs ⟨2, c.env, c.a, 0, c.b, ⟨#[]⟩⟩).s (dDo k.fs ⟨2, c.env, c.a, 0, c.b, ⟨#[]⟩⟩).e) :
    Calls Tryz.prog 11 #[.pointer (some ⟨q.g, 0, none⟩), .agg #[.int .i64 3, .int .i64 c.env, .int .i64 c.a, .int .i64 c.b, .int .i64 c.c, .string c.s, .slice c.p.A c.p.n c.p.c, .slice c.l.A c.l.n c.l.c]] w R := by
  have H := Lib.hid h
  have HQ := Lib.hid hQ
  have HD : Hid (∀ (R : Ending → World → Prop) (w1 : World), Kp [] w w1 → (∀ w', Kp [q.bO, q.bH, q.bB] w1 w' → RT w' q.bM q.bO q.bH q.bB (dDo k.fs ⟨2, c.env, c.a, 0, c.b, ⟨#[]⟩⟩).fs → R (.returned (.tuple #[.int .i64 (dDo k.fs ⟨2, c.env, c.a, 0, c.b, ⟨#[]⟩⟩).n, .string (S (dDo k.fs ⟨2, c.env, c.a, 0, c.b, ⟨#[]⟩⟩).s), .int .i64 (dDo k.fs ⟨2, c.env, c.a, 0, c.b, ⟨#[]⟩⟩).e])) w') →
      Calls Tryz.prog 54 #[.pointer (some ⟨q.bM, 0, none⟩), .agg #[.int .i64 2, .int .i64 c.env, .int .i64 c.a, .int .i64 0, .int .i64 c.b, .string ⟨#[]⟩]] w1 R) := Lib.hid (fun R w1 k1 h => rdo_any (hQ.kp k1).t ⟨2, c.env, c.a, 0, c.b, ⟨#[]⟩⟩ (m := 16 * m) (by omega) hF (by simp) (by simp) (by unfold i64B at hi; simp; try omega) (by unfold i64B at hi; simp; try omega) (fun n s e fs' w' hd kk ht => by
        have hd := hd.out
        rw [hd] at h
        exact h w' kk ht))
  have hn1 : ¬ c.env < 1 := by omega
  have hn2 : ¬ 2 < c.env := by omega
  obtain ⟨dn, hdn⟩ : ∃ v, (dDo k.fs ⟨2, c.env, c.a, 0, c.b, ⟨#[]⟩⟩).n = v := ⟨_, rfl⟩
  obtain ⟨ds, hds⟩ : ∃ v, (dDo k.fs ⟨2, c.env, c.a, 0, c.b, ⟨#[]⟩⟩).s = v := ⟨_, rfl⟩
  obtain ⟨de, hde⟩ : ∃ v, (dDo k.fs ⟨2, c.env, c.a, 0, c.b, ⟨#[]⟩⟩).e = v := ⟨_, rfl⟩
  obtain ⟨df, hdf⟩ : ∃ v, (dDo k.fs ⟨2, c.env, c.a, 0, c.b, ⟨#[]⟩⟩).fs = v := ⟨_, rfl⟩
  rw [hdn, hds, hde, hdf] at HD H
  clear h hQ hF hdn hds hde hdf hi
  go_enter Tryz.func11, Tryz.ntmps11
  go_upto_region 9 with (fail)
  refine genV (fun W => ∃ gx, w.heap.size = gx ∧ Kp [] w W ∧ Bk W gx 34 [.int .i64 3, .int .i64 c.env, .int .i64 c.a, .int .i64 c.b, .int .i64 c.c, .string c.s, .slice c.p.A c.p.n c.p.c, .slice c.l.A c.l.n c.l.c]) ⟨_, rfl, (Kp.refl _ _).alloc _, (Bk.newAt (by simp) _ _).cast rfl⟩ ?_
  rintro W ⟨gx, hgx, kW, bW⟩
  rw [hgx]
  have QW := Lib.hid (HQ.out.kp kW)
  have KW := Lib.hid kW
  have hgq : gx ∉ [q.bO, q.bH, q.bB] := fun hm => by have h1 := HQ.out.t.o.lt; have h2 := HQ.out.t.h.lt; have h3 := HQ.out.t.b.lt; simp at hm; omega
  have HS : Hid (∀ W', Kp [q.bO, q.bH, q.bB] W W' → (fun w' => w'.cell? ⟨q.g, 0, none⟩ = some (.pointer (some ⟨q.bM, 0, none⟩)) ∧ w'.cell? ⟨gx, 1, none⟩ = some (.int .i64 c.env) ∧ w'.cell? ⟨gx, 2, none⟩ = some (.int .i64 c.a) ∧ w'.cell? ⟨gx, 3, none⟩ = some (.int .i64 c.b)) W') := Lib.hid (fun W' k' => ⟨(QW.out.g.kp k' QW.out.nes.1).cell 0, (bW.kp k' hgq).cell 1, (bW.kp k' hgq).cell 2, (bW.kp k' hgq).cell 3⟩)
  clear hgx kW bW hgq
  go_region_held_law (fun w' => w'.cell? ⟨q.g, 0, none⟩ = some (.pointer (some ⟨q.bM, 0, none⟩)) ∧ w'.cell? ⟨gx, 1, none⟩ = some (.int .i64 c.env) ∧ w'.cell? ⟨gx, 2, none⟩ = some (.int .i64 c.a) ∧ w'.cell? ⟨gx, 3, none⟩ = some (.int .i64 c.b)) (first | with_reducible exact HS.out _ (Kp.drew (Kp.refl _ _)) | with_reducible exact HS.out _ kk2) (first | (go_simp; go_at_call 54; (refine HD.out _ _ (KW.out.trans (by repeat (first | with_reducible exact Kp.refl _ _ | with_reducible refine Kp.drew ?_))) ?_); intro w2 kk ht2; have kk2 : Kp [q.bO, q.bH, q.bB] W w2 := ((Kp.refl [q.bO, q.bH, q.bB] W).drew).trans kk))
  all_goals
    obtain ⟨q2, k2⟩ := QW.out.setT kk2 ht2
    go_wp2
    exact bodyPost_ret (v := .tuple #[.int .i64 dn, .string (S ds), .int .i64 de]) (by simp [results, Tryz.results11, go_sem]; try rfl) rfl (H.out q _ ((KW.out.mono (by simp)).thn k2 (fun s hs => .inl hs)) q2 rfl ⟨rfl, rfl⟩)
set_option maxHeartbeats 4000000 in
theorem rc_4 (hQ : Qn w0 B w q k) (hF : Fok (16 * m) k.fs) (hm : m ≤ 10000) (c : Cl) (hi : i64B c.b) (he1 : 1 ≤ c.env) (he2 : c.env ≤ 2)
    (h : RcP R w0 B w q { k with fs := (dDo k.fs ⟨3, c.env, c.a, c.b, c.c, ⟨#[]⟩⟩).fs } (dDo k.fs ⟨3, c.env, c.a, c.b, c.c, ⟨#[]⟩⟩).n (dDo k.fs ⟨3, c.env, c.a, c.b, c.c, ⟨#[]⟩⟩).s (dDo k.fs ⟨3, c.env, c.a, c.b, c.c, ⟨#[]⟩⟩).e) :
    Calls Tryz.prog 11 #[.pointer (some ⟨q.g, 0, none⟩), .agg #[.int .i64 4, .int .i64 c.env, .int .i64 c.a, .int .i64 c.b, .int .i64 c.c, .string c.s, .slice c.p.A c.p.n c.p.c, .slice c.l.A c.l.n c.l.c]] w R := by
  have H := Lib.hid h
  have HQ := Lib.hid hQ
  have HD : Hid (∀ (R : Ending → World → Prop) (w1 : World), Kp [] w w1 → (∀ w', Kp [q.bO, q.bH, q.bB] w1 w' → RT w' q.bM q.bO q.bH q.bB (dDo k.fs ⟨3, c.env, c.a, c.b, c.c, ⟨#[]⟩⟩).fs → R (.returned (.tuple #[.int .i64 (dDo k.fs ⟨3, c.env, c.a, c.b, c.c, ⟨#[]⟩⟩).n, .string (S (dDo k.fs ⟨3, c.env, c.a, c.b, c.c, ⟨#[]⟩⟩).s), .int .i64 (dDo k.fs ⟨3, c.env, c.a, c.b, c.c, ⟨#[]⟩⟩).e])) w') →
      Calls Tryz.prog 54 #[.pointer (some ⟨q.bM, 0, none⟩), .agg #[.int .i64 3, .int .i64 c.env, .int .i64 c.a, .int .i64 c.b, .int .i64 c.c, .string ⟨#[]⟩]] w1 R) := Lib.hid (fun R w1 k1 h => rdo_any (hQ.kp k1).t ⟨3, c.env, c.a, c.b, c.c, ⟨#[]⟩⟩ (m := 16 * m) (by omega) hF (by simp) (by simp) (by unfold i64B at hi; simp; try omega) (by unfold i64B at hi; simp; try omega) (fun n s e fs' w' hd kk ht => by
        have hd := hd.out
        rw [hd] at h
        exact h w' kk ht))
  have hn1 : ¬ c.env < 1 := by omega
  have hn2 : ¬ 2 < c.env := by omega
  obtain ⟨dn, hdn⟩ : ∃ v, (dDo k.fs ⟨3, c.env, c.a, c.b, c.c, ⟨#[]⟩⟩).n = v := ⟨_, rfl⟩
  obtain ⟨ds, hds⟩ : ∃ v, (dDo k.fs ⟨3, c.env, c.a, c.b, c.c, ⟨#[]⟩⟩).s = v := ⟨_, rfl⟩
  obtain ⟨de, hde⟩ : ∃ v, (dDo k.fs ⟨3, c.env, c.a, c.b, c.c, ⟨#[]⟩⟩).e = v := ⟨_, rfl⟩
  obtain ⟨df, hdf⟩ : ∃ v, (dDo k.fs ⟨3, c.env, c.a, c.b, c.c, ⟨#[]⟩⟩).fs = v := ⟨_, rfl⟩
  rw [hdn, hds, hde, hdf] at HD H
  clear h hQ hF hdn hds hde hdf hi
  go_enter Tryz.func11, Tryz.ntmps11
  go_upto_region 11 with (fail)
  refine genV (fun W => ∃ gx, w.heap.size = gx ∧ Kp [] w W ∧ Bk W gx 34 [.int .i64 4, .int .i64 c.env, .int .i64 c.a, .int .i64 c.b, .int .i64 c.c, .string c.s, .slice c.p.A c.p.n c.p.c, .slice c.l.A c.l.n c.l.c]) ⟨_, rfl, (Kp.refl _ _).alloc _, (Bk.newAt (by simp) _ _).cast rfl⟩ ?_
  rintro W ⟨gx, hgx, kW, bW⟩
  rw [hgx]
  have QW := Lib.hid (HQ.out.kp kW)
  have KW := Lib.hid kW
  have hgq : gx ∉ [q.bO, q.bH, q.bB] := fun hm => by have h1 := HQ.out.t.o.lt; have h2 := HQ.out.t.h.lt; have h3 := HQ.out.t.b.lt; simp at hm; omega
  have HS : Hid (∀ W', Kp [q.bO, q.bH, q.bB] W W' → (fun w' => w'.cell? ⟨q.g, 0, none⟩ = some (.pointer (some ⟨q.bM, 0, none⟩)) ∧ w'.cell? ⟨gx, 1, none⟩ = some (.int .i64 c.env) ∧ w'.cell? ⟨gx, 2, none⟩ = some (.int .i64 c.a) ∧ w'.cell? ⟨gx, 3, none⟩ = some (.int .i64 c.b) ∧ w'.cell? ⟨gx, 4, none⟩ = some (.int .i64 c.c)) W') := Lib.hid (fun W' k' => ⟨(QW.out.g.kp k' QW.out.nes.1).cell 0, (bW.kp k' hgq).cell 1, (bW.kp k' hgq).cell 2, (bW.kp k' hgq).cell 3, (bW.kp k' hgq).cell 4⟩)
  clear hgx kW bW hgq
  go_region_held_law (fun w' => w'.cell? ⟨q.g, 0, none⟩ = some (.pointer (some ⟨q.bM, 0, none⟩)) ∧ w'.cell? ⟨gx, 1, none⟩ = some (.int .i64 c.env) ∧ w'.cell? ⟨gx, 2, none⟩ = some (.int .i64 c.a) ∧ w'.cell? ⟨gx, 3, none⟩ = some (.int .i64 c.b) ∧ w'.cell? ⟨gx, 4, none⟩ = some (.int .i64 c.c)) (first | with_reducible exact HS.out _ (Kp.drew (Kp.refl _ _)) | with_reducible exact HS.out _ kk2) (first | (go_simp; go_at_call 54; (refine HD.out _ _ (KW.out.trans (by repeat (first | with_reducible exact Kp.refl _ _ | with_reducible refine Kp.drew ?_))) ?_); intro w2 kk ht2; have kk2 : Kp [q.bO, q.bH, q.bB] W w2 := ((Kp.refl [q.bO, q.bH, q.bB] W).drew).trans kk))
  all_goals
    obtain ⟨q2, k2⟩ := QW.out.setT kk2 ht2
    go_wp2
    exact bodyPost_ret (v := .tuple #[.int .i64 dn, .string (S ds), .int .i64 de]) (by simp [results, Tryz.results11, go_sem]; try rfl) rfl (H.out q _ ((KW.out.mono (by simp)).thn k2 (fun s hs => .inl hs)) q2 rfl ⟨rfl, rfl⟩)
set_option maxHeartbeats 4000000 in
theorem rc_5 (hQ : Qn w0 B w q k) (hF : Fok (16 * m) k.fs) (hm : m ≤ 10000) (c : Cl) (hi : i64B c.b) (he1 : 1 ≤ c.env) (he2 : c.env ≤ 2)
    (h : RcP R w0 B w q { k with fs := (dDo k.fs ⟨4, c.env, c.a, c.b, 0, c.s⟩).fs } (dDo k.fs ⟨4, c.env, c.a, c.b, 0, c.s⟩).n (dDo k.fs ⟨4, c.env, c.a, c.b, 0, c.s⟩).s (dDo k.fs ⟨4, c.env, c.a, c.b, 0, c.s⟩).e) :
    Calls Tryz.prog 11 #[.pointer (some ⟨q.g, 0, none⟩), .agg #[.int .i64 5, .int .i64 c.env, .int .i64 c.a, .int .i64 c.b, .int .i64 c.c, .string c.s, .slice c.p.A c.p.n c.p.c, .slice c.l.A c.l.n c.l.c]] w R := by
  have H := Lib.hid h
  have HQ := Lib.hid hQ
  have HD : Hid (∀ (R : Ending → World → Prop) (w1 : World), Kp [] w w1 → (∀ w', Kp [q.bO, q.bH, q.bB] w1 w' → RT w' q.bM q.bO q.bH q.bB (dDo k.fs ⟨4, c.env, c.a, c.b, 0, c.s⟩).fs → R (.returned (.tuple #[.int .i64 (dDo k.fs ⟨4, c.env, c.a, c.b, 0, c.s⟩).n, .string (S (dDo k.fs ⟨4, c.env, c.a, c.b, 0, c.s⟩).s), .int .i64 (dDo k.fs ⟨4, c.env, c.a, c.b, 0, c.s⟩).e])) w') →
      Calls Tryz.prog 54 #[.pointer (some ⟨q.bM, 0, none⟩), .agg #[.int .i64 4, .int .i64 c.env, .int .i64 c.a, .int .i64 c.b, .int .i64 0, .string c.s]] w1 R) := Lib.hid (fun R w1 k1 h => rdo_any (hQ.kp k1).t ⟨4, c.env, c.a, c.b, 0, c.s⟩ (m := 16 * m) (by omega) hF (by simp) (by simp) (by unfold i64B at hi; simp; try omega) (by unfold i64B at hi; simp; try omega) (fun n s e fs' w' hd kk ht => by
        have hd := hd.out
        rw [hd] at h
        exact h w' kk ht))
  have hn1 : ¬ c.env < 1 := by omega
  have hn2 : ¬ 2 < c.env := by omega
  obtain ⟨dn, hdn⟩ : ∃ v, (dDo k.fs ⟨4, c.env, c.a, c.b, 0, c.s⟩).n = v := ⟨_, rfl⟩
  obtain ⟨ds, hds⟩ : ∃ v, (dDo k.fs ⟨4, c.env, c.a, c.b, 0, c.s⟩).s = v := ⟨_, rfl⟩
  obtain ⟨de, hde⟩ : ∃ v, (dDo k.fs ⟨4, c.env, c.a, c.b, 0, c.s⟩).e = v := ⟨_, rfl⟩
  obtain ⟨df, hdf⟩ : ∃ v, (dDo k.fs ⟨4, c.env, c.a, c.b, 0, c.s⟩).fs = v := ⟨_, rfl⟩
  rw [hdn, hds, hde, hdf] at HD H
  clear h hQ hF hdn hds hde hdf hi
  go_enter Tryz.func11, Tryz.ntmps11
  go_upto_region 13 with (fail)
  refine genV (fun W => ∃ gx, w.heap.size = gx ∧ Kp [] w W ∧ Bk W gx 34 [.int .i64 5, .int .i64 c.env, .int .i64 c.a, .int .i64 c.b, .int .i64 c.c, .string c.s, .slice c.p.A c.p.n c.p.c, .slice c.l.A c.l.n c.l.c]) ⟨_, rfl, (Kp.refl _ _).alloc _, (Bk.newAt (by simp) _ _).cast rfl⟩ ?_
  rintro W ⟨gx, hgx, kW, bW⟩
  rw [hgx]
  have QW := Lib.hid (HQ.out.kp kW)
  have KW := Lib.hid kW
  have hgq : gx ∉ [q.bO, q.bH, q.bB] := fun hm => by have h1 := HQ.out.t.o.lt; have h2 := HQ.out.t.h.lt; have h3 := HQ.out.t.b.lt; simp at hm; omega
  have HS : Hid (∀ W', Kp [q.bO, q.bH, q.bB] W W' → (fun w' => w'.cell? ⟨q.g, 0, none⟩ = some (.pointer (some ⟨q.bM, 0, none⟩)) ∧ w'.cell? ⟨gx, 1, none⟩ = some (.int .i64 c.env) ∧ w'.cell? ⟨gx, 2, none⟩ = some (.int .i64 c.a) ∧ w'.cell? ⟨gx, 3, none⟩ = some (.int .i64 c.b) ∧ w'.cell? ⟨gx, 5, none⟩ = some (.string c.s)) W') := Lib.hid (fun W' k' => ⟨(QW.out.g.kp k' QW.out.nes.1).cell 0, (bW.kp k' hgq).cell 1, (bW.kp k' hgq).cell 2, (bW.kp k' hgq).cell 3, (bW.kp k' hgq).cell 5⟩)
  clear hgx kW bW hgq
  go_region_held_law (fun w' => w'.cell? ⟨q.g, 0, none⟩ = some (.pointer (some ⟨q.bM, 0, none⟩)) ∧ w'.cell? ⟨gx, 1, none⟩ = some (.int .i64 c.env) ∧ w'.cell? ⟨gx, 2, none⟩ = some (.int .i64 c.a) ∧ w'.cell? ⟨gx, 3, none⟩ = some (.int .i64 c.b) ∧ w'.cell? ⟨gx, 5, none⟩ = some (.string c.s)) (first | with_reducible exact HS.out _ (Kp.drew (Kp.refl _ _)) | with_reducible exact HS.out _ kk2) (first | (go_simp; go_at_call 54; (refine HD.out _ _ (KW.out.trans (by repeat (first | with_reducible exact Kp.refl _ _ | with_reducible refine Kp.drew ?_))) ?_); intro w2 kk ht2; have kk2 : Kp [q.bO, q.bH, q.bB] W w2 := ((Kp.refl [q.bO, q.bH, q.bB] W).drew).trans kk))
  all_goals
    obtain ⟨q2, k2⟩ := QW.out.setT kk2 ht2
    go_wp2
    exact bodyPost_ret (v := .tuple #[.int .i64 dn, .string (S ds), .int .i64 de]) (by simp [results, Tryz.results11, go_sem]; try rfl) rfl (H.out q _ ((KW.out.mono (by simp)).thn k2 (fun s hs => .inl hs)) q2 rfl ⟨rfl, rfl⟩)
set_option maxHeartbeats 4000000 in
theorem rc_6 (hQ : Qn w0 B w q k) (hl : k.d.ln.length ≤ 1000000) (c : Cl) (he1 : 1 ≤ c.env) (he2 : c.env ≤ 2)
    (h : RcP R w0 B w q k 0 (dRead k.d c.env c.a).2 (dRead k.d c.env c.a).1) :
    Calls Tryz.prog 11 #[.pointer (some ⟨q.g, 0, none⟩), .agg #[.int .i64 6, .int .i64 c.env, .int .i64 c.a, .int .i64 c.b, .int .i64 c.c, .string c.s, .slice c.p.A c.p.n c.p.c, .slice c.l.A c.l.n c.l.c]] w R := by
  have H := Lib.hid h
  have HQ := Lib.hid hQ
  have HD : Hid (∀ (R : Ending → World → Prop) (w1 : World), Kp [] w w1 → (∀ w', Kp [] w1 w' → R (.returned (.tuple #[.string (S (dRead k.d c.env c.a).2), .int .i64 (dRead k.d c.env c.a).1])) w') →
      Calls Tryz.prog 55 #[.pointer (some ⟨q.bD, 0, none⟩), .agg #[.int .i64 1, .int .i64 c.env, .int .i64 c.a, .int .i64 0, .string ⟨#[]⟩]] w1 R) := Lib.hid (fun R w1 k1 h => mdo1_any (hQ.kp k1).d hl _ _ _ _ h)
  have hn1 : ¬ c.env < 1 := by omega
  have hn2 : ¬ 2 < c.env := by omega
  obtain ⟨ds, hds⟩ : ∃ v, (dRead k.d c.env c.a).2 = v := ⟨_, rfl⟩
  obtain ⟨de, hde⟩ : ∃ v, (dRead k.d c.env c.a).1 = v := ⟨_, rfl⟩
  rw [hds, hde] at HD H
  clear h hQ hds hde
  go_enter Tryz.func11, Tryz.ntmps11
  go_upto_region 15 with (fail)
  refine genV (fun W => ∃ gx, w.heap.size = gx ∧ Kp [] w W ∧ Bk W gx 34 [.int .i64 6, .int .i64 c.env, .int .i64 c.a, .int .i64 c.b, .int .i64 c.c, .string c.s, .slice c.p.A c.p.n c.p.c, .slice c.l.A c.l.n c.l.c]) ⟨_, rfl, (Kp.refl _ _).alloc _, (Bk.newAt (by simp) _ _).cast rfl⟩ ?_
  rintro W ⟨gx, hgx, kW, bW⟩
  rw [hgx]
  have QW := Lib.hid (HQ.out.kp kW)
  have KW := Lib.hid kW
  have HS : Hid (∀ W', Kp [] W W' → (fun w' : World => w'.cell? ⟨q.g, 1, none⟩ = some (.pointer (some ⟨q.bD, 0, none⟩)) ∧ w'.cell? ⟨gx, 1, none⟩ = some (.int .i64 c.env) ∧ w'.cell? ⟨gx, 2, none⟩ = some (.int .i64 c.a)) W') := Lib.hid (fun W' k' => ⟨(QW.out.g.kp k' (by simp)).cell 1, (bW.kp k' (by simp)).cell 1, (bW.kp k' (by simp)).cell 2⟩)
  clear hgx kW bW
  go_region_held_law (fun w' => w'.cell? ⟨q.g, 1, none⟩ = some (.pointer (some ⟨q.bD, 0, none⟩)) ∧ w'.cell? ⟨gx, 1, none⟩ = some (.int .i64 c.env) ∧ w'.cell? ⟨gx, 2, none⟩ = some (.int .i64 c.a)) (first | with_reducible exact HS.out _ (Kp.drew (Kp.refl _ _)) | with_reducible exact HS.out _ kk2) (first | (go_simp; go_at_call 55; (refine HD.out _ _ (KW.out.trans (by repeat (first | with_reducible exact Kp.refl _ _ | with_reducible refine Kp.drew ?_))) ?_); intro w2 kk; have kk2 : Kp [] W w2 := ((Kp.refl [] W).drew).trans kk))
  all_goals
    go_wp2
    exact bodyPost_ret (v := .tuple #[.int .i64 0, .string (S ds), .int .i64 de]) (by simp [results, Tryz.results11, go_sem]; try rfl) rfl (H.out q _ ((KW.out.trans kk2).mono (by simp)) (QW.out.kp kk2) rfl ⟨rfl, rfl⟩)
theorem mw_any {R : Ending → World → Prop} {w : World} {bD bB bO c : Nat} {A : Option Addr} {d : DkS} (hd : Dm w bD bB bO A c d) (hlm : d.ln.length ≤ 1000000) (hbo : bD ≠ bO) (env a b : Int) (s : ByteArray) (h : ∀ A' c' w', Kp [bD, bB] w w' → Dm w' bD bB bO A' c' (dWrite d env a s.data.toList).2 → R (.returned (.tuple #[.string ⟨#[]⟩, .int .i64 (dWrite d env a s.data.toList).1])) w') :
    Calls Tryz.prog 55 #[.pointer (some ⟨bD, 0, none⟩), .agg #[.int .i64 2, .int .i64 env, .int .i64 a, .int .i64 b, .string s]] w R := by
  have es : s = S s.data.toList := rfl
  obtain ⟨l, hl⟩ : ∃ l, s.data.toList = l := ⟨_, rfl⟩
  rw [hl] at h es
  rw [es]
  by_cases hm : dMay d env a = 0
  · by_cases h2 : l.length = 256
    · by_cases hA : d.arm = true ∧ d.left = 0
      · have e : dWrite d env a l = (30, dCut d) := by unfold dWrite dCut; rw [if_pos hm, if_pos h2, if_pos hA.1, if_pos hA.2]
        rw [e] at h
        exact mw_2 hd env a b l hm h2 hA hbo (fun w' k hd' => h _ _ w' (k.mono (by simp)) hd')
      · have e : (dWrite d env a l).1 = 0 := by
          unfold dWrite
          rw [if_pos hm, if_pos h2]
          by_cases ha : d.arm = true
          · rw [if_pos ha, if_neg (fun e => hA ⟨ha, e⟩)]
          · rw [if_neg ha]
        rw [e] at h
        exact mw_3 hd hlm env a b l hm h2 hA hbo (fun A' c' w' k hd' => h _ _ w' (k.mono (by simp)) hd')
    · have e : dWrite d env a l = (1, d) := by unfold dWrite; rw [if_pos hm, if_neg h2]
      rw [e] at h
      exact mw_1 hd env a b l hm h2 (fun w' k => h _ _ w' (k.mono (by simp)) (hd.kp k))
  · have e : dWrite d env a l = (dMay d env a, d) := by unfold dWrite; rw [if_neg hm]
    rw [e] at h
    exact mw_0 hd env a b l hm (fun w' k => h _ _ w' (k.mono (by simp)) (hd.kp k))
theorem Qn.dO (h : Qn w0 B w q k) : q.bD ≠ q.pO ∧ q.pB ≠ q.pO := by
  obtain ⟨d0, d1, hd⟩ := h.d.dd
  exact ⟨(h.d.o.ne_bk hd (by decide)).symm, (h.d.o.ne_ h.d.b (by decide)).symm⟩
set_option maxHeartbeats 4000000 in
theorem rc_7 (hQ : Qn w0 B w q k) (hl : k.d.ln.length ≤ 1000000) (c : Cl) (he1 : 1 ≤ c.env) (he2 : c.env ≤ 2)
    (h : RcP R w0 B w q { k with d := (dWrite k.d c.env c.a c.s.data.toList).2 } 0 [] (dWrite k.d c.env c.a c.s.data.toList).1) :
    Calls Tryz.prog 11 #[.pointer (some ⟨q.g, 0, none⟩), .agg #[.int .i64 7, .int .i64 c.env, .int .i64 c.a, .int .i64 c.b, .int .i64 c.c, .string c.s, .slice c.p.A c.p.n c.p.c, .slice c.l.A c.l.n c.l.c]] w R := by
  have H := Lib.hid h
  have HQ := Lib.hid hQ
  have HD : Hid (∀ (R : Ending → World → Prop) (w1 : World), Kp [] w w1 → (∀ A' c' w', Kp [q.bD, q.pB] w1 w' → Dm w' q.bD q.pB q.pO A' c' (dWrite k.d c.env c.a c.s.data.toList).2 → R (.returned (.tuple #[.string ⟨#[]⟩, .int .i64 (dWrite k.d c.env c.a c.s.data.toList).1])) w') →
      Calls Tryz.prog 55 #[.pointer (some ⟨q.bD, 0, none⟩), .agg #[.int .i64 2, .int .i64 c.env, .int .i64 c.a, .int .i64 0, .string c.s]] w1 R) := Lib.hid (fun R w1 k1 h => mw_any (hQ.kp k1).d hl hQ.dO.1 _ _ _ _ h)
  have hn1 : ¬ c.env < 1 := by omega
  have hn2 : ¬ 2 < c.env := by omega
  obtain ⟨ds, hds⟩ : ∃ v, (dWrite k.d c.env c.a c.s.data.toList).2 = v := ⟨_, rfl⟩
  obtain ⟨de, hde⟩ : ∃ v, (dWrite k.d c.env c.a c.s.data.toList).1 = v := ⟨_, rfl⟩
  rw [hds, hde] at HD H
  clear h hQ hds hde
  go_enter Tryz.func11, Tryz.ntmps11
  go_upto_region 18 with (fail)
  refine genV (fun W => ∃ gx, w.heap.size = gx ∧ Kp [] w W ∧ Bk W gx 34 [.int .i64 7, .int .i64 c.env, .int .i64 c.a, .int .i64 c.b, .int .i64 c.c, .string c.s, .slice c.p.A c.p.n c.p.c, .slice c.l.A c.l.n c.l.c]) ⟨_, rfl, (Kp.refl _ _).alloc _, (Bk.newAt (by simp) _ _).cast rfl⟩ ?_
  rintro W ⟨gx, hgx, kW, bW⟩
  rw [hgx]
  have QW := Lib.hid (HQ.out.kp kW)
  have KW := Lib.hid kW
  have hgq : gx ∉ [q.bD, q.pB] := fun hm => by obtain ⟨d0, d1, hd⟩ := HQ.out.d.dd; have h1 := hd.lt; have h2 := HQ.out.d.b.lt; simp at hm; omega
  have HS : Hid (∀ W', Kp [q.bD, q.pB] W W' → (fun w' : World => w'.cell? ⟨q.g, 1, none⟩ = some (.pointer (some ⟨q.bD, 0, none⟩)) ∧ w'.cell? ⟨gx, 1, none⟩ = some (.int .i64 c.env) ∧ w'.cell? ⟨gx, 2, none⟩ = some (.int .i64 c.a) ∧ w'.cell? ⟨gx, 5, none⟩ = some (.string c.s)) W') := Lib.hid (fun W' k' => ⟨(QW.out.g.kp k' QW.out.nes.2.1).cell 1, (bW.kp k' hgq).cell 1, (bW.kp k' hgq).cell 2, (bW.kp k' hgq).cell 5⟩)
  clear hgx kW bW hgq
  go_region_held_law (fun w' => w'.cell? ⟨q.g, 1, none⟩ = some (.pointer (some ⟨q.bD, 0, none⟩)) ∧ w'.cell? ⟨gx, 1, none⟩ = some (.int .i64 c.env) ∧ w'.cell? ⟨gx, 2, none⟩ = some (.int .i64 c.a) ∧ w'.cell? ⟨gx, 5, none⟩ = some (.string c.s)) (first | with_reducible exact HS.out _ (Kp.drew (Kp.refl _ _)) | with_reducible exact HS.out _ kk2) (first | (go_simp; go_at_call 55; (refine HD.out _ _ (KW.out.trans (by repeat (first | with_reducible exact Kp.refl _ _ | with_reducible refine Kp.drew ?_))) ?_); intro A2 c2 w2 kk ht2; have kk2 : Kp [q.bD, q.pB] W w2 := ((Kp.refl [q.bD, q.pB] W).drew).trans kk))
  all_goals
    obtain ⟨q2, k2⟩ := QW.out.setD kk2 ht2
    go_wp2
    exact bodyPost_ret (v := .tuple #[.int .i64 0, .string (S []), .int .i64 de]) (by simp [results, Tryz.results11, go_sem]; try rfl) rfl (H.out _ _ ((KW.out.mono (by simp)).thn k2 (fun s hs => .inl hs)) q2 rfl ⟨rfl, rfl⟩)
set_option maxHeartbeats 4000000 in
theorem rc_8 (hQ : Qn w0 B w q k) (hl : k.d.ln.length ≤ 1000000) (c : Cl) (he1 : 1 ≤ c.env) (he2 : c.env ≤ 2)
    (h : RcP R w0 B w q { k with d := (dSyncE k.d).2 } 0 [] (dSyncE k.d).1) :
    Calls Tryz.prog 11 #[.pointer (some ⟨q.g, 0, none⟩), .agg #[.int .i64 8, .int .i64 c.env, .int .i64 c.a, .int .i64 c.b, .int .i64 c.c, .string c.s, .slice c.p.A c.p.n c.p.c, .slice c.l.A c.l.n c.l.c]] w R := by
  have H := Lib.hid h
  have HQ := Lib.hid hQ
  have HD : Hid (∀ (R : Ending → World → Prop) (w1 : World), Kp [] w w1 → (∀ A' c' w', Kp [q.bD, q.pB] w1 w' → Dm w' q.bD q.pB q.pO A' c' (dSyncE k.d).2 → R (.returned (.tuple #[.string ⟨#[]⟩, .int .i64 (dSyncE k.d).1])) w') →
      Calls Tryz.prog 55 #[.pointer (some ⟨q.bD, 0, none⟩), .agg #[.int .i64 3, .int .i64 0, .int .i64 0, .int .i64 0, .string ⟨#[]⟩]] w1 R) := Lib.hid (fun R w1 k1 h => mdo3_any (hQ.kp k1).d hQ.dO.2 hl _ _ _ _ h)
  have hn1 : ¬ c.env < 1 := by omega
  have hn2 : ¬ 2 < c.env := by omega
  obtain ⟨ds, hds⟩ : ∃ v, (dSyncE k.d).2 = v := ⟨_, rfl⟩
  obtain ⟨de, hde⟩ : ∃ v, (dSyncE k.d).1 = v := ⟨_, rfl⟩
  rw [hds, hde] at HD H
  have HG : Hid (∀ w', Kp [] w w' → w'.cell? ⟨q.g, 1, none⟩ = some (.pointer (some ⟨q.bD, 0, none⟩))) := Lib.hid (fun w' k' => (hQ.g.kp k' (by simp)).cell 1)
  clear h hQ hds hde
  go_enter Tryz.func11, Tryz.ntmps11
  go_upto_region 21 with (fail)
  refine genV (fun W => ∃ gx, w.heap.size = gx ∧ Kp [] w W) ⟨_, rfl, (Kp.refl _ _).alloc _⟩ ?_
  rintro W ⟨gx, hgx, kW⟩
  rw [hgx]
  have QW := Lib.hid (HQ.out.kp kW)
  have KW := Lib.hid kW
  have g1 := HG.out W kW
  clear hgx kW
  go_wp2_with (go_at_call 55; ((refine HD.out _ _ KW.out ?_); intro A2 c2 w2 kk2 ht2))
  obtain ⟨q2, k2⟩ := QW.out.setD kk2 ht2
  exact bodyPost_ret (v := .tuple #[.int .i64 0, .string (S []), .int .i64 de]) (by simp [results, Tryz.results11, go_sem]; try rfl) rfl (H.out _ _ ((KW.out.mono (by simp)).thn k2 (fun s hs => .inl hs)) q2 rfl ⟨rfl, rfl⟩)
set_option maxHeartbeats 4000000 in
theorem rc_13 (hQ : Qn w0 B w q k) (c : Cl) (he1 : 1 ≤ c.env) (he2 : c.env ≤ 2) (h : RcP R w0 B w q k k.dn [] 0) :
    Calls Tryz.prog 11 #[.pointer (some ⟨q.g, 0, none⟩), .agg #[.int .i64 13, .int .i64 c.env, .int .i64 c.a, .int .i64 c.b, .int .i64 c.c, .string c.s, .slice c.p.A c.p.n c.p.c, .slice c.l.A c.l.n c.l.c]] w R := by
  have H := Lib.hid h
  have HQ := Lib.hid hQ
  have hn1 : ¬ c.env < 1 := by omega
  have hn2 : ¬ 2 < c.env := by omega
  clear h hQ
  go_enter Tryz.func11, Tryz.ntmps11
  go_upto_region 54 with (fail)
  refine genV (fun W => ∃ gx, w.heap.size = gx ∧ Kp [] w W) ⟨_, rfl, (Kp.refl _ _).alloc _⟩ ?_
  rintro W ⟨gx, hgx, kW⟩
  rw [hgx]
  have g9 : W.cell? ⟨q.g, 9, none⟩ = some (.int .i64 k.dn) := (HQ.out.g.kp kW (by simp)).cell 9
  have KW := Lib.hid kW
  clear hgx kW
  go_wp2
  exact bodyPost_ret (v := .tuple #[.int .i64 k.dn, .string (S []), .int .i64 0]) (by simp [results, Tryz.results11, go_sem]; try rfl) rfl (H.out q _ (KW.out.mono (by simp)) (HQ.out.kp KW.out) rfl ⟨rfl, rfl⟩)
set_option maxHeartbeats 4000000 in
theorem rc_no (hQ : Qn w0 B w q k) (c : Cl) (hno : c.env < 1 ∨ 2 < c.env ∨ c.op < 1 ∨ 13 < c.op) (h : RcP R w0 B w q k 0 [] 1) :
    Calls Tryz.prog 11 #[.pointer (some ⟨q.g, 0, none⟩), .agg #[.int .i64 c.op, .int .i64 c.env, .int .i64 c.a, .int .i64 c.b, .int .i64 c.c, .string c.s, .slice c.p.A c.p.n c.p.c, .slice c.l.A c.l.n c.l.c]] w R := by
  have H := Lib.hid h
  have HQ := Lib.hid hQ
  clear h hQ
  by_cases h1 : c.env < 1
  · clear hno
    go_enter Tryz.func11, Tryz.ntmps11
    go_wp2
    exact bodyPost_ret (v := .tuple #[.int .i64 0, .string (S []), .int .i64 1]) (by simp [results, Tryz.results11, go_sem]; try rfl) rfl (H.out q _ (((Kp.refl _ _).alloc _)) (HQ.out.kp ((Kp.refl _ _).alloc _)) rfl ⟨rfl, rfl⟩)
  by_cases h2 : 2 < c.env
  · clear hno
    go_enter Tryz.func11, Tryz.ntmps11
    go_wp2
    exact bodyPost_ret (v := .tuple #[.int .i64 0, .string (S []), .int .i64 1]) (by simp [results, Tryz.results11, go_sem]; try rfl) rfl (H.out q _ (((Kp.refl _ _).alloc _)) (HQ.out.kp ((Kp.refl _ _).alloc _)) rfl ⟨rfl, rfl⟩)
  by_cases h3 : c.op < 1
  · clear hno
    go_enter Tryz.func11, Tryz.ntmps11
    go_wp2
    exact bodyPost_ret (v := .tuple #[.int .i64 0, .string (S []), .int .i64 1]) (by simp [results, Tryz.results11, go_sem]; try rfl) rfl (H.out q _ (((Kp.refl _ _).alloc _)) (HQ.out.kp ((Kp.refl _ _).alloc _)) rfl ⟨rfl, rfl⟩)
  · have h4 : 13 < c.op := by omega
    clear hno
    go_enter Tryz.func11, Tryz.ntmps11
    go_wp2
    exact bodyPost_ret (v := .tuple #[.int .i64 0, .string (S []), .int .i64 1]) (by simp [results, Tryz.results11, go_sem]; try rfl) rfl (H.out q _ (((Kp.refl _ _).alloc _)) (HQ.out.kp ((Kp.refl _ _).alloc _)) rfl ⟨rfl, rfl⟩)
end
end
end Go.Proofs.YtedblbpmlbjnhaaGreat
