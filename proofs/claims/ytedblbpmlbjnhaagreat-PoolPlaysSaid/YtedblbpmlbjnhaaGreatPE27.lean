/- pantlerref09: Call, the ops that ask the table or the disk. -/
import Derived.Test.YtedblbpmlbjnhaaGreatPE19
import Derived.Test.YtedblbpmlbjnhaaGreatPE26
import Derived.Deep.RegionHeldLaw
namespace Go.Proofs.YtedblbpmlbjnhaaGreat
/-! ### pantlerref09: Call, the ops that ask the table or the disk. -/
section
open Go.RowKit Go.Shelf
set_option linter.unusedVariables false
set_option linter.unusedSimpArgs false
set_option maxRecDepth 100000
/-- The document's call and the program's are the same. -/
structure KCl (x : Kc) (z : Cl) : Prop where
  op : x.op = z.op
  env : x.env = z.env
  a : x.a = z.a
  b : x.b = z.b
  c : x.c = z.c
  s : x.s = z.s.data.toList
  p : x.p = z.p.l
  l : x.l = z.l.l
/-- What the document's call keeps and answers. -/
def RcP (R : Ending → World → Prop) (w0 : World) (B : Nat) (w : World) (q : QA) (k' : KS) (n : Int) (l : List UInt8) (e : Int) : Prop :=
  ∀ q' w', Kp q.own w w' → Qn w0 B w' q' k' → q'.own = q.own → q'.bM = q.bM ∧ q'.bD = q.bD → R (.returned (.tuple #[.int .i64 n, .string (S l), .int .i64 e])) w'
section
variable {R : Ending → World → Prop} {w0 w : World} {B m : Nat} {q : QA} {k : KS}
theorem RcP.cast {k' k'' : KS} {n n' e e' : Int} {l l' : List UInt8} (h : RcP R w0 B w q k' n l e) (h1 : k' = k'') (h2 : n = n') (h3 : l = l') (h4 : e = e') : RcP R w0 B w q k'' n' l' e' := by subst h1; subst h2; subst h3; subst h4; exact h
set_option maxHeartbeats 4000000 in
theorem rc_1 (hQ : Qn w0 B w q k) (hF : Fok (16 * m) k.fs) (hm : m ≤ 10000) (c : Cl) (hi : i64B c.b) (he1 : 1 ≤ c.env) (he2 : c.env ≤ 2)
    (h : RcP R w0 B w q { k with fs := (dDo k.fs ⟨0, c.env, 0, 0, 0, ⟨#[]⟩⟩).fs } (dDo k.fs ⟨0, c.env, 0, 0, 0, ⟨#[]⟩⟩).n (dDo k.fs ⟨0, c.env, 0, 0, 0, ⟨#[]⟩⟩).s (dDo k.fs ⟨0, c.env, 0, 0, 0, ⟨#[]⟩⟩).e) :
    Calls Tryz.prog 11 #[.pointer (some ⟨q.g, 0, none⟩), .agg #[.int .i64 1, .int .i64 c.env, .int .i64 c.a, .int .i64 c.b, .int .i64 c.c, .string c.s, .slice c.p.A c.p.n c.p.c, .slice c.l.A c.l.n c.l.c]] w R := by
  have H := Lib.hid h
  have HQ := Lib.hid hQ
  have HD : Hid (∀ (R : Ending → World → Prop) (w1 : World), Kp [] w w1 → (∀ w', Kp [q.bO, q.bH, q.bB] w1 w' → RT w' q.bM q.bO q.bH q.bB (dDo k.fs ⟨0, c.env, 0, 0, 0, ⟨#[]⟩⟩).fs → R (.returned (.tuple #[.int .i64 (dDo k.fs ⟨0, c.env, 0, 0, 0, ⟨#[]⟩⟩).n, .string (S (dDo k.fs ⟨0, c.env, 0, 0, 0, ⟨#[]⟩⟩).s), .int .i64 (dDo k.fs ⟨0, c.env, 0, 0, 0, ⟨#[]⟩⟩).e])) w') →
      Calls Tryz.prog 54 #[.pointer (some ⟨q.bM, 0, none⟩), .agg #[.int .i64 0, .int .i64 c.env, .int .i64 0, .int .i64 0, .int .i64 0, .string ⟨#[]⟩]] w1 R) := Lib.hid (fun R w1 k1 h => rdo_any (hQ.kp k1).t ⟨0, c.env, 0, 0, 0, ⟨#[]⟩⟩ (m := 16 * m) (by omega) hF (by simp) (by simp) (by unfold i64B at hi; simp; try omega) (by unfold i64B at hi; simp; try omega) (fun n s e fs' w' hd kk ht => by
        have hd := hd.out
        rw [hd] at h
        exact h w' kk ht))
  have hn1 : ¬ c.env < 1 := by omega
  have hn2 : ¬ 2 < c.env := by omega
  obtain ⟨dn, hdn⟩ : ∃ v, (dDo k.fs ⟨0, c.env, 0, 0, 0, ⟨#[]⟩⟩).n = v := ⟨_, rfl⟩
  obtain ⟨ds, hds⟩ : ∃ v, (dDo k.fs ⟨0, c.env, 0, 0, 0, ⟨#[]⟩⟩).s = v := ⟨_, rfl⟩
  obtain ⟨de, hde⟩ : ∃ v, (dDo k.fs ⟨0, c.env, 0, 0, 0, ⟨#[]⟩⟩).e = v := ⟨_, rfl⟩
  obtain ⟨df, hdf⟩ : ∃ v, (dDo k.fs ⟨0, c.env, 0, 0, 0, ⟨#[]⟩⟩).fs = v := ⟨_, rfl⟩
  rw [hdn, hds, hde, hdf] at HD H
  clear h hQ hF hdn hds hde hdf hi
  go_enter Tryz.func11, Tryz.ntmps11
  go_upto_region 5 with (fail)
  refine genV (fun W => ∃ gx, w.heap.size = gx ∧ Kp [] w W ∧ Bk W gx 34 [.int .i64 1, .int .i64 c.env, .int .i64 c.a, .int .i64 c.b, .int .i64 c.c, .string c.s, .slice c.p.A c.p.n c.p.c, .slice c.l.A c.l.n c.l.c]) ⟨_, rfl, (Kp.refl _ _).alloc _, (Bk.newAt (by simp) _ _).cast rfl⟩ ?_
  rintro W ⟨gx, hgx, kW, bW⟩
  rw [hgx]
  have QW := Lib.hid (HQ.out.kp kW)
  have KW := Lib.hid kW
  have hgq : gx ∉ [q.bO, q.bH, q.bB] := fun hm => by have h1 := HQ.out.t.o.lt; have h2 := HQ.out.t.h.lt; have h3 := HQ.out.t.b.lt; simp at hm; omega
  have HS : Hid (∀ W', Kp [q.bO, q.bH, q.bB] W W' → (fun w' => w'.cell? ⟨q.g, 0, none⟩ = some (.pointer (some ⟨q.bM, 0, none⟩)) ∧ w'.cell? ⟨gx, 1, none⟩ = some (.int .i64 c.env)) W') := Lib.hid (fun W' k' => ⟨(QW.out.g.kp k' QW.out.nes.1).cell 0, (bW.kp k' hgq).cell 1⟩)
  clear hgx kW bW hgq
  go_region_held_law (fun w' => w'.cell? ⟨q.g, 0, none⟩ = some (.pointer (some ⟨q.bM, 0, none⟩)) ∧ w'.cell? ⟨gx, 1, none⟩ = some (.int .i64 c.env)) (first | with_reducible exact HS.out _ (Kp.drew (Kp.refl _ _)) | with_reducible exact HS.out _ kk2) (first | (go_simp; go_at_call 54; (refine HD.out _ _ (KW.out.trans (by repeat (first | with_reducible exact Kp.refl _ _ | with_reducible refine Kp.drew ?_))) ?_); intro w2 kk ht2; have kk2 : Kp [q.bO, q.bH, q.bB] W w2 := ((Kp.refl [q.bO, q.bH, q.bB] W).drew).trans kk))
  all_goals
    obtain ⟨q2, k2⟩ := QW.out.setT kk2 ht2
    go_wp2
    exact bodyPost_ret (v := .tuple #[.int .i64 dn, .string (S ds), .int .i64 de]) (by simp [results, Tryz.results11, go_sem]; try rfl) rfl (H.out q _ ((KW.out.mono (by simp)).thn k2 (fun s hs => .inl hs)) q2 rfl ⟨rfl, rfl⟩)
set_option maxHeartbeats 4000000 in
theorem rc_2 (hQ : Qn w0 B w q k) (hF : Fok (16 * m) k.fs) (hm : m ≤ 10000) (c : Cl) (hi : i64B c.b) (he1 : 1 ≤ c.env) (he2 : c.env ≤ 2)
    (h : RcP R w0 B w q { k with fs := (dDo k.fs ⟨1, c.env, c.a, 0, 0, ⟨#[]⟩⟩).fs } (dDo k.fs ⟨1, c.env, c.a, 0, 0, ⟨#[]⟩⟩).n (dDo k.fs ⟨1, c.env, c.a, 0, 0, ⟨#[]⟩⟩).s (dDo k.fs ⟨1, c.env, c.a, 0, 0, ⟨#[]⟩⟩).e) :
    Calls Tryz.prog 11 #[.pointer (some ⟨q.g, 0, none⟩), .agg #[.int .i64 2, .int .i64 c.env, .int .i64 c.a, .int .i64 c.b, .int .i64 c.c, .string c.s, .slice c.p.A c.p.n c.p.c, .slice c.l.A c.l.n c.l.c]] w R := by
  have H := Lib.hid h
  have HQ := Lib.hid hQ
  have HD : Hid (∀ (R : Ending → World → Prop) (w1 : World), Kp [] w w1 → (∀ w', Kp [q.bO, q.bH, q.bB] w1 w' → RT w' q.bM q.bO q.bH q.bB (dDo k.fs ⟨1, c.env, c.a, 0, 0, ⟨#[]⟩⟩).fs → R (.returned (.tuple #[.int .i64 (dDo k.fs ⟨1, c.env, c.a, 0, 0, ⟨#[]⟩⟩).n, .string (S (dDo k.fs ⟨1, c.env, c.a, 0, 0, ⟨#[]⟩⟩).s), .int .i64 (dDo k.fs ⟨1, c.env, c.a, 0, 0, ⟨#[]⟩⟩).e])) w') →
      Calls Tryz.prog 54 #[.pointer (some ⟨q.bM, 0, none⟩), .agg #[.int .i64 1, .int .i64 c.env, .int .i64 c.a, .int .i64 0, .int .i64 0, .string ⟨#[]⟩]] w1 R) := Lib.hid (fun R w1 k1 h => rdo_any (hQ.kp k1).t ⟨1, c.env, c.a, 0, 0, ⟨#[]⟩⟩ (m := 16 * m) (by omega) hF (by simp) (by simp) (by unfold i64B at hi; simp; try omega) (by unfold i64B at hi; simp; try omega) (fun n s e fs' w' hd kk ht => by
        have hd := hd.out
        rw [hd] at h
        exact h w' kk ht))
  have hn1 : ¬ c.env < 1 := by omega
  have hn2 : ¬ 2 < c.env := by omega
  obtain ⟨dn, hdn⟩ : ∃ v, (dDo k.fs ⟨1, c.env, c.a, 0, 0, ⟨#[]⟩⟩).n = v := ⟨_, rfl⟩
  obtain ⟨ds, hds⟩ : ∃ v, (dDo k.fs ⟨1, c.env, c.a, 0, 0, ⟨#[]⟩⟩).s = v := ⟨_, rfl⟩
  obtain ⟨de, hde⟩ : ∃ v, (dDo k.fs ⟨1, c.env, c.a, 0, 0, ⟨#[]⟩⟩).e = v := ⟨_, rfl⟩
  obtain ⟨df, hdf⟩ : ∃ v, (dDo k.fs ⟨1, c.env, c.a, 0, 0, ⟨#[]⟩⟩).fs = v := ⟨_, rfl⟩
  rw [hdn, hds, hde, hdf] at HD H
  clear h hQ hF hdn hds hde hdf hi
  go_enter Tryz.func11, Tryz.ntmps11
  go_upto_region 7 with (fail)
  refine genV (fun W => ∃ gx, w.heap.size = gx ∧ Kp [] w W ∧ Bk W gx 34 [.int .i64 2, .int .i64 c.env, .int .i64 c.a, .int .i64 c.b, .int .i64 c.c, .string c.s, .slice c.p.A c.p.n c.p.c, .slice c.l.A c.l.n c.l.c]) ⟨_, rfl, (Kp.refl _ _).alloc _, (Bk.newAt (by simp) _ _).cast rfl⟩ ?_
  rintro W ⟨gx, hgx, kW, bW⟩
  rw [hgx]
  have QW := Lib.hid (HQ.out.kp kW)
  have KW := Lib.hid kW
  have hgq : gx ∉ [q.bO, q.bH, q.bB] := fun hm => by have h1 := HQ.out.t.o.lt; have h2 := HQ.out.t.h.lt; have h3 := HQ.out.t.b.lt; simp at hm; omega
  have HS : Hid (∀ W', Kp [q.bO, q.bH, q.bB] W W' → (fun w' => w'.cell? ⟨q.g, 0, none⟩ = some (.pointer (some ⟨q.bM, 0, none⟩)) ∧ w'.cell? ⟨gx, 1, none⟩ = some (.int .i64 c.env) ∧ w'.cell? ⟨gx, 2, none⟩ = some (.int .i64 c.a)) W') := Lib.hid (fun W' k' => ⟨(QW.out.g.kp k' QW.out.nes.1).cell 0, (bW.kp k' hgq).cell 1, (bW.kp k' hgq).cell 2⟩)
  clear hgx kW bW hgq
  go_region_held_law (fun w' => w'.cell? ⟨q.g, 0, none⟩ = some (.pointer (some ⟨q.bM, 0, none⟩)) ∧ w'.cell? ⟨gx, 1, none⟩ = some (.int .i64 c.env) ∧ w'.cell? ⟨gx, 2, none⟩ = some (.int .i64 c.a)) (first | with_reducible exact HS.out _ (Kp.drew (Kp.refl _ _)) | with_reducible exact HS.out _ kk2) (first | (go_simp; go_at_call 54; (refine HD.out _ _ (KW.out.trans (by repeat (first | with_reducible exact Kp.refl _ _ | with_reducible refine Kp.drew ?_))) ?_); intro w2 kk ht2; have kk2 : Kp [q.bO, q.bH, q.bB] W w2 := ((Kp.refl [q.bO, q.bH, q.bB] W).drew).trans kk))
  all_goals
    obtain ⟨q2, k2⟩ := QW.out.setT kk2 ht2
    go_wp2
    exact bodyPost_ret (v := .tuple #[.int .i64 dn, .string (S ds), .int .i64 de]) (by simp [results, Tryz.results11, go_sem]; try rfl) rfl (H.out q _ ((KW.out.mono (by simp)).thn k2 (fun s hs => .inl hs)) q2 rfl ⟨rfl, rfl⟩)
set_option maxHeartbeats 4000000 in
theorem rc_5 (hQ : Qn w0 B w q k) (hF : Fok (16 * m) k.fs) (hm : m ≤ 10000) (c : Cl) (hi : i64B c.b) (he1 : 1 ≤ c.env) (he2 : c.env ≤ 2)
    (h : RcP R w0 B w q { k with fs := (dDo k.fs ⟨4, c.env, c.a, c.b, 0, c.s⟩).fs } (dDo k.fs ⟨4, c.env, c.a, c.b, 0, c.s⟩).n (dDo k.fs ⟨4, c.env, c.a, c.b, 0, c.s⟩).s (dDo k.fs ⟨4, c.env, c.a, c.b, 0, c.s⟩).e) :
    Calls Tryz.prog 11 #[.pointer (some ⟨q.g, 0, none⟩), .agg #[.int .i64 5, .int .i64 c.env, .int .i64 c.a, .int .i64 c.b, .int .i64 c.c, .string c.s, .slice c.p.A c.p.n c.p.c, .slice c.l.A c.l.n c.l.c]] w R := by
  have H := Lib.hid h
  have HQ := Lib.hid hQ
  have HD : Hid (∀ (R : Ending → World → Prop) (w1 : World), Kp [] w w1 → (∀ w', Kp [q.bO, q.bH, q.bB] w1 w' → RT w' q.bM q.bO q.bH q.bB (dDo k.fs ⟨4, c.env, c.a, c.b, 0, c.s⟩).fs → R (.returned (.tuple #[.int .i64 (dDo k.fs ⟨4, c.env, c.a, c.b, 0, c.s⟩).n, .string (S (dDo k.fs ⟨4, c.env, c.a, c.b, 0, c.s⟩).s), .int .i64 (dDo k.fs ⟨4, c.env, c.a, c.b, 0, c.s⟩).e])) w') →
      Calls Tryz.prog 54 #[.pointer (some ⟨q.bM, 0, none⟩), .agg #[.int .i64 4, .int .i64 c.env, .int .i64 c.a, .int .i64 c.b, .int .i64 0, .string c.s]] w1 R) := Lib.hid (fun R w1 k1 h => rdo_any (hQ.kp k1).t ⟨4, c.env, c.a, c.b, 0, c.s⟩ (m := 16 * m) (by omega) hF (by simp) (by simp) (by unfold i64B at hi; simp; try omega) (by unfold i64B at hi; simp; try omega) (fun n s e fs' w' hd kk ht => by
        have hd := hd.out
        rw [hd] at h
        exact h w' kk ht))
  have hn1 : ¬ c.env < 1 := by omega
  have hn2 : ¬ 2 < c.env := by omega
  obtain ⟨dn, hdn⟩ : ∃ v, (dDo k.fs ⟨4, c.env, c.a, c.b, 0, c.s⟩).n = v := ⟨_, rfl⟩
  obtain ⟨ds, hds⟩ : ∃ v, (dDo k.fs ⟨4, c.env, c.a, c.b, 0, c.s⟩).s = v := ⟨_, rfl⟩
  obtain ⟨de, hde⟩ : ∃ v, (dDo k.fs ⟨4, c.env, c.a, c.b, 0, c.s⟩).e = v := ⟨_, rfl⟩
  obtain ⟨df, hdf⟩ : ∃ v, (dDo k.fs ⟨4, c.env, c.a, c.b, 0, c.s⟩).fs = v := ⟨_, rfl⟩
  rw [hdn, hds, hde, hdf] at HD H
  clear h hQ hF hdn hds hde hdf hi
  go_enter Tryz.func11, Tryz.ntmps11
  go_upto_region 13 with (fail)
  refine genV (fun W => ∃ gx, w.heap.size = gx ∧ Kp [] w W ∧ Bk W gx 34 [.int .i64 5, .int .i64 c.env, .int .i64 c.a, .int .i64 c.b, .int .i64 c.c, .string c.s, .slice c.p.A c.p.n c.p.c, .slice c.l.A c.l.n c.l.c]) ⟨_, rfl, (Kp.refl _ _).alloc _, (Bk.newAt (by simp) _ _).cast rfl⟩ ?_
  rintro W ⟨gx, hgx, kW, bW⟩
  rw [hgx]
  have QW := Lib.hid (HQ.out.kp kW)
  have KW := Lib.hid kW
  have hgq : gx ∉ [q.bO, q.bH, q.bB] := fun hm => by have h1 := HQ.out.t.o.lt; have h2 := HQ.out.t.h.lt; have h3 := HQ.out.t.b.lt; simp at hm; omega
  have HS : Hid (∀ W', Kp [q.bO, q.bH, q.bB] W W' → (fun w' => w'.cell? ⟨q.g, 0, none⟩ = some (.pointer (some ⟨q.bM, 0, none⟩)) ∧ w'.cell? ⟨gx, 1, none⟩ = some (.int .i64 c.env) ∧ w'.cell? ⟨gx, 2, none⟩ = some (.int .i64 c.a) ∧ w'.cell? ⟨gx, 3, none⟩ = some (.int .i64 c.b) ∧ w'.cell? ⟨gx, 5, none⟩ = some (.string c.s)) W') := Lib.hid (fun W' k' => ⟨(QW.out.g.kp k' QW.out.nes.1).cell 0, (bW.kp k' hgq).cell 1, (bW.kp k' hgq).cell 2, (bW.kp k' hgq).cell 3, (bW.kp k' hgq).cell 5⟩)
  clear hgx kW bW hgq
  go_region_held_law (fun w' => w'.cell? ⟨q.g, 0, none⟩ = some (.pointer (some ⟨q.bM, 0, none⟩)) ∧ w'.cell? ⟨gx, 1, none⟩ = some (.int .i64 c.env) ∧ w'.cell? ⟨gx, 2, none⟩ = some (.int .i64 c.a) ∧ w'.cell? ⟨gx, 3, none⟩ = some (.int .i64 c.b) ∧ w'.cell? ⟨gx, 5, none⟩ = some (.string c.s)) (first | with_reducible exact HS.out _ (Kp.drew (Kp.refl _ _)) | with_reducible exact HS.out _ kk2) (first | (go_simp; go_at_call 54; (refine HD.out _ _ (KW.out.trans (by repeat (first | with_reducible exact Kp.refl _ _ | with_reducible refine Kp.drew ?_))) ?_); intro w2 kk ht2; have kk2 : Kp [q.bO, q.bH, q.bB] W w2 := ((Kp.refl [q.bO, q.bH, q.bB] W).drew).trans kk))
  all_goals
    obtain ⟨q2, k2⟩ := QW.out.setT kk2 ht2
    go_wp2
    exact bodyPost_ret (v := .tuple #[.int .i64 dn, .string (S ds), .int .i64 de]) (by simp [results, Tryz.results11, go_sem]; try rfl) rfl (H.out q _ ((KW.out.mono (by simp)).thn k2 (fun s hs => .inl hs)) q2 rfl ⟨rfl, rfl⟩)
set_option maxHeartbeats 4000000 in
theorem rc_6 (hQ : Qn w0 B w q k) (hl : k.d.ln.length ≤ 1000000) (c : Cl) (he1 : 1 ≤ c.env) (he2 : c.env ≤ 2)
    (h : RcP R w0 B w q k 0 (dRead k.d c.env c.a).2 (dRead k.d c.env c.a).1) :
    Calls Tryz.prog 11 #[.pointer (some ⟨q.g, 0, none⟩), .agg #[.int .i64 6, .int .i64 c.env, .int .i64 c.a, .int .i64 c.b, .int .i64 c.c, .string c.s, .slice c.p.A c.p.n c.p.c, .slice c.l.A c.l.n c.l.c]] w R := by
  have H := Lib.hid h
  have HQ := Lib.hid hQ
  have HD : Hid (∀ (R : Ending → World → Prop) (w1 : World), Kp [] w w1 → (∀ w', Kp [] w1 w' → R (.returned (.tuple #[.string (S (dRead k.d c.env c.a).2), .int .i64 (dRead k.d c.env c.a).1])) w') →
      Calls Tryz.prog 55 #[.pointer (some ⟨q.bD, 0, none⟩), .agg #[.int .i64 1, .int .i64 c.env, .int .i64 c.a, .int .i64 0, .string ⟨#[]⟩]] w1 R) := Lib.hid (fun R w1 k1 h => mdo1_any (hQ.kp k1).d hl _ _ _ _ h)
  have hn1 : ¬ c.env < 1 := by omega
  have hn2 : ¬ 2 < c.env := by omega
  obtain ⟨ds, hds⟩ : ∃ v, (dRead k.d c.env c.a).2 = v := ⟨_, rfl⟩
  obtain ⟨de, hde⟩ : ∃ v, (dRead k.d c.env c.a).1 = v := ⟨_, rfl⟩
  rw [hds, hde] at HD H
  clear h hQ hds hde
  go_enter Tryz.func11, Tryz.ntmps11
  go_upto_region 15 with (fail)
  refine genV (fun W => ∃ gx, w.heap.size = gx ∧ Kp [] w W ∧ Bk W gx 34 [.int .i64 6, .int .i64 c.env, .int .i64 c.a, .int .i64 c.b, .int .i64 c.c, .string c.s, .slice c.p.A c.p.n c.p.c, .slice c.l.A c.l.n c.l.c]) ⟨_, rfl, (Kp.refl _ _).alloc _, (Bk.newAt (by simp) _ _).cast rfl⟩ ?_
  rintro W ⟨gx, hgx, kW, bW⟩
  rw [hgx]
  have QW := Lib.hid (HQ.out.kp kW)
  have KW := Lib.hid kW
  have HS : Hid (∀ W', Kp [] W W' → (fun w' : World => w'.cell? ⟨q.g, 1, none⟩ = some (.pointer (some ⟨q.bD, 0, none⟩)) ∧ w'.cell? ⟨gx, 1, none⟩ = some (.int .i64 c.env) ∧ w'.cell? ⟨gx, 2, none⟩ = some (.int .i64 c.a)) W') := Lib.hid (fun W' k' => ⟨(QW.out.g.kp k' (by simp)).cell 1, (bW.kp k' (by simp)).cell 1, (bW.kp k' (by simp)).cell 2⟩)
  clear hgx kW bW
  go_region_held_law (fun w' => w'.cell? ⟨q.g, 1, none⟩ = some (.pointer (some ⟨q.bD, 0, none⟩)) ∧ w'.cell? ⟨gx, 1, none⟩ = some (.int .i64 c.env) ∧ w'.cell? ⟨gx, 2, none⟩ = some (.int .i64 c.a)) (first | with_reducible exact HS.out _ (Kp.drew (Kp.refl _ _)) | with_reducible exact HS.out _ kk2) (first | (go_simp; go_at_call 55; (refine HD.out _ _ (KW.out.trans (by repeat (first | with_reducible exact Kp.refl _ _ | with_reducible refine Kp.drew ?_))) ?_); intro w2 kk; have kk2 : Kp [] W w2 := ((Kp.refl [] W).drew).trans kk))
  all_goals
    go_wp2
    exact bodyPost_ret (v := .tuple #[.int .i64 0, .string (S ds), .int .i64 de]) (by simp [results, Tryz.results11, go_sem]; try rfl) rfl (H.out q _ ((KW.out.trans kk2).mono (by simp)) (QW.out.kp kk2) rfl ⟨rfl, rfl⟩)
theorem mw_any {R : Ending → World → Prop} {w : World} {bD bB bO c : Nat} {A : Option Addr} {d : DkS} (hd : Dm w bD bB bO A c d) (hlm : d.ln.length ≤ 1000000) (hbo : bD ≠ bO) (env a b : Int) (s : ByteArray) (h : ∀ A' c' w', Kp [bD, bB] w w' → Dm w' bD bB bO A' c' (dWrite d env a s.data.toList).2 → R (.returned (.tuple #[.string ⟨#[]⟩, .int .i64 (dWrite d env a s.data.toList).1])) w') :
    Calls Tryz.prog 55 #[.pointer (some ⟨bD, 0, none⟩), .agg #[.int .i64 2, .int .i64 env, .int .i64 a, .int .i64 b, .string s]] w R := by
  have es : s = S s.data.toList := rfl
  obtain ⟨l, hl⟩ : ∃ l, s.data.toList = l := ⟨_, rfl⟩
  rw [hl] at h es
  rw [es]
  by_cases hm : dMay d env a = 0
  · by_cases h2 : l.length = 256
    · by_cases hA : d.arm = true ∧ d.left = 0
      · have e : dWrite d env a l = (30, dCut d) := by unfold dWrite dCut; rw [if_pos hm, if_pos h2, if_pos hA.1, if_pos hA.2]
        rw [e] at h
        exact mw_2 hd env a b l hm h2 hA hbo (fun w' k hd' => h _ _ w' (k.mono (by simp)) hd')
      · have e : (dWrite d env a l).1 = 0 := by
          unfold dWrite
          rw [if_pos hm, if_pos h2]
          by_cases ha : d.arm = true
          · rw [if_pos ha, if_neg (fun e => hA ⟨ha, e⟩)]
          · rw [if_neg ha]
        rw [e] at h
        exact mw_3 hd hlm env a b l hm h2 hA hbo (fun A' c' w' k hd' => h _ _ w' (k.mono (by simp)) hd')
    · have e : dWrite d env a l = (1, d) := by unfold dWrite; rw [if_pos hm, if_neg h2]
      rw [e] at h
      exact mw_1 hd env a b l hm h2 (fun w' k => h _ _ w' (k.mono (by simp)) (hd.kp k))
  · have e : dWrite d env a l = (dMay d env a, d) := by unfold dWrite; rw [if_neg hm]
    rw [e] at h
    exact mw_0 hd env a b l hm (fun w' k => h _ _ w' (k.mono (by simp)) (hd.kp k))
theorem Qn.dO (h : Qn w0 B w q k) : q.bD ≠ q.pO ∧ q.pB ≠ q.pO := by
  obtain ⟨d0, d1, hd⟩ := h.d.dd
  exact ⟨(h.d.o.ne_bk hd (by decide)).symm, (h.d.o.ne_ h.d.b (by decide)).symm⟩
set_option maxHeartbeats 4000000 in
theorem rc_7 (hQ : Qn w0 B w q k) (hl : k.d.ln.length ≤ 1000000) (c : Cl) (he1 : 1 ≤ c.env) (he2 : c.env ≤ 2)
    (h : RcP R w0 B w q { k with d := (dWrite k.d c.env c.a c.s.data.toList).2 } 0 [] (dWrite k.d c.env c.a c.s.data.toList).1) :
    Calls Tryz.prog 11 #[.pointer (some ⟨q.g, 0, none⟩), .agg #[.int .i64 7, .int .i64 c.env, .int .i64 c.a, .int .i64 c.b, .int .i64 c.c, .string c.s, .slice c.p.A c.p.n c.p.c, .slice c.l.A c.l.n c.l.c]] w R := by
  have H := Lib.hid h
  have HQ := Lib.hid hQ
  have HD : Hid (∀ (R : Ending → World → Prop) (w1 : World), Kp [] w w1 → (∀ A' c' w', Kp [q.bD, q.pB] w1 w' → Dm w' q.bD q.pB q.pO A' c' (dWrite k.d c.env c.a c.s.data.toList).2 → R (.returned (.tuple #[.string ⟨#[]⟩, .int .i64 (dWrite k.d c.env c.a c.s.data.toList).1])) w') →
      Calls Tryz.prog 55 #[.pointer (some ⟨q.bD, 0, none⟩), .agg #[.int .i64 2, .int .i64 c.env, .int .i64 c.a, .int .i64 0, .string c.s]] w1 R) := Lib.hid (fun R w1 k1 h => mw_any (hQ.kp k1).d hl hQ.dO.1 _ _ _ _ h)
  have hn1 : ¬ c.env < 1 := by omega
  have hn2 : ¬ 2 < c.env := by omega
  obtain ⟨ds, hds⟩ : ∃ v, (dWrite k.d c.env c.a c.s.data.toList).2 = v := ⟨_, rfl⟩
  obtain ⟨de, hde⟩ : ∃ v, (dWrite k.d c.env c.a c.s.data.toList).1 = v := ⟨_, rfl⟩
  rw [hds, hde] at HD H
  clear h hQ hds hde
  go_enter Tryz.func11, Tryz.ntmps11
  go_upto_region 18 with (fail)
  refine genV (fun W => ∃ gx, w.heap.size = gx ∧ Kp [] w W ∧ Bk W gx 34 [.int .i64 7, .int .i64 c.env, .int .i64 c.a, .int .i64 c.b, .int .i64 c.c, .string c.s, .slice c.p.A c.p.n c.p.c, .slice c.l.A c.l.n c.l.c]) ⟨_, rfl, (Kp.refl _ _).alloc _, (Bk.newAt (by simp) _ _).cast rfl⟩ ?_
  rintro W ⟨gx, hgx, kW, bW⟩
  rw [hgx]
  have QW := Lib.hid (HQ.out.kp kW)
  have KW := Lib.hid kW
  have hgq : gx ∉ [q.bD, q.pB] := fun hm => by obtain ⟨d0, d1, hd⟩ := HQ.out.d.dd; have h1 := hd.lt; have h2 := HQ.out.d.b.lt; simp at hm; omega
  have HS : Hid (∀ W', Kp [q.bD, q.pB] W W' → (fun w' : World => w'.cell? ⟨q.g, 1, none⟩ = some (.pointer (some ⟨q.bD, 0, none⟩)) ∧ w'.cell? ⟨gx, 1, none⟩ = some (.int .i64 c.env) ∧ w'.cell? ⟨gx, 2, none⟩ = some (.int .i64 c.a) ∧ w'.cell? ⟨gx, 5, none⟩ = some (.string c.s)) W') := Lib.hid (fun W' k' => ⟨(QW.out.g.kp k' QW.out.nes.2.1).cell 1, (bW.kp k' hgq).cell 1, (bW.kp k' hgq).cell 2, (bW.kp k' hgq).cell 5⟩)
  clear hgx kW bW hgq
  go_region_held_law (fun w' => w'.cell? ⟨q.g, 1, none⟩ = some (.pointer (some ⟨q.bD, 0, none⟩)) ∧ w'.cell? ⟨gx, 1, none⟩ = some (.int .i64 c.env) ∧ w'.cell? ⟨gx, 2, none⟩ = some (.int .i64 c.a) ∧ w'.cell? ⟨gx, 5, none⟩ = some (.string c.s)) (first | with_reducible exact HS.out _ (Kp.drew (Kp.refl _ _)) | with_reducible exact HS.out _ kk2) (first | (go_simp; go_at_call 55; (refine HD.out _ _ (KW.out.trans (by repeat (first | with_reducible exact Kp.refl _ _ | with_reducible refine Kp.drew ?_))) ?_); intro A2 c2 w2 kk ht2; have kk2 : Kp [q.bD, q.pB] W w2 := ((Kp.refl [q.bD, q.pB] W).drew).trans kk))
  all_goals
    obtain ⟨q2, k2⟩ := QW.out.setD kk2 ht2
    go_wp2
    exact bodyPost_ret (v := .tuple #[.int .i64 0, .string (S []), .int .i64 de]) (by simp [results, Tryz.results11, go_sem]; try rfl) rfl (H.out _ _ ((KW.out.mono (by simp)).thn k2 (fun s hs => .inl hs)) q2 rfl ⟨rfl, rfl⟩)
set_option maxHeartbeats 4000000 in
theorem rc_no (hQ : Qn w0 B w q k) (c : Cl) (hno : c.env < 1 ∨ 2 < c.env ∨ c.op < 1 ∨ 13 < c.op) (h : RcP R w0 B w q k 0 [] 1) :
    Calls Tryz.prog 11 #[.pointer (some ⟨q.g, 0, none⟩), .agg #[.int .i64 c.op, .int .i64 c.env, .int .i64 c.a, .int .i64 c.b, .int .i64 c.c, .string c.s, .slice c.p.A c.p.n c.p.c, .slice c.l.A c.l.n c.l.c]] w R := by
  have H := Lib.hid h
  have HQ := Lib.hid hQ
  clear h hQ
  by_cases h1 : c.env < 1
  · clear hno
    go_enter Tryz.func11, Tryz.ntmps11
    go_wp2
    exact bodyPost_ret (v := .tuple #[.int .i64 0, .string (S []), .int .i64 1]) (by simp [results, Tryz.results11, go_sem]; try rfl) rfl (H.out q _ (((Kp.refl _ _).alloc _)) (HQ.out.kp ((Kp.refl _ _).alloc _)) rfl ⟨rfl, rfl⟩)
  by_cases h2 : 2 < c.env
  · clear hno
    go_enter Tryz.func11, Tryz.ntmps11
    go_wp2
    exact bodyPost_ret (v := .tuple #[.int .i64 0, .string (S []), .int .i64 1]) (by simp [results, Tryz.results11, go_sem]; try rfl) rfl (H.out q _ (((Kp.refl _ _).alloc _)) (HQ.out.kp ((Kp.refl _ _).alloc _)) rfl ⟨rfl, rfl⟩)
  by_cases h3 : c.op < 1
  · clear hno
    go_enter Tryz.func11, Tryz.ntmps11
    go_wp2
    exact bodyPost_ret (v := .tuple #[.int .i64 0, .string (S []), .int .i64 1]) (by simp [results, Tryz.results11, go_sem]; try rfl) rfl (H.out q _ (((Kp.refl _ _).alloc _)) (HQ.out.kp ((Kp.refl _ _).alloc _)) rfl ⟨rfl, rfl⟩)
  · have h4 : 13 < c.op := by omega
    clear hno
    go_enter Tryz.func11, Tryz.ntmps11
    go_wp2
    exact bodyPost_ret (v := .tuple #[.int .i64 0, .string (S []), .int .i64 1]) (by simp [results, Tryz.results11, go_sem]; try rfl) rfl (H.out q _ (((Kp.refl _ _).alloc _)) (HQ.out.kp ((Kp.refl _ _).alloc _)) rfl ⟨rfl, rfl⟩)
end
end
end Go.Proofs.YtedblbpmlbjnhaaGreat
