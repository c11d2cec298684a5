/- RequestCuts walked. -/
import Derived.Test.YtbgfcidklofcpaaDoorReqAl
import Derived.Test.YtbgfcidklofcpaaDoorReqCt
import Derived.Test.YtbgfcidklofcpaaDoorReqSm
namespace Go.Proofs.YtbgfcidklofcpaaDoor
open Go.RowKit Go.Shelf
set_option linter.unusedVariables false
set_option linter.unusedSimpArgs false
set_option maxRecDepth 100000

/-- A request as it lies in a row. -/
structure RQ where
  r : Req
  A : Option Addr
  c : Nat
def rqC (q : RQ) : List Value := reqC q.r q.A q.c
theorem rqC_len (q : RQ) : (rqC q).length = 5 := rfl
theorem elt_rq : Elt Tryd.prog 41 29 (.agg #[.string ByteArray.empty, .string ByteArray.empty, .int .i64 0, .slice none 0 0, .bool false]) 5 72 := ⟨Tryd.underlying41, by kernel_rfl, rfl, by decide, by decide⟩
theorem rq_one (q : RQ) : ∀ u ∈ rqC q, u.oneCell' = true := by
  intro u hu; simp [rqC, reqC] at hu; rcases hu with rfl | rfl | rfl | rfl | rfl <;> rfl
def RowOk (w : World) (N : List Nat) (xs : List RQ) : Prop := ∀ q ∈ xs, Rd w N q.A (q.r.fs.flatMap fldC) ∧ q.r.fs.length ≤ 100000
theorem RowOk.to {w w' : World} {N N' S : List Nat} {xs : List RQ} (h : RowOk w N xs) (hk : Kp S w w') (hs : ∀ s ∈ S, s ∈ N ∨ w.heap.size ≤ s) (hn : ∀ s ∈ N', s ∈ N ∨ w.heap.size ≤ s) : RowOk w' N' xs :=
  fun q hq => ⟨(h q hq).1.to hk hs hn, (h q hq).2⟩
theorem RowOk.snoc {w : World} {N : List Nat} {xs : List RQ} {q : RQ} (h : RowOk w N xs) (h1 : Rd w N q.A (q.r.fs.flatMap fldC)) (h2 : q.r.fs.length ≤ 100000) : RowOk w N (xs ++ [q]) := by
  intro x hx
  rcases List.mem_append.1 hx with hx | hx
  · exact h x hx
  · simp at hx; subst hx; exact ⟨h1, h2⟩
theorem next_fs (b : List UInt8) : (nextF b).1.fs.length ≤ b.length := by
  unfold nextF
  have h := (headF_sum (b.length + 1) b.length [] b).1
  generalize headF (b.length + 1) b.length [] b = p at *
  obtain ⟨ls, rest, st⟩ := p
  simp only at h ⊢
  have ho : (ofF ls).1.fs.length ≤ ls.length := by
    unfold ofF
    split
    · simp [noReq]
    · rename_i l ls'
      split
      · simp [noReq]
      · split
        · simp [noReq]
        · split
          · simp [noReq]
          · split
            · simp [noReq]
            · rename_i fs hfs
              have := (fields_sum ls' fs hfs).2
              unfold ofFs
              repeat' split
              all_goals first | omega | (simp only; omega) | (simp [noReq]; done) | (simp [noReq]; omega)
  simp only [List.length_nil, Nat.zero_add] at h
  repeat' split
  all_goals first | omega | (simp only; omega) | (simp [noReq]; done) | (simp [noReq]; omega)
/-- The contracts of Next in three forms. -/
theorem next_m {b : List UInt8} (hb : b.length < 1024) (e : nextF b = (noReq, -1, b, false)) {R : Ending → World → Prop} {w : World} {g : Nat} (hm : Ml w) (hp : Ps w g b false)
    (h : ∀ A c w', Ps w' g b false → Kp [g] w w' → R (.returned (.tuple #[.agg #[.string (S []), .string (S []), .int .i64 0, .slice A 0 c, .bool false], .int .i64 (-1)])) w') : Calls Tryd.prog 16 #[.pointer (some ⟨g, 0, none⟩)] w R :=
  next_any hm hp (by omega) (by rw [e]; exact fun A c w' h1 h2 _ _ _ => h A c w' h1 h2)
theorem next_b {b : List UInt8} {st : Int} (hb : b.length < 1024) (e : nextF b = (noReq, st, [], true)) {R : Ending → World → Prop} {w : World} {g : Nat} (hm : Ml w) (hp : Ps w g b false)
    (h : ∀ A c w', Ps w' g [] true → Kp [g] w w' → R (.returned (.tuple #[.agg #[.string (S []), .string (S []), .int .i64 0, .slice A 0 c, .bool false], .int .i64 st])) w') : Calls Tryd.prog 16 #[.pointer (some ⟨g, 0, none⟩)] w R :=
  next_any hm hp (by omega) (by rw [e]; exact fun A c w' h1 h2 _ _ _ => h A c w' h1 h2)
theorem next_g {b rest : List UInt8} {r : Req} (hb : b.length < 1024) (e : nextF b = (r, 0, rest, false)) {R : Ending → World → Prop} {w : World} {g : Nat} (hm : Ml w) (hp : Ps w g b false)
    (h : ∀ A c w', Ps w' g rest false → Kp [g] w w' → Rd w' [g] A (r.fs.flatMap fldC) → (∀ x ∈ bks A, w.heap.size ≤ x) → R (.returned (.tuple #[.agg #[.string (S r.m), .string (S r.t), .int .i64 r.minor, .slice A r.fs.length c, .bool r.close], .int .i64 0])) w') : Calls Tryd.prog 16 #[.pointer (some ⟨g, 0, none⟩)] w R :=
  next_any hm hp (by omega) (by rw [e]; exact fun A c w' h1 h2 h3 h4 _ => h A c w' h1 h2 h3 h4)
theorem next_o {R : Ending → World → Prop} {w : World} {g : Nat} (hp : Ps w g [] true)
    (h : ∀ A c w', Ps w' g [] true → Kp [g] w w' → R (.returned (.tuple #[.agg #[.string (S []), .string (S []), .int .i64 0, .slice A 0 c, .bool false], .int .i64 (-1)])) w') : Calls Tryd.prog 16 #[.pointer (some ⟨g, 0, none⟩)] w R :=
  next_over hp (fun A c w' h1 h2 _ _ _ => h A c w' h1 h2)
theorem rq_rd {w : World} {g : Nat} (hg : g = w.heap.size) (q : RQ) : Rd (w.alloc (.cells #[.string (S q.r.m), .string (S q.r.t), .int .i64 q.r.minor, .slice q.A q.r.fs.length q.c, .bool q.r.close] 29)) [] (some ⟨g, 0, none⟩) (rqC q) := Rd.of_bk (Bk.newAt hg _ _) (by simp)
/-- What one parser gave so far. -/
structure Coll (w : World) (g : Nat) (b : List UInt8) (ov : Bool) (N : List Nat) (A : Option Addr) (n c : Nat) (xs : List RQ) : Prop where
  ps : Ps w g b ov
  ow : Ow w 29 5 A n c (xs.flatMap rqC)
  row : RowOk w (g :: (bks A ++ N)) xs
  fr : ∀ x ∈ bks A, g < x ∧ x ∉ N
section
variable {w w' w8 w9 : World} {g : Nat} {b : List UInt8} {ov : Bool} {N N' S : List Nat} {A A9 : Option Addr} {n c c9 : Nat} {xs : List RQ}
theorem Coll.keep (h : Coll w g b ov N A n c xs) (k : Kp S w w') (hS : ∀ s ∈ S, s ∈ N) (hg : g ∉ S) : Coll w' g b ov N A n c xs :=
  ⟨Bk.kp h.ps k hg, h.ow.kp k (fun x hx hm => (h.fr x hx).2 (hS x hm)), h.row.to k (fun s hs => .inl (by simp [hS s hs])) (fun s hs => .inl hs), h.fr⟩
theorem Coll.parser (h : Coll w g b ov N A n c xs) {b' : List UInt8} {ov' : Bool} (k : Kp [g] w w') (hp : Ps w' g b' ov') : Coll w' g b' ov' N A n c xs :=
  ⟨hp, h.ow.kp k (fun x hx hm => by have := (h.fr x hx).1; simp at hm; omega), h.row.to k (fun s hs => .inl (by simp at hs; simp [hs])) (fun s hs => .inl hs), h.fr⟩
theorem Coll.grow (h : Coll w g b ov N A n c xs) (o : Obj) : Coll (w.alloc o) g b ov N A n c xs := h.keep (S := []) ((Kp.refl _ _).alloc o) (by simp) (by simp)
theorem Coll.snoc (h : Coll w g b ov N A n c xs) (o1 o2 : Obj) {rest : List UInt8} {ov' : Bool} (q : RQ) (hp : Ps w8 g rest ov') (k8 : Kp [g] w w8) (hr : Rd w8 [g] q.A (q.r.fs.flatMap fldC)) (hf : ∀ x ∈ bks q.A, w.heap.size ≤ x) (hq : q.r.fs.length ≤ 100000) (hN : ∀ x ∈ N, x < w.heap.size)
    (ho9 : Ow w9 29 5 A9 (n + 1) c9 (xs.flatMap rqC ++ rqC q)) (hk9 : Kp (bks A) ((w8.alloc o1).alloc o2) w9) (hA9 : A9 = A ∨ A9 = some ⟨((w8.alloc o1).alloc o2).heap.size, 0, none⟩) :
    Coll w9 g rest ov' N A9 (n + 1) c9 (xs ++ [q]) ∧ Kp (g :: bks A) w w9 := by
  have hg := Bk.lt h.ps
  have hAl := h.ow.lt
  have hsz := k8.size
  have hgA : g ∉ bks A := fun hm => by have := (h.fr g hm).1; omega
  have kk : Kp (g :: bks A) w w9 := (((k8.mono (S' := g :: bks A) (fun s hs => .inl (by simp at hs; simp [hs]))).alloc o1).alloc o2).thn hk9 (fun s hs => .inl (by simp [hs]))
  have hnew : ∀ x ∈ bks A9, x ∈ bks A ∨ w8.heap.size ≤ x := by
    rcases hA9 with rfl | rfl
    · exact fun x hx => .inl hx
    · intro x hx; right; simp [bks] at hx; omega
  refine ⟨⟨Bk.kp (Bk.alloc (Bk.alloc hp o1) o2) hk9 hgA, ho9.cast rfl (by simp), RowOk.snoc (h.row.to kk (fun s hs => .inl (by rcases List.mem_cons.1 hs with rfl | hs <;> simp [*])) ?_) ?_ hq, ?_⟩, kk⟩
  · intro s hs
    rcases List.mem_cons.1 hs with rfl | hs
    · left; simp
    · rcases List.mem_append.1 hs with hs | hs
      · rcases hnew s hs with h1 | h1
        · left; simp [h1]
        · right; omega
      · left; simp [hs]
  · intro hx
    obtain ⟨bb, off, hA, hNb, hlt, hc⟩ := hr hx
    have hb0 := hf bb (by rw [hA]; simp [bks])
    have hbA : bb ∉ bks A := fun hm => by have := hAl bb hm; omega
    refine ⟨bb, off, hA, ?_, Nat.lt_of_lt_of_le hlt (Nat.le_trans (by simp; omega) hk9.size), fun j u hu => ?_⟩
    · intro hm
      rcases List.mem_cons.1 hm with h1 | h1
      · omega
      · rcases List.mem_append.1 h1 with h1 | h1
        · rcases hA9 with rfl | rfl
          · exact hbA h1
          · simp [bks] at h1; omega
        · have := hN bb h1; omega
    · rw [hk9.cell (p := ⟨bb, off + j, none⟩) (by simp; omega) hbA]
      have : ((w8.alloc o1).alloc o2).cell? ⟨bb, off + j, none⟩ = w8.cell? ⟨bb, off + j, none⟩ := (((Kp.refl [] w8).alloc o1).alloc o2).cell (p := ⟨bb, off + j, none⟩) hlt (by simp)
      rw [this]; exact hc j u hu
  · intro x hx
    rcases hnew x hx with h1 | h1
    · exact h.fr x h1
    · exact ⟨by omega, fun hm => by have := hN x hm; omega⟩
/-- The first row, while the second one grows. -/
structure XRow (w : World) (N : List Nat) (A : Option Addr) (n c : Nat) (xs : List RQ) : Prop where
  ow : Ow w 29 5 A n c (xs.flatMap rqC)
  row : RowOk w N xs
  fr : ∀ x ∈ bks A, x ∉ N
theorem XRow.to (h : XRow w N A n c xs) (k : Kp S w w') (hs : ∀ s ∈ S, s ∈ N ∨ w.heap.size ≤ s) (hn : ∀ s ∈ N', s ∈ N ∨ w.heap.size ≤ s) : XRow w' N' A n c xs :=
  ⟨h.ow.kp k (fun x hx hm => (hs x hm).elim (h.fr x hx) (fun e => by have := h.ow.lt x hx; omega)), h.row.to k hs hn, fun x hx hm => (hn x hm).elim (h.fr x hx) (fun e => by have := h.ow.lt x hx; omega)⟩
end
def cuN (cs : List Int) (j : Nat) (len : Nat) : Int := match cs[j]? with | some n => n % ((len : Int) + 1) | none => len
set_option maxHeartbeats 16000000 in
theorem cuts_walk {R : Ending → World → Prop} (s : List UInt8) (cs : List Int) {A0 : Option Addr} {c0 : Nat} (w : World) (hm : Ml w) (hr : Rd w [] A0 (cs.map fun n => .int .u16 n)) (hcs : ∀ n ∈ cs, 0 ≤ n ∧ n ≤ 65535)
    (hs : s.length ≤ 9223372036854775807) (hcl : cs.length ≤ 9223372036854775807) (h : ∀ w', Kp [] w w' → R (.returned (.bool true)) w') :
    Calls Tryd.prog 4 #[.string (S s), .slice A0 cs.length c0] w R := by
  have H := Lib.hid h
  have HR := Lib.hid hr
  have HCS := Lib.hid hcs
  clear h hr hcs
  by_cases hc : s.length ≤ 900 ∧ cs.length ≤ 60
  · obtain ⟨k1, k2⟩ := hc
    have d1 : decide (900 < (s.length : Int)) = false := by simp; omega
    have d2 : decide (60 < (cs.length : Int)) = false := by simp; omega
    obtain ⟨X, E, b9, ov9, hrun⟩ : ∃ X E b ov, run s = (X, E, b, ov) := ⟨_, _, _, _, rfl⟩
    have HRUN := Lib.hid hrun
    clear hrun
    go_enter Tryd.func4, Tryd.ntmps4
    go_upto_region 5 with (go_at_call 8; ((refine alive24_any _ hm ?_); intro w1 k1'; have K1 := Lib.hid k1'; clear k1'))
    go_wp2_with (fail)
    refine new24_any _ ?_
    intro ga w2 hga hpa k2'
    have HPA := Lib.hid hpa
    have K2 := Lib.hid (K1.out.trans k2')
    have hla := Bk.lt hpa
    have hwa : w.heap.size ≤ ga := Nat.le_trans K1.out.size hga
    clear hpa k2'
    go_wp2_with (fail)
    refine new24_any _ ?_
    intro gb w3 hgb hpb k3'
    have HPB := Lib.hid hpb
    have HPA3 := Lib.hid (Bk.kp HPA.out k3' (by simp))
    have K3 := Lib.hid (K2.out.trans k3')
    have hab : ga < gb := by omega
    clear hpb k3' hla
    go_upto_region 6 with (fail)
    have hcv0 := conv_sb w3 (S s)
    have kb := (Kp.refl [] w3).bytesWorld 5 (S s)
    have rb := rd_bytesWorld (N := []) w3 5 (S s) rfl (by simp)
    rw [S_data] at rb
    rw [S_size] at hcv0
    generalize Lib.bytesWorld w3 5 (S s) = w4 at *
    generalize grownCap w3 s.length 0 5 = cc at *
    have RB := Lib.hid rb
    have KB := Lib.hid kb
    clear rb kb
    go_upto_region 7 with (go_at_call 15; ((refine feed_any (Bk.kp HPA3.out KB.out (by simp)) s RB.out rfl (by simp; omega) ?_); intro w5 hp5 k5; have HPA5 := Lib.hid (show Ps w5 ga s false from hp5); have HPB5 := Lib.hid (show Ps w5 gb [] false from Bk.kp (Bk.kp HPB.out KB.out (by simp)) k5 (by simp; omega)); have K5 := Lib.hid ((K3.out.trans KB.out).thn k5 (fun s hs => .inr (by simp at hs; omega))); clear hp5 k5))
    clear hcv0
    go_upto_block 0 with (fail)
    go_cut [7, 9] from 11 (fun xv ev w' => ∃ (xs : List RQ) (A : Option Addr) (n cc : Nat), ev = .int .i64 E ∧ xv = .slice A n cc ∧ n ≤ 500 ∧ Hid (xs.length = n) ∧ Hid (X = xs.map RQ.r) ∧ Hid (XRow w' [gb] A n cc xs) ∧ Hid (Ps w' gb [] false) ∧ Hid (Kp [] w w'))
    case first =>
      go_wp2
      go_loopw [7, 9, 11] (fun xv ev iv wr => ∃ (i : Nat) (b : List UInt8) (xs : List RQ) (A : Option Addr) (n cc : Nat) (e : Int), iv = .int .i64 i ∧ ev = .int .i64 e ∧ xv = .slice A n cc ∧ 2 * i + b.length ≤ 900 ∧ n ≤ i ∧ Hid (xs.length = n) ∧ Hid (X = xs.map RQ.r ++ (run b).1 ∧ (run b).2.1 = E) ∧ Hid (Coll wr ga b false [gb] A n cc xs) ∧ Hid (Ps wr gb [] false) ∧ Hid (∀ x ∈ bks A, gb < x) ∧ Hid (Kp [] w wr)) (fun _ _ iv _ => 500 - (intOf iv).toNat)
      case atStart => exact ⟨0, s, [], none, 0, 0, 0, rfl, rfl, rfl, by omega, Nat.le_refl _, Lib.hid rfl, Lib.hid ⟨by rw [HRUN.out]; rfl, by rw [HRUN.out]⟩, Lib.hid ⟨HPA5.out, Ow.nil, fun q hq => (by cases hq), by simp [bks]⟩, HPB5, Lib.hid (by simp [bks]), K5⟩
      case round =>
        obtain ⟨i, b, xs, A, n, cc, e, rfl, rfl, rfl, hib, hni, hxn, hX, hC, hPB, hAf, hK⟩ := hrel
        have hi5 : (i : Int) < 500 := by omega
        rcases next_cases (b := b) (by omega) with ⟨e1, _⟩ | ⟨st, hst, e1⟩ | ⟨r, rest, e1, hl⟩
        · have E1 := Lib.hid e1
          have HXX : Hid (X = xs.map RQ.r ∧ E = -1) := Lib.hid (by
            have := hX.out
            rw [run_more (by omega) e1] at this
            exact ⟨by rw [this.1]; simp, this.2.symm⟩)
          clear e1
          go_wp2_with (go_at_call 16; ((refine next_m (by omega) E1.out (hm.kp hK.out) hC.out.ps ?_); intro A8 c8 w8 hp8 k8; have HC8 := Lib.hid ((hC.out.parser k8 hp8).grow); have HPB8 := Lib.hid (Bk.kp hPB.out k8 (by simp; omega)); have K8 := Lib.hid (hK.out.thn k8 (fun s hs => .inr (by simp at hs; omega))); clear hp8 k8))
          go_meet
          case rel => exact ⟨xs, A, n, cc, by rw [HXX.out.2], rfl, by omega, hxn, Lib.hid HXX.out.1, Lib.hid ⟨(HC8.out _).ow, (HC8.out _).row.to (Kp.refl [] _) (by simp) (fun s hs => .inl (by simp at hs; simp [hs])), fun x hx => (hC.out.fr x hx).2⟩, Lib.hid (Bk.alloc HPB8.out _), Lib.hid (K8.out.alloc _)⟩
        · have E1 := Lib.hid e1
          have HXX : Hid (X = xs.map RQ.r ∧ E = st) := Lib.hid (by
            have := hX.out
            rw [run_bad hst e1] at this
            exact ⟨by rw [this.1]; simp, this.2.symm⟩)
          have hst2 : (st != 0) = true := by simp; omega
          clear e1
          go_wp2_with (go_at_call 16; ((refine next_b (by omega) E1.out (hm.kp hK.out) hC.out.ps ?_); intro A8 c8 w8 hp8 k8; have HC8 := Lib.hid ((hC.out.parser k8 hp8).grow); have HPB8 := Lib.hid (Bk.kp hPB.out k8 (by simp; omega)); have K8 := Lib.hid (hK.out.thn k8 (fun s hs => .inr (by simp at hs; omega))); clear hp8 k8))
          go_meet
          case rel => exact ⟨xs, A, n, cc, by rw [HXX.out.2], rfl, by omega, hxn, Lib.hid HXX.out.1, Lib.hid ⟨(HC8.out _).ow, (HC8.out _).row.to (Kp.refl [] _) (by simp) (fun s hs => .inl (by simp at hs; simp [hs])), fun x hx => (hC.out.fr x hx).2⟩, Lib.hid (Bk.alloc HPB8.out _), Lib.hid (K8.out.alloc _)⟩
        · have E1 := Lib.hid e1
          have HRf : Hid (r.fs.length ≤ 100000) := Lib.hid (by have := next_fs b; rw [e1] at this; simp only at this; omega)
          have HXX : Hid (X = (xs.map RQ.r ++ [r]) ++ (run rest).1 ∧ (run rest).2.1 = E) := Lib.hid (by
            have := hX.out
            rw [run_good (by omega) hl e1] at this
            exact ⟨by rw [this.1]; simp, this.2⟩)
          clear e1
          go_wp2_with (first | (go_at_call 16; ((refine next_g (by omega) E1.out (hm.kp hK.out) hC.out.ps ?_); intro A8 c8 w8 hp8 k8 rd8 fr8; have HP8 := Lib.hid hp8; have K8 := Lib.hid k8; have RD8 := Lib.hid rd8; have FR8 := Lib.hid fr8; clear hp8 k8 rd8 fr8)) | (at_builtin; refine wpList_app _ rfl (.tmp 48) (.tmp 50) _ rfl elt_rq A n cc _ rfl (((hC.out.parser K8.out HP8.out).ow.alloc _).alloc _) [] _ 1 1 (rqC ⟨r, A8, c8⟩) rfl (rq_rd (by simp) ⟨r, A8, c8⟩) rfl (rq_one _) (by omega) ?_; intro A9 c9 w9 ho9 hk9 hA9; have HCS9 := Lib.hid (hC.out.snoc _ _ ⟨r, A8, c8⟩ HP8.out K8.out RD8.out FR8.out HRf.out (fun x hx => by have := Bk.lt hPB.out; simp at hx; omega) ho9 hk9 hA9); have HAN := Lib.hid hA9; clear ho9 hk9 hA9))
          have hgb9 := Bk.lt hPB.out
          have hsz9 := K8.out.size
          have hn1 : gb ∉ ga :: bks A := by
            intro hm
            rcases List.mem_cons.1 hm with h1 | h1
            · omega
            · have := hAf.out gb h1; omega
          have hn2 : ∀ x ∈ bks A9, gb < x := by
            rcases HAN.out with rfl | rfl
            · exact hAf.out
            · intro x hx; simp [bks] at hx; omega
          have hn3 : ∀ x ∈ ga :: bks A, x ∈ ([] : List Nat) ∨ w.heap.size ≤ x := by
            intro x hx
            rcases List.mem_cons.1 hx with rfl | h1
            · right; omega
            · have := hAf.out x h1; right; omega
          exact ⟨⟨i + 1, rest, xs ++ [⟨r, A8, c8⟩], A9, n + 1, c9, 0, by go_num, rfl, rfl, by omega, by omega, Lib.hid (by simp [hxn.out]), Lib.hid (by simpa using HXX.out), Lib.hid HCS9.out.1, Lib.hid (Bk.kp hPB.out HCS9.out.2 hn1), Lib.hid hn2, Lib.hid (hK.out.thn HCS9.out.2 hn3)⟩, by simp [intOf]; omega⟩
    case rest =>
      obtain ⟨xs, Ax, nx, cx, rfl, rfl, hnx, hxn, hXx, hXR, hPB, hK⟩ := hcut
      have hgw := Nat.le_trans hwa (Nat.le_of_lt hab)
      go_wp2
      go_loopw [0, 8, 10, 14] (fun s0 yv fv iv wr => ∃ (j : Nat) (p rest : List UInt8) (ys : List RQ) (Ay : Option Addr) (ny cy : Nat) (f : Int) (b : List UInt8) (ov : Bool) (st : Int), iv = .int .i64 j ∧ s0 = .string (S rest) ∧ yv = .slice Ay ny cy ∧ fv = .int .i64 f ∧ j ≤ cs.length + 1 ∧ rest.length ≤ 900 ∧ ny ≤ 500 * j ∧ Hid (p ++ rest = s) ∧ Hid (j = cs.length + 1 → rest = []) ∧ Hid (ys.length = ny) ∧ Hid (run p = (ys.map RQ.r, st, b, ov)) ∧ Hid (b.length + rest.length ≤ 900) ∧ Hid (0 < st ∧ f = st ∨ st = -1 ∧ f ≤ 0) ∧ Hid (Coll wr gb b ov (bks Ax) Ay ny cy ys) ∧ Hid (XRow wr (gb :: bks Ay) Ax nx cx xs) ∧ Hid (Kp [] w wr)) (fun _ _ _ iv _ => cs.length + 1 - (intOf iv).toNat)
      case atStart => exact ⟨0, [], s, [], none, 0, 0, 0, [], false, -1, rfl, rfl, rfl, rfl, by omega, k1, by omega, Lib.hid rfl, Lib.hid (fun h => by omega), Lib.hid rfl, Lib.hid rfl, Lib.hid (by simpa using k1), Lib.hid (.inr ⟨rfl, Int.le_refl _⟩), Lib.hid ⟨hPB.out, Ow.nil, fun q hq => (by cases hq), by simp [bks]⟩, Lib.hid (hXR.out.to (Kp.refl [] _) (by simp) (fun s hs => .inl (by simpa [bks] using hs))), hK⟩
      case round =>
        clear hXR hPB hK
        obtain ⟨j, p, rest, ys, Ay, ny, cy, f, b, ov, st, rfl, rfl, rfl, rfl, hj, hrl, hny, hpr, hre, hyn, hrp, hbL, hf, hC, hXR, hK⟩ := hrel
        by_cases hj1 : j ≤ cs.length
        · by_cases hj2 : j < cs.length
          · obtain ⟨n, hn⟩ : ∃ n, cs[j]? = some n := ⟨_, List.getElem?_eq_getElem hj2⟩
            have hn0 := HCS.out n (List.mem_of_getElem? hn)
            obtain ⟨n0, n1⟩ := hn0
            obtain ⟨gc, oc, rfl, _, hgc, hcc⟩ := HR.out (by intro e; have := congrArg List.length e; simp at this; rw [this] at hj2; simp at hj2)
            have hcx := (hK.out.cell (p := ⟨gc, oc + j, none⟩) hgc (by simp)).trans (hcc j (.int .u16 n) (by rw [List.getElem?_map, hn]; rfl))
            obtain ⟨m, hmm⟩ : ∃ m : Nat, n % ((rest.length : Int) + 1) = m := ⟨(n % ((rest.length : Int) + 1)).toNat, by have := Int.emod_nonneg n (show ((rest.length : Int) + 1) ≠ 0 by omega); omega⟩
            have hml : m ≤ rest.length := by
              have := Int.emod_lt_of_pos n (show (0 : Int) < (rest.length : Int) + 1 by omega)
              omega
            have HMR : Hid (j = cs.length → m = rest.length) := Lib.hid (fun h => by omega)
            clear hcc hn
            go_upto_region 22 with (fail)
            rw [hmm]
            clear hmm hcx n0 n1
            have hcv0 := conv_sb wr (S (rest.take m))
            have kb := (Kp.refl [] wr).bytesWorld 5 (S (rest.take m))
            have rb := rd_bytesWorld (N := []) wr 5 (S (rest.take m)) rfl (by simp)
            rw [S_data] at rb
            rw [S_size] at hcv0
            have htl : (rest.take m).length = m := by rw [List.length_take]; omega
            rw [htl] at hcv0
            generalize Lib.bytesWorld wr 5 (S (rest.take m)) = w4 at *
            generalize grownCap wr m 0 5 = cc at *
            have RB := Lib.hid rb
            have KB := Lib.hid kb
            have HTL := Lib.hid htl
            have hbl := hbL.out
            have hdl : (rest.drop m).length = rest.length - m := by rw [List.length_drop]
            have HDL := Lib.hid hdl
            clear rb kb htl hdl
            go_upto_region 23 with (go_at_call 15; ((refine feed_any (Bk.kp hC.out.ps KB.out (by simp)) (rest.take m) RB.out HTL.out (by omega) ?_); intro w5 hp5 k5; have HP5 := Lib.hid hp5; have KF5 := Lib.hid k5; clear hp5 k5))
            clear hcv0
            have HC5 := Lib.hid ((hC.out.keep KB.out (by simp) (by simp)).parser KF5.out HP5.out)
            have HX5 := Lib.hid ((hXR.out.to KB.out (by simp) (fun s hs => .inl hs)).to KF5.out (fun s hs => .inl (by simp at hs; simp [hs])) (fun s hs => .inl hs))
            have HK5 := Lib.hid ((hK.out.trans KB.out).thn KF5.out (fun s hs => .inr (by simp at hs; omega)))
            have HPR2 : Hid ((p ++ rest.take m) ++ rest.drop m = s) := Lib.hid (by rw [List.append_assoc, List.take_append_drop]; exact hpr.out)
            have HDE : Hid (j + 1 = cs.length + 1 → rest.drop m = []) := Lib.hid (fun h => List.drop_eq_nil_of_le (by rw [HMR.out (by omega)]; exact Nat.le_refl _))
            have hpl : p.length + rest.length ≤ 900 := by
              have := congrArg List.length hpr.out
              rw [List.length_append] at this; omega
            have hrs := run_st p.length p (Nat.le_refl _) (by omega)
            have hra := cruns_app p.length p (rest.take m) (Nat.le_refl _) (by rw [HTL.out]; omega)
            rw [hrp.out] at hrs hra
            simp only at hrs hra
            have HRA := Lib.hid hra
            clear hra
            cases ov
            · have hst1 : st = -1 := by
                rcases hrs.1 with h1 | h1
                · exact h1.1
                · have := h1.2.2; cases this
              have hf0 : f ≤ 0 := by
                rcases hf.out with h1 | h1
                · omega
                · exact h1.2
              have HR2 := Lib.hid (HRA.out.2 rfl)
              have HC6 : Hid (Coll w5 gb (b ++ rest.take m) false (bks Ax) Ay ny cy ys) := HC5
              have hbm : (b ++ rest.take m).length ≤ b.length + m := by rw [List.length_append, HTL.out]; exact Nat.le_refl _
              clear hrs HRA HC5 hf HP5 KF5 hst1
              go_wp2
              go_loopw [8, 10, 16] (fun yv fv kv wq => ∃ (k : Nat) (b1 : List UInt8) (ys1 : List RQ) (Ay1 : Option Addr) (ny1 cy1 : Nat) (f1 : Int), kv = .int .i64 k ∧ yv = .slice Ay1 ny1 cy1 ∧ fv = .int .i64 f1 ∧ f1 ≤ 0 ∧ 2 * k + b1.length ≤ b.length + m ∧ ny1 ≤ 500 * j + k ∧ Hid (ys1.length = ny1) ∧ Hid (run (p ++ rest.take m) = (ys1.map RQ.r ++ (run b1).1, (run b1).2)) ∧ Hid (Coll wq gb b1 false (bks Ax) Ay1 ny1 cy1 ys1) ∧ Hid (XRow wq (gb :: bks Ay1) Ax nx cx xs) ∧ Hid (Kp [] w wq)) (fun _ _ kv _ => 500 - (intOf kv).toNat)
              case atStart => exact ⟨0, b ++ rest.take m, ys, Ay, ny, cy, f, rfl, rfl, rfl, hf0, by omega, by omega, hyn, HR2, HC6, HX5, HK5⟩
              case round =>
                obtain ⟨k, b1, ys1, Ay1, ny1, cy1, f1, rfl, rfl, rfl, hf1, hkb, hny1, hyn1, hR1, hC1, hX1, hK1⟩ := hrel
                have hk5 : (k : Int) < 500 := by omega
                have hb19 : b1.length < 1024 := by omega
                rcases next_cases (b := b1) hb19 with ⟨e1, _⟩ | ⟨st1, hst, e1⟩ | ⟨r, rest1, e1, hl⟩
                · have E1 := Lib.hid e1
                  have HRN : Hid (run (p ++ rest.take m) = (ys1.map RQ.r, -1, b1, false)) := Lib.hid (by rw [hR1.out, run_more hb19 e1]; simp)
                  clear e1
                  go_wp2_with (go_at_call 16; ((refine next_m hb19 E1.out (hm.kp hK1.out) hC1.out.ps ?_); intro A8 c8 w8 hp8 k8; have HC8 := Lib.hid (fun o => (hC1.out.parser k8 hp8).grow o); have HX8 := Lib.hid (fun o => (hX1.out.to k8 (fun s hs => .inl (by simp at hs; simp [hs])) (fun s hs => .inl hs)).to ((Kp.refl [] w8).alloc o) (by simp) (fun s hs => .inl hs)); have K8 := Lib.hid (hK1.out.thn k8 (fun s hs => .inr (by simp at hs; omega))); clear hp8 k8))
                  exact ⟨⟨j + 1, p ++ rest.take m, rest.drop m, ys1, Ay1, ny1, cy1, -1, b1, false, -1, by go_num, by simp, rfl, rfl, by omega, by rw [HDL.out]; omega, by omega, HPR2, HDE, hyn1, HRN, Lib.hid (by rw [HDL.out]; omega), Lib.hid (.inr ⟨rfl, by omega⟩), Lib.hid (HC8.out _), Lib.hid (HX8.out _), Lib.hid (K8.out.alloc _)⟩, by simp [intOf]; omega⟩
                · have E1 := Lib.hid e1
                  have HRN : Hid (run (p ++ rest.take m) = (ys1.map RQ.r, st1, [], true)) := Lib.hid (by rw [hR1.out, run_bad hst e1]; simp)
                  have hst2 : (st1 != 0) = true := by simp; omega
                  clear e1
                  go_wp2_with (go_at_call 16; ((refine next_b hb19 E1.out (hm.kp hK1.out) hC1.out.ps ?_); intro A8 c8 w8 hp8 k8; have HC8 := Lib.hid (fun o => (hC1.out.parser k8 hp8).grow o); have HX8 := Lib.hid (fun o => (hX1.out.to k8 (fun s hs => .inl (by simp at hs; simp [hs])) (fun s hs => .inl hs)).to ((Kp.refl [] w8).alloc o) (by simp) (fun s hs => .inl hs)); have K8 := Lib.hid (hK1.out.thn k8 (fun s hs => .inr (by simp at hs; omega))); clear hp8 k8))
                  exact ⟨⟨j + 1, p ++ rest.take m, rest.drop m, ys1, Ay1, ny1, cy1, st1, [], true, st1, by go_num, by simp, rfl, rfl, by omega, by rw [HDL.out]; omega, by omega, HPR2, HDE, hyn1, HRN, Lib.hid (by rw [HDL.out]; simp; omega), Lib.hid (.inl ⟨hst, rfl⟩), Lib.hid (HC8.out _), Lib.hid (HX8.out _), Lib.hid (K8.out.alloc _)⟩, by simp [intOf]; omega⟩
                · have E1 := Lib.hid e1
                  have HRf : Hid (r.fs.length ≤ 100000) := Lib.hid (by have := next_fs b1; rw [e1] at this; simp only at this; omega)
                  have HRN : Hid (run (p ++ rest.take m) = ((ys1 ++ [(⟨r, none, 0⟩ : RQ)]).map RQ.r ++ (run rest1).1, (run rest1).2)) := Lib.hid (by rw [hR1.out, run_good hb19 hl e1]; simp)
                  clear e1
                  go_wp2_with (first | (go_at_call 16; ((refine next_g hb19 E1.out (hm.kp hK1.out) hC1.out.ps ?_); intro A8 c8 w8 hp8 k8 rd8 fr8; have HP8 := Lib.hid hp8; have K8 := Lib.hid k8; have RD8 := Lib.hid rd8; have FR8 := Lib.hid fr8; clear hp8 k8 rd8 fr8)) | (at_builtin; refine wpList_app _ rfl (.tmp 96) (.tmp 98) _ rfl elt_rq Ay1 ny1 cy1 _ rfl (((hC1.out.parser K8.out HP8.out).ow.alloc _).alloc _) [] _ 1 1 (rqC ⟨r, A8, c8⟩) rfl (rq_rd (by simp) ⟨r, A8, c8⟩) rfl (rq_one _) (by omega) ?_; intro A9 c9 w9 ho9 hk9 hA9; have HCS9 := Lib.hid (hC1.out.snoc _ _ ⟨r, A8, c8⟩ HP8.out K8.out RD8.out FR8.out HRf.out (fun x hx => hX1.out.ow.lt x hx) ho9 hk9 hA9); have HAN := Lib.hid hA9; clear ho9 hk9 hA9))
                  have hsz9 := K8.out.size
                  have hn2 : ∀ x ∈ gb :: bks A9, x ∈ gb :: bks Ay1 ∨ wr.heap.size ≤ x := by
                    intro x hx
                    rcases List.mem_cons.1 hx with rfl | h1
                    · left; simp
                    · rcases HAN.out with rfl | rfl
                      · left; simp [h1]
                      · right; simp [bks] at h1; omega
                  have hn3 : ∀ x ∈ gb :: bks Ay1, x ∈ ([] : List Nat) ∨ w.heap.size ≤ x := by
                    intro x hx
                    rcases List.mem_cons.1 hx with rfl | h1
                    · right; omega
                    · have := (hC1.out.fr x h1).1; right; omega
                  exact ⟨⟨k + 1, rest1, ys1 ++ [⟨r, A8, c8⟩], A9, ny1 + 1, c9, 0, by go_num, rfl, rfl, by omega, by omega, by omega, Lib.hid (by simp [hyn1.out]), Lib.hid (by rw [HRN.out]; simp), Lib.hid HCS9.out.1, Lib.hid (hX1.out.to HCS9.out.2 (fun s hs => .inl hs) hn2), Lib.hid (hK1.out.thn HCS9.out.2 hn3)⟩, by simp [intOf]; omega⟩
            · have hst1 : 0 < st ∧ b = [] := by
                rcases hrs.1 with h1 | h1
                · have := h1.2; cases this
                · exact ⟨h1.1, h1.2.1⟩
              obtain ⟨hst1, hb0⟩ := hst1
              subst hb0
              have hfs : f = st := by
                rcases hf.out with h1 | h1
                · exact h1.2
                · omega
              have hf0 : ¬ f ≤ 0 := by omega
              have HFS := Lib.hid hfs
              have HR2 := Lib.hid (HRA.out.1 rfl)
              have HC6 : Hid (Coll w5 gb [] true (bks Ax) Ay ny cy ys) := HC5
              clear hrs HRA HC5 HP5 KF5 hfs
              go_wp2
              go_loopw [8, 10, 16] (fun yv fv kv wq => yv = .slice Ay ny cy ∧ fv = .int .i64 f ∧ kv = .int .i64 0 ∧ wq = w5) (fun _ _ _ _ => 0)
              case atStart => exact ⟨rfl, rfl, rfl, rfl⟩
              case round =>
                obtain ⟨rfl, rfl, rfl, rfl⟩ := hrel
                go_wp2_with (go_at_call 16; ((refine next_o HC6.out.ps ?_); intro A8 c8 w8 hp8 k8; have HC8 := Lib.hid (fun o => (HC6.out.parser k8 hp8).grow o); have HX8 := Lib.hid (fun o => (HX5.out.to k8 (fun s hs => .inl (by simp at hs; simp [hs])) (fun s hs => .inl hs)).to ((Kp.refl [] w8).alloc o) (by simp) (fun s hs => .inl hs)); have K8 := Lib.hid (HK5.out.thn k8 (fun s hs => .inr (by simp at hs; omega))); clear hp8 k8))
                exact ⟨⟨j + 1, p ++ rest.take m, rest.drop m, ys, Ay, ny, cy, f, [], true, st, by go_num, by simp, rfl, rfl, by omega, by rw [HDL.out]; omega, by omega, HPR2, HDE, hyn, HR2, Lib.hid (by rw [HDL.out]; simp; omega), Lib.hid (.inl ⟨hst1, HFS.out⟩), Lib.hid (HC8.out _), Lib.hid (HX8.out _), Lib.hid (K8.out.alloc _)⟩, by simp [intOf]; omega⟩
          · have hje : j = cs.length := by omega
            have HJE := Lib.hid hje
            clear hje
            go_upto_region 22 with (fail)
            obtain ⟨m, hm9⟩ : ∃ m, m = rest.length := ⟨_, rfl⟩
            rw [← hm9]
            have hml : m ≤ rest.length := by omega
            have HMR : Hid (j = cs.length → m = rest.length) := Lib.hid (fun _ => hm9)
            clear hm9
            have hcv0 := conv_sb wr (S (rest.take m))
            have kb := (Kp.refl [] wr).bytesWorld 5 (S (rest.take m))
            have rb := rd_bytesWorld (N := []) wr 5 (S (rest.take m)) rfl (by simp)
            rw [S_data] at rb
            rw [S_size] at hcv0
            have htl : (rest.take m).length = m := by rw [List.length_take]; omega
            rw [htl] at hcv0
            generalize Lib.bytesWorld wr 5 (S (rest.take m)) = w4 at *
            generalize grownCap wr m 0 5 = cc at *
            have RB := Lib.hid rb
            have KB := Lib.hid kb
            have HTL := Lib.hid htl
            have hbl := hbL.out
            have hdl : (rest.drop m).length = rest.length - m := by rw [List.length_drop]
            have HDL := Lib.hid hdl
            clear rb kb htl hdl
            go_upto_region 23 with (go_at_call 15; ((refine feed_any (Bk.kp hC.out.ps KB.out (by simp)) (rest.take m) RB.out HTL.out (by omega) ?_); intro w5 hp5 k5; have HP5 := Lib.hid hp5; have KF5 := Lib.hid k5; clear hp5 k5))
            clear hcv0
            have HC5 := Lib.hid ((hC.out.keep KB.out (by simp) (by simp)).parser KF5.out HP5.out)
            have HX5 := Lib.hid ((hXR.out.to KB.out (by simp) (fun s hs => .inl hs)).to KF5.out (fun s hs => .inl (by simp at hs; simp [hs])) (fun s hs => .inl hs))
            have HK5 := Lib.hid ((hK.out.trans KB.out).thn KF5.out (fun s hs => .inr (by simp at hs; omega)))
            have HPR2 : Hid ((p ++ rest.take m) ++ rest.drop m = s) := Lib.hid (by rw [List.append_assoc, List.take_append_drop]; exact hpr.out)
            have HDE : Hid (j + 1 = cs.length + 1 → rest.drop m = []) := Lib.hid (fun h => List.drop_eq_nil_of_le (by rw [HMR.out (by omega)]; exact Nat.le_refl _))
            have hpl : p.length + rest.length ≤ 900 := by
              have := congrArg List.length hpr.out
              rw [List.length_append] at this; omega
            have hrs := run_st p.length p (Nat.le_refl _) (by omega)
            have hra := cruns_app p.length p (rest.take m) (Nat.le_refl _) (by rw [HTL.out]; omega)
            rw [hrp.out] at hrs hra
            simp only at hrs hra
            have HRA := Lib.hid hra
            clear hra
            cases ov
            · have hst1 : st = -1 := by
                rcases hrs.1 with h1 | h1
                · exact h1.1
                · have := h1.2.2; cases this
              have hf0 : f ≤ 0 := by
                rcases hf.out with h1 | h1
                · omega
                · exact h1.2
              have HR2 := Lib.hid (HRA.out.2 rfl)
              have HC6 : Hid (Coll w5 gb (b ++ rest.take m) false (bks Ax) Ay ny cy ys) := HC5
              have hbm : (b ++ rest.take m).length ≤ b.length + m := by rw [List.length_append, HTL.out]; exact Nat.le_refl _
              clear hrs HRA HC5 hf HP5 KF5 hst1
              go_wp2
              go_loopw [8, 10, 16] (fun yv fv kv wq => ∃ (k : Nat) (b1 : List UInt8) (ys1 : List RQ) (Ay1 : Option Addr) (ny1 cy1 : Nat) (f1 : Int), kv = .int .i64 k ∧ yv = .slice Ay1 ny1 cy1 ∧ fv = .int .i64 f1 ∧ f1 ≤ 0 ∧ 2 * k + b1.length ≤ b.length + m ∧ ny1 ≤ 500 * j + k ∧ Hid (ys1.length = ny1) ∧ Hid (run (p ++ rest.take m) = (ys1.map RQ.r ++ (run b1).1, (run b1).2)) ∧ Hid (Coll wq gb b1 false (bks Ax) Ay1 ny1 cy1 ys1) ∧ Hid (XRow wq (gb :: bks Ay1) Ax nx cx xs) ∧ Hid (Kp [] w wq)) (fun _ _ kv _ => 500 - (intOf kv).toNat)
              case atStart => exact ⟨0, b ++ rest.take m, ys, Ay, ny, cy, f, rfl, rfl, rfl, hf0, by omega, by omega, hyn, HR2, HC6, HX5, HK5⟩
              case round =>
                obtain ⟨k, b1, ys1, Ay1, ny1, cy1, f1, rfl, rfl, rfl, hf1, hkb, hny1, hyn1, hR1, hC1, hX1, hK1⟩ := hrel
                have hk5 : (k : Int) < 500 := by omega
                have hb19 : b1.length < 1024 := by omega
                rcases next_cases (b := b1) hb19 with ⟨e1, _⟩ | ⟨st1, hst, e1⟩ | ⟨r, rest1, e1, hl⟩
                · have E1 := Lib.hid e1
                  have HRN : Hid (run (p ++ rest.take m) = (ys1.map RQ.r, -1, b1, false)) := Lib.hid (by rw [hR1.out, run_more hb19 e1]; simp)
                  clear e1
                  go_wp2_with (go_at_call 16; ((refine next_m hb19 E1.out (hm.kp hK1.out) hC1.out.ps ?_); intro A8 c8 w8 hp8 k8; have HC8 := Lib.hid (fun o => (hC1.out.parser k8 hp8).grow o); have HX8 := Lib.hid (fun o => (hX1.out.to k8 (fun s hs => .inl (by simp at hs; simp [hs])) (fun s hs => .inl hs)).to ((Kp.refl [] w8).alloc o) (by simp) (fun s hs => .inl hs)); have K8 := Lib.hid (hK1.out.thn k8 (fun s hs => .inr (by simp at hs; omega))); clear hp8 k8))
                  exact ⟨⟨j + 1, p ++ rest.take m, rest.drop m, ys1, Ay1, ny1, cy1, -1, b1, false, -1, by go_num, by simp, rfl, rfl, by omega, by rw [HDL.out]; omega, by omega, HPR2, HDE, hyn1, HRN, Lib.hid (by rw [HDL.out]; omega), Lib.hid (.inr ⟨rfl, by omega⟩), Lib.hid (HC8.out _), Lib.hid (HX8.out _), Lib.hid (K8.out.alloc _)⟩, by simp [intOf]; omega⟩
                · have E1 := Lib.hid e1
                  have HRN : Hid (run (p ++ rest.take m) = (ys1.map RQ.r, st1, [], true)) := Lib.hid (by rw [hR1.out, run_bad hst e1]; simp)
                  have hst2 : (st1 != 0) = true := by simp; omega
                  clear e1
                  go_wp2_with (go_at_call 16; ((refine next_b hb19 E1.out (hm.kp hK1.out) hC1.out.ps ?_); intro A8 c8 w8 hp8 k8; have HC8 := Lib.hid (fun o => (hC1.out.parser k8 hp8).grow o); have HX8 := Lib.hid (fun o => (hX1.out.to k8 (fun s hs => .inl (by simp at hs; simp [hs])) (fun s hs => .inl hs)).to ((Kp.refl [] w8).alloc o) (by simp) (fun s hs => .inl hs)); have K8 := Lib.hid (hK1.out.thn k8 (fun s hs => .inr (by simp at hs; omega))); clear hp8 k8))
                  exact ⟨⟨j + 1, p ++ rest.take m, rest.drop m, ys1, Ay1, ny1, cy1, st1, [], true, st1, by go_num, by simp, rfl, rfl, by omega, by rw [HDL.out]; omega, by omega, HPR2, HDE, hyn1, HRN, Lib.hid (by rw [HDL.out]; simp; omega), Lib.hid (.inl ⟨hst, rfl⟩), Lib.hid (HC8.out _), Lib.hid (HX8.out _), Lib.hid (K8.out.alloc _)⟩, by simp [intOf]; omega⟩
                · have E1 := Lib.hid e1
                  have HRf : Hid (r.fs.length ≤ 100000) := Lib.hid (by have := next_fs b1; rw [e1] at this; simp only at this; omega)
                  have HRN : Hid (run (p ++ rest.take m) = ((ys1 ++ [(⟨r, none, 0⟩ : RQ)]).map RQ.r ++ (run rest1).1, (run rest1).2)) := Lib.hid (by rw [hR1.out, run_good hb19 hl e1]; simp)
                  clear e1
                  go_wp2_with (first | (go_at_call 16; ((refine next_g hb19 E1.out (hm.kp hK1.out) hC1.out.ps ?_); intro A8 c8 w8 hp8 k8 rd8 fr8; have HP8 := Lib.hid hp8; have K8 := Lib.hid k8; have RD8 := Lib.hid rd8; have FR8 := Lib.hid fr8; clear hp8 k8 rd8 fr8)) | (at_builtin; refine wpList_app _ rfl (.tmp 96) (.tmp 98) _ rfl elt_rq Ay1 ny1 cy1 _ rfl (((hC1.out.parser K8.out HP8.out).ow.alloc _).alloc _) [] _ 1 1 (rqC ⟨r, A8, c8⟩) rfl (rq_rd (by simp) ⟨r, A8, c8⟩) rfl (rq_one _) (by omega) ?_; intro A9 c9 w9 ho9 hk9 hA9; have HCS9 := Lib.hid (hC1.out.snoc _ _ ⟨r, A8, c8⟩ HP8.out K8.out RD8.out FR8.out HRf.out (fun x hx => hX1.out.ow.lt x hx) ho9 hk9 hA9); have HAN := Lib.hid hA9; clear ho9 hk9 hA9))
                  have hsz9 := K8.out.size
                  have hn2 : ∀ x ∈ gb :: bks A9, x ∈ gb :: bks Ay1 ∨ wr.heap.size ≤ x := by
                    intro x hx
                    rcases List.mem_cons.1 hx with rfl | h1
                    · left; simp
                    · rcases HAN.out with rfl | rfl
                      · left; simp [h1]
                      · right; simp [bks] at h1; omega
                  have hn3 : ∀ x ∈ gb :: bks Ay1, x ∈ ([] : List Nat) ∨ w.heap.size ≤ x := by
                    intro x hx
                    rcases List.mem_cons.1 hx with rfl | h1
                    · right; omega
                    · have := (hC1.out.fr x h1).1; right; omega
                  exact ⟨⟨k + 1, rest1, ys1 ++ [⟨r, A8, c8⟩], A9, ny1 + 1, c9, 0, by go_num, rfl, rfl, by omega, by omega, by omega, Lib.hid (by simp [hyn1.out]), Lib.hid (by rw [HRN.out]; simp), Lib.hid HCS9.out.1, Lib.hid (hX1.out.to HCS9.out.2 (fun s hs => .inl hs) hn2), Lib.hid (hK1.out.thn HCS9.out.2 hn3)⟩, by simp [intOf]; omega⟩
            · have hst1 : 0 < st ∧ b = [] := by
                rcases hrs.1 with h1 | h1
                · have := h1.2; cases this
                · exact ⟨h1.1, h1.2.1⟩
              obtain ⟨hst1, hb0⟩ := hst1
              subst hb0
              have hfs : f = st := by
                rcases hf.out with h1 | h1
                · exact h1.2
                · omega
              have hf0 : ¬ f ≤ 0 := by omega
              have HFS := Lib.hid hfs
              have HR2 := Lib.hid (HRA.out.1 rfl)
              have HC6 : Hid (Coll w5 gb [] true (bks Ax) Ay ny cy ys) := HC5
              clear hrs HRA HC5 HP5 KF5 hfs
              go_wp2
              go_loopw [8, 10, 16] (fun yv fv kv wq => yv = .slice Ay ny cy ∧ fv = .int .i64 f ∧ kv = .int .i64 0 ∧ wq = w5) (fun _ _ _ _ => 0)
              case atStart => exact ⟨rfl, rfl, rfl, rfl⟩
              case round =>
                obtain ⟨rfl, rfl, rfl, rfl⟩ := hrel
                go_wp2_with (go_at_call 16; ((refine next_o HC6.out.ps ?_); intro A8 c8 w8 hp8 k8; have HC8 := Lib.hid (fun o => (HC6.out.parser k8 hp8).grow o); have HX8 := Lib.hid (fun o => (HX5.out.to k8 (fun s hs => .inl (by simp at hs; simp [hs])) (fun s hs => .inl hs)).to ((Kp.refl [] w8).alloc o) (by simp) (fun s hs => .inl hs)); have K8 := Lib.hid (HK5.out.thn k8 (fun s hs => .inr (by simp at hs; omega))); clear hp8 k8))
                exact ⟨⟨j + 1, p ++ rest.take m, rest.drop m, ys, Ay, ny, cy, f, [], true, st, by go_num, by simp, rfl, rfl, by omega, by rw [HDL.out]; omega, by omega, HPR2, HDE, hyn, HR2, Lib.hid (by rw [HDL.out]; simp; omega), Lib.hid (.inl ⟨hst1, HFS.out⟩), Lib.hid (HC8.out _), Lib.hid (HX8.out _), Lib.hid (K8.out.alloc _)⟩, by simp [intOf]; omega⟩
        · have hje : j = cs.length + 1 := by omega
          subst hje
          have hr0 : rest = [] := hre.out rfl
          subst hr0
          have hps : p = s := by have := hpr.out; simpa using this
          subst hps
          have HRR := Lib.hid (hrp.out.symm.trans HRUN.out)
          have hXY : X = ys.map RQ.r ∧ E = st := by
            have := HRR.out
            simp only [Prod.mk.injEq] at this
            exact ⟨this.1.symm, this.2.1.symm⟩
          obtain ⟨hXY, hEs⟩ := hXY
          have hnn : ny = nx := by
            have h1 := congrArg List.length (hXx.out.symm.trans hXY)
            simp only [List.length_map] at h1
            rw [hxn.out, hyn.out] at h1; exact h1.symm
          subst hnn
          have HMM : Hid (xs.map RQ.r = ys.map RQ.r) := Lib.hid (hXx.out.symm.trans hXY)
          have hcase : (E != f) = false ∨ ((E != f) = true ∧ decide (E ≤ 0) = true ∧ decide (f ≤ 0) = true) := by
            by_cases he : E = f
            · left; simpa using he
            · right
              rcases hf.out with h1 | h1
              · exact absurd (hEs.trans h1.2.symm) he
              · refine ⟨by simpa using he, by simp; omega, by simp; omega⟩
          clear hXY hEs hf hre hpr
          obtain ⟨W0, hW0⟩ : ∃ W0, W0 = wr := ⟨_, rfl⟩
          have HW0 : Hid (Kp [] W0 wr) := Lib.hid (by rw [hW0]; exact Kp.refl _ _)
          have HXR2 : Hid (XRow W0 (gb :: bks Ay) Ax ny cx xs) := Lib.hid (by rw [hW0]; exact hXR.out)
          have HC2 : Hid (Coll W0 gb b ov (bks Ax) Ay ny cy ys) := Lib.hid (by rw [hW0]; exact hC.out)
          have HK2 : Hid (Kp [] w W0) := Lib.hid (by rw [hW0]; exact hK.out)
          clear hW0 hXR hC hK
          have RX0 := Lib.hid (HXR2.out.ow.rd (N := []) (by simp))
          have RY0 := Lib.hid (HC2.out.ow.rd (N := []) (by simp))
          rcases hcase with q1 | ⟨q1, q2, q3⟩
          all_goals
            go_wp2
            go_loopw [19] (fun iv wq => ∃ k : Nat, k ≤ ny ∧ iv = .int .i64 k ∧ Kp [] W0 wq) (fun iv _ => ny - (intOf iv).toNat)
            case atStart => exact ⟨0, Nat.zero_le _, rfl, HW0.out⟩
            case round =>
              obtain ⟨k, hk, rfl, kr⟩ := hrel
              by_cases hlt : k < ny
              · obtain ⟨qx, hqx⟩ : ∃ q, xs[k]? = some q := ⟨_, List.getElem?_eq_getElem (by rw [hxn.out]; exact hlt)⟩
                obtain ⟨qy, hqy⟩ : ∃ q, ys[k]? = some q := ⟨_, List.getElem?_eq_getElem (by rw [hyn.out]; exact hlt)⟩
                have hrr : qx.r = qy.r := by
                  have h1 := congrArg (fun l => l[k]?) HMM.out
                  simp only [List.getElem?_map, hqx, hqy, Option.map_some] at h1
                  injection h1
                obtain ⟨r, Aqx, cqx⟩ := qx
                obtain ⟨r2, Aqy, cqy⟩ := qy
                simp only at hrr
                subst hrr
                have hmx := HXR2.out.row _ (List.mem_of_getElem? hqx)
                have hmy := HC2.out.row _ (List.mem_of_getElem? hqy)
                have hlen : r.fs.length ≤ 100000 := hmx.2
                have HRDX : Hid (∀ w', Kp [] wr w' → Rd w' [] Aqx (r.fs.flatMap fldC)) := Lib.hid (fun w' k' => (hmx.1.sub (N' := []) (by simp)).kp (kr.trans k') (by simp))
                have HRDY : Hid (∀ w', Kp [] wr w' → Rd w' [] Aqy (r.fs.flatMap fldC)) := Lib.hid (fun w' k' => (hmy.1.sub (N' := []) (by simp)).kp (kr.trans k') (by simp))
                have HTx : Hid (∀ (R : Ending → World → Prop) (w1 : World), Rd w1 [] Aqx (r.fs.flatMap fldC) → (∀ A' c' w', Kp [] w1 w' → Rd w' [] A' (r.fs.flatMap fldC) → R (.returned (.agg #[.string (S r.m), .string (S r.t), .int .i64 r.minor, .slice A' r.fs.length c', .bool r.close])) w') → Calls Tryd.prog 18 #[.agg #[.string (S r.m), .string (S r.t), .int .i64 r.minor, .slice Aqx r.fs.length cqx, .bool r.close]] w1 R) := Lib.hid (fun R w1 h1 h => to24_any r w1 h1 hlen (fun A' c' w' a b _ _ => h A' c' w' a b))
                have HTy : Hid (∀ (R : Ending → World → Prop) (w1 : World), Rd w1 [] Aqy (r.fs.flatMap fldC) → (∀ A' c' w', Kp [] w1 w' → Rd w' [] A' (r.fs.flatMap fldC) → R (.returned (.agg #[.string (S r.m), .string (S r.t), .int .i64 r.minor, .slice A' r.fs.length c', .bool r.close])) w') → Calls Tryd.prog 18 #[.agg #[.string (S r.m), .string (S r.t), .int .i64 r.minor, .slice Aqy r.fs.length cqy, .bool r.close]] w1 R) := Lib.hid (fun R w1 h1 h => to24_any r w1 h1 hlen (fun A' c' w' a b _ _ => h A' c' w' a b))
                obtain ⟨bx, ox, rfl, _, hgx, hcx⟩ := rd_at (RX0.out.kp kr (by simp)) rqC_len (by decide) hqx
                obtain ⟨bY, oY, rfl, _, hgy, hcy⟩ := rd_at (RY0.out.kp kr (by simp)) rqC_len (by decide) hqy
                have x0 := hcx 0 _ rfl
                have x1 := hcx 1 _ rfl
                have x2 := hcx 2 _ rfl
                have x3 := hcx 3 _ rfl
                have x4 := hcx 4 _ rfl
                have y0 := hcy 0 _ rfl
                have y1 := hcy 1 _ rfl
                have y2 := hcy 2 _ rfl
                have y3 := hcy 3 _ rfl
                have y4 := hcy 4 _ rfl
                rw [Nat.add_zero] at x0 y0
                have HXC : Hid (∀ w', Kp [] wr w' → w'.cell? ⟨bx, ox + k * 5, none⟩ = some (.string (S r.m)) ∧ w'.cell? ⟨bx, ox + k * 5 + 1, none⟩ = some (.string (S r.t)) ∧ w'.cell? ⟨bx, ox + k * 5 + 2, none⟩ = some (.int .i64 r.minor) ∧ w'.cell? ⟨bx, ox + k * 5 + 3, none⟩ = some (.slice Aqx r.fs.length cqx) ∧ w'.cell? ⟨bx, ox + k * 5 + 4, none⟩ = some (.bool r.close)) := Lib.hid (fun w' k' => ⟨(k'.cell (p := ⟨bx, _, none⟩) hgx (by simp)).trans x0, (k'.cell (p := ⟨bx, _, none⟩) hgx (by simp)).trans x1, (k'.cell (p := ⟨bx, _, none⟩) hgx (by simp)).trans x2, (k'.cell (p := ⟨bx, _, none⟩) hgx (by simp)).trans x3, (k'.cell (p := ⟨bx, _, none⟩) hgx (by simp)).trans x4⟩)
                have HYC : Hid (∀ w', Kp [] wr w' → w'.cell? ⟨bY, oY + k * 5, none⟩ = some (.string (S r.m)) ∧ w'.cell? ⟨bY, oY + k * 5 + 1, none⟩ = some (.string (S r.t)) ∧ w'.cell? ⟨bY, oY + k * 5 + 2, none⟩ = some (.int .i64 r.minor) ∧ w'.cell? ⟨bY, oY + k * 5 + 3, none⟩ = some (.slice Aqy r.fs.length cqy) ∧ w'.cell? ⟨bY, oY + k * 5 + 4, none⟩ = some (.bool r.close)) := Lib.hid (fun w' k' => ⟨(k'.cell (p := ⟨bY, _, none⟩) hgy (by simp)).trans y0, (k'.cell (p := ⟨bY, _, none⟩) hgy (by simp)).trans y1, (k'.cell (p := ⟨bY, _, none⟩) hgy (by simp)).trans y2, (k'.cell (p := ⟨bY, _, none⟩) hgy (by simp)).trans y3, (k'.cell (p := ⟨bY, _, none⟩) hgy (by simp)).trans y4⟩)
                have KR := Lib.hid kr
                clear hcx hcy hqx hqy hmx hmy kr
                go_wp2
                go_region_law (first | (go_simp; go_at_call 18; (with_reducible refine HTx.out _ _ (HRDX.out _ (by first | exact (Kp.refl [] _).drew | exact (Kp.refl [] _).drew.trans k8)) ?_); intro A7 c7 w7 k7 rd7; obtain ⟨u0, u1, u2, u3, u4⟩ := HYC.out w7 (by first | exact (Kp.refl [] _).drew.trans k7 | exact ((Kp.refl [] _).drew.trans k8).trans k7)) | (go_simp; go_at_call 18; (with_reducible refine HTy.out _ _ (HRDY.out _ (by first | exact (Kp.refl [] _).drew | exact (Kp.refl [] _).drew.trans k7)) ?_); intro A8 c8 w8 k8 rd8; obtain ⟨v0, v1, v2, v3, v4⟩ := HXC.out w8 (by first | exact (Kp.refl [] _).drew.trans k8 | exact ((Kp.refl [] _).drew.trans k7).trans k8)) | (go_simp; go_at_call 17; (refine rsame24_any r _ (by first | exact rd7 | exact rd7.kp k8 (by simp)) (by first | exact rd8 | exact rd8.kp k7 (by simp)) hlen ?_); intro w9 k9))
                all_goals
                  go_wp2
                  refine ⟨?_, by simp [intOf]; omega⟩
                  repeat apply Exists.intro
                  refine ⟨⟨k + 1, by omega, by go_num, (by first | exact (((KR.out.drew.trans k7).trans k8).trans k9) | exact (((KR.out.drew.trans k8).trans k7).trans k9))⟩, ?_⟩
                  rfl
              · go_wp2
                exact H.out _ (HK2.out.trans kr)
  · by_cases e1 : 900 < s.length
    · clear hc
      go_enter Tryd.func4, Tryd.ntmps4
      go_wp2_with (go_at_call 8; ((refine alive24_any _ hm ?_); intro w1 k1))
      exact H.out _ k1
    · have e2 : 60 < cs.length := by omega
      clear hc
      go_enter Tryd.func4, Tryd.ntmps4
      go_wp2_with (go_at_call 8; ((refine alive24_any _ hm ?_); intro w1 k1))
      exact H.out _ k1
end Go.Proofs.YtbgfcidklofcpaaDoor
