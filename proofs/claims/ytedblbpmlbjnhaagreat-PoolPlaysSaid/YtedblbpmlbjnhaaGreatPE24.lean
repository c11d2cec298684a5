/- The document's table: what is written. -/
import Derived.Test.YtedblbpmlbjnhaaGreatPE20
import Derived.Test.YtedblbpmlbjnhaaGreatPE11
import Derived.Test.YtedblbpmlbjnhaaGreatPE21
import Derived.BigQuiet
namespace Go.Proofs.YtedblbpmlbjnhaaGreat
/-! ### The document's table: what is written. -/
section
open Go.RowKit
set_option linter.unusedVariables false
set_option linter.unusedSimpArgs false
set_option maxRecDepth 100000
section
variable {R : Ending → World → Prop} {bM bO bH bB : Nat} {fs : List Fr} {w : World}
theorem put_val {l : List UInt8} {o : Int} {s : ByteArray} (hl : l.length = 256) (h0 : 0 ≤ o) : S (l.take o.toNat) ++ s ++ S ((l.take 256).drop (o + s.size).toNat) = S (putB l o s.data.toList) := by
  obtain ⟨b, rfl⟩ : ∃ b, s = S b := ⟨_, S_eta s⟩
  have e : l.take 256 = l := List.take_of_length_le (by omega)
  have e2 : (o + (b.length : Int)).toNat = o.toNat + b.length := by omega
  rw [S_size, S_data, e, e2, S_append, S_append]
  rfl
set_option maxHeartbeats 1600000 in
theorem rdo_write (hT : RT w bM bO bH bB fs) (e o n : Int) (i : Nat) (s : ByteArray) (x : Fr) (hx : fs[i]? = some x) (he : e = 1 ∨ e = 2) (hw : x.ow = e) (hs : spanB o s.size = true) (o1 : -9223372036854775808 ≤ o) (o2 : o ≤ 9223372036854775807) (h0 : x.ho ≤ 0) (hl : x.bs.length = 256)
    (h : ∀ w', Kp [bO, bH, bB] w w' → RT w' bM bO bH bB (fs.set i { x with bs := putB x.bs o s.data.toList }) → R (.returned (.tuple #[.int .i64 0, .string (S []), .int .i64 0])) w') :
    Calls Tryz.prog 54 #[.pointer (some ⟨bM, 0, none⟩), .agg #[.int .i64 4, .int .i64 e, .int .i64 i, .int .i64 o, .int .i64 n, .string s]] w R := by
  have H := Lib.hid h
  clear h
  have hn := hT.n1
  have hi := lt_of hx
  have i0 : ¬ (i : Int) < 0 := by omega
  have b0 : (x.ow != e) = false := by simp [hw]
  have b6 : decide (0 < x.ho) = false := by simp; omega
  have HS1 : Hid (0 ≤ o ∧ o + s.size ≤ 256) := Lib.hid ((fun (h : 0 ≤ o ∧ 0 ≤ (s.size : Int) ∧ o + s.size ≤ 256) => ⟨h.1, h.2.2⟩) (by simpa [spanB] using hs))
  have HL := Lib.hid hl
  clear hl
  have HS := Lib.hid hs
  clear hs
  have HX := Lib.hid hx
  have HT := Lib.hid hT
  clear hx hT
  rcases he with rfl | rfl
  all_goals
    go_enter Tryz.func54, Tryz.ntmps54
    go_upto_region 1 with (fail)
    refine gen_world (fun W => Kp [] w W ∧ RT W bM bO bH bB fs ∧ Bk W w.heap.size 132 [.int .i64 4, .int .i64 _, .int .i64 i, .int .i64 o, .int .i64 _, .string s]) ⟨(Kp.refl _ _).alloc _, HT.out.kp ((Kp.refl [] w).alloc _) (by simp) (by simp) (by simp) (by simp), Bk.newAt rfl _ _⟩ ?_
    rintro W ⟨kW, tW, bW⟩
    obtain ⟨cc0, cc1, cc2, ht⟩ := tW.t
    have q0 := ht.cell 0
    have q1 := ht.cell 1
    have q2 := ht.cell 2
    have c0 := bW.cell 0
    have c1 := bW.cell 1
    have c2 := bW.cell 2
    have c3 := bW.cell 3
    have c4 := bW.cell 4
    have c5 := bW.cell 5
    simp only [List.getElem?_cons_zero, List.getElem?_cons_succ] at q0 q1 q2 c0 c1 c2 c3 c4 c5
    have x0 := tW.ow HX.out
    have x1 := tW.ho HX.out
    have x2 := tW.bs HX.out
    have z0 := tW.o.frozen i
    have z1 := tW.h.frozen i
    have z2 := tW.b.frozen i
    have TW := Lib.hid tW
    have KW := Lib.hid kW
    clear tW kW ht bW
    go_wp2
    go_quiet (fail)
    go_wp2
    go_quiet (fail)
    go_wp2
    go_quiet (fail)
    go_wp2_with (go_at_call 113; ((refine rwithin_any _ _ (by omega) (by omega) _ ?_); rw [HS.out]))
    go_wp2
    go_quiet (fail)
    have hl : x.bs.length = 256 := HL.out
    have s1 : 0 ≤ o := HS1.out.1
    have s3 : o + s.size ≤ 256 := HS1.out.2
    go_wp2
    go_quiet (fail)
    go_wp2
    have KW3 : Kp [bO, bH, bB] w W := KW.out.mono (by simp)
    go_region
    all_goals go_wp2
    all_goals go_ret3
    all_goals exact H.out _ (by repeat first | exact KW3 | exact KW.out | exact kV | refine Kp.setCell ?_ (.inl (by simp)) _ | refine Kp.drewN ?_ _ | refine Kp.drew ?_) (by rw [put_val hl s1]; repeat first | exact TW.out | refine RT.putBs ?_ HX.out _ | refine RT.drewN ?_ _ | refine RT.drew ?_)
end
end
end Go.Proofs.YtedblbpmlbjnhaaGreat
