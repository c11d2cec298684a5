/- PoolKeeps in plain words: what is pinned stays. -/
import Derived.Test.YthlmfjfkkndboaaPo13
namespace Go.Proofs.Ythlmfjfkkndboaa
open Go.RowKit Go.Shelf
set_option linter.unusedVariables false
set_option linter.unusedSimpArgs false
set_option maxRecDepth 100000
theorem kcnt_mono {k : KS} {a b : Nat} (h : k.cnt a) (hab : a ≤ b) : k.cnt b := ⟨by have := h.ln; omega, by have := h.nx; omega, by have := h.c1; omega, by have := h.c2; omega, by have := h.co; omega, by have := h.dn; omega, h.fl, fun y hy => by have := h.ho y hy; omega⟩
/-- What taking may do to a slot. -/
def SlR (x x' : PSl) : Prop := x'.f = x.f ∧ ((x'.kd = x.kd ∧ x'.bl = x.bl ∧ x'.pi = x.pi) ∨ (x.pi = 0 ∧ x'.kd = 0 ∧ x'.pi = 0))
theorem SlR.refl (x : PSl) : SlR x x := ⟨rfl, .inl ⟨rfl, rfl, rfl⟩⟩
theorem SlR.trans {x y z : PSl} (h : SlR x y) (k : SlR y z) : SlR x z := by
  obtain ⟨h1, h2⟩ := h; obtain ⟨k1, k2⟩ := k
  refine ⟨k1.trans h1, ?_⟩
  rcases h2 with ⟨a1, a2, a3⟩ | ⟨a1, a2, a3⟩
  · rcases k2 with ⟨b1, b2, b3⟩ | ⟨b1, b2, b3⟩
    · exact .inl ⟨b1.trans a1, b2.trans a2, b3.trans a3⟩
    · exact .inr ⟨by rw [← a3]; exact b1, b2, b3⟩
  · rcases k2 with ⟨b1, b2, b3⟩ | ⟨b1, b2, b3⟩
    · exact .inr ⟨a1, b1.trans a2, b3.trans a3⟩
    · exact .inr ⟨a1, b2, b3⟩
/-- What taking does. -/
structure TkR (p p' : PS) (o : Option Nat) : Prop where
  len : p'.sl.length = p.sl.length
  at_ : ∀ (j : Nat) (x' : PSl), p'.sl[j]? = some x' → ∃ x : PSl, p.sl[j]? = some x ∧ SlR x x'
  got : ∀ i : Nat, o = some i → ∃ x x' : PSl, p.sl[i]? = some x ∧ p'.sl[i]? = some x' ∧ x.pi = 0 ∧ x'.kd = 0 ∧ x'.pi = 0 ∧ x'.f = x.f
theorem TkR.refl (p : PS) : TkR p p none := ⟨rfl, fun j x' h => ⟨x', h, SlR.refl _⟩, fun i h => by cases h⟩
theorem set_rel {p : PS} {j : Nat} {x y : PSl} (hx : p.sl[j]? = some x) (hr : SlR x y) (i : Nat) (x' : PSl) (h : (p.sl.set j y)[i]? = some x') : ∃ z, p.sl[i]? = some z ∧ SlR z x' := by
  by_cases hij : j = i
  · subst hij
    rw [List.getElem?_set_self (List.getElem?_eq_some_iff.1 hx).1] at h
    injection h with h; subst h
    exact ⟨x, hx, hr⟩
  · rw [List.getElem?_set_ne hij] at h
    exact ⟨x', h, SlR.refl _⟩
theorem maB_pi {k : KS} {x : PSl} (h : maB k x = true) : x.pi = 0 := by unfold maB at h; simp at h; exact h.1
theorem pRnd_rel (k : KS) : ∀ (n : Nat) (p : PS), TkR p (pRnd k n p).2 (pRnd k n p).1
  | 0, p => TkR.refl p
  | n + 1, p => by
    unfold pRnd
    cases hx : p.sl[p.hand]? with
    | none => exact TkR.refl p
    | some x =>
      simp only
      split
      · rename_i hc
        have hm : maB k x = true := by
          cases h : maB k x with
          | true => rfl
          | false => rw [h] at hc; simp at hc
        have hpi := maB_pi hm
        refine ⟨by simp, fun j x' h => set_rel (y := PSl.e x.f) hx ⟨rfl, .inr ⟨hpi, rfl, rfl⟩⟩ j x' h, fun i hi => ?_⟩
        injection hi with hi; subst hi
        exact ⟨x, PSl.e x.f, hx, List.getElem?_set_self (List.getElem?_eq_some_iff.1 hx).1, hpi, rfl, rfl, rfl⟩
      · have ih := pRnd_rel k n { p with sl := p.sl.set p.hand { x with ma := false }, hand := (p.hand + 1) % p.sl.length }
        refine ⟨by rw [ih.len]; simp, fun j x' h => ?_, fun i hi => ?_⟩
        · obtain ⟨y, hy, hr⟩ := ih.at_ j x' h
          obtain ⟨z, hz, hr2⟩ := set_rel hx (y := { x with ma := false }) ⟨rfl, .inl ⟨rfl, rfl, rfl⟩⟩ j y hy
          exact ⟨z, hz, hr2.trans hr⟩
        · obtain ⟨y, x', hy, hx', q1, q2, q3, q4⟩ := ih.got i hi
          obtain ⟨z, hz, hr2⟩ := set_rel hx (y := { x with ma := false }) ⟨rfl, .inl ⟨rfl, rfl, rfl⟩⟩ i y hy
          refine ⟨z, x', hz, hx', ?_, q2, q3, q4.trans hr2.1⟩
          rcases hr2.2 with ⟨_, _, e⟩ | ⟨e, _⟩
          · rw [← e]; exact q1
          · exact e
theorem pTake_rel (k : KS) (p : PS) : TkR p (pTake k p).2 (pTake k p).1 := by
  unfold pTake
  cases hf : p.sl.findIdx? (tkB k) with
  | none => exact pRnd_rel k _ p
  | some i =>
    obtain ⟨x, hx, hp⟩ := idx_at hf
    unfold tkB at hp
    simp at hp
    refine ⟨rfl, fun j x' h => ⟨x', h, SlR.refl _⟩, fun i' hi => ?_⟩
    injection hi with hi; subst hi
    exact ⟨x, x, hx, hx, maB_pi hp.2, hp.1, maB_pi hp.2, rfl⟩
/-- What holds at each step of PoolKeeps. -/
structure PKI (s : List UInt8) (st : Int → Bool) (m : Nat) (k : KS) (p : PS) : Prop where
  c : k.cnt m
  ho : hoIn k.fs 0
  bd : p.bd m
  dk : k.d.ok
  fr : ∀ j : Nat, j < 3 → ∃ y : Fr, k.fs[j]? = some y ∧ y.ow = 1 ∧ y.bs.length = 256
  n3 : p.sl.length = 3
  sf : ∀ (j : Nat) (x : PSl), p.sl[j]? = some x → x.f = (j : Int)
  h0 : ∃ x : PSl, p.sl[0]? = some x ∧ x.kd = 2 ∧ x.pi = 1
  b0 : ∃ y : Fr, k.fs[0]? = some y ∧ y.bs.take s.length = s
  bk : ∀ (j : Nat) (x : PSl), p.sl[j]? = some x → x.kd = 1 → st x.bl = false → dMay k.d 1 x.bl = 0 ∧ ∃ y : Fr, k.fs[j]? = some y ∧ y.bs = dSee k.d x.bl
section
variable {s : List UInt8} {st : Int → Bool} {m : Nat} {k : KS} {p : PS}
theorem PS.bd.mono {p : PS} {a b : Nat} (h : p.bd a) (hab : a ≤ b) : p.bd b := ⟨fun x hx => by have := h.pi x hx; omega, h.f0, by have := h.f1; omega⟩
theorem PKI.mono (h : PKI s st m k p) {m' : Nat} (hm : m ≤ m') : PKI s st m' k p := ⟨kcnt_mono h.c hm, h.ho, h.bd.mono hm, h.dk, h.fr, h.n3, h.sf, h.h0, h.b0, h.bk⟩
theorem PKI.take (h : PKI s st m k p) : PKI s st m k (pTake k p).2 := by
  have r := pTake_rel k p
  refine ⟨h.c, h.ho, pTake_bd h.bd, h.dk, h.fr, by rw [r.len]; exact h.n3, fun j x' hx' => ?_, ?_, h.b0, fun j x' hx' hk hs => ?_⟩
  · obtain ⟨x, hx, hr⟩ := r.at_ j x' hx'
    rw [hr.1]; exact h.sf j x hx
  · obtain ⟨x, hx, h1, h2⟩ := h.h0
    obtain ⟨x', hx'⟩ : ∃ x', (pTake k p).2.sl[0]? = some x' := ⟨_, List.getElem?_eq_getElem (by rw [r.len, h.n3]; omega)⟩
    obtain ⟨z, hz, hr⟩ := r.at_ 0 x' hx'
    rw [hx] at hz; injection hz with hz; subst hz
    refine ⟨x', hx', ?_⟩
    rcases hr.2 with ⟨a, _, b⟩ | ⟨a, _⟩
    · exact ⟨a.trans h1, b.trans h2⟩
    · omega
  · obtain ⟨x, hx, hr⟩ := r.at_ j x' hx'
    rcases hr.2 with ⟨a, b, _⟩ | ⟨_, a, _⟩
    · rw [b]; exact h.bk j x hx (by rw [← a]; exact hk) (by rw [← b]; exact hs)
    · omega
/-- Who is taken is not the head's. -/
theorem PKI.took (h : PKI s st m k p) {i : Nat} (ht : (pTake k p).1 = some i) : i ≠ 0 ∧ i < 3 ∧ ∀ x, (pTake k p).2.sl[i]? = some x → x.f = (i : Int) ∧ x.kd = 0 ∧ x.pi = 0 := by
  obtain ⟨x, x', hx, hx', q1, q2, q3, q4⟩ := (pTake_rel k p).got i ht
  have hi := (List.getElem?_eq_some_iff.1 hx).1
  rw [h.n3] at hi
  refine ⟨?_, hi, fun y hy => ?_⟩
  · rintro rfl
    obtain ⟨z, hz, _, h2⟩ := h.h0
    rw [hx] at hz; injection hz with hz; subst hz
    omega
  · rw [hx'] at hy; injection hy with hy; subst hy
    exact ⟨q4.trans (h.sf i x hx), q2, q3⟩
theorem tWrite_ok {fs : List Fr} {i : Nat} {y : Fr} (hy : fs[i]? = some y) (ho : y.ow = 1) (hz : hoIn fs 0) {l : List UInt8} (hl : l.length ≤ 256) : tWrite fs 1 i 0 l = (0, fs.set i { y with bs := putB y.bs 0 l }) := by
  have hf : fat fs (i : Int) = some y := by unfold fat; rw [if_pos (by omega)]; simpa using hy
  have h1 : ownE fs 1 i = 0 := by unfold ownE; rw [if_pos (by rfl), hf]; simp [ho]
  have h2 : spanB 0 l.length = true := by simp [spanB]; omega
  have h3 := hoIn_at hz hf
  unfold tWrite
  rw [if_pos h1, if_neg (by simp [h2]), hf]
  simp only
  rw [if_neg (by omega)]
  simp
theorem putZ (bs l : List UInt8) : putB bs 0 l = l ++ bs.drop l.length := by simp [putB]
theorem putZ_len {bs l : List UInt8} (h : bs.length = 256) (hl : l.length ≤ 256) : (putB bs 0 l).length = 256 := by rw [putZ]; simp; omega
/-- A taken slot is filled: its frame is written. -/
theorem PKI.fill (h : PKI s st m k p) {i : Nat} (hi0 : i ≠ 0) (hi : i < 3) {x' : PSl} {l : List UInt8} (hl : l.length ≤ 256) (hf : x'.f = (i : Int)) (hp : 0 ≤ x'.pi ∧ x'.pi ≤ m + 1) {fl : Int} (hfl : fl = p.fills ∨ fl = p.fills + 1)
    (hb : x'.kd = 1 → dMay k.d 1 x'.bl = 0 ∧ l.length = 256 ∧ l = dSee k.d x'.bl) :
    PKI s st (m + 1) { k with fs := (tWrite k.fs 1 i 0 l).2 } { p with sl := p.sl.set i x', fills := fl } := by
  obtain ⟨y, hy, ho, hbs⟩ := h.fr i hi
  have hw := tWrite_ok hy ho h.ho hl
  have hil : i < p.sl.length := by rw [h.n3]; exact hi
  have hw2 : (tWrite k.fs 1 i 0 l).2 = k.fs.set i { y with bs := putB y.bs 0 l } := by rw [hw]
  have hy1 : (k.fs.set i { y with bs := putB y.bs 0 l })[i]? = some { y with bs := putB y.bs 0 l } := List.getElem?_set_self (List.getElem?_eq_some_iff.1 hy).1
  refine ⟨kcnt_mono (kw_cnt h.c _ _ _ _) (by omega), tWrite_ho h.ho, ⟨fun z hz => ?_, ?_, ?_⟩, h.dk, ?_, by simp [h.n3], ?_, ?_, ?_, ?_⟩
  · rcases mem_set hz with rfl | hz
    · constructor <;> omega
    · have := h.bd.pi z hz; omega
  · have := h.bd.f0; show 0 ≤ fl; omega
  · have := h.bd.f1; show fl ≤ ((m + 1 : Nat) : Int); omega
  · intro j hj
    show ∃ z, (tWrite k.fs 1 i 0 l).2[j]? = some z ∧ _
    rw [hw2]
    by_cases hij : i = j
    · subst hij; exact ⟨_, hy1, ho, putZ_len hbs hl⟩
    · rw [List.getElem?_set_ne hij]; exact h.fr j hj
  · intro j z hz
    by_cases hij : i = j
    · subst hij
      have : (p.sl.set i x')[i]? = some z := hz
      rw [List.getElem?_set_self hil] at this; injection this with this; subst this; exact hf
    · have : (p.sl.set i x')[j]? = some z := hz
      rw [List.getElem?_set_ne hij] at this; exact h.sf j z this
  · show ∃ z, (p.sl.set i x')[0]? = some z ∧ _
    rw [List.getElem?_set_ne hi0]; exact h.h0
  · show ∃ z, (tWrite k.fs 1 i 0 l).2[0]? = some z ∧ _
    rw [hw2, List.getElem?_set_ne hi0]; exact h.b0
  · intro j z hz hk hs
    show dMay k.d 1 z.bl = 0 ∧ ∃ v, (tWrite k.fs 1 i 0 l).2[j]? = some v ∧ v.bs = dSee k.d z.bl
    rw [hw2]
    by_cases hij : i = j
    · subst hij
      have : (p.sl.set i x')[i]? = some z := hz
      rw [List.getElem?_set_self hil] at this; injection this with this; subst this
      obtain ⟨b1, b2, b3⟩ := hb hk
      refine ⟨b1, _, hy1, ?_⟩
      show putB y.bs 0 l = _
      rw [putZ, b2, List.drop_of_length_le (by omega), List.append_nil, b3]
    · have : (p.sl.set i x')[j]? = some z := hz
      rw [List.getElem?_set_ne hij] at this ⊢
      exact h.bk j z this hk hs
/-- A slot turns whose block stays or goes. -/
theorem PKI.turn (h : PKI s st m k p) {i : Nat} (hi0 : i ≠ 0) {x x' : PSl} (hx : p.sl[i]? = some x) (hf : x'.f = x.f) (hp : 0 ≤ x'.pi ∧ x'.pi ≤ m + 1) (hb : x'.kd = 1 → x.kd = 1 ∧ x'.bl = x.bl) : PKI s st (m + 1) k { p with sl := p.sl.set i x' } := by
  have hil := (List.getElem?_eq_some_iff.1 hx).1
  refine ⟨kcnt_mono h.c (by omega), h.ho, ⟨fun z hz => ?_, h.bd.f0, by have := h.bd.f1; show p.fills ≤ ((m + 1 : Nat) : Int); omega⟩, h.dk, h.fr, by simp [h.n3], ?_, ?_, h.b0, ?_⟩
  · rcases mem_set hz with rfl | hz
    · constructor <;> omega
    · have := h.bd.pi z hz; omega
  · intro j z hz
    by_cases hij : i = j
    · subst hij
      have : (p.sl.set i x')[i]? = some z := hz
      rw [List.getElem?_set_self hil] at this; injection this with this; subst this
      rw [hf]; exact h.sf i x hx
    · have : (p.sl.set i x')[j]? = some z := hz
      rw [List.getElem?_set_ne hij] at this; exact h.sf j z this
  · show ∃ z, (p.sl.set i x')[0]? = some z ∧ _
    rw [List.getElem?_set_ne hi0]; exact h.h0
  · intro j z hz hk hs
    by_cases hij : i = j
    · subst hij
      have : (p.sl.set i x')[i]? = some z := hz
      rw [List.getElem?_set_self hil] at this; injection this with this; subst this
      obtain ⟨b1, b2⟩ := hb hk
      rw [b2] at hs ⊢
      exact h.bk i x hx b1 hs
    · have : (p.sl.set i x')[j]? = some z := hz
      rw [List.getElem?_set_ne hij] at this
      exact h.bk j z this hk hs
theorem PKI.get (h : PKI s st m k p) {b n f e : Int} {re im : Nat} {p' : PS} {k' : KS} (hr : GetR k p b n re im f e p' k') :
    PKI s st (m + 1) k' p' ∧ (e = 0 → ∃ (j : Nat) (x : PSl), j ≠ 0 ∧ f = (j : Int) ∧ p'.sl[j]? = some x ∧ x.kd = 1 ∧ x.bl = b) := by
  rcases hr with ⟨_, _, e1, e2, e3⟩ | ⟨_, i, x, g1, g2, g3, g4, g5, g6⟩ | ⟨_, _, _, _, e1, e2, e3⟩ | ⟨_, _, i, x, g1, g2, ⟨g3, _, e1, e2, e3⟩ | ⟨g3, g4, g5, g6, g7⟩⟩
  · subst e2; subst e3
    exact ⟨h.mono (by omega), fun h => by omega⟩
  · subst g5; subst g6
    have hp := (List.findIdx?_eq_some_iff_getElem.1 g1)
    obtain ⟨x2, hx2, hb⟩ := idx_at g1
    rw [g2] at hx2; injection hx2 with hx2; subst hx2
    unfold hasB at hb
    simp at hb
    have hi0 : i ≠ 0 := by
      rintro rfl
      obtain ⟨z, hz, hk, _⟩ := h.h0
      rw [g2] at hz; injection hz with hz; subst hz
      omega
    have hpi := h.bd.pi x (List.mem_of_getElem? g2)
    refine ⟨h.turn hi0 g2 rfl ⟨by show 0 ≤ x.pi + 1; omega, by show x.pi + 1 ≤ _; omega⟩ (fun _ => ⟨hb.1, rfl⟩), fun _ => ⟨i, _, hi0, ?_, List.getElem?_set_self (List.getElem?_eq_some_iff.1 g2).1, hb.1, hb.2⟩⟩
    rw [g3]; exact h.sf i x g2
  · subst e2; subst e3
    exact ⟨h.take.mono (by omega), fun h => by omega⟩
  · subst e2; subst e3
    exact ⟨h.take.mono (by omega), fun h => by omega⟩
  · obtain ⟨hi0, hi3, hxx⟩ := h.took g1
    obtain ⟨q1, q2, q3⟩ := hxx x g2
    have hm : dMay k.d 1 b = 0 := by
      unfold dRead at g3
      split at g3
      · assumption
      · rename_i hz; exact absurd g3 hz
    have hd2 : (dRead k.d 1 b).2 = dSee k.d b := by unfold dRead; rw [if_pos hm]
    have hlen : (dSee k.d b).length = 256 := h.dk.see (dMay_ok hm).1 (dMay_ok hm).2.1
    subst g6; subst g7
    rw [hd2]
    have T := h.take.fill hi0 hi3 (x' := ⟨x.f, 1, b, x.pi + 1, n, re, im, true⟩) (l := dSee k.d b) (by omega) q1 ⟨by show 0 ≤ x.pi + 1; omega, by show x.pi + 1 ≤ _; omega⟩ (fl := (pTake k p).2.fills + 1) (.inr rfl) (fun _ => ⟨hm, hlen, rfl⟩)
    rw [← q1] at T
    refine ⟨T, fun _ => ⟨i, _, hi0, by rw [g4]; exact q1, List.getElem?_set_self (List.getElem?_eq_some_iff.1 g2).1, rfl, rfl⟩⟩
theorem PKI.head (h : PKI s st m k p) {l : List UInt8} {f e : Int} {p' : PS} {k' : KS} (hr : HeadR k p l f e p' k') : PKI s st (m + 1) k' p' := by
  rcases hr with ⟨_, _, _, e2, e3⟩ | ⟨_, _, _, _, e2, e3⟩ | ⟨hl, i, x, g1, g2, g3, g4, g5, g6⟩
  · subst e2; subst e3; exact h.mono (by omega)
  · subst e2; subst e3; exact h.take.mono (by omega)
  · obtain ⟨hi0, hi3, hxx⟩ := h.took g1
    obtain ⟨q1, q2, q3⟩ := hxx x g2
    subst g5; subst g6
    have T := h.take.fill hi0 hi3 (x' := ⟨x.f, 2, x.bl, 1, l.length, (partN l l.length).1, (partN l l.length).2, x.ma⟩) (l := l) hl q1 ⟨by show (0 : Int) ≤ 1; omega, by show (1 : Int) ≤ _; omega⟩ (fl := (pTake k p).2.fills) (.inl rfl) (fun h => by have : (2 : Int) = 1 := h; omega)
    rw [← q1] at T
    exact T
theorem PKI.unpin (h : PKI s st m k p) {f : Int} (hf : f ≠ 0) : PKI s st (m + 1) k (pUnpin p f).2 := by
  unfold pUnpin
  cases hi : p.sl.findIdx? (pinB f) with
  | none => exact h.mono (by omega)
  | some i =>
    obtain ⟨x, hx, hp⟩ := idx_at hi
    simp only
    rw [hx]
    simp only
    unfold pinB at hp
    simp at hp
    have hi0 : i ≠ 0 := by
      rintro rfl
      have := h.sf 0 x hx
      omega
    have hpi := h.bd.pi x (List.mem_of_getElem? hx)
    refine h.turn hi0 hx ?_ ?_ ?_
    · unfold PSl.less; split <;> rfl
    · unfold PSl.less; split
      · constructor
        · show (0 : Int) ≤ 0; omega
        · show (0 : Int) ≤ _; omega
      · constructor
        · show 0 ≤ x.pi - 1; omega
        · show x.pi - 1 ≤ _; omega
    · unfold PSl.less; split
      · intro h; have : (0 : Int) = 1 := h; omega
      · intro h; exact ⟨h, rfl⟩
theorem PKI.forget (h : PKI s st m k p) (bl : List Int) : PKI s st (m + 1) k (pForget p bl) := by
  have hf : ∀ x, (fgt bl x).f = x.f := fun x => by unfold fgt; split <;> (try split) <;> rfl
  have hat : ∀ (j : Nat) (x' : PSl), (pForget p bl).sl[j]? = some x' → ∃ x : PSl, p.sl[j]? = some x ∧ x' = fgt bl x := fun j x' hx' => by
    have : (p.sl.map (fgt bl))[j]? = some x' := hx'
    rw [List.getElem?_map] at this
    cases hx : p.sl[j]? with
    | none => rw [hx] at this; cases this
    | some x => rw [hx] at this; injection this with this; exact ⟨x, rfl, this.symm⟩
  refine ⟨kcnt_mono h.c (by omega), h.ho, ⟨fun z hz => ?_, h.bd.f0, by have := h.bd.f1; show p.fills ≤ ((m + 1 : Nat) : Int); omega⟩, h.dk, h.fr, by simp [pForget, h.n3], fun j x' hx' => ?_, ?_, h.b0, fun j x' hx' hk hs => ?_⟩
  · obtain ⟨x, hx, rfl⟩ := List.mem_map.1 hz
    have := h.bd.pi x hx
    unfold fgt
    split
    · split
      · constructor
        · show 0 ≤ x.pi; omega
        · show x.pi ≤ _; omega
      · constructor
        · show (0 : Int) ≤ 0; omega
        · show (0 : Int) ≤ _; omega
    · omega
  · obtain ⟨x, hx, rfl⟩ := hat j x' hx'
    rw [hf]; exact h.sf j x hx
  · obtain ⟨x, hx, h1, h2⟩ := h.h0
    refine ⟨fgt bl x, by show (p.sl.map (fgt bl))[0]? = _; rw [List.getElem?_map, hx]; rfl, ?_⟩
    unfold fgt
    rw [if_neg (by omega)]
    exact ⟨h1, h2⟩
  · obtain ⟨x, hx, rfl⟩ := hat j x' hx'
    unfold fgt at hk hs ⊢
    split at hk
    · split at hk
      · have : (3 : Int) = 1 := hk; omega
      · have : (0 : Int) = 1 := hk; omega
    · rename_i hc
      rw [if_neg hc] at hs ⊢
      exact h.bk j x hx hk hs
/-- A block is written anew. -/
theorem PKI.anew (h : PKI s st m k p) {a : Int} {l : List UInt8} {st' : Int → Bool} (hst : ∀ b, st' b = false → st b = false ∧ (b ≠ a)) (hl : (dWrite k.d 1 a l).2.ln.length ≤ m + 1) : PKI s st' (m + 1) { k with d := (dWrite k.d 1 a l).2 } p := by
  have hmay : ∀ b, dMay (dWrite k.d 1 a l).2 1 b = dMay k.d 1 b := fun b => by unfold dWrite; split <;> (try split) <;> rfl
  have hsee : ∀ b, b ≠ a → dSee (dWrite k.d 1 a l).2 b = dSee k.d b := fun b hb => by
    unfold dWrite
    split
    · split
      · unfold dSee lastOf
        simp only [List.reverse_append, List.reverse_cons, List.reverse_nil, List.nil_append, List.singleton_append, List.find?_cons]
        rw [show ((a == b) : Bool) = false by simp; exact fun h => hb h.symm]
      · rfl
    · rfl
  refine ⟨⟨hl, by have := h.c.nx; show k.nx ≤ _; omega, by have := h.c.c1; show k.f1 + k.q1.length ≤ _; omega, by have := h.c.c2; show k.f2 + k.q2.length ≤ _; omega, by have := h.c.co; show k.fo + k.qo.length ≤ _; omega, by have := h.c.dn; show k.dn ≤ _; omega, h.c.fl, fun y hy => by have := h.c.ho y hy; omega⟩, h.ho, h.bd.mono (by omega), h.dk.write 1 a l, h.fr, h.n3, h.sf, h.h0, h.b0, fun j x hx hk hs => ?_⟩
  obtain ⟨s1, s2⟩ := hst x.bl hs
  obtain ⟨q1, y, hy, q2⟩ := h.bk j x hx hk s1
  refine ⟨by rw [hmay]; exact q1, y, hy, ?_⟩
  show y.bs = dSee (dWrite k.d 1 a l).2 x.bl
  rw [hsee _ s2]; exact q2
theorem PKI.weak (h : PKI s st m k p) {st' : Int → Bool} (hst : ∀ b, st' b = false → st b = false) : PKI s st' m k p := ⟨h.c, h.ho, h.bd, h.dk, h.fr, h.n3, h.sf, h.h0, h.b0, fun j x hx hk hs => h.bk j x hx hk (hst _ hs)⟩
theorem PKI.pins (h : PKI s st m k p) : pPins p 0 = 1 := by
  obtain ⟨x, hx, h1, h2⟩ := h.h0
  have hf : x.f = 0 := h.sf 0 x hx
  unfold pPins
  have hi : p.sl.findIdx? (pinB 0) = some 0 := by
    rw [List.findIdx?_eq_some_iff_getElem]
    obtain ⟨hl, hxe⟩ := List.getElem?_eq_some_iff.1 hx
    exact ⟨hl, by rw [hxe]; unfold pinB; simp [hf, h2], fun j hj => by omega⟩
  rw [hi]
  simp only
  rw [hx]
  exact h2
theorem tRead_at {fs : List Fr} {j : Nat} {y : Fr} (hy : fs[j]? = some y) (ho : y.ow = 1) {n : Int} (h0 : 0 ≤ n) (h1 : n ≤ 256) : tRead fs 1 j 0 n = (0, y.bs.take n.toNat) := by
  have hf : fat fs (j : Int) = some y := by unfold fat; rw [if_pos (by omega)]; simpa using hy
  have e1 : ownE fs 1 j = 0 := by unfold ownE; rw [if_pos (by rfl), hf]; simp [ho]
  have e2 : spanB 0 n = true := by simp [spanB]; omega
  unfold tRead
  rw [if_pos e1, if_neg (by simp [e2]), hf]
  simp [cutB]
theorem PKI.read0 (h : PKI s st m k p) (hs : s.length ≤ 256) : tRead k.fs 1 0 0 s.length = (0, s) := by
  obtain ⟨y, hy, hb⟩ := h.b0
  obtain ⟨z, hz, ho, _⟩ := h.fr 0 (by omega)
  rw [hy] at hz; injection hz with hz; subst hz
  have := tRead_at hy ho (n := s.length) (by omega) (by omega)
  rw [show ((0 : Nat) : Int) = 0 from rfl] at this
  rw [this]
  simp [hb]
theorem PKI.readJ (h : PKI s st m k p) {j : Nat} {x : PSl} (hx : p.sl[j]? = some x) (hk : x.kd = 1) (hs : st x.bl = false) : tRead k.fs 1 j 0 256 = (0, (dRead k.d 1 x.bl).2) ∧ (dRead k.d 1 x.bl).1 = 0 := by
  obtain ⟨q1, y, hy, q2⟩ := h.bk j x hx hk hs
  have hj : j < 3 := by rw [← h.n3]; exact (List.getElem?_eq_some_iff.1 hx).1
  obtain ⟨z, hz, ho, hl⟩ := h.fr j hj
  rw [hy] at hz; injection hz with hz; subst hz
  have := tRead_at hy ho (n := 256) (by omega) (by omega)
  have hd : dRead k.d 1 x.bl = (0, dSee k.d x.bl) := by unfold dRead; rw [if_pos q1]
  rw [hd, this, q2]
  refine ⟨?_, rfl⟩
  rw [← q2]
  rw [List.take_of_length_le (by rw [hl]; omega)]
end
/-! ### PoolKeeps: the calls in the law's world. -/
section
open Go.RowKit Go.Shelf
set_option linter.unusedVariables false
set_option linter.unusedSimpArgs false
set_option maxRecDepth 100000
theorem fr_new {j : Nat} (hj : j < 3) : (fsN 4 3)[j]? = some f1 := by
  rcases (by omega : j = 0 ∨ j = 1 ∨ j = 2) with rfl | rfl | rfl <;> rfl
theorem f1_len : f1.bs.length = 256 := by kernel_rfl
theorem pk_take : pTake (kzi 4 12 3) ⟨psN 3, 0, 0⟩ = (some 0, ⟨psN 3, 0, 0⟩) := by
  unfold pTake
  have : (psN 3).findIdx? (tkB (kzi 4 12 3)) = some 0 := by
    show [PSl.e 0, PSl.e 1, PSl.e 2].findIdx? _ = _
    simp [List.findIdx?_cons, tkB, PSl.e, maB, hoz (show hoIn (kzi 4 12 3).fs 0 from fsN_hoz 4 3)]
  rw [this]
/-- The head that the law got. -/
theorem PKI.init {s : List UInt8} {st : Int → Bool} {f e : Int} {p' : PS} {k' : KS} (hd : (kzi 4 12 3).d.ok) (hs : s.length ≤ 256) (h : HeadR (kzi 4 12 3) ⟨psN 3, 0, 0⟩ s f e p' k') : f = 0 ∧ e = 0 ∧ PKI s st 1 k' p' := by
  rcases h with ⟨h, _⟩ | ⟨_, h, _⟩ | ⟨_, i, x, h1, h2, h3, h4, h5, h6⟩
  · omega
  · rw [pk_take] at h; cases h
  · rw [pk_take] at h1 h2 h5
    simp only [Option.some.injEq] at h1
    subst h1
    have hx : x = PSl.e 0 := by
      have : [PSl.e 0, PSl.e 1, PSl.e 2][0]? = some x := h2
      simpa using this.symm
    subst hx
    obtain ⟨re, hre⟩ : ∃ re, (partN s s.length).1 = re := ⟨_, rfl⟩
    obtain ⟨im, him⟩ : ∃ im, (partN s s.length).2 = im := ⟨_, rfl⟩
    rw [hre, him] at h5
    have h5' : p' = ⟨[⟨0, 2, 0, 1, s.length, re, im, false⟩, PSl.e 1, PSl.e 2], 0, 0⟩ := h5
    have hw := tWrite_ok (fs := fsN 4 3) (i := 0) (y := f1) rfl rfl (fsN_hoz 4 3) (l := s) hs
    have h6' : k' = { kzi 4 12 3 with fs := (fsN 4 3).set 0 { f1 with bs := putB f1.bs 0 s } } := by
      rw [h6]
      show KS.mk _ _ _ _ _ _ _ _ _ _ _ = _
      have e : (tWrite (kzi 4 12 3).fs 1 (PSl.e 0).f 0 s).2 = (fsN 4 3).set 0 { f1 with bs := putB f1.bs 0 s } := by
        have := congrArg Prod.snd hw
        exact this
      rw [e]
    have hpl := putZ_len (bs := f1.bs) (l := s) f1_len hs
    refine ⟨h3, h4, ?_⟩
    subst h5'
    refine ⟨by rw [h6]; exact kcnt_mono (kw_cnt (kzi_cnt 4 12 3) _ _ _ _) (by omega), by rw [h6]; exact tWrite_ho (fsN_hoz 4 3), ⟨fun z hz => ?_, Int.le_refl 0, Int.zero_le_ofNat 1⟩, by rw [h6]; exact hd, fun j hj => ?_, rfl, fun j z hz => ?_, ⟨_, rfl, rfl, rfl⟩, ?_, fun j z hz hk _ => ?_⟩
    · simp at hz
      rcases hz with rfl | rfl | rfl <;> simp [PSl.e]
    · rw [h6']
      by_cases h0 : 0 = j
      · subst h0; exact ⟨_, rfl, rfl, hpl⟩
      · show ∃ y, ((fsN 4 3).set 0 _)[j]? = some y ∧ _
        rw [List.getElem?_set_ne h0, fr_new hj]
        exact ⟨_, rfl, rfl, f1_len⟩
    · have hj := (List.getElem?_eq_some_iff.1 hz).1
      simp at hj
      rcases (by omega : j = 0 ∨ j = 1 ∨ j = 2) with rfl | rfl | rfl <;> (simp at hz; subst hz; rfl)
    · rw [h6']
      exact ⟨_, rfl, by show (putB f1.bs 0 s).take _ = s; rw [putZ]; simp⟩
    · have hj := (List.getElem?_eq_some_iff.1 hz).1
      simp at hj
      rcases (by omega : j = 0 ∨ j = 1 ∨ j = 2) with rfl | rfl | rfl <;> (simp at hz; subst hz; simp [PSl.e] at hk)
/-- PoolKeeps' memory. -/
def PK (w wr : World) (B kg pg tb : Nat) (s : List UInt8) (st : Int → Bool) (m : Nat) : Prop :=
  ∃ ka pa k p, ka.g = kg ∧ pa.g = pg ∧ ka.bT = tb ∧ Kp [] w wr ∧ KPl wr B ka k pa p ∧ PKI s st m k p
/-- Behind a Get that told e and the frame f. -/
def PKg (w wr : World) (B kg pg tb : Nat) (s : List UInt8) (st : Int → Bool) (m : Nat) (b f e : Int) : Prop :=
  ∃ ka pa k p, ka.g = kg ∧ pa.g = pg ∧ ka.bT = tb ∧ Kp [] w wr ∧ KPl wr B ka k pa p ∧ PKI s st m k p ∧ (e = 0 → ∃ (j : Nat) (x : PSl), j ≠ 0 ∧ f = (j : Int) ∧ p.sl[j]? = some x ∧ x.kd = 1 ∧ x.bl = b)
/-- Behind the Read of what was got. -/
def PKr (w wr : World) (B kg pg tb : Nat) (s : List UInt8) (st : Int → Bool) (m : Nat) (b : Int) (L : List UInt8) : Prop :=
  ∃ ka pa k p, ka.g = kg ∧ pa.g = pg ∧ ka.bT = tb ∧ Kp [] w wr ∧ KPl wr B ka k pa p ∧ PKI s st m k p ∧ (st b = false → L = (dRead k.d 1 b).2)
section
variable {R : Ending → World → Prop} {w w1 w' : World} {B kg pg tb m : Nat} {s : List UInt8} {st : Int → Bool}
theorem PKg.f0 {b f : Int} (h : PKg w w1 B kg pg tb s st m b f 0) : (f == 0) = false := by
  obtain ⟨ka, pa, k, p, _, _, _, _, _, _, hj⟩ := h
  obtain ⟨j, x, h0, rfl, _⟩ := hj rfl
  simp; omega
theorem PKg.pk {b f e : Int} (h : PKg w w1 B kg pg tb s st m b f e) : PK w w1 B kg pg tb s st m := by
  obtain ⟨ka, pa, k, p, a, b, c, d, e, f, hj⟩ := h
  exact ⟨ka, pa, k, p, a, b, c, d, e, f⟩
theorem PK.mono (h : PK w w1 B kg pg tb s st m) {m' : Nat} {st' : Int → Bool} (hm : m ≤ m') (hst : ∀ b, st' b = false → st b = false) : PK w w1 B kg pg tb s st' m' := by
  obtain ⟨ka, pa, k, p, a, b, c, d, e, f⟩ := h
  exact ⟨ka, pa, k, p, a, b, c, d, e, (f.weak hst).mono hm⟩
theorem PK.kp (h : PK w w1 B kg pg tb s st m) : Kp [] w w1 := by obtain ⟨ka, pa, k, p, a, b, c, d, e, f⟩ := h; exact d
theorem PK.off0 (h : PK w w1 B kg pg tb s st m) (hk : Kp [] w1 w') : PK w w' B kg pg tb s st m := by
  obtain ⟨ka, pa, k, p, a, b, c, d, e, f⟩ := h
  exact ⟨ka, pa, k, p, a, b, c, d.trans hk, e.off0 hk, f⟩
theorem PKg.off0 {b f e : Int} (h : PKg w w1 B kg pg tb s st m b f e) (hk : Kp [] w1 w') : PKg w w' B kg pg tb s st m b f e := by
  obtain ⟨ka, pa, k, p, a, b, c, d, e, f, g⟩ := h
  exact ⟨ka, pa, k, p, a, b, c, d.trans hk, e.off0 hk, f, g⟩
theorem PKr.off0 {b : Int} {L : List UInt8} (h : PKr w w1 B kg pg tb s st m b L) (hk : Kp [] w1 w') : PKr w w' B kg pg tb s st m b L := by
  obtain ⟨ka, pa, k, p, a, b, c, d, e, f, g⟩ := h
  exact ⟨ka, pa, k, p, a, b, c, d.trans hk, e.off0 hk, f, g⟩
theorem pk_get (hB : w.heap.size ≤ B) (hw : Hid (PK w w1 B kg pg tb s st m)) (hm : m ≤ 9000) (b n : Int) (re im : Nat)
    (h : ∀ f e w', Hid (PKg w w' B kg pg tb s st (m + 1) b f e) → Hid (Pq B w1 w') → R (.returned (.tuple #[.int .i64 f, .int .i64 e])) w') : Calls Try.prog 32 #[.pointer (some ⟨pg, 0, none⟩), .int .i64 b, .int .i64 n, .complex .f64 re im] w1 R := by
  obtain ⟨ka, pa, k, p, rfl, rfl, rfl, k1, z, c⟩ := hw.out
  refine pget_any z c.bd c.c (by omega) b n re im (fun f e p2 k' ka' w' hr q z' e1 e2 => ?_)
  have hg := c.get hr.out
  exact h f e w' (Lib.hid ⟨ka', pa, k', p2, e1, rfl, e2, q.old k1 hB, z', hg.1, hg.2⟩) (Lib.hid q)
theorem pk_head (hB : w.heap.size ≤ B) (hw : Hid (PK w w1 B kg pg tb s st m)) (hm : m ≤ 9000) {A : Option Addr} {n c : Nat} {l : List UInt8} (hr : Tb w1 5 A (bts l)) (hl : l.length = n) (hn : n ≤ 1000000) (hA : A = none → n = 0 ∧ c = 0)
    (h : ∀ v w', Hid (PK w w' B kg pg tb s st (m + 1)) → R (.returned v) w') : Calls Try.prog 30 #[.pointer (some ⟨pg, 0, none⟩), .slice A n c] w1 R := by
  obtain ⟨ka, pa, k, p, rfl, rfl, rfl, k1, z, c⟩ := hw.out
  refine phead_any z c.c (by omega) hr hl hn hA (fun f e p2 k' ka' w' hr q z' e1 e2 => ?_)
  exact h _ w' (Lib.hid ⟨ka', pa, k', p2, e1, rfl, e2, q.old k1 hB, z', c.head hr.out⟩)
theorem pk_unpin (hB : w.heap.size ≤ B) (hw : Hid (PK w w1 B kg pg tb s st m)) (hm : m ≤ 9000) (f : Int) (hf : (f == 0) = false)
    (h : ∀ v w', Hid (PK w w' B kg pg tb s st (m + 1)) → R (.returned v) w') : Calls Try.prog 38 #[.pointer (some ⟨pg, 0, none⟩), .int .i64 f] w1 R := by
  obtain ⟨ka, pa, k, p, rfl, rfl, rfl, k1, z, c⟩ := hw.out
  refine punpin_any z c.bd (by omega) f (fun w' q z' => ?_)
  exact h _ w' (Lib.hid ⟨ka, pa, k, _, rfl, rfl, rfl, q.old k1 hB, z', c.unpin (by simpa using hf)⟩)
theorem pk_fgt (hB : w.heap.size ≤ B) (hw : Hid (PK w w1 B kg pg tb s st m)) {A : Option Addr} {n c : Nat} {bl : List Int} (hr : Tb w1 3 A (ints bl)) (hl : bl.length = n) (hn : n ≤ 1000000)
    (h : ∀ w', Hid (PK w w' B kg pg tb s st (m + 1)) → R (.returned (.tuple #[])) w') : Calls Try.prog 39 #[.pointer (some ⟨pg, 0, none⟩), .slice A n c] w1 R := by
  obtain ⟨ka, pa, k, p, rfl, rfl, rfl, k1, z, c⟩ := hw.out
  refine pfgt_any z hr hl hn (fun w' q z' => ?_)
  exact h w' (Lib.hid ⟨ka, pa, k, _, rfl, rfl, rfl, q.old k1 hB, z', c.forget bl⟩)
theorem pk_pins0 (hw : Hid (PK w w1 B kg pg tb s st m)) (h : ∀ w', Hid (PK w w' B kg pg tb s st m) → R (.returned (.int .i64 1)) w') : Calls Try.prog 36 #[.pointer (some ⟨pg, 0, none⟩), .int .i64 0] w1 R := by
  obtain ⟨ka, pa, k, p, rfl, rfl, rfl, k1, z, c⟩ := hw.out
  refine ppins_any z 0 (fun w' k' => ?_)
  rw [c.pins]
  exact h w' (Lib.hid ⟨ka, pa, k, p, rfl, rfl, rfl, k1.trans k', z.off0 k', c⟩)
theorem pk_pins (hw : Hid (PK w w1 B kg pg tb s st m)) (f : Int) (h : ∀ n w', Hid (Kp [] w1 w' ∧ PK w w' B kg pg tb s st m) → R (.returned (.int .i64 n)) w') : Calls Try.prog 36 #[.pointer (some ⟨pg, 0, none⟩), .int .i64 f] w1 R := by
  obtain ⟨ka, pa, k, p, rfl, rfl, rfl, k1, z, c⟩ := hw.out
  exact ppins_any z f (fun w' k' => h _ w' (Lib.hid ⟨k', ka, pa, k, p, rfl, rfl, rfl, k1.trans k', z.off0 k', c⟩))
theorem pk_tab (hw : Hid (PK w w1 B kg pg tb s st m)) (h : R (.returned (.pointer (some ⟨tb, 0, none⟩))) w1) : Calls Try.prog 31 #[.pointer (some ⟨kg, 0, none⟩)] w1 R := by
  obtain ⟨ka, pa, k, p, rfl, rfl, rfl, k1, z, c⟩ := hw.out
  exact ktab_any z.kn h
theorem pk_read0 (hw : Hid (PK w w1 B kg pg tb s st m)) {n : Nat} (hs : s.length = n) (hn : n ≤ 256)
    (h : ∀ A c w', Hid (PK w w' B kg pg tb s st m ∧ Tb w' 5 A (bts s)) → R (.returned (.tuple #[.slice A n c, .int .i64 0])) w') : Calls Try.prog 34 #[.pointer (some ⟨tb, 0, none⟩), .int .i64 1, .int .i64 0, .int .i64 0, .int .i64 n] w1 R := by
  obtain ⟨ka, pa, k, p, rfl, rfl, rfl, k1, z, c⟩ := hw.out
  subst hs
  refine read_is z.kn.t 1 0 0 s.length (c.read0 hn) (fun A c2 w' kk o b => ?_)
  exact h A c2 w' (Lib.hid ⟨⟨ka, pa, k, p, rfl, rfl, rfl, k1.trans kk, z.off0 kk, c⟩, o.tb⟩)
theorem pk_readG {b f : Int} (hw : Hid (PKg w w1 B kg pg tb s st m b f 0))
    (h : ∀ L e A n c w', Hid (PKr w w' B kg pg tb s st m b L ∧ L.length = n ∧ Tb w' 5 A (bts L)) → Hid (Kp [] w1 w') → R (.returned (.tuple #[.slice A n c, .int .i64 e])) w') : Calls Try.prog 34 #[.pointer (some ⟨tb, 0, none⟩), .int .i64 1, .int .i64 f, .int .i64 0, .int .i64 256] w1 R := by
  obtain ⟨ka, pa, k, p, rfl, rfl, rfl, k1, z, c, hj⟩ := hw.out
  obtain ⟨j, x, h0, rfl, hx, hk, rfl⟩ := hj rfl
  refine read_any z.kn.t 1 j 0 256 (fun e l A c2 w' hq kk o b => ?_)
  exact h l e A _ c2 w' (Lib.hid ⟨⟨ka, pa, k, p, rfl, rfl, rfl, k1.trans kk, z.off0 kk, c, fun hs => by
    have := hq.out.symm.trans (c.readJ hx hk hs).1
    exact congrArg Prod.snd this⟩, rfl, o.tb⟩) (Lib.hid kk)
theorem pk_call6 (hB : w.heap.size ≤ B) {b : Int} {L : List UInt8} {A : Option Addr} (hw : Hid (PKr w w1 B kg pg tb s st m b L ∧ Tb w1 5 A (bts L))) (hm : m ≤ 9000)
    (h : ∀ L2 A2 n2 c2 e w', Hid (PK w w' B kg pg tb s st (m + 1) ∧ (st b = false → L = L2) ∧ L2.length = n2 ∧ Tb w' 5 A (bts L) ∧ Tb w' 5 A2 (bts L2)) → Hid (Kq B w1 w') → R (.returned (.tuple #[.agg #[.int .i64 0, .slice A2 n2 c2], .int .i64 e])) w') :
    Calls Try.prog 35 #[.pointer (some ⟨kg, 0, none⟩), .agg #[.int .i64 6, .int .i64 1, .int .i64 b, .int .i64 0, .int .i64 0, .slice none 0 0, .slice none 0 0, .slice none 0 0]] w1 R := by
  obtain ⟨⟨ka, pa, k, p, rfl, rfl, rfl, k1, z, c, hL⟩, hT⟩ := hw.out
  refine kcall_any (x := ⟨6, 1, b, 0, 0, none, 0, 0, [], none, 0, 0, [], none, 0, 0, []⟩) z.kn c.c (by omega) ⟨Tb.nil, rfl, by show 0 ≤ _; omega, fun _ => ⟨rfl, rfl⟩, Tb.nil, rfl, by show 0 ≤ _; omega, fun _ => ⟨rfl, rfl⟩, by simp, Tb.nil, rfl, by show 0 ≤ _; omega, fun _ => ⟨rfl, rfl⟩, by simp⟩ (fun nn AA len c2 l' e k' a' w2 hst q n9 hl ht => ?_)
  have h1 := hst.out
  unfold kStep at h1
  rw [if_neg (by simp), if_pos (by simp)] at h1
  unfold kFB at h1
  rw [if_neg (by simp), if_neg (by simp), if_neg (by simp), if_neg (by simp), if_neg (by simp), if_pos rfl] at h1
  injection h1 with e1 e2 e3 e4
  subst e1; subst e3; subst e4
  have z' := z.kcall q n9
  exact h l' AA len c2 _ w2 (Lib.hid ⟨⟨a', pa, k, p, n9.2.1, rfl, n9.2.2, q.old k1 hB, z', c.mono (by omega)⟩, fun hs => (hL hs).trans e2, hl, q.tb hT (by decide), ht⟩) (Lib.hid q)
theorem pk_call7 (hB : w.heap.size ≤ B) {a : Int} {L : List UInt8} {g c5 : Nat} {st' : Int → Bool} (hw : Hid (PK w w1 B kg pg tb s st m)) (hm : m ≤ 9000) (hT : Tb w1 5 (some ⟨g, 0, none⟩) (bts L)) (hL : L.length = 256) (hst : ∀ b, st' b = false → st b = false ∧ b ≠ a)
    (h : ∀ v w', Hid (PK w w' B kg pg tb s st' (m + 1)) → R (.returned v) w') :
    Calls Try.prog 35 #[.pointer (some ⟨kg, 0, none⟩), .agg #[.int .i64 7, .int .i64 1, .int .i64 a, .int .i64 0, .int .i64 0, .slice (some ⟨g, 0, none⟩) 256 c5, .slice none 0 0, .slice none 0 0]] w1 R := by
  obtain ⟨ka, pa, k, p, rfl, rfl, rfl, k1, z, c⟩ := hw.out
  refine kcall_any (x := ⟨7, 1, a, 0, 0, some ⟨g, 0, none⟩, 256, c5, L, none, 0, 0, [], none, 0, 0, []⟩) z.kn c.c (by omega) ⟨hT, hL, by show 256 ≤ _; omega, fun h => (by cases h), Tb.nil, rfl, by show 0 ≤ _; omega, fun _ => ⟨rfl, rfl⟩, by simp, Tb.nil, rfl, by show 0 ≤ _; omega, fun _ => ⟨rfl, rfl⟩, by simp⟩ (fun n1 A len cc l e k' a' w' hs q n9 hl ht => ?_)
  have h1 := hs.out
  have hcn := kStep_cnt hs.out c.c z.kn.o.room
  unfold kStep at h1
  rw [if_neg (by simp), if_pos (by simp)] at h1
  unfold kFB at h1
  rw [if_neg (by simp), if_neg (by simp), if_neg (by simp), if_neg (by simp), if_neg (by simp), if_neg (by simp), if_pos rfl] at h1
  injection h1 with e1 e2 e3 e4
  subst e4
  exact h _ w' (Lib.hid ⟨a', pa, _, p, n9.2.1, rfl, n9.2.2, q.old k1 hB, z.kcall q n9, c.anew hst hcn.ln⟩)
/-- One step more was looked at. -/
theorem stB_step {l : List PAct} {i : Nat} {x : PAct} (hx : l[i]? = some x) (b : Int) (h : stB (l.take (i + 1)) b = false) : stB (l.take i) b = false ∧ (x.k == 8 && x.a == b) = false := by
  unfold stB at h ⊢
  rw [List.take_add_one, hx] at h
  simpa using h
end
end
end Go.Proofs.Ythlmfjfkkndboaa
