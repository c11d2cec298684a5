/- Typed blocks: data that no call turns, since nothing that turns has its type. And a disk's plain law. KernNil: the example. Kernel.Call at Op 2; the example of pantlerlaw09. -/
import Derived.Test.YtedblbpmlbjnhaaGreatPE3
import Derived.Deep.RegionHeldLaw
namespace Go.Proofs.YtedblbpmlbjnhaaGreat
/-! ### Typed blocks: data that no call turns, since nothing that turns has its type. And a disk's plain law. -/
section
open Go.RowKit Go.Shelf
set_option linter.unusedVariables false
set_option linter.unusedSimpArgs false
set_option maxRecDepth 100000

/-- A block of cells, whatever mark it bears. -/
def Bz (w : World) (b t : Nat) (cs : List Value) : Prop := ∃ z, w.heap[b]? = some (.cells cs.toArray t z)
/-- What a block's type is. -/
def Ty (w : World) (b t : Nat) : Prop := ∃ cs, Bz w b t cs
section
variable {w w' : World} {b b' t t' : Nat} {S : List Nat} {A : Option Addr} {xs : List Value}
theorem Bk.bz {cs : List Value} (h : Bk w b t cs) : Bz w b t cs := ⟨_, h⟩
theorem Bz.lt {cs : List Value} (h : Bz w b t cs) : b < w.heap.size := by
  obtain ⟨z, h⟩ := h
  exact (Array.getElem?_eq_some_iff.1 h).1
theorem Bz.kp {cs : List Value} (h : Bz w b t cs) (hk : Kp S w w') (hn : b ∉ S) : Bz w' b t cs := by
  have hl := h.lt
  obtain ⟨z, h⟩ := h
  exact ⟨z, (hk.block b hl hn).trans h⟩
theorem Bz.cell {cs : List Value} (h : Bz w b t cs) (i : Nat) : w.cell? ⟨b, i, none⟩ = cs[i]? := by
  obtain ⟨z, h⟩ := h
  rw [cell_of_row w b i _ t z h]; simp
theorem Bk.ty {cs : List Value} (h : Bk w b t cs) : Ty w b t := ⟨cs, h.bz⟩
theorem Ty.lt (h : Ty w b t) : b < w.heap.size := by obtain ⟨_, h⟩ := h; exact h.lt
theorem Ty.ne_ (h : Ty w b t) (h' : Ty w b' t') (hne : t ≠ t') : b ≠ b' := by
  obtain ⟨_, _, h⟩ := h; obtain ⟨_, _, h'⟩ := h'
  rintro rfl
  rw [h] at h'
  injection h' with h'
  injection h' with _ ht
  exact hne ht
theorem Ow.ty {e sz n c : Nat} (h : Ow w e sz A n c xs) : ∀ b ∈ bks A, Ty w b e := by
  intro b hb
  rcases h.2 with ⟨hv, _⟩ | ⟨g, cap, cur, hv, _, hg, _⟩
  · injection hv with hA; subst hA; simp [bks] at hb
  · injection hv with hA; subst hA; simp [bks] at hb; subst hb
    exact ⟨cur.toList, (0, 0), by simpa using hg⟩
theorem Ow.nilA {e sz n c : Nat} (h : Ow w e sz A n c xs) : A = none → n = 0 ∧ c = 0 := by
  intro hA
  rcases h.2 with ⟨hv, h0⟩ | ⟨g, cap, cur, hv, _⟩
  · injection hv with _ _ hc; exact ⟨h0, hc⟩
  · injection hv with hA' _ _; subst hA; cases hA'
/-- All blocks of a set that are there have types other than e. -/
def Off (w : World) (S : List Nat) (e : Nat) : Prop := ∀ s ∈ S, s < w.heap.size → ∃ t, Ty w s t ∧ t ≠ e
/-- A slice of a block of type e that reads xs. -/
def Tb (w : World) (e : Nat) (A : Option Addr) (xs : List Value) : Prop := xs ≠ [] → ∃ b off cs, A = some ⟨b, off, none⟩ ∧ Bz w b e cs ∧ ∀ j u, xs[j]? = some u → cs[off + j]? = some u
theorem Tb.nil {e : Nat} : Tb w e A [] := fun h => absurd rfl h
theorem Tb.kp {e : Nat} (h : Tb w e A xs) (hk : Kp S w w') (hS : Off w S e) : Tb w' e A xs := fun hx => by
  obtain ⟨b, off, cs, rfl, hb, hc⟩ := h hx
  refine ⟨b, off, cs, rfl, hb.kp hk (fun hm => ?_), hc⟩
  obtain ⟨t, ht, hne⟩ := hS b hm hb.lt
  exact ht.ne_ ⟨_, hb⟩ hne rfl
theorem Tb.rd {e : Nat} (h : Tb w e A xs) {N : List Nat} (hS : Off w N e) : Rd w N A xs := fun hx => by
  obtain ⟨b, off, cs, rfl, hb, hc⟩ := h hx
  refine ⟨b, off, rfl, fun hm => ?_, hb.lt, fun j u hu => by rw [hb.cell]; exact hc j u hu⟩
  obtain ⟨t, ht, hne⟩ := hS b hm hb.lt
  exact ht.ne_ ⟨_, hb⟩ hne rfl
theorem Tb.rd0 {e : Nat} (h : Tb w e A xs) : Rd w [] A xs := h.rd (by simp [Off])
theorem Ow.tb {e sz n c : Nat} (h : Ow w e sz A n c xs) : Tb w e A xs := fun hx => by
  rcases h.2 with ⟨_, h0⟩ | ⟨g, cap, cur, hv, _, hg, h1, h2, h3, h4⟩
  · have := h.1; subst h0; simp at this; exact absurd this hx
  · injection hv with hA; subst hA
    refine ⟨g, 0, cur.toList, rfl, ⟨(0, 0), by simpa using hg⟩, fun j u hu => ?_⟩
    rw [← h4, List.getElem?_take] at hu
    split at hu
    · rw [Nat.zero_add]; exact hu
    · cases hu
theorem Tb.fresh {e : Nat} {s : ByteArray} (w : World) {g : Nat} (hg : g = w.heap.size) : Tb (Lib.bytesWorld w e s) e (some ⟨g, 0, none⟩) (bts s.data.toList) := fun _ => by
  subst hg
  refine ⟨w.heap.size, 0, (Lib.bytesCells w e s).toList, rfl, ⟨_, by rw [Array.toArray_toList]; exact Lib.bytesWorld_at_new w e s⟩, fun j u hu => ?_⟩
  have hr := rd_bytesWorld (N := []) w e s rfl (by simp) (by intro e; rw [e] at hu; simp at hu)
  obtain ⟨b', off', he, _, _, hc⟩ := hr
  injection he with he
  injection he with h1 h2
  subst h1; subst h2
  rw [← hc j u hu]
  simp [World.cell?, Lib.bytesWorld_at_new]
theorem Off.nil (w : World) (e : Nat) : Off w [] e := by simp [Off]
theorem Off.one {s t e : Nat} (h : Ty w s t) (hne : t ≠ e) : Off w [s] e := by
  intro x hx _
  simp at hx; subst hx
  exact ⟨t, h, hne⟩
theorem Off.app {S' : List Nat} {e : Nat} (h : Off w S e) (h' : Off w S' e) : Off w (S ++ S') e := by
  intro x hx hl
  rcases List.mem_append.1 hx with hx | hx
  · exact h x hx hl
  · exact h' x hx hl
theorem Off.bks {e t : Nat} (h : ∀ b ∈ bks A, Ty w b t) (hne : t ≠ e) : Off w (bks A) e := fun s hs _ => ⟨t, h s hs, hne⟩
/-- A block that is not of the set, by its type. -/
theorem Off.nin {e : Nat} (h : Off w S e) (hb : Ty w b e) : b ∉ S := fun hm => by
  obtain ⟨t, ht, hne⟩ := h b hm hb.lt
  exact ht.ne_ hb hne rfl
theorem Bk.off {cs : List Value} (h : Bk w b t cs) (hk : Kp S w w') (hS : Off w S t) : Bk w' b t cs := h.kp hk (hS.nin h.ty)
theorem Ow.off {e sz n c : Nat} (h : Ow w e sz A n c xs) (hk : Kp S w w') (hS : Off w S e) : Ow w' e sz A n c xs := h.kp hk fun b hb => hS.nin (h.ty b hb)
end

/-! ### a disk, in plain words -/
/-- A write that waits. -/
structure Wr where
  b : Int
  s : List UInt8
structure DkS where
  bl : List (List UInt8)
  ow : List Int
  ln : List Wr
  off : Bool := false
  arm : Bool := false
  left : Int := 0
def DkS.n (d : DkS) : Nat := d.bl.length
def dMay (d : DkS) (env b : Int) : Int :=
  if d.off = true then 30 else if b < 0 ∨ (d.bl.length : Int) ≤ b then 31 else match d.ow[b.toNat]? with | none => 31 | some o => if o = 0 ∨ o ≠ env then 20 else 0
def lastOf (l : List Wr) (b : Int) : Option (List UInt8) := (l.reverse.find? (fun x => x.b == b)).map (·.s)
def dSee (d : DkS) (b : Int) : List UInt8 := match lastOf d.ln b with | some s => s | none => (d.bl[b.toNat]?).getD []
def dRead (d : DkS) (env b : Int) : Int × List UInt8 := if dMay d env b = 0 then (0, dSee d b) else (dMay d env b, [])
def dWrite (d : DkS) (env b : Int) (s : List UInt8) : Int × DkS :=
  if dMay d env b = 0 then if s.length = 256 then
    if d.arm = true then if d.left = 0 then (30, { d with off := true, arm := false }) else (0, { d with left := d.left - 1, ln := d.ln ++ [⟨b, s⟩] })
    else (0, { d with ln := d.ln ++ [⟨b, s⟩] })
  else (1, d) else (dMay d env b, d)
def dSet (bl : List (List UInt8)) (x : Wr) : List (List UInt8) := bl.set x.b.toNat x.s
def dSync (d : DkS) : DkS := { d with bl := d.ln.foldl dSet d.bl, ln := [] }
/-- Sync: the power may be off. -/
def dSyncE (d : DkS) : Int × DkS := if d.off = true then (30, d) else (0, dSync d)
/-- The first writes become durable. -/
def dSettle (d : DkS) (n : Nat) : DkS := { d with bl := (d.ln.take n).foldl dSet d.bl, ln := [] }
theorem dSettle_all (d : DkS) : dSettle d d.ln.length = dSync d := by unfold dSettle dSync; rw [List.take_length]
def dArm (d : DkS) (k : Int) : DkS := { d with arm := decide (0 ≤ k), left := k }
def dCut (d : DkS) : DkS := { d with off := true, arm := false }
def dRevive (d : DkS) (k : Int) : Int × DkS := if d.off = true then (0, { dSettle d (min (max k 0).toNat d.ln.length) with off := false }) else (21, d)
def pcells (s : List UInt8) : List Value := fit 256 (bts s)
theorem pcells_len (s : List UInt8) : (pcells s).length = 256 := fit_len _ _
theorem pcells_eq {s : List UInt8} (h : s.length = 256) : pcells s = bts s := fit_eq (by rw [bts_len, h])
def wcells (x : Wr) : List Value := fit 257 (.int .i64 x.b :: bts x.s)
theorem wcells_len (x : Wr) : (wcells x).length = 257 := fit_len _ _
theorem wcells_eq {x : Wr} (h : x.s.length = 256) : wcells x = .int .i64 x.b :: bts x.s := fit_eq (by simp [bts_len, h])
structure DkS.ok (d : DkS) : Prop where
  n1 : d.bl.length ≤ 512
  ow : d.ow.length = d.bl.length
  pg : ∀ s ∈ d.bl, s.length = 256
  ln : ∀ x ∈ d.ln, 0 ≤ x.b ∧ x.b < d.bl.length ∧ x.s.length = 256
  lf : -9223372036854775808 ≤ d.left ∧ d.left ≤ 9223372036854775807
  ar : d.arm = true → 0 ≤ d.left
theorem dSet_len (l : List Wr) : ∀ bl : List (List UInt8), (l.foldl dSet bl).length = bl.length := by
  induction l with
  | nil => intro bl; rfl
  | cons x l ih => intro bl; rw [List.foldl_cons, ih]; simp [dSet]
theorem dSet_pg (l : List Wr) : ∀ bl : List (List UInt8), (∀ s ∈ bl, s.length = 256) → (∀ x ∈ l, x.s.length = 256) → ∀ s ∈ l.foldl dSet bl, s.length = 256 := by
  induction l with
  | nil => intro bl h _; exact h
  | cons x l ih =>
    intro bl h hx
    rw [List.foldl_cons]
    refine ih _ ?_ (fun y hy => hx y (by simp [hy]))
    intro s hs
    rcases mem_set hs with rfl | hs
    · exact hx x (by simp)
    · exact h s hs
theorem dMay_ok {d : DkS} {env b : Int} (h : dMay d env b = 0) : 0 ≤ b ∧ b < d.bl.length ∧ d.ow[b.toNat]? = some env ∧ env ≠ 0 := by
  unfold dMay at h
  split at h
  · omega
  · split at h
    · omega
    · split at h
      · omega
      · rename_i o ho
        split at h
        · omega
        · exact ⟨by omega, by omega, by rw [ho]; congr 1; omega, by omega⟩
theorem DkS.ok.write {d : DkS} (h : d.ok) (env b : Int) (s : List UInt8) : (dWrite d env b s).2.ok := by
  unfold dWrite
  split
  · rename_i hm
    have ⟨h1, h2, _⟩ := dMay_ok hm
    split
    · rename_i hs
      have hl : ∀ x : Wr, x ∈ d.ln ++ [⟨b, s⟩] → 0 ≤ x.b ∧ x.b < (d.bl.length : Int) ∧ x.s.length = 256 := by
        intro x hx
        simp at hx
        rcases hx with hx | rfl
        · exact h.ln x hx
        · exact ⟨h1, h2, hs⟩
      split
      · rename_i ha
        split
        · exact ⟨h.n1, h.ow, h.pg, h.ln, h.lf, fun e => by cases e⟩
        · have h3 := h.ar ha
          have h4 := h.lf
          exact ⟨h.n1, h.ow, h.pg, hl, by simp only; omega, fun _ => by simp only; omega⟩
      · exact ⟨h.n1, h.ow, h.pg, hl, h.lf, h.ar⟩
    · exact h
  · exact h
theorem DkS.ok.settle {d : DkS} (h : d.ok) (n : Nat) : (dSettle d n).ok :=
  ⟨by simpa [dSettle, dSet_len] using h.n1, by simpa [dSettle, dSet_len] using h.ow, dSet_pg _ _ h.pg (fun x hx => (h.ln x (List.mem_of_mem_take hx)).2.2), by simp [dSettle], h.lf, h.ar⟩
theorem DkS.ok.armed {d : DkS} (h : d.ok) {k : Int} (hk : -9223372036854775808 ≤ k ∧ k ≤ 9223372036854775807) : (dArm d k).ok := ⟨h.n1, h.ow, h.pg, h.ln, hk, fun e => by simpa [dArm] using e⟩
theorem DkS.ok.cut {d : DkS} (h : d.ok) : (dCut d).ok := ⟨h.n1, h.ow, h.pg, h.ln, h.lf, fun e => by cases e⟩
theorem DkS.ok.see {d : DkS} (h : d.ok) {b : Int} (h0 : 0 ≤ b) (h1 : b < d.bl.length) : (dSee d b).length = 256 := by
  unfold dSee lastOf
  cases hf : d.ln.reverse.find? (fun x => x.b == b) with
  | some x =>
    simp only [Option.map_some]
    exact (h.ln x (by simpa using List.mem_of_find?_eq_some hf)).2.2
  | none =>
    simp only [Option.map_none]
    have hl : b.toNat < d.bl.length := by omega
    rw [List.getElem?_eq_getElem hl]
    exact h.pg _ (List.getElem_mem hl)

/-- A disk that is on, in memory. -/
structure Dsk (w : World) (bD bL bO : Nat) (A : Option Addr) (c : Nat) (d : DkS) : Prop where
  dd : Bk w bD 163 [.slice (some ⟨bL, 0, none⟩) d.bl.length d.bl.length, .slice (some ⟨bO, 0, none⟩) d.bl.length d.bl.length, .slice A d.ln.length c, .bool d.off, .bool d.arm, .int .i64 d.left]
  l : Bk w bL 245 (d.bl.flatMap pcells)
  o : Bk w bO 3 (ints d.ow)
  ln : Ow w 247 257 A d.ln.length c (d.ln.flatMap wcells)
  ok : d.ok
theorem Dsk.off {w w' : World} {bD bL bO c : Nat} {A : Option Addr} {d : DkS} {S : List Nat} (h : Dsk w bD bL bO A c d) (hk : Kp S w w') (h1 : Off w S 163) (h2 : Off w S 245) (h3 : Off w S 3) (h4 : Off w S 247) : Dsk w' bD bL bO A c d :=
  ⟨h.dd.off hk h1, h.l.off hk h2, h.o.off hk h3, h.ln.off hk h4, h.ok⟩
end
/-! ### KernNil: the example. -/
section
open Go.RowKit Go.Shelf
set_option linter.unusedVariables false
set_option linter.unusedSimpArgs false
set_option maxRecDepth 100000

def fs4 : List Fr := List.replicate 4 fz
theorem bk2 {w : World} {g tt : Nat} {a b : Value} (h : Bk w g tt [a, b]) : (w.cell? ⟨g, 0, none⟩ = some a ∧ w.cell? ⟨g, 1, none⟩ = some b) ∧ (w.frozen? ⟨g, 0, none⟩ = false ∧ w.frozen? ⟨g, 1, none⟩ = false) := ⟨⟨h.cell 0, h.cell 1⟩, h.frozen 0, h.frozen 1⟩
set_option maxHeartbeats 1000000 in
theorem only_any {R : Ending → World → Prop} (n e : Int) (w : World) (h : ∀ w', Kp [] w w' → R (.returned (.tuple #[.agg #[.int .i64 n, .slice none 0 0], .int .i64 e])) w') : Calls Tryz.prog 104 #[.int .i64 n, .int .i64 e] w R := by
  have H := Lib.hid h
  clear h
  go_enter Tryz.func104, Tryz.ntmps104
  go_wp2
  exact bodyPost_ret (v := .tuple #[.agg #[.int .i64 n, .slice none 0 0], .int .i64 e]) (by simp [results, Tryz.results104, go_sem]; try rfl) rfl (H.out _ ((Kp.refl _ _).alloc _))
def callC (op env : Int) : Value := .agg #[.int .i64 op, .int .i64 env, .int .i64 0, .int .i64 0, .int .i64 0, .slice none 0 0, .slice none 0 0, .slice none 0 0]
end
/-! ### Kernel.Call at Op 2; the example of pantlerlaw09. -/
section
open Go.RowKit Go.Shelf
set_option linter.unusedVariables false
set_option linter.unusedSimpArgs false
set_option maxRecDepth 100000
end
end Go.Proofs.YtedblbpmlbjnhaaGreat
