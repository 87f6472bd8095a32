/- The statements' operations; live; LocksReads. Conditions: none. -/
import Derived.Test.YtmppjgddemlmdaaTbh
set_option linter.unusedVariables false
set_option linter.unusedSimpArgs false
namespace Go.Proofs.Ytmppjgddemlmdaa
open Go Go.Sx

/-! ### the chapter's examples -/
def kA : ByteArray := BA [97]
def kB : ByteArray := BA [97, 0]
theorem BA_toList (b : List UInt8) : (BA b).toList = b := by rw [ByteArray.toList_eq]; simp [BA]
theorem okAB : okR kA kB = true := by
  unfold okR slt
  rw [seq_eq]
  have e : kB ≠ BA [] := fun h => by have := congrArg ByteArray.size h; simp [kB, BA, ByteArray.size] at this
  simp [kA, kB, BA_toList, BA, ByteArray.size, Op.bytesLess]
theorem mtAB : meetsR kA kB kA kB = true := by
  unfold meetsR maxR leastR
  rw [slt_irrefl, slt_irrefl]
  simp [okAB]
def xA (n : Int) (b : Bool) : Ak := ⟨n, kA, kB, b⟩
theorem wAB (n m : Int) (a b : Bool) : wayA (xA n a) (xA m b) = (n != m && (a || b)) := by
  show (meetsR kA kB kA kB && (n != m && (a || b))) = _
  rw [mtAB, Bool.true_and]
theorem live1 : askA (xA 2 true) ⟨[], []⟩ = ((1, [], [], 0), ⟨[xA 2 true], []⟩) := by
  unfold askA
  rw [if_neg (show ¬ okR (xA 2 true).lo (xA 2 true).hi = false from by rw [show okR (xA 2 true).lo (xA 2 true).hi = true from okAB]; simp)]
  rfl
theorem live2 : askA (xA 3 false) ⟨[xA 2 true], []⟩ = ((3, [], [], 0), ⟨[xA 2 true], []⟩) := by
  unfold askA
  rw [if_neg (show ¬ okR (xA 3 false).lo (xA 3 false).hi = false from by rw [show okR (xA 3 false).lo (xA 3 false).hi = true from okAB]; simp), if_neg (by simp), if_neg (by simp [covA, xA]), if_neg (by simp)]
  rw [if_neg (by simp [wAB]), if_neg (by simp [firstA, wAB]; simp [xA])]
theorem live3 : askA (xA 1 false) ⟨[xA 2 true], []⟩ = ((2, [], [], 0), ⟨[xA 2 true], [xA 1 false]⟩) := by
  unfold askA
  rw [if_neg (show ¬ okR (xA 1 false).lo (xA 1 false).hi = false from by rw [show okR (xA 1 false).lo (xA 1 false).hi = true from okAB]; simp), if_neg (by simp), if_neg (by simp [covA, xA]), if_neg (by simp)]
  rw [if_neg (by simp [wAB]), if_pos (by simp [firstA, wAB]; simp [xA])]
  rfl
theorem live4 : askA (xA 1 false) ⟨[xA 2 true], [xA 1 false]⟩ = ((0, [], [], 4), ⟨[xA 2 true], [xA 1 false]⟩) := by
  unfold askA
  rw [if_neg (show ¬ okR (xA 1 false).lo (xA 1 false).hi = false from by rw [show okR (xA 1 false).lo (xA 1 false).hi = true from okAB]; simp), if_pos (by simp)]
theorem live5 : relA 2 ⟨[xA 2 true], [xA 1 false]⟩ = (([1], []), ⟨[xA 1 false], []⟩) := rfl

theorem toL_of {F : Nat → Prop} {w0 w w' : World} (h : Keeps [] w0 w) (k : KeepsP F w w') (hF : ∀ y, F y → w0.heap.size ≤ y) : Keeps [] w0 w' :=
  ((h.toP (F := F) (by simp)).same k).toL hF
theorem bx3 {lo hi : ByteArray} {wr : Bool} {K : Addr → Pr} {w : World} (h : ∀ b w1, w1.heap[b]? = some (.cells #[.string lo, .string hi, .bool wr] 30 (0, 0)) → w.heap.size ≤ b → Keeps [] w w1 → K ⟨b, 0, none⟩ w1) :
    New #[(.string (BA [])), (.string (BA [])), (.bool false)] 30 (fun a => St (a.add 0) (.string lo) <| St (a.add 1) (.string hi) <| St (a.add 2) (.bool wr) (K a)) w := by
  refine New_bx fun b w1 h1 n1 k1 => ?_
  simp only [add_of, Nat.reduceAdd]
  refine set_box h1 0 _ rfl (by simp) fun w2 h2 k2 => ?_
  refine set_box h2 1 _ rfl (by simp) fun w3 h3 k3 => ?_
  refine set_box h3 2 _ rfl (by simp) fun w4 h4 k4 => ?_
  exact h b w4 h4 n1 (kpx (kpx (kpx k1 k2 (by simpa using n1)) k3 (by simpa using n1)) k4 (by simpa using n1))

/-- A table of one's own: all its blocks are younger than w0, and nothing that w0 has is changed. -/
structure Own (w0 w : World) (t : Nat) (H : Nat → Prop) (s : TS) : Prop where
  at_ : TAt w t H s
  ok : TOk s
  young : ∀ y, H y → w0.heap.size ≤ y
  kept : Keeps [] w0 w
theorem Own.keeps0 {w0 w w' : World} {t : Nat} {H : Nat → Prop} {s : TS} (h : Own w0 w t H s) (k : Keeps [] w w') : Own w0 w' t H s := ⟨h.at_.keeps0 k, h.ok, h.young, kp0 h.kept k⟩
theorem Own.keeps {w0 w w' : World} {t : Nat} {H : Nat → Prop} {s : TS} {m : List Nat} (h : Own w0 w t H s) (k : Keeps m w w') (hm : ∀ y ∈ m, w0.heap.size ≤ y ∧ ¬ H y) : Own w0 w' t H s :=
  ⟨h.at_.keeps (k.toP (F := fun y => y ∈ m) (fun y hy => .inl hy)) (fun y hy hy' => (hm y hy').2 hy), h.ok, h.young, h.kept.trans k (fun y hy => .inr (hm y hy).1)⟩
theorem Own.not {w0 w : World} {t : Nat} {H : Nat → Prop} {s : TS} (h : Own w0 w t H s) {b : Nat} (hb : w.heap.size ≤ b) : w0.heap.size ≤ b ∧ ¬ H b := ⟨by have := h.kept.size; omega, fun hH => by have := h.at_.bl b hH; omega⟩
/-- A box of one's own is kept by a call of the table. -/
theorem nH_step {w : World} {H H' : Nat → Prop} {a : Nat} (hf : Fr H H' w) (ha : a < w.heap.size) (hn : ¬ H a) : ¬ H' a := fun h => (hf a h).elim hn (fun h => by omega)
theorem Own.left {w0 w w' : World} {t : Nat} {H : Nat → Prop} {s s' : TS} {a b : Sl} {g d : List Int} (h : Own w0 w t H s) (ho : TOk s') (hl : Left w w' t H s' a b g d) :
    ∃ H', Own w0 w' t H' s' ∧ Fr H H' w ∧ KeepsP H w w' ∧ SlC w' a 1 (cU g) ∧ SlC w' b 1 (cU d) ∧ (∀ y ∈ blk a, w.heap.size ≤ y ∧ ¬ H' y) ∧ (∀ y ∈ blk b, w.heap.size ≤ y ∧ ¬ H' y) ∧ (∀ y ∈ blk a, y ∉ blk b) := by
  obtain ⟨H', h1, h2, h3, h4, h5, h6, h7, h8⟩ := hl
  have s0 := h.kept.size
  refine ⟨H', ⟨h1, ho, fun y hy => (h2 y hy).elim (h.young y) (fun h => by omega), ?_⟩, h2, h3, h4, h5, h6, h7, h8⟩
  exact toL_of h.kept h3 h.young

theorem live_ok (w : World) : Cl Try.prog i_sumpterlaw16_live [] false [.sc .b] (fun r w' => r.1 = true ∧ Keeps [] w w') w := by
  refine Cl_gen fun R hR => ?_
  apply sumpterlaw16_live_call
  unfold sumpterlaw16_live
  refine Cl.mono (New_ok w) ?_
  rintro ⟨_, _⟩ w1 ⟨t, H, rfl, h1, y1, k1⟩
  have O : Own w w1 t H ⟨[], []⟩ := ⟨h1, ⟨List.Pairwise.nil, by simp⟩, y1, k1⟩
  clear h1 y1 k1
  dsimp only
  rw [show Option.isNone (some (⟨t, 0, none⟩ : Addr)) = false from rfl]
  simp only [Br_false]
  refine bx3 fun a w2 ha na k2 => ?_
  have la := hp_lt ha
  have naH := (O.not (b := a) na).2
  have O := O.keeps0 k2
  simp only [sxn, ha, sxl, Nat.reduceAdd]
  refine bx3 fun b w3 hb nb k3 => ?_
  have nbH := O.not nb
  have O := O.keeps0 k3
  have ha := k3.at ha (by simp)
  simp only [add_of, Nat.reduceAdd]
  refine set_box hb 2 _ rfl (by simp) fun w4 hb4 k4 => ?_
  have hab : a ∉ [b] := by simp; intro e; omega
  have hb4 : w4.heap[b]? = some (.cells #[.string kA, .string kB, .bool true] 30 (0, 0)) := hb4
  have ha4 : w4.heap[a]? = some (.cells #[.string kA, .string kB, .bool false] 30 (0, 0)) := k4.at ha hab
  have O := O.keeps k4 (by simpa using nbH)
  simp only [sxn, hb4, sxl, Nat.reduceAdd]
  refine Cl.mono (Ask_ok O.at_ O.ok (xA 2 true)) ?_
  rintro ⟨r1, g1, d1, e1, _⟩ w5 ⟨q1, q1', l1⟩
  rw [live1] at q1 q1' l1
  dsimp only at q1 q1' l1
  subst q1 q1'
  obtain ⟨H5, O5, f5, k5, _⟩ := O.left (by rw [← show (askA (xA 2 true) ⟨[], []⟩).2 = ⟨[xA 2 true], []⟩ from by rw [live1]]; exact askA_ok O.ok) l1
  have ha5 := k5.at ha4 naH
  have naH5 := nH_step f5 (hp_lt ha4) naH
  simp only [sxn, ha5, sxl, Nat.reduceAdd]
  refine Cl.mono (Ask_ok O5.at_ O5.ok (xA 3 false)) ?_
  rintro ⟨r2, g2, d2, e2, _⟩ w6 ⟨q2, q2', l2⟩
  rw [live2] at q2 q2' l2
  dsimp only at q2 q2' l2
  subst q2 q2'
  obtain ⟨H6, O6, f6, k6, _⟩ := O5.left (by rw [← show (askA (xA 3 false) ⟨[xA 2 true], []⟩).2 = ⟨[xA 2 true], []⟩ from by rw [live2]]; exact askA_ok O5.ok) l2
  have ha6 := k6.at ha5 naH5
  have naH6 := nH_step f6 (hp_lt ha5) naH5
  simp only [sxn, ha6, sxl, Nat.reduceAdd]
  refine Cl.mono (Ask_ok O6.at_ O6.ok (xA 1 false)) ?_
  rintro ⟨r3, g3, d3, e3, _⟩ w7 ⟨q3, q3', l3⟩
  rw [live3] at q3 q3' l3
  dsimp only at q3 q3' l3
  subst q3 q3'
  obtain ⟨H7, O7, f7, k7, _⟩ := O6.left (by rw [← show (askA (xA 1 false) ⟨[xA 2 true], []⟩).2 = ⟨[xA 2 true], [xA 1 false]⟩ from by rw [live3]]; exact askA_ok O6.ok) l3
  have ha7 := k7.at ha6 naH6
  have naH7 := nH_step f7 (hp_lt ha6) naH6
  simp only [sxn, ha7, sxl, Nat.reduceAdd]
  refine Cl.mono (Ask_ok O7.at_ O7.ok (xA 1 false)) ?_
  rintro ⟨r4, g4, d4, e4, _⟩ w8 ⟨q4, q4', l4⟩
  rw [live4] at q4 q4' l4
  dsimp only at q4 q4' l4
  subst q4 q4'
  obtain ⟨H8, O8, f8, k8, _⟩ := O7.left O7.ok l4
  refine Cl.mono (Release_ok O8.at_ O8.ok 2) ?_
  rintro ⟨g5, d5, _⟩ w9 l5
  rw [live5] at l5
  dsimp only at l5
  obtain ⟨H9, O9, f9, k9, hg9, hd9, _⟩ := O8.left (by rw [← show (relA 2 ⟨[xA 2 true], [xA 1 false]⟩).2 = ⟨[xA 1 false], []⟩ from by rw [live5]]; exact relA_ok O8.ok) l5
  dsimp only
  rw [show ((1 : Int) == 1) = true from rfl, show ((0 : Int) == 0) = true from rfl, show ((3 : Int) == 3) = true from rfl, show ((2 : Int) == 2) = true from rfl, show ((4 : Int) == 4) = true from rfl]
  simp only [Br_true]
  have hl9 := cU_slen hg9
  have hm9 := cU_slen hd9
  rw [hl9, hm9]
  rw [show ((([1] : List Int).length : Int) == 1) = true from rfl, show ((([] : List Int).length : Int) == 0) = true from rfl]
  simp only [Br_true]
  refine Ix_cu hg9 (j := 0) (x := 1) rfl ?_
  exact hR (true, ()) _ ⟨rfl, O9.kept⟩

/-! ### an operation -/
structure Op where
  do_ : Int
  n : Int
  lo : ByteArray
  hi : ByteArray
  wr : Bool
  cl : Bool
def encO (o : Op) : List Value := [.int .i64 o.do_, .int .u64 o.n, .string o.lo, .string o.hi, .bool o.wr, .bool o.cl]
def OpQ (o : Op) : Prop := 0 ≤ o.n
theorem encO_length (o : Op) : (encO o).length = 6 := rfl
def Op.ak (o : Op) : Ak := ⟨o.n, o.lo, o.hi, o.wr⟩
/-- A round's own variable: an operation, read out of the list. -/
theorem op_ok {w : World} {s : Sl} {os : List Op} (h : RdC s.p (s.len * 6) (os.flatMap encO) w) {i : Nat} {o : Op} (hi : os[i]? = some o) {K : Addr → Pr}
    (k : ∀ b w', w'.heap[b]? = some (.cells #[.int .i64 o.do_, .int .u64 o.n, .string o.lo, .string o.hi, .bool o.wr, .bool o.cl] 32 (0, 0)) → w.heap.size ≤ b → Keeps [] w w' → K ⟨b, 0, none⟩ w') :
    Ix s (i : Int) 6 (fun a12 =>
      LdI .i64 (a12.add 0) fun x13 =>
      LdI .u64 (a12.add 1) fun x14 =>
      LdS (a12.add 2) fun x15 =>
      LdS (a12.add 3) fun x16 =>
      LdB (a12.add 4) fun x17 =>
      LdB (a12.add 5) fun x18 =>
      New #[(.int .i64 0), (.int .u64 0), (.string (BA [])), (.string (BA [])), (.bool false), (.bool false)] 32 fun a19 =>
      St (a19.add 0) (.int .i64 x13) <|
      St (a19.add 1) (.int .u64 x14) <|
      St (a19.add 2) (.string x15) <|
      St (a19.add 3) (.string x16) <|
      St (a19.add 4) (.bool x17) <|
      St (a19.add 5) (.bool x18) <| K a19) w := by
  have hl := h.1
  rw [flat_length encO_length] at hl
  have hlt := (List.getElem?_eq_some_iff.1 hi).1
  refine Ix_row h (by omega) (by omega) ?_
  intro a ha
  have hc : ∀ j v, (encO o)[j]? = some v → w.cell? (a.add j) = some v := fun j v hj => ha j v (by have := (List.getElem?_eq_some_iff.1 hj).1; rw [encO_length] at this; exact this) (by
    rw [flat_get encO_length os i j (by have := (List.getElem?_eq_some_iff.1 hj).1; rw [encO_length] at this; exact this), hi]
    exact hj)
  refine ⟨o.do_, hc 0 _ rfl, o.n, hc 1 _ rfl, o.lo, hc 2 _ rfl, o.hi, hc 3 _ rfl, o.wr, hc 4 _ rfl, o.cl, hc 5 _ rfl, ?_⟩
  refine New_bx fun b w1 h1 n1 k1 => ?_
  simp only [add_of, Nat.reduceAdd]
  refine set_box h1 0 _ rfl (by simp) fun w2 h2 k2 => ?_
  refine set_box h2 1 _ rfl (by simp) fun w3 h3 k3 => ?_
  refine set_box h3 2 _ rfl (by simp) fun w4 h4 k4 => ?_
  refine set_box h4 3 _ rfl (by simp) fun w5 h5 k5 => ?_
  refine set_box h5 4 _ rfl (by simp) fun w6 h6 k6 => ?_
  refine set_box h6 5 _ rfl (by simp) fun w7 h7 k7 => ?_
  exact k b w7 h7 n1 (kpx (kpx (kpx (kpx (kpx (kpx k1 k2 (by simpa using n1)) k3 (by simpa using n1)) k4 (by simpa using n1)) k5 (by simpa using n1)) k6 (by simpa using n1)) k7 (by simpa using n1))
end Go.Proofs.Ytmppjgddemlmdaa
