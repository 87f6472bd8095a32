/- The law NetGoes: what the code does. -/
import Derived.Test.YtfkhmbkeniigdaaSame
import Derived.Test.YtfkhmbkeniigdaaOrd
set_option linter.unusedVariables false
set_option linter.unusedSimpArgs false
namespace Go.Proofs.Ytfkhmbkeniigdaa
open Go Go.Sx

structure Op where
  a : Int
  b : Int
  c : Int
  d : Int
  s : ByteArray
  g : Bool
def encO (o : Op) : List Value := [.int .i64 o.a, .int .i64 o.b, .int .i64 o.c, .int .i64 o.d, .string o.s, .bool o.g]
theorem encO_len (o : Op) : (encO o).length = 6 := rfl

theorem sendC_zero {f t : Int} {n k : Nat} (h : sendC f t n k = 0) : n ≤ 4103 ∧ k < 128 := by
  unfold sendC at h
  split at h
  · simp at h
  · split at h
    · simp at h
    · split at h
      · simp at h
      · omega

/-- What the two nets are, in a world w, begun at w0. -/
structure Two (w0 w : World) (p q : Nat) (L : List Lt) (fp fq : List Nat) : Prop where
  len : L.length ≤ 128
  small : ∀ l ∈ L, l.bs.length ≤ 4103
  net : NetAt w p L fp
  ref : RefAt w q L fq
  dis : ∀ x ∈ fp, x ∉ fq
  np : ∀ x ∈ fp, w0.heap.size ≤ x
  nq : ∀ x ∈ fq, w0.heap.size ≤ x
  keep : Keeps [] w0 w

theorem Two.keeps {w0 w w' : World} {p q : Nat} {L : List Lt} {fp fq m : List Nat} (h : Two w0 w p q L fp fq) (hk : Keeps m w w') (hm : ∀ x ∈ m, x ∉ fp ∧ x ∉ fq ∧ w0.heap.size ≤ x) : Two w0 w' p q L fp fq :=
  ⟨h.len, h.small, h.net.keeps hk fun x hx hm' => (hm x hm').1 hx, h.ref.keeps hk fun x hx hm' => (hm x hm').2.1 hx, h.dis, h.np, h.nq, h.keep.trans hk fun x hx => .inr (hm x hx).2.2⟩

/-- The net goes first. -/
theorem Two.step {w0 w w1 w2 : World} {p q : Nat} {L L' : List Lt} {fp fq fp' fq' : List Nat} (h : Two w0 w p q L fp fq) (hl : L'.length ≤ 128) (hs : ∀ l ∈ L', l.bs.length ≤ 4103)
    (n1 : NetAt w1 p L' fp') (f1 : ∀ x ∈ fp', x ∈ fp ∨ w.heap.size ≤ x) (k1 : Keeps fp w w1) (n2 : RefAt w2 q L' fq') (f2 : ∀ x ∈ fq', x ∈ fq ∨ w1.heap.size ≤ x) (k2 : Keeps fq w1 w2) : Two w0 w2 p q L' fp' fq' := by
  have hd : ∀ x ∈ fp', x ∉ fq := fun x hx hq => by
    rcases f1 x hx with h' | h'
    · exact h.dis x h' hq
    · have := h.ref.lt x hq; omega
  have z0 := h.keep.size
  have z1 := k1.size
  refine ⟨hl, hs, n1.keeps k2 hd, n2, fun x hx hq => ?_, fun x hx => ?_, fun x hx => ?_, (h.keep.trans k1 fun x hx => .inr (h.np x hx)).trans k2 fun x hx => .inr (h.nq x hx)⟩
  · rcases f2 x hq with h' | h'
    · exact hd x hx h'
    · have := n1.lt x hx; omega
  · rcases f1 x hx with h' | h'
    · exact h.np x h'
    · omega
  · rcases f2 x hx with h' | h'
    · exact h.nq x h'
    · omega

/-- The reference goes first. -/
theorem Two.step' {w0 w w1 w2 : World} {p q : Nat} {L L' : List Lt} {fp fq fp' fq' : List Nat} (h : Two w0 w p q L fp fq) (hl : L'.length ≤ 128) (hs : ∀ l ∈ L', l.bs.length ≤ 4103)
    (n1 : RefAt w1 q L' fq') (f1 : ∀ x ∈ fq', x ∈ fq ∨ w.heap.size ≤ x) (k1 : Keeps fq w w1) (n2 : NetAt w2 p L' fp') (f2 : ∀ x ∈ fp', x ∈ fp ∨ w1.heap.size ≤ x) (k2 : Keeps fp w1 w2) : Two w0 w2 p q L' fp' fq' := by
  have hd : ∀ x ∈ fq', x ∉ fp := fun x hx hq => by
    rcases f1 x hx with h' | h'
    · exact h.dis x hq h'
    · have := h.net.lt x hq; omega
  have z0 := h.keep.size
  have z1 := k1.size
  refine ⟨hl, hs, n2, n1.keeps k2 hd, fun x hx hq => ?_, fun x hx => ?_, fun x hx => ?_, (h.keep.trans k1 fun x hx => .inr (h.nq x hx)).trans k2 fun x hx => .inr (h.np x hx)⟩
  · rcases f2 x hx with h' | h'
    · exact hd x hq h'
    · have := n1.lt x hq; omega
  · rcases f2 x hx with h' | h'
    · exact h.np x h'
    · omega
  · rcases f1 x hx with h' | h'
    · exact h.nq x h'
    · omega

def GoesI (w : World) (q : Nat) (n : Nat) (m : Nat) (st : Bool × Option Addr × Int × Unit) (w' : World) : Prop :=
  ∃ (k p : Nat) (L : List Lt) (fp fq : List Nat), st = (false, some ⟨p, 0, none⟩, (k : Int), ()) ∧ m = n - k ∧ k ≤ n ∧ Two w w' p q L fp fq

/-- In the middle of a round: the operation's own block, and the bytes. -/
structure Mid (w : World) (B : Nat) (o : Op) (b : Sl) (fp fq : List Nat) : Prop where
  box : w.heap[B]? = some (.cells (encO o).toArray 41 (0, 0))
  Bp : B ∉ fp
  Bq : B ∉ fq
  bs : SlC w b 1 (cB o.s.data.toList)
  bp : ∀ x ∈ blk b, x ∉ fp ∧ x ∉ fq ∧ x ≠ B

theorem Mid.keeps {w w' : World} {B : Nat} {o : Op} {b : Sl} {fp fq m : List Nat} (h : Mid w B o b fp fq) (hk : Keeps m w w') (hm : ∀ x ∈ m, x ∈ fp ∨ x ∈ fq ∨ w.heap.size ≤ x) : Mid w' B o b fp fq := by
  refine ⟨hk.at h.box fun hh => ?_, h.Bp, h.Bq, h.bs.keeps hk fun x hx hh => ?_, h.bp⟩
  · rcases hm B hh with h' | h' | h'
    · exact h.Bp h'
    · exact h.Bq h'
    · have := hp_lt h.box; omega
  · rcases hm x hh with h' | h' | h'
    · exact (h.bp x hx).1 h'
    · exact (h.bp x hx).2.1 h'
    · have := h.bs.lt x hx; omega

theorem Mid.foot {w : World} {B : Nat} {o : Op} {b : Sl} {fp fq fp' fq' : List Nat} (h : Mid w B o b fp fq) {n : Nat} (hB : B < n) (hb : ∀ x ∈ blk b, x < n) (h1 : ∀ x ∈ fp', x ∈ fp ∨ n ≤ x) (h2 : ∀ x ∈ fq', x ∈ fq ∨ n ≤ x) : Mid w B o b fp' fq' := by
  refine ⟨h.box, fun hh => ?_, fun hh => ?_, h.bs, fun x hx => ⟨fun hh => ?_, fun hh => ?_, (h.bp x hx).2.2⟩⟩
  · rcases h1 B hh with h' | h'
    · exact h.Bp h'
    · omega
  · rcases h2 B hh with h' | h'
    · exact h.Bq h'
    · omega
  · rcases h1 x hh with h' | h'
    · exact (h.bp x hx).1 h'
    · have := hb x hx; omega
  · rcases h2 x hh with h' | h'
    · exact (h.bp x hx).2.1 h'
    · have := hb x hx; omega

/-- The net first, then the reference: the round's own blocks stay. -/
theorem Mid.step {w w1 w2 : World} {B : Nat} {o : Op} {b : Sl} {fp fq fp' fq' : List Nat} (h : Mid w B o b fp fq) (k1 : Keeps fp w w1) (f1 : ∀ x ∈ fp', x ∈ fp ∨ w.heap.size ≤ x) (k2 : Keeps fq w1 w2) (f2 : ∀ x ∈ fq', x ∈ fq ∨ w1.heap.size ≤ x) : Mid w2 B o b fp' fq' := by
  have z1 := k1.size
  refine ((h.keeps k1 fun x hx => .inl hx).keeps k2 fun x hx => .inr (.inl hx)).foot (n := w.heap.size) (hp_lt h.box) (fun x hx => h.bs.lt x hx) f1 fun x hx => ?_
  rcases f2 x hx with h' | h'
  · exact .inl h'
  · exact .inr (by omega)
theorem Mid.step' {w w1 w2 : World} {B : Nat} {o : Op} {b : Sl} {fp fq fp' fq' : List Nat} (h : Mid w B o b fp fq) (k1 : Keeps fq w w1) (f1 : ∀ x ∈ fq', x ∈ fq ∨ w.heap.size ≤ x) (k2 : Keeps fp w1 w2) (f2 : ∀ x ∈ fp', x ∈ fp ∨ w1.heap.size ≤ x) : Mid w2 B o b fp' fq' := by
  have z1 := k1.size
  refine ((h.keeps k1 fun x hx => .inr (.inl hx)).keeps k2 fun x hx => .inl hx).foot (n := w.heap.size) (hp_lt h.box) (fun x hx => h.bs.lt x hx) (fun x hx => ?_) f1
  rcases f2 x hx with h' | h'
  · exact .inl h'
  · exact .inr (by omega)

theorem Ix_row {s : Sl} {cs : List Value} {size : Nat} {w : World} (h : RdC s.p (s.len * size) cs w) (h0 : 0 < size) {k : Nat} (hk : k < s.len) {K : Addr → Pr}
    (kk : ∀ a : Addr, (∀ j v, j < size → cs[k * size + j]? = some v → w.cell? (a.add j) = some v) → K a w) : Ix s (k : Int) size K w := by
  have hm : (k + 1) * size ≤ s.len * size := Nat.mul_le_mul_right _ hk
  rw [Nat.succ_mul] at hm
  have hl := h.1
  obtain ⟨a, ha, _⟩ := h.2 (k * size) _ (List.getElem?_eq_getElem (by omega))
  unfold Ix
  rw [ha]
  refine ⟨by omega, by omega, kk _ fun j v hj hv => ?_⟩
  obtain ⟨a', ha', hc⟩ := h.2 _ v hv
  rw [ha] at ha'
  cases ha'
  rw [Int.toNat_natCast, show (a.add (k * size)).add j = a.add (k * size + j) from by unfold Addr.add; split <;> split <;> split <;> simp_all <;> omega]
  exact hc

/-- Behind the switch: what both nets answered was alike. -/
def Alike (w0 : World) (p q B : Nat) (o : Op) (b : Sl) (st : Bool × Unit) (w : World) : Prop :=
  st = (true, ()) ∧ ∃ (L : List Lt) (fp fq : List Nat), Two w0 w p q L fp fq ∧ Mid w B o b fp fq

set_option maxHeartbeats 400000 in
theorem NetGoes_ok {w : World} {s : Sl} {os : List Op} (h : RdC s.p (s.len * 6) (os.flatMap encO) w) :
    Cl Try.prog 4 [.slice s.p s.len s.cap] false [.sc .b] (fun r w' => r.1 = true ∧ Keeps [] w w') w := by
  apply sumpterlaw07_NetGoes_call
  unfold sumpterlaw07_NetGoes
  refine Cl.mono live_ok ?_
  rintro r1 w1 ⟨h1, hk1⟩
  refine Cl.mono net_New_ok ?_
  rintro r2 w2 ⟨h2, hn2, hk2⟩
  rw [h1, h2]
  have hk02 : Keeps [] w w2 := hk1.trans hk2 (by simp)
  have hz1 := hk1.size
  have hz2 := hk02.size
  generalize hp : w1.heap.size = p at *
  have hkq : Keeps [] w2 (w2.alloc (.cells #[.slice none 0 0] 39)) := (Keeps.refl [] w2).alloc _
  have hpl := hn2.lt p (by simp)
  simp only [sx, Option.isNone_some]
  generalize hq : w2.heap.size = q at *
  refine Jp_of (fun st w' => st = (decide (((s.len : Nat) : Int) > 300), ()) ∧ w' = w2.alloc (.cells #[.slice none 0 0] 39)) (fun J hJ => hJ _ _ ⟨rfl, rfl⟩) ?_
  rintro _ _ ⟨rfl, rfl⟩
  simp only [sx, Bool.not_false]
  by_cases hlong : 300 < s.len
  · rw [decide_eq_true (by omega)]
    simp only [sx]
    exact ⟨trivial, hk02.trans hkq (by simp)⟩
  rw [decide_eq_false (by omega)]
  simp only [sx]
  have hol : os.length = s.len := by
    have := h.1
    rw [flat_length encO_len] at this
    omega
  refine ⟨GoesI w q s.len, ⟨s.len, 0, p, [], [p], [q], rfl, by simp, by omega, by simp, by simp, hn2.keeps hkq (by simp), ?_, by simp; omega, by simp; omega, by simp; omega, hk02.trans hkq (by simp)⟩, ?_⟩
  · exact ⟨⟨none, 0, 0⟩, ⟨by rw [← hq]; exact hp_alloc_new _ _, SlC.nil _ _, by simp [blk]⟩, by simp [blk]⟩
  rintro _ _ w3 ⟨k, p3, L, fp, fq, rfl, rfl, hk, hT⟩
  dsimp only
  by_cases hlt : k < s.len
  case neg =>
    rw [decide_eq_false (by omega)]
    exact ⟨trivial, hT.keep⟩
  rw [decide_eq_true (by omega)]
  simp only [sx]
  obtain ⟨o, ho⟩ : ∃ o, os[k]? = some o := ⟨_, List.getElem?_eq_getElem (by omega)⟩
  have hwk : w64 ((k : Int) + 1) = ((k + 1 : Nat) : Int) := by simp only [w64]; rw [IntWalk.i64_in _ (by omega)]; simp
  -- a round's end
  refine Jp_of (fun st w' => ∃ (p' : Nat) (L' : List Lt) (fp' fq' : List Nat), st = (false, some ⟨p', 0, none⟩, ()) ∧ Two w w' p' q L' fp' fq') ?_ ?_
  case refine_2 =>
    rintro _ w' ⟨p', L', fp', fq', rfl, hT'⟩
    exact ⟨s.len - (k + 1), by omega, k + 1, p', L', fp', fq', by rw [hwk], rfl, by omega, hT'⟩
  intro J8 hJ8
  have fin : ∀ (p' : Nat) (L' : List Lt) (fp' fq' : List Nat) (w' : World), Two w w' p' q L' fp' fq' → J8 (false, some ⟨p', 0, none⟩, ()) w' :=
    fun p' L' fp' fq' w' hT' => hJ8 _ _ ⟨p', L', fp', fq', rfl, hT'⟩
  refine Ix_row (rdc_keeps h hT.keep (by simp)) (by omega) hlt fun a hc => ?_
  have hc' : ∀ j v, j < 6 → (encO o)[j]? = some v → w3.cell? (a.add j) = some v := fun j v hj hv => hc j v hj (by rw [flat_get encO_len os k j hj, ho]; exact hv)
  refine ⟨_, hc' 0 _ (by omega) rfl, _, hc' 1 _ (by omega) rfl, _, hc' 2 _ (by omega) rfl, _, hc' 3 _ (by omega) rfl, _, hc' 4 _ (by omega) rfl, _, hc' 5 _ (by omega) rfl, ?_⟩
  clear hc hc'
  simp (maxSteps := 1000000) (disch := ((try simp only [sx]); first | done | omega)) only [sx, sxc, sxl, Nat.zero_add, Nat.reduceAdd, Nat.reduceLT, true_and]
  generalize hw4 : setObjW (w3.alloc (.cells #[.int .i64 0, .int .i64 0, .int .i64 0, .int .i64 0, .string (BA []), .bool false] 41)) w3.heap.size (.cells #[.int .i64 o.a, .int .i64 o.b, .int .i64 o.c, .int .i64 o.d, .string o.s, .bool o.g] 41) = w4
  have hk34 : Keeps [] w3 w4 := by subst hw4; exact ((Keeps.refl [] w3).alloc _).setObjW (.inr (Nat.le_refl _)) _
  have hB4 : w4.heap[w3.heap.size]? = some (.cells (encO o).toArray 41 (0, 0)) := by subst hw4; exact hp_setObjW_same (by rw [World.size_alloc]; omega)
  have hT4 := hT.keeps hk34 (by simp)
  generalize hB : w3.heap.size = B at *
  have hBp : B ∉ fp := fun hh => by have := hT.net.lt B hh; omega
  have hBq : B ∉ fq := fun hh => by have := hT.ref.lt B hh; omega
  by_cases hbig : 10000 < o.s.size
  · rw [decide_eq_true (by omega)]
    simp only [sx]
    exact fin _ _ _ _ _ hT4
  rw [decide_eq_false (by omega)]
  have hB4u := hB4
  simp only [encO] at hB4u
  simp only [sx, sxl, hB4u]
  refine StoB_own ?_
  intro b w5 hb5 hk45 hbb hbl
  have hB4' := hp_lt hB4
  have hT5 := hT4.keeps hk45 (by simp)
  have hM5 : Mid w5 B o b fp fq := by
    refine ⟨hk45.at hB4 (by simp), hBp, hBq, hb5, fun x hx => ?_⟩
    rw [hbb] at hx
    simp at hx
    subst hx
    exact ⟨fun hh => by have := hT4.net.lt _ hh; omega, fun hh => by have := hT4.ref.lt _ hh; omega, by omega⟩
  clear hb5 hB4 hB4u hBp hBq hk34
  have hbw : ∀ x ∈ blk b, w.heap.size ≤ x := fun x hx => by
    rw [hbb] at hx
    simp at hx
    have z3 := hT.keep.size
    have := hT4.keep.size
    omega
  clear hbb
  have hbs : b.len = o.s.data.toList.length := by rw [hbl, Array.length_toList]; rfl
  refine Jp_of (Alike w p3 q B o b) ?_ ?_
  · intro J hJ
    have hbox := hM5.box
    have hzl : o.s.data.toList.length = o.s.size := by rw [Array.length_toList]; rfl
    simp only [encO] at hbox
    simp (maxSteps := 1000000) (disch := ((try simp only [sx]); first | done | omega)) only [sx, sxc, sxl, hbox, Nat.zero_add, Nat.reduceAdd]
    refine Br_of (fun h0 => ?_) (fun h0 => ?_)
    · -- Send
      clear h0
      simp (maxSteps := 1000000) (disch := ((try simp only [sx]); first | done | omega)) only [sx, sxc, sxl, hbox, Nat.zero_add, Nat.reduceAdd]
      have hkd : Keeps [] w5 w5.drew := (Keeps.refl [] w5).drew
      have hTd := hT5.keeps hkd (by simp)
      have hMd := hM5.keeps hkd (by simp)
      refine Cl.mono (net_Send_ok hTd.net hMd.bs.rdb o.b o.c) ?_
      rintro r42 w6 ⟨g1, ⟨fp6, n6, f6⟩, k6⟩
      have hbox6 := (hMd.keeps k6 fun x hx => .inl hx).box
      simp only [encO] at hbox6
      simp only [sx, sxl, hbox6, Nat.zero_add, and_true, true_and]
      refine Cl.mono (ref_Send_ok (hTd.ref.keeps k6 fun x hx hx' => hTd.dis x hx' hx) o.s o.b o.c) ?_
      rintro r46 w7 ⟨g2, ⟨fq7, n7, f7⟩, k7⟩
      rw [hzl] at g1 n6
      rw [g1, g2, beq_self_eq_true]
      refine hJ _ _ ⟨rfl, (if sendC o.b o.c o.s.size L.length = 0 then L ++ [⟨o.b, o.c, o.s.data.toList⟩] else L), fp6, fq7, hTd.step ?_ ?_ n6 f6 k6 n7 f7 k7, hMd.step k6 f6 k7 f7⟩
      · split
        · rename_i hc
          have := sendC_zero hc
          simp
          omega
        · exact hT5.len
      · split
        · rename_i hc
          intro l hl
          rw [List.mem_append] at hl
          rcases hl with hl | hl
          · exact hT5.small l hl
          · simp at hl
            subst hl
            have := sendC_zero hc
            rw [hzl]
            exact this.1
        · exact hT5.small
    have z5 := hT5.keep.size
    have hin : ∀ i : Int, (0 ≤ i ∧ i < (L.length : Int)) → ∃ (k : Nat) (l : Lt), i = (k : Int) ∧ L[k]? = some l := fun i hi =>
      ⟨i.toNat, _, by omega, List.getElem?_eq_getElem (by omega)⟩
    refine Br_of (fun h1 => ?_) (fun h1 => ?_)
    · -- Take
      clear h0 h1
      by_cases hi : 0 ≤ o.d ∧ o.d < (L.length : Int)
      · obtain ⟨j, l, hj, hl⟩ := hin _ hi
        rw [hj] at hbox
        simp (disch := ((try simp only [sx]); first | done | omega)) only [sx, sxc, sxl, hbox, Nat.zero_add, Nat.reduceAdd]
        refine Cl.mono (net_Take_yes hT5.net hT5.len hl) ?_
        rintro r48 w6 ⟨t1, t2, t3, t4, k6, fp6, n6, f6, d6⟩
        have z6 := k6.size
        have hM6 := hM5.keeps k6 fun x hx => .inl hx
        have hBl6 := hp_lt hM6.box
        have hbox6 := hM6.box
        simp only [encO, hj] at hbox6
        simp (disch := ((try simp only [sx]); first | done | omega)) only [sx, sxc, sxl, hbox6, Nat.zero_add, Nat.reduceAdd, Nat.reduceLT, true_and]
        rw [t1, t2]
        generalize hw7 : setObjW (w6.alloc (.cells #[.int .i64 0, .int .i64 0, .slice none 0 0] 30)) w6.heap.size (.cells #[.int .i64 l.f, .int .i64 l.t, .slice r48.1.2.2.1.p r48.1.2.2.1.len r48.1.2.2.1.cap] 30) = w7
        have k67 : Keeps [] w6 w7 := by subst hw7; exact ((Keeps.refl [] w6).alloc _).setObjW (.inr (Nat.le_refl _)) _
        have hA7 : w7.heap[w6.heap.size]? = some (.cells #[.int .i64 l.f, .int .i64 l.t, .slice r48.1.2.2.1.p r48.1.2.2.1.len r48.1.2.2.1.cap] 30) := by
          subst hw7; exact hp_setObjW_same (by rw [World.size_alloc]; omega)
        have k57 : Keeps fp w5 w7 := k6.trans k67 (by simp)
        refine Cl.mono (ref_Take_yes (hT5.ref.keeps k57 fun x hx hx' => hT5.dis x hx' hx) hT5.len hl) ?_
        rintro r51 w8 ⟨rfl, ⟨fq8, n8, f8⟩, k8⟩
        have hT8 := hT5.step (L' := L.eraseIdx j) (by rw [List.length_eraseIdx]; split <;> (have := hT5.len; omega)) (fun l hl => hT5.small l (List.mem_of_mem_eraseIdx hl)) (n6.keeps k67 (by simp)) (fun x hx => .inl (f6 x hx)) k57 n8 f8 k8
        have hM8 := hM5.step k57 (fun x hx => .inl (f6 x hx)) k8 f8
        have hA8 := k8.at hA7 (fun hh => by have := hT5.ref.lt _ hh; omega)
        have hA8l := hp_lt hA8
        have z8 := k8.size
        simp (disch := ((try simp only [sx]); first | done | omega)) only [sx, sxc, sxl, hA8, Nat.zero_add, Nat.reduceAdd, Nat.reduceLT, true_and, beq_self_eq_true]
        have k89 : ∀ A B, Keeps [] w8 (setObjW (w8.alloc A) w8.heap.size B) := fun A B => ((Keeps.refl [] w8).alloc _).setObjW (.inr (Nat.le_refl _)) _
        have hsl : SlC w8 r48.1.2.2.1 1 (cB l.bs) := (t4.keeps k67 (by simp)).keeps k8 (fun x hx hx' => hT5.dis x (d6 x hx).1 hx')
        refine BtoS_of (hsl.keeps (k89 _ _) (by simp)).rdb ?_
        simp (disch := ((try simp only [sx]); first | done | omega)) only [sx, sxc, sxl, seq_refl, t3, beq_self_eq_true, Nat.zero_add, Nat.reduceAdd, Nat.reduceLT, true_and]
        exact hJ _ _ ⟨rfl, _, fp6, fq8, hT8.keeps (k89 _ _) (by simp), hM8.keeps (k89 _ _) (by simp)⟩
      · simp (disch := ((try simp only [sx]); first | done | omega)) only [sx, sxc, sxl, hbox, Nat.zero_add, Nat.reduceAdd]
        refine Cl.mono (net_Take_no hT5.net hi) ?_
        rintro r48 w6 ⟨rfl, n6, k6⟩
        have hM6 := hM5.keeps k6 (by simp)
        have hT6 := hT5.keeps k6 (by simp)
        have hBl6 := hp_lt hM6.box
        have hbox6 := hM6.box
        simp only [encO] at hbox6
        simp (disch := ((try simp only [sx]); first | done | omega)) only [sx, sxc, sxl, hbox6, Nat.zero_add, Nat.reduceAdd, Nat.reduceLT, true_and]
        generalize hw7 : setObjW (w6.alloc (.cells #[.int .i64 0, .int .i64 0, .slice none 0 0] 30)) w6.heap.size (.cells #[.int .i64 0, .int .i64 0, .slice none 0 0] 30) = w7
        have k67 : Keeps [] w6 w7 := by subst hw7; exact ((Keeps.refl [] w6).alloc _).setObjW (.inr (Nat.le_refl _)) _
        have hA7 : w7.heap[w6.heap.size]? = some (.cells #[.int .i64 0, .int .i64 0, .slice none 0 0] 30) := by
          subst hw7; exact hp_setObjW_same (by rw [World.size_alloc]; omega)
        have hT7 := hT6.keeps k67 (by simp)
        have hM7 := hM6.keeps k67 (by simp)
        refine Cl.mono (ref_Take_no hT7.ref hi) ?_
        rintro r51 w8 ⟨rfl, n8, k8⟩
        have hA8 := k8.at hA7 (by simp)
        have hA8l := hp_lt hA8
        simp (disch := ((try simp only [sx]); first | done | omega)) only [sx, sxc, sxl, hA8, Nat.zero_add, Nat.reduceAdd, Nat.reduceLT, true_and, beq_self_eq_true]
        have k89 : ∀ A B, Keeps [] w8 (setObjW (w8.alloc A) w8.heap.size B) := fun A B => ((Keeps.refl [] w8).alloc _).setObjW (.inr (Nat.le_refl _)) _
        refine BtoS_of (bs := []) ⟨rfl, fun j b hj => by simp at hj⟩ ?_
        have hs0 : seq (⟨([] : List UInt8).toArray⟩ : ByteArray) (BA []) = true := seq_refl _
        simp (disch := ((try simp only [sx]); first | done | omega)) only [sx, sxc, sxl, hs0, beq_self_eq_true, Nat.zero_add, Nat.reduceAdd, Nat.reduceLT, true_and]
        exact hJ _ _ ⟨rfl, L, fp, fq, (hT7.keeps k8 (by simp)).keeps (k89 _ _) (by simp), (hM7.keeps k8 (by simp)).keeps (k89 _ _) (by simp)⟩
    refine Br_of (fun h2 => ?_) (fun h2 => ?_)
    · -- Drop
      clear h0 h1 h2
      by_cases hi : 0 ≤ o.d ∧ o.d < (L.length : Int)
      · obtain ⟨j, l, hj, hl⟩ := hin _ hi
        have hjl := (List.getElem?_eq_some_iff.1 hl).1
        rw [hj] at hbox
        simp (disch := ((try simp only [sx]); first | done | omega)) only [sx, sxc, sxl, hbox, Nat.zero_add, Nat.reduceAdd]
        refine Cl.mono (ref_Take_yes hT5.ref hT5.len hl) ?_
        rintro r51 w6 ⟨rfl, ⟨fq6, n6, f6⟩, k6⟩
        have hM6 := hM5.keeps k6 fun x hx => .inr (.inl hx)
        have hBl6 := hp_lt hM6.box
        have hbox6 := hM6.box
        simp only [encO, hj] at hbox6
        simp (disch := ((try simp only [sx]); first | done | omega)) only [sx, sxc, sxl, hbox6, Nat.zero_add, Nat.reduceAdd, Nat.reduceLT, true_and]
        generalize hw7 : setObjW (w6.alloc (.cells #[.int .i64 0, .int .i64 0, .string (BA [])] 44)) w6.heap.size (.cells #[.int .i64 l.f, .int .i64 l.t, .string ⟨l.bs.toArray⟩] 44) = w7
        have k67 : Keeps [] w6 w7 := by subst hw7; exact ((Keeps.refl [] w6).alloc _).setObjW (.inr (Nat.le_refl _)) _
        have k57 : Keeps fq w5 w7 := k6.trans k67 (by simp)
        refine Cl.mono (net_Drop_yes (hT5.net.keeps k57 fun x hx hx' => hT5.dis x hx hx') hT5.len hjl) ?_
        rintro r64 w8 ⟨g, ⟨fp8, n8, f8⟩, k8⟩
        have hT8 := hT5.step' (L' := L.eraseIdx j) (by rw [List.length_eraseIdx]; split <;> (have := hT5.len; omega)) (fun l hl => hT5.small l (List.mem_of_mem_eraseIdx hl)) (n6.keeps k67 (by simp)) f6 k57 n8 (fun x hx => .inl (f8 x hx)) k8
        have hM8 := hM5.step' k57 f6 k8 (fun x hx => .inl (f8 x hx))
        rw [g]
        exact hJ _ _ ⟨rfl, _, fp8, fq6, hT8, hM8⟩
      · simp (disch := ((try simp only [sx]); first | done | omega)) only [sx, sxc, sxl, hbox, Nat.zero_add, Nat.reduceAdd]
        refine Cl.mono (ref_Take_no hT5.ref hi) ?_
        rintro r51 w6 ⟨rfl, n6, k6⟩
        have hM6 := hM5.keeps k6 (by simp)
        have hT6 := hT5.keeps k6 (by simp)
        have hBl6 := hp_lt hM6.box
        have hbox6 := hM6.box
        simp only [encO] at hbox6
        simp (disch := ((try simp only [sx]); first | done | omega)) only [sx, sxc, sxl, hbox6, Nat.zero_add, Nat.reduceAdd, Nat.reduceLT, true_and]
        have k67 : ∀ A B, Keeps [] w6 (setObjW (w6.alloc A) w6.heap.size B) := fun A B => ((Keeps.refl [] w6).alloc _).setObjW (.inr (Nat.le_refl _)) _
        refine Cl.mono (net_Drop_no (hT6.net.keeps (k67 _ _) (by simp)) hi) ?_
        rintro r64 w8 ⟨g, n8, k8⟩
        rw [g]
        exact hJ _ _ ⟨rfl, L, fp, fq, (hT6.keeps (k67 _ _) (by simp)).keeps k8 (by simp), (hM6.keeps (k67 _ _) (by simp)).keeps k8 (by simp)⟩
    have hkd : Keeps [] w5 w5.drew := (Keeps.refl [] w5).drew
    have hTd := hT5.keeps hkd (by simp)
    have hMd := hM5.keeps hkd (by simp)
    refine Br_of (fun h3 => ?_) (fun h3 => ?_)
    · -- Double
      clear h0 h1 h2 h3
      by_cases hi : 0 ≤ o.d ∧ o.d < (L.length : Int)
      · obtain ⟨j, l, hj, hl⟩ := hin _ hi
        rw [hj] at hbox
        simp (disch := ((try simp only [sx]); first | done | omega)) only [sx, sxc, sxl, hbox, Nat.zero_add, Nat.reduceAdd]
        have hlb := hT5.small l (List.mem_of_getElem? hl)
        refine Cl.mono (net_Double_yes hTd.net hTd.len hl hlb) ?_
        rintro r67 w6 ⟨g1, ⟨fp6, n6, f6⟩, k6⟩
        have hbox6 := (hMd.keeps k6 fun x hx => .inl hx).box
        simp only [encO, hj] at hbox6
        simp only [sx, sxl, hbox6, Nat.zero_add, and_true, true_and]
        refine Cl.mono (ref_Double_yes (hTd.ref.keeps k6 fun x hx hx' => hTd.dis x hx' hx) hTd.len hl) ?_
        rintro r69 w7 ⟨g2, ⟨fq7, n7, f7⟩, k7⟩
        rw [g1, g2, beq_self_eq_true]
        refine hJ _ _ ⟨rfl, _, fp6, fq7, hTd.step ?_ ?_ n6 f6 k6 n7 f7 k7, hMd.step k6 f6 k7 f7⟩
        · split
          · rename_i hc
            have := sendC_zero hc
            simp
            omega
          · exact hT5.len
        · split
          · intro l' hl'
            rw [List.mem_append] at hl'
            rcases hl' with hl' | hl'
            · exact hT5.small l' hl'
            · simp at hl'
              subst hl'
              exact hlb
          · exact hT5.small
      · simp (disch := ((try simp only [sx]); first | done | omega)) only [sx, sxc, sxl, hbox, Nat.zero_add, Nat.reduceAdd]
        refine Cl.mono (net_Double_no hTd.net hi) ?_
        rintro r67 _ ⟨g1, rfl⟩
        simp only [sx, sxl, hbox, Nat.zero_add, and_true, true_and]
        refine Cl.mono (ref_Double_no hTd.ref hi) ?_
        rintro r69 _ ⟨g2, rfl⟩
        rw [g1, g2, beq_self_eq_true]
        exact hJ _ _ ⟨rfl, L, fp, fq, hTd, hMd⟩
    refine Br_of (fun h4 => ?_) (fun h4 => ?_)
    · -- Spoil
      clear h0 h1 h2 h3 h4
      by_cases hi : 0 ≤ o.d ∧ o.d < (L.length : Int)
      · obtain ⟨j, l, hj, hl⟩ := hin _ hi
        have hjl := (List.getElem?_eq_some_iff.1 hl).1
        rw [hj] at hbox
        simp (disch := ((try simp only [sx]); first | done | omega)) only [sx, sxc, sxl, hbox, Nat.zero_add, Nat.reduceAdd]
        by_cases hbg : 4103 < o.s.size
        · refine Cl.mono (net_Spoil_long hTd.net b hjl (by omega)) ?_
          rintro r73 _ ⟨g1, rfl⟩
          simp only [sx, sxl, hbox, Nat.zero_add, and_true, true_and]
          refine Cl.mono (ref_Spoil_long hTd.ref o.s hjl hbg) ?_
          rintro r76 _ ⟨g2, rfl⟩
          rw [g1, g2, beq_self_eq_true]
          exact hJ _ _ ⟨rfl, L, fp, fq, hTd, hMd⟩
        refine Cl.mono (net_Spoil_yes hTd.net hTd.len hMd.bs.rdb hl (by omega)) ?_
        rintro r73 w6 ⟨g1, ⟨fp6, n6, f6⟩, k6⟩
        have hbox6 := (hMd.keeps k6 fun x hx => .inl hx).box
        simp only [encO, hj] at hbox6
        simp only [sx, sxl, hbox6, Nat.zero_add, and_true, true_and]
        refine Cl.mono (ref_Spoil_yes (hTd.ref.keeps k6 fun x hx hx' => hTd.dis x hx' hx) hTd.len o.s hl (by omega)) ?_
        rintro r76 w7 ⟨g2, ⟨fq7, n7, f7⟩, k7⟩
        rw [g1, g2, beq_self_eq_true]
        refine hJ _ _ ⟨rfl, _, fp6, fq7, hTd.step (by rw [List.length_set]; exact hT5.len) ?_ n6 f6 k6 n7 f7 k7, hMd.step k6 f6 k7 f7⟩
        intro l' hl'
        rcases List.mem_or_eq_of_mem_set hl' with h' | h'
        · exact hT5.small l' h'
        · subst h'
          show o.s.data.toList.length ≤ 4103
          omega
      · simp (disch := ((try simp only [sx]); first | done | omega)) only [sx, sxc, sxl, hbox, Nat.zero_add, Nat.reduceAdd]
        refine Cl.mono (net_Spoil_no hTd.net b hi) ?_
        rintro r73 _ ⟨g1, rfl⟩
        simp only [sx, sxl, hbox, Nat.zero_add, and_true, true_and]
        refine Cl.mono (ref_Spoil_no hTd.ref o.s hi) ?_
        rintro r76 _ ⟨g2, rfl⟩
        rw [g1, g2, beq_self_eq_true]
        exact hJ _ _ ⟨rfl, L, fp, fq, hTd, hMd⟩
    exact hJ _ _ ⟨rfl, L, fp, fq, hT5, hM5⟩
  rintro _ w6 ⟨rfl, L', fp', fq', hT6, hM6⟩
  clear hT5 hM5 hk45
  -- the caller's bytes are written over
  refine ⟨RowI w w6 b, ⟨b.len, 0, cB o.s.data.toList, rfl, by simp, by omega, hM6.bs, cB_u8 _, Keeps.refl _ _⟩, ?_⟩
  rintro _ _ w7 ⟨j, cs, rfl, rfl, hj, hsx, hu8, hk7⟩
  dsimp only
  by_cases hjl : j < b.len
  · rw [decide_eq_true (by omega)]
    have hcl := hsx.len
    obtain ⟨b6, o6, hp6, hbs6⟩ := hsx.base (by omega)
    obtain ⟨n, hn6⟩ : ∃ n, cs[j]? = some (.int .u8 n) := by
      obtain ⟨n, hn⟩ := hu8 cs[j] (List.getElem_mem _)
      exact ⟨n, by rw [← hn]; exact List.getElem?_eq_getElem (by omega)⟩
    have m6 := hsx.read hp6 (j := j) (by omega)
    rw [hn6] at m6
    simp (disch := ((try simp only [sx]); first | done | omega)) only [sxr, Ix_base hp6, m6, Int.toNat_natCast, Nat.mul_one]
    refine hsx.write' (off := o6 + j) hp6 j rfl (by omega) rfl fun w8 hs8 hk8 => ?_
    have hwj : w64 ((j : Int) + 1) = ((j + 1 : Nat) : Int) := by
      simp only [w64]; rw [IntWalk.i64_in _ (by omega)]; simp
    refine ⟨b.len - (j + 1), by omega, j + 1, _, by rw [hwj], rfl, by omega, hs8, ?_, hk7.trans hk8 (by simp [hbs6])⟩
    intro v hv
    rcases List.mem_or_eq_of_mem_set hv with h' | h'
    · exact hu8 v h'
    · exact ⟨_, h'⟩
  rw [decide_eq_false (by omega)]
  simp only [sx]
  have hT7 := hT6.keeps hk7 fun x hx => ⟨(hM6.bp x hx).1, (hM6.bp x hx).2.1, hbw x hx⟩
  have hB7 := hk7.at hM6.box (fun hh => (hM6.bp B hh).2.2 rfl)
  simp only [encO] at hB7
  refine Jp_of (fun st w' => st = (false, ()) ∧ Keeps [] w7 w') ?_ ?_
  · intro J hJ
    simp only [sx, Bool.not_true]
    refine Cl.mono (same_ok hT7.net hT7.ref hT7.len hT7.small) ?_
    rintro r35 w8 ⟨g, hk8⟩
    rw [g]
    exact hJ _ _ ⟨rfl, hk8⟩
  rintro _ w8 ⟨rfl, hk8⟩
  have hT8 := hT7.keeps hk8 (by simp)
  have hB8 := hk8.at hB7 (by simp)
  simp only [sx, sxl, hB8, Nat.zero_add]
  refine Br_of (fun hg => ?_) (fun hg => fin _ _ _ _ _ hT8)
  -- the net is left for its clone, and spoiled
  refine Cl.mono (net_Clone_ok hT8.net hT8.len hT8.small) ?_
  rintro r31 w9 ⟨p9, fp9, g9, n9, hk9, hf9⟩
  rw [g9]
  simp only [sx, Option.isNone_some]
  have hT9 := hT8.keeps hk9 (by simp)
  have z8 := hT8.keep.size
  have z9 := hk9.size
  refine Cl.mono (net_Send_ok (b := ⟨none, 0, 0⟩) (bs := []) hT9.net ⟨rfl, fun j b hj => by simp at hj⟩ 9 9) ?_
  rintro r32 w10 ⟨_, ⟨fp10, n10, f10⟩, k10⟩
  simp only [sx]
  refine ⟨_, _, _, rfl, hp_alloc_new _ _, ?_⟩
  have z10 := k10.size
  have kz : Keeps [] w10 (setObjW (w10.alloc (.cells #[.int .u8 122, .int .u8 122] 5)) w10.heap.size (.cells #[.int .u8 122, .int .u8 122] 5 (2, 3))) := ((Keeps.refl [] w10).alloc _).setObjW (.inr (Nat.le_refl _)) _
  have hbz : RdB ⟨some ⟨w10.heap.size, 0, none⟩, 2, 2⟩ [122, 122] (setObjW (w10.alloc (.cells #[.int .u8 122, .int .u8 122] 5)) w10.heap.size (.cells #[.int .u8 122, .int .u8 122] 5 (2, 3))) :=
    rdb_row [] (hp_setObjW_same (by rw [World.size_alloc]; omega)) rfl 2
  have hd9 : ∀ x ∈ fp9, x ∉ fp' ∧ x ∉ fq' ∧ w.heap.size ≤ x := fun x hx => by
    have := hf9 x hx
    exact ⟨fun hh => by have := hT8.net.lt x hh; omega, fun hh => by have := hT8.ref.lt x hh; omega, by omega⟩
  -- the old net's own doing leaves the clone and the reference alone
  have done : ∀ w11 : World, Keeps fp10 (setObjW (w10.alloc (.cells #[.int .u8 122, .int .u8 122] 5)) w10.heap.size (.cells #[.int .u8 122, .int .u8 122] 5 (2, 3))) w11 → J8 (false, some ⟨p9, 0, none⟩, ()) w11 := by
    intro w11 k11
    have k911 : Keeps fp' w9 w11 := (k10.trans kz (by simp)).trans k11 fun x hx => by
      rcases f10 x hx with h' | h'
      · exact .inl h'
      · exact .inr h'
    refine fin p9 L' fp9 fq' w11 ⟨hT9.len, hT9.small, n9.keeps k911 fun x hx => (hd9 x hx).1, hT9.ref.keeps k911 fun x hx hx' => hT9.dis x hx' hx, fun x hx => (hd9 x hx).2.1, fun x hx => (hd9 x hx).2.2, hT9.nq, hT9.keep.trans k911 fun x hx => .inr (hT9.np x hx)⟩
  have nz := n10.keeps kz (by simp)
  generalize hL10 : (if sendC 9 9 ([] : List UInt8).length L'.length = 0 then L' ++ [⟨9, 9, []⟩] else L') = L10 at *
  have hl10 : L10.length ≤ 128 := by
    subst hL10
    split
    · rename_i hc
      have := sendC_zero hc
      simp
      omega
    · exact hT9.len
  by_cases h0 : 0 < L10.length
  · have hS := net_Spoil_yes (k := 0) (l := L10[0]) (b := ⟨some ⟨w10.heap.size, 0, none⟩, 2, 2⟩) (bs := [122, 122]) nz hl10 hbz (List.getElem?_eq_getElem h0) (by decide)
    refine Cl.mono hS ?_
    rintro r34 w11 ⟨_, _, k11⟩
    exact done w11 k11
  · have hS := net_Spoil_no (i := 0) nz ⟨some ⟨w10.heap.size, 0, none⟩, 2, 2⟩ (by omega)
    refine Cl.mono hS ?_
    rintro r34 _ ⟨_, rfl⟩
    exact done _ (Keeps.refl _ _)

end Go.Proofs.Ytfkhmbkeniigdaa
