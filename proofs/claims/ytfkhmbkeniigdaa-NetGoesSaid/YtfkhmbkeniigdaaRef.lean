/- Contracts of the reference net's functions. -/
import Derived.Test.YtfkhmbkeniigdaaSxR
import Derived.Test.YtfkhmbkeniigdaaNet
set_option linter.unusedVariables false
set_option linter.unusedSimpArgs false
namespace Go.Proofs.Ytfkhmbkeniigdaa
open Go Go.Sx

def encS (l : Lt) : List Value := [.int .i64 l.f, .int .i64 l.t, .string ⟨l.bs.toArray⟩]
theorem encS_len (l : Lt) : (encS l).length = 3 := rfl
theorem encS_one (L : List Lt) : ∀ v ∈ L.flatMap encS, v.oneCell' = true := by
  intro v hv
  obtain ⟨e', _, hv⟩ := List.mem_flatMap.1 hv
  simp [encS] at hv
  rcases hv with rfl | rfl | rfl <;> rfl

structure RefR (w : World) (q : Nat) (s : Sl) (L : List Lt) : Prop where
  box : w.heap[q]? = some (.cells #[.slice s.p s.len s.cap] 39 (0, 0))
  arr : SlC w s 3 (L.flatMap encS)
  q1 : q ∉ blk s

def RefAt (w : World) (q : Nat) (L : List Lt) (fq : List Nat) : Prop := ∃ s, RefR w q s L ∧ fq = q :: blk s

theorem RefAt.keeps {w w' : World} {q : Nat} {L : List Lt} {fq m : List Nat} (h : RefAt w q L fq) (hk : Keeps m w w') (hd : ∀ x ∈ fq, x ∉ m) : RefAt w' q L fq := by
  obtain ⟨s, h, rfl⟩ := h
  exact ⟨s, ⟨hk.at h.box (hd q (by simp)), h.arr.keeps hk fun x hx => hd x (by simp [hx]), h.q1⟩, rfl⟩

theorem RefAt.lt {w : World} {q : Nat} {L : List Lt} {fq : List Nat} (h : RefAt w q L fq) : ∀ x ∈ fq, x < w.heap.size := by
  obtain ⟨s, h, rfl⟩ := h
  intro x hx
  simp only [List.mem_cons] at hx
  rcases hx with rfl | hx
  · exact hp_lt h.box
  · exact h.arr.lt x hx

/-- The box is turned to another row. -/
theorem RefAt.turn {w w' : World} {q : Nat} {s s' : Sl} {L L' : List Lt} (h : RefR w q s L) (h' : SlC w' s' 3 (L'.flatMap encS)) (hb : blk s' = blk s ∨ ∀ x ∈ blk s', w.heap.size ≤ x) (hq : q < w'.heap.size) :
    RefAt (setObjW w' q (.cells #[.slice s'.p s'.len s'.cap] 39 (0, 0))) q L' (q :: blk s') ∧ ∀ x ∈ q :: blk s', x ∈ q :: blk s ∨ w.heap.size ≤ x := by
  have hn : q ∉ blk s' := by
    intro hh
    rcases hb with hb | hb
    · rw [hb] at hh; exact h.q1 hh
    · have := hb q hh; have := hp_lt h.box; omega
  refine ⟨⟨s', ⟨hp_setObjW_same hq, h'.keeps ((Keeps.refl [q] w').setObjW (.inl (by simp)) _) (fun x hx => by simp; rintro rfl; exact hn hx), hn⟩, rfl⟩, ?_⟩
  intro x hx
  simp only [List.mem_cons] at hx ⊢
  rcases hx with rfl | hx
  · exact .inl (.inl rfl)
  · rcases hb with hb | hb
    · rw [hb] at hx; exact .inl (.inr hx)
    · exact .inr (hb x hx)

theorem ref_Send_ok {w : World} {q : Nat} {L : List Lt} {fq : List Nat} (h : RefAt w q L fq) (b : ByteArray) (f t : Int) :
    Cl Try.prog 10 [.pointer (some ⟨q, 0, none⟩), .int .i64 f, .int .i64 t, .string b] false [.sc (.i .i64)]
      (fun r w' => r.1 = sendC f t b.size L.length ∧ (∃ fq', RefAt w' q (if sendC f t b.size L.length = 0 then L ++ [⟨f, t, b.data.toList⟩] else L) fq' ∧ ∀ x ∈ fq', x ∈ fq ∨ w.heap.size ≤ x) ∧ Keeps fq w w') w := by
  apply sumpterref07_Net_Send_call
  unfold sumpterref07_Net_Send
  refine Jp_of (fun s w' => s = (decide (f < 0 ∨ t < 0), ()) ∧ w = w') ?_ ?_
  · intro J hJ
    refine Br_of (fun hc => hJ _ _ ⟨?_, rfl⟩) (fun hc => hJ _ _ ⟨?_, rfl⟩)
    · simp only [decide_eq_true_eq] at hc
      simp [hc]
    · simp only [decide_eq_false_iff_not] at hc
      simp [hc]
  rintro _ _ ⟨rfl, rfl⟩
  by_cases hneg : f < 0 ∨ t < 0
  · simp only [hneg, decide_true, sx]
    have hc : sendC f t b.size L.length = 1 := by simp [sendC, hneg]
    rw [hc]
    exact ⟨rfl, ⟨fq, h, fun x hx => .inl hx⟩, Keeps.refl _ _⟩
  simp only [hneg, decide_false, sx]
  by_cases hlong : 4103 < b.size
  · rw [decide_eq_true (by omega)]
    simp only [sx]
    have hc : sendC f t b.size L.length = 2 := by simp [sendC, hneg, hlong]
    rw [hc]
    exact ⟨rfl, ⟨fq, h, fun x hx => .inl hx⟩, Keeps.refl _ _⟩
  rw [decide_eq_false (by omega)]
  obtain ⟨s, hn, rfl⟩ := h
  have hsl := hn.arr.slen encS_len (by omega)
  simp only [sx, sxl, hn.box, Nat.zero_add]
  by_cases hfull : 128 ≤ L.length
  · rw [decide_eq_true (by omega)]
    simp only [sx]
    have hc : sendC f t b.size L.length = 62 := by simp [sendC, hneg, hlong, hfull]
    rw [hc]
    exact ⟨rfl, ⟨_, ⟨s, hn, rfl⟩, fun x hx => .inl hx⟩, Keeps.refl _ _⟩
  rw [decide_eq_false (by omega)]
  have hc : sendC f t b.size L.length = 0 := by simp [sendC, hneg, hlong, hfull]
  rw [hc]
  have hcap := hn.arr.cap
  have hqlt := hp_lt hn.box
  simp (disch := ((try simp only [sx]); first | done | omega)) only [sx, sxc, sxl, hn.box, Nat.zero_add, if_true, Int.toNat_natCast, slOff_zero, Nat.sub_zero, and_true, true_and]
  refine ⟨by omega, by omega, ?_⟩
  have hk1 : Keeps [] w (w.drew.alloc (.cells #[.int .i64 f, .int .i64 t, .string b] 44)) := (Keeps.refl [] w).drew.alloc _
  refine App_of (size := 3) (bytes := 32) (new := encS ⟨f, t, b.data.toList⟩) ((hn.arr.cut (c := s.len) (Nat.le_refl _) hcap).keeps hk1 (by simp)) ?_ rfl (by simp [encS, Value.oneCell']) (by kernel_rfl) (by simp only; omega) (by simp only; omega) ?_
  · refine ⟨rfl, fun j v hj => ⟨_, rfl, ?_⟩⟩
    rw [add_of, show (⟨w.heap.size, 0 + j, none⟩ : Addr) = ⟨w.drew.heap.size, 0 + j, none⟩ from rfl, cell_of (hp_alloc_new w.drew _), Nat.zero_add]
    rw [encS, mk_data] at hj
    simpa using hj
  · intro s' w2 hs' hlen' hk2 hb'
    have hbs : blk ⟨s.p, s.len, s.len⟩ = blk s := rfl
    rw [hbs] at hk2 hb'
    have hbox2 := hk2.at (hk1.at hn.box (by simp)) hn.q1
    have hqlt2 := hp_lt hbox2
    simp (disch := ((try simp only [sx]); first | done | omega)) only [sx, sxc, sxl, hbox2, Nat.zero_add, true_and, Nat.reduceLT]
    have ht := RefAt.turn (L' := L ++ [⟨f, t, b.data.toList⟩]) hn (by rw [List.flatMap_append]; simpa using hs') (hb'.imp id (fun h => by rw [h]; simp)) hqlt2
    refine ⟨⟨_, ht.1, ht.2⟩, ?_⟩
    exact ((hk1.mono (by simp)).trans hk2 (fun x hx => .inl (by simp [hx]))).setObjW (.inl (by simp)) _

theorem ref_Take_no {w : World} {q : Nat} {L : List Lt} {fq : List Nat} (h : RefAt w q L fq) {i : Int} (hi : ¬ (0 ≤ i ∧ i < (L.length : Int))) :
    Cl Try.prog 11 [.pointer (some ⟨q, 0, none⟩), .int .i64 i] true [.ag [.i .i64, .i .i64, .s], .sc (.i .i64)]
      (fun r w' => r = ((0, 0, BA [], ()), 5, ()) ∧ RefAt w' q L fq ∧ Keeps [] w w') w := by
  apply sumpterref07_Net_Take_call
  unfold sumpterref07_Net_Take
  have hc := h
  obtain ⟨s, hn, rfl⟩ := h
  have hsl := hn.arr.slen encS_len (by omega)
  have hqlt := hp_lt hn.box
  have hk1 : ∀ A B, Keeps [] w (setObjW (w.alloc A) w.heap.size B) := fun A B => ((Keeps.refl [] w).alloc _).setObjW (.inr (Nat.le_refl _)) _
  simp only [Jp, sx]
  refine Br_of (fun h0 => ?_) (fun h0 => ?_)
  · simp (disch := ((try simp only [sx]); first | done | omega)) only [sx, sxc, sxl, Nat.zero_add, Nat.reduceAdd, Nat.reduceLT, true_and]
    exact ⟨hc.keeps (hk1 _ _) (by simp), hk1 _ _⟩
  · simp only [decide_eq_false_iff_not] at h0
    simp (disch := ((try simp only [sx]); first | done | omega)) only [sx, sxc, sxl, hn.box, Nat.zero_add, Nat.reduceAdd, Nat.reduceLT, true_and]
    rw [decide_eq_true (by omega)]
    simp (disch := ((try simp only [sx]); first | done | omega)) only [sx, sxc, sxl, hn.box, Nat.zero_add, Nat.reduceAdd, Nat.reduceLT, true_and]
    exact ⟨hc.keeps (hk1 _ _) (by simp), hk1 _ _⟩

theorem ref_Take_yes {w : World} {q : Nat} {L : List Lt} {fq : List Nat} (h : RefAt w q L fq) (hL : L.length ≤ 128) {k : Nat} {l : Lt} (hl : L[k]? = some l) :
    Cl Try.prog 11 [.pointer (some ⟨q, 0, none⟩), .int .i64 (k : Int)] true [.ag [.i .i64, .i .i64, .s], .sc (.i .i64)]
      (fun r w' => r = ((l.f, l.t, ⟨l.bs.toArray⟩, ()), 0, ()) ∧ (∃ fq', RefAt w' q (L.eraseIdx k) fq' ∧ ∀ x ∈ fq', x ∈ fq ∨ w.heap.size ≤ x) ∧ Keeps fq w w') w := by
  have hk := (List.getElem?_eq_some_iff.1 hl).1
  apply sumpterref07_Net_Take_call
  unfold sumpterref07_Net_Take
  obtain ⟨s, hn, rfl⟩ := h
  have hsl := hn.arr.slen encS_len (by omega)
  have hqlt := hp_lt hn.box
  obtain ⟨b, o, hp, hbs⟩ := hn.arr.base (by omega)
  have hblt := hn.arr.lt b (by simp [hbs])
  have hr0 := hn.arr.item encS_len hp hl 0 (by omega)
  have hr1 := hn.arr.item encS_len hp hl 1 (by omega)
  have hr2 := hn.arr.item encS_len hp hl 2 (by omega)
  simp only [encS, sxl, Nat.add_zero] at hr0 hr1 hr2
  have hcap := hn.arr.cap
  simp only [Jp, sx]
  rw [decide_eq_false (by omega)]
  simp (disch := ((try simp only [sx]); first | done | omega)) only [sx, sxc, sxl, hn.box, Nat.zero_add, Nat.reduceAdd, Nat.reduceLT, true_and]
  rw [decide_eq_false (by omega)]
  have hw64 : w64 ((k : Int) + 1) = (k : Int) + 1 := by simp only [w64]; exact IntWalk.i64_in _ (by omega)
  have ht1 : Int.toNat ((k : Int) + 1) = k + 1 := by omega
  simp (disch := ((try simp only [sx]); first | done | omega)) only [sx, sxc, sxl, hn.box, Ix_base hp, hr0, hr1, hr2, Int.toNat_natCast, hw64, ht1, Nat.add_zero, Nat.zero_add, Nat.reduceAdd, Nat.reduceLT, true_and, Nat.sub_zero, slOff_zero]
  refine ⟨by omega, by omega, ?_⟩
  generalize hw1 : (setObjW ((w.alloc (.cells #[.int .i64 0, .int .i64 0, .string (BA [])] 44)).alloc (.cells #[.int .i64 0, .int .i64 0, .string (BA [])] 44)) (w.heap.size + 1) (.cells #[.int .i64 l.f, .int .i64 l.t, .string ⟨l.bs.toArray⟩] 44)).drew = w1
  have hk1 : Keeps [] w w1 := by subst hw1; exact ((((Keeps.refl [] w).alloc _).alloc _).setObjW (.inr (by omega)) _).drew
  have hz1 : w1.heap.size = w.heap.size + 2 := by subst hw1; simp only [sx]
  have hA1 : w1.heap[w.heap.size]? = some (.cells #[.int .i64 0, .int .i64 0, .string (BA [])] 44) := by
    subst hw1
    simp (disch := ((try simp only [sx]); first | done | omega)) only [sx, sxc]
  have hB1 : w1.heap[w.heap.size + 1]? = some (.cells #[.int .i64 l.f, .int .i64 l.t, .string ⟨l.bs.toArray⟩] 44) := by
    subst hw1
    simp (disch := ((try simp only [sx]); first | done | omega)) only [sx, sxc]
  have hs1 := (hn.arr.sub (lo := 0) (hi := k) (by omega) (by omega)).rdc
  rw [slOff_zero] at hs1
  simp only [Nat.zero_mul, List.drop_zero, Nat.sub_zero] at hs1
  rw [flat_take encS_len] at hs1
  refine App_of (size := 3) (bytes := 32) (cs := []) (new := (L.take k).flatMap encS) (SlC.nil _ _) (rdc_keeps hs1 hk1 (by simp)) (by rw [flat_length encS_len, List.length_take]; congr 1; omega) (encS_one _) (by kernel_rfl) (by simp only; omega) (by simp only; omega) ?_
  intro r18 w2 hs2 hl2 hk2 hb2
  have hk2' : Keeps [] w1 w2 := hk2
  have hk02 : Keeps [] w w2 := hk1.trans hk2' (by simp)
  have hbox2 := hk02.at hn.box (by simp)
  have hz2 := hk2'.size
  simp (disch := ((try simp only [sx]); first | done | omega)) only [sx, sxc, sxl, hbox2, Nat.zero_add, true_and]
  have hs3 := (hn.arr.sub (lo := k + 1) (hi := s.len) (by omega) (Nat.le_refl _)).rdc
  have hnew : (((L.flatMap encS).drop ((k + 1) * 3)).take ((s.len - (k + 1)) * 3)) = (L.drop (k + 1)).flatMap encS := by
    rw [flat_drop encS_len, List.take_of_length_le]
    rw [flat_length encS_len, List.length_drop]
    omega
  rw [hnew] at hs3
  have hl18 : r18.len = k := by simpa using hl2
  refine App_of (size := 3) (bytes := 32) hs2 (rdc_keeps hs3 hk02 (by simp)) (by rw [flat_length encS_len, List.length_drop]; congr 1; omega) (encS_one _) (by kernel_rfl) (by omega) (by omega) ?_
  intro r20 w3 hs3' hl3 hk3 hb3
  have hb18 : ∀ x ∈ blk r18, w1.heap.size ≤ x := fun x hx => by
    rcases hb2 with hb2 | hb2 <;> rw [hb2] at hx <;> simp [blk] at hx
    omega
  have hb20 : ∀ x ∈ blk r20, w1.heap.size ≤ x := fun x hx => by
    rcases hb3 with hb3 | hb3 <;> rw [hb3] at hx
    · exact hb18 x hx
    · simp at hx; omega
  have hk13 : Keeps [] w1 w3 := hk2'.trans hk3 (fun x hx => .inr (hb18 x hx))
  have hk03 : Keeps [] w w3 := hk1.trans hk13 (by simp)
  have hbox3 := hk03.at hn.box (by simp)
  have hA3 := hk13.at hA1 (by simp)
  have hB3 := hk13.at hB1 (by simp)
  have hz3 := hk13.size
  have hqlt3 := hp_lt hbox3
  simp (disch := ((try simp only [sx]); first | done | omega)) only [sx, sxc, sxl, hbox3, hA3, hB3, Nat.zero_add, Nat.reduceAdd, Nat.reduceLT, true_and]
  have he : L.eraseIdx k = L.take k ++ L.drop (k + 1) := List.eraseIdx_eq_take_drop_succ ..
  have ht := RefAt.turn (L' := L.eraseIdx k) hn (by rw [he, List.flatMap_append]; simpa using hs3') (.inr fun x hx => by have := hb20 x hx; omega) hqlt3
  have hkA : ∀ A, Keeps [] w (setObjW w3 w.heap.size A) := fun A => hk03.setObjW (.inr (Nat.le_refl _)) _
  refine ⟨⟨_, ht.1.keeps ((Keeps.refl [w.heap.size] _).setObjW (.inl (by simp)) _) ?_, ht.2⟩, ?_⟩
  · intro x hx
    simp only [List.mem_cons] at hx
    rcases hx with rfl | hx
    · simp; omega
    · have := hb20 x hx
      simp
      omega
  · exact ((hk03.mono (by simp)).setObjW (.inl (by simp)) _).setObjW (.inr (Nat.le_refl _)) _

theorem ref_Double_no {w : World} {q : Nat} {L : List Lt} {fq : List Nat} (h : RefAt w q L fq) {i : Int} (hi : ¬ (0 ≤ i ∧ i < (L.length : Int))) :
    Cl Try.prog 14 [.pointer (some ⟨q, 0, none⟩), .int .i64 i] false [.sc (.i .i64)] (fun r w' => r.1 = 5 ∧ w = w') w := by
  apply sumpterref07_Net_Double_call
  unfold sumpterref07_Net_Double
  obtain ⟨s, hn, rfl⟩ := h
  have hsl := hn.arr.slen encS_len (by omega)
  simp only [Jp, sx]
  refine Br_of (fun h0 => ?_) (fun h0 => ?_)
  · exact ⟨by trivial, by trivial⟩
  · simp only [decide_eq_false_iff_not] at h0
    simp only [sx, sxl, hn.box, Nat.zero_add]
    rw [decide_eq_true (by omega)]
    exact ⟨by trivial, by trivial⟩

theorem ref_Double_yes {w : World} {q : Nat} {L : List Lt} {fq : List Nat} (h : RefAt w q L fq) (hL : L.length ≤ 128) {k : Nat} {l : Lt} (hl : L[k]? = some l) :
    Cl Try.prog 14 [.pointer (some ⟨q, 0, none⟩), .int .i64 (k : Int)] false [.sc (.i .i64)]
      (fun r w' => r.1 = sendC l.f l.t l.bs.length L.length ∧ (∃ fq', RefAt w' q (if sendC l.f l.t l.bs.length L.length = 0 then L ++ [l] else L) fq' ∧ ∀ x ∈ fq', x ∈ fq ∨ w.heap.size ≤ x) ∧ Keeps fq w w') w := by
  have hk := (List.getElem?_eq_some_iff.1 hl).1
  apply sumpterref07_Net_Double_call
  unfold sumpterref07_Net_Double
  have hc := h
  obtain ⟨s, hn, rfl⟩ := h
  have hsl := hn.arr.slen encS_len (by omega)
  obtain ⟨b, o, hp, hbs⟩ := hn.arr.base (by omega)
  have hr0 := hn.arr.item encS_len hp hl 0 (by omega)
  have hr1 := hn.arr.item encS_len hp hl 1 (by omega)
  have hr2 := hn.arr.item encS_len hp hl 2 (by omega)
  simp only [encS, sxl, Nat.add_zero] at hr0 hr1 hr2
  simp only [Jp, sx]
  rw [decide_eq_false (by omega)]
  simp only [sx, sxl, hn.box, Nat.zero_add]
  rw [decide_eq_false (by omega)]
  simp (disch := ((try simp only [sx]); first | done | omega)) only [sx, sxc, sxl, hn.box, Ix_base hp, hr0, hr1, hr2, Int.toNat_natCast, Nat.add_zero, Nat.zero_add, Nat.reduceAdd, Nat.reduceLT, true_and]
  refine Cl.mono (ref_Send_ok (hc.keeps (Keeps.refl [] w).drew (by simp)) ⟨l.bs.toArray⟩ l.f l.t) ?_
  rintro r w2 ⟨h1, h2, h3⟩
  have hz : ByteArray.size ⟨l.bs.toArray⟩ = l.bs.length := rfl
  rw [hz] at h1 h2
  exact ⟨h1, h2, ((Keeps.refl [] w).drew.mono (by simp)).trans h3 (fun x hx => .inl hx)⟩

def spoilC (i : Int) (n k : Nat) : Int := if ¬ (0 ≤ i ∧ i < (k : Int)) then 5 else if 4103 < n then 2 else 0

theorem ref_Spoil_no {w : World} {q : Nat} {L : List Lt} {fq : List Nat} (h : RefAt w q L fq) {i : Int} (b : ByteArray) (hi : ¬ (0 ≤ i ∧ i < (L.length : Int))) :
    Cl Try.prog 16 [.pointer (some ⟨q, 0, none⟩), .int .i64 i, .string b] false [.sc (.i .i64)] (fun r w' => r.1 = 5 ∧ w = w') w := by
  apply sumpterref07_Net_Spoil_call
  unfold sumpterref07_Net_Spoil
  obtain ⟨s, hn, rfl⟩ := h
  have hsl := hn.arr.slen encS_len (by omega)
  simp only [Jp, sx]
  refine Br_of (fun h0 => ?_) (fun h0 => ?_)
  · exact ⟨by trivial, by trivial⟩
  · simp only [decide_eq_false_iff_not] at h0
    simp only [sx, sxl, hn.box, Nat.zero_add]
    rw [decide_eq_true (by omega)]
    exact ⟨by trivial, by trivial⟩

theorem ref_Spoil_long {w : World} {q : Nat} {L : List Lt} {fq : List Nat} (h : RefAt w q L fq) {k : Nat} (b : ByteArray) (hk : k < L.length) (hb : 4103 < b.size) :
    Cl Try.prog 16 [.pointer (some ⟨q, 0, none⟩), .int .i64 (k : Int), .string b] false [.sc (.i .i64)] (fun r w' => r.1 = 2 ∧ w = w') w := by
  apply sumpterref07_Net_Spoil_call
  unfold sumpterref07_Net_Spoil
  obtain ⟨s, hn, rfl⟩ := h
  have hsl := hn.arr.slen encS_len (by omega)
  simp only [Jp, sx]
  rw [decide_eq_false (by omega)]
  simp only [sx, sxl, hn.box, Nat.zero_add]
  rw [decide_eq_false (by omega), decide_eq_true (by omega)]
  exact ⟨by trivial, by trivial⟩

theorem ref_Spoil_yes {w : World} {q : Nat} {L : List Lt} {fq : List Nat} (h : RefAt w q L fq) (hL : L.length ≤ 128) {k : Nat} {l : Lt} (b : ByteArray) (hl : L[k]? = some l) (hb : b.size ≤ 4103) :
    Cl Try.prog 16 [.pointer (some ⟨q, 0, none⟩), .int .i64 (k : Int), .string b] false [.sc (.i .i64)]
      (fun r w' => r.1 = 0 ∧ (∃ fq', RefAt w' q (L.set k ⟨l.f, l.t, b.data.toList⟩) fq' ∧ ∀ x ∈ fq', x ∈ fq ∨ w.heap.size ≤ x) ∧ Keeps fq w w') w := by
  have hk := (List.getElem?_eq_some_iff.1 hl).1
  apply sumpterref07_Net_Spoil_call
  unfold sumpterref07_Net_Spoil
  obtain ⟨s, hn, rfl⟩ := h
  have hsl := hn.arr.slen encS_len (by omega)
  simp only [Jp, sx]
  rw [decide_eq_false (by omega)]
  simp only [sx, sxl, hn.box, Nat.zero_add]
  rw [decide_eq_false (by omega), decide_eq_false (by omega)]
  simp only [sx, sxl, hn.box, Nat.zero_add]
  refine App_of (size := 3) (bytes := 32) (cs := []) (SlC.nil _ _) hn.arr.rdc (by rw [flat_length encS_len, hsl]) (encS_one _) (by kernel_rfl) (by simp only; omega) (by simp only; omega) ?_
  intro r5 w1 hs1 hl1 hk1 hb1
  have hk1' : Keeps [] w w1 := hk1
  have hbox1 := hk1'.at hn.box (by simp)
  have hqlt1 := hp_lt hbox1
  have hqlt := hp_lt hn.box
  have hb5 : ∀ x ∈ blk r5, w.heap.size ≤ x := fun x hx => by
    rcases hb1 with hb1 | hb1 <;> rw [hb1] at hx <;> simp [blk] at hx
    omega
  have hl5 : r5.len = s.len := by simpa using hl1
  rw [List.nil_append] at hs1
  obtain ⟨b5, o5, hp5, hbs5⟩ := hs1.base (by omega)
  have hq5 : q ≠ b5 := fun he => by have := hb5 b5 (by simp [hbs5]); omega
  simp (disch := ((try simp only [sx]); first | done | omega)) only [sx, sxc, sxl, hbox1, Nat.zero_add, Nat.reduceLT, true_and]
  rw [Ix_base hp5 (by omega) (by omega), add_of, Int.toNat_natCast]
  have ht := RefAt.turn (L' := L) hn hs1 (.inr hb5) hqlt1
  have hkt : Keeps [q] w (setObjW w1 q (.cells #[.slice r5.p r5.len r5.cap] 39 (0, 0))) := (hk1'.mono (by simp)).setObjW (.inl (by simp)) _
  have hs2 := hs1.keeps ((Keeps.refl [q] w1).setObjW (b := q) (.inl (by simp)) (.cells #[.slice r5.p r5.len r5.cap] 39 (0, 0))) (by simp [hbs5]; omega)
  have hcl : (L.flatMap encS).length = L.length * 3 := flat_length encS_len L
  refine hs2.write' (off := o5 + k * 3 + 2) hp5 (k * 3 + 2) (by omega) (by rw [hcl]; omega) rfl fun w2 hs3 hk3 => ?_
  have hse : (L.flatMap encS).set (k * 3 + 2) (.string b) = (L.set k ⟨l.f, l.t, b.data.toList⟩).flatMap encS := by
    rw [← flat_set encS_len L k _ hk]
    apply List.ext_getElem?
    intro j
    rw [setL_get (by rw [encS_len, hcl]; omega)]
    have hg : ∀ i, i < 3 → (L.flatMap encS)[k * 3 + i]? = (encS l)[i]? := fun i hi => by rw [flat_get encS_len L k i hi, hl]; rfl
    by_cases hj : k * 3 ≤ j ∧ j < k * 3 + 3
    · rw [encS_len, if_pos hj]
      obtain ⟨i, hi, rfl⟩ : ∃ i, i < 3 ∧ j = k * 3 + i := ⟨j - k * 3, by omega, by omega⟩
      rw [Nat.add_sub_cancel_left]
      match i, hi with
      | 0, _ => rw [List.getElem?_set_ne (by omega), hg 0 (by omega)]; rfl
      | 1, _ => rw [List.getElem?_set_ne (by omega), hg 1 (by omega)]; rfl
      | 2, _ => rw [List.getElem?_set_self (by rw [hcl]; omega)]; simp [encS, mk_data]
    · rw [encS_len, if_neg hj, List.getElem?_set_ne (by omega)]
  rw [hse] at hs3
  refine ⟨⟨q :: blk r5, ⟨r5, ⟨hk3.at (hp_setObjW_same hqlt1) (by simp; omega), hs3, by simp [hbs5]; omega⟩, rfl⟩, ?_⟩, ?_⟩
  · intro x hx
    simp only [List.mem_cons] at hx ⊢
    rcases hx with rfl | hx
    · exact .inl (.inl rfl)
    · exact .inr (hb5 x hx)
  · exact (hkt.trans hk3 (fun x hx => .inr (hb5 x (by simpa [hbs5] using hx)))).mono (by simp)

end Go.Proofs.Ytfkhmbkeniigdaa
