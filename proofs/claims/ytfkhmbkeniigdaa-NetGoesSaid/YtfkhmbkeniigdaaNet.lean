/- Contracts of package net's functions. -/
import Derived.Test.YtfkhmbkeniigdaaSxP
import Derived.Test.YtfkhmbkeniigdaaSem
set_option linter.unusedVariables false
set_option linter.unusedSimpArgs false
namespace Go.Proofs.Ytfkhmbkeniigdaa
open Go Go.Sx

/-! ### letters -/
structure Lt where
  f : Int
  t : Int
  bs : List UInt8
structure El where
  f : Int
  t : Int
  s : Sl
def encE (e : El) : List Value := [.int .i64 e.f, .int .i64 e.t, .slice e.s.p e.s.len e.s.cap]
theorem encE_len (e : El) : (encE e).length = 3 := rfl
def blkE (els : List El) : List Nat := els.flatMap fun e => blk e.s
theorem mem_blkE {els : List El} {x : Nat} : x ∈ blkE els ↔ ∃ e ∈ els, x ∈ blk e.s := by simp [blkE]

structure Mt (w : World) (e : El) (l : Lt) : Prop where
  f : e.f = l.f
  t : e.t = l.t
  b : SlC w e.s 1 (cB l.bs)

structure LtsR (w : World) (els : List El) (L : List Lt) : Prop where
  len : els.length = L.length
  mt : ∀ (i : Nat) (e : El) (l : Lt), els[i]? = some e → L[i]? = some l → Mt w e l
  apart : els.Pairwise fun a b => ∀ x ∈ blk a.s, x ∉ blk b.s

theorem LtsR.get {w : World} {els : List El} {L : List Lt} (h : LtsR w els L) {e : El} (he : e ∈ els) : ∃ l ∈ L, Mt w e l := by
  obtain ⟨i, hi, rfl⟩ := List.mem_iff_getElem.1 he
  have hl : i < L.length := by rw [← h.len]; exact hi
  exact ⟨L[i], List.getElem_mem hl, h.mt i _ _ (List.getElem?_eq_getElem hi) (List.getElem?_eq_getElem hl)⟩

theorem LtsR.keeps {w w' : World} {els : List El} {L : List Lt} {m : List Nat} (h : LtsR w els L) (hk : Keeps m w w') (hd : ∀ x ∈ blkE els, x ∉ m) : LtsR w' els L := by
  refine ⟨h.len, fun i e l he hl => ?_, h.apart⟩
  have := h.mt i e l he hl
  exact ⟨this.f, this.t, this.b.keeps hk fun x hx => hd x (mem_blkE.2 ⟨e, List.mem_of_getElem? he, hx⟩)⟩

theorem LtsR.lt {w : World} {els : List El} {L : List Lt} (h : LtsR w els L) : ∀ x ∈ blkE els, x < w.heap.size := by
  intro x hx
  obtain ⟨e, he, hx⟩ := mem_blkE.1 hx
  obtain ⟨l, _, hm⟩ := h.get he
  exact hm.b.lt x hx

theorem LtsR.nil (w : World) : LtsR w [] [] := ⟨rfl, fun i e l he => by simp at he, List.Pairwise.nil⟩

theorem LtsR.snoc {w : World} {els : List El} {L : List Lt} (h : LtsR w els L) {e : El} {l : Lt} (hm : Mt w e l) (hd : ∀ x ∈ blk e.s, x ∉ blkE els) : LtsR w (els ++ [e]) (L ++ [l]) := by
  refine ⟨by simp [h.len], fun i e' l' he hl => ?_, ?_⟩
  · by_cases hi : i < els.length
    · rw [List.getElem?_append_left hi] at he
      rw [List.getElem?_append_left (by rw [← h.len]; exact hi)] at hl
      exact h.mt i e' l' he hl
    · rw [List.getElem?_append_right (by omega)] at he
      rw [List.getElem?_append_right (by rw [← h.len]; omega), ← h.len] at hl
      have hz : i - els.length = 0 := by
        have := (List.getElem?_eq_some_iff.1 he).1
        simp at this
        omega
      rw [hz] at he hl
      simp at he hl
      subst he hl
      exact hm
  · rw [List.pairwise_append]
    refine ⟨h.apart, by simp, fun a ha b hb x hx hy => ?_⟩
    simp at hb
    subst hb
    exact hd x hy (mem_blkE.2 ⟨a, ha, hx⟩)

theorem LtsR.erase {w : World} {els : List El} {L : List Lt} (h : LtsR w els L) (i : Nat) : LtsR w (els.eraseIdx i) (L.eraseIdx i) := by
  refine ⟨by simp [List.length_eraseIdx, h.len], fun j e l he hl => ?_, h.apart.sublist (List.eraseIdx_sublist _ _)⟩
  rw [List.getElem?_eraseIdx] at he hl
  split at he
  · rename_i hj; rw [if_pos hj] at hl; exact h.mt j e l he hl
  · rename_i hj; rw [if_neg hj] at hl; exact h.mt _ e l he hl

theorem blkE_append (a b : List El) : blkE (a ++ b) = blkE a ++ blkE b := by simp [blkE]
theorem blkE_sub {a b : List El} (h : ∀ e ∈ a, e ∈ b) {x : Nat} (hx : x ∈ blkE a) : x ∈ blkE b := by
  obtain ⟨e, he, hx⟩ := mem_blkE.1 hx
  exact mem_blkE.2 ⟨e, h e he, hx⟩

/-! ### a net -/
structure NetR (w : World) (p : Nat) (s : Sl) (els : List El) (L : List Lt) : Prop where
  box : w.heap[p]? = some (.cells #[.slice s.p s.len s.cap] 55 (0, 0))
  arr : SlC w s 3 (els.flatMap encE)
  lts : LtsR w els L
  p1 : p ∉ blk s
  p2 : p ∉ blkE els
  p3 : ∀ x ∈ blk s, x ∉ blkE els

def NetAt (w : World) (p : Nat) (L : List Lt) (fp : List Nat) : Prop := ∃ s els, NetR w p s els L ∧ fp = p :: (blk s ++ blkE els)

theorem NetR.slen {w : World} {p : Nat} {s : Sl} {els : List El} {L : List Lt} (h : NetR w p s els L) : s.len = L.length := by
  have := h.arr.len
  rw [flat_length encE_len, h.lts.len] at this
  omega

theorem NetAt.keeps {w w' : World} {p : Nat} {L : List Lt} {fp m : List Nat} (h : NetAt w p L fp) (hk : Keeps m w w') (hd : ∀ x ∈ fp, x ∉ m) : NetAt w' p L fp := by
  obtain ⟨s, els, h, rfl⟩ := h
  refine ⟨s, els, ⟨hk.at h.box (hd p (by simp)), h.arr.keeps hk fun x hx => hd x (by simp [hx]), h.lts.keeps hk fun x hx => hd x (by simp [hx]), h.p1, h.p2, h.p3⟩, rfl⟩

theorem NetAt.lt {w : World} {p : Nat} {L : List Lt} {fp : List Nat} (h : NetAt w p L fp) : ∀ x ∈ fp, x < w.heap.size := by
  obtain ⟨s, els, h, rfl⟩ := h
  intro x hx
  simp only [List.mem_cons, List.mem_append] at hx
  rcases hx with rfl | hx | hx
  · exact hp_lt h.box
  · exact h.arr.lt x hx
  · exact h.lts.lt x hx

/-! ### slices.Clone, Letter.clone -/
theorem slices_Clone_ok {s : Sl} {bs : List UInt8} {w : World} (h : RdB s bs w) (hl : s.len ≤ 140737488355328) :
    Cl Try.prog 22 [.slice s.p s.len s.cap] false [.sc .sl] (fun r w' => SlC w' r.1 1 (cB bs) ∧ Keeps [] w w' ∧ (∀ x ∈ blk r.1, w.heap.size ≤ x)) w := by
  apply slices_Clone_call
  unfold slices_Clone
  cases hp : s.p with
  | none =>
    have h0 : bs = [] := by
      cases bs with
      | nil => rfl
      | cons b r => obtain ⟨a, ha, _⟩ := h.2 0 b rfl; rw [hp] at ha; cases ha
    subst h0
    exact ⟨SlC.nil w 1, Keeps.refl _ _, by simp [blk]⟩
  | some a =>
    simp only [Option.isNone_some, sx]
    refine App_of (cs := []) (new := cB bs) ⟨rfl, Nat.le_refl _, .inr ⟨w.heap.size, 0, _, _, _, rfl, hp_alloc_new w _, by simp, by simp, by simp⟩⟩ ?_ (by simp [cB, h.1]) (cB_one bs) rfl (by simpa using hl) (by simp; omega) ?_
    · exact rdc_keeps (by have := rdb_rdc h; rw [hp] at this; simpa using this) ((Keeps.refl [] w).alloc _) (by simp)
    · intro r w' hr hrl hk hb
      refine ⟨by simpa using hr, ((Keeps.refl [] w).alloc _).trans hk (by simp [blk]), ?_⟩
      intro x hx
      rcases hb with hb | hb <;> rw [hb] at hx <;> simp [blk] at hx <;> omega

theorem Letter_clone_ok {f t : Int} {s : Sl} {bs : List UInt8} {w : World} (h : RdB s bs w) (hl : s.len ≤ 140737488355328) :
    Cl Try.prog 20 [.agg #[.int .i64 f, .int .i64 t, .slice s.p s.len s.cap]] false [.ag [.i .i64, .i .i64, .sl]]
      (fun r w' => r.1.1 = f ∧ r.1.2.1 = t ∧ SlC w' r.1.2.2.1 1 (cB bs) ∧ Keeps [] w w' ∧ (∀ x ∈ blk r.1.2.2.1, w.heap.size ≤ x)) w := by
  apply net_Letter_clone_call
  unfold net_Letter_clone
  simp (disch := ((try simp only [sx]); first | done | omega)) only [sx, sxc, sxl, and_true, true_and, Nat.zero_add, Nat.reduceAdd]
  have hk0 : ∀ A B, Keeps [] w ((w.alloc A).alloc B).drew := fun A B => (((Keeps.refl [] w).alloc _).alloc _).drew
  refine Cl.mono (slices_Clone_ok (rdb_keeps h (hk0 _ _) (by simp)) hl) ?_
  rintro r w' ⟨h1, hk, h3⟩
  have hg := fun k hk' => hk.get k hk' (by simp)
  have hs := hk.size
  simp only [sx] at hg hs h3
  simp (disch := ((try simp only [sx]); first | done | omega)) only [sx, sxc, sxl, hg, and_true, true_and, Nat.zero_add, Nat.reduceAdd, Nat.reduceLT]
  have hk2 : Keeps [] w w' := (hk0 _ _).trans hk (by simp)
  refine ⟨h1.keeps ((Keeps.refl [w.heap.size + 1] w').setObjW (.inl (by simp)) _) ?_, hk2.setObjW (.inr (by omega)) _, fun x hx => ?_⟩
  · intro x hx
    have := h3 x hx
    simp
    omega
  · have := h3 x hx
    omega

/-! ### New, Len, there -/
theorem net_New_ok {w : World} : Cl Try.prog 6 [] false [.sc .p] (fun r w' => r.1 = some ⟨w.heap.size, 0, none⟩ ∧ NetAt w' w.heap.size [] [w.heap.size] ∧ Keeps [] w w') w := by
  apply net_New_call
  unfold net_New
  simp only [sx]
  refine ⟨trivial, ⟨⟨none, 0, 0⟩, [], ⟨hp_alloc_new _ _, SlC.nil _ _, LtsR.nil _, by simp [blk], by simp [blkE], by simp [blk]⟩, by simp [blk, blkE]⟩, (Keeps.refl _ _).alloc _⟩

theorem net_Len_ok {w : World} {p : Nat} {L : List Lt} {fp : List Nat} (h : NetAt w p L fp) : Cl Try.prog 9 [.pointer (some ⟨p, 0, none⟩)] false [.sc (.i .i64)] (fun r w' => r.1 = (L.length : Int) ∧ w = w') w := by
  apply net_Net_Len_call
  unfold net_Net_Len
  obtain ⟨s, els, h, rfl⟩ := h
  simp only [sx, sxl, h.box, Nat.zero_add]
  exact ⟨by rw [h.slen], trivial⟩

theorem net_there_ok {w : World} {p : Nat} {L : List Lt} {fp : List Nat} (h : NetAt w p L fp) (i : Int) : Cl Try.prog 21 [.pointer (some ⟨p, 0, none⟩), .int .i64 i] false [.sc .b] (fun r w' => r.1 = decide (0 ≤ i ∧ i < (L.length : Int)) ∧ w = w') w := by
  apply net_Net_there_call
  unfold net_Net_there
  obtain ⟨s, els, h, rfl⟩ := h
  by_cases h0 : 0 ≤ i
  · simp only [ge_iff_le, h0, decide_true, sx, sxl, h.box, Nat.zero_add, h.slen, true_and, and_true]
  · simp only [ge_iff_le, h0, decide_false, sx, sxl, false_and, and_true]


/-! ### Send -/
def sendC (f t : Int) (n k : Nat) : Int := if f < 0 ∨ t < 0 then 1 else if 4103 < n then 2 else if 128 ≤ k then 62 else 0

theorem net_Send_ok {w : World} {p : Nat} {L : List Lt} {fp : List Nat} (h : NetAt w p L fp) {b : Sl} {bs : List UInt8} (hb : RdB b bs w) (f t : Int) :
    Cl Try.prog 7 [.pointer (some ⟨p, 0, none⟩), .int .i64 f, .int .i64 t, .slice b.p b.len b.cap] false [.sc (.i .i64)]
      (fun r w' => r.1 = sendC f t bs.length L.length ∧ (∃ fp', NetAt w' p (if sendC f t bs.length L.length = 0 then L ++ [⟨f, t, bs⟩] else L) fp' ∧ ∀ x ∈ fp', x ∈ fp ∨ w.heap.size ≤ x) ∧ Keeps fp w w') w := by
  apply net_Net_Send_call
  unfold net_Net_Send
  have hbl := hb.1
  refine Jp_of (fun s w' => s = (decide (f < 0 ∨ t < 0), ()) ∧ w = w') ?_ ?_
  · intro J hJ
    refine Br_of (fun hc => hJ _ _ ⟨?_, rfl⟩) (fun hc => hJ _ _ ⟨?_, rfl⟩)
    · simp only [decide_eq_true_eq] at hc
      simp [hc]
    · simp only [decide_eq_false_iff_not] at hc
      simp [hc]
  rintro _ _ ⟨rfl, rfl⟩
  by_cases hneg : f < 0 ∨ t < 0
  · simp only [hneg, decide_true, sx]
    have hc : sendC f t bs.length L.length = 1 := by simp [sendC, hneg]
    rw [hc]
    exact ⟨rfl, ⟨fp, h, fun x hx => .inl hx⟩, Keeps.refl _ _⟩
  simp only [hneg, decide_false, sx]
  by_cases hlong : 4103 < bs.length
  · have hd : decide (((b.len : Nat) : Int) > 4103) = true := by simp; omega
    rw [hd]
    simp only [sx]
    have hc : sendC f t bs.length L.length = 2 := by simp [sendC, hneg, hlong]
    rw [hc]
    exact ⟨rfl, ⟨fp, h, fun x hx => .inl hx⟩, Keeps.refl _ _⟩
  have hd : decide (((b.len : Nat) : Int) > 4103) = false := by simp; omega
  rw [hd]
  obtain ⟨s, els, hn, rfl⟩ := h
  have hsl := hn.slen
  simp only [sx, sxl, hn.box, Nat.zero_add]
  by_cases hfull : 128 ≤ L.length
  · have hd : decide (((s.len : Nat) : Int) ≥ 128) = true := by simp; omega
    rw [hd]
    simp only [sx]
    have hc : sendC f t bs.length L.length = 62 := by simp [sendC, hneg, hlong, hfull]
    rw [hc]
    exact ⟨rfl, ⟨_, ⟨s, els, hn, rfl⟩, fun x hx => .inl hx⟩, Keeps.refl _ _⟩
  have hd : decide (((s.len : Nat) : Int) ≥ 128) = false := by simp; omega
  rw [hd]
  have hc : sendC f t bs.length L.length = 0 := by simp [sendC, hneg, hlong, hfull]
  rw [hc]
  simp only [sx, sxl, hn.box, Nat.zero_add, if_true]
  refine Cl.mono (Letter_clone_ok (bs := bs) (rdb_keeps hb (Keeps.refl [] w).drew (by simp)) (by omega)) ?_
  rintro r w1 ⟨h1, h2, h3, hk, h4⟩
  have hk1 : Keeps [] w w1 := (Keeps.refl [] w).drew.trans hk (by simp)
  have hsz := hk.size
  simp only [sx] at hsz h4
  have hbox := hk1.at hn.box (by simp)
  have hplt1 := hp_lt hbox
  simp (disch := ((try simp only [sx]); first | done | omega)) only [sx, sxc, sxl, hbox, Nat.zero_add, true_and]
  have hka : Keeps [] w (w1.alloc (.cells #[.int .i64 r.1.1, .int .i64 r.1.2.1, .slice r.1.2.2.1.p r.1.2.2.1.len r.1.2.2.1.cap] 30)) := hk1.alloc _
  refine App_of (size := 3) (bytes := 40) (new := encE ⟨f, t, r.1.2.2.1⟩) (hn.arr.keeps hka (by simp)) ?_ rfl (by simp [encE, Value.oneCell']) (by kernel_rfl) (by omega) (by omega) ?_
  · refine ⟨rfl, fun j v hj => ⟨_, rfl, ?_⟩⟩
    rw [add_of, cell_of (hp_alloc_new w1 _), h1, h2, Nat.zero_add]
    simpa [encE] using hj
  · intro s' w2 hs' hlen' hk2 hb'
    have hpn : p ∉ blk s := hn.p1
    have hbox2 := hk2.at (hka.at hn.box (by simp)) hpn
    have hs2 := hk2.size
    simp only [sx] at hs2
    have hplt2 := hp_lt hbox2
    simp (disch := ((try simp only [sx]); first | done | omega)) only [sx, sxc, sxl, hbox2, Nat.zero_add, true_and, Nat.reduceLT]
    have hplt := hp_lt hn.box
    have hblt := hn.arr.lt
    have helt := hn.lts.lt
    have hpb' : p ∉ blk s' := by
      rcases hb' with hb' | hb' <;> rw [hb']
      · exact hpn
      · simp; omega
    have hkf : Keeps (p :: (blk s ++ blkE els)) w (setObjW w2 p (.cells #[.slice s'.p s'.len s'.cap] 55 (0, 0))) := by
      refine Keeps.setObjW ?_ (.inl (by simp)) _
      exact (hka.mono (by simp)).trans hk2 (fun x hx => .inl (by simp [hx]))
    refine ⟨⟨_, ⟨s', els ++ [⟨f, t, r.1.2.2.1⟩], ⟨hp_setObjW_same (hp_lt hbox2), ?_, ?_, hpb', ?_, ?_⟩, rfl⟩, ?_⟩, hkf⟩
    · rw [List.flatMap_append]
      simp only [List.flatMap_cons, List.flatMap_nil, List.append_nil]
      exact hs'.keeps ((Keeps.refl [p] w2).setObjW (.inl (by simp)) _) (fun x hx => by simp; rintro rfl; exact hpb' hx)
    · refine LtsR.snoc (hn.lts.keeps (m := p :: blk s) ?_ ?_) ⟨rfl, rfl, ?_⟩ ?_
      · refine Keeps.setObjW ?_ (.inl (by simp)) _
        exact (hka.mono (by simp)).trans hk2 (fun x hx => .inl (by simp [hx]))
      · intro x hx
        simp only [List.mem_cons, not_or]
        exact ⟨fun he => hn.p2 (he ▸ hx), fun hh => hn.p3 x hh hx⟩
      · refine h3.keeps (m := p :: blk s) ?_ ?_
        · refine Keeps.setObjW ?_ (.inl (by simp)) _
          exact ((Keeps.refl _ w1).alloc _).trans hk2 (fun x hx => .inl (by simp [hx]))
        · intro x hx
          have := h4 x hx
          simp only [List.mem_cons, not_or]
          exact ⟨by omega, fun hh => by have := hblt x hh; omega⟩
      · intro x hx hx'
        have := h4 x hx
        have := helt x hx'
        omega
    · rw [blkE_append]
      simp only [List.mem_append, not_or]
      refine ⟨hn.p2, ?_⟩
      intro hx
      obtain ⟨e, he, hx⟩ := mem_blkE.1 hx
      simp at he
      subst he
      have := h4 p hx
      omega
    · intro x hx hx'
      rw [blkE_append, List.mem_append] at hx'
      rcases hx' with hx' | hx'
      · have h5 := helt x hx'
        rcases hb' with hb' | hb' <;> rw [hb'] at hx
        · exact hn.p3 x hx hx'
        · simp at hx; omega
      · obtain ⟨e, he, hx'⟩ := mem_blkE.1 hx'
        simp at he
        subst he
        have h5 := h4 x hx'
        have h6 := h3.lt x hx'
        rcases hb' with hb' | hb' <;> rw [hb'] at hx
        · have := hblt x hx; omega
        · simp at hx; omega
    · intro x hx
      simp only [List.mem_cons, List.mem_append, blkE_append] at hx
      rcases hx with rfl | hx | hx | hx
      · exact .inl (by simp)
      · rcases hb' with hb' | hb' <;> rw [hb'] at hx
        · exact .inl (by simp [hx])
        · simp at hx; exact .inr (by omega)
      · exact .inl (by simp [hx])
      · obtain ⟨e, he, hx⟩ := mem_blkE.1 hx
        simp at he
        subst he
        have := h4 x hx
        exact .inr (by omega)


/-! ### Take -/
theorem net_Take_no {w : World} {p : Nat} {L : List Lt} {fp : List Nat} (h : NetAt w p L fp) {i : Int} (hi : ¬ (0 ≤ i ∧ i < (L.length : Int))) :
    Cl Try.prog 8 [.pointer (some ⟨p, 0, none⟩), .int .i64 i] true [.ag [.i .i64, .i .i64, .sl], .sc (.i .i64)]
      (fun r w' => r = ((0, 0, ⟨none, 0, 0⟩, ()), 5, ()) ∧ NetAt w' p L fp ∧ Keeps [] w w') w := by
  apply net_Net_Take_call
  unfold net_Net_Take
  simp only [sx]
  have hk0 : ∀ A, Keeps [] w (w.alloc A) := fun A => (Keeps.refl [] w).alloc _
  refine Cl.mono (net_there_ok (h.keeps (hk0 _) (by simp)) i) ?_
  rintro r w' ⟨hr, rfl⟩
  rw [hr, decide_eq_false hi]
  simp (disch := ((try simp only [sx]); first | done | omega)) only [sx, sxc, sxl, Bool.not_false, Nat.zero_add, Nat.reduceAdd, Nat.reduceLT, true_and]
  have hk1 : ∀ A B, Keeps [] w (setObjW (w.alloc A) w.heap.size B) := fun A B => (hk0 A).setObjW (.inr (Nat.le_refl _)) _
  exact ⟨h.keeps (hk1 _ _) (by simp), hk1 _ _⟩

theorem net_Take_yes {w : World} {p : Nat} {L : List Lt} {fp : List Nat} (h : NetAt w p L fp) (hL : L.length ≤ 128) {k : Nat} {l : Lt} (hl : L[k]? = some l) :
    Cl Try.prog 8 [.pointer (some ⟨p, 0, none⟩), .int .i64 (k : Int)] true [.ag [.i .i64, .i .i64, .sl], .sc (.i .i64)]
      (fun r w' => r.1.1 = l.f ∧ r.1.2.1 = l.t ∧ r.2.1 = 0 ∧ SlC w' r.1.2.2.1 1 (cB l.bs) ∧ Keeps fp w w' ∧
        ∃ fp', NetAt w' p (L.eraseIdx k) fp' ∧ (∀ x ∈ fp', x ∈ fp) ∧ ∀ x ∈ blk r.1.2.2.1, x ∈ fp ∧ x ∉ fp') w := by
  have hk := (List.getElem?_eq_some_iff.1 hl).1
  apply net_Net_Take_call
  unfold net_Net_Take
  simp only [sx]
  have hk0 : ∀ A, Keeps [] w (w.alloc A) := fun A => (Keeps.refl [] w).alloc _
  refine Cl.mono (net_there_ok (h.keeps (hk0 _) (by simp)) _) ?_
  rintro r w' ⟨hr, rfl⟩
  rw [hr, decide_eq_true (by omega)]
  obtain ⟨s, els, hn, rfl⟩ := h
  have hsl := hn.slen
  have hel := hn.lts.len
  have hplt := hp_lt hn.box
  obtain ⟨b, o, hp, hbs⟩ := hn.arr.base (by omega)
  have hblt := hn.arr.lt b (by simp [hbs])
  have hpb : p ≠ b := fun he => hn.p1 (by simp [hbs, he])
  obtain ⟨e, he⟩ : ∃ e, els[k]? = some e := ⟨_, List.getElem?_eq_getElem (by omega)⟩
  have hm := hn.lts.mt k e l he hl
  -- the element's cells
  have hcl : (els.flatMap encE).length = els.length * 3 := flat_length encE_len els
  have hrd : ∀ j, j < 3 → cellO w.heap[b]? (o + k * 3 + j) = (encE e)[j]? := by
    intro j hj
    rw [Nat.add_assoc, hn.arr.read hp (by rw [hcl]; omega), flat_get encE_len els k j hj, he]
    rfl
  have hr0 := hrd 0 (by omega)
  have hr1 := hrd 1 (by omega)
  have hr2 := hrd 2 (by omega)
  simp only [encE, sxl, Nat.add_zero] at hr0 hr1 hr2
  have hw64 : w64 ((k : Int) + 1) = (k : Int) + 1 := by simp only [w64]; exact IntWalk.i64_in _ (by omega)
  have hw64' : w64 ((s.len : Int) - 1) = (s.len : Int) - 1 := by simp only [w64]; exact IntWalk.i64_in _ (by omega)
  have ht1 : Int.toNat ((k : Int) + 1) = k + 1 := by omega
  have ht2 : Int.toNat ((s.len : Int) - 1) = s.len - 1 := by omega
  simp (disch := ((try simp only [sx]); first | done | omega)) only [sx, sxc, sxl, hn.box, Ix_base hp, hr0, hr1, hr2, Int.toNat_natCast, hw64, ht1, Bool.not_true, Nat.add_zero, Nat.zero_add, Nat.reduceAdd, Nat.reduceLT, true_and]
  refine ⟨by omega, by omega, ?_⟩
  have hkw : ∀ A B C, Keeps [] w (setObjW ((w.alloc A).alloc B) (w.heap.size + 1) C).drew := fun A B C => ((((Keeps.refl [] w).alloc _).alloc _).setObjW (.inr (by omega)) _).drew
  have hmin : Nat.min (s.len - (k + 1)) (s.len - k) = s.len - (k + 1) := Nat.min_eq_left (by omega)
  have hoff : slOff s.p s.cap k 3 = some ⟨b, o + k * 3, none⟩ := by
    have := hn.arr.cap
    rw [slOff, if_neg (by omega), hp]
    simp [add_of]
  rw [hmin, hoff]
  have hsrc := (hn.arr.sub (lo := k + 1) (hi := s.len) (by omega) (Nat.le_refl _)).rdc
  have hnew : (((els.flatMap encE).drop ((k + 1) * 3)).take ((s.len - (k + 1)) * 3)) = (els.drop (k + 1)).flatMap encE := by
    rw [flat_drop encE_len, List.take_of_length_le]
    rw [flat_length encE_len, List.length_drop]
    omega
  rw [hnew] at hsrc
  refine ⟨(els.drop (k + 1)).flatMap encE, rdc_keeps hsrc (hkw _ _ _) (by simp), ?_⟩
  refine (hn.arr.keeps (hkw _ _ _) (by simp)).writes hp (by rw [flat_length encE_len, List.length_drop, hcl]; omega) ?_ ?_
  · intro v hv
    obtain ⟨e', _, hv⟩ := List.mem_flatMap.1 hv
    simp [encE] at hv
    rcases hv with rfl | rfl | rfl <;> rfl
  intro w2 hs2 hk2
  have hbox2 := hk2.at ((hkw _ _ _).at hn.box (by simp)) (by simpa using hpb)
  have hsz2 := hk2.size
  have hplt2 := hp_lt hbox2
  have hA := hk2.get w.heap.size (by simp only [sx]; omega) (by simp; omega)
  have hB := hk2.get (w.heap.size + 1) (by simp only [sx]; omega) (by simp; omega)
  simp (disch := ((try simp only [sx]); first | done | omega)) only [sx, sxc] at hA hB hsz2
  simp (disch := ((try simp only [sx]); first | done | omega)) only [sx, sxc, sxl, hbox2, hA, hB, hw64', ht2, Nat.add_zero, Nat.zero_add, Nat.reduceAdd, Nat.reduceLT, true_and]
  have hc := hn.arr.cap
  refine ⟨by omega, hm.f, hm.t, ?_⟩
  have hkf : ∀ A B, Keeps [p, b] w (setObjW (setObjW w2.drew p A) w.heap.size B) := fun A B =>
    ((((hkw _ _ _).mono (m' := [p, b]) (by simp)).trans hk2 (by simp)).drew.setObjW (.inl (by simp)) _).setObjW (.inr (Nat.le_refl _)) _
  have hkl : ∀ A B, Keeps [p, w.heap.size] w2 (setObjW (setObjW w2.drew p A) w.heap.size B) := fun A B =>
    ((Keeps.refl [p, w.heap.size] w2).drew.setObjW (.inl (by simp)) _).setObjW (.inl (by simp)) _
  have heb : ∀ x ∈ blk e.s, x ≠ p ∧ x ≠ b ∧ x < w.heap.size := fun x hx => by
    have hx' : x ∈ blkE els := mem_blkE.2 ⟨e, List.mem_of_getElem? he, hx⟩
    refine ⟨fun h => hn.p2 (h ▸ hx'), fun h => hn.p3 b (by simp [hbs]) (h ▸ hx'), hn.lts.lt x hx'⟩
  have hsub : ∀ x ∈ blkE (els.eraseIdx k), x ∈ blkE els := fun x hx => blkE_sub (fun e he => List.mem_of_mem_eraseIdx he) hx
  refine ⟨hm.b.keeps (hkf _ _) (fun x hx => by have := heb x hx; simp; omega), (hkf _ _).mono (by simp [hbs]), ?_⟩
  refine ⟨p :: (blk s ++ blkE (els.eraseIdx k)), ⟨⟨slOff s.p s.cap 0 3, s.len - 1 - 0, s.cap - 0⟩, els.eraseIdx k, ⟨?_, ?_, ?_, ?_, ?_, ?_⟩, ?_⟩, ?_, ?_⟩
  · rw [hp_setObjW_ne (by omega)]
    exact hp_setObjW_same (w := w2.drew) hplt2
  · have h1 := hs2.sub (lo := 0) (hi := s.len - 1) (by omega) (by omega)
    simp only [Nat.zero_mul, List.drop_zero, Nat.sub_zero] at h1 ⊢
    have h2 := erase_cells encE_len els k (by omega)
    rw [hel, ← hsl] at h2
    rw [h2] at h1
    refine h1.keeps (hkl _ _) ?_
    intro x hx
    rw [show blk ⟨slOff s.p s.cap 0 3, s.len - 1, s.cap⟩ = blk s from blk_slOff s 0 3 _ _, hbs] at hx
    simp at hx
    simp
    omega
  · exact (hn.lts.erase k).keeps (hkf _ _) fun x hx => by
      have h1 := hsub x hx
      simp only [List.mem_cons, List.not_mem_nil, or_false, not_or]
      exact ⟨fun h => hn.p2 (h ▸ h1), fun h => hn.p3 b (by simp [hbs]) (h ▸ h1)⟩
  · rw [blk_slOff]; exact hn.p1
  · exact fun hx => hn.p2 (hsub p hx)
  · intro x hx hx'
    rw [blk_slOff] at hx
    exact hn.p3 x hx (hsub x hx')
  · rw [blk_slOff]
  · intro x hx
    simp only [List.mem_cons, List.mem_append] at hx ⊢
    rcases hx with h | h | h
    · exact .inl h
    · exact .inr (.inl h)
    · exact .inr (.inr (hsub x h))
  · intro x hx
    have h1 := heb x hx
    have hx' : x ∈ blkE els := mem_blkE.2 ⟨e, List.mem_of_getElem? he, hx⟩
    refine ⟨by simp [hx'], ?_⟩
    simp only [List.mem_cons, List.mem_append, not_or]
    refine ⟨h1.1, by simp [hbs]; exact h1.2.1, fun hh => ?_⟩
    obtain ⟨e', he', hx''⟩ := mem_blkE.1 hh
    obtain ⟨j, hj⟩ := List.mem_iff_getElem?.1 he'
    rw [List.getElem?_eraseIdx] at hj
    have hap := List.pairwise_iff_getElem.1 hn.lts.apart
    have hke := (List.getElem?_eq_some_iff.1 he)
    split at hj
    · have hje := List.getElem?_eq_some_iff.1 hj
      have := hap j k hje.1 hke.1 (by omega) x
      rw [hje.2, hke.2] at this
      exact this hx'' hx
    · have hje := List.getElem?_eq_some_iff.1 hj
      have := hap k (j + 1) hke.1 hje.1 (by omega) x
      rw [hje.2, hke.2] at this
      exact this hx hx''


/-! ### Drop, Double, Spoil -/
theorem net_Drop_no {w : World} {p : Nat} {L : List Lt} {fp : List Nat} (h : NetAt w p L fp) {i : Int} (hi : ¬ (0 ≤ i ∧ i < (L.length : Int))) :
    Cl Try.prog 12 [.pointer (some ⟨p, 0, none⟩), .int .i64 i] false [.sc (.i .i64)] (fun r w' => r.1 = 5 ∧ NetAt w' p L fp ∧ Keeps [] w w') w := by
  apply net_Net_Drop_call
  unfold net_Net_Drop
  refine Cl.mono (net_Take_no h hi) ?_
  rintro r w' ⟨rfl, hn, hk⟩
  simp (disch := ((try simp only [sx]); first | done | omega)) only [sx, sxc, sxl, Nat.zero_add, Nat.reduceAdd, Nat.reduceLT, true_and]
  have hk1 : ∀ A B, Keeps [] w' (setObjW (w'.alloc A) w'.heap.size B) := fun A B => ((Keeps.refl [] w').alloc _).setObjW (.inr (Nat.le_refl _)) _
  exact ⟨hn.keeps (hk1 _ _) (by simp), hk.trans (hk1 _ _) (by simp)⟩

theorem net_Drop_yes {w : World} {p : Nat} {L : List Lt} {fp : List Nat} (h : NetAt w p L fp) (hL : L.length ≤ 128) {k : Nat} (hk : k < L.length) :
    Cl Try.prog 12 [.pointer (some ⟨p, 0, none⟩), .int .i64 (k : Int)] false [.sc (.i .i64)] (fun r w' => r.1 = 0 ∧ (∃ fp', NetAt w' p (L.eraseIdx k) fp' ∧ ∀ x ∈ fp', x ∈ fp) ∧ Keeps fp w w') w := by
  apply net_Net_Drop_call
  unfold net_Net_Drop
  refine Cl.mono (net_Take_yes h hL (List.getElem?_eq_getElem hk)) ?_
  rintro r w' ⟨h1, h2, h3, h4, hk, fp', hn, hs, _⟩
  simp (disch := ((try simp only [sx]); first | done | omega)) only [sx, sxc, sxl, Nat.zero_add, Nat.reduceAdd, Nat.reduceLT, true_and]
  have hk1 : ∀ A B, Keeps [] w' (setObjW (w'.alloc A) w'.heap.size B) := fun A B => ((Keeps.refl [] w').alloc _).setObjW (.inr (Nat.le_refl _)) _
  exact ⟨h3, ⟨fp', hn.keeps (hk1 _ _) (by simp), hs⟩, hk.trans (hk1 _ _) (by simp)⟩

theorem net_Double_no {w : World} {p : Nat} {L : List Lt} {fp : List Nat} (h : NetAt w p L fp) {i : Int} (hi : ¬ (0 ≤ i ∧ i < (L.length : Int))) :
    Cl Try.prog 13 [.pointer (some ⟨p, 0, none⟩), .int .i64 i] false [.sc (.i .i64)] (fun r w' => r.1 = 5 ∧ w = w') w := by
  apply net_Net_Double_call
  unfold net_Net_Double
  refine Cl.mono (net_there_ok h i) ?_
  rintro r w' ⟨hr, rfl⟩
  rw [hr, decide_eq_false hi]
  simp only [sx, Bool.not_false, and_self]

theorem net_Double_yes {w : World} {p : Nat} {L : List Lt} {fp : List Nat} (h : NetAt w p L fp) (hL : L.length ≤ 128) {k : Nat} {l : Lt} (hl : L[k]? = some l) (hb : l.bs.length ≤ 4103) :
    Cl Try.prog 13 [.pointer (some ⟨p, 0, none⟩), .int .i64 (k : Int)] false [.sc (.i .i64)]
      (fun r w' => r.1 = sendC l.f l.t l.bs.length L.length ∧ (∃ fp', NetAt w' p (if sendC l.f l.t l.bs.length L.length = 0 then L ++ [l] else L) fp' ∧ ∀ x ∈ fp', x ∈ fp ∨ w.heap.size ≤ x) ∧ Keeps fp w w') w := by
  have hk := (List.getElem?_eq_some_iff.1 hl).1
  apply net_Net_Double_call
  unfold net_Net_Double
  refine Cl.mono (net_there_ok h _) ?_
  rintro r w' ⟨hr, rfl⟩
  rw [hr, decide_eq_true (by omega)]
  have hcopy := h
  obtain ⟨s, els, hn, rfl⟩ := h
  have hsl := hn.slen
  have hel := hn.lts.len
  obtain ⟨b, o, hp, hbs⟩ := hn.arr.base (by omega)
  obtain ⟨e, he⟩ : ∃ e, els[k]? = some e := ⟨_, List.getElem?_eq_getElem (by omega)⟩
  have hm := hn.lts.mt k e l he hl
  have hcl : (els.flatMap encE).length = els.length * 3 := flat_length encE_len els
  have hrd : ∀ j, j < 3 → cellO w.heap[b]? (o + k * 3 + j) = (encE e)[j]? := by
    intro j hj
    rw [Nat.add_assoc, hn.arr.read hp (by rw [hcl]; omega), flat_get encE_len els k j hj, he]
    rfl
  have hr0 := hrd 0 (by omega)
  have hr1 := hrd 1 (by omega)
  have hr2 := hrd 2 (by omega)
  simp only [encE, sxl, Nat.add_zero] at hr0 hr1 hr2
  simp (disch := ((try simp only [sx]); first | done | omega)) only [sx, sxc, sxl, hn.box, Ix_base hp, hr0, hr1, hr2, Int.toNat_natCast, Bool.not_true, Nat.add_zero, Nat.zero_add, Nat.reduceAdd, Nat.reduceLT, true_and]
  rw [hm.f, hm.t]
  have hlen := hm.b.len
  rw [cB_length, Nat.mul_one] at hlen
  have hk0 : Keeps [] w w.drew := (Keeps.refl [] w).drew
  refine Cl.mono (net_Send_ok (hcopy.keeps hk0 (by simp)) (rdb_keeps hm.b.rdb hk0 (by simp)) l.f l.t) ?_
  rintro r w2 ⟨h1, h2, h3⟩
  exact ⟨h1, h2, (hk0.mono (by simp)).trans h3 (fun x hx => .inl hx)⟩

theorem net_Spoil_no {w : World} {p : Nat} {L : List Lt} {fp : List Nat} (h : NetAt w p L fp) {i : Int} (b : Sl) (hi : ¬ (0 ≤ i ∧ i < (L.length : Int))) :
    Cl Try.prog 15 [.pointer (some ⟨p, 0, none⟩), .int .i64 i, .slice b.p b.len b.cap] false [.sc (.i .i64)] (fun r w' => r.1 = 5 ∧ w = w') w := by
  apply net_Net_Spoil_call
  unfold net_Net_Spoil
  refine Cl.mono (net_there_ok h i) ?_
  rintro r w' ⟨hr, rfl⟩
  rw [hr, decide_eq_false hi]
  simp only [sx, Bool.not_false, and_self]


/-! ### All -/
def AllI (w : World) (s : Sl) (els : List El) (L : List Lt) (n : Nat) (st : Int × Unit) (w3 : World) : Prop :=
  ∃ (k : Nat) (els1 : List El), st = ((k : Int), ()) ∧ n = s.len - k ∧ k ≤ s.len ∧ els1.length = k ∧ SlC w3 ⟨some ⟨w.heap.size, 0, none⟩, s.len, s.len⟩ 3 ((els1 ++ els.drop k).flatMap encE) ∧
    LtsR w3 els1 (L.take k) ∧ Keeps [] w w3 ∧ w.heap.size < w3.heap.size ∧ ∀ x ∈ blkE els1, w.heap.size < x

theorem net_All_ok {w : World} {p : Nat} {L : List Lt} {fp : List Nat} (h : NetAt w p L fp) (hL : L.length ≤ 128) (hb : ∀ l ∈ L, l.bs.length ≤ 4103) :
    Cl Try.prog 19 [.pointer (some ⟨p, 0, none⟩)] false [.sc .sl]
      (fun r w' => ∃ els', SlC w' r.1 3 (els'.flatMap encE) ∧ LtsR w' els' L ∧ Keeps [] w w' ∧ (∀ x ∈ blk r.1, w.heap.size ≤ x ∧ x ∉ blkE els') ∧ ∀ x ∈ blkE els', w.heap.size ≤ x) w := by
  apply net_Net_All_call
  unfold net_Net_All
  have hflt := h.lt
  obtain ⟨s, els, hn, rfl⟩ := h
  have hsl := hn.slen
  have hel := hn.lts.len
  simp only [sx, sxl, hn.box, Nat.zero_add]
  refine Mk_of (Nat.le_refl _) (by omega) (by omega) ?_
  intro w1 hs1 hk1 hz1
  have hbox1 := hk1.at hn.box (by simp)
  simp only [sx, sxl, hbox1, Nat.zero_add]
  rw [show Nat.min s.len s.len = s.len from Nat.min_self _]
  have hcl : (els.flatMap encE).length = s.len * 3 := by rw [flat_length encE_len, hel, hsl]
  refine ⟨els.flatMap encE, rdc_keeps hn.arr.rdc hk1 (by simp), ?_⟩
  simp only
  have h1l := hs1.len
  simp only at h1l
  refine hs1.writes (b := w.heap.size) (o := 0) (k := 0) rfl (by rw [hcl, h1l]; omega) ?_ ?_
  · intro v hv
    obtain ⟨e', _, hv⟩ := List.mem_flatMap.1 hv
    simp [encE] at hv
    rcases hv with rfl | rfl | rfl <;> rfl
  intro w2 hs2 hk2
  rw [setL_all (by rw [hcl, h1l])] at hs2
  have hk02 : Keeps [] w w2 := hk1.trans hk2 (by simp)
  have hz2 := hk2.size
  refine ⟨AllI w s els L, ⟨s.len, 0, [], rfl, by simp, by omega, rfl, by simpa using hs2, LtsR.nil _, hk02, by omega, by simp [blkE]⟩, ?_⟩
  rintro n st w3 ⟨k, els1, rfl, rfl, hk, hl1, hs3, hlt3, hk3, hz3, hf3⟩
  by_cases hlt : ¬ k < s.len
  · -- the loop's end
    have hke : k = s.len := by omega
    rw [decide_eq_false (by omega)]
    simp only [sx]
    have hd : els.drop k = [] := List.drop_of_length_le (by omega)
    rw [hd, List.append_nil] at hs3
    rw [List.take_of_length_le (by omega)] at hlt3
    refine ⟨els1, hs3, hlt3, hk3, ?_, fun x hx => by have := hf3 x hx; omega⟩
    intro x hx
    simp [blk] at hx
    subst hx
    exact ⟨Nat.le_refl _, fun hh => by have := hf3 _ hh; omega⟩
  have hlt : k < s.len := by omega
  rw [decide_eq_true (by omega)]
  obtain ⟨e, he⟩ : ∃ e, els[k]? = some e := ⟨_, List.getElem?_eq_getElem (by omega)⟩
  obtain ⟨l, hl⟩ : ∃ l, L[k]? = some l := ⟨_, List.getElem?_eq_getElem (by omega)⟩
  have hm := hn.lts.mt k e l he hl
  have hc3 : ((els1 ++ els.drop k).flatMap encE).length = s.len * 3 := by
    rw [flat_length encE_len, List.length_append, List.length_drop, hl1, hel, ← hsl]
    congr 1
    omega
  have hget3 : (els1 ++ els.drop k)[k]? = some e := by
    rw [List.getElem?_append_right (by omega), hl1, Nat.sub_self, List.getElem?_drop, Nat.add_zero, he]
  have hrd : ∀ j, j < 3 → cellO w3.heap[w.heap.size]? (k * 3 + j) = (encE e)[j]? := by
    intro j hj
    have := hs3.read (b := w.heap.size) (o := 0) rfl (j := k * 3 + j) (by rw [hc3]; omega)
    rw [Nat.zero_add] at this
    rw [this, flat_get encE_len _ k j hj, hget3]
    rfl
  have hr0 := hrd 0 (by omega)
  have hr1 := hrd 1 (by omega)
  have hr2 := hrd 2 (by omega)
  simp only [encE, sxl, Nat.add_zero] at hr0 hr1 hr2
  have hkl : (k : Int) < ((s.len : Nat) : Int) := by omega
  have hk0' : (0 : Int) ≤ (k : Int) := by omega
  have hix : ∀ (K : Addr → Pr) (w : World) (b : Nat), Ix ⟨some ⟨b, 0, none⟩, s.len, s.len⟩ (k : Int) 3 K w = K ⟨b, k * 3, none⟩ w := fun K w b => by
    rw [Ix_base (s := ⟨some ⟨b, 0, none⟩, s.len, s.len⟩) rfl hk0' hkl]
    simp
  simp (disch := ((try simp only [sx]); first | done | omega)) only [sx, sxc, sxl, hix, hr0, hr1, hr2, Nat.add_zero, Nat.zero_add, Nat.reduceAdd, Nat.reduceLT, true_and]
  have hkc : ∀ A B, Keeps [] w3 (setObjW (w3.alloc A) w3.heap.size B) := fun A B => ((Keeps.refl [] w3).alloc _).setObjW (.inr (Nat.le_refl _)) _
  have hbl : l.bs.length ≤ 4103 := hb l (List.mem_of_getElem? hl)
  have hlen := hm.b.len
  rw [cB_length, Nat.mul_one] at hlen
  rw [hm.f, hm.t]
  refine Cl.mono (Letter_clone_ok (rdb_keeps (rdb_keeps hm.b.rdb hk3 (by simp)) (hkc _ _) (by simp)) (by omega)) ?_
  rintro r w4 ⟨g1, g2, g3, g4, g5⟩
  have hk4 : Keeps [] w3 w4 := (hkc _ _).trans g4 (by simp)
  have hz4 := g4.size
  simp only [sx] at hz4 g5
  have hs4 := hs3.keeps hk4 (by simp)
  have hlt4 := hlt3.keeps hk4 (by simp)
  simp only [hix, add_of, Nat.add_zero]
  have hk3' : k * 3 + 3 ≤ s.len * 3 := by omega
  refine hs4.write' rfl (k * 3) (by simp) (by rw [hc3]; omega) rfl fun w5 hs5 hk5 => ?_
  refine hs5.write' rfl (k * 3 + 1) (by simp) (by rw [List.length_set, hc3]; omega) rfl fun w6 hs6 hk6 => ?_
  refine hs6.write' rfl (k * 3 + 2) (by simp) (by rw [List.length_set, List.length_set, hc3]; omega) rfl fun w7 hs7 hk7 => ?_
  have hk47 : Keeps [w.heap.size] w4 w7 := (hk5.trans hk6 (by simp)).trans hk7 (by simp)
  have hk37 : Keeps [w.heap.size] w3 w7 := (hk4.mono (by simp)).trans hk47 (by simp)
  have hz7 := hk47.size
  have hw : w64 ((k : Int) + 1) = ((k + 1 : Nat) : Int) := by
    simp only [w64]; rw [IntWalk.i64_in _ (by omega)]; simp
  refine ⟨s.len - (k + 1), by omega, k + 1, els1 ++ [⟨r.1.1, r.1.2.1, r.1.2.2.1⟩], by rw [hw], rfl, by omega, by simp [hl1], ?_, ?_, hk3.trans hk37 (by simp), by omega, ?_⟩
  · have := flat_set encE_len (els1 ++ els.drop k) k ⟨r.1.1, r.1.2.1, r.1.2.2.1⟩ (by simp [hl1]; omega)
    rw [encE, setL_cons _ _ (by rw [hc3]; simp; omega), setL_cons _ _ (by rw [List.length_set, hc3]; simp; omega), setL_cons _ _ (by rw [List.length_set, List.length_set, hc3]; simp; omega), setL_nil] at this
    rw [this] at hs7
    have hse : (els1 ++ els.drop k).set k ⟨r.1.1, r.1.2.1, r.1.2.2.1⟩ = els1 ++ [⟨r.1.1, r.1.2.1, r.1.2.2.1⟩] ++ els.drop (k + 1) := by
      rw [List.set_append_right _ _ (by omega), hl1, Nat.sub_self, List.drop_eq_getElem_cons (by omega), List.set_cons_zero, List.append_assoc]
      rfl
    rwa [hse] at hs7
  · have htk : L.take (k + 1) = L.take k ++ [l] := by
      rw [List.take_add_one, hl]
      rfl
    rw [htk]
    refine LtsR.snoc (hlt4.keeps hk47 ?_) ⟨g1, g2, g3.keeps hk47 ?_⟩ ?_
    · intro x hx
      have := hf3 x hx
      simp
      omega
    · intro x hx
      have := g5 x hx
      simp
      omega
    · intro x hx hx'
      have h1 := g5 x hx
      have h2 := hlt3.lt x hx'
      omega
  · intro x hx
    rw [blkE_append, List.mem_append] at hx
    rcases hx with hx | hx
    · exact hf3 x hx
    · obtain ⟨e', he', hx⟩ := mem_blkE.1 hx
      simp at he'
      subst he'
      have := g5 x hx
      omega

theorem net_Clone_ok {w : World} {p : Nat} {L : List Lt} {fp : List Nat} (h : NetAt w p L fp) (hL : L.length ≤ 128) (hb : ∀ l ∈ L, l.bs.length ≤ 4103) :
    Cl Try.prog 18 [.pointer (some ⟨p, 0, none⟩)] false [.sc .p]
      (fun r w' => ∃ q fq, r.1 = some ⟨q, 0, none⟩ ∧ NetAt w' q L fq ∧ Keeps [] w w' ∧ ∀ x ∈ fq, w.heap.size ≤ x) w := by
  apply net_Net_Clone_call
  unfold net_Net_Clone
  refine Cl.mono (net_All_ok h hL hb) ?_
  rintro r w' ⟨els, h1, h2, h3, h4, h5⟩
  simp only [sx]
  have hk : Keeps [] w' (w'.alloc (.cells #[.slice r.1.p r.1.len r.1.cap] 55)) := (Keeps.refl [] w').alloc _
  have hz := h3.size
  refine ⟨w'.heap.size, _, rfl, ⟨r.1, els, ⟨hp_alloc_new w' _, h1.keeps hk (by simp), h2.keeps hk (by simp), ?_, ?_, fun x hx => (h4 x hx).2⟩, rfl⟩, h3.trans hk (by simp), ?_⟩
  · intro hx; have := h1.lt _ hx; omega
  · intro hx; have := h2.lt _ hx; omega
  · intro x hx
    simp only [List.mem_cons, List.mem_append] at hx
    rcases hx with rfl | hx | hx
    · exact hz
    · exact (h4 x hx).1
    · exact h5 x hx

end Go.Proofs.Ytfkhmbkeniigdaa
