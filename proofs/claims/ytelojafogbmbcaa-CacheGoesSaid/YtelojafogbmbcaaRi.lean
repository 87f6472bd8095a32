/- Contracts of the reference's cache: Dirty. -/
import Derived.Test.YtelojafogbmbcaaRh
set_option linter.unusedVariables false
set_option linter.unusedSimpArgs false
namespace Go.Proofs.Ytelojafogbmbcaa
open Go Go.Sx
variable {β : Nat}

theorem ins_ord {ds : List Int} {at_ : Nat} {x : Int} (h : Ordd ds ds.length) (ha : at_ ≤ ds.length) (h1 : ∀ j y, j < at_ → ds[j]? = some y → y ≤ x) (h2 : ∀ y, ds[at_]? = some y → x ≤ y) : Ordd (ds.take at_ ++ [x] ++ ds.drop at_) (ds.take at_ ++ [x] ++ ds.drop at_).length := by
  have hl : (ds.take at_ ++ [x]).length = at_ + 1 := by simp; omega
  have get : ∀ (j : Nat) (y : Int), (ds.take at_ ++ [x] ++ ds.drop at_)[j]? = some y → (j < at_ ∧ ds[j]? = some y) ∨ (j = at_ ∧ y = x) ∨ (at_ < j ∧ ds[j - 1]? = some y) := by
    intro j y hy
    rcases Nat.lt_trichotomy j at_ with h' | h' | h'
    · rw [List.getElem?_append_left (by omega), List.getElem?_append_left (by simp; omega), List.getElem?_take, if_pos h'] at hy
      exact .inl ⟨h', hy⟩
    · subst h'
      rw [List.getElem?_append_left (by omega), List.getElem?_append_right (by simp; omega)] at hy
      simp at hy
      rw [Nat.min_eq_left ha, Nat.sub_self] at hy
      simp at hy
      exact .inr (.inl ⟨rfl, hy.symm⟩)
    · rw [List.getElem?_append_right (by omega), hl, List.getElem?_drop, show at_ + (j - (at_ + 1)) = j - 1 from by omega] at hy
      exact .inr (.inr ⟨h', hy⟩)
  intro p q a b hpq _ hpa hqb
  rcases get p a hpa with ⟨g1, g2⟩ | ⟨g1, g2⟩ | ⟨g1, g2⟩
  · rcases get q b hqb with ⟨k1, k2⟩ | ⟨k1, k2⟩ | ⟨k1, k2⟩
    · exact h p q a b hpq (by omega) g2 k2
    · subst k2; exact h1 p a g1 g2
    · exact h p (q - 1) a b (by omega) (by have := (List.getElem?_eq_some_iff.1 k2).1; exact this) g2 k2
  · rcases get q b hqb with ⟨k1, k2⟩ | ⟨k1, k2⟩ | ⟨k1, k2⟩
    · omega
    · omega
    · subst g2
      have hlt := (List.getElem?_eq_some_iff.1 k2).1
      obtain ⟨z, hz⟩ : ∃ z, ds[at_]? = some z := ⟨_, List.getElem?_eq_getElem (by omega)⟩
      have := h2 z hz
      by_cases he : q - 1 = at_
      · rw [he, hz] at k2; cases k2; exact this
      · exact Int.le_trans this (h at_ (q - 1) z b (by omega) hlt hz k2)
  · rcases get q b hqb with ⟨k1, k2⟩ | ⟨k1, k2⟩ | ⟨k1, k2⟩
    · omega
    · omega
    · exact h (p - 1) (q - 1) a b (by omega) (by have := (List.getElem?_eq_some_iff.1 k2).1; exact this) g2 k2

theorem ins_perm (ds : List Int) (at_ : Nat) (x : Int) : (ds.take at_ ++ [x] ++ ds.drop at_).Perm (ds ++ [x]) := by
  have h1 : (ds.take at_ ++ [x] ++ ds.drop at_).Perm (ds.take at_ ++ ds.drop at_ ++ [x]) := by
    rw [List.append_assoc, List.append_assoc]
    exact List.Perm.append_left _ List.perm_append_comm
  rw [List.take_append_drop] at h1
  exact h1

theorem rDirty_ok {w : World} {c b N n : Nat} {s : CSt (refB β)} {H : Nat → Prop} (h : RW w c b N n s H) :
    Cl Try.prog i_sumpterref10_Cache_Dirty [.pointer (some ⟨c, 0, none⟩)] false [.sc .sl]
      (fun r w' => ∃ ds : List Int, ds.Perm (dirtyIds s.ps) ∧ Ordd ds ds.length ∧ SlC w' r.1 1 (cI ds) ∧ Keeps [] w w' ∧ ∀ x ∈ blk r.1, w.heap.size ≤ x) w := by
  refine Cl_gen fun R hR => ?_
  apply sumpterref10_Cache_Dirty_call
  unfold sumpterref10_Cache_Dirty
  obtain ⟨sl, G, h⟩ := h
  have h := h.rc
  obtain ⟨t, hbox⟩ := h.box
  simp only [sx, sxl, hbox, Nat.zero_add]
  have hl := h.slen
  have hln := h.ln
  refine ⟨fun k st w' => ∃ (i : Nat) (r : Sl) (ds : List Int), st = (r, (i : Int), ()) ∧ i ≤ s.ps.length ∧ k = s.ps.length - i ∧ ds.Perm (dirtyIds (s.ps.take i)) ∧ Ordd ds ds.length ∧ SlC w' r 1 (cI ds) ∧ Keeps [] w w' ∧ ∀ x ∈ blk r, w.heap.size ≤ x, ⟨s.ps.length, 0, ⟨none, 0, 0⟩, [], rfl, by omega, by omega, by simp [dirtyIds], fun p q a b h1 h2 => by simp at h2, SlC.nil w 1, Keeps.refl _ _, by simp [blk]⟩, ?_⟩
  rintro k _ w1 ⟨i, r, ds, rfl, hi, rfl, hpm, hor, hs1, hk1, hb1⟩
  dsimp only
  rw [hl]
  by_cases hil : i < s.ps.length
  · rw [decide_eq_true (by omega)]
    simp only [sx]
    have hw : w64 ((i : Int) + 1) = ((i + 1 : Nat) : Int) := w64_nat (n := i + 1) (by omega)
    obtain ⟨o, ho⟩ : ∃ o, s.ps[i]? = some o := ⟨_, List.getElem?_eq_getElem (by omega)⟩
    have htk : dirtyIds (s.ps.take (i + 1)) = dirtyIds (s.ps.take i) ++ (dirty1 o).toList := by
      unfold dirtyIds
      rw [List.take_add_one, ho, List.filterMap_append]
      simp only [Option.toList_some]
      cases hd : dirty1 o <;> simp [hd]
    have hdl : ds.length ≤ 64 := by
      rw [hpm.length_eq]
      refine Nat.le_trans (List.length_filterMap_le _ _) ?_
      simp; omega
    refine Jp_of (fun st w' => ∃ (r' : Sl) (ds' : List Int), st = (r', ()) ∧ ds'.Perm (dirtyIds (s.ps.take (i + 1))) ∧ Ordd ds' ds'.length ∧ SlC w' r' 1 (cI ds') ∧ Keeps [] w w' ∧ ∀ x ∈ blk r', w.heap.size ≤ x) ?_ ?_
    case refine_2 =>
      rintro _ w2 ⟨r', ds', rfl, g1, g2, g3, g4, g5⟩
      exact ⟨s.ps.length - (i + 1), by omega, i + 1, r', ds', by rw [hw], by omega, rfl, g1, g2, g3, g4, g5⟩
    intro J hJ
    refine (h.grow hk1).at ho fun pb po hp hbk hat => ?_
    have e0 := hat 0 (by omega)
    have e1 := hat 1 (by omega)
    have e2 := hat 2 (by omega)
    have e3 := hat 3 (by omega)
    have e4 := hat 4 (by omega)
    have e5 := hat 5 (by omega)
    have e6 := hat 6 (by omega)
    cases o with
    | none =>
      simp only [encP, sxl] at e0 e1 e2 e3 e4 e5 e6
      rw [Nat.add_zero] at e0
      simp (disch := ((try simp only [sx]); first | done | omega)) only [sx, sxc, sxl, e0, e1, e2, e3, e4, e5, e6, Jp, Nat.zero_add, Nat.add_zero, Nat.reduceAdd, Nat.reduceLT, true_and, Bool.not_false]
      have hkn : Keeps [] w1 (setObjW (w1.alloc (.cells #[.bool false, .int .i64 0, .int .i64 0, .string (BA []), .bool false, .bool false, .int .u64 0] 79)) w1.heap.size (.cells #[.bool false, .int .i64 0, .int .i64 0, .string (BA []), .bool false, .bool false, .int .u64 0] 79)) := ((Keeps.refl [] w1).alloc _).setObjW (.inr (by omega)) _
      exact hJ _ _ ⟨r, ds, rfl, by rw [htk]; simpa [dirty1] using hpm, hor, hs1.keeps hkn (by simp), hk1.trans hkn (by simp), hb1⟩
    | some p =>
      simp only [encP, sxl] at e0 e1 e2 e3 e4 e5 e6
      rw [Nat.add_zero] at e0
      simp (disch := ((try simp only [sx]); first | done | omega)) only [sx, sxc, sxl, e0, e1, e2, e3, e4, e5, e6, Nat.zero_add, Nat.add_zero, Nat.reduceAdd, Nat.reduceLT, true_and, Bool.not_true]
      generalize hq : w1.heap.size = q
      generalize hw2 : setObjW (w1.alloc _) q _ = w2
      have hkn : Keeps [] w1 w2 := by subst hw2; exact ((Keeps.refl [] w1).alloc _).setObjW (.inr (by omega)) _
      have hq2 : w2.heap[q]? = some (.cells #[.bool true, .int .i64 p.id, .int .i64 p.pins, .string (BA p.bytes), .bool p.touched, .bool p.dirty, .int .u64 p.lsn] 79) := by subst hw2; exact hp_setObjW_same (by rw [World.size_alloc]; omega)
      have hs2 := hs1.keeps hkn (by simp)
      have hk02 := hk1.trans hkn (by simp)
      refine Jp_of (fun st w' => st = (!p.dirty, ()) ∧ w2 = w') ?_ ?_
      · intro J2 hJ2
        simp only [sx, sxl, hq2, Bool.not_true]
        exact hJ2 _ _ ⟨rfl, rfl⟩
      rintro _ _ ⟨rfl, rfl⟩
      refine Br_of (fun hd => ?_) (fun hd => ?_)
      · have hd : p.dirty = false := by simpa using hd
        exact hJ _ _ ⟨r, ds, rfl, by rw [htk]; simpa [dirty1, hd] using hpm, hor, hs2, hk02, hb1⟩
      · have hd : p.dirty = true := by simpa using hd
        have hrl : r.len = ds.length := by have := hs2.len; rw [cI_len] at this; omega
        refine ⟨fun m st w' => ∃ a : Nat, st = ((a : Int), ()) ∧ m = ds.length - a ∧ a ≤ ds.length ∧ Keeps [] w2 w' ∧ ∀ j y, j < a → ds[j]? = some y → y < p.id, ⟨ds.length, 0, rfl, by omega, by omega, Keeps.refl _ _, fun j y hj => by omega⟩, ?_⟩
        rintro _ _ w3 ⟨a, rfl, rfl, ha, hk3, hlt⟩
        dsimp only
        have hs3d : SlC w3.drew r 1 (cI ds) := hs2.keeps (hk3.drew) (by simp)
        have hq3 := hk3.at hq2 (by simp)
        refine Jp_of (fun st w' => Keeps [] w2 w' ∧ ((st = (true, ()) ∧ a < ds.length ∧ ∀ y, ds[a]? = some y → y < p.id) ∨ (st = (false, ()) ∧ ∀ y, ds[a]? = some y → p.id ≤ y))) ?_ ?_
        · intro J3 hJ3
          simp only [sx]
          rw [hrl]
          by_cases hal : a < ds.length
          · rw [decide_eq_true (by omega)]
            simp only [sx]
            obtain ⟨y, hy⟩ : ∃ y, ds[a]? = some y := ⟨_, List.getElem?_eq_getElem hal⟩
            refine Ix_c hs3d hy ?_
            simp only [sx, sxl, hq3, Nat.zero_add]
            refine hJ3 _ _ ⟨hk3.drew, ?_⟩
            by_cases hyp : y < p.id
            · rw [decide_eq_true hyp]
              exact .inl ⟨rfl, hal, fun y' hy' => by rw [hy] at hy'; cases hy'; exact hyp⟩
            · rw [decide_eq_false hyp]
              exact .inr ⟨rfl, fun y' hy' => by rw [hy] at hy'; cases hy'; omega⟩
          · rw [decide_eq_false (by omega)]
            exact hJ3 _ _ ⟨hk3.drew, .inr ⟨rfl, fun y hy => by have := (List.getElem?_eq_some_iff.1 hy).1; omega⟩⟩
        rintro st w4 ⟨hk4, ⟨rfl, hal, hya⟩ | ⟨rfl, hya⟩⟩
        · simp only [sx]
          refine ⟨ds.length - (a + 1), by omega, a + 1, by rw [show w64 ((a : Int) + 1) = ((a + 1 : Nat) : Int) from w64_nat (n := a + 1) (by omega)], rfl, by omega, hk4, fun j y hj hy => ?_⟩
          rcases Nat.lt_or_ge j a with h' | h'
          · exact hlt j y h' hy
          · have : j = a := by omega
            subst this
            exact hya y hy
        · simp only [sx]
          have hs4 := hs2.keeps hk4 (by simp)
          have hq4 := hk4.at hq2 (by simp)
          have hcap := hs4.cap
          refine ⟨⟨by omega, by omega⟩, ?_⟩
          rw [Int.toNat_natCast, Nat.sub_zero]
          have hsub := hs4.sub (lo := 0) (hi := a) (by omega) (by omega)
          simp only [Nat.sub_zero, Nat.zero_mul, List.drop_zero, Nat.mul_one] at hsub
          have hc1 : (cI ds).take a = cI (ds.take a) := by unfold cI; rw [List.map_take]
          have hc2 : (cI ds).drop a = cI (ds.drop a) := by unfold cI; rw [List.map_drop]
          rw [hc1] at hsub
          have htl : (ds.take a).length = a := by simp; omega
          refine App_of (cs := []) (SlC.nil w4 1) (new := cI (ds.take a)) hsub.rdc (by rw [cI_len, htl, Nat.mul_one]) (cI_one _) (by kernel_rfl) (by simp; omega) (by simp; omega) ?_
          intro r22 w5 hs5 hl5 hk5 hb5
          have hk5' : Keeps [] w4 w5 := hk5
          rw [List.nil_append] at hs5
          have hq5 := hk5'.at hq4 (by simp)
          simp only [sx, sxl, hq5, Nat.zero_add]
          generalize hw6 : w5.alloc _ = w6
          have hk6 : Keeps [] w5 w6 := by rw [← hw6]; exact (Keeps.refl [] w5).alloc _
          have hrd : RdC (some ⟨w5.heap.size, 0, none⟩) (1 * 1) (cI [p.id]) w6 := rdc_row (cs := cI [p.id]) (t := 3) (fr := (0, 0)) (by rw [← hw6]; exact hp_alloc_new w5 _)
          have hl5' : r22.len = a := by simpa using hl5
          refine App_of (hs5.keeps hk6 (by simp)) hrd rfl (cI_one _) (by kernel_rfl) (by omega) (by omega) ?_
          intro r25 w7 hs7 hl7 hk7 hb7
          refine ⟨⟨by omega, by omega⟩, ?_⟩
          have hf22 : ∀ x ∈ blk r22, w4.heap.size ≤ x := fun x hx => by
            rcases hb5 x hx with h' | h'
            · simp [blk] at h'
            · exact h'
          have hf25 : ∀ x ∈ blk r25, w4.heap.size ≤ x := fun x hx => by
            rcases hb7 x hx with h' | h'
            · exact hf22 x h'
            · have := hk5'.size; have := hk6.size; omega
          have hk47 : Keeps [] w4 w7 := (hk5'.trans hk6 (by simp)).trans hk7 (fun x hx => .inr (hf22 x hx))
          have hs7r : SlC w7 r 1 (cI ds) := hs4.keeps hk47 (by simp)
          have hsub2 := hs7r.sub (lo := a) (hi := r.len) (by omega) (Nat.le_refl _)
          simp only [Nat.mul_one] at hsub2
          rw [hc2, List.take_of_length_le (by rw [cI_len]; simp; omega)] at hsub2
          rw [hrl] at hsub2
          have hl7' : r25.len = a + 1 := by omega
          have hrd2 := hsub2.rdc
          refine App_of hs7 (new := cI (ds.drop a)) (by rw [hrl]; exact hrd2) (by rw [cI_len, hrl]; simp) (cI_one _) (by kernel_rfl) (by omega) (by omega) ?_
          intro r26 w8 hs8 hl8 hk8 hb8
          refine hJ _ _ ⟨r26, ds.take a ++ [p.id] ++ ds.drop a, rfl, ?_, ins_ord hor ha (fun j y hj hy => Int.le_of_lt (hlt j y hj hy)) (fun y hy => hya y hy), ?_, ?_, ?_⟩
          · refine (ins_perm ds a p.id).trans ?_
            rw [htk]
            simp only [dirty1, hd, if_true, Option.toList_some]
            exact hpm.append_right _
          · have : cI (ds.take a ++ [p.id] ++ ds.drop a) = cI (ds.take a) ++ cI [p.id] ++ cI (ds.drop a) := by simp [cI]
            rw [this]
            exact hs8
          · refine ((hk02.trans hk4 (by simp)).trans hk47 (by simp)).trans hk8 (fun x hx => .inr ?_)
            have := hf25 x hx
            have := (hk02.trans hk4 (by simp)).size
            omega
          · intro x hx
            have h04 := (hk02.trans hk4 (by simp)).size
            rcases hb8 x hx with h' | h'
            · have := hf25 x h'; omega
            · have := hk47.size; omega
  · rw [decide_eq_false (by omega)]
    simp only [sx]
    rw [List.take_of_length_le (by omega)] at hpm
    exact hR _ _ ⟨ds, hpm, hor, hs1, hk1, hb1⟩

end Go.Proofs.Ytelojafogbmbcaa
