/- The document's own device (the reference): Crash, Start, Waits, New. Conditions: none. -/
import Derived.Test.YthfgdoiaebfcdaaRx
set_option linter.unusedVariables false
set_option linter.unusedSimpArgs false
namespace Go.Proofs.Ythfgdoiaebfcdaa
open Go Go.Sx

theorem rank_succ (s : DS) (i : Nat) : rank s (i + 1) = rank s i + if waiting s i then 1 else 0 := by
  unfold rank
  rw [List.range_succ, List.filter_append, List.length_append]
  congr 1
  cases h : waiting s i <;> simp [h]
theorem rank_le (s : DS) (i : Nat) : rank s i ≤ i := by
  unfold rank
  exact Nat.le_trans (List.length_filter_le _ _) (by simp)

def fC (s : DS) (mask : ByteArray) (k : Nat) (y : Sec) : Sec := if bit mask (rank s k) then (s.wait k).getD y else y
theorem fC_end {s : DS} (h : DOk s) (mask : ByteArray) : { aJ (fC s mask) s s.safe.length with fuse := -1, down := true } = mCrash s mask := by
  rw [aJ_end h]
  rfl

theorem XCrash_ok {w : World} {x : Nat} {G : Nat → Prop} {s : DS} (h : XAt w x G s) (mask : ByteArray) :
    Cl Try.prog i_sumpterref06_Disk_Crash [.pointer (some ⟨x, 0, none⟩), .string mask] true [] (fun _ w' => XAt w' x G (mCrash s mask) ∧ KeepsP G w w') w := by
  refine Cl_gen fun R hR => ?_
  apply sumpterref06_Disk_Crash_call
  unfold sumpterref06_Disk_Crash
  obtain ⟨ss, ws, hX⟩ := h
  have hlw := cT_slen hX.wt
  rw [waitB_len] at hlw
  have hln := hX.ok.ln
  have hxG : G x := (hX.own x).2 (.inl rfl)
  have hssG : ∀ y ∈ blk ss, G y := fun y hy => (hX.own y).2 (.inr (.inl hy))
  have hwsG : ∀ y ∈ blk ws, G y := fun y hy => (hX.own y).2 (.inr (.inr hy))
  simp only [Nn, add_of]
  refine LdL_of (i := 1) (x := ws) hX.hd rfl ?_
  refine ⟨fun n st w' => ∃ i : Nat, st = ((rank s i : Int), (i : Int), ()) ∧ n = s.safe.length - i ∧ i ≤ s.safe.length ∧ XAtX w' x G (aJ (fC s mask) s i) ss ws ∧ KeepsP G w w', ⟨_, 0, rfl, rfl, by omega, by rw [aJ_zero]; exact hX, KeepsP.refl _ _⟩, ?_⟩
  rintro _ _ w2 ⟨i, rfl, rfl, hi, hX2, hk2⟩
  dsimp only
  rw [hlw]
  by_cases hil : i < s.safe.length
  · rw [decide_eq_true (by omega)]
    simp only [Br]
    have hri := rank_le s i
    refine Jp_of (fun st w3 => st = ((rank s (i + 1) : Int), ()) ∧ XAtX w3 x G (aJ (fC s mask) s (i + 1)) ss ws ∧ KeepsP G w w3) ?_ ?_
    · intro J hJ
      have hw2 : (aJ (fC s mask) s i).wait i = s.wait i := by simp [aJ]
      have hlS := aJ_len (fC s mask) s i
      refine Ix_ct hX2.wt (waitB_get _ (by rw [hlS]; exact hil)) ?_
      rw [seq_wS, hw2]
      cases hw : s.wait i with
      | none =>
        simp only [Option.isNone_none]
        refine hJ _ _ ⟨?_, ?_, hk2⟩
        · rw [rank_succ]; simp [waiting, hw]
        · rw [aJ_skip hw (fun y => by simp [fC, hw])]
          exact hX2
      | some y =>
        simp only [Option.isNone_some, Br]
        obtain ⟨z, hz⟩ := getS hil
        have e1 := aJ_safe (f := fC s mask) hz
        have e2 := aJ_wait (f := fC s mask) (s := s) (i := i)
        have hfz : fC s mask i z = if bit mask (rank s i) then y else z := by simp [fC, hw]
        have hzs : (aJ (fC s mask) s i).safe[i]? = some z := by simp [aJ, hz]
        refine Jp_of (fun _ w3 => XAtX w3 x G { aJ (fC s mask) s i with safe := (aJ (fC s mask) s (i + 1)).safe } ss ws ∧ KeepsP G w w3) ?_ ?_
        · intro J9 hJ9
          refine Jp_of (fun st w3 => st = (bit mask (rank s i), ()) ∧ w2 = w3) ?_ ?_
          · intro J' hJ'
            by_cases hm : rank s i < mask.size
            · rw [decide_eq_true (by omega)]
              simp only [Br]
              obtain ⟨b, hb⟩ : ∃ b, mask.data.toList[rank s i]? = some b := ⟨_, List.getElem?_eq_getElem (by simpa using hm)⟩
              refine ⟨by omega, b, by rw [Int.toNat_natCast, ba_get]; exact hb, by decide, hJ' _ _ ⟨?_, rfl⟩⟩
              rw [show ((b.toNat : Int)).tmod 2 = ((b.toNat % 2 : Nat) : Int) from tmod_nat b.toNat 2]
              unfold bit
              rw [hb]
              have : b.toNat % 2 < 2 := Nat.mod_lt _ (by omega)
              congr 1
              rw [Bool.eq_iff_iff]
              simp
              omega
            · rw [decide_eq_false (by omega)]
              refine hJ' _ _ ⟨?_, rfl⟩
              unfold bit
              rw [List.getElem?_eq_none (by have : mask.data.size = mask.size := rfl
                                            simp; omega)]
          · rintro _ _ ⟨rfl, rfl⟩
            cases hb : bit mask (rank s i) with
            | false =>
              rw [hfz, if_neg (by simp [hb])] at e1
              refine hJ9 _ _ ⟨?_, hk2⟩
              have : (aJ (fC s mask) s (i + 1)).safe = (aJ (fC s mask) s i).safe := by
                rw [e1]
                apply List.ext_getElem?
                intro k
                by_cases hk : i = k
                · subst hk; rw [List.getElem?_set_self (by rw [hlS]; exact hil), hzs]
                · rw [List.getElem?_set_ne hk]
              rw [this]
              exact hX2
            | true =>
              rw [hfz, if_pos hb] at e1
              simp only [Br]
              refine LdL_of (i := 0) (x := ss) hX2.hd rfl ?_
              refine Ix_st hX2.sf (by simp only [safeB, List.length_map]; rw [hlS]; exact hil) (bS y) ?_
              intro w3 hs3 hk3 _
              refine hJ9 _ _ ⟨?_, hk2.step hk3 (fun y hy => .inl (hssG y hy))⟩
              rw [e1]
              exact hX2.putS hs3 hk3
        · rintro _ w3 ⟨hX3, hk3⟩
          refine LdL_of (i := 1) (x := ws) hX3.hd rfl ?_
          refine Ix_st hX3.wt (by rw [waitB_len, show _ = (aJ (fC s mask) s (i + 1)).safe.length from rfl, aJ_len]; exact hil) (BA []) ?_
          intro w4 hs4 hk4 _
          have hX4 := hX3.putW hs4 hk4
          refine hJ _ _ ⟨?_, ?_, hk3.step hk4 (fun y hy => .inl (hwsG y hy))⟩
          · rw [rank_succ, w64_in (by omega) (by omega)]
            simp [waiting, hw]
          · have e3 : aJ (fC s mask) s (i + 1) = { aJ (fC s mask) s i with safe := (aJ (fC s mask) s (i + 1)).safe, wait := fun k => if k = i then none else (aJ (fC s mask) s i).wait k } := by
              rw [← e2]; rfl
            rw [e3]
            exact hX4
    · rintro _ w3 ⟨rfl, hX3, hk3⟩
      exact ⟨s.safe.length - (i + 1), by omega, i + 1, by rw [w64_in (by omega) (by omega)]; rfl, rfl, by omega, hX3, hk3⟩
  · rw [decide_eq_false (by omega)]
    simp only [Br]
    obtain rfl : i = s.safe.length := by omega
    refine set_box hX2.hd 3 _ rfl (by simp) ?_
    intro w3 hb3 hk3
    refine set_box hb3 2 _ rfl (by simp) ?_
    intro w4 hb4 hk4
    have hk34 : Keeps [x] w2 w4 := hk3.trans hk4 (by simp)
    refine hR _ _ ⟨?_, hk2.step hk34 (by simp; exact .inl hxG)⟩
    rw [← fC_end hX.ok mask]
    exact ⟨ss, ws, hX2.set hk34 (by simpa using hb4) rfl rfl (by rw [fC_end hX.ok mask]; exact hX.ok.crash mask)⟩

theorem XStart_ok {w : World} {x : Nat} {G : Nat → Prop} {s : DS} (h : XAt w x G s) :
    Cl Try.prog i_sumpterref06_Disk_Start [.pointer (some ⟨x, 0, none⟩)] true [] (fun _ w' => XAt w' x G (mStart s) ∧ KeepsP G w w') w := by
  refine Cl_gen fun R hR => ?_
  have hok := h.ok.start
  apply sumpterref06_Disk_Start_call
  unfold sumpterref06_Disk_Start
  obtain ⟨ss, ws, hX⟩ := id h
  simp only [sxr, hX.hd, sxl]
  unfold mStart at hR hok
  cases hd : s.down with
  | false =>
    simp only [hd, Bool.false_eq_true, if_false] at hR
    simp only [sxr]
    exact hR _ _ ⟨h, KeepsP.refl _ _⟩
  | true =>
    simp only [hd, if_true] at hR hok
    simp only [sxr]
    refine Cl.mono (XCrash_ok h (BA [])) ?_
    rintro _ w1 ⟨⟨ss1, ws1, hX1⟩, hk1⟩
    refine set_box hX1.hd 3 _ rfl (by simp) ?_
    intro w2 hb2 hk2
    exact hR _ _ ⟨⟨ss1, ws1, hX1.set hk2 (by simpa using hb2) rfl rfl hok⟩, hk1.step hk2 (by simp; exact .inl ((hX1.own x).2 (.inl rfl)))⟩

/-- The numbers below a place that wait. -/
def wJ (s : DS) (i : Nat) : List Int := ((List.range i).filter (waiting s)).map fun (k : Nat) => (k : Int)
theorem wJ_succ (s : DS) (i : Nat) : wJ s (i + 1) = wJ s i ++ if waiting s i then [(i : Int)] else [] := by
  unfold wJ
  rw [List.range_succ, List.filter_append, List.map_append]
  congr 1
  cases h : waiting s i <;> simp [h]
theorem wJ_len (s : DS) (i : Nat) : (wJ s i).length ≤ i := by
  have := rank_le s i
  simpa [wJ, rank] using this

theorem XWaits_ok {w : World} {x : Nat} {G : Nat → Prop} {s : DS} (h : XAt w x G s) :
    Cl Try.prog i_sumpterref06_Disk_Waits [.pointer (some ⟨x, 0, none⟩)] false [.sc .sl] (fun r w' => SlC w' r.1 1 (cI (wI s)) ∧ Keeps [] w w' ∧ (∀ y ∈ blk r.1, w.heap.size ≤ y)) w := by
  refine Cl_gen fun R hR => ?_
  apply sumpterref06_Disk_Waits_call
  unfold sumpterref06_Disk_Waits
  obtain ⟨ss, ws, hX⟩ := h
  have hlw := cT_slen hX.wt
  rw [waitB_len] at hlw
  have hln := hX.ok.ln
  have hwl := hX.wt.lt
  simp only [Nn, add_of]
  refine LdL_of (i := 1) (x := ws) hX.hd rfl ?_
  refine ⟨fun n st w' => ∃ (r : Sl) (i : Nat), st = (r, (i : Int), ()) ∧ n = s.safe.length - i ∧ i ≤ s.safe.length ∧ SlC w' r 1 (cI (wJ s i)) ∧ Keeps [] w w' ∧ (∀ y ∈ blk r, w.heap.size ≤ y), ⟨_, ⟨none, 0, 0⟩, 0, rfl, rfl, by omega, SlC.nil _ _, Keeps.refl _ _, by simp [blk]⟩, ?_⟩
  rintro _ _ w2 ⟨r, i, rfl, rfl, hi, hs2, hk2, hb2⟩
  dsimp only
  rw [hlw]
  by_cases hil : i < s.safe.length
  · rw [decide_eq_true (by omega)]
    simp only [Br]
    have hrl := cI_slen hs2
    have hji := wJ_len s i
    refine Jp_of (fun st w3 => ∃ r', st = (r', ()) ∧ SlC w3 r' 1 (cI (wJ s (i + 1))) ∧ Keeps [] w w3 ∧ (∀ y ∈ blk r', w.heap.size ≤ y)) ?_ ?_
    · intro J hJ
      refine Ix_ct (hX.wt.keeps hk2 (by simp)) (waitB_get _ hil) ?_
      rw [seq_wS]
      rw [wJ_succ] at hJ
      cases hw : s.wait i with
      | none =>
        simp only [Option.isNone_none, Bool.not_true]
        refine hJ _ _ ⟨r, rfl, ?_, hk2, hb2⟩
        simpa [waiting, hw] using hs2
      | some y =>
        simp only [Option.isNone_some, Bool.not_false, Br]
        refine NewApp_of (bytes := 8) (new := cI [(i : Int)]) hs2 rfl (cI_one _) (by kernel_rfl) (by omega) (by omega) ?_
        intro r' w3 h1 h2 h3 h4
        refine hJ _ _ ⟨r', rfl, ?_, hk2.trans h3 (fun z hz => .inr (hb2 z hz)), fun z hz => ?_⟩
        · simpa [waiting, hw, cI] using h1
        · rcases h4 z hz with h | h
          · exact hb2 z h
          · have := hk2.size; omega
    · rintro _ w3 ⟨r', rfl, hs3, hk3, hb3⟩
      exact ⟨s.safe.length - (i + 1), by omega, r', i + 1, by rw [w64_in (by omega) (by omega)]; rfl, rfl, by omega, hs3, hk3, hb3⟩
  · rw [decide_eq_false (by omega)]
    simp only [Br]
    obtain rfl : i = s.safe.length := by omega
    exact hR _ _ ⟨hs2, hk2, hb2⟩

theorem XNew_ok (w : World) (n : Int) :
    Cl Try.prog i_sumpterref06_New [.int .i64 n] true [.sc .p, .sc (.i .i64)] (fun r w' => (if n < 1 ∨ 4096 < n then r = (none, 1, ()) else ∃ x G, r = (some ⟨x, 0, none⟩, 0, ()) ∧ XAt w' x G (dNew n.toNat) ∧ (∀ y, G y → w.heap.size ≤ y)) ∧ Keeps [] w w') w := by
  refine Cl_gen fun R hR => ?_
  apply sumpterref06_New_call
  unfold sumpterref06_New
  refine Jp_of (fun st w' => st = (decide (n < 1 ∨ 4096 < n), ()) ∧ w = w') ?_ ?_
  · intro J hJ
    by_cases h1 : n < 1
    · rw [decide_eq_true h1]
      simp only [Br]
      exact hJ _ _ ⟨by rw [decide_eq_true (.inl h1)], rfl⟩
    · rw [decide_eq_false h1]
      simp only [Br]
      exact hJ _ _ ⟨by simp [h1], rfl⟩
  rintro _ _ ⟨rfl, rfl⟩
  by_cases hc : n < 1 ∨ 4096 < n
  · rw [decide_eq_true hc]
    simp only [Br]
    exact hR _ _ ⟨by rw [if_pos hc], Keeps.refl _ _⟩
  · rw [decide_eq_false hc]
    simp only [if_neg hc] at hR
    obtain ⟨k, rfl⟩ : ∃ k : Nat, n = k := ⟨n.toNat, by omega⟩
    have hk46 : k ≤ 4096 := by omega
    simp only [Br, New]
    generalize hw1 : w.alloc _ = w1
    generalize hx : w.heap.size = x
    have hb1 : w1.heap[x]? = some (.cells #[.slice none 0 0, .slice none 0 0, .int .i64 (-1), .bool false] 70 (0, 0)) := by rw [← hw1, ← hx]; exact hp_alloc_new w _
    have hk1 : Keeps [] w w1 := by rw [← hw1]; exact (Keeps.refl _ _).alloc _
    have hz1 : w1.heap.size = x + 1 := by rw [← hw1, World.size_alloc, hx]
    refine ⟨fun m st w' => ∃ (i : Nat) (ss ws : Sl), st = ((i : Int), ()) ∧ m = k - i ∧ i ≤ k ∧ w'.heap[x]? = some (.cells #[.slice ss.p ss.len ss.cap, .slice ws.p ws.len ws.cap, .int .i64 (-1), .bool false] 70 (0, 0)) ∧ SlC w' ss 1 (cT (List.replicate i (bS zSec))) ∧ SlC w' ws 1 (cT (List.replicate i (BA []))) ∧ (∀ y ∈ blk ss, x < y) ∧ (∀ y ∈ blk ws, x < y) ∧ (∀ y ∈ blk ss, y ∉ blk ws) ∧ Keeps [] w w' ∧ x < w'.heap.size, ⟨_, 0, ⟨none, 0, 0⟩, ⟨none, 0, 0⟩, rfl, rfl, by omega, hb1, SlC.nil _ _, SlC.nil _ _, by simp [blk], by simp [blk], by simp [blk], hk1, by omega⟩, ?_⟩
    rintro _ _ w2 ⟨i, ss, ws, rfl, rfl, hi, hb2, hs2, hv2, b1, b2, b3, hk2, hz2⟩
    dsimp only
    by_cases hil : i < k
    · rw [decide_eq_true (by omega)]
      have hsl := cT_slen hs2
      have hvl := cT_slen hv2
      simp only [List.length_replicate] at hsl hvl
      simp only [Dr, add_of]
      have hkd : Keeps [] w2 w2.drew := (Keeps.refl _ _).drew
      refine LdL_of (i := 0) (x := ss) (w := w2.drew) hb2 rfl ?_
      refine Mk_of (l := 64) (c := 64) (Nat.le_refl _) (by omega) (by omega) ?_
      intro w3 hs3 hk3 hz3
      rw [show zc Try.prog 5 = #[.int .u8 0] from by kernel_rfl, toList_madeCells_one] at hs3
      have hk23 : Keeps [] w2 w3 := hkd.trans hk3 (by simp)
      have hb3 := hk23.at hb2 (by simp)
      refine ⟨LdL_of (i := 0) (x := ss) hb3 rfl rfl, ?_⟩
      have hB : RdB ⟨some ⟨w2.drew.heap.size, 0, none⟩, 64, 64⟩ (List.replicate 64 0) w3 := SlC.rdb (by simpa [cB] using hs3)
      refine BtoS_of hB ?_
      obtain ⟨w4, hw4⟩ : ∃ w4, w3.alloc (.cells #[.string (bS zSec)] 9) = w4 := ⟨_, rfl⟩
      change (Both _ _) (w3.alloc (.cells #[.string (bS zSec)] 9))
      rw [hw4]
      have hk4 : Keeps [] w3 w4 := by rw [← hw4]; exact (Keeps.refl _ _).alloc _
      have hz4 : w4.heap.size = w3.heap.size + 1 := by rw [← hw4, World.size_alloc]
      have hb4 := hk4.at hb3 (by simp)
      have hk24 : Keeps [] w2 w4 := hk23.trans hk4 (by simp)
      refine ⟨LdL_of (i := 0) (x := ss) hb4 rfl rfl, ?_⟩
      have hel : RdC (some ⟨w3.heap.size, 0, none⟩) (1 * 1) (cT [bS zSec]) w4 := by
        have h1 : w4.heap[w3.heap.size]? = some (.cells #[.string (bS zSec)] 9 (0, 0)) := by rw [← hw4]; exact hp_alloc_new w3 _
        exact rdc_row (cs := cT [bS zSec]) h1
      have hlen2 : w2.heap.size ≤ w4.heap.size := hk24.size
      refine App_of (bytes := 16) (hs2.keeps hk24 (by simp)) hel rfl (cT_one _) (by kernel_rfl) (by omega) (by omega) ?_
      intro ss' w5 hs5 hl5 hk5 hbs5
      have bss : ∀ y ∈ blk ss', x < y := fun y hy => by
        rcases hbs5 y hy with h | h
        · exact b1 y h
        · omega
      have hb5 := hk5.at hb4 (fun hh => by have := b1 _ hh; omega)
      have hv5 := (hv2.keeps hk24 (by simp)).keeps hk5 (fun y hy hy' => b3 y hy' hy)
      have bsw : ∀ y ∈ blk ss', y ∉ blk ws := fun y hy hy' => by
        rcases hbs5 y hy with h | h
        · exact b3 y h hy'
        · have := hv2.lt y hy'; omega
      refine set_box hb5 0 _ rfl (by simp) ?_
      intro w6 hb6 hk6
      simp only [List.setIfInBounds_toArray, List.set_cons_zero] at hb6
      have hs6 := hs5.keeps hk6 (fun y hy => by have := bss y hy; simp; omega)
      have hv6 := hv5.keeps hk6 (fun y hy => by have := b2 y hy; simp; omega)
      refine LdL_of (i := 1) (x := ws) hb6 rfl ?_
      have hk56 : Keeps (blk ss ++ [x]) w4 w6 := (hk5.mono (m' := blk ss ++ [x]) (fun y hy => .inl (by simp [hy]))).trans hk6 (by simp)
      have hsz46 : w4.heap.size ≤ w6.heap.size := hk56.size
      refine NewApp_of (bytes := 16) (new := cT [BA []]) hv6 rfl (cT_one _) (by kernel_rfl) (by omega) (by omega) ?_
      intro ws' w7 hv7 hl7 hk7 hbv7
      have bws : ∀ y ∈ blk ws', x < y := fun y hy => by
        rcases hbv7 y hy with h | h
        · exact b2 y h
        · omega
      have hb7 := hk7.at hb6 (fun hh => by have := b2 _ hh; omega)
      have hs7 := hs6.keeps hk7 bsw
      have bsw' : ∀ y ∈ blk ss', y ∉ blk ws' := fun y hy hy' => by
        rcases hbv7 y hy' with h | h
        · exact bsw y hy h
        · have := hs6.lt y hy; omega
      refine set_box hb7 1 _ rfl (by simp) ?_
      intro w8 hb8 hk8
      have hkw : Keeps [] w w8 := by
        have h1 : Keeps [] w w4 := hk2.trans hk24 (by simp)
        have h2 : Keeps [] w w6 := h1.trans hk56 (fun y hy => by
          rcases List.mem_append.1 hy with h | h
          · have := b1 y h; right; omega
          · simp at h; right; omega)
        have h3 : Keeps [] w w7 := h2.trans hk7 (fun y hy => by have := b2 y hy; right; omega)
        exact h3.trans hk8 (fun y hy => by simp at hy; right; omega)
      refine ⟨k - (i + 1), by omega, i + 1, ss', ws', by rw [w64_in (by omega) (by omega)]; rfl, rfl, by omega, by simpa using hb8, ?_, ?_, bss, bws, bsw', hkw, by have := hk8.size; have := hk7.size; omega⟩
      · have := hs7.keeps hk8 (fun y hy => by have := bss y hy; simp; omega)
        rw [List.replicate_succ']
        simpa [cT] using this
      · have := hv7.keeps hk8 (fun y hy => by have := bws y hy; simp; omega)
        rw [List.replicate_succ']
        simpa [cT] using this
    · rw [decide_eq_false (by omega)]
      obtain rfl : i = k := by omega
      refine hR _ _ ⟨⟨x, fun y => y = x ∨ y ∈ blk ss ∨ y ∈ blk ws, rfl, ⟨ss, ws, hb2, ?_, ?_, fun hh => by have := b1 _ hh; omega, fun hh => by have := b2 _ hh; omega, b3, fun y => Iff.rfl, dNew_ok (by simpa using hk46)⟩, fun y hy => ?_⟩, hk2⟩
      · simpa [dNew, safeB] using hs2
      · have : waitB (dNew ((i : Int)).toNat).safe.length (dNew ((i : Int)).toNat).wait = List.replicate i (BA []) := by
          simp [dNew, waitB, wS, List.map_const']
        rw [this]
        exact hv2
      · rcases hy with rfl | hy | hy
        · omega
        · have := b1 y hy; omega
        · have := b2 y hy; omega

end Go.Proofs.Ythfgdoiaebfcdaa
