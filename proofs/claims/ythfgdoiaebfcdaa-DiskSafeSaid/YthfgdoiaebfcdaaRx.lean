/- The document's own device (the reference): what its calls do. Conditions: none. -/
import Derived.Test.YthfgdoiaebfcdaaDu
set_option linter.unusedVariables false
set_option linter.unusedSimpArgs false
namespace Go.Proofs.Ythfgdoiaebfcdaa
open Go Go.Sx

def bS (x : Sec) : ByteArray := BA x.1
def wS : Option Sec → ByteArray
  | none => BA []
  | some x => bS x
def safeB (s : DS) : List ByteArray := s.safe.map bS
def waitB (n : Nat) (wait : Nat → Option Sec) : List ByteArray := (List.range n).map fun i => wS (wait i)
theorem seq_wS (o : Option Sec) : seq (wS o) (BA []) = o.isNone := by
  cases o with
  | none => exact seq_refl _
  | some x =>
    have : x.1 ≠ [] := fun h => by have := x.2; rw [h] at this; simp at this
    simp only [seq, wS, bS, Option.isNone_some, beq_eq_false_iff_ne, ne_eq, ByteArray.toList_eq]
    intro h
    exact this (by simpa [BA] using h)
theorem waitB_len (n : Nat) (f : Nat → Option Sec) : (waitB n f).length = n := by simp [waitB]
theorem waitB_get {n i : Nat} (f : Nat → Option Sec) (h : i < n) : (waitB n f)[i]? = some (wS (f i)) := by simp [waitB, h]
theorem waitB_set (n i : Nat) (f : Nat → Option Sec) (o : Option Sec) : (waitB n f).set i (wS o) = waitB n (fun k => if k = i then o else f k) := by
  apply List.ext_getElem?
  intro k
  by_cases hk : k < n
  · by_cases hi : i = k
    · subst hi
      rw [List.getElem?_set_self (by rw [waitB_len]; exact hk), waitB_get _ hk, if_pos rfl]
    · rw [List.getElem?_set_ne hi, waitB_get _ hk, waitB_get _ hk, if_neg (Ne.symm hi)]
  · rw [List.getElem?_eq_none (by rw [List.length_set, waitB_len]; omega), List.getElem?_eq_none (by rw [waitB_len]; omega)]

structure XAtX (w : World) (x : Nat) (G : Nat → Prop) (s : DS) (ss ws : Sl) : Prop where
  hd : w.heap[x]? = some (.cells #[.slice ss.p ss.len ss.cap, .slice ws.p ws.len ws.cap, .int .i64 s.fuse, .bool s.down] 70 (0, 0))
  sf : SlC w ss 1 (cT (safeB s))
  wt : SlC w ws 1 (cT (waitB s.safe.length s.wait))
  xs : x ∉ blk ss
  xw : x ∉ blk ws
  sw : ∀ y ∈ blk ss, y ∉ blk ws
  own : ∀ y, G y ↔ y = x ∨ y ∈ blk ss ∨ y ∈ blk ws
  ok : DOk s
def XAt (w : World) (x : Nat) (G : Nat → Prop) (s : DS) : Prop := ∃ ss ws, XAtX w x G s ss ws

theorem XAt.bl {w : World} {x : Nat} {G : Nat → Prop} {s : DS} (h : XAt w x G s) : Bl G w := by
  obtain ⟨ss, ws, h⟩ := h
  intro y hy
  rcases (h.own y).1 hy with rfl | hy | hy
  · exact hp_lt h.hd
  · exact h.sf.lt y hy
  · exact h.wt.lt y hy
theorem XAt.ok {w : World} {x : Nat} {G : Nat → Prop} {s : DS} (h : XAt w x G s) : DOk s := by
  obtain ⟨ss, ws, h⟩ := h
  exact h.ok
theorem XAtX.keepsL {w w' : World} {x : Nat} {G : Nat → Prop} {s : DS} {ss ws : Sl} {l : List Nat} (h : XAtX w x G s ss ws) (hk : Keeps l w w') (hd : ∀ y, G y → y ∉ l) : XAtX w' x G s ss ws :=
  ⟨hk.at h.hd (hd x ((h.own x).2 (.inl rfl))), h.sf.keeps hk (fun y hy => hd y ((h.own y).2 (.inr (.inl hy)))), h.wt.keeps hk (fun y hy => hd y ((h.own y).2 (.inr (.inr hy)))), h.xs, h.xw, h.sw, h.own, h.ok⟩
theorem XAt.keeps {w w' : World} {x : Nat} {G F : Nat → Prop} {s : DS} (h : XAt w x G s) (hk : KeepsP F w w') (hd : Dj G F) : XAt w' x G s := by
  obtain ⟨ss, ws, h⟩ := h
  exact ⟨ss, ws, hk.at h.hd (hd x ((h.own x).2 (.inl rfl))), h.sf.keepsP hk (fun y hy => hd y ((h.own y).2 (.inr (.inl hy)))), h.wt.keepsP hk (fun y hy => hd y ((h.own y).2 (.inr (.inr hy)))), h.xs, h.xw, h.sw, h.own, h.ok⟩
theorem XAt.keeps0 {w w' : World} {x : Nat} {G : Nat → Prop} {s : DS} (h : XAt w x G s) (hk : Keeps [] w w') : XAt w' x G s := h.keeps (hk.toP (F := fun _ => False) (by simp)) (fun _ _ h => h)
theorem XAtX.set {w w' : World} {x : Nat} {G : Nat → Prop} {s s' : DS} {ss ws : Sl} (h : XAtX w x G s ss ws) (hk : Keeps [x] w w') (hb : w'.heap[x]? = some (.cells #[.slice ss.p ss.len ss.cap, .slice ws.p ws.len ws.cap, .int .i64 s'.fuse, .bool s'.down] 70 (0, 0)))
    (h1 : s'.safe = s.safe) (h2 : s'.wait = s.wait) (h3 : DOk s') : XAtX w' x G s' ss ws :=
  ⟨hb, by unfold safeB; rw [h1]; exact h.sf.keeps hk (fun y hy => by simp; rintro rfl; exact h.xs hy), by rw [h1, h2]; exact h.wt.keeps hk (fun y hy => by simp; rintro rfl; exact h.xw hy), h.xs, h.xw, h.sw, h.own, h3⟩

theorem Xact_ok {w : World} {x : Nat} {G : Nat → Prop} {s : DS} (h : XAt w x G s) :
    Cl Try.prog i_sumpterref06_Disk_act [.pointer (some ⟨x, 0, none⟩)] false [.sc .b] (fun r w' => r.1 = (mAct s).2 ∧ XAt w' x G (mAct s).1 ∧ KeepsP G w w') w := by
  refine Cl_gen fun R hR => ?_
  obtain ⟨ss, ws, h⟩ := h
  have hdH : ∀ y ∈ [x], G y ∨ w.heap.size ≤ y := by simp; exact .inl ((h.own x).2 (.inl rfl))
  have hok := h.ok.act
  have f1 := h.ok.f1
  have f2 := h.ok.f2
  apply sumpterref06_Disk_act_call
  unfold sumpterref06_Disk_act
  simp only [Jp, sxr, h.hd, sxl]
  unfold mAct at hok hR
  by_cases h0 : s.fuse = 0
  · rw [show (s.fuse == 0) = true from by simp [h0]]
    rw [if_pos h0] at hok
    simp only [if_pos h0] at hR
    simp only [sxr]
    refine set_box h.hd 3 _ rfl (by simp) ?_
    intro w1 hb hk
    exact hR _ _ ⟨rfl, ⟨ss, ws, h.set hk (by simpa using hb) rfl rfl hok⟩, hk.toP hdH⟩
  · rw [show (s.fuse == 0) = false from by simp [h0]]
    rw [if_neg h0] at hok
    simp only [if_neg h0] at hR
    simp only [sxr, h.hd, sxl]
    by_cases h1 : 0 < s.fuse
    · rw [decide_eq_true (by omega)]
      rw [if_pos h1] at hok
      simp only [if_pos h1] at hR
      simp only [sxr, h.hd, sxl]
      rw [w64_in (by omega) (by omega)]
      refine set_box h.hd 2 _ rfl (by simp) ?_
      intro w1 hb hk
      exact hR _ _ ⟨rfl, ⟨ss, ws, h.set hk (by simpa using hb) rfl rfl hok⟩, hk.toP hdH⟩
    · rw [decide_eq_false (by omega)]
      rw [if_neg h1] at hok
      simp only [if_neg h1] at hR
      simp only [sxr]
      exact hR _ _ ⟨rfl, ⟨ss, ws, h⟩, KeepsP.refl _ _⟩

theorem XFuse_ok {w : World} {x : Nat} {G : Nat → Prop} {s : DS} (h : XAt w x G s) (n : Int) (hn : n ≤ 9223372036854775807) :
    Cl Try.prog i_sumpterref06_Disk_Fuse [.pointer (some ⟨x, 0, none⟩), .int .i64 n] true [] (fun _ w' => XAt w' x G (mFuse s n) ∧ KeepsP G w w') w := by
  obtain ⟨ss, ws, h⟩ := h
  have hdH : ∀ y ∈ [x], G y ∨ w.heap.size ≤ y := by simp; exact .inl ((h.own x).2 (.inl rfl))
  apply sumpterref06_Disk_Fuse_call
  unfold sumpterref06_Disk_Fuse
  simp only [sxr]
  refine set_box h.hd 2 _ rfl (by simp) ?_
  intro w1 hb hk
  refine ⟨⟨ss, ws, h.set hk ?_ rfl rfl (h.ok.fuse n hn)⟩, hk.toP hdH⟩
  simpa [mFuse] using hb

/-- The places that may be asked for. -/
theorem range_ok {w : World} {x : Nat} {G : Nat → Prop} {s : DS} {ss ws : Sl} (h : XAtX w x G s ss ws) (i : Int) {J : Bool × Unit → Pr} (hJ : J (decide (i < 0 ∨ (s.safe.length : Int) ≤ i), ()) w) :
    Br (decide (i < 0)) (J (true, ())) (Nn (some ⟨x, 0, none⟩) fun a => LdL (a.add 0) fun y => J ((decide (i ≥ ((y.len : Nat) : Int))), ())) w := by
  have hl := cT_slen h.sf
  simp only [safeB, List.length_map] at hl
  by_cases hi : i < 0
  · rw [decide_eq_true hi]
    rw [decide_eq_true (.inl hi)] at hJ
    exact hJ
  · rw [decide_eq_false hi]
    simp only [Br, Nn, add_of]
    refine LdL_of (i := 0) (x := ss) h.hd rfl ?_
    rw [hl]
    simpa [hi] using hJ

theorem XWrite_ok {w : World} {x : Nat} {G : Nat → Prop} {s : DS} (h : XAt w x G s) (i : Int) {b : Sl} {bs : List UInt8} (hb : RdB b bs w) (hd : bs.length = 64 → ∀ y ∈ rblk b, ¬ G y) :
    Cl Try.prog i_sumpterref06_Disk_Write [.pointer (some ⟨x, 0, none⟩), .int .i64 i, .slice b.p b.len b.cap] false [.sc (.i .i64)] (fun r w' => r.1 = (mWrite s i bs).2 ∧ XAt w' x G (mWrite s i bs).1 ∧ KeepsP G w w') w := by
  refine Cl_gen fun R hR => ?_
  have hwo := h.ok.write i bs
  apply sumpterref06_Disk_Write_call
  unfold sumpterref06_Disk_Write
  obtain ⟨ss, ws, hX⟩ := id h
  simp only [Nn, add_of]
  refine LdB_of (i := 3) (x := s.down) hX.hd rfl ?_
  unfold mWrite at hR hwo
  cases hdn : s.down with
  | true =>
    have hat : mAt s i = 60 := by simp [mAt, hdn]
    simp only [hat] at hR
    exact hR _ _ ⟨rfl, h, KeepsP.refl _ _⟩
  | false =>
    simp only [Br]
    refine Jp_of (fun st w' => st = (decide (i < 0 ∨ (s.safe.length : Int) ≤ i), ()) ∧ w = w') (fun J hJ => range_ok hX i (hJ _ _ ⟨rfl, rfl⟩)) ?_
    rintro _ _ ⟨rfl, rfl⟩
    by_cases hi : i < 0 ∨ (s.safe.length : Int) ≤ i
    · have hat : mAt s i = 61 := by simp [mAt, hdn, hi]
      simp only [hat] at hR
      rw [decide_eq_true hi]
      exact hR _ _ ⟨rfl, h, KeepsP.refl _ _⟩
    · have hat : mAt s i = 0 := by simp [mAt, hdn, hi]
      simp only [hat, if_true] at hR hwo
      rw [decide_eq_false hi]
      have hbl := hb.1
      by_cases h1 : bs.length = 64
      · simp only [dif_pos h1] at hR hwo
        rw [show (((b.len : Nat) : Int) != 64) = false from by simp; omega]
        simp only [Br]
        refine Cl.mono (Xact_ok h) ?_
        rintro ⟨r, _⟩ w1 ⟨hr, hD, hk⟩
        simp only at hr
        subst hr
        cases ha : (mAct s).2 with
        | false =>
          simp only [ha] at hR
          exact hR _ _ ⟨rfl, hD, hk⟩
        | true =>
          simp only [ha, if_true] at hwo hR
          have hb1 := rdb_keepsP hb hk (hd h1)
          obtain ⟨ss, ws, hX1⟩ := hD
          simp only [Bool.not_true, Br, Dr, Nn]
          refine LdL_of (i := 1) (x := ws) (w := w1.drew) hX1.hd rfl ?_
          refine BtoS_of (w := w1.drew) hb1 ?_
          obtain ⟨n, rfl⟩ : ∃ n : Nat, i = n := ⟨i.toNat, by omega⟩
          have hsf : (mAct s).1.safe = s.safe := mAct_safe s
          have hkd : Keeps [] w1 w1.drew := (Keeps.refl _ _).drew
          refine Ix_st (w := w1.drew) (hX1.wt.keeps hkd (by simp)) (by rw [waitB_len, hsf]; omega) _ ?_
          intro w2 hs2 hk2 _
          have hk12 : Keeps (blk ws) w1 w2 := (hkd.mono (m' := blk ws) (by simp)).trans hk2 (fun y hy => .inl hy)
          refine hR _ _ ⟨rfl, ⟨ss, ws, hk12.at hX1.hd hX1.xw, hX1.sf.keeps hk12 hX1.sw, ?_, hX1.xs, hX1.xw, hX1.sw, hX1.own, hwo⟩, hk.step hk12 (fun y hy => .inl ((hX1.own y).2 (.inr (.inr hy))))⟩
          have := waitB_set (mAct s).1.safe.length n (mAct s).1.wait (some ⟨bs, h1⟩)
          rw [show (⟨bs.toArray⟩ : ByteArray) = wS (some ⟨bs, h1⟩) from rfl, this] at hs2
          rw [mAct_wait] at hs2
          exact hs2
      · simp only [dif_neg h1] at hR
        rw [show (((b.len : Nat) : Int) != 64) = true from by simp; omega]
        exact hR _ _ ⟨rfl, h, KeepsP.refl _ _⟩

theorem XRead_ok {w : World} {x : Nat} {G : Nat → Prop} {s : DS} (h : XAt w x G s) (i : Int) :
    Cl Try.prog i_sumpterref06_Disk_Read [.pointer (some ⟨x, 0, none⟩), .int .i64 i] true [.sc .sl, .sc (.i .i64)] (fun r w' => r.2.1 = (mRead s i).2 ∧ RdB r.1 (mRead s i).1 w' ∧ Keeps [] w w' ∧ (∀ y ∈ rblk r.1, w.heap.size ≤ y)) w := by
  refine Cl_gen fun R hR => ?_
  apply sumpterref06_Disk_Read_call
  unfold sumpterref06_Disk_Read
  obtain ⟨ss, ws, hX⟩ := id h
  simp only [Nn, add_of]
  refine LdB_of (i := 3) (x := s.down) hX.hd rfl ?_
  unfold mRead at hR
  have nilB : RdB ⟨none, 0, 0⟩ [] w := ⟨rfl, fun j b hj => by simp at hj⟩
  cases hdn : s.down with
  | true =>
    have hat : mAt s i = 60 := by simp [mAt, hdn]
    simp only [hat] at hR
    exact hR _ _ ⟨rfl, nilB, Keeps.refl _ _, by simp [rblk]⟩
  | false =>
    simp only [Br]
    refine Jp_of (fun st w' => st = (decide (i < 0 ∨ (s.safe.length : Int) ≤ i), ()) ∧ w = w') (fun J hJ => range_ok hX i (hJ _ _ ⟨rfl, rfl⟩)) ?_
    rintro _ _ ⟨rfl, rfl⟩
    by_cases hi : i < 0 ∨ (s.safe.length : Int) ≤ i
    · have hat : mAt s i = 61 := by simp [mAt, hdn, hi]
      simp only [hat] at hR
      rw [decide_eq_true hi]
      exact hR _ _ ⟨rfl, nilB, Keeps.refl _ _, by simp [rblk]⟩
    · have hat : mAt s i = 0 := by simp [mAt, hdn, hi]
      simp only [hat, if_true] at hR
      rw [decide_eq_false hi]
      obtain ⟨n, rfl⟩ : ∃ n : Nat, i = n := ⟨i.toNat, by omega⟩
      rw [Int.toNat_natCast] at hR
      have hn : n < s.safe.length := by omega
      simp only [Nn]
      refine LdL_of (i := 1) (x := ws) hX.hd rfl ?_
      refine Ix_ct hX.wt (waitB_get _ hn) ?_
      rw [seq_wS]
      have fin : ∀ (y : Sec), mSec s n = y → StoB 5 (bS y) (fun r => R (r, 0, ())) w := by
        intro y hy
        refine StoB_of ?_
        intro r w' h1 h2 h3 h4
        refine hR _ _ ⟨rfl, ?_, h2, ?_⟩
        · rw [hy]; exact h1
        · rw [h3]; simp
      unfold mSec at fin
      cases hw : s.wait n with
      | some y =>
        rw [hw] at fin
        simp only [Option.isNone_some, Bool.not_false, Br]
        refine LdL_of (i := 1) (x := ws) hX.hd rfl ?_
        refine Ix_ct hX.wt (waitB_get _ hn) ?_
        rw [hw]
        exact fin y rfl
      | none =>
        rw [hw] at fin
        simp only [Option.isNone_none, Bool.not_true, Br]
        refine LdL_of (i := 0) (x := ss) hX.hd rfl ?_
        obtain ⟨y, hy⟩ := getS hn
        refine Ix_ct (x := bS y) hX.sf (by simp [safeB, hy]) ?_
        exact fin y (by rw [Option.getD_none, List.getD_eq_getElem?_getD, hy]; rfl)

/-! ### those that go through all sectors -/
def aJ (f : Nat → Sec → Sec) (s : DS) (i : Nat) : DS := { s with safe := s.safe.mapIdx fun k x => if k < i then f k x else x, wait := fun k => if k < i then none else s.wait k }
theorem mapIdx_id (l : List Sec) : l.mapIdx (fun _ x => x) = l := by
  apply List.ext_getElem?
  intro k
  simp only [List.getElem?_mapIdx]
  cases l[k]? <;> rfl
theorem aJ_zero (f : Nat → Sec → Sec) (s : DS) : aJ f s 0 = s := by simp [aJ, mapIdx_id]
theorem aJ_len (f : Nat → Sec → Sec) (s : DS) (i : Nat) : (aJ f s i).safe.length = s.safe.length := by simp [aJ]
theorem aJ_skip {f : Nat → Sec → Sec} {s : DS} {i : Nat} (hw : s.wait i = none) (hf : ∀ x, f i x = x) : aJ f s (i + 1) = aJ f s i := by
  unfold aJ
  have h1 : (fun k => if k < i + 1 then none else s.wait k) = (fun k => if k < i then none else s.wait k) := by
    funext k
    by_cases h1 : k < i
    · rw [if_pos h1, if_pos (by omega)]
    · by_cases h2 : k = i
      · subst h2; rw [if_neg h1, if_pos (by omega), hw]
      · rw [if_neg h1, if_neg (by omega)]
  have h2 : (fun k x => if k < i + 1 then f k x else x) = (fun k x => if k < i then f k x else x) := by
    funext k x
    by_cases h1 : k < i
    · rw [if_pos h1, if_pos (by omega)]
    · by_cases h2 : k = i
      · subst h2; rw [if_neg h1, if_pos (by omega), hf]
      · rw [if_neg h1, if_neg (by omega)]
  rw [h1, h2]
theorem aJ_wait {f : Nat → Sec → Sec} {s : DS} {i : Nat} : (aJ f s (i + 1)).wait = fun k => if k = i then none else (aJ f s i).wait k := by
  funext k
  simp only [aJ]
  by_cases h1 : k = i
  · subst h1; rw [if_pos rfl, if_pos (by omega)]
  · rw [if_neg h1]
    by_cases h2 : k < i
    · rw [if_pos h2, if_pos (by omega)]
    · rw [if_neg h2, if_neg (by omega)]
theorem aJ_safe {f : Nat → Sec → Sec} {s : DS} {i : Nat} {x : Sec} (hx : s.safe[i]? = some x) : (aJ f s (i + 1)).safe = (aJ f s i).safe.set i (f i x) := by
  have hi := (List.getElem?_eq_some_iff.1 hx).1
  apply List.ext_getElem?
  intro k
  by_cases h1 : i = k
  · subst h1
    rw [List.getElem?_set_self (by rw [aJ_len]; exact hi)]
    simp only [aJ, List.getElem?_mapIdx, hx, Option.map_some]
    rw [if_pos (by omega)]
  · rw [List.getElem?_set_ne h1]
    simp only [aJ, List.getElem?_mapIdx]
    cases s.safe[k]? with
    | none => rfl
    | some y =>
      simp only [Option.map_some]
      by_cases h2 : k < i
      · rw [if_pos h2, if_pos (by omega)]
      · rw [if_neg h2, if_neg (by omega)]
theorem aJ_ok {s : DS} (h : DOk s) (f : Nat → Sec → Sec) (i : Nat) : DOk (aJ f s i) :=
  ⟨fun k hk => by
    simp only [aJ] at hk
    rw [aJ_len]
    split at hk
    · exact absurd rfl hk
    · exact h.wt k hk, by rw [aJ_len]; exact h.ln, h.f1, h.f2⟩
theorem aJ_end {s : DS} (h : DOk s) (f : Nat → Sec → Sec) : aJ f s s.safe.length = { s with safe := s.safe.mapIdx f, wait := fun _ => none } := by
  unfold aJ
  congr 1
  · apply List.ext_getElem?
    intro k
    simp only [List.getElem?_mapIdx]
    cases hk : s.safe[k]? with
    | none => rfl
    | some y => simp only [Option.map_some]; rw [if_pos (List.getElem?_eq_some_iff.1 hk).1]
  · funext k
    by_cases hk : k < s.safe.length
    · rw [if_pos hk]
    · rw [if_neg hk]
      cases hw : s.wait k with
      | none => rfl
      | some y => exact absurd (h.wt k (by rw [hw]; simp)) hk

theorem safeB_set {s : DS} (i : Nat) (x : Sec) : (safeB s).set i (bS x) = (s.safe.set i x).map bS := by simp [safeB, List.map_set]

/-- The steps of such a one: what is safe, what waits. -/
theorem XAtX.putS {w w' : World} {x : Nat} {G : Nat → Prop} {s : DS} {ss ws : Sl} (h : XAtX w x G s ss ws) {i : Nat} {y : Sec} (hs : SlC w' ss 1 (cT ((safeB s).set i (bS y)))) (hk : Keeps (blk ss) w w') : XAtX w' x G { s with safe := s.safe.set i y } ss ws :=
  ⟨hk.at h.hd h.xs, by rw [safeB_set] at hs; exact hs, by
    have := h.wt.keeps hk (fun z hz hz' => h.sw z hz' hz)
    simpa using this, h.xs, h.xw, h.sw, h.own, ⟨fun k hk => by simpa using h.ok.wt k hk, by simpa using h.ok.ln, h.ok.f1, h.ok.f2⟩⟩
theorem XAtX.putW {w w' : World} {x : Nat} {G : Nat → Prop} {s : DS} {ss ws : Sl} (h : XAtX w x G s ss ws) {i : Nat} (hs : SlC w' ws 1 (cT ((waitB s.safe.length s.wait).set i (BA [])))) (hk : Keeps (blk ws) w w') : XAtX w' x G { s with wait := fun k => if k = i then none else s.wait k } ss ws :=
  ⟨hk.at h.hd h.xw, h.sf.keeps hk h.sw, by
    rw [show BA [] = wS none from rfl, waitB_set] at hs
    exact hs, h.xs, h.xw, h.sw, h.own, ⟨fun k hk => by
      simp only at hk
      split at hk
      · exact absurd rfl hk
      · exact h.ok.wt k hk, h.ok.ln, h.ok.f1, h.ok.f2⟩⟩

theorem XSync_ok {w : World} {x : Nat} {G : Nat → Prop} {s : DS} (h : XAt w x G s) :
    Cl Try.prog i_sumpterref06_Disk_Sync [.pointer (some ⟨x, 0, none⟩)] false [.sc (.i .i64)] (fun r w' => r.1 = (mSync s).2 ∧ XAt w' x G (mSync s).1 ∧ KeepsP G w w') w := by
  refine Cl_gen fun R hR => ?_
  apply sumpterref06_Disk_Sync_call
  unfold sumpterref06_Disk_Sync
  refine Jp_of (fun st w1 => (st = (true, ()) ∧ XAt w1 x G (mSync s).1 ∧ (mSync s).2 = 60 ∧ KeepsP G w w1) ∨ (st = (false, ()) ∧ s.down = false ∧ (mAct s).2 = true ∧ XAt w1 x G (mAct s).1 ∧ KeepsP G w w1)) ?_ ?_
  · intro J hJ
    obtain ⟨ss, ws, hX⟩ := id h
    simp only [Nn, add_of]
    refine LdB_of (i := 3) (x := s.down) hX.hd rfl ?_
    cases hdn : s.down with
    | true =>
      refine hJ _ _ (.inl ⟨rfl, ?_, ?_, KeepsP.refl _ _⟩)
      · simp only [mSync, hdn, if_true]; exact h
      · simp only [mSync, hdn, if_true]
    | false =>
      simp only [Br]
      refine Cl.mono (Xact_ok h) ?_
      rintro ⟨r, _⟩ w1 ⟨hr, hD, hk⟩
      simp only at hr
      subst hr
      cases ha : (mAct s).2 with
      | true => exact hJ _ _ (.inr ⟨rfl, hdn, ha, hD, hk⟩)
      | false =>
        refine hJ _ _ (.inl ⟨rfl, ?_, ?_, hk⟩)
        · simp only [mSync, hdn, ha]; exact hD
        · simp only [mSync, hdn, ha]; rfl
  rintro _ w1 (⟨rfl, hD, hr, hk⟩ | ⟨rfl, hdn, ha, hD, hk⟩)
  · exact hR _ _ ⟨hr.symm, hD, hk⟩
  · have hsy : mSync s = ({ (mAct s).1 with safe := mMerge s, wait := fun _ => none }, 0) := by simp [mSync, hdn, ha]
    rw [hsy] at hR
    generalize hs1 : (mAct s).1 = s1 at hD hR
    have hmg : mMerge s = mMerge s1 := by rw [← hs1]; simp only [mMerge, mAct_safe, mAct_wait]
    rw [hmg] at hR
    obtain ⟨ss, ws, hX⟩ := id hD
    have hlw := cT_slen hX.wt
    rw [waitB_len] at hlw
    have hln := hX.ok.ln
    simp only [Br, Nn, add_of]
    refine LdL_of (i := 1) (x := ws) hX.hd rfl ?_
    have hssG : ∀ y ∈ blk ss, G y := fun y hy => (hX.own y).2 (.inr (.inl hy))
    have hwsG : ∀ y ∈ blk ws, G y := fun y hy => (hX.own y).2 (.inr (.inr hy))
    refine ⟨fun n st w' => ∃ i : Nat, st = ((i : Int), ()) ∧ n = s1.safe.length - i ∧ i ≤ s1.safe.length ∧ XAtX w' x G (aJ (fun k y => (s1.wait k).getD y) s1 i) ss ws ∧ KeepsP G w w', ⟨_, 0, rfl, rfl, by omega, by rw [aJ_zero]; exact hX, hk⟩, ?_⟩
    rintro _ _ w2 ⟨i, rfl, rfl, hi, hX2, hk2⟩
    dsimp only
    rw [hlw]
    by_cases hil : i < s1.safe.length
    · rw [decide_eq_true (by omega)]
      simp only [Br]
      refine Jp_of (fun _ w3 => XAtX w3 x G (aJ (fun k y => (s1.wait k).getD y) s1 (i + 1)) ss ws ∧ KeepsP G w w3) ?_ ?_
      · intro J hJ
        have hw2 : (aJ (fun k y => (s1.wait k).getD y) s1 i).wait i = s1.wait i := by simp [aJ]
        have hlS := aJ_len (fun k y => (s1.wait k).getD y) s1 i
        refine Ix_ct hX2.wt (waitB_get _ (by rw [hlS]; exact hil)) ?_
        rw [seq_wS, hw2]
        cases hw : s1.wait i with
        | none =>
          simp only [Option.isNone_none, Bool.not_true]
          refine hJ _ _ ⟨?_, hk2⟩
          rw [aJ_skip hw (fun y => by rw [hw]; rfl)]
          exact hX2
        | some y =>
          simp only [Option.isNone_some, Bool.not_false]
          refine LdL_of (i := 0) (x := ss) hX2.hd rfl ?_
          refine Ix_st hX2.sf (by simp only [safeB, List.length_map]; rw [hlS]; exact hil) (bS y) ?_
          intro w3 hs3 hk3 _
          have hX3 := hX2.putS hs3 hk3
          refine LdL_of (i := 1) (x := ws) hX3.hd rfl ?_
          refine Ix_st hX3.wt (by rw [waitB_len]; simpa [hlS] using hil) (BA []) ?_
          intro w4 hs4 hk4 _
          have hX4 := hX3.putW hs4 hk4
          obtain ⟨z, hz⟩ := getS hil
          refine hJ _ _ ⟨?_, (hk2.step hk3 (fun y hy => .inl (hssG y hy))).step hk4 (fun y hy => .inl (hwsG y hy))⟩
          have e1 := aJ_safe (f := fun k y => (s1.wait k).getD y) hz
          have e2 := aJ_wait (f := fun k y => (s1.wait k).getD y) (s := s1) (i := i)
          simp only [hw, Option.getD_some] at e1
          have e3 : aJ (fun k y => (s1.wait k).getD y) s1 (i + 1) = { aJ (fun k y => (s1.wait k).getD y) s1 i with safe := (aJ (fun k y => (s1.wait k).getD y) s1 i).safe.set i y, wait := fun k => if k = i then none else (aJ (fun k y => (s1.wait k).getD y) s1 i).wait k } := by
            rw [← e1, ← e2]; rfl
          rw [e3]
          exact hX4
      · rintro _ w3 ⟨hX3, hk3⟩
        exact ⟨s1.safe.length - (i + 1), by omega, i + 1, by rw [w64_in (by omega) (by omega)]; rfl, rfl, by omega, hX3, hk3⟩
    · rw [decide_eq_false (by omega)]
      simp only [Br]
      obtain rfl : i = s1.safe.length := by omega
      rw [aJ_end hX.ok] at hX2
      exact hR _ _ ⟨rfl, ⟨ss, ws, hX2⟩, hk2⟩

end Go.Proofs.Ythfgdoiaebfcdaa
