/- DiskSafe and DiskWaits: their walks. Conditions: none. -/
import Derived.Test.YthfgdoiaebfcdaaLc
set_option linter.unusedVariables false
set_option linter.unusedSimpArgs false
namespace Go.Proofs.Ythfgdoiaebfcdaa
open Go Go.Sx

/-- A device that is up, of twelve sectors, without a fuse. -/
structure Up12 (s : DS) : Prop where
  ln : s.safe.length = 12
  dn : s.down = false
  fu : s.fuse = -1
theorem Up12.act {s : DS} (h : Up12 s) : mAct s = (s, true) := by
  unfold mAct
  rw [if_neg (by rw [h.fu]; decide), if_neg (by rw [h.fu]; decide)]
theorem Up12.at {s : DS} (h : Up12 s) (i : Int) : mAt s i = if i < 0 ∨ 12 ≤ i then 61 else 0 := by
  unfold mAt
  rw [if_neg (by simp [h.dn]), h.ln]
  rfl
theorem Up12.write {s : DS} (h : Up12 s) {i : Nat} (hi : i < 12) (v : Nat) : mWrite s (i : Int) (fullB v) = ({ s with wait := setW s.wait i (fullS v) }, 0) := by
  rw [mWrite_up h.dn (by rw [h.ln]; exact hi), h.act]
  rfl
theorem Up12.sync {s : DS} (h : Up12 s) : mSync s = ({ s with safe := mMerge s, wait := fun _ => none }, 0) := by
  rw [mSync_up h.dn, h.act]
  rfl
theorem Up12.wr {s : DS} (h : Up12 s) (f : Nat → Option Sec) : Up12 { s with wait := f } := ⟨h.ln, h.dn, h.fu⟩
theorem Up12.sy {s : DS} (h : Up12 s) : Up12 { s with safe := mMerge s, wait := fun _ => none } := ⟨by rw [show _ = (mMerge s).length from rfl, mMerge_length]; exact h.ln, h.dn, h.fu⟩
theorem Up12.new : Up12 (dNew (12 : Int).toNat) := ⟨rfl, rfl, rfl⟩

/-- The sectors' texts, as they are read. -/
def nowB (s : DS) : List ByteArray := (List.range 12).map fun i => bS (mSec s i)
theorem nowB_len (s : DS) : (nowB s).length = 12 := by simp [nowB]
theorem nowB_get (s : DS) {i : Nat} (h : i < 12) : (nowB s)[i]? = some (bS (mSec s i)) := by simp [nowB, h]
theorem nowB_write (s : DS) (i : Nat) (x : Sec) : (nowB s).set i (bS x) = nowB { s with wait := setW s.wait i x } := by
  apply List.ext_getElem?
  intro k
  by_cases hk : k < 12
  · rw [nowB_get _ hk]
    by_cases hi : i = k
    · subst hi
      rw [List.getElem?_set_self (by rw [nowB_len]; exact hk)]
      simp [mSec, setW]
    · rw [List.getElem?_set_ne hi, nowB_get _ hk]
      simp [mSec, setW, Ne.symm hi]
  · rw [List.getElem?_eq_none (by rw [List.length_set, nowB_len]; omega), List.getElem?_eq_none (by rw [nowB_len]; omega)]
theorem nowB_sync {s : DS} (h : Up12 s) : nowB { s with safe := mMerge s, wait := fun _ => none } = nowB s := by
  unfold nowB
  apply List.map_congr_left
  intro i hi
  rw [List.mem_range] at hi
  congr 1
  obtain ⟨x, hx⟩ := getS (s := s) (i := i) (by rw [h.ln]; exact hi)
  simp only [mSec, Option.getD_none, mMerge, List.getD_eq_getElem?_getD, List.getElem?_mapIdx, hx, Option.map_some, Option.getD_some]
theorem nowB_new : nowB (dNew (12 : Int).toNat) = List.replicate 12 (bS zSec) := by kernel_rfl

/-- The first round: all places are zero. -/
theorem zeros_ok {w : World} {b : Nat} {t : TypeId} {l0 : List ByteArray} (hl0 : l0.length = 12) (hb : w.heap[b]? = some (.cells (cT l0).toArray t (0, 0))) {K : Pr}
    (k : ∀ w', w'.heap[b]? = some (.cells (cT (List.replicate 12 (bS zSec))).toArray t (0, 0)) → Keeps [b] w w' → K w') :
    Lp (σ := Int × Unit) (fun L7 s8 => Br (decide ((s8.1 : Int) < 12)) (Mk 5 1 1 (zc Try.prog 5) 64 64 fun r9 => BtoS r9 fun s10 => IxR ⟨b, 0, none⟩ 12 s8.1 1 fun a11 => St a11 (.string s10) <| L7 ((w64 (s8.1 + 1)), ())) K) (0, ()) w := by
  refine ⟨fun m st w' => ∃ (i : Nat) (l : List ByteArray), st = ((i : Int), ()) ∧ m = 12 - i ∧ i ≤ 12 ∧ l.length = 12 ∧ (∀ j, j < i → l[j]? = some (bS zSec)) ∧ w'.heap[b]? = some (.cells (cT l).toArray t (0, 0)) ∧ Keeps [b] w w', ⟨_, 0, l0, rfl, rfl, by omega, hl0, fun j h => by omega, hb, Keeps.refl _ _⟩, ?_⟩
  rintro _ _ w2 ⟨i, l, rfl, rfl, hi, hl, hz, hb2, hk2⟩
  dsimp only
  by_cases hil : i < 12
  · rw [decide_eq_true (by omega)]
    simp only [Br]
    refine Mk_of (l := 64) (c := 64) (Nat.le_refl _) (by omega) (by omega) ?_
    intro w3 hs3 hk3 hz3
    rw [show zc Try.prog 5 = #[.int .u8 0] from by kernel_rfl, toList_madeCells_one] at hs3
    have hB : RdB ⟨some ⟨w2.heap.size, 0, none⟩, 64, 64⟩ (List.replicate 64 0) w3 := SlC.rdb (by simpa [cB] using hs3)
    refine BtoS_of hB ?_
    refine IxR_st (hk3.at hb2 (by simp)) hil hl (bS zSec) ?_
    intro w4 hb4 hk4
    refine ⟨12 - (i + 1), by omega, i + 1, _, by rw [w64_in (by omega) (by omega)]; rfl, rfl, by omega, by simpa using hl, fun j hj => ?_, hb4, (hk2.trans (hk3.mono (m' := [b]) (by simp)) (by simp)).trans hk4 (by simp)⟩
    by_cases hji : i = j
    · subst hji; rw [List.getElem?_set_self (by omega)]
    · rw [List.getElem?_set_ne hji]; exact hz j (by omega)
  · rw [decide_eq_false (by omega)]
    obtain rfl : i = 12 := by omega
    have : l = List.replicate 12 (bS zSec) := by
      apply List.ext_getElem?
      intro j
      by_cases hj : j < 12
      · rw [hz j hj, List.getElem?_replicate, if_pos hj]
      · rw [List.getElem?_eq_none (by omega), List.getElem?_eq_none (by simp; omega)]
    subst this
    exact k w2 hb2 hk2

/-- The device and an array that tells something of it. -/
structure AI (w0 w : World) (d : Nat) (H : Nat → Prop) (s : DS) (a : Nat) (l : List ByteArray) : Prop where
  dk : DAt w d H s
  up : Up12 s
  ar : w.heap[a]? = some (.cells (cT l).toArray 28 (0, 0))
  aH : ¬ H a
  a0 : w0.heap.size ≤ a
  hw : ∀ y, H y → w0.heap.size ≤ y
  kp : Keeps [] w0 w

/-- The rounds that write, as two of DiskSafe's loops do: what follows keeps to a rule. -/
theorem writes_ok {w0 w : World} {d : Nat} {H : Nat → Prop} {s0 : DS} {a : Nat} (tell : DS → List ByteArray) (htl : ∀ s, (tell s).length = 12) (htw : ∀ (s : DS) (i : Nat) (v : Nat), Up12 s → i < 12 → (tell s).set i (bS (fullS v)) = tell { s with wait := setW s.wait i (fullS v) })
    (hA : AI w0 w d H s0 a (tell s0)) {l : Sl} {os : List Op} (h : RdC l.p (l.len * 6) (os.flatMap encO) w0) (hq : ∀ o ∈ os, OpQ o) (hm : l.len ≤ 140737488355328) {K : Pr}
    (k : ∀ s w', AI w0 w' d H s a (tell s) → s.safe = s0.safe → KeepsP (fun x => H x ∨ x = a) w w' → K w') :
    Lp (σ := Int × Unit) (fun L12 s13 =>
      Br (decide ((s13.1 : Int) < ((l.len : Nat) : Int))) (
      Jp (σ := Unit) (fun s15 => L12 ((w64 (s13.1 + 1)), ())) fun J14 =>
      Ix l s13.1 6 fun a16 =>
      LdI .i64 (a16.add 0) fun x17 =>
      LdI .i64 (a16.add 1) fun x18 =>
      LdI .i64 (a16.add 2) fun x19 =>
      LdI .u8 (a16.add 3) fun x20 =>
      LdS (a16.add 4) fun x21 =>
      LdB (a16.add 5) fun x22 =>
      New #[(.int .i64 0), (.int .i64 0), (.int .i64 0), (.int .u8 0), (.string (BA [])), (.bool false)] 31 fun a23 =>
      St (a23.add 0) (.int .i64 x17) <|
      St (a23.add 1) (.int .i64 x18) <|
      St (a23.add 2) (.int .i64 x19) <|
      St (a23.add 3) (.int .u8 x20) <|
      St (a23.add 4) (.string x21) <|
      St (a23.add 5) (.bool x22) <|
      Dr <|
      LdI .i64 (a23.add 1) fun x24 =>
      LdI .u8 (a23.add 3) fun x25 =>
      Cl Try.prog 11 [(.int .u8 x25)] false [.sc .sl] fun r26 =>
      Both (LdI .i64 (a23.add 1) fun x27 => fun _ => ((.int .i64 x27) : Value) = (.int .i64 x24)) <|
      Cl Try.prog 10 [(.pointer (some ⟨d, 0, none⟩)), (.int .i64 x24), (.slice r26.1.p r26.1.len r26.1.cap)] false [.sc (.i .i64)] fun r28 =>
      Br ((r28.1 : Int) == 0) (
      Dr <|
      LdI .i64 (a23.add 1) fun x29 =>
      LdI .u8 (a23.add 3) fun x30 =>
      Cl Try.prog 11 [(.int .u8 x30)] false [.sc .sl] fun r31 =>
      Both (LdI .i64 (a23.add 1) fun x32 => fun _ => ((.int .i64 x32) : Value) = (.int .i64 x29)) <|
      BtoS r31.1 fun s33 =>
      IxR ⟨a, 0, none⟩ 12 x29 1 fun a34 =>
      St a34 (.string s33) <|
      J14 ()) (
      J14 ())) K) (0, ()) w := by
  have hol := ops_len h
  refine ⟨fun m st w' => ∃ (i : Nat) (s : DS), st = ((i : Int), ()) ∧ m = os.length - i ∧ i ≤ os.length ∧ AI w0 w' d H s a (tell s) ∧ s.safe = s0.safe ∧ KeepsP (fun x => H x ∨ x = a) w w', ⟨_, 0, s0, rfl, rfl, by omega, hA, rfl, KeepsP.refl _ _⟩, ?_⟩
  rintro _ _ w4 ⟨i, s, rfl, rfl, hi, hI, hsf, hk4⟩
  dsimp only
  rw [hol]
  by_cases hil : i < os.length
  · rw [decide_eq_true (by omega)]
    simp only [Br]
    obtain ⟨o, ho⟩ := get_of_lt hil
    obtain ⟨q1, q2, q3⟩ := hq o (List.mem_of_getElem? ho)
    refine Jp_of (fun st w5 => ∃ s', AI w0 w5 d H s' a (tell s') ∧ s'.safe = s0.safe ∧ KeepsP (fun x => H x ∨ x = a) w w5) ?_ ?_
    · intro J hJ
      refine op_ok (rdc_keeps h hI.kp (by simp)) ho ?_
      intro b w5 hO hk5 hb
      have hbH : ¬ H b := fun hh => by have := hI.dk.bl b hh; omega
      have hba : b ≠ a := fun e => by have := hp_lt hI.ar; omega
      have hOd : OpAt w5.drew b o := hO
      have hkd : Keeps [] w5 w5.drew := (Keeps.refl _ _).drew
      simp only [Dr, add_of]
      refine hOd.n ?_
      refine hOd.v ?_
      refine Cl.mono (full_int (w := w5.drew) q1) ?_
      rintro ⟨r26, _⟩ w6 ⟨hs6, hk6, hb6⟩
      simp only at hs6 hb6
      have hO6 := hOd.keeps hk6 (by simp)
      refine ⟨hO6.n rfl, ?_⟩
      have hk46 : Keeps [] w4 w6 := (hk5.trans hkd (by simp)).trans hk6 (by simp)
      have hD6 := hI.dk.keeps0 hk46
      have hD5 := hI.dk.keeps0 hk5
      refine Cl.mono (WriteF_ok hD6 o.n _ hs6 (fresh_not (w := w5) hb6 hD5.bl)) ?_
      rintro ⟨r28, _⟩ w7 ⟨hr, hD7, hk7⟩
      simp only at hr
      subst hr
      have hk07 : Keeps [] w0 w7 := toL_of (hI.kp.trans hk46 (by simp)) hk7 hI.hw
      have hkw7 : KeepsP (fun x => H x ∨ x = a) w w7 := (hk4.step hk46 (by simp)).same (hk7.mono (fun x hx => .inl (.inl hx)))
      have ha7 := hk7.at (hk46.at hI.ar (by simp)) hI.aH
      by_cases hn : o.n < 0 ∨ 12 ≤ o.n
      · have hat : mAt s o.n = 61 := by rw [hI.up.at, if_pos hn]
        have hw : mWrite s o.n (fullB o.v.toNat) = (s, 61) := by
          unfold mWrite
          rw [if_neg (by rw [hat]; decide), hat]
        rw [hw] at hD7 ⊢
        rw [show ((61 : Int) == 0) = false from rfl]
        exact hJ _ _ ⟨s, ⟨hD7, hI.up, ha7, hI.aH, hI.a0, hI.hw, hk07⟩, hsf, hkw7⟩
      · obtain ⟨j, hj⟩ : ∃ j : Nat, o.n = j := ⟨o.n.toNat, by omega⟩
        have hj12 : j < 12 := by omega
        rw [hj, hI.up.write hj12] at hD7 ⊢
        rw [show ((0 : Int) == 0) = true from rfl]
        simp only [Br]
        have hO7 := hO6.keepsP hk7 hbH
        have hO7d : OpAt w7.drew b o := hO7
        have hkd7 : Keeps [] w7 w7.drew := (Keeps.refl _ _).drew
        refine hO7d.n ?_
        refine hO7d.v ?_
        refine Cl.mono (full_int (w := w7.drew) q1) ?_
        rintro ⟨r31, _⟩ w8 ⟨hs8, hk8, hb8⟩
        simp only at hs8
        refine ⟨(hO7d.keeps hk8 (by simp)).n rfl, ?_⟩
        refine BtoS_of hs8.rdb ?_
        rw [hj]
        have hk78 : Keeps [] w7 w8 := hkd7.trans hk8 (by simp)
        refine IxR_st (hk78.at ha7 (by simp)) hj12 (htl s) (bS (fullS o.v.toNat)) ?_
        intro w9 hb9 hk9
        rw [htw s j _ hI.up hj12] at hb9
        have hk79 : Keeps [a] w7 w9 := (hk78.mono (m' := [a]) (by simp)).trans hk9 (by simp)
        refine hJ _ _ ⟨_, ⟨hD7.keeps (F := fun x => x = a) (hk79.toP (by simp)) (fun y hy hy' => hI.aH (hy' ▸ hy)), hI.up.wr _, hb9, hI.aH, hI.a0, hI.hw, hk07.trans hk79 (by simp; exact hI.a0)⟩, hsf, hkw7.step hk79 (by simp)⟩
    · rintro _ w5 ⟨s', hI', hs', hk'⟩
      exact ⟨os.length - (i + 1), by omega, i + 1, s', by rw [w64_in (by omega) (by omega)]; rfl, rfl, by omega, hI', hs', hk'⟩
  · rw [decide_eq_false (by omega)]
    exact k s w4 hI hsf hk4

theorem waitB_write (s : DS) (i : Nat) (v : Nat) (_h : Up12 s) (_hi : i < 12) : (waitB 12 s.wait).set i (bS (fullS v)) = waitB 12 (setW s.wait i (fullS v)) := waitB_set 12 i s.wait (some (fullS v))

/-- What a crash leaves of a sector. -/
theorem crash_sec {s : DS} (h : Up12 s) (mask : ByteArray) : ∃ t, mStart (mCrash s mask) = t ∧ Up12 t ∧ (∀ i, t.wait i = none) ∧ ∀ i x, s.safe[i]? = some x → t.safe[i]? = some x ∨ ∃ y, s.wait i = some y ∧ t.safe[i]? = some y := by
  refine ⟨_, rfl, ?_, ?_, ?_⟩
  · unfold mStart
    rw [if_pos (show (mCrash s mask).down = true from rfl)]
    exact ⟨by simp [mCrash, h.ln], rfl, rfl⟩
  · intro i
    unfold mStart
    rw [if_pos (show (mCrash s mask).down = true from rfl)]
    rfl
  · intro i x hx
    unfold mStart
    rw [if_pos (show (mCrash s mask).down = true from rfl)]
    simp only [mCrash, List.getElem?_mapIdx, hx, Option.map_some, Option.getD_none, ite_self]
    by_cases hb : bit mask (rank s i) = true
    · rw [if_pos hb]
      cases hw : s.wait i with
      | none => exact .inl rfl
      | some y => exact .inr ⟨y, rfl, rfl⟩
    · rw [if_neg hb]
      exact .inl rfl

theorem bS_ne (x : Sec) : seq (bS x) (BA []) = false := seq_wS (some x)

theorem DiskSafe_ok {w : World} {l1 l2 : Sl} {o1 o2 : List Op} (mask : ByteArray) (h1 : RdC l1.p (l1.len * 6) (o1.flatMap encO) w) (h2 : RdC l2.p (l2.len * 6) (o2.flatMap encO) w)
    (q1 : ∀ o ∈ o1, OpQ o) (q2 : ∀ o ∈ o2, OpQ o) (m1 : l1.len ≤ 140737488355328) (m2 : l2.len ≤ 140737488355328) :
    Cl Try.prog i_sumpterlaw06_DiskSafe [.slice l1.p l1.len l1.cap, .slice l2.p l2.len l2.cap, .string mask] false [.sc .b] (fun r w' => r.1 = true ∧ Keeps [] w w') w := by
  refine Cl_gen fun R hR => ?_
  apply sumpterlaw06_DiskSafe_call
  unfold sumpterlaw06_DiskSafe
  refine Cl.mono (live_ok w) ?_
  rintro ⟨r1, _⟩ w1 ⟨hr1, hk1⟩
  simp only at hr1
  subst hr1
  refine Cl.mono (New_ok w1 12) ?_
  rintro ⟨pd, ed, u⟩ w2 ⟨hn, hk2⟩
  rw [if_neg (by omega)] at hn
  obtain ⟨d, H, hr, hD, hf⟩ := hn
  cases hr
  have hk02 : Keeps [] w w2 := hk1.trans hk2 (by simp)
  have z1 := hk1.size
  have hHw : ∀ y, H y → w.heap.size ≤ y := fun y hy => by have := hf y hy; omega
  refine Jp_of (fun st w' => st = (false, ()) ∧ w2 = w') (fun J hJ => hJ _ _ ⟨rfl, rfl⟩) ?_
  rintro _ _ ⟨rfl, rfl⟩
  simp only [Br, New]
  generalize hw3 : w2.alloc _ = w3
  have hk3 : Keeps [] w2 w3 := by rw [← hw3]; exact (Keeps.refl _ _).alloc _
  have z3 : w3.heap.size = w2.heap.size + 1 := by rw [← hw3, World.size_alloc]
  have ha3 : w3.heap[w2.heap.size]? = some (.cells (cT (List.replicate 12 (BA []))).toArray 28 (0, 0)) := by rw [← hw3]; exact hp_alloc_new w2 _
  generalize hw4 : w3.alloc _ = w4
  have hk4 : Keeps [] w3 w4 := by rw [← hw4]; exact (Keeps.refl _ _).alloc _
  have hb4 : w4.heap[w3.heap.size]? = some (.cells (cT (List.replicate 12 (BA []))).toArray 28 (0, 0)) := by rw [← hw4]; exact hp_alloc_new w3 _
  have ha4 := hk4.at ha3 (by simp)
  have hk24 : Keeps [] w2 w4 := hk3.trans hk4 (by simp)
  have z02 := hk02.size
  have hbl := hD.bl
  refine zeros_ok (by simp) ha4 ?_
  intro w5 ha5 hk5
  have hk25 : Keeps [w2.heap.size] w2 w5 := (hk24.mono (m' := [w2.heap.size]) (by simp)).trans hk5 (by simp)
  have hb5 := hk5.at hb4 (by simp; omega)
  have haH : ¬ H w2.heap.size := fun hh => by have := hbl _ hh; omega
  have hbH : ¬ H w3.heap.size := fun hh => by have := hbl _ hh; omega
  have hA5 : AI w w5 d H (dNew (12 : Int).toNat) w2.heap.size (nowB (dNew (12 : Int).toNat)) := ⟨hD.keeps (F := fun x => x = w2.heap.size) (hk25.toP (by simp)) (fun y hy hy' => haH (hy' ▸ hy)), Up12.new, by rw [nowB_new]; exact ha5, haH, by omega, hHw, hk02.trans hk25 (by simp; exact z02)⟩
  refine writes_ok nowB nowB_len (fun s i v _ _ => nowB_write s i (fullS v)) hA5 h1 q1 m1 ?_
  intro s w6 hA6 _ hk6
  have hb6 : w6.heap[w3.heap.size]? = some (.cells (cT (List.replicate 12 (BA []))).toArray 28 (0, 0)) := hk6.at hb5 (by rintro (hh | hh); exact hbH hh; omega)
  refine Cl.mono (Sync_ok hA6.dk) ?_
  rintro ⟨r35, _⟩ w7 ⟨hr, hD7, hk7⟩
  simp only at hr
  rw [hA6.up.sync] at hr hD7
  subst hr
  rw [show ((0 : Int) != 0) = false from rfl]
  simp only [Br]
  have hu7 := hA6.up.sy
  have hsy := nowB_sync hA6.up
  generalize hs2 : ({ s with safe := mMerge s, wait := fun _ => none } : DS) = s2 at hD7 hu7 hsy
  have hw2 : ∀ i, s2.wait i = none := fun i => by rw [← hs2]
  have ha7 := hk7.at hA6.ar haH
  rw [← hsy] at ha7
  have hb7 := hk7.at hb6 hbH
  have hk07 := toL_of hA6.kp hk7 hHw
  have hwz : waitB 12 s2.wait = List.replicate 12 (BA []) := by
    simp [waitB, hw2, wS, List.map_const']
  rw [← hwz] at hb7
  have hA7 : AI w w7 d H s2 w3.heap.size (waitB 12 s2.wait) := ⟨hD7, hu7, hb7, hbH, by omega, hHw, hk07⟩
  refine writes_ok (fun s => waitB 12 s.wait) (fun s => waitB_len 12 s.wait) waitB_write hA7 h2 q2 m2 ?_
  intro s3 w8 hA8 hsf hk8
  have ha8 := hk8.at ha7 (by rintro (hh | hh); exact haH hh; omega)
  refine Cl.mono (Crash_ok hA8.dk mask) ?_
  rintro _ w9 ⟨hD9, hk9⟩
  refine Cl.mono (Start_ok hD9) ?_
  rintro _ w10 ⟨hD10, hk10⟩
  obtain ⟨t, ht, hut, hwt, hst⟩ := crash_sec hA8.up mask
  rw [ht] at hD10
  have hk810 := hk9.same hk10
  have ha10 := hk810.at ha8 haH
  have hb10 := hk810.at hA8.ar hbH
  have hk010 := toL_of hA8.kp hk810 hHw
  refine ⟨fun m st w' => ∃ (i : Nat), st = (false, (i : Int), ()) ∧ m = 12 - i ∧ i ≤ 12 ∧ Keeps [] w10 w', ⟨_, 0, rfl, rfl, by omega, Keeps.refl _ _⟩, ?_⟩
  rintro _ _ w11 ⟨i, rfl, rfl, hi, hk11⟩
  dsimp only
  have hD11 := hD10.keeps0 hk11
  by_cases hil : i < 12
  · rw [decide_eq_true (by omega)]
    simp only [Br]
    refine Cl.mono (Read_ok hD11 (i : Int)) ?_
    rintro ⟨ra, ea, _⟩ w12 ⟨hea, hsa, hka, hba⟩
    simp only at hea hsa hba
    have hat : mAt t (i : Int) = 0 := by rw [hut.at, if_neg (by omega)]
    obtain ⟨x2, hx2⟩ := getS (s := s2) (i := i) (by rw [hu7.ln]; exact hil)
    have hx3 : s3.safe[i]? = some x2 := by rw [hsf]; exact hx2
    have hrd : mRead t (i : Int) = ((t.safe.getD i zSec).1, 0) := by
      unfold mRead
      rw [if_pos hat, Int.toNat_natCast]
      simp [mSec, hwt]
    rw [hrd] at hea hsa
    subst hea
    have hk1012 : Keeps [] w10 w12 := hk11.trans hka (by simp)
    have ha12 := hk1012.at ha10 (by simp)
    have hb12 := hk1012.at hb10 (by simp)
    have hga : (nowB s2)[i]? = some (bS x2) := by
      rw [nowB_get _ hil]
      simp [mSec, hw2, hx2]
    have hgb : (waitB 12 s3.wait)[i]? = some (wS (s3.wait i)) := waitB_get _ hil
    refine Jp_of (fun st w' => st = (false, ()) ∧ Keeps [] w12 w') ?_ ?_
    · intro J hJ
      have hkd : Keeps [] w12 w12.drew := (Keeps.refl _ _).drew
      simp only [Dr]
      rw [show ((0 : Int) != 0) = false from rfl]
      simp only [Br]
      refine BtoS_of (w := w12.drew) (hsa.keeps hkd (by simp)).rdb ?_
      refine IxR_ld (w := w12.drew) ha12 hil hga ?_
      rcases hst i x2 hx3 with hc | ⟨y, hy, hc⟩
      · have he : t.safe.getD i zSec = x2 := by rw [List.getD_eq_getElem?_getD, hc]; rfl
        rw [he, show seq ⟨x2.1.toArray⟩ (bS x2) = true from seq_refl _]
        exact hJ _ _ ⟨rfl, hkd⟩
      · have he : t.safe.getD i zSec = y := by rw [List.getD_eq_getElem?_getD, hc]; rfl
        rw [he]
        refine Br_of (fun _ => ?_) (fun _ => hJ _ _ ⟨rfl, hkd⟩)
        refine IxR_ld (w := w12.drew) hb12 hil hgb ?_
        rw [hy, show seq (wS (some y)) (BA []) = false from bS_ne y]
        simp only [Br]
        refine BtoS_of (w := w12.drew) (bs := y.1) ?_ ?_
        · have := (hsa.keeps hkd (by simp)).rdb
          rw [he] at this
          exact this
        refine IxR_ld (w := w12.drew) hb12 hil hgb ?_
        rw [hy, show seq ⟨y.1.toArray⟩ (wS (some y)) = true from seq_refl _]
        exact hJ _ _ ⟨rfl, hkd⟩
    · rintro _ w13 ⟨rfl, hk13⟩
      exact ⟨12 - (i + 1), by omega, i + 1, by rw [w64_in (by omega) (by omega)]; rfl, rfl, by omega, hk1012.trans hk13 (by simp)⟩
  · rw [decide_eq_false (by omega)]
    simp only [Br]
    refine Cl.mono (Waits_ok hD11) ?_
    rintro ⟨r74, _⟩ w12 ⟨hs12, hk12, hb12⟩
    simp only at hs12
    have he : wI t = [] := by
      unfold wI mWaits
      rw [List.filter_eq_nil_iff.2 (fun k _ => by simp [waiting, hwt])]
      rfl
    rw [he] at hs12
    have hl := cI_slen hs12
    refine hR _ _ ⟨?_, (hk010.trans hk11 (by simp)).trans hk12 (by simp)⟩
    simp only
    rw [hl]
    rfl

end Go.Proofs.Ythfgdoiaebfcdaa
