/- A device's memory and what its calls do: at, act, Fuse, Up, Sectors, Write, Read. Conditions: none. -/
import Derived.Test.YthfgdoiaebfcdaaWt
set_option linter.unusedVariables false
set_option linter.unusedSimpArgs false
namespace Go.Proofs.Ythfgdoiaebfcdaa
open Go Go.Sx

abbrev Sec := {l : List UInt8 // l.length = 64}
def cS (x : Sec) : List Value := cB x.1
theorem cS_length (x : Sec) : (cS x).length = 64 := by rw [cS, cB_length]; exact x.2
theorem cS_one (x : Sec) : ∀ v ∈ cS x, v.oneCell' = true := cB_one x.1
def zSec : Sec := ⟨List.replicate 64 0, by simp⟩

/-- What a device is, as far as the document speaks of it. -/
structure DS where
  safe : List Sec
  wait : Nat → Option Sec
  fuse : Int
  down : Bool

structure DOk (s : DS) : Prop where
  wt : ∀ i, s.wait i ≠ none → i < s.safe.length
  ln : s.safe.length ≤ 4096
  f1 : -1 ≤ s.fuse
  f2 : s.fuse ≤ 9223372036854775807

def mAt (s : DS) (i : Int) : Int := if s.down then 60 else if i < 0 ∨ (s.safe.length : Int) ≤ i then 61 else 0
def mAct (s : DS) : DS × Bool := if s.fuse = 0 then ({ s with down := true }, false) else if 0 < s.fuse then ({ s with fuse := s.fuse - 1 }, true) else (s, true)
def setW (f : Nat → Option Sec) (i : Nat) (x : Sec) : Nat → Option Sec := fun j => if j = i then some x else f j
def mWrite (s : DS) (i : Int) (bs : List UInt8) : DS × Int :=
  if mAt s i = 0 then
    if h : bs.length = 64 then
      if (mAct s).2 = true then ({ (mAct s).1 with wait := setW s.wait i.toNat ⟨bs, h⟩ }, 0) else ((mAct s).1, 60)
    else (s, 2)
  else (s, mAt s i)
def mMerge (s : DS) : List Sec := s.safe.mapIdx fun i x => (s.wait i).getD x
def mSync (s : DS) : DS × Int :=
  if s.down then (s, 60) else if (mAct s).2 = true then ({ (mAct s).1 with safe := mMerge s, wait := fun _ => none }, 0) else ((mAct s).1, 60)
def mFuse (s : DS) (n : Int) : DS := { s with fuse := if -1 > n then -1 else n }
def waiting (s : DS) (i : Nat) : Bool := (s.wait i).isSome
def mWaits (s : DS) : List Nat := (List.range s.safe.length).filter (waiting s)
def rank (s : DS) (i : Nat) : Nat := ((List.range i).filter (waiting s)).length
def bit (mask : ByteArray) (k : Nat) : Bool := match mask.data.toList[k]? with | some b => b.toNat % 2 == 1 | none => false
def mCrash (s : DS) (mask : ByteArray) : DS := { safe := s.safe.mapIdx fun i x => if bit mask (rank s i) then (s.wait i).getD x else x, wait := fun _ => none, fuse := -1, down := true }
def mStart (s : DS) : DS := if s.down then { mCrash s (BA []) with down := false } else s
def mSec (s : DS) (i : Nat) : Sec := (s.wait i).getD (s.safe.getD i zSec)
def mRead (s : DS) (i : Int) : List UInt8 × Int := if mAt s i = 0 then ((mSec s i.toNat).1, 0) else ([], mAt s i)

theorem mAct_safe (s : DS) : (mAct s).1.safe = s.safe := by unfold mAct; split <;> (try split) <;> rfl
theorem mAct_wait (s : DS) : (mAct s).1.wait = s.wait := by unfold mAct; split <;> (try split) <;> rfl
theorem DOk.act {s : DS} (h : DOk s) : DOk (mAct s).1 := by
  refine ⟨by rw [mAct_safe, mAct_wait]; exact h.wt, by rw [mAct_safe]; exact h.ln, ?_, ?_⟩
  · unfold mAct; split <;> (try split) <;> simp <;> (have := h.f1; omega)
  · unfold mAct; split <;> (try split) <;> simp <;> (have := h.f2; omega)
theorem mWrite_safe (s : DS) (i : Int) (bs : List UInt8) : (mWrite s i bs).1.safe = s.safe := by
  unfold mWrite; split <;> (try split) <;> (try split) <;> simp [mAct_safe]
theorem DOk.write {s : DS} (h : DOk s) (i : Int) (bs : List UInt8) : DOk (mWrite s i bs).1 := by
  unfold mWrite
  split
  · rename_i hat
    split
    · split
      · have ha := h.act
        refine ⟨fun j hj => ?_, ha.ln, ha.f1, ha.f2⟩
        simp only [setW, mAct_safe] at hj ⊢
        split at hj
        · rename_i hji
          subst hji
          unfold mAt at hat
          split at hat
          · cases hat
          · split at hat
            · cases hat
            · rename_i hi
              omega
        · exact h.wt j hj
      · exact h.act
    · exact h
  · exact h
theorem mMerge_length (s : DS) : (mMerge s).length = s.safe.length := by simp [mMerge]
theorem DOk.sync {s : DS} (h : DOk s) : DOk (mSync s).1 := by
  unfold mSync
  split
  · exact h
  · split
    · have ha := h.act
      exact ⟨fun j hj => absurd rfl hj, by rw [show _ = (mMerge s).length from rfl, mMerge_length]; exact h.ln, ha.f1, ha.f2⟩
    · exact h.act
theorem DOk.fuse {s : DS} (h : DOk s) (n : Int) (hn : n ≤ 9223372036854775807) : DOk (mFuse s n) := by
  refine ⟨h.wt, h.ln, ?_, ?_⟩ <;> simp only [mFuse] <;> split <;> omega
theorem DOk.crash {s : DS} (h : DOk s) (m : ByteArray) : DOk (mCrash s m) :=
  ⟨fun j hj => absurd rfl hj, by simp [mCrash]; exact h.ln, by simp [mCrash], by simp [mCrash]⟩
theorem DOk.start {s : DS} (h : DOk s) : DOk (mStart s) := by
  unfold mStart
  split
  · have := h.crash (BA [])
    exact ⟨this.wt, this.ln, this.f1, this.f2⟩
  · exact h

/-! ### its memory -/
def encI : Int → Value := .int .i64
/-- The map holds what waits. -/
def WR (kv : List (Int × Value)) (wait : Nat → Option Sec) : Prop := ∀ i : Int, aget i kv = if 0 ≤ i then (wait i.toNat).map (fun x => Value.agg (cS x).toArray) else none

structure DAtX (w : World) (d : Nat) (H : Nat → Prop) (s : DS) (sl : Sl) (m : Nat) (kv : List (Int × Value)) : Prop where
  hd : w.heap[d]? = some (.cells #[.slice sl.p sl.len sl.cap, .map (some m), .int .i64 s.fuse, .bool s.down] 56 (0, 0))
  row : SlC w sl 64 (s.safe.flatMap cS)
  mp : MpR w m (Value.int .i64) kv
  wr : WR kv s.wait
  dm : d ≠ m
  ds : d ∉ blk sl
  ms : m ∉ blk sl
  own : ∀ x, H x ↔ x = d ∨ x = m ∨ x ∈ blk sl
  ok : DOk s
def DAt (w : World) (d : Nat) (H : Nat → Prop) (s : DS) : Prop := ∃ sl m kv, DAtX w d H s sl m kv

theorem DAt.bl {w : World} {d : Nat} {H : Nat → Prop} {s : DS} (h : DAt w d H s) : Bl H w := by
  obtain ⟨sl, m, kv, h⟩ := h
  intro x hx
  rcases (h.own x).1 hx with rfl | rfl | hx
  · exact hp_lt h.hd
  · exact h.mp.lt
  · exact h.row.lt x hx
theorem DAt.keeps {w w' : World} {d : Nat} {H F : Nat → Prop} {s : DS} (h : DAt w d H s) (hk : KeepsP F w w') (hd : Dj H F) : DAt w' d H s := by
  obtain ⟨sl, m, kv, h⟩ := h
  exact ⟨sl, m, kv, hk.at h.hd (hd d ((h.own d).2 (.inl rfl))), h.row.keepsP hk (fun x hx => hd x ((h.own x).2 (.inr (.inr hx)))), h.mp.keepsP hk (hd m ((h.own m).2 (.inr (.inl rfl)))), h.wr, h.dm, h.ds, h.ms, h.own, h.ok⟩
theorem DAt.keeps0 {w w' : World} {d : Nat} {H : Nat → Prop} {s : DS} (h : DAt w d H s) (hk : Keeps [] w w') : DAt w' d H s := h.keeps (hk.toP (F := fun _ => False) (by simp)) (fun _ _ h => h)
theorem DAt.ok {w : World} {d : Nat} {H : Nat → Prop} {s : DS} (h : DAt w d H s) : DOk s := by
  obtain ⟨sl, m, kv, h⟩ := h
  exact h.ok

theorem at_ok {w : World} {d : Nat} {H : Nat → Prop} {s : DS} (h : DAt w d H s) (i : Int) :
    Cl Try.prog i_disk_Disk_at [.pointer (some ⟨d, 0, none⟩), .int .i64 i] false [.sc (.i .i64)] (fun r w' => r.1 = mAt s i ∧ w = w') w := by
  obtain ⟨sl, m, kv, h⟩ := h
  have hl := h.row.slen cS_length (by omega)
  apply disk_Disk_at_call
  unfold disk_Disk_at
  simp only [sx, h.hd, sxl]
  unfold mAt
  cases hdn : s.down with
  | true => simp only [sx, if_true]; exact ⟨by trivial, by trivial⟩
  | false =>
    simp only [sx]
    refine Jp_of (fun st w' => st = (decide (i < 0 ∨ (s.safe.length : Int) ≤ i), ()) ∧ w = w') ?_ ?_
    · intro J hJ
      by_cases hi : i < 0
      · rw [decide_eq_true hi]
        simp only [sx]
        exact hJ _ _ ⟨by rw [decide_eq_true (.inl hi)], rfl⟩
      · rw [decide_eq_false hi]
        simp only [sx, h.hd, sxl]
        refine hJ _ _ ⟨?_, rfl⟩
        rw [hl]
        simp [hi]
    · rintro _ _ ⟨rfl, rfl⟩
      by_cases hi : i < 0 ∨ (s.safe.length : Int) ≤ i
      · rw [decide_eq_true hi]; simp only [sx, if_pos hi]; exact ⟨by simp, by trivial⟩
      · rw [decide_eq_false hi]; simp only [sx, if_neg hi]; exact ⟨by simp, by trivial⟩

theorem DAtX.set {w w' : World} {d : Nat} {H : Nat → Prop} {s s' : DS} {sl : Sl} {m : Nat} {kv : List (Int × Value)} (h : DAtX w d H s sl m kv) (hk : Keeps [d] w w') (hb : w'.heap[d]? = some (.cells #[.slice sl.p sl.len sl.cap, .map (some m), .int .i64 s'.fuse, .bool s'.down] 56 (0, 0)))
    (h1 : s'.safe = s.safe) (h2 : s'.wait = s.wait) (h3 : DOk s') : DAtX w' d H s' sl m kv :=
  ⟨hb, by rw [h1]; exact h.row.keeps hk (fun x hx => by simp; rintro rfl; exact h.ds hx), h.mp.keepsL hk (by simp; exact fun e => h.dm e.symm), by rw [h2]; exact h.wr, h.dm, h.ds, h.ms, h.own, h3⟩

theorem act_ok {w : World} {d : Nat} {H : Nat → Prop} {s : DS} (h : DAt w d H s) :
    Cl Try.prog i_disk_Disk_act [.pointer (some ⟨d, 0, none⟩)] false [.sc .b] (fun r w' => r.1 = (mAct s).2 ∧ DAt w' d H (mAct s).1 ∧ KeepsP H w w') w := by
  obtain ⟨sl, m, kv, h⟩ := h
  have hdH : ∀ x ∈ [d], H x ∨ w.heap.size ≤ x := by simp; exact .inl ((h.own d).2 (.inl rfl))
  have hok := h.ok.act
  have f1 := h.ok.f1
  have f2 := h.ok.f2
  apply disk_Disk_act_call
  unfold disk_Disk_act
  simp only [Jp, sxr, h.hd, sxl]
  unfold mAct at hok ⊢
  by_cases h0 : s.fuse = 0
  · rw [show (s.fuse == 0) = true from by simp [h0]]
    rw [if_pos h0] at hok ⊢
    simp only [sxr]
    refine set_box h.hd 3 _ rfl (by simp) ?_
    intro w1 hb hk
    exact ⟨by trivial, ⟨sl, m, kv, h.set hk (by simpa using hb) rfl rfl hok⟩, hk.toP hdH⟩
  · rw [show (s.fuse == 0) = false from by simp [h0]]
    rw [if_neg h0] at hok ⊢
    simp only [sxr, h.hd, sxl]
    by_cases h1 : 0 < s.fuse
    · rw [decide_eq_true (by omega)]
      rw [if_pos h1] at hok ⊢
      simp only [sxr, h.hd, sxl]
      rw [w64_in (by omega) (by omega)]
      refine set_box h.hd 2 _ rfl (by simp) ?_
      intro w1 hb hk
      exact ⟨by trivial, ⟨sl, m, kv, h.set hk (by simpa using hb) rfl rfl hok⟩, hk.toP hdH⟩
    · rw [decide_eq_false (by omega)]
      rw [if_neg h1] at hok ⊢
      simp only [sxr]
      exact ⟨by trivial, ⟨sl, m, kv, h⟩, KeepsP.refl _ _⟩

theorem Fuse_ok {w : World} {d : Nat} {H : Nat → Prop} {s : DS} (h : DAt w d H s) (n : Int) (hn : n ≤ 9223372036854775807) :
    Cl Try.prog i_disk_Disk_Fuse [.pointer (some ⟨d, 0, none⟩), .int .i64 n] true [] (fun _ w' => DAt w' d H (mFuse s n) ∧ KeepsP H w w') w := by
  obtain ⟨sl, m, kv, h⟩ := h
  have hdH : ∀ x ∈ [d], H x ∨ w.heap.size ≤ x := by simp; exact .inl ((h.own d).2 (.inl rfl))
  apply disk_Disk_Fuse_call
  unfold disk_Disk_Fuse
  simp only [sxr]
  refine set_box h.hd 2 _ rfl (by simp) ?_
  intro w1 hb hk
  refine ⟨⟨sl, m, kv, h.set hk ?_ rfl rfl (h.ok.fuse n hn)⟩, hk.toP hdH⟩
  simpa [mFuse] using hb

theorem Up_ok {w : World} {d : Nat} {H : Nat → Prop} {s : DS} (h : DAt w d H s) :
    Cl Try.prog i_disk_Disk_Up [.pointer (some ⟨d, 0, none⟩)] false [.sc .b] (fun r w' => r.1 = !s.down ∧ w = w') w := by
  obtain ⟨sl, m, kv, h⟩ := h
  apply disk_Disk_Up_call
  unfold disk_Disk_Up
  simp only [sx, h.hd, sxl]
  exact ⟨by trivial, by trivial⟩
theorem Sectors_ok {w : World} {d : Nat} {H : Nat → Prop} {s : DS} (h : DAt w d H s) :
    Cl Try.prog i_disk_Disk_Sectors [.pointer (some ⟨d, 0, none⟩)] false [.sc (.i .i64)] (fun r w' => r.1 = (s.safe.length : Int) ∧ w = w') w := by
  obtain ⟨sl, m, kv, h⟩ := h
  have hl := h.row.slen cS_length (by omega)
  apply disk_Disk_Sectors_call
  unfold disk_Disk_Sectors
  simp only [sx, h.hd, sxl]
  exact ⟨by rw [hl], rfl⟩

theorem WR.set {kv : List (Int × Value)} {wait : Nat → Option Sec} (h : WR kv wait) (i : Nat) (x : Sec) : WR (aset (i : Int) (Value.agg (cS x).toArray) kv) (setW wait i x) := by
  intro j
  rw [aget_aset, h j]
  by_cases hj : j = i
  · subst hj
    simp [setW]
  · rw [if_neg hj]
    by_cases h0 : 0 ≤ j
    · rw [if_pos h0, if_pos h0]
      simp only [setW]
      rw [if_neg (by omega)]
    · rw [if_neg h0, if_neg h0]

theorem ldn_bytes {w : World} {s : Sl} {bs : List UInt8} (h : RdB s bs w) (hl : bs.length = 64) {K : List Value → Pr} (k : K (cB bs) w) : Nn s.p (fun a => LdN 64 a K) w := by
  have h2 := rdb_rdc h
  cases hp : s.p with
  | none =>
    have := h2.2 0
    rw [hp] at this
    cases bs with
    | nil => simp at hl
    | cons b bs => obtain ⟨a, ha, _⟩ := this _ rfl; cases ha
  | some a =>
    refine ⟨cB bs, by rw [cB_length, hl], fun j v hj => ?_, k⟩
    obtain ⟨a', ha, hc⟩ := h2.2 j v hj
    rw [hp, Option.some.injEq] at ha
    subst ha
    exact hc

theorem Write_ok {w : World} {d : Nat} {H : Nat → Prop} {s : DS} (h : DAt w d H s) (i : Int) {b : Sl} {bs : List UInt8} (hb : RdB b bs w) (hd : bs.length = 64 → ∀ x ∈ rblk b, ¬ H x) :
    Cl Try.prog i_disk_Disk_Write [.pointer (some ⟨d, 0, none⟩), .int .i64 i, .slice b.p b.len b.cap] false [.sc (.i .i64)] (fun r w' => r.1 = (mWrite s i bs).2 ∧ DAt w' d H (mWrite s i bs).1 ∧ KeepsP H w w') w := by
  have hwo := h.ok.write i bs
  apply disk_Disk_Write_call
  unfold disk_Disk_Write
  refine Cl.mono (at_ok h i) ?_
  rintro ⟨r, _⟩ _ ⟨hr, rfl⟩
  simp only at hr
  subst hr
  unfold mWrite at hwo ⊢
  by_cases h0 : mAt s i = 0
  · simp only [h0, if_true] at hwo ⊢
    simp only [bne_self_eq_false, sx]
    have hbl := hb.1
    by_cases h1 : bs.length = 64
    · rw [dif_pos h1] at hwo ⊢
      rw [show (((b.len : Nat) : Int) != 64) = false from by simp; omega]
      simp only [sx]
      refine Cl.mono (act_ok h) ?_
      rintro ⟨r, _⟩ w1 ⟨hr, hD, hk⟩
      simp only at hr
      subst hr
      cases ha : (mAct s).2 with
      | false =>
        simp only [Bool.not_false, sx, Bool.false_eq_true, if_false]
        exact ⟨by trivial, hD, hk⟩
      | true =>
        simp only [ha, if_true] at hwo
        have hb1 := rdb_keepsP hb hk (hd h1)
        obtain ⟨sl, m, kv, hX⟩ := hD
        simp only [Bool.not_true, sx, hX.hd, sxl, if_true]
        refine ⟨by omega, ldn_bytes (w := w1.drew) hb1 h1 ?_⟩
        have hi0 : 0 ≤ i ∧ i < s.safe.length := by
          unfold mAt at h0
          split at h0
          · cases h0
          · split at h0
            · cases h0
            · omega
        obtain ⟨n, rfl⟩ : ∃ n : Nat, i = n := ⟨i.toNat, by omega⟩
        have hmp : MpR w1.drew m (Value.int .i64) kv := hX.mp
        refine MSet_of (keyOk_int .i64) hmp (n : Int) _ ?_
        intro w2 hm2 hk2
        have hk2' : Keeps [m] w1 w2 := ((Keeps.refl [m] w1).drew).trans hk2 (fun x hx => .inl hx)
        refine ⟨by trivial, ⟨sl, m, _, hk2'.at hX.hd (by simp; exact hX.dm), ?_, hm2, ?_, hX.dm, hX.ds, hX.ms, hX.own, hwo⟩, ?_⟩
        · exact hX.row.keeps hk2' (fun x hx => by simp; rintro rfl; exact hX.ms hx)
        · have := hX.wr
          rw [mAct_wait] at this
          exact this.set n ⟨bs, h1⟩
        · exact hk.step hk2' (by simp; exact .inl ((hX.own m).2 (.inr (.inl rfl))))
    · rw [dif_neg h1]
      rw [show (((b.len : Nat) : Int) != 64) = true from by simp; omega]
      simp only [sx]
      exact ⟨by trivial, h, KeepsP.refl _ _⟩
  · rw [if_neg h0]
    rw [show (mAt s i != 0) = true from by simp [h0]]
    simp only [sx]
    exact ⟨by trivial, h, KeepsP.refl _ _⟩

end Go.Proofs.Ythfgdoiaebfcdaa
