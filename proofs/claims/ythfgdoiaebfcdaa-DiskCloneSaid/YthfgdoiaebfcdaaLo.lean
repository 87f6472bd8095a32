/- The statements' operations and arrays; DiskFuse and DiskGoes. Conditions: none. -/
import Derived.Test.YthfgdoiaebfcdaaLv
set_option linter.unusedVariables false
set_option linter.unusedSimpArgs false
namespace Go.Proofs.Ythfgdoiaebfcdaa
open Go Go.Sx

structure Op where
  do_ : Int
  n : Int
  short : Int
  v : Int
  mask : ByteArray
  clone : Bool
def encO (o : Op) : List Value := [.int .i64 o.do_, .int .i64 o.n, .int .i64 o.short, .int .u8 o.v, .string o.mask, .bool o.clone]
def OpQ (o : Op) : Prop := 0 ≤ o.v ∧ o.v ≤ 255 ∧ o.n ≤ 9223372036854775807
theorem encO_length (o : Op) : (encO o).length = 6 := rfl

def OpAt (w : World) (a : Nat) (o : Op) : Prop := w.heap[a]? = some (.cells (encO o).toArray 31 (0, 0))

/-- A round's own variable: an operation, read out of the list. -/
theorem op_ok {w : World} {s : Sl} {os : List Op} (h : RdC s.p (s.len * 6) (os.flatMap encO) w) {i : Nat} {o : Op} (hi : os[i]? = some o) {K : Addr → Pr}
    (k : ∀ a w', OpAt w' a o → Keeps [] w w' → w.heap.size ≤ a → K ⟨a, 0, none⟩ w') :
    Ix s (i : Int) 6 (fun a12 =>
      LdI .i64 (a12.add 0) fun x13 =>
      LdI .i64 (a12.add 1) fun x14 =>
      LdI .i64 (a12.add 2) fun x15 =>
      LdI .u8 (a12.add 3) fun x16 =>
      LdS (a12.add 4) fun x17 =>
      LdB (a12.add 5) fun x18 =>
      New #[(.int .i64 0), (.int .i64 0), (.int .i64 0), (.int .u8 0), (.string (BA [])), (.bool false)] 31 fun a19 =>
      St (a19.add 0) (.int .i64 x13) <|
      St (a19.add 1) (.int .i64 x14) <|
      St (a19.add 2) (.int .i64 x15) <|
      St (a19.add 3) (.int .u8 x16) <|
      St (a19.add 4) (.string x17) <|
      St (a19.add 5) (.bool x18) <| K a19) w := by
  have hl := h.1
  rw [flat_length encO_length] at hl
  have hsl : s.len = os.length := by omega
  have hlt := (List.getElem?_eq_some_iff.1 hi).1
  refine Ix_row h (by omega) (by omega) ?_
  intro a ha
  have hc : ∀ j v, (encO o)[j]? = some v → w.cell? (a.add j) = some v := fun j v hj => ha j v (by have := (List.getElem?_eq_some_iff.1 hj).1; rw [encO_length] at this; exact this) (by
    rw [flat_get encO_length os i j (by have := (List.getElem?_eq_some_iff.1 hj).1; rw [encO_length] at this; exact this), hi]
    exact hj)
  refine ⟨o.do_, hc 0 _ rfl, o.n, hc 1 _ rfl, o.short, hc 2 _ rfl, o.v, hc 3 _ rfl, o.mask, hc 4 _ rfl, o.clone, hc 5 _ rfl, ?_⟩
  simp only [New]
  generalize hw1 : w.alloc _ = w1
  have hb : w1.heap[w.heap.size]? = some (.cells #[.int .i64 0, .int .i64 0, .int .i64 0, .int .u8 0, .string (BA []), .bool false] 31 (0, 0)) := by rw [← hw1]; exact hp_alloc_new w _
  have hk1 : Keeps [] w w1 := by rw [← hw1]; exact (Keeps.refl _ _).alloc _
  simp only [add_of]
  refine set_box hb 0 _ rfl (by simp) ?_
  intro w2 hb2 hk2
  refine set_box hb2 1 _ rfl (by simp) ?_
  intro w3 hb3 hk3
  refine set_box hb3 2 _ rfl (by simp) ?_
  intro w4 hb4 hk4
  refine set_box hb4 3 _ rfl (by simp) ?_
  intro w5 hb5 hk5
  refine set_box hb5 4 _ rfl (by simp) ?_
  intro w6 hb6 hk6
  refine set_box hb6 5 _ rfl (by simp) ?_
  intro w7 hb7 hk7
  refine k _ w7 ?_ ?_ (Nat.le_refl _)
  · simpa [OpAt, encO] using hb7
  · have h17 : Keeps [w.heap.size] w1 w7 := ((((hk2.trans hk3 (by simp)).trans hk4 (by simp)).trans hk5 (by simp)).trans hk6 (by simp)).trans hk7 (by simp)
    exact hk1.trans h17 (by simp)

section
variable {w : World} {a : Nat} {o : Op} (h : OpAt w a o)
include h
theorem OpAt.do_ {K : Int → Pr} (k : K o.do_ w) : LdI .i64 ⟨a, 0, none⟩ K w := LdI_of h rfl k
theorem OpAt.n {K : Int → Pr} (k : K o.n w) : LdI .i64 ⟨a, 1, none⟩ K w := LdI_of h rfl k
theorem OpAt.short {K : Int → Pr} (k : K o.short w) : LdI .i64 ⟨a, 2, none⟩ K w := LdI_of h rfl k
theorem OpAt.v {K : Int → Pr} (k : K o.v w) : LdI .u8 ⟨a, 3, none⟩ K w := LdI_of h rfl k
theorem OpAt.mask {K : ByteArray → Pr} (k : K o.mask w) : LdS ⟨a, 4, none⟩ K w := LdS_of h rfl k
theorem OpAt.clone {K : Bool → Pr} (k : K o.clone w) : LdB ⟨a, 5, none⟩ K w := LdB_of h rfl k
end
theorem OpAt.keeps {w w' : World} {a : Nat} {o : Op} {m : List Nat} (h : OpAt w a o) (hk : Keeps m w w') (hn : a ∉ m) : OpAt w' a o := hk.at h hn
theorem OpAt.keepsP {w w' : World} {a : Nat} {o : Op} {F : Nat → Prop} (h : OpAt w a o) (hk : KeepsP F w w') (hn : ¬ F a) : OpAt w' a o := hk.at h hn

theorem full_int {w : World} {v : Int} (h0 : 0 ≤ v) : Cl Try.prog i_sumpterlaw06_full [.int .u8 v] false [.sc .sl] (fun r w' => SlC w' r.1 1 (cB (fullB v.toNat)) ∧ Keeps [] w w' ∧ (∀ x ∈ blk r.1, w.heap.size ≤ x)) w := by
  obtain ⟨k, rfl⟩ : ∃ k : Nat, v = k := ⟨v.toNat, by omega⟩
  exact full_ok w k

/-! ### arrays of texts -/
theorem IxR_st {w : World} {b n : Nat} {t : TypeId} {l : List ByteArray} (h : w.heap[b]? = some (.cells (cT l).toArray t (0, 0))) {j : Nat} (hj : j < n) (hl : l.length = n) (x : ByteArray) {K : Pr}
    (k : ∀ w', w'.heap[b]? = some (.cells (cT (l.set j x)).toArray t (0, 0)) → Keeps [b] w w' → K w') : IxR ⟨b, 0, none⟩ n (j : Int) 1 (fun a => St a (.string x) K) w := by
  refine ⟨by omega, by omega, ?_⟩
  rw [add_of, Int.toNat_natCast, Nat.zero_add, Nat.mul_one]
  refine set_box h j _ rfl (by simp [cT]; omega) ?_
  intro w' h1 h2
  refine k w' ?_ h2
  simpa [cT, List.map_set] using h1
theorem IxR_ld {w : World} {b n : Nat} {t : TypeId} {l : List ByteArray} (h : w.heap[b]? = some (.cells (cT l).toArray t (0, 0))) {j : Nat} {x : ByteArray} (hj : j < n) (hx : l[j]? = some x) {K : ByteArray → Pr}
    (k : K x w) : IxR ⟨b, 0, none⟩ n (j : Int) 1 (fun a => LdS a K) w := by
  refine ⟨by omega, by omega, ?_⟩
  rw [add_of, Int.toNat_natCast, Nat.zero_add, Nat.mul_one]
  exact LdS_of h (by simp [cT, hx]) k

/-! ### DiskFuse -/
theorem twelve (n : Int) : ∃ k : Nat, k < 12 ∧ (w64 ((n : Int).tmod 12 + 12)).tmod 12 = (k : Int) := wrapMod n 12 (by omega) (by omega)

theorem mWrite_up {s : DS} (hd : s.down = false) {i : Nat} (hi : i < s.safe.length) (v : Nat) :
    mWrite s (i : Int) (fullB v) = if (mAct s).2 = true then ({ (mAct s).1 with wait := setW s.wait i (fullS v) }, 0) else ((mAct s).1, 60) := by
  have hat : mAt s (i : Int) = 0 := by simp [mAt, hd]; omega
  unfold mWrite
  rw [if_pos hat, dif_pos (fullB_len v), Int.toNat_natCast]
  rfl
theorem mWrite_down {s : DS} (hd : s.down = true) (i : Int) (bs : List UInt8) : mWrite s i bs = (s, 60) := by
  have hat : mAt s i = 60 := by simp [mAt, hd]
  unfold mWrite
  rw [if_neg (by rw [hat]; decide), hat]
theorem mSync_up {s : DS} (hd : s.down = false) : mSync s = if (mAct s).2 = true then ({ (mAct s).1 with safe := mMerge s, wait := fun _ => none }, 0) else ((mAct s).1, 60) := by
  unfold mSync
  rw [if_neg (by simp [hd])]
theorem mSync_down {s : DS} (hd : s.down = true) : mSync s = (s, 60) := by simp [mSync, hd]

/-- How many acts are left, and what was done. -/
def FuseI (s : DS) (k i done : Nat) : Prop := s.safe.length = 12 ∧ ((s.down = false ∧ i ≤ k ∧ done = i ∧ s.fuse = (k : Int) - i) ∨ (s.down = true ∧ done = k ∧ k ≤ i))

theorem FuseI.step {s s' : DS} {k i done : Nat} {e : Int} (h : FuseI s k i done)
    (hdn : s.down = true → s' = s ∧ e = 60)
    (hup : s.down = false → if (mAct s).2 = true then e = 0 ∧ s'.down = (mAct s).1.down ∧ s'.fuse = (mAct s).1.fuse ∧ s'.safe.length = 12 else e = 60 ∧ s' = (mAct s).1) :
    (e = 0 ∧ FuseI s' k (i + 1) (done + 1)) ∨ (e = 60 ∧ done = k ∧ s'.down = true ∧ FuseI s' k (i + 1) done) := by
  obtain ⟨hl, ⟨hd, h1, h2, h3⟩ | ⟨hd, h1, h2⟩⟩ := h
  · have hu := hup hd
    unfold mAct at hu
    by_cases h0 : s.fuse = 0
    · simp only [h0, if_true] at hu
      obtain ⟨rfl, rfl⟩ := hu
      refine .inr ⟨rfl, by omega, rfl, hl, .inr ⟨rfl, by omega, by omega⟩⟩
    · have hpos : 0 < s.fuse := by omega
      rw [if_neg h0, if_pos hpos] at hu
      simp only [if_true] at hu
      obtain ⟨h4, h5, h6, h7⟩ := hu
      refine .inl ⟨h4, h7, .inl ⟨by rw [h5]; exact hd, by omega, by omega, ?_⟩⟩
      rw [h6]
      omega
  · obtain ⟨rfl, rfl⟩ := hdn hd
    exact .inr ⟨rfl, h1, hd, hl, .inr ⟨hd, h1, by omega⟩⟩

theorem get_of_lt {α : Type} {l : List α} {i : Nat} (h : i < l.length) : ∃ x, l[i]? = some x := ⟨_, List.getElem?_eq_getElem h⟩
theorem ops_len {w : World} {s : Sl} {os : List Op} (h : RdC s.p (s.len * 6) (os.flatMap encO) w) : s.len = os.length := by
  have := h.1
  rw [flat_length encO_length] at this
  omega

theorem DiskFuse_ok {w : World} {n : Int} {l : Sl} {os : List Op} (h : RdC l.p (l.len * 6) (os.flatMap encO) w) (hq : ∀ o ∈ os, OpQ o) (hm : l.len ≤ 140737488355328) :
    Cl Try.prog i_sumpterlaw06_DiskFuse [.int .i64 n, .slice l.p l.len l.cap] false [.sc .b] (fun r w' => r.1 = true ∧ Keeps [] w w') w := by
  refine Cl_gen fun R hR => ?_
  have hol := ops_len h
  apply sumpterlaw06_DiskFuse_call
  unfold sumpterlaw06_DiskFuse
  refine Cl.mono (live_ok w) ?_
  rintro ⟨r1, _⟩ w1 ⟨hr1, hk1⟩
  simp only at hr1
  subst hr1
  refine Cl.mono (New_ok w1 12) ?_
  rintro ⟨p, e, u⟩ w2 ⟨hn, hk2⟩
  rw [if_neg (by omega)] at hn
  obtain ⟨d, H, hr, hD, hf⟩ := hn
  cases hr
  refine Jp_of (fun st w' => st = (false, ()) ∧ w2 = w') (fun J hJ => hJ _ _ ⟨rfl, rfl⟩) ?_
  rintro _ _ ⟨rfl, rfl⟩
  simp only [Br]
  refine Cl.mono (short_ok w2 n) ?_
  rintro ⟨r5, _⟩ _ ⟨k, hk, hr5, rfl⟩
  simp only at hr5
  subst hr5
  refine Cl.mono (Fuse_ok hD (k : Int) (by omega)) ?_
  rintro _ w3 ⟨hD3, hk3⟩
  have hk02 : Keeps [] w w2 := hk1.trans hk2 (by simp)
  have hz1 := hk1.size
  have hHw : ∀ x, H x → w.heap.size ≤ x := fun x hx => by have := hf x hx; omega
  have hk03 : KeepsP H w w3 := (hk02.toP (F := H) (by simp)).same hk3
  have hI0 : FuseI (mFuse (dNew (12 : Int).toNat) k) k 0 0 := ⟨by simp [mFuse, dNew], .inl ⟨rfl, by omega, rfl, by simp [mFuse]⟩⟩
  refine ⟨fun m st w' => ∃ (i done : Nat) (s : DS), st = (false, (done : Int), (i : Int), ()) ∧ m = os.length - i ∧ i ≤ os.length ∧ FuseI s k i done ∧ DAt w' d H s ∧ KeepsP H w w', ⟨_, 0, 0, _, rfl, rfl, by omega, hI0, hD3, hk03⟩, ?_⟩
  rintro _ _ w4 ⟨i, done, s, rfl, rfl, hi, hI, hD4, hk4⟩
  dsimp only
  rw [hol]
  have hdone : done ≤ 130 := by
    obtain ⟨_, h | h⟩ := hI <;> omega
  by_cases hil : i < os.length
  · rw [decide_eq_true (by omega)]
    simp only [Br]
    obtain ⟨o, ho⟩ := get_of_lt hil
    obtain ⟨q1, q2, q3⟩ := hq o (List.mem_of_getElem? ho)
    refine Jp_of (fun st w5 => ∃ (done' : Nat) (s' : DS), st = (false, (done' : Int), ()) ∧ FuseI s' k (i + 1) done' ∧ DAt w5 d H s' ∧ KeepsP H w w5) ?_ ?_
    · intro J9 hJ9
      refine op_ok (rdc_keepsP h hk4 (fun a ha hh => ?_)) ho ?_
      · have := hHw _ hh
        have h0 := h.2 (i * 6) _ (by rw [show i * 6 = i * 6 + 0 from rfl, flat_get encO_length os i 0 (by omega), ho]; rfl)
        obtain ⟨a', ha', hc⟩ := h0
        rw [ha] at ha'
        cases ha'
        have hb : (a.add (i * 6)).block = a.block := by unfold Addr.add; split <;> rfl
        have : a.block < w.heap.size := by
          rcases Nat.lt_or_ge a.block w.heap.size with h' | h'
          · exact h'
          · simp [World.cell?, hb, Array.getElem?_eq_none h'] at hc
        omega
      · intro a w5 hO hk5 ha
        have hD5 := hD4.keeps0 hk5
        have haH : ¬ H a := fun hh => by have := hD4.bl a hh; omega
        have hk05 : KeepsP H w w5 := hk4.step hk5 (by simp)
        refine Jp_of (fun st w6 => ∃ s', DAt w6 d H s' ∧ KeepsP H w w6 ∧ ((st.1 = 0 ∧ FuseI s' k (i + 1) (done + 1)) ∨ (st.1 = 60 ∧ done = k ∧ s'.down = true ∧ FuseI s' k (i + 1) done))) ?_ ?_
        · intro J hJ
          simp only [add_of]
          refine hO.do_ ?_
          by_cases h2 : o.do_ = 2
          · rw [show (o.do_ == 2) = true from by simp [h2]]
            simp only [Br]
            refine Cl.mono (Sync_ok hD5) ?_
            rintro ⟨r, _⟩ w6 ⟨hr, hD6, hk6⟩
            simp only at hr
            refine hJ _ _ ⟨_, hD6, hk05.same hk6, ?_⟩
            have := hI.step (s' := (mSync s).1) (e := r) (fun hd => by rw [hr, mSync_down hd]; exact ⟨rfl, rfl⟩) (fun hd => by
              rw [hr, mSync_up hd]
              by_cases ha : (mAct s).2 = true
              · rw [if_pos ha, if_pos ha]
                exact ⟨rfl, rfl, rfl, by rw [show _ = (mMerge s).length from rfl, mMerge_length]; exact hI.1⟩
              · rw [if_neg ha, if_neg ha]
                exact ⟨rfl, rfl⟩)
            exact this
          · rw [show (o.do_ == 2) = false from by simp [h2]]
            simp only [Br, Dr]
            have hOd : OpAt w5.drew a o := hO
            refine hOd.n ?_
            refine ⟨by decide, by decide, ?_⟩
            refine hOd.v ?_
            obtain ⟨j, hj, hje⟩ := twelve o.n
            rw [hje]
            refine Cl.mono (full_int (w := w5.drew) q1) ?_
            rintro ⟨r28, _⟩ w6 ⟨hs6, hk6, hb6⟩
            simp only at hs6 hb6
            have hkd : Keeps [] w5 w5.drew := (Keeps.refl _ _).drew
            refine ⟨(hOd.keeps hk6 (by simp)).n rfl, ?_⟩
            have hD6 := (hD5.keeps0 hkd).keeps0 hk6
            refine Cl.mono (WriteF_ok hD6 (j : Int) _ hs6 (fresh_not (w := w5) hb6 hD5.bl)) ?_
            rintro ⟨r30, _⟩ w7 ⟨hr, hD7, hk7⟩
            simp only at hr
            refine hJ _ _ ⟨_, hD7, ((hk05.step hkd (by simp)).step hk6 (by simp)).same hk7, ?_⟩
            have hjs : j < s.safe.length := by rw [hI.1]; exact hj
            exact hI.step (fun hd => by rw [hr, mWrite_down hd]; exact ⟨rfl, rfl⟩) (fun hd => by
              rw [hr, mWrite_up hd hjs]
              by_cases ha : (mAct s).2 = true
              · rw [if_pos ha, if_pos ha]
                exact ⟨rfl, rfl, rfl, by rw [show _ = (mAct s).1.safe.length from rfl, mAct_safe]; exact hI.1⟩
              · rw [if_neg ha, if_neg ha]
                exact ⟨rfl, rfl⟩)
        · rintro ⟨f, _⟩ w6 ⟨s', hD6, hk6, ⟨rfl, hI'⟩ | ⟨rfl, hdk, hdn, hI'⟩⟩
          · rw [show ((0 : Int) == 0) = true from rfl]
            simp only [Br]
            refine hJ9 _ _ ⟨done + 1, s', ?_, hI', hD6, hk6⟩
            rw [w64_in (by omega) (by omega)]
            rfl
          · rw [show ((60 : Int) == 0) = false from rfl]
            simp only [Br]
            refine Jp_of (fun st w7 => st = (false, ()) ∧ w6 = w7) ?_ ?_
            · intro J hJ
              rw [show ((60 : Int) != 60) = false from rfl]
              simp only [Br]
              rw [show ((done : Int) != (k : Int)) = false from by simp [hdk]]
              simp only [Br]
              refine Cl.mono (Up_ok hD6) ?_
              rintro ⟨r, _⟩ _ ⟨hr, rfl⟩
              simp only at hr
              refine hJ _ _ ⟨?_, rfl⟩
              rw [hr, hdn]
              rfl
            · rintro _ _ ⟨rfl, rfl⟩
              exact hJ9 _ _ ⟨done, s', rfl, hI', hD6, hk6⟩
    · rintro _ w5 ⟨done', s', rfl, hI', hD5, hk5⟩
      exact ⟨os.length - (i + 1), by omega, i + 1, done', s', by rw [w64_in (by omega) (by omega)]; rfl, rfl, by omega, hI', hD5, hk5⟩
  · rw [decide_eq_false (by omega)]
    simp only [Br]
    obtain rfl : i = os.length := by omega
    refine hR _ _ ⟨?_, hk4.toL hHw⟩
    obtain ⟨_, ⟨_, h1, h2, _⟩ | ⟨_, h1, h2⟩⟩ := hI
    · subst h2
      by_cases hlt : (os.length : Int) < (k : Int)
      · rw [if_pos hlt]; simp
      · rw [if_neg hlt]
        simp
        omega
    · subst h1
      rw [if_neg (by omega)]
      simp

end Go.Proofs.Ythfgdoiaebfcdaa
