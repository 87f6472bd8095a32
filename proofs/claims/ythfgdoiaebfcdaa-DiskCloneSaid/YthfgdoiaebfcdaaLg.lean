/- DiskGoes: its walk. Conditions: none. -/
import Derived.Test.YthfgdoiaebfcdaaLo
set_option linter.unusedVariables false
set_option linter.unusedSimpArgs false
namespace Go.Proofs.Ythfgdoiaebfcdaa
open Go Go.Sx

theorem toL_of {F : Nat → Prop} {w0 w w' : World} (h : Keeps [] w0 w) (k : KeepsP F w w') (hF : ∀ y, F y → w0.heap.size ≤ y) : Keeps [] w0 w' :=
  ((h.toP (F := F) (by simp)).same k).toL hF

/-- What there is between two rounds. -/
structure GI (w0 w : World) (x : Nat) (G : Nat → Prop) (d : Nat) (H : Nat → Prop) (s : DS) : Prop where
  dk : DAt w d H s
  rf : XAt w x G s
  dj : Dj H G
  hw : ∀ y, H y → w0.heap.size ≤ y
  gw : ∀ y, G y → w0.heap.size ≤ y
  kp : Keeps [] w0 w

section
variable {w0 w : World} {x : Nat} {G : Nat → Prop} {d : Nat} {H : Nat → Prop} {s s' : DS} (h : GI w0 w x G d H s)
include h
theorem GI.keeps {w' : World} {m : List Nat} (hk : Keeps m w w') (hm : ∀ y ∈ m, w0.heap.size ≤ y ∧ ¬ H y ∧ ¬ G y) : GI w0 w' x G d H s :=
  ⟨h.dk.keeps (F := fun y => y ∈ m) (hk.toP (fun _ hx => .inl hx)) (fun y hy hy' => (hm y hy').2.1 hy), h.rf.keeps (F := fun y => y ∈ m) (hk.toP (fun _ hx => .inl hx)) (fun y hy hy' => (hm y hy').2.2 hy), h.dj, h.hw, h.gw, h.kp.trans hk (fun y hy => .inr (hm y hy).1)⟩
theorem GI.keeps0 {w' : World} (hk : Keeps [] w w') : GI w0 w' x G d H s := h.keeps hk (by simp)
theorem GI.both {w1 w2 : World} (h1 : DAt w1 d H s') (k1 : KeepsP H w w1) (h2 : XAt w2 x G s') (k2 : KeepsP G w1 w2) : GI w0 w2 x G d H s' :=
  ⟨h1.keeps k2 h.dj, h2, h.dj, h.hw, h.gw, toL_of (toL_of h.kp k1 h.hw) k2 h.gw⟩
theorem GI.fresh {l : List Nat} (hl : ∀ y ∈ l, w.heap.size ≤ y) : ∀ y ∈ l, w0.heap.size ≤ y ∧ ¬ H y ∧ ¬ G y := fun y hy => by
  have h1 := hl y hy
  have h2 := h.kp.size
  exact ⟨by omega, fun hh => by have := h.dk.bl y hh; omega, fun hh => by have := h.rf.bl y hh; omega⟩
end

theorem mWrite_n (s : DS) (n : Int) (bs : List UInt8) : (((mWrite s n bs).2 : Int) == (mWrite s n bs).2) = true := by simp

/-- One round's deeds, on the device and on the reference's one. -/
def mStep (s : DS) (o : Op) (k : Nat) : DS :=
  if o.do_ = 0 then (mWrite s o.n (fullB o.v.toNat)).1
  else if o.do_ = 1 then (mWrite s o.n (List.replicate k 0)).1
  else if o.do_ = 2 then (mSync s).1
  else if o.do_ = 3 then mFuse s o.n
  else if o.do_ = 4 then mCrash s o.mask
  else if o.do_ = 5 then mStart s
  else s

theorem DiskGoes_ok {w : World} {n : Int} {l : Sl} {os : List Op} (h : RdC l.p (l.len * 6) (os.flatMap encO) w) (hq : ∀ o ∈ os, OpQ o) :
    Cl Try.prog i_sumpterlaw06_DiskGoes [.int .i64 n, .slice l.p l.len l.cap] false [.sc .b] (fun r w' => r.1 = true ∧ Keeps [] w w') w := by
  refine Cl_gen fun R hR => ?_
  have hol := ops_len h
  apply sumpterlaw06_DiskGoes_call
  unfold sumpterlaw06_DiskGoes
  refine Cl.mono (live_ok w) ?_
  rintro ⟨r1, _⟩ w1 ⟨hr1, hk1⟩
  simp only at hr1
  subst hr1
  refine Cl.mono (New_ok w1 n) ?_
  rintro ⟨pd, ed, u⟩ w2 ⟨hn, hk2⟩
  refine Cl.mono (XNew_ok w2 n) ?_
  rintro ⟨px, ex, u'⟩ w3 ⟨hx, hk3⟩
  have hk03 : Keeps [] w w3 := (hk1.trans hk2 (by simp)).trans hk3 (by simp)
  by_cases hc : n < 1 ∨ 4096 < n
  · rw [if_pos hc] at hn hx
    cases hn
    cases hx
    refine Jp_of (fun st w' => st = (false, ()) ∧ w3 = w') (fun J hJ => hJ _ _ ⟨rfl, rfl⟩) ?_
    rintro _ _ ⟨rfl, rfl⟩
    refine Jp_of (fun st w' => st = (true, ()) ∧ w3 = w') (fun J hJ => hJ _ _ ⟨rfl, rfl⟩) ?_
    rintro _ _ ⟨rfl, rfl⟩
    exact hR _ _ ⟨rfl, hk03⟩
  rw [if_neg hc] at hn hx
  obtain ⟨d, H, hr, hD, hf⟩ := hn
  cases hr
  obtain ⟨x, G, hr, hX, hg⟩ := hx
  cases hr
  refine Jp_of (fun st w' => st = (false, ()) ∧ w3 = w') (fun J hJ => hJ _ _ ⟨rfl, rfl⟩) ?_
  rintro _ _ ⟨rfl, rfl⟩
  have hz1 := hk1.size
  have hz2 := hk2.size
  have hI0 : GI w w3 x G d H (dNew n.toNat) := ⟨hD.keeps0 hk3, hX, fun y hy hy' => by have := hD.bl y hy; have := hg y hy'; omega, fun y hy => by have := hf y hy; omega, fun y hy => by have := hg y hy; omega, hk03⟩
  simp only [Br]
  refine Jp_of (fun st w' => (st = (true, ()) ∨ (st = (false, ()) ∧ l.len ≤ 100)) ∧ w3 = w') ?_ ?_
  · intro J hJ
    simp only [Option.isNone_some]
    by_cases h40 : n > 40
    · rw [decide_eq_true h40]
      exact hJ _ _ ⟨.inl rfl, rfl⟩
    · rw [decide_eq_false h40]
      by_cases h100 : l.len ≤ 100
      · refine hJ _ _ ⟨.inr ⟨?_, h100⟩, rfl⟩
        rw [decide_eq_false (by omega)]
      · refine hJ _ _ ⟨.inl ?_, rfl⟩
        rw [decide_eq_true (by omega)]
  rintro _ _ ⟨rfl | ⟨rfl, hl100⟩, rfl⟩
  · exact hR _ _ ⟨rfl, hk03⟩
  simp only
  refine ⟨fun m st w' => ∃ (i : Nat) (d : Nat) (H : Nat → Prop) (s : DS), st = (false, some ⟨d, 0, none⟩, (i : Int), ()) ∧ m = os.length - i ∧ i ≤ os.length ∧ GI w w' x G d H s, ⟨_, 0, d, H, _, rfl, rfl, by omega, hI0⟩, ?_⟩
  rintro _ _ w4 ⟨i, d, H, s, rfl, rfl, hi, hI⟩
  dsimp only
  rw [hol]
  by_cases hil : i < os.length
  · rw [decide_eq_true (by omega)]
    simp only [Br]
    obtain ⟨o, ho⟩ := get_of_lt hil
    obtain ⟨q1, q2, q3⟩ := hq o (List.mem_of_getElem? ho)
    refine Jp_of (fun st w5 => ∃ d' H' s', st = (false, some ⟨d', 0, none⟩, ()) ∧ GI w w5 x G d' H' s') ?_ ?_
    · intro J10 hJ10
      refine op_ok (rdc_keeps h hI.kp (by simp)) ho ?_
      intro a w5 hO hk5 ha
      have hI5 := hI.keeps0 hk5
      have haf : w.heap.size ≤ a ∧ ¬ H a ∧ ¬ G a := hI.fresh (l := [a]) (by simpa using ha) a (by simp)
      refine Jp_of (fun st w6 => st = (true, ()) ∧ OpAt w6 a o ∧ ∃ s', GI w w6 x G d H s') ?_ ?_
      · intro J20 hJ20
        simp only [add_of]
        refine hO.do_ ?_
        refine Jp_of (fun st w6 => st = (decide (o.do_ = 0 ∨ o.do_ = 1), ()) ∧ w5 = w6) ?_ ?_
        · intro J hJ
          by_cases h0 : o.do_ = 0
          · rw [show (o.do_ == 0) = true from by simp [h0]]
            exact hJ _ _ ⟨by simp [h0], rfl⟩
          · rw [show (o.do_ == 0) = false from by simp [h0]]
            refine hJ _ _ ⟨?_, rfl⟩
            by_cases h1 : o.do_ = 1
            · simp [h1]
            · simp [h0, h1]
        rintro _ _ ⟨rfl, rfl⟩
        by_cases h01 : o.do_ = 0 ∨ o.do_ = 1
        · rw [decide_eq_true h01]
          simp only [Br]
          refine hO.v ?_
          refine Cl.mono (full_int q1) ?_
          rintro ⟨r34, _⟩ w6 ⟨hs6, hk6, hb6⟩
          simp only at hs6 hb6
          have hO6 := hO.keeps hk6 (by simp)
          refine Jp_of (fun st w7 => ∃ (b : Sl) (bs : List UInt8), st = (b, ()) ∧ bs.length ≤ 200 ∧ SlC w7 b 1 (cB bs) ∧ (∀ y ∈ blk b, w5.heap.size ≤ y) ∧ Keeps [] w5 w7) ?_ ?_
          · intro J35 hJ35
            refine hO6.do_ ?_
            by_cases h1 : o.do_ = 1
            · rw [show (o.do_ == 1) = true from by simp [h1]]
              simp only [Br]
              refine hO6.short ?_
              refine Cl.mono (short_ok w6 o.short) ?_
              rintro ⟨r52, _⟩ _ ⟨k, hk, hr52, rfl⟩
              simp only at hr52
              subst hr52
              refine Mk_of (l := k) (c := k) (Nat.le_refl _) (by omega) (by omega) ?_
              intro w7 hs7 hk7 hz7
              rw [show zc Try.prog 5 = #[.int .u8 0] from by kernel_rfl, toList_madeCells_one] at hs7
              have h6 := hk6.size
              exact hJ35 _ _ ⟨_, List.replicate k 0, rfl, by simp; omega, by simpa [cB] using hs7, fun y hy => by have := blk_sub rfl y hy; omega, hk6.trans hk7 (by simp)⟩
            · rw [show (o.do_ == 1) = false from by simp [h1]]
              exact hJ35 _ _ ⟨_, _, rfl, by rw [fullB_len]; omega, hs6, hb6, hk6⟩
          · rintro _ w7 ⟨b, bs, rfl, hbs, hs7, hb7, hk7⟩
            dsimp only
            have hI7 := hI5.keeps0 hk7
            have hO7 := hO.keeps hk7 (by simp)
            have hbf := hI5.fresh hb7
            have hbl := cB_slen hs7
            have hs7r : RdC b.p (b.len * 1) (cB bs) w7 := hs7.rdc
            refine App_of (s := ⟨none, 0, 0⟩) (cs := []) (bytes := 1) (SlC.nil w7 1) hs7r (by rw [cB_length, hbl, Nat.mul_one]) (cB_one _) (by kernel_rfl) (by simp; omega) (by simp; omega) ?_
            intro c w8 hs8 hl8 hk8 hb8
            rw [show blk ⟨none, 0, 0⟩ = [] from rfl] at hk8
            have hbc : ∀ y ∈ blk c, w7.heap.size ≤ y := fun y hy => by
              rcases hb8 y hy with hh | hh
              · cases hh
              · exact hh
            have hI8 := hI7.keeps0 hk8
            have hO8 := hO7.keeps hk8 (by simp)
            have hcf := hI7.fresh hbc
            have hsb8 := hs7.keeps hk8 (by simp)
            have hsc8 : SlC w8 c 1 (cB bs) := by simpa using hs8
            have hbcd : ∀ y ∈ blk b, y ∉ blk c := fun y hy hy' => by have := hs7.lt y hy; have := hbc y hy'; omega
            refine Jp_of (fun st w9 => st = (true, ()) ∧ OpAt w9 a o ∧ (∃ s', GI w w9 x G d H s') ∧ SlC w9 b 1 (cB bs)) ?_ ?_
            · intro J38 hJ38
              have hkd : Keeps [] w8 w8.drew := (Keeps.refl _ _).drew
              have hO8d : OpAt w8.drew a o := hO8
              have hI8d := hI8.keeps0 hkd
              simp only [Dr]
              refine hO8d.n ?_
              refine hO8d.n ?_
              refine Cl.mono (WriteC_ok hI8d.dk o.n (hsb8.keeps hkd (by simp)) (fun y hy => (hbf y hy).2.1)) ?_
              rintro ⟨r45, _⟩ w9 ⟨hr45, hD9, hk9⟩
              simp only at hr45
              have hO9 := hO8d.keepsP hk9 haf.2.1
              refine ⟨hO9.n rfl, ?_⟩
              have hX9 := hI8d.rf.keeps hk9 hI8.dj.symm
              have hsc9 := (hsc8.keeps hkd (by simp)).keepsP hk9 (fun y hy => (hcf y hy).2.1)
              have hsb9 := (hsb8.keeps hkd (by simp)).keepsP hk9 (fun y hy => (hbf y hy).2.1)
              refine Cl.mono (XWriteC_ok hX9 o.n hsc9 (fun y hy => (hcf y hy).2.2)) ?_
              rintro ⟨r47, _⟩ w10 ⟨hr47, hX10, hk10⟩
              simp only at hr47
              have hO10 := hO9.keepsP hk10 haf.2.2
              have hsc10 := hsc9.keepsP hk10 (fun y hy => (hcf y hy).2.2)
              have hsb10 := hsb9.keepsP hk10 (fun y hy => (hbf y hy).2.2)
              have hI10 := hI8d.both hD9 hk9 hX10 hk10
              rw [hr45, hr47, mWrite_n]
              simp only [Br]
              refine BtoS_of hsb10.rdb ?_
              refine BtoS_of hsc10.rdb ?_
              rw [seq_refl]
              exact hJ38 _ _ ⟨rfl, hO10, ⟨_, hI10⟩, hsb10⟩
            · rintro _ w9 ⟨rfl, hO9, ⟨s', hI9⟩, hsb9⟩
              refine wipe_ok hsb9 (by omega) ?_
              intro w10 hk10
              refine hJ20 _ _ ⟨rfl, hO9.keeps hk10 (fun hh => ?_), s', hI9.keeps hk10 hbf⟩
              have h1 := hb7 a hh
              have h2 := hp_lt hO
              omega
        · rw [decide_eq_false h01]
          simp only [Br]
          by_cases h2 : o.do_ = 2
          · rw [show (o.do_ == 2) = true from by simp [h2]]
            simp only
            refine Cl.mono (Sync_ok hI5.dk) ?_
            rintro ⟨ra, _⟩ w6 ⟨hra, hD6, hk6⟩
            simp only at hra
            refine Cl.mono (XSync_ok (hI5.rf.keeps hk6 hI.dj.symm)) ?_
            rintro ⟨rb, _⟩ w7 ⟨hrb, hX7, hk7⟩
            simp only at hrb
            refine hJ20 _ _ ⟨?_, (hO.keepsP hk6 haf.2.1).keepsP hk7 haf.2.2, _, hI5.both hD6 hk6 hX7 hk7⟩
            rw [hra, hrb]
            simp
          · rw [show (o.do_ == 2) = false from by simp [h2]]
            simp only
            by_cases h3 : o.do_ = 3
            · rw [show (o.do_ == 3) = true from by simp [h3]]
              simp only
              refine hO.n ?_
              refine Cl.mono (Fuse_ok hI5.dk o.n q3) ?_
              rintro _ w6 ⟨hD6, hk6⟩
              have hO6 := hO.keepsP hk6 haf.2.1
              refine hO6.n ?_
              refine Cl.mono (XFuse_ok (hI5.rf.keeps hk6 hI.dj.symm) o.n q3) ?_
              rintro _ w7 ⟨hX7, hk7⟩
              exact hJ20 _ _ ⟨rfl, hO6.keepsP hk7 haf.2.2, _, hI5.both hD6 hk6 hX7 hk7⟩
            · rw [show (o.do_ == 3) = false from by simp [h3]]
              simp only
              by_cases h4 : o.do_ = 4
              · rw [show (o.do_ == 4) = true from by simp [h4]]
                simp only
                refine hO.mask ?_
                refine Cl.mono (Crash_ok hI5.dk o.mask) ?_
                rintro _ w6 ⟨hD6, hk6⟩
                have hO6 := hO.keepsP hk6 haf.2.1
                refine hO6.mask ?_
                refine Cl.mono (XCrash_ok (hI5.rf.keeps hk6 hI.dj.symm) o.mask) ?_
                rintro _ w7 ⟨hX7, hk7⟩
                exact hJ20 _ _ ⟨rfl, hO6.keepsP hk7 haf.2.2, _, hI5.both hD6 hk6 hX7 hk7⟩
              · rw [show (o.do_ == 4) = false from by simp [h4]]
                simp only
                by_cases h5 : o.do_ = 5
                · rw [show (o.do_ == 5) = true from by simp [h5]]
                  simp only
                  refine Cl.mono (Start_ok hI5.dk) ?_
                  rintro _ w6 ⟨hD6, hk6⟩
                  refine Cl.mono (XStart_ok (hI5.rf.keeps hk6 hI.dj.symm)) ?_
                  rintro _ w7 ⟨hX7, hk7⟩
                  exact hJ20 _ _ ⟨rfl, (hO.keepsP hk6 haf.2.1).keepsP hk7 haf.2.2, _, hI5.both hD6 hk6 hX7 hk7⟩
                · rw [show (o.do_ == 5) = false from by simp [h5]]
                  exact hJ20 _ _ ⟨rfl, hO, _, hI5⟩
      · rintro _ w6 ⟨rfl, hO6, s', hI6⟩
        refine Jp_of (fun st w7 => st = (false, ()) ∧ OpAt w7 a o ∧ GI w w7 x G d H s') ?_ ?_
        · intro J22 hJ22
          simp only [Bool.not_true, Br]
          refine Cl.mono (same_ok hI6.dk hI6.rf) ?_
          rintro ⟨r, _⟩ w7 ⟨hr, hk7⟩
          simp only at hr
          subst hr
          exact hJ22 _ _ ⟨rfl, hO6.keeps hk7 (by simp), hI6.keeps0 hk7⟩
        · rintro _ w7 ⟨rfl, hO7, hI7⟩
          simp only [add_of]
          refine hO7.clone ?_
          cases hcl : o.clone with
          | false => exact hJ10 _ _ ⟨d, H, s', rfl, hI7⟩
          | true =>
            refine Cl.mono (Clone_ok hI7.dk) ?_
            rintro ⟨p, _⟩ w8 ⟨d', H', hp, hD8, hf8, hk8⟩
            cases hp
            simp only [Option.isNone_some, Br]
            have hI8 := hI7.keeps0 hk8
            have hd' : Dj H' H := fun y hy hy' => by have := hf8 y hy; have := hI7.dk.bl y hy'; omega
            have hd'G : Dj H' G := fun y hy hy' => by have := hf8 y hy; have := hI7.rf.bl y hy'; omega
            refine Cl.mono (full_ok w8 99) ?_
            rintro ⟨r26, _⟩ w9 ⟨hs9, hk9, hb9⟩
            simp only at hs9 hb9
            have hI9 := hI8.keeps0 hk9
            refine Cl.mono (WriteF_ok hI9.dk 0 99 hs9 (fresh_not hb9 hI8.dk.bl)) ?_
            rintro ⟨r27, _⟩ w10 ⟨_, hD10, hk10⟩
            refine Cl.mono (Sync_ok hD10) ?_
            rintro ⟨r28, _⟩ w11 ⟨_, hD11, hk11⟩
            have hk9_11 : KeepsP H w9 w11 := hk10.same hk11
            have h7 := hI7.kp.size
            refine hJ10 _ _ ⟨d', H', s', rfl, (hD8.keeps0 hk9).keeps hk9_11 hd', hI9.rf.keeps hk9_11 hI7.dj.symm, hd'G, fun y hy => by have := hf8 y hy; omega, hI7.gw, toL_of hI9.kp hk9_11 hI7.hw⟩
    · rintro _ w5 ⟨d', H', s', rfl, hI5⟩
      exact ⟨os.length - (i + 1), by omega, i + 1, d', H', s', by rw [w64_in (by omega) (by omega)]; rfl, rfl, by omega, hI5⟩
  · rw [decide_eq_false (by omega)]
    exact hR _ _ ⟨rfl, hI.kp⟩

end Go.Proofs.Ythfgdoiaebfcdaa
