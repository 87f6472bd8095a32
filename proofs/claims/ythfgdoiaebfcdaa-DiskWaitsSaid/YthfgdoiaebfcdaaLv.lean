/- The chapter's examples ('live') hold. Conditions: none. -/
import Derived.Test.YthfgdoiaebfcdaaLs
set_option linter.unusedVariables false
set_option linter.unusedSimpArgs false
namespace Go.Proofs.Ythfgdoiaebfcdaa
open Go Go.Sx

def l0 : DS := dNew 4
def l1 : DS := (mWrite l0 1 (fullB 7)).1
def l2 : DS := (mWrite l1 3 (fullB 9)).1
def l3 : DS := mCrash l2 (BA [0, 1])
def l4 : DS := mStart l3
def l5 : DS := mFuse l4 1
def l6 : DS := (mWrite l5 2 (fullB 1)).1
def l7 : DS := (mSync l6).1

theorem rblk_of {w : World} {b : Sl} {bs : List UInt8} {H : Nat → Prop} (hb : SlC w b 1 (cB bs)) (hd : ∀ x ∈ blk b, ¬ H x) : bs.length = 64 → ∀ x ∈ rblk b, ¬ H x := by
  intro h64 x hx
  have hl := cB_slen hb
  obtain ⟨b', o, hp, hbk⟩ := hb.base (by omega)
  rw [rblk, hp] at hx
  exact hd x (by rw [hbk]; exact hx)
/-- A write of bytes that are owned. -/
theorem WriteC_ok {w : World} {d : Nat} {H : Nat → Prop} {s : DS} (h : DAt w d H s) (i : Int) {bs : List UInt8} {b : Sl} (hb : SlC w b 1 (cB bs)) (hd : ∀ x ∈ blk b, ¬ H x) :
    Cl Try.prog i_disk_Disk_Write [.pointer (some ⟨d, 0, none⟩), .int .i64 i, .slice b.p b.len b.cap] false [.sc (.i .i64)] (fun r w' => r.1 = (mWrite s i bs).2 ∧ DAt w' d H (mWrite s i bs).1 ∧ KeepsP H w w') w := Write_ok h i hb.rdb (rblk_of hb hd)
theorem XWriteC_ok {w : World} {x : Nat} {G : Nat → Prop} {s : DS} (h : XAt w x G s) (i : Int) {bs : List UInt8} {b : Sl} (hb : SlC w b 1 (cB bs)) (hd : ∀ x ∈ blk b, ¬ G x) :
    Cl Try.prog i_sumpterref06_Disk_Write [.pointer (some ⟨x, 0, none⟩), .int .i64 i, .slice b.p b.len b.cap] false [.sc (.i .i64)] (fun r w' => r.1 = (mWrite s i bs).2 ∧ XAt w' x G (mWrite s i bs).1 ∧ KeepsP G w w') w := XWrite_ok h i hb.rdb (rblk_of hb hd)
/-- A write of a full sector. -/
theorem WriteF_ok {w : World} {d : Nat} {H : Nat → Prop} {s : DS} (h : DAt w d H s) (i : Int) (v : Nat) {b : Sl} (hb : SlC w b 1 (cB (fullB v))) (hd : ∀ x ∈ blk b, ¬ H x) :
    Cl Try.prog i_disk_Disk_Write [.pointer (some ⟨d, 0, none⟩), .int .i64 i, .slice b.p b.len b.cap] false [.sc (.i .i64)] (fun r w' => r.1 = (mWrite s i (fullB v)).2 ∧ DAt w' d H (mWrite s i (fullB v)).1 ∧ KeepsP H w w') w := WriteC_ok h i hb hd

set_option maxRecDepth 100000 in
theorem live_ok (w : World) : Cl Try.prog i_sumpterlaw06_live [] false [.sc .b] (fun r w' => r.1 = true ∧ Keeps [] w w') w := by
  refine Cl_gen fun R hR => ?_
  apply sumpterlaw06_live_call
  unfold sumpterlaw06_live
  refine Cl.mono (New_ok w 4) ?_
  rintro ⟨p, e, u⟩ w1 ⟨hn, hk1⟩
  rw [if_neg (by omega)] at hn
  obtain ⟨d, H, hr, hD1, hf1⟩ := hn
  cases hr
  have hD1 : DAt w1 d H l0 := hD1
  refine Jp_of (fun st w' => st = (false, ()) ∧ w1 = w') (fun J hJ => hJ _ _ ⟨rfl, rfl⟩) ?_
  rintro _ _ ⟨rfl, rfl⟩
  simp only [Br]
  refine Cl.mono (full_ok w1 7) ?_
  rintro ⟨r4, _⟩ w2 ⟨hs2, hk2, hb2⟩
  simp only at hs2 hb2
  refine Cl.mono (WriteF_ok (hD1.keeps0 hk2) 1 7 hs2 (fresh_not hb2 hD1.bl)) ?_
  rintro ⟨e5, _⟩ w3 ⟨he5, hD3, hk3⟩
  refine Cl.mono (full_ok w3 9) ?_
  rintro ⟨r6, _⟩ w4 ⟨hs4, hk4, hb4⟩
  simp only at hs4 hb4
  have hD3 : DAt w3 d H l1 := hD3
  refine Cl.mono (WriteF_ok (hD3.keeps0 hk4) 3 9 hs4 (fresh_not hb4 hD3.bl)) ?_
  rintro ⟨e7, _⟩ w5 ⟨he7, hD5, hk5⟩
  have hD5 : DAt w5 d H l2 := hD5
  refine Cl.mono (Waits_ok hD5) ?_
  rintro ⟨r8, _⟩ w6 ⟨hs6, hk6, hb6⟩
  simp only at hs6 hb6
  have hn8 := fresh_not hb6 hD5.bl
  refine Cl.mono (Crash_ok (hD5.keeps0 hk6) (BA [0, 1])) ?_
  rintro _ w7 ⟨hD7, hk7⟩
  have hD7 : DAt w7 d H l3 := hD7
  refine Cl.mono (Up_ok hD7) ?_
  rintro ⟨r10, _⟩ _ ⟨hr10, rfl⟩
  simp only at hr10
  refine Cl.mono (Start_ok hD7) ?_
  rintro _ w8 ⟨hD8, hk8⟩
  have hD8 : DAt w8 d H l4 := hD8
  refine Cl.mono (Read_ok hD8 1) ?_
  rintro ⟨r12, e12, _⟩ w9 ⟨he12, hs9, hk9, hb9⟩
  simp only at he12 hs9 hb9
  have hn12 := fresh_not hb9 hD8.bl
  have hD9 := hD8.keeps0 hk9
  refine Cl.mono (Read_ok hD9 3) ?_
  rintro ⟨r13, e13, _⟩ w10 ⟨he13, hs10, hk10, hb10⟩
  simp only at he13 hs10 hb10
  have hn13 := fresh_not hb10 hD9.bl
  refine Cl.mono (Fuse_ok (hD9.keeps0 hk10) 1 (by omega)) ?_
  rintro _ w11 ⟨hD11, hk11⟩
  have hD11 : DAt w11 d H l5 := hD11
  refine Cl.mono (full_ok w11 1) ?_
  rintro ⟨r15, _⟩ w12 ⟨hs12, hk12, hb12⟩
  simp only at hs12 hb12
  refine Cl.mono (WriteF_ok (hD11.keeps0 hk12) 2 1 hs12 (fresh_not hb12 hD11.bl)) ?_
  rintro ⟨e16, _⟩ w13 ⟨he16, hD13, hk13⟩
  have hD13 : DAt w13 d H l6 := hD13
  refine Cl.mono (Sync_ok hD13) ?_
  rintro ⟨e17, _⟩ w14 ⟨he17, hD14, hk14⟩
  have hD14 : DAt w14 d H l7 := hD14
  refine Cl.mono (Read_ok hD14 2) ?_
  rintro ⟨r18, e18, _⟩ w15 ⟨he18, hs15, hk15, hb15⟩
  simp only at he16 he17 he18
  have hk0 : ∀ {a b : World}, Keeps [] a b → KeepsP H a b := fun h => h.toP (by simp)
  -- what was there is there still
  have k10_15 : KeepsP H w10 w15 := ((((hk11.same (hk0 hk12)).same hk13).same hk14).same (hk0 hk15))
  have k9_15 : KeepsP H w9 w15 := (hk0 hk10).same k10_15
  have k6_15 : KeepsP H w6 w15 := ((hk7.same hk8).same (hk0 hk9)).same k9_15
  have hs6' := hs6.keepsP k6_15 hn8
  have hs9' := hs9.keepsP k9_15 hn12
  have hs10' := hs10.keepsP k10_15 hn13
  have kall : KeepsP H w w15 := (hk0 hk1).same (((((hk0 hk2).same hk3).same (hk0 hk4)).same hk5).same ((hk0 hk6).same k6_15))
  have kall0 : Keeps [] w w15 := kall.toL hf1
  have hkd : Keeps [] w15 w15.drew := (Keeps.refl _ _).drew
  have e8 : wI l2 = [1, 3] := by kernel_rfl
  have eR1 : (mRead l4 1).1 = List.replicate 64 0 := by kernel_rfl
  have eR1' : (mRead l4 1).2 = 0 := by kernel_rfl
  have eR3 : (mRead l4 3).1 = fullB 9 := by kernel_rfl
  have eR3' : (mRead l4 3).2 = 0 := by kernel_rfl
  have e16' : (mWrite l5 2 (fullB 1)).2 = 0 := by kernel_rfl
  have e17' : (mSync l6).2 = 60 := by kernel_rfl
  have e18' : (mRead l7 2).2 = 60 := by kernel_rfl
  have hdn : l3.down = true := by kernel_rfl
  rw [eR1'] at he12
  rw [eR3'] at he13
  rw [e16'] at he16
  rw [e17'] at he17
  rw [e18'] at he18
  rw [hdn] at hr10
  rw [e8] at hs6'
  rw [eR1] at hs9'
  rw [eR3] at hs10'
  subst he12 he13 he16 he17 he18 hr10
  have hl6 := cI_slen hs6'
  have hl9 := cB_slen hs9'
  simp only [Dr]
  rw [hl6, hl9]
  simp only [List.length_cons, List.length_nil, List.length_replicate]
  rw [show (((0 + 1 + 1 : Nat) : Int) == 2) = true from rfl]
  simp only [Br]
  refine Ix_ci (j := 1) (x := 3) (w := w15.drew) (hs6'.keeps hkd (by simp)) rfl ?_
  simp only [Br, Bool.not_true, Bool.not_false]
  rw [show (((64 : Nat) : Int) == 64) = true from rfl]
  refine Ix_cb (j := 1) (x := 0) (w := w15.drew) (hs9'.keeps hkd (by simp)) rfl ?_
  rw [show (((UInt8.toNat 0 : Nat) : Int) == 0) = true from rfl, show ((0 : Int) == 0) = true from rfl]
  simp only [Br]
  refine BtoS_of (w := w15.drew) (hs10'.keeps hkd (by simp)).rdb ?_
  refine Cl.mono (full_ok w15.drew 9) ?_
  rintro ⟨r24, _⟩ w16 ⟨hs16, hk16, hb16⟩
  simp only at hs16
  refine ⟨BtoS_of ((hs10'.keeps hkd (by simp)).keeps hk16 (by simp)).rdb rfl, ?_⟩
  refine BtoS_of hs16.rdb ?_
  rw [seq_refl]
  exact hR _ _ ⟨rfl, (kall0.trans hkd (by simp)).trans hk16 (by simp)⟩

end Go.Proofs.Ythfgdoiaebfcdaa
