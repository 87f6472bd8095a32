/- The statements' own helpers: full, short, same, live. Conditions: none. -/
import Derived.Test.YthfgdoiaebfcdaaRy
set_option linter.unusedVariables false
set_option linter.unusedSimpArgs false
namespace Go.Proofs.Ythfgdoiaebfcdaa
open Go Go.Sx

def fullB (v : Nat) : List UInt8 := (List.range 64).map fun i => UInt8.ofNat (v + i)
theorem fullB_len (v : Nat) : (fullB v).length = 64 := by simp [fullB]
def fullS (v : Nat) : Sec := ⟨fullB v, fullB_len v⟩

theorem full_ok (w : World) (v : Nat) : Cl Try.prog i_sumpterlaw06_full [.int .u8 (v : Int)] false [.sc .sl] (fun r w' => SlC w' r.1 1 (cB (fullB v)) ∧ Keeps [] w w' ∧ (∀ x ∈ blk r.1, w.heap.size ≤ x)) w := by
  refine Cl_gen fun R hR => ?_
  apply sumpterlaw06_full_call
  unfold sumpterlaw06_full
  refine Mk_of (l := 64) (c := 64) (Nat.le_refl _) (by omega) (by omega) ?_
  intro w1 hs1 hk1 hz1
  rw [show zc Try.prog 5 = #[.int .u8 0] from by kernel_rfl, toList_madeCells_one] at hs1
  have hbk : ∀ x ∈ blk ⟨some ⟨w.heap.size, 0, none⟩, 64, 64⟩, w.heap.size ≤ x := fun x hx => Nat.le_of_eq (blk_sub rfl x hx).symm
  refine ⟨fun n st w' => ∃ (i : Nat) (l : List UInt8), st = ((i : Int), ()) ∧ n = 64 - i ∧ i ≤ 64 ∧ l.length = 64 ∧ l.take i = (fullB v).take i ∧ SlC w' ⟨some ⟨w.heap.size, 0, none⟩, 64, 64⟩ 1 (cB l) ∧ Keeps [] w w', ⟨_, 0, List.replicate 64 0, rfl, rfl, by omega, by simp, by simp, by simpa [cB] using hs1, hk1⟩, ?_⟩
  rintro _ _ w2 ⟨i, l, rfl, rfl, hi, hl, ht, hs2, hk2⟩
  dsimp only
  by_cases hil : i < 64
  · rw [decide_eq_true (by omega)]
    simp only [Br]
    have hval : IntKind.u8.wrap ((v : Int) + IntKind.u8.wrap (i : Int)) = ((UInt8.ofNat (v + i)).toNat : Int) := by
      rw [wrap_u8_nat, Nat.mod_eq_of_lt (by omega), show (v : Int) + (i : Int) = ((v + i : Nat) : Int) from by omega, wrap_u8_nat]
      simp
    rw [hval]
    refine Ix_sb hs2 (by omega) _ ?_
    intro w3 hs3 hk3
    refine ⟨64 - (i + 1), by omega, i + 1, _, by rw [w64_in (by omega) (by omega)]; rfl, rfl, by omega, by simpa using hl, ?_, hs3, hk2.trans hk3 (fun x hx => .inr (hbk x hx))⟩
    apply List.ext_getElem?
    intro k
    have hk := congrArg (fun z : List UInt8 => z[k]?) ht
    simp only [List.getElem?_take] at hk ⊢
    by_cases h1 : k < i
    · rw [if_pos h1, if_pos h1] at hk
      rw [if_pos (by omega), if_pos (by omega), List.getElem?_set_ne (by omega), hk]
    · by_cases h2 : k = i
      · subst h2
        rw [if_pos (by omega), if_pos (by omega), List.getElem?_set_self (by omega)]
        simp [fullB, hil]
      · rw [if_neg (by omega), if_neg (by omega)]
  · rw [decide_eq_false (by omega)]
    obtain rfl : i = 64 := by omega
    have : l = fullB v := by
      rw [List.take_of_length_le (by omega), List.take_of_length_le (by rw [fullB_len]; omega)] at ht
      exact ht
    subst this
    exact hR _ _ ⟨hs2, hk2, hbk⟩

theorem short_ok (w : World) (n : Int) : Cl Try.prog i_sumpterlaw06_short [.int .i64 n] false [.sc (.i .i64)] (fun r w' => ∃ k : Nat, k < 130 ∧ r.1 = (k : Int) ∧ w = w') w := by
  refine Cl_gen fun R hR => ?_
  apply sumpterlaw06_short_call
  unfold sumpterlaw06_short
  obtain ⟨k, hk, he⟩ := wrapMod n 130 (by omega) (by omega)
  refine ⟨by decide, by decide, ?_⟩
  exact hR _ _ ⟨k, hk, he, rfl⟩

/-- All of a slice of bytes is written over. -/
theorem wipe_ok {w : World} {s : Sl} {l : List UInt8} (h : SlC w s 1 (cB l)) (hl : l.length ≤ 140737488355328) {K : Pr} (k : ∀ w', Keeps (blk s) w w' → K w') :
    Lp (σ := Int × Unit) (fun L s' => Br (decide ((s'.1 : Int) < ((s.len : Nat) : Int))) (Ix s s'.1 1 fun a => St a (.int .u8 255) <| L ((w64 (s'.1 + 1)), ())) K) (0, ()) w := by
  have hsl := cB_slen h
  refine ⟨fun n st w' => ∃ (i : Nat) (l' : List UInt8), st = ((i : Int), ()) ∧ n = l.length - i ∧ i ≤ l.length ∧ l'.length = l.length ∧ SlC w' s 1 (cB l') ∧ Keeps (blk s) w w', ⟨_, 0, l, rfl, rfl, by omega, rfl, h, Keeps.refl _ _⟩, ?_⟩
  rintro _ _ w2 ⟨i, l', rfl, rfl, hi, hl', hs2, hk2⟩
  dsimp only
  rw [hsl]
  by_cases hil : i < l.length
  · rw [decide_eq_true (by omega)]
    simp only [Br]
    refine Ix_sb (x := 255) hs2 (by omega) ?_
    intro w3 hs3 hk3
    exact ⟨l.length - (i + 1), by omega, i + 1, _, by rw [w64_in (by omega) (by omega)]; rfl, rfl, by omega, by simpa using hl', hs3, hk2.trans hk3 (fun x hx => .inl hx)⟩
  · rw [decide_eq_false (by omega)]
    exact k _ hk2

theorem mRead_len (s : DS) (i : Int) : (mRead s i).1.length ≤ 64 := by
  unfold mRead
  split
  · rw [(mSec s i.toNat).2]; omega
  · simp

/-- The device and the reference's one that are alike: 'same' says so. -/
theorem same_ok {w : World} {d x : Nat} {H G : Nat → Prop} {s : DS} (hD : DAt w d H s) (hX : XAt w x G s) :
    Cl Try.prog i_sumpterlaw06_same [.pointer (some ⟨d, 0, none⟩), .pointer (some ⟨x, 0, none⟩)] false [.sc .b] (fun r w' => r.1 = true ∧ Keeps [] w w') w := by
  refine Cl_gen fun R hR => ?_
  have hln := hD.ok.ln
  apply sumpterlaw06_same_call
  unfold sumpterlaw06_same
  refine Cl.mono (Waits_ok hD) ?_
  rintro ⟨r1, _⟩ w1 ⟨hs1, hk1, hb1⟩
  have hX1 := hX.keeps0 hk1
  refine Cl.mono (XWaits_ok hX1) ?_
  rintro ⟨r2, _⟩ w2 ⟨hs2, hk2, hb2⟩
  simp only at hs1 hb1 hs2 hb2
  have hs12 := hs1.keeps hk2 (by simp)
  have hk02 : Keeps [] w w2 := hk1.trans hk2 (by simp)
  have hD2 := hD.keeps0 hk02
  have hX2 := hX1.keeps0 hk2
  have hl1 := cI_slen hs12
  have hl2 := cI_slen hs2
  have hwl : (wI s).length ≤ 4096 := by
    have : (mWaits s).length ≤ s.safe.length := by
      unfold mWaits
      exact Nat.le_trans (List.length_filter_le _ _) (by simp)
    simp [wI]; omega
  refine Jp_of (fun st w3 => st = (false, ()) ∧ Keeps [] w2 w3) ?_ ?_
  · intro J hJ
    obtain ⟨ss, ws, hXX⟩ := id hX2
    have hls := cT_slen hXX.sf
    simp only [safeB, List.length_map] at hls
    simp only [Dr, Nn, add_of]
    refine LdB_of (i := 3) (x := s.down) (w := w2.drew) hXX.hd rfl ?_
    have hkd : Keeps [] w2 w2.drew := (Keeps.refl _ _).drew
    refine Cl.mono (Up_ok (hD2.keeps0 hkd)) ?_
    rintro ⟨u, _⟩ _ ⟨hu, rfl⟩
    simp only at hu
    subst hu
    refine ⟨LdB_of (i := 3) (x := s.down) (w := w2.drew) hXX.hd rfl rfl, ?_⟩
    rw [show ((!s.down) == s.down) = false from by cases s.down <;> rfl]
    simp only [Br]
    refine LdL_of (i := 0) (x := ss) (w := w2.drew) hXX.hd rfl ?_
    refine Cl.mono (Sectors_ok (hD2.keeps0 hkd)) ?_
    rintro ⟨u, _⟩ _ ⟨hu, rfl⟩
    simp only at hu
    subst hu
    refine ⟨LdL_of (i := 0) (x := ss) (w := w2.drew) hXX.hd rfl rfl, ?_⟩
    rw [hls, show ((s.safe.length : Int) != ((s.safe.length : Nat) : Int)) = false from by simp]
    simp only [Br]
    refine hJ _ _ ⟨?_, hkd⟩
    rw [hl1, hl2]
    simp
  rintro _ w3 ⟨rfl, hk3⟩
  simp only [Br]
  have hr1r2 : ∀ y ∈ blk r1, y ∉ blk r2 := fun y hy hy' => by have := hs1.lt y hy; have := hb2 y hy'; omega
  have hk03 : Keeps [] w w3 := hk02.trans hk3 (by simp)
  refine ⟨fun n st w' => ∃ (j : Nat) (l : List Int), st = (false, (j : Int), ()) ∧ n = (wI s).length - j ∧ j ≤ (wI s).length ∧ l.length = (wI s).length ∧ (∀ k, j ≤ k → l[k]? = (wI s)[k]?) ∧ SlC w' r1 1 (cI l) ∧ SlC w' r2 1 (cI (wI s)) ∧ Keeps [] w w', ⟨_, 0, wI s, rfl, rfl, by omega, rfl, fun _ _ => rfl, hs12.keeps hk3 (by simp), hs2.keeps hk3 (by simp), hk03⟩, ?_⟩
  rintro _ _ w4 ⟨j, l, rfl, rfl, hj, hl, hlk, hs4, ht4, hk4⟩
  dsimp only
  rw [hl1]
  by_cases hjl : j < (wI s).length
  · rw [decide_eq_true (by omega)]
    obtain ⟨z, hz⟩ : ∃ z, (wI s)[j]? = some z := ⟨_, List.getElem?_eq_getElem hjl⟩
    have hkd : Keeps [] w4 w4.drew := (Keeps.refl _ _).drew
    simp only [Br, Dr]
    refine Ix_ci (w := w4.drew) (x := z) (hs4.keeps hkd (by simp)) (by rw [hlk j (Nat.le_refl _)]; exact hz) ?_
    refine Ix_ci (w := w4.drew) (x := z) (ht4.keeps hkd (by simp)) hz ?_
    rw [show (z != z) = false from by simp]
    simp only [Br]
    refine Ix_si (w := w4.drew) (hs4.keeps hkd (by simp)) (by omega) (-7) ?_
    intro w5 hs5 hk5
    have hk45 : Keeps (blk r1) w4 w5 := (hkd.mono (m' := blk r1) (by simp)).trans hk5 (fun y hy => .inl hy)
    refine ⟨(wI s).length - (j + 1), by omega, j + 1, _, by rw [w64_in (by omega) (by omega)]; rfl, rfl, by omega, by simpa using hl, fun k hk => ?_, hs5, ht4.keeps hk45 (fun y hy hy' => hr1r2 y hy' hy), hk4.trans hk45 (fun y hy => .inr (hb1 y hy))⟩
    rw [List.getElem?_set_ne (by omega)]
    exact hlk k (by omega)
  · rw [decide_eq_false (by omega)]
    simp only [Br]
    refine ⟨fun n st w' => ∃ (i : Nat), st = (false, (i : Int) - 1, ()) ∧ n = s.safe.length + 2 - i ∧ i ≤ s.safe.length + 2 ∧ Keeps [] w w', ⟨_, 0, rfl, rfl, by omega, hk4⟩, ?_⟩
    rintro _ _ w5 ⟨i, rfl, rfl, hi, hk5⟩
    have hD5 := hD.keeps0 hk5
    have hX5 := hX.keeps0 hk5
    obtain ⟨ss, ws, hXX⟩ := id hX5
    have hls := cT_slen hXX.sf
    simp only [safeB, List.length_map] at hls
    dsimp only
    simp only [Nn, add_of]
    refine LdL_of (i := 0) (x := ss) hXX.hd rfl ?_
    rw [hls]
    by_cases hil : i < s.safe.length + 2
    · rw [decide_eq_true (by omega)]
      refine Cl.mono (Read_ok hD5 ((i : Int) - 1)) ?_
      rintro ⟨ra, ea, _⟩ w6 ⟨hea, hsa, hka, hba⟩
      simp only at hea hsa hba
      subst hea
      refine Cl.mono (XRead_ok (hX5.keeps0 hka) ((i : Int) - 1)) ?_
      rintro ⟨rb, eb, _⟩ w7 ⟨heb, hsb, hkb, hbb⟩
      simp only at heb hsb hbb
      subst heb
      have hsa7 := hsa.keeps hkb (by simp)
      have hk7 : Keeps [] w w7 := (hk5.trans hka (by simp)).trans hkb (by simp)
      refine Jp_of (fun st w8 => st = (false, ()) ∧ w7 = w8) ?_ ?_
      · intro J hJ
        refine BtoS_of hsa7.rdb ?_
        refine BtoS_of hsb ?_
        rw [seq_refl]
        refine hJ _ _ ⟨?_, rfl⟩
        simp
      · rintro _ _ ⟨rfl, rfl⟩
        simp only [Br]
        have hml := mRead_len s ((i : Int) - 1)
        refine wipe_ok hsa7 (by omega) ?_
        intro w8 hk8
        have h58 := hk5.size
        refine ⟨s.safe.length + 2 - (i + 1), by omega, i + 1, ?_, rfl, by omega, hk7.trans hk8 (fun y hy => .inr (by have := hba y hy; omega))⟩
        rw [w64_in (by omega) (by omega)]
        congr 2
        omega
    · rw [decide_eq_false (by omega)]
      exact hR _ _ ⟨rfl, hk5⟩

end Go.Proofs.Ythfgdoiaebfcdaa
