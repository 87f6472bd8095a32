/- The range of the keys under some parts, of layer 3 and of its reference. Conditions: none. -/
import Derived.Test.YthgiocimimdbcaaDoorTr
set_option linter.unusedVariables false
set_option linter.unusedSimpArgs false
namespace Go.Proofs.YthgiocimimdbcaaDoor
open Go Go.Sx Go.RowKit

def un (l : List Bs) : Bs × Bs × Int := if (jn l).2 ≠ 0 then ([], [], (jn l).2) else ((jn l).1, (jn l).1.dropLast ++ [2], 0)

theorem ecs_end : ∀ {l : List Bs}, l ≠ [] → ∃ q, ecs l = q ++ [1]
  | [], h => absurd rfl h
  | [p], _ => ⟨esc p ++ [0], by simp [ecs, ec]⟩
  | p :: q :: l, _ => by
    obtain ⟨x, hx⟩ := ecs_end (l := q :: l) (by simp)
    exact ⟨ec p ++ x, by rw [ecs_cons, hx, List.append_assoc]⟩
theorem jn_end {l : List Bs} (h : (jn l).2 = 0) : (∃ q, (jn l).1 = q ++ [1]) ∧ (jn l).1.length ≤ 12 := by
  unfold jn at h ⊢
  split at h
  · simp at h
  · rename_i h1
    split at h
    · simp at h
    · rename_i h2
      rw [if_neg h1, if_neg h2]
      exact ⟨ecs_end (by rintro rfl; simp at h1), by simp only; omega⟩

theorem Trim_ok {w : World} (q : Bs) (hq : q.length ≤ 100) : Cl Tryd.prog 27 [.string (BA (q ++ [1])), .string (BA [1])] false [.sc .s] (fun r w' => r.1 = BA q ∧ w = w') w := by
  refine Cl_gen fun R hR => ?_
  apply strings_TrimSuffix_call
  unfold strings_TrimSuffix
  apply internal_stringslite_TrimSuffix_call
  unfold internal_stringslite_TrimSuffix
  have e : w64 (((BA (q ++ [1])).size : Int) - ((BA [1]).size : Int)) = (q.length : Int) := by
    rw [BA_size, BA_size, List.length_append]
    simp only [List.length_cons, List.length_nil]
    rw [show (((q.length + (0 + 1) : Nat) : Int) - ((0 + 1 : Nat) : Int)) = (q.length : Int) by omega]
    exact w64_nat (by omega)
  apply internal_stringslite_HasSuffix_call
  unfold internal_stringslite_HasSuffix
  rw [e]
  rw [decide_eq_true (by rw [BA_size, BA_size, List.length_append]; simp; omega)]
  simp only [Br, Req]
  refine ⟨⟨by omega, by rw [BA_size, List.length_append]; simp; omega⟩, ?_⟩
  rw [Int.toNat_natCast, BA_extract, seq_BA, BA_size]
  have e2 : ((q ++ [1]).drop q.length).take ((q ++ [1]).length - q.length) = [1] := by simp
  rw [e2, decide_eq_true rfl]
  simp only
  refine ⟨⟨by omega, by rw [List.length_append]; simp; omega⟩, ?_⟩
  refine hR _ _ ⟨?_, rfl⟩
  show (BA (q ++ [1])).extract 0 q.length = BA q
  rw [BA_extract]
  simp

theorem Under_ok {w : World} {s : Sl} {l : List Bs} {m : Int} (h : Tx w s l) (hz : Sz l) (g : GM m w) :
    Cl Tryd.prog 15 [.slice s.p s.len s.cap] true [.ag [.s, .s], .sc (.i .i64)] (fun r w' => r.1 = (BA (un l).1, BA (un l).2.1, ()) ∧ r.2.1 = (un l).2.2 ∧ Keeps [] w w') w := by
  refine Cl_gen fun R hR => ?_
  apply tuple_Under_call
  unfold tuple_Under
  simp only [sx]
  generalize hq : w.heap.size = q
  generalize hw1 : w.alloc (.cells #[.string (BA []), .string (BA [])] 35) = w1
  have hk1 : Keeps [] w w1 := by subst hw1; exact (Keeps.refl [] w).alloc _
  have hq1 : w1.heap[q]? = some (.cells #[.string (BA []), .string (BA [])] 35) := by subst hw1 hq; exact hp_alloc_new w _
  refine Cl.mono (Join_ok (h.keep hk1) hz (g.keep hk1)) ?_
  rintro r2 w2 ⟨hr1, hr2, hk2⟩
  have hq2 := hk2.at hq1 (by simp)
  have hq2l := hp_lt hq2
  have hk02 := hk1.trans hk2 (by simp)
  rw [hr1, hr2]
  have fin : ∀ (a b : ByteArray) (e : Int), (BA (un l).1 = a ∧ BA (un l).2.1 = b ∧ (un l).2.2 = e) → ∀ w3, Keeps [] w w3 → R ((a, b, ()), e, ()) w3 := by
    rintro a b e ⟨rfl, rfl, rfl⟩ w3 hk3
    exact hR _ _ ⟨rfl, rfl, hk3⟩
  refine Br_of (fun hb => ?_) (fun hb => ?_)
  · have hb : (jn l).2 ≠ 0 := by simpa using hb
    simp (disch := ((try simp only [sx]); first | done | omega)) only [sx, sxc, sxl, hq2, Nat.zero_add, Nat.reduceAdd, Nat.reduceLT, true_and]
    refine fin _ _ _ ⟨?_, ?_, ?_⟩ _ (((hk02.setObjW (.inr (by omega)) _)))
    all_goals (unfold un; rw [if_pos hb])
  · have hb : (jn l).2 = 0 := by simpa using hb
    obtain ⟨⟨x, hx⟩, hlen⟩ := jn_end hb
    rw [hx]
    have hxl : x.length ≤ 12 := by rw [hx, List.length_append] at hlen; omega
    refine Cl.mono (Trim_ok x (by omega)) ?_
    rintro r5 _ ⟨hr5, rfl⟩
    rw [hr5, BA_app]
    refine ⟨by rw [BA_size, BA_size]; simp; omega, ?_⟩
    simp (disch := ((try simp only [sx]); first | done | omega)) only [sx, sxc, sxl, hq2, Nat.zero_add, Nat.reduceAdd, Nat.reduceLT, true_and]
    refine fin _ _ _ ⟨?_, ?_, ?_⟩ _ (((hk02.setObjW (.inr (by omega)) _)))
    all_goals (unfold un; rw [if_neg (by simpa using hb), hx])
    simp

theorem rUnder_ok {w : World} {s : Sl} {l : List Bs} (h : Tx w s l) (hz : Sz l) :
    Cl Tryd.prog 16 [.slice s.p s.len s.cap] true [.ag [.s, .s], .sc (.i .i64)] (fun r w' => r.1 = (BA (un l).1, BA (un l).2.1, ()) ∧ r.2.1 = (un l).2.2 ∧ Keeps [] w w') w := by
  refine Cl_gen fun R hR => ?_
  apply sumpterref03_Under_call
  unfold sumpterref03_Under
  simp only [sx]
  generalize hq : w.heap.size = q
  generalize hw1 : w.alloc (.cells #[.string (BA []), .string (BA [])] 35) = w1
  have hk1 : Keeps [] w w1 := by subst hw1; exact (Keeps.refl [] w).alloc _
  have hq1 : w1.heap[q]? = some (.cells #[.string (BA []), .string (BA [])] 35) := by subst hw1 hq; exact hp_alloc_new w _
  refine Cl.mono (rJoin_ok (h.keep hk1) hz) ?_
  rintro r2 w2 ⟨hr1, hr2, hk2⟩
  have hq2 := hk2.at hq1 (by simp)
  have hq2l := hp_lt hq2
  have hk02 := hk1.trans hk2 (by simp)
  rw [hr1, hr2]
  have fin : ∀ (a b : ByteArray) (e : Int), (BA (un l).1 = a ∧ BA (un l).2.1 = b ∧ (un l).2.2 = e) → ∀ w3, Keeps [] w w3 → R ((a, b, ()), e, ()) w3 := by
    rintro a b e ⟨rfl, rfl, rfl⟩ w3 hk3
    exact hR _ _ ⟨rfl, rfl, hk3⟩
  refine Br_of (fun hb => ?_) (fun hb => ?_)
  · have hb : (jn l).2 ≠ 0 := by simpa using hb
    simp (disch := ((try simp only [sx]); first | done | omega)) only [sx, sxc, sxl, hq2, Nat.zero_add, Nat.reduceAdd, Nat.reduceLT, true_and]
    refine fin _ _ _ ⟨?_, ?_, ?_⟩ _ (((hk02.setObjW (.inr (by omega)) _)))
    all_goals (unfold un; rw [if_pos hb])
  · have hb : (jn l).2 = 0 := by simpa using hb
    obtain ⟨⟨x, hx⟩, hlen⟩ := jn_end hb
    rw [hx]
    have hxl : x.length ≤ 12 := by rw [hx, List.length_append] at hlen; omega
    have e : w64 (((BA (x ++ [1])).size : Int) - 1) = (x.length : Int) := by
      rw [BA_size, List.length_append]
      simp only [List.length_cons, List.length_nil]
      rw [show (((x.length + (0 + 1) : Nat) : Int) - 1) = (x.length : Int) by omega]
      exact w64_nat (by omega)
    have e3 : (BA (x ++ [1])).extract 0 (Int.toNat (x.length : Int)) = BA x := by rw [Int.toNat_natCast, BA_extract]; simp
    rw [e, e3, BA_app]
    refine ⟨⟨by omega, by rw [BA_size, List.length_append]; simp; omega⟩, by rw [BA_size, BA_size]; simp; omega, ?_⟩
    simp (disch := ((try simp only [sx]); first | done | omega)) only [sx, sxc, sxl, hq2, Nat.zero_add, Nat.reduceAdd, Nat.reduceLT, true_and]
    refine fin _ _ _ ⟨?_, ?_, ?_⟩ _ (((hk02.setObjW (.inr (by omega)) _)))
    all_goals (unfold un; rw [if_neg (by simpa using hb), hx])
    simp

end Go.Proofs.YthgiocimimdbcaaDoor
