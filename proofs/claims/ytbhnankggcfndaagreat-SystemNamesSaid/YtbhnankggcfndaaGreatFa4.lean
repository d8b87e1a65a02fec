/- Words of my own, joined: part 4. -/
import Derived.Test.YtbhnankggcfndaaGreatFa3
import Derived.Shelf.SlSortCmp.NoneTotal
import Derived.Test.YtbhnankggcfndaaGreatProg
import Derived.Ground.SlsfProg
import Derived.KernelRfl
import Derived.DeepKeys5
namespace Go.Proofs.YtbhnankggcfndaaGreat
open El
set_option maxRecDepth 10000
set_option maxHeartbeats 4000000
def encL (l : List Pl) : C := .sl 65 1 l.length false (l.map encP)
theorem lt_P {l : List Pl} {i : Nat} (h : i < l.length) : ((l.map encP).drop (i * 1))[0]? = some (encP (l.getD i [])) := map_at [] h
theorem pvB_at {p : Pl} (h : pvB p = true) {i : Nat} (hi : i < p.length) : okAt p i = true := List.all_eq_true.1 h i (List.mem_range.2 hi)
theorem pm_of_valid {p : Pl} (h : pvB p = true) (hl : p.length ≤ 1000000) : Pm p := by
  refine ⟨hl, fun t ht => ?_⟩
  obtain ⟨i, hi, rfl⟩ := List.getElem_of_mem ht
  have := pvB_at h hi
  unfold okAt at this
  simp only [Bool.and_eq_true] at this
  have h2 := mvB_iff.1 this.1.2
  rwa [List.getD_eq_getElem?_getD, List.getElem?_eq_getElem hi] at h2
/-- Valid, of at most a degree, in the variables below n. -/
def wiB (p : Pl) (n : Nat) (d : Int) : Bool := pvB p && decide (degP p ≤ d) && decide (useP p < 2 ^ n)
theorem wShr8 {x n : Nat} (hx : x < 256) : (x : Int).fdiv (2 ^ (min ((n : Nat) : Int).toNat IntKind.u8.bits)) = ((x / 2 ^ n : Nat) : Int) := by
  rw [Int.toNat_natCast, Int.fdiv_eq_ediv_of_nonneg _ (Int.le_of_lt (Int.pow_pos (by decide)))]
  have e : x / 2 ^ (min n IntKind.u8.bits) = x / 2 ^ n := by
    rcases Nat.le_total n 8 with h | h
    · rw [show min n IntKind.u8.bits = n from Nat.min_eq_left h]
    · rw [show min n IntKind.u8.bits = 8 from Nat.min_eq_right h, Nat.div_eq_of_lt hx, Nat.div_eq_of_lt (Nat.lt_of_lt_of_le hx (Nat.pow_le_pow_right (n := 2) (by decide) h))]
  rw [← e]; simp
theorem shr_zero {x n : Nat} : ((((x / 2 ^ n : Nat) : Int)) == 0) = decide (x < 2 ^ n) := by
  rw [show ((((x / 2 ^ n : Nat) : Int)) == 0) = decide (((x / 2 ^ n : Nat) : Int) = 0) from rfl]
  congr 1
  apply propext
  rw [Int.natCast_eq_zero, Nat.div_eq_zero_iff]
  constructor
  · rintro (h | h)
    · exact absurd h (Nat.ne_of_gt (Nat.pow_pos (by decide)))
    · exact h
  · exact .inr
theorem within_spec (p : Pl) (n : Nat) (hs : Ps p) : FSpec Tryz.prog 44 [encP p, .v (.int .i64 n)] (.v (.bool (wiB p n 12))) := by
  have hu := useTo_lt p p.length
  refine FSpec.intro ok [] Tryz.func44 rfl rfl (m := 17) rfl ?_
  conv => whnf
  refine ⟨_, _, pvalid_spec p hs, SubL.le (by repeat' (first | exact rfl | exact trivial | exact ⟨_, rfl⟩ | exact ⟨rfl, rfl, rfl⟩ | refine And.intro ?_ ?_)), ?_⟩
  conv => whnf
  cases hv : pvB p with
  | false =>
    conv => whnf
    rw [show wiB p n 12 = false by unfold wiB; rw [hv]; rfl]
    repeat' (first | exact rfl | exact trivial | exact ⟨_, rfl⟩ | exact ⟨rfl, rfl, rfl⟩ | refine And.intro ?_ ?_)
  | true =>
    have hm := pm_of_valid hv hs.1
    conv => whnf
    refine ⟨_, _, pdegree_spec p hm, SubL.le (by repeat' (first | exact rfl | exact trivial | exact ⟨_, rfl⟩ | exact ⟨rfl, rfl, rfl⟩ | refine And.intro ?_ ?_)), ?_⟩
    conv => whnf
    refine bcase_intro (fun h => ?_) (fun h => ?_)
    · conv => whnf
      refine ⟨_, _, puses_spec p hs.1, SubL.le (by repeat' (first | exact rfl | exact trivial | exact ⟨_, rfl⟩ | exact ⟨rfl, rfl, rfl⟩ | refine And.intro ?_ ?_)), ?_⟩
      conv => whnf
      refine ⟨by omega, _, wShr8 hu, ?_⟩
      conv => whnf
      rw [shr_zero, show wiB p n 12 = decide (useP p < 2 ^ n) by unfold wiB; rw [hv, h]; rfl]
      repeat' (first | exact rfl | exact trivial | exact ⟨_, rfl⟩ | exact ⟨rfl, rfl, rfl⟩ | refine And.intro ?_ ?_)
    · conv => whnf
      rw [show wiB p n 12 = false by unfold wiB; rw [hv, h]; rfl]
      repeat' (first | exact rfl | exact trivial | exact ⟨_, rfl⟩ | exact ⟨rfl, rfl, rfl⟩ | refine And.intro ?_ ?_)
theorem fit_spec (p : Pl) (n : Nat) (d : Int) (hs : Ps p) : FSpec Tryz.prog 103 [.agg [.v (.int .i64 n)], encP p, .v (.int .i64 d)] (.v (.bool (wiB p n d))) := by
  have hu := useTo_lt p p.length
  refine FSpec.intro ok [] Tryz.func103 rfl rfl (m := 20) rfl ?_
  conv => whnf
  repeat (refine anyA (by decide +kernel) ?_; conv => whnf)
  refine ⟨_, _, pvalid_spec p hs, SubL.le (by repeat' (first | exact rfl | exact trivial | exact ⟨_, rfl⟩ | exact ⟨rfl, rfl, rfl⟩ | refine And.intro ?_ ?_)), ?_⟩
  conv => whnf
  cases hv : pvB p with
  | false =>
    conv => whnf
    skip
    rw [show wiB p n d = false by unfold wiB; rw [hv]; rfl]
    repeat' (first | exact rfl | exact trivial | exact ⟨_, rfl⟩ | exact ⟨rfl, rfl, rfl⟩ | refine And.intro ?_ ?_)
  | true =>
    have hm := pm_of_valid hv hs.1
    conv => whnf
    skip
    refine ⟨_, _, puses_spec p hs.1, SubL.le (by repeat' (first | exact rfl | exact trivial | exact ⟨_, rfl⟩ | exact ⟨rfl, rfl, rfl⟩ | refine And.intro ?_ ?_)), ?_⟩
    conv => whnf
    repeat ((first | refine ⟨by omega, _, wShr8 hu, ?_⟩ | refine ⟨_, (rfl : (_ : List C)[_]? = some _), ?_⟩ | refine And.intro (by decide : (_ : Nat) ≠ 0) ?_); conv => whnf)
    rw [shr_zero]
    refine bcase_intro (fun h => ?_) (fun h => ?_)
    · conv => whnf
      refine ⟨_, _, pdegree_spec p hm, SubL.le (by repeat' (first | exact rfl | exact trivial | exact ⟨_, rfl⟩ | exact ⟨rfl, rfl, rfl⟩ | refine And.intro ?_ ?_)), ?_⟩
      conv => whnf
      rw [show wiB p n d = decide (degP p ≤ d) by unfold wiB; rw [hv, h]; simp]
      repeat' (first | exact rfl | exact trivial | exact ⟨_, rfl⟩ | exact ⟨rfl, rfl, rfl⟩ | refine And.intro ?_ ?_)
    · conv => whnf
      rw [show wiB p n d = false by unfold wiB; rw [hv, h]; simp]
      repeat' (first | exact rfl | exact trivial | exact ⟨_, rfl⟩ | exact ⟨rfl, rfl, rfl⟩ | refine And.intro ?_ ?_)
theorem wShlI {n : Nat} (h : n ≤ 4) : IntKind.i64.wrap (1 * 2 ^ (min ((n : Nat) : Int).toNat IntKind.i64.bits)) = ((2 ^ n : Nat) : Int) := by
  rw [Int.toNat_natCast, show min n IntKind.i64.bits = n from Nat.min_eq_left (by show n ≤ 64; omega), Int.one_mul]
  have h2 : 2 ^ n ≤ 16 := Nat.pow_le_pow_right (n := 2) (by decide) h
  have : (2 : Int) ^ n = ((2 ^ n : Nat) : Int) := by simp
  rw [this]
  generalize 2 ^ n = z at h2 ⊢
  exact wI rfl (by omega) (by omega)
theorem within32_ref (p : Pl) (n : Nat) (hn : n ≤ 4) (hs : Ps p) : FSpec Tryz.prog 99 [encP p, .v (.int .i64 n)] (.v (.bool (wiB p n 12))) := by
  have hu : useP p < 256 := useTo_lt p p.length
  refine FSpec.intro ok [] Tryz.func99 rfl rfl (m := 19) rfl ?_
  conv => whnf
  refine ⟨_, _, pvalid_ref p hs, SubL.le (by repeat' (first | exact rfl | exact trivial | exact ⟨_, rfl⟩ | exact ⟨rfl, rfl, rfl⟩ | refine And.intro ?_ ?_)), ?_⟩
  conv => whnf
  cases hv : pvB p with
  | false =>
    conv => whnf
    rw [show wiB p n 12 = false by unfold wiB; rw [hv]; rfl]
    repeat' (first | exact rfl | exact trivial | exact ⟨_, rfl⟩ | exact ⟨rfl, rfl, rfl⟩ | refine And.intro ?_ ?_)
  | true =>
    have hm := pm_of_valid hv hs.1
    conv => whnf
    refine ⟨_, _, pdegree_ref p hm, SubL.le (by repeat' (first | exact rfl | exact trivial | exact ⟨_, rfl⟩ | exact ⟨rfl, rfl, rfl⟩ | refine And.intro ?_ ?_)), ?_⟩
    conv => whnf
    refine bcase_intro (fun h => ?_) (fun h => ?_)
    · conv => whnf
      refine ⟨_, _, puses_ref p hs.1, SubL.le (by repeat' (first | exact rfl | exact trivial | exact ⟨_, rfl⟩ | exact ⟨rfl, rfl, rfl⟩ | refine And.intro ?_ ?_)), ?_⟩
      conv => whnf
      refine ⟨((useP p : Nat) : Int), wI rfl (by omega) (by omega), ?_⟩
      conv => whnf
      repeat ((first | refine ⟨by omega, _, wShlI hn, ?_⟩ | refine ⟨_, wU (by omega), ?_⟩); conv => whnf)
      rw [show decide (((useP p : Nat) : Int) < ((2 ^ n : Nat) : Int)) = decide (useP p < 2 ^ n) by congr 1; apply propext; omega, show wiB p n 12 = decide (useP p < 2 ^ n) by unfold wiB; rw [hv, h]; rfl]
      repeat' (first | exact rfl | exact trivial | exact ⟨_, rfl⟩ | exact ⟨rfl, rfl, rfl⟩ | refine And.intro ?_ ?_)
    · conv => whnf
      rw [show wiB p n 12 = false by unfold wiB; rw [hv, h]; rfl]
      repeat' (first | exact rfl | exact trivial | exact ⟨_, rfl⟩ | exact ⟨rfl, rfl, rfl⟩ | refine And.intro ?_ ?_)
theorem within29_ref (p : Pl) (n : Nat) (d : Int) (hn : n ≤ 4) (hs : Ps p) : FSpec Tryz.prog 197 [encP p, .v (.int .i64 n), .v (.int .i64 d)] (.v (.bool (wiB p n d))) := by
  have hu : useP p < 256 := useTo_lt p p.length
  refine FSpec.intro ok [] Tryz.func197 rfl rfl (m := 21) rfl ?_
  conv => whnf
  refine ⟨_, _, pvalid_ref p hs, SubL.le (by repeat' (first | exact rfl | exact trivial | exact ⟨_, rfl⟩ | exact ⟨rfl, rfl, rfl⟩ | refine And.intro ?_ ?_)), ?_⟩
  conv => whnf
  cases hv : pvB p with
  | false =>
    conv => whnf
    rw [show wiB p n d = false by unfold wiB; rw [hv]; rfl]
    repeat' (first | exact rfl | exact trivial | exact ⟨_, rfl⟩ | exact ⟨rfl, rfl, rfl⟩ | refine And.intro ?_ ?_)
  | true =>
    have hm := pm_of_valid hv hs.1
    conv => whnf
    refine ⟨_, _, puses_ref p hs.1, SubL.le (by repeat' (first | exact rfl | exact trivial | exact ⟨_, rfl⟩ | exact ⟨rfl, rfl, rfl⟩ | refine And.intro ?_ ?_)), ?_⟩
    conv => whnf
    refine ⟨((useP p : Nat) : Int), wI rfl (by omega) (by omega), ?_⟩
    conv => whnf
    repeat ((first | refine ⟨by omega, _, wShlI hn, ?_⟩ | refine ⟨_, wU (by omega), ?_⟩); conv => whnf)
    rw [show decide (((useP p : Nat) : Int) < ((2 ^ n : Nat) : Int)) = decide (useP p < 2 ^ n) by congr 1; apply propext; omega]
    refine bcase_intro (fun h => ?_) (fun h => ?_)
    · conv => whnf
      refine ⟨_, _, pdegree_ref p hm, SubL.le (by repeat' (first | exact rfl | exact trivial | exact ⟨_, rfl⟩ | exact ⟨rfl, rfl, rfl⟩ | refine And.intro ?_ ?_)), ?_⟩
      conv => whnf
      rw [show wiB p n d = decide (degP p ≤ d) by unfold wiB; rw [hv, h]; simp]
      repeat' (first | exact rfl | exact trivial | exact ⟨_, rfl⟩ | exact ⟨rfl, rfl, rfl⟩ | refine And.intro ?_ ?_)
    · conv => whnf
      rw [show wiB p n d = false by unfold wiB; rw [hv, h]; simp]
      repeat' (first | exact rfl | exact trivial | exact ⟨_, rfl⟩ | exact ⟨rfl, rfl, rfl⟩ | refine And.intro ?_ ?_)
/-! ### Polynomials that are equal, for the reference -/
theorem mo_keyM {m : Mo} (h : Mv m) : MoKv (moV m) := mo_key m (fun i => by have := h i; omega)
theorem sameterm_ref (a b : Tm) (ha' : Qs a.1) (ha : Mv a.2) (hb : Mv b.2) : FSpec Tryz.prog 78 [encT a, encT b] (.v (.bool (decide (a = b)))) := by
  refine FSpec.intro ok [] Tryz.func78 rfl rfl (m := 15) rfl ?_
  conv => whnf
  repeat ((first | refine And.intro (by decide : (_ : Nat) ≠ 0) ?_ | refine ⟨_, rfl, rfl, ?_⟩); conv => whnf)
  refine ⟨moV a.2, moV b.2, MoKv, ⟨rfl, rfl, mono_eq, mo_keyM ha, mo_keyM hb, _, _, rfl, rfl⟩, fun r hr => ?_⟩
  by_cases h : a.2 = b.2
  · have : r = true := hr.2 (by rw [h])
    subst this
    conv => whnf
    repeat ((first | refine And.intro (by decide : (_ : Nat) ≠ 0) ?_ | refine ⟨_, rfl, rfl, ?_⟩); conv => whnf)
    refine ⟨_, _, qsame_ref a.1 b.1 ha', SubL.le (by repeat' (first | exact rfl | exact trivial | exact ⟨_, rfl⟩ | exact ⟨rfl, rfl, rfl⟩ | refine And.intro ?_ ?_)), ?_⟩
    conv => whnf
    skip
    have e : decide (a = b) = decide (a.1 = b.1) := by
      rcases a with ⟨x, y⟩
      rcases b with ⟨x', y'⟩
      dsimp only at h
      subst h
      simp
    rw [e]
  · have : r = false := by
      cases r
      · rfl
      · exact absurd (moV_inj (hr.1 rfl)) h
    subst this
    conv => whnf
    have e : decide (a = b) = false := by
      rw [decide_eq_false_iff_not]
      intro h'
      exact h (by rw [h'])
    rw [e]
theorem same6_ref (p q : Pl) (hp : Ps p) (hpm : Pm p) (hqm : Pm q) : FSpec Tryz.prog 36 [encP p, encP q] (.v (.bool (decide (p = q)))) := by
  have hlen := hp.1
  have hlen2 := hqm.1
  refine FSpec.intro ok [] Tryz.func36 rfl rfl (m := 25) rfl ?_
  conv => whnf
  skip
  refine bcase_intro (fun h => ?_) (fun h => ?_)
  · have h : p.length ≠ q.length := by first | simpa [-List.getD_eq_getElem?_getD] using h | (simp [-List.getD_eq_getElem?_getD] at h; omega)
    rw [show decide (p = q) = false from by rw [decide_eq_false_iff_not]; intro e; exact h (by rw [e])]
    conv => whnf
    repeat' (first | exact rfl | exact trivial | exact ⟨_, rfl⟩ | exact ⟨rfl, rfl, rfl⟩ | refine And.intro ?_ ?_)
  · have h : p.length = q.length := by first | simpa [-List.getD_eq_getElem?_getD] using h | (simp [-List.getD_eq_getElem?_getD] at h; omega)
    conv => whnf
    refine ⟨{ i : Nat // i ≤ p.length ∧ ∀ j, j < i → p.getD j dT = q.getD j dT }, fun q_ => match q_ with | ⟨i, _⟩ => ⟨[(5, .v (.int .i64 i))], []⟩, ⟨[false, false, false, false, true, true, false, false, false, false, false, true, true, true, true, true, true, true, true, true, true, true, true, true, true, true, true], [], []⟩, fun q_ => match q_ with | ⟨i, _⟩ => p.length - i, ⟨⟨0, Nat.zero_le _, fun _ h => absurd h (Nat.not_lt_zero _)⟩, [], ?_⟩, ?_⟩
    · conv => whnf
      repeat' (first | exact rfl | exact trivial | exact ⟨_, rfl⟩ | exact ⟨rfl, rfl, rfl⟩ | refine And.intro ?_ ?_)
    · rintro ⟨i, hi, he⟩
      conv => whnf
      refine bcase_intro (fun h3 => ?_) (fun h3 => ?_)
      · have h3 : i < p.length := by first | simpa [-List.getD_eq_getElem?_getD] using h3 | (simp [-List.getD_eq_getElem?_getD] at h3; omega)
        conv => whnf
        repeat ((first | refine ⟨_, pt_T h3, rfl, ?_⟩ | refine ⟨_, pt_T (p := q) (by omega : i < q.length), rfl, ?_⟩ | refine ⟨_, ⟨rfl, by omega⟩, ?_⟩ | refine anyA (by decide +kernel) ?_); conv => whnf)
        refine ⟨_, _, sameterm_ref (p.getD i dT) (q.getD i dT) (hp.at h3) (hpm.2 _ (by rw [List.getD_eq_getElem?_getD, List.getElem?_eq_getElem h3]; exact List.getElem_mem _)) (hqm.2 _ (by rw [List.getD_eq_getElem?_getD, List.getElem?_eq_getElem (by omega : i < q.length)]; exact List.getElem_mem _)), SubL.le (by repeat' (first | exact rfl | exact trivial | exact ⟨_, rfl⟩ | exact ⟨rfl, rfl, rfl⟩ | refine And.intro ?_ ?_)), ?_⟩
        conv => whnf
        skip
        refine bcase_intro (fun h4 => ?_) (fun h4 => ?_)
        · have h4 : p.getD i dT ≠ q.getD i dT := by first | simpa [-List.getD_eq_getElem?_getD] using h4 | (simp [-List.getD_eq_getElem?_getD] at h4; omega)
          rw [show decide (p = q) = false from by rw [decide_eq_false_iff_not]; intro e; exact h4 (by rw [e])]
          conv => whnf
          repeat' (first | exact rfl | exact trivial | exact ⟨_, rfl⟩ | exact ⟨rfl, rfl, rfl⟩ | refine And.intro ?_ ?_)
        · have h4 : p.getD i dT = q.getD i dT := by first | simpa [-List.getD_eq_getElem?_getD] using h4 | (simp [-List.getD_eq_getElem?_getD] at h4; omega)
          conv => whnf
          repeat (refine ⟨_, wAdd1 (by omega), ?_⟩; conv => whnf)
          have he2 : ∀ j, j < i + 1 → p.getD j dT = q.getD j dT := by
            intro j hj
            rcases Nat.lt_succ_iff_lt_or_eq.1 hj with h5 | h5
            · exact he j h5
            · subst h5; exact h4
          refine ⟨⟨i + 1, by omega, he2⟩, [], by dsimp only; omega, ?_⟩
          conv => whnf
          repeat' (first | exact rfl | exact trivial | exact ⟨_, rfl⟩ | exact ⟨rfl, rfl, rfl⟩ | refine And.intro ?_ ?_)
      · have h3 : p.length ≤ i := by first | simpa [-List.getD_eq_getElem?_getD] using h3 | (simp [-List.getD_eq_getElem?_getD] at h3; omega)
        have e : p = q := by
          apply List.ext_getElem h
          intro j h1 h2
          have := he j (by omega)
          rw [List.getD_eq_getElem?_getD, List.getD_eq_getElem?_getD, List.getElem?_eq_getElem h1, List.getElem?_eq_getElem h2] at this
          exact this
        rw [show decide (p = q) = true from by rw [decide_eq_true_iff]; exact e]
        conv => whnf
        repeat' (first | exact rfl | exact trivial | exact ⟨_, rfl⟩ | exact ⟨rfl, rfl, rfl⟩ | refine And.intro ?_ ?_)
end Go.Proofs.YtbhnankggcfndaaGreat
namespace El
open Go Go.RowKit Go.Sort Go.Shelf Go.Lib Go.Proofs
/-- A world that has grown is the former one, after some draws, with some blocks. -/
theorem Below.grow {W w' : World} (h : Below W.heap.size W w') : ∃ q os, w' = Sort.grow (W.drewN q) os := by
  refine ⟨w'.drawn - W.drawn, w'.heap.extract W.heap.size w'.heap.size, ?_⟩
  have hd : W.drawn + (w'.drawn - W.drawn) = w'.drawn := by have := h.drawn; omega
  have hh : W.heap ++ w'.heap.extract W.heap.size w'.heap.size = w'.heap := by
    apply Array.ext_getElem?
    intro i
    rcases Nat.lt_or_ge i W.heap.size with hi | hi
    · rw [Array.getElem?_append_left hi, h.block i hi]
    · rw [Array.getElem?_append_right hi, Array.getElem?_extract]
      split
      · rename_i h2; congr 1; omega
      · rename_i h2
        rw [Array.getElem?_eq_none]
        have := h.size
        omega
  obtain ⟨heap, tape, drawn, os, output⟩ := w'
  simp only [Sort.grow, World.drewN]
  have e1 := h.os; have e2 := h.tape; have e3 := h.output
  simp only at e1 e2 e3 hh hd
  rw [hd, hh, ← e1, ← e2, ← e3]
theorem below_grow (w : World) (q : Nat) (os : Array Obj) : Below w.heap.size w (Sort.grow (w.drewN q) os) := by
  refine ⟨rfl, rfl, rfl, by simp [Sort.grow, World.drewN], fun k hk => ?_, by simp [Sort.grow, World.drewN]⟩
  simp only [Sort.grow, World.drewN]
  rw [Array.getElem?_append_left hk]
/-- The row's block rewritten. -/
theorem putRow_block {w : World} {blk : Nat} {F arr : Array Value} {E : Nat} (h : w.heap[blk]? = some (.cells arr E (0, 0))) (hF : F.size ≤ arr.size) :
    (putRow id w blk 0 F).heap[blk]? = some (.cells (F.toList ++ arr.toList.drop F.size).toArray E (0, 0)) ∧ ∀ x, x ≠ blk → (putRow id w blk 0 F).heap[x]? = w.heap[x]? := by
  constructor
  · simp only [putRow, mapBlock, Array.getElem?_modify, if_true, h, Option.map_some, onCells]
    congr 2
    apply Array.ext_getElem?
    intro i
    simp only [putCells, Array.getElem?_mapIdx, List.getElem?_toArray]
    rcases Nat.lt_or_ge i F.size with hi | hi
    · rw [List.getElem?_append_left (by simpa using hi)]
      have : i < arr.size := by omega
      simp [hi, this]
    · rw [List.getElem?_append_right (by simpa using hi), List.getElem?_drop]
      have e : F.size + (i - F.toList.length) = i := by simp; omega
      rw [e]
      rcases Nat.lt_or_ge i arr.size with h2 | h2
      · simp [h2, Nat.not_lt.2 hi]
      · rw [Array.getElem?_eq_none h2, List.getElem?_eq_none (by simpa using h2)]; rfl
  · intro x hx
    simp only [putRow, mapBlock, Array.getElem?_modify]
    rw [if_neg (fun e => hx e.symm)]
/-- The lent row holds other cells afterwards. -/
theorem mem_sorted {w : World} {S : Nat → Prop} {b : Names} {l E k n c blk m : Nat} {cs cs' : List C} {F : Array Value} {os : Array Obj} (hm : Mem ⟨w, S, Hof b [(l, .row E k n cs)], noN⟩ b [(l, .row E k n cs)] w)
    (hb : b l = some (some blk, c)) (hn : ∀ l', l' ≠ l → b l' = none) (hF : F.size = n * k) (hcs : cs'.length = n * k) (hone : oneL cs' = true) (hr : RdL w (Mut S b [(l, .row E k n cs)]) noN cs' F.toList) :
    Mem ⟨w, S, Hof b [(l, .row E k n cs)], noN⟩ b [(l, .row E k n cs')] (Sort.grow (putRow id (Sort.ahead w m) blk 0 F) os) := by
  have hmem : (l, Bx.row E k n cs) ∈ [(l, Bx.row E k n cs)] := List.mem_singleton.2 rfl
  obtain ⟨aa, c2, h4, hnc, hcm, hlen, h5⟩ := hm.boxes l _ hmem
  rw [hb] at h4; cases h4
  obtain ⟨arr, h5, hsz, h6, h7⟩ := h5
  have hle : F.size ≤ arr.size := by rw [hF, hsz]; exact Nat.mul_le_mul_right _ hnc
  have hmut : Mut S b [(l, .row E k n cs)] blk := .inr ⟨l, _, c, hmem, hb⟩
  have hrel : Rel ⟨w, S, Hof b [(l, .row E k n cs)], noN⟩ ⟨[], [(l, .row E k n cs)], [l]⟩ b ⟨#[], []⟩ w := ⟨rfl, by simp [RdL], hm, fun l' hl' => hn l' (by simpa using hl')⟩
  have hkeep : ∀ (arr' : Array Value) x, x < w.heap.size → ¬ Mut S b [(l, .row E k n cs)] x → (w.setRow blk arr').heap[x]? = w.heap[x]? ∧ ¬ Mut S b [(l, .row E k n cs)] x :=
    fun arr' x _ hn => ⟨setRow_other w blk x _ (fun e => hn (e ▸ hmut)), hn⟩
  have htk : (F.toList ++ arr.toList.drop F.size).take (n * k) = F.toList := by
    rw [← hF]; exact List.take_left' (by simp)
  have h1 := hr.one hone
  have hset := hrel.setRow hmem hb (F.toList ++ arr.toList.drop F.size).toArray (B' := .row E k n cs') (by
    simp only [BxAt]
    refine ⟨some blk, _, hb, hnc, hcm, hcs, _, setRow_heap w blk arr _ E (0, 0) h5, ?_, ?_, ?_⟩
    · simp; omega
    · rw [htk]; exact h1
    · rw [htk]; exact hr.keep (hkeep _) fun _ _ h => h)
  have hs : setB [(l, Bx.row E k n cs)] l (.row E k n cs') = [(l, .row E k n cs')] := by simp [setB]
  have hm2 : Mem ⟨w, S, Hof b [(l, .row E k n cs)], noN⟩ b [(l, .row E k n cs')] (w.setRow blk (F.toList ++ arr.toList.drop F.size).toArray) := by
    have := hset.mem
    rwa [hs] at this
  refine hm2.below ?_
  have hp := putRow_block (w := Sort.ahead w m) (F := F) (show (Sort.ahead w m).heap[blk]? = some (.cells arr E (0, 0)) from h5) hle
  refine ⟨rfl, rfl, rfl, ?_, fun x hx => ?_, ?_⟩
  · rw [setRow_size]; simp [Sort.grow]
  · rw [setRow_size] at hx
    have hx2 : x < (putRow id (Sort.ahead w m) blk 0 F).heap.size := by simpa using hx
    simp only [Sort.grow]
    rw [Array.getElem?_append_left hx2]
    by_cases e : x = blk
    · subst e
      rw [hp.1, setRow_heap w x arr _ E (0, 0) h5]
    · rw [hp.2 x e, setRow_other w blk x _ e]
      rfl
  · show w.drawn ≤ w.drawn + m
    omega
/-- What is asked of a library's sort at elements of one cell. -/
def Sorts1 (P : Program) (F g : Nat) : Prop :=
  (∀ (p : Option Addr) (cap : Nat) (fv : Value) (w : World), Calls P F #[.slice p 0 cap, fv] w fun e w' => e = .returned (.tuple #[]) ∧ w' = w) ∧
  ∀ {α : Type} [Inhabited α] (enc : α → Value), OneCell enc → ∀ cf : α → α → Int, SWO (ltOf cf) → ∀ (blk cap : Nat) (d : Array α) (w : World), CmpLays1 P g #[] enc cf blk 0 d.size w → Holds enc w blk 0 d → blk < w.heap.size → d.size < 4611686018427387904 →
    Calls P F #[.slice (some ⟨blk, 0, none⟩) d.size cap, .func (.func g) #[] #[]] w fun e w' => e = .returned (.tuple #[]) ∧ ∃ d' n os, PermIn 0 d.size d d' ∧ SortedIn (ltOf cf) 0 d.size d' ∧ w' = sortWorld enc w blk 0 n d' os
theorem cell_row {w : World} {blk E : Nat} {arr : Array Value} (h : w.heap[blk]? = some (.cells arr E (0, 0))) (j : Nat) : w.cell? ⟨blk, 0 + j, none⟩ = arr[j]? ∧ w.frozen? ⟨blk, 0 + j, none⟩ = false := by
  constructor
  · simp [World.cell?, h]
  · simp [World.frozen?, h]
theorem sort1_g {P : Program} {F f : Nat} {X : Type} [Inhabited X] (hF : FnOk P F) (hs : Sorts1 P F f) (fc : X → C) (h1 : ∀ x, one1 (fc x) = true) (c : X → X → Int) (hO : SWO (ltOf c)) (E : Nat) (xs ys : List X)
    (hcmp : ∀ x ∈ xs, ∀ y ∈ xs, FSpec P f [fc x, fc y] (.v (.int .i64 (c x y)))) (hf : FnOk P f) (hu : ∀ zs : List X, zs.Perm xs → zs.Pairwise (fun a b => ¬ c b a < 0) → zs = ys) (hn : xs.length < 4611686018427387904) :
    GSpec P F [.own 1000 E 1 xs.length, .fn f []] [(1000, .row E 1 xs.length (xs.map fc))] (.tup []) [(1000, .row E 1 xs.length (ys.map fc))] [] := by
  refine ⟨hF, fun w S b vs hbn hm ha => ?_⟩
  have hbn' : ∀ l, l ≠ 1000 → b l = none := fun l hl => hbn l (by simpa using hl)
  have hmem : (1000, Bx.row E 1 xs.length (xs.map fc)) ∈ [(1000, Bx.row E 1 xs.length (xs.map fc))] := List.mem_singleton.2 rfl
  obtain ⟨aa, cc, h4, hnc, hcm, hlen, h5⟩ := hm.boxes 1000 _ hmem
  match vs, ha with
  | [u, v], ha =>
    simp only [RdL, Rd] at ha
    obtain ⟨⟨a, c2, h6, h7, rfl, h8, h9⟩, ⟨us, rfl, hus⟩, _⟩ := ha
    have hus0 : us = [] := by cases us <;> simp [RdL] at hus ⊢
    subst hus0
    rw [h4] at h6
    simp only [Option.some.injEq, Prod.mk.injEq] at h6
    obtain ⟨rfl, rfl⟩ := h6
    cases aa with
    | none =>
      have hc0 : cc = 0 := h5
      have hx0 : xs = [] := List.eq_nil_of_length_eq_zero (by omega)
      subst hx0
      have hy : ys = [] := by
        have := hu [] (List.Perm.refl _) List.Pairwise.nil
        exact this.symm
      subst hy
      refine (hs.1 none cc _ w).mono ?_
      rintro e w' ⟨rfl, rfl⟩
      exact ⟨_, b, rfl, fun _ _ h => h, fun _ _ h => h, hm, by simp only [Rd]; exact ⟨[], rfl, by simp [RdL]⟩⟩
    | some blk =>
      obtain ⟨arr, h5, hsz, h10, h11⟩ := h5
      have hlt : blk < w.heap.size := (Array.getElem?_eq_some_iff.1 h5).1
      have hmut : Mut S b [(1000, .row E 1 xs.length (xs.map fc))] blk := .inr ⟨1000, _, cc, hmem, h4⟩
      -- the elements with their values
      let α := { y : X × Value // Rd w (Mut S b [(1000, .row E 1 xs.length (xs.map fc))]) noN (fc y.1) y.2 ∧ y.1 ∈ xs }
      have hel : ∀ i : Fin xs.length, Rd w (Mut S b [(1000, .row E 1 xs.length (xs.map fc))]) noN (fc xs[i]) (arr.getD i undef) ∧ xs[i] ∈ xs := by
        intro i
        refine ⟨?_, List.getElem_mem _⟩
        have := h11.get i.1 (by simp)
        have hi : i.1 < arr.size := by omega
        rw [Nat.mul_one] at this
        simpa [List.getD_eq_getElem?_getD, Array.getD_eq_getD_getElem?, hi] using this
      rcases Nat.eq_zero_or_pos xs.length with h0 | h0
      · have hx0 : xs = [] := List.eq_nil_of_length_eq_zero h0
        subst hx0
        have hy : ys = [] := (hu [] (List.Perm.refl _) List.Pairwise.nil).symm
        subst hy
        refine (hs.1 (some ⟨blk, 0, none⟩) cc _ w).mono ?_
        rintro e w' ⟨rfl, rfl⟩
        exact ⟨_, b, rfl, fun _ _ h => h, fun _ _ h => h, hm, by simp only [Rd]; exact ⟨[], rfl, by simp [RdL]⟩⟩
      · have : Inhabited α := ⟨⟨(xs[0], arr.getD 0 undef), hel ⟨0, h0⟩⟩⟩
        let enc : α → Value := fun y => y.1.2
        let cf : α → α → Int := fun x y => c x.1.1 y.1.1
        let d : Array α := Array.ofFn fun i : Fin xs.length => ⟨(xs[i], arr.getD i undef), hel i⟩
        have hds : d.size = xs.length := by simp [d]
        have hone : OneCell enc := fun y => y.2.1.one (h1 _)
        have hO' : SWO (ltOf cf) := ⟨fun x => hO.irrefl _, fun x y z => hO.trans _ _ _, fun x y z => hO.ntrans _ _ _⟩
        have hH : Holds enc w blk 0 d := by
          intro j hj
          obtain ⟨e1, e2⟩ := cell_row h5 j
          refine ⟨?_, e2⟩
          rw [e1, getElem!_pos d j hj]
          have hj' : j < arr.size := by omega
          simp [d, enc, hj', Array.getD_eq_getD_getElem?]
        have hC : CmpLays1 P f #[] enc cf blk 0 d.size w := by
          intro m os dk hdk x y
          have hW : ∀ g, g < w.heap.size → ¬ Mut S b [(1000, .row E 1 xs.length (xs.map fc))] g → (sortWorld enc w blk 0 m dk os).heap[g]? = w.heap[g]? ∧ ¬ Mut S b [(1000, .row E 1 xs.length (xs.map fc))] g := by
            intro g hg hgn
            refine ⟨?_, hgn⟩
            have hne : g ≠ blk := fun e => hgn (e ▸ hmut)
            simp only [sortWorld, Sort.grow]
            rw [Array.getElem?_append_left (by simpa using hg)]
            simp only [putRow, mapBlock, Array.getElem?_modify]
            rw [if_neg (fun e => hne e.symm)]
            rfl
          have hsz2 : w.heap.size ≤ (sortWorld enc w blk 0 m dk os).heap.size := by simp [sortWorld, Sort.grow]
          have hsp := (hcmp x.1.1 x.2.2 y.1.1 y.2.2).2 (sortWorld enc w blk 0 m dk os) (Mut S b [(1000, .row E 1 xs.length (xs.map fc))]) [enc x, enc y] (fun g hg => Nat.lt_of_lt_of_le (hm.mut_lt hg) hsz2)
            (by simp only [RdL]; exact ⟨x.2.1.keep hW fun _ _ h => h, y.2.1.keep hW fun _ _ h => h, trivial⟩)
          refine hsp.mono ?_
          rintro e w' ⟨v, rfl, hb, hv⟩
          simp only [Rd] at hv
          subst hv
          exact ⟨rfl, hb.grow⟩
        have hcall := hs.2 enc hone cf hO' blk cc d w hC hH hlt (by omega)
        rw [hds] at hcall
        refine hcall.mono ?_
        rintro e w' ⟨rfl, d', m, os, hperm, hsorted, rfl⟩
        have hd's : d'.size = xs.length := hperm.1.trans hds
        have hpl : d'.toList.Perm d.toList := by
          have := hperm.2.2
          rw [Array.extract_eq_self_of_le (by omega), Array.extract_eq_self_of_le (by omega)] at this
          exact this
        have hdl : d.toList.map (fun y : α => y.1.1) = xs := by
          apply List.ext_getElem
          · simp [d]
          · intro i h1 h2
            simp [d]
        have hzs : d'.toList.map (fun y : α => y.1.1) = ys := by
          refine hu _ ?_ ?_
          · have h := hpl.map (fun y : α => y.1.1)
            rw [hdl] at h
            exact h
          · rw [List.pairwise_map, List.pairwise_iff_getElem]
            intro i j hi hj hij
            have := hsorted i j (Nat.zero_le _) hij (by simpa [hd's] using hj)
            simp at hi hj
            simp only [ltOf, decide_eq_false_iff_not, cf, getElem!_pos, hi, hj] at this
            simpa using this
        have hrd : RdL w (Mut S b [(1000, .row E 1 xs.length (xs.map fc))]) noN (ys.map fc) (d'.map enc).toList := by
          rw [← hzs, List.map_map, Array.toList_map]
          have gen : ∀ l : List α, RdL w (Mut S b [(1000, .row E 1 xs.length (xs.map fc))]) noN (l.map (fc ∘ fun y : α => y.1.1)) (l.map enc) := by
            intro l
            induction l with
            | nil => simp [RdL]
            | cons y l ih => simp only [List.map_cons, RdL]; exact ⟨y.2.1, ih⟩
          exact gen _
        have hyl : ys.length = xs.length := by rw [← hzs]; simpa using hd's
        have hones : oneL (ys.map fc) = true := by
          have gen : ∀ l : List X, oneL (l.map fc) = true := by
            intro l
            induction l with
            | nil => rfl
            | cons y l ih => simp [oneL, h1, ih]
          exact gen _
        have hputs : putRow enc (Sort.ahead w m) blk 0 d' = putRow id (Sort.ahead w m) blk 0 (d'.map enc) := by
          unfold putRow
          congr 1
          funext arr2
          unfold putCells
          simp only [Array.size_map]
          apply Array.ext
          · simp
          · intro i h1 h2
            simp only [Array.getElem_mapIdx]
            split
            · rename_i h3
              have h4 : i < d'.size := by omega
              rw [Nat.sub_zero, getElem!_pos d' i h4, getElem!_pos (d'.map enc) i (by simpa using h4)]
              simp
            · rfl
        refine ⟨_, b, rfl, fun _ _ h => h, fun _ _ h => h, ?_, by simp only [Rd]; exact ⟨[], rfl, by simp [RdL]⟩⟩
        simp only [sortWorld, hputs]
        exact mem_sorted hm h4 hbn' (by simpa using hd's) (by simpa using hyl) hones hrd
  | [], ha => simp [RdL] at ha
  | [_], ha => simp [RdL] at ha
  | _ :: _ :: _ :: _, ha => simp [RdL] at ha
end El
namespace El
open Go Go.RowKit Go.Sort Go.Shelf Go.Lib Go.Proofs
theorem flatTake {α β : Type} {f : α → List β} {k : Nat} (hk : ∀ x, (f x).length = k) : ∀ (l : List α) (i : Nat) (h : i < l.length), List.take k (List.drop (i * k) (l.map f).flatten) = f l[i]
  | [], i, h => by simp at h
  | x :: l, 0, _ => by
    simp only [List.map_cons, List.flatten_cons, Nat.zero_mul, List.drop_zero]
    rw [List.take_append_of_le_length (by rw [hk]; omega), List.take_of_length_le (by rw [hk]; omega)]
    rfl
  | x :: l, i + 1, h => by
    simp only [List.map_cons, List.flatten_cons]
    rw [Nat.succ_mul, Nat.add_comm, ← List.drop_drop]
    have : List.drop k (f x ++ (List.map f l).flatten) = (List.map f l).flatten := by
      have := List.drop_left (l₁ := f x) (l₂ := (List.map f l).flatten)
      rwa [hk] at this
    rw [this, flatTake hk l i (by simpa using h)]
    rfl
theorem flatLen {α β : Type} {f : α → List β} {k : Nat} (hk : ∀ x, (f x).length = k) : ∀ (l : List α), (l.map f).flatten.length = l.length * k
  | [] => by simp
  | x :: l => by simp only [List.map_cons, List.flatten_cons, List.length_append, hk, flatLen hk l, List.length_cons, Nat.succ_mul]; omega
theorem flatK_flatten {α : Type} [Inhabited α] {enc : α → List Value} {k : Nat} (hk : ∀ x, (enc x).length = k) (d : Array α) : (flatK enc k d).toList = (d.toList.map enc).flatten := by
  apply List.ext_getElem
  · rw [Array.length_toList, size_flatK, flatLen hk]; simp
  · intro t h1 h2
    have ht : t < d.size * k := by simpa using h1
    have hk0 : 0 < k := by rcases Nat.eq_zero_or_pos k with h | h; · subst h; simp at ht
                           · exact h
    have hq : t / k < d.size := (Nat.div_lt_iff_lt_mul hk0).2 ht
    have hm : t % k < k := Nat.mod_lt _ hk0
    have e1 := get_flatK enc k d t ht
    rw [getElem!_pos (flatK enc k d) t (by simpa using ht), getElem!_pos d _ hq, getElem!_pos (enc d[t / k]) _ (by rw [hk]; exact hm)] at e1
    have e2 := flatTake hk d.toList (t / k) (by simpa using hq)
    have e3 : (List.take k (List.drop (t / k * k) (d.toList.map enc).flatten))[t % k]? = (d.toList.map enc).flatten[t]? := by
      rw [List.getElem?_take, if_pos hm, List.getElem?_drop, Nat.div_add_mod']
    rw [e2, List.getElem?_eq_getElem (by rw [hk]; exact hm), List.getElem?_eq_getElem h2] at e3
    simp only [Option.some.injEq] at e3
    rw [← e3]
    simpa using e1
/-- What is asked of a library's sort at elements of k cells. -/
def SortsK (P : Program) (F g k : Nat) (lim : Nat → Int) : Prop :=
  (∀ (p : Option Addr) (cap : Nat) (fv : Value) (w : World), Calls P F #[.slice p 0 cap, .int .i64 0, .int .i64 0, .int .i64 (lim 0), fv] w fun e w' => e = .returned (.tuple #[]) ∧ w' = w) ∧
  ∀ {α : Type} [Inhabited α] (enc : α → List Value), (∀ x, (enc x).length = k) → (∀ x, ∀ v ∈ enc x, v.oneCell' = true) → ∀ cf : α → α → Int, SWO (ltOf cf) → ∀ (blk cap : Nat) (d : Array α) (w : World), CmpLays P g #[] enc k cf blk 0 d.size w → HoldsK enc k w blk 0 d →
    blk < w.heap.size → d.size < 4611686018427387904 →
    Calls P F #[.slice (some ⟨blk, 0, none⟩) d.size cap, .int .i64 0, .int .i64 d.size, .int .i64 (lim d.size), .func (.func g) #[] #[]] w fun e w' => e = .returned (.tuple #[]) ∧ ∃ d' n os, PermIn 0 d.size d d' ∧ SortedIn (ltOf cf) 0 d.size d' ∧ w' = sortWorldK enc k w blk 0 n d' os
theorem sortK_g {P : Program} {F f k : Nat} {lim : Nat → Int} {X : Type} [Inhabited X] (hF : FnOk P F) (hs : SortsK P F f k lim) (hk0 : 0 < k) (fc : X → List C) (hk : ∀ x, (fc x).length = k) (h1 : ∀ x, oneL (fc x) = true) (c : X → X → Int) (hO : SWO (ltOf c)) (E : Nat) (xs ys : List X)
    (hcmp : ∀ x ∈ xs, ∀ y ∈ xs, FSpec P f [.agg (fc x), .agg (fc y)] (.v (.int .i64 (c x y)))) (hu : ∀ zs : List X, zs.Perm xs → zs.Pairwise (fun a b => ¬ c b a < 0) → zs = ys) (hn : xs.length < 4611686018427387904) :
    GSpec P F [.own 1000 E k xs.length, .v (.int .i64 0), .v (.int .i64 xs.length), .v (.int .i64 (lim xs.length)), .fn f []] [(1000, .row E k xs.length (xs.map fc).flatten)] (.tup []) [(1000, .row E k xs.length (ys.map fc).flatten)] [] := by
  refine ⟨hF, fun w S b vs hbn hm ha => ?_⟩
  have hbn' : ∀ l, l ≠ 1000 → b l = none := fun l hl => hbn l (by simpa using hl)
  have hmem : (1000, Bx.row E k xs.length (xs.map fc).flatten) ∈ [(1000, Bx.row E k xs.length (xs.map fc).flatten)] := List.mem_singleton.2 rfl
  obtain ⟨aa, cc, h4, hnc, hcm, hlen, h5⟩ := hm.boxes 1000 _ hmem
  match vs, ha with
  | [u, u1, u2, u3, v], ha =>
    simp only [RdL, Rd] at ha
    obtain ⟨⟨a, c2, h6, h7, rfl, h8, h9⟩, rfl, rfl, rfl, ⟨us, rfl, hus⟩, _⟩ := ha
    have hus0 : us = [] := by cases us <;> simp [RdL] at hus ⊢
    subst hus0
    rw [h4] at h6
    simp only [Option.some.injEq, Prod.mk.injEq] at h6
    obtain ⟨rfl, rfl⟩ := h6
    rcases Nat.eq_zero_or_pos xs.length with h0 | h0
    · have hx0 : xs = [] := List.eq_nil_of_length_eq_zero h0
      subst hx0
      have hy : ys = [] := (hu [] (List.Perm.refl _) List.Pairwise.nil).symm
      subst hy
      refine (hs.1 _ cc _ w).mono ?_
      rintro e w' ⟨rfl, rfl⟩
      exact ⟨_, b, rfl, fun _ _ h => h, fun _ _ h => h, hm, by simp only [Rd]; exact ⟨[], rfl, by simp [RdL]⟩⟩
    cases aa with
    | none =>
      have hc0 : cc = 0 := h5
      omega
    | some blk =>
      obtain ⟨arr, h5, hsz, h10, h11⟩ := h5
      have hlt : blk < w.heap.size := (Array.getElem?_eq_some_iff.1 h5).1
      have hmut : Mut S b [(1000, .row E k xs.length (xs.map fc).flatten)] blk := .inr ⟨1000, _, cc, hmem, h4⟩
      have hle : xs.length * k ≤ arr.size := by rw [hsz]; exact Nat.mul_le_mul_right _ hnc
      let α := { y : X × List Value // RdL w (Mut S b [(1000, .row E k xs.length (xs.map fc).flatten)]) noN (fc y.1) y.2 ∧ y.1 ∈ xs }
      have hel : ∀ i : Fin xs.length, RdL w (Mut S b [(1000, .row E k xs.length (xs.map fc).flatten)]) noN (fc xs[i]) (List.take k (List.drop (i * k) (arr.toList.take (xs.length * k)))) ∧ xs[i] ∈ xs := by
        intro i
        refine ⟨?_, List.getElem_mem _⟩
        have := (h11.drop (i * k)).take k
        rwa [flatTake hk xs i i.2] at this
      have : Inhabited α := ⟨⟨(xs[0], _), hel ⟨0, h0⟩⟩⟩
      let enc : α → List Value := fun y => y.1.2
      let cf : α → α → Int := fun x y => c x.1.1 y.1.1
      let d : Array α := Array.ofFn fun i : Fin xs.length => ⟨(xs[i], _), hel i⟩
      have hds : d.size = xs.length := by simp [d]
      have hke : ∀ x : α, (enc x).length = k := fun y => by rw [← hk y.1.1]; exact y.2.1.length.symm
      have hone : ∀ x : α, ∀ v ∈ enc x, v.oneCell' = true := fun y => y.2.1.one (h1 _)
      have hO' : SWO (ltOf cf) := ⟨fun x => hO.irrefl _, fun x y z => hO.trans _ _ _, fun x y z => hO.ntrans _ _ _⟩
      have hH : HoldsK enc k w blk 0 d := by
        intro j hj
        have hj2 : j < xs.length * k := by rw [size_flatK, hds] at hj; exact hj
        obtain ⟨e1, e2⟩ := cell_row h5 j
        refine ⟨?_, e2⟩
        have hq : j / k < d.size := by rw [hds]; exact (Nat.div_lt_iff_lt_mul hk0).2 hj2
        have hm' : j % k < k := Nat.mod_lt _ hk0
        rw [e1, id, get_flatK enc k d j (by rw [hds]; exact hj2), getElem!_pos d _ hq, getElem!_pos (enc d[j / k]) _ (by rw [hke]; exact hm')]
        have e3 : enc d[j / k] = List.take k (List.drop (j / k * k) (arr.toList.take (xs.length * k))) := by simp [d, enc]
        have e4 : (enc d[j / k])[j % k]? = arr[j]? := by
          rw [e3, List.getElem?_take, if_pos hm', List.getElem?_drop, Nat.div_add_mod', List.getElem?_take, if_pos hj2]
          simp
        rw [← e4, List.getElem?_eq_getElem]
      have hC : CmpLays P f #[] enc k cf blk 0 d.size w := by
        intro m os dk hdk x y
        have hW : ∀ g, g < w.heap.size → ¬ Mut S b [(1000, .row E k xs.length (xs.map fc).flatten)] g → (sortWorldK enc k w blk 0 m dk os).heap[g]? = w.heap[g]? ∧ ¬ Mut S b [(1000, .row E k xs.length (xs.map fc).flatten)] g := by
          intro g hg hgn
          refine ⟨?_, hgn⟩
          have hne : g ≠ blk := fun e => hgn (e ▸ hmut)
          simp only [sortWorldK, putRowK, Sort.grow]
          rw [Array.getElem?_append_left (by simpa using hg)]
          simp only [putRow, mapBlock, Array.getElem?_modify]
          rw [if_neg (fun e => hne e.symm)]
          rfl
        have hsz2 : w.heap.size ≤ (sortWorldK enc k w blk 0 m dk os).heap.size := by simp [sortWorldK, putRowK, Sort.grow]
        have hsp := (hcmp x.1.1 x.2.2 y.1.1 y.2.2).2 (sortWorldK enc k w blk 0 m dk os) (Mut S b [(1000, .row E k xs.length (xs.map fc).flatten)]) [.agg (enc x).toArray, .agg (enc y).toArray] (fun g hg => Nat.lt_of_lt_of_le (hm.mut_lt hg) hsz2)
          (by simp only [RdL, Rd]; exact ⟨⟨_, rfl, x.2.1.keep hW fun _ _ h => h⟩, ⟨_, rfl, y.2.1.keep hW fun _ _ h => h⟩, trivial⟩)
        refine hsp.mono ?_
        rintro e w' ⟨v, rfl, hb, hv⟩
        simp only [Rd] at hv
        subst hv
        exact ⟨rfl, hb.grow⟩
      have hcall := hs.2 enc hke hone cf hO' blk cc d w hC hH hlt (by omega)
      rw [hds] at hcall
      refine hcall.mono ?_
      rintro e w' ⟨rfl, d', m, os, hperm, hsorted, rfl⟩
      have hd's : d'.size = xs.length := hperm.1.trans hds
      have hpl : d'.toList.Perm d.toList := by
        have := hperm.2.2
        rw [Array.extract_eq_self_of_le (by omega), Array.extract_eq_self_of_le (by omega)] at this
        exact this
      have hdl : d.toList.map (fun y : α => y.1.1) = xs := by
        apply List.ext_getElem
        · simp [d]
        · intro i h1 h2
          simp [d]
      have hzs : d'.toList.map (fun y : α => y.1.1) = ys := by
        refine hu _ ?_ ?_
        · have h := hpl.map (fun y : α => y.1.1)
          rw [hdl] at h
          exact h
        · rw [List.pairwise_map, List.pairwise_iff_getElem]
          intro i j hi hj hij
          have := hsorted i j (Nat.zero_le _) hij (by simpa [hd's] using hj)
          simp at hi hj
          simp only [ltOf, decide_eq_false_iff_not, cf, getElem!_pos, hi, hj] at this
          simpa using this
      have hrd : RdL w (Mut S b [(1000, .row E k xs.length (xs.map fc).flatten)]) noN (ys.map fc).flatten (flatK enc k d').toList := by
        rw [flatK_flatten hke, ← hzs, List.map_map]
        have gen : ∀ l : List α, RdL w (Mut S b [(1000, .row E k xs.length (xs.map fc).flatten)]) noN (l.map (fc ∘ fun y : α => y.1.1)).flatten (l.map enc).flatten := by
          intro l
          induction l with
          | nil => simp [RdL]
          | cons y l ih => simp only [List.map_cons, List.flatten_cons]; exact y.2.1.append ih
        exact gen _
      have hyl : ys.length = xs.length := by rw [← hzs]; simpa using hd's
      have hones : oneL (ys.map fc).flatten = true := by
        have ap : ∀ a b : List C, oneL a = true → oneL b = true → oneL (a ++ b) = true := by
          intro a b
          induction a with
          | nil => intro _ h; exact h
          | cons x a ih =>
            intro h1 h2
            simp only [oneL, Bool.and_eq_true, List.cons_append] at h1 ⊢
            exact ⟨h1.1, ih h1.2 h2⟩
        have gen : ∀ l : List X, oneL (l.map fc).flatten = true := by
          intro l
          induction l with
          | nil => rfl
          | cons y l ih => simp only [List.map_cons, List.flatten_cons]; exact ap _ _ (h1 y) ih
        exact gen _
      refine ⟨_, b, rfl, fun _ _ h => h, fun _ _ h => h, ?_, by simp only [Rd]; exact ⟨[], rfl, by simp [RdL]⟩⟩
      simp only [sortWorldK, putRowK]
      exact mem_sorted hm h4 hbn' (by rw [size_flatK, hd's]) (by rw [flatLen hk, hyl]) hones hrd
  | [], ha => simp [RdL] at ha
  | [_], ha => simp [RdL] at ha
  | [_, _], ha => simp [RdL] at ha
  | [_, _, _], ha => simp [RdL] at ha
  | [_, _, _, _], ha => simp [RdL] at ha
  | _ :: _ :: _ :: _ :: _ :: _ :: _, ha => simp [RdL] at ha
end El
namespace Go.Proofs
open Go.Shelf
def Tryz.sortP_ren : Go.Shelf.Ren := ⟨fun | 6 => 96 | 15 => 143 | 14 => 142 | 28 => 186 | 29 => 187 | 20 => 178 | 21 => 179 | 22 => 180 | 23 => 181 | 24 => 182 | 25 => 183 | 26 => 184 | 27 => 185 | 46 => 213 | 47 => 214 | 48 => 215 | 49 => 216 | 50 => 217 | 57 => 232 | n => n, fun | 22 => 25 | 24 => 65 | 25 => 146 | 3 => 3 | 39 => 178 | 0 => 0 | 53 => 192 | 55 => 157 | 4 => 4 | 46 => 205 | 45 => 204 | 50 => 209 | 5 => 5 | 9 => 9 | 66 => 236 | 70 => 240 | 76 => 255 | 77 => 256 | n => n, fun | n => n⟩
theorem Tryz.sortP : Go.Proofs.SlLaysF.n6 Tryz.prog Tryz.sortP_ren := {
  mixed := by kernel_rfl
  f6 := ⟨Tryz.f96.name, by decide, Tryz.func96.trans (congrArg some (by kernel_rfl))⟩
  f14 := ⟨Tryz.f142.name, by decide, Tryz.func142.trans (congrArg some (by kernel_rfl))⟩
  f15 := Tryz.func143.trans (congrArg some (by kernel_rfl))
  f20 := ⟨Tryz.f178.name, by decide, Tryz.func178.trans (congrArg some (by kernel_rfl))⟩
  f21 := ⟨Tryz.f179.name, by decide, Tryz.func179.trans (congrArg some (by kernel_rfl))⟩
  f22 := ⟨Tryz.f180.name, by decide, Tryz.func180.trans (congrArg some (by kernel_rfl))⟩
  f23 := ⟨Tryz.f181.name, by decide, Tryz.func181.trans (congrArg some (by kernel_rfl))⟩
  f24 := ⟨Tryz.f182.name, by decide, Tryz.func182.trans (congrArg some (by kernel_rfl))⟩
  f25 := ⟨Tryz.f183.name, by decide, Tryz.func183.trans (congrArg some (by kernel_rfl))⟩
  f26 := ⟨Tryz.f184.name, by decide, Tryz.func184.trans (congrArg some (by kernel_rfl))⟩
  f27 := ⟨Tryz.f185.name, by decide, Tryz.func185.trans (congrArg some (by kernel_rfl))⟩
  f28 := Tryz.func186.trans (congrArg some (by kernel_rfl))
  f29 := Tryz.func187.trans (congrArg some (by kernel_rfl))
  f46 := ⟨Tryz.f213.name, by decide, Tryz.func213.trans (congrArg some (by kernel_rfl))⟩
  f47 := Tryz.func214.trans (congrArg some (by kernel_rfl))
  f48 := Tryz.func215.trans (congrArg some (by kernel_rfl))
  f49 := ⟨Tryz.f216.name, by decide, Tryz.func216.trans (congrArg some (by kernel_rfl))⟩
  f50 := ⟨Tryz.f217.name, by decide, Tryz.func217.trans (congrArg some (by kernel_rfl))⟩
  f57 := ⟨Tryz.f232.name, by decide, Tryz.func232.trans (congrArg some (by kernel_rfl))⟩
  t0 := Tryz.underlying0
  a0 := Tryz.isAgg0
  z0 := Tryz.sizeOf0
  v0 := Tryz.zeroValue0
  t3 := Tryz.underlying3
  a3 := Tryz.isAgg3
  z3 := Tryz.sizeOf3
  v3 := Tryz.zeroValue3
  t4 := Tryz.underlying4
  a4 := Tryz.isAgg4
  z4 := Tryz.sizeOf4
  v4 := Tryz.zeroValue4
  t5 := Tryz.underlying5
  a5 := Tryz.isAgg5
  z5 := Tryz.sizeOf5
  v5 := Tryz.zeroValue5
  t9 := Tryz.underlying9
  a9 := Tryz.isAgg9
  z9 := Tryz.sizeOf9
  v9 := Tryz.zeroValue9
  t22 := Tryz.underlying25
  a22 := Tryz.isAgg25
  z22 := Tryz.sizeOf25
  v22 := Tryz.zeroValue25
  a24 := Tryz.isAgg65
  z24 := Tryz.sizeOf65
  t25 := Tryz.underlying146
  a25 := Tryz.isAgg146
  z25 := Tryz.sizeOf146
  v25 := Tryz.zeroValue146
  t39 := Tryz.underlying178
  a39 := Tryz.isAgg178
  z39 := Tryz.sizeOf178
  v39 := Tryz.zeroValue178
  t45 := Tryz.underlying204
  a45 := Tryz.isAgg204
  z45 := Tryz.sizeOf204
  v45 := Tryz.zeroValue204
  t46 := Tryz.underlying205
  a46 := Tryz.isAgg205
  z46 := Tryz.sizeOf205
  v46 := Tryz.zeroValue205
  t50 := Tryz.underlying209
  a50 := Tryz.isAgg209
  z50 := Tryz.sizeOf209
  v50 := Tryz.zeroValue209
  t53 := Tryz.underlying192
  a53 := Tryz.isAgg192
  z53 := Tryz.sizeOf192
  v53 := Tryz.zeroValue192
  t55 := Tryz.underlying157
  a55 := Tryz.isAgg157
  z55 := Tryz.sizeOf157
  v55 := Tryz.zeroValue157
  t66 := Tryz.underlying236
  a66 := Tryz.isAgg236
  z66 := Tryz.sizeOf236
  v66 := Tryz.zeroValue236
  t70 := Tryz.underlying240
  a70 := Tryz.isAgg240
  z70 := Tryz.sizeOf240
  v70 := Tryz.zeroValue240
  t76 := Tryz.underlying255
  a76 := Tryz.isAgg255
  z76 := Tryz.sizeOf255
  v76 := Tryz.zeroValue255
  t77 := Tryz.underlying256
  a77 := Tryz.isAgg256
  z77 := Tryz.sizeOf256
  v77 := Tryz.zeroValue256 }
def Tryz.sortT_ren : Go.Shelf.Ren := ⟨fun | 14 => 224 | 20 => 233 | 21 => 234 | 22 => 235 | 23 => 236 | 24 => 237 | 25 => 238 | 26 => 239 | 27 => 240 | 46 => 243 | 47 => 214 | 48 => 215 | 49 => 244 | 50 => 245 | 15 => 143 | 57 => 246 | 28 => 186 | 29 => 187 | n => n, fun | 24 => 118 | 22 => 64 | 3 => 3 | 25 => 181 | 4 => 4 | 0 => 0 | 46 => 205 | 45 => 204 | 50 => 209 | 66 => 236 | 39 => 178 | 55 => 157 | 70 => 240 | 76 => 255 | 77 => 256 | 53 => 192 | 5 => 5 | 9 => 9 | n => n, fun | n => n⟩
theorem Tryz.sortT : Go.Proofs.SlLaysF0.n14 Tryz.prog Tryz.sortT_ren := {
  mixed := by kernel_rfl
  f14 := ⟨Tryz.f224.name, by decide, Tryz.func224.trans (congrArg some (by kernel_rfl))⟩
  f15 := Tryz.func143.trans (congrArg some (by kernel_rfl))
  f20 := ⟨Tryz.f233.name, by decide, Tryz.func233.trans (congrArg some (by kernel_rfl))⟩
  f21 := ⟨Tryz.f234.name, by decide, Tryz.func234.trans (congrArg some (by kernel_rfl))⟩
  f22 := ⟨Tryz.f235.name, by decide, Tryz.func235.trans (congrArg some (by kernel_rfl))⟩
  f23 := ⟨Tryz.f236.name, by decide, Tryz.func236.trans (congrArg some (by kernel_rfl))⟩
  f24 := ⟨Tryz.f237.name, by decide, Tryz.func237.trans (congrArg some (by kernel_rfl))⟩
  f25 := ⟨Tryz.f238.name, by decide, Tryz.func238.trans (congrArg some (by kernel_rfl))⟩
  f26 := ⟨Tryz.f239.name, by decide, Tryz.func239.trans (congrArg some (by kernel_rfl))⟩
  f27 := ⟨Tryz.f240.name, by decide, Tryz.func240.trans (congrArg some (by kernel_rfl))⟩
  f28 := Tryz.func186.trans (congrArg some (by kernel_rfl))
  f29 := Tryz.func187.trans (congrArg some (by kernel_rfl))
  f46 := ⟨Tryz.f243.name, by decide, Tryz.func243.trans (congrArg some (by kernel_rfl))⟩
  f47 := Tryz.func214.trans (congrArg some (by kernel_rfl))
  f48 := Tryz.func215.trans (congrArg some (by kernel_rfl))
  f49 := ⟨Tryz.f244.name, by decide, Tryz.func244.trans (congrArg some (by kernel_rfl))⟩
  f50 := ⟨Tryz.f245.name, by decide, Tryz.func245.trans (congrArg some (by kernel_rfl))⟩
  f57 := ⟨Tryz.f246.name, by decide, Tryz.func246.trans (congrArg some (by kernel_rfl))⟩
  t0 := Tryz.underlying0
  a0 := Tryz.isAgg0
  z0 := Tryz.sizeOf0
  v0 := Tryz.zeroValue0
  t3 := Tryz.underlying3
  a3 := Tryz.isAgg3
  z3 := Tryz.sizeOf3
  v3 := Tryz.zeroValue3
  t4 := Tryz.underlying4
  a4 := Tryz.isAgg4
  z4 := Tryz.sizeOf4
  v4 := Tryz.zeroValue4
  t5 := Tryz.underlying5
  a5 := Tryz.isAgg5
  z5 := Tryz.sizeOf5
  v5 := Tryz.zeroValue5
  t9 := Tryz.underlying9
  a9 := Tryz.isAgg9
  z9 := Tryz.sizeOf9
  v9 := Tryz.zeroValue9
  t22 := Tryz.underlying64
  a22 := Tryz.isAgg64
  z22 := Tryz.sizeOf64
  v22 := Tryz.zeroValue64
  t25 := Tryz.underlying181
  a25 := Tryz.isAgg181
  z25 := Tryz.sizeOf181
  v25 := Tryz.zeroValue181
  t39 := Tryz.underlying178
  a39 := Tryz.isAgg178
  z39 := Tryz.sizeOf178
  v39 := Tryz.zeroValue178
  t45 := Tryz.underlying204
  a45 := Tryz.isAgg204
  z45 := Tryz.sizeOf204
  v45 := Tryz.zeroValue204
  t46 := Tryz.underlying205
  a46 := Tryz.isAgg205
  z46 := Tryz.sizeOf205
  v46 := Tryz.zeroValue205
  t50 := Tryz.underlying209
  a50 := Tryz.isAgg209
  z50 := Tryz.sizeOf209
  v50 := Tryz.zeroValue209
  t53 := Tryz.underlying192
  a53 := Tryz.isAgg192
  z53 := Tryz.sizeOf192
  v53 := Tryz.zeroValue192
  t55 := Tryz.underlying157
  a55 := Tryz.isAgg157
  z55 := Tryz.sizeOf157
  v55 := Tryz.zeroValue157
  t66 := Tryz.underlying236
  a66 := Tryz.isAgg236
  z66 := Tryz.sizeOf236
  v66 := Tryz.zeroValue236
  t70 := Tryz.underlying240
  a70 := Tryz.isAgg240
  z70 := Tryz.sizeOf240
  v70 := Tryz.zeroValue240
  t76 := Tryz.underlying255
  a76 := Tryz.isAgg255
  z76 := Tryz.sizeOf255
  v76 := Tryz.zeroValue255
  t77 := Tryz.underlying256
  a77 := Tryz.isAgg256
  z77 := Tryz.sizeOf256
  v77 := Tryz.zeroValue256 }
end Go.Proofs
namespace Go.Proofs.YtbhnankggcfndaaGreat
open El Go Go.Proofs Go.Shelf
set_option maxRecDepth 10000
set_option maxHeartbeats 4000000
theorem sortsP (f : Nat) (hf : FnOk Tryz.prog f) : Sorts1 Tryz.prog 96 f := by
  refine ⟨fun p cap fv w => ?_, fun enc h1 cf hO blk cap d w hC hH hb hn => ?_⟩
  · have L := Tryz.sortP
    exact AnyF.slices_SortFunc_none { L with } p cap fv w
  · exact Any.slices_SortFunc Tryz.sortP enc h1 cf hO f #[] blk 0 cap d w hf.run hC hH hb hn
theorem sortsT (f : Nat) (hf : FnOk Tryz.prog f) : SortsK Tryz.prog 224 f 12 (fun n => ((Lib.bitLen n : Nat) : Int)) := by
  have aE : ∀ w, (isAgg 118).run Tryz.prog w = .ok true w := fun w => isAgg_run Ty.ok118 w
  have zE : ∀ w, (Go.sizeOf 118).run Tryz.prog w = .ok 12 w := fun w => sizeOf_run Ty.ok118 w
  refine ⟨fun p cap fv w => ?_, fun enc hk h1 cf hO blk cap d w hC hH hb hn => ?_⟩
  · exact AnyF.pdqsortCmpFunc_none Tryz.sortT p cap _ fv w
  · have hlim : Lib.bitLen d.size < 4611686018427387904 := Nat.lt_of_le_of_lt (Lib.bitLen_le d.size 62 (by omega) (by omega)) (by omega)
    have hp := AnyQ.pdqsortCmpFunc_all Tryz.sortT 12 aE zE enc cf f #[] hO blk 0 cap d w hf.run hC ⟨hk, h1, hH, hb⟩ (d.size + 1) 0 d.size (Lib.bitLen d.size) d w (by omega) rfl (SWK.start hH) (Nat.zero_le _) (Nat.le_refl _) hn hlim (Or.inl rfl)
    refine hp.mono ?_
    rintro e w' ⟨rfl, m, os, rfl⟩
    have h := Sort.pdq_sorts (ltOf cf) hO d 0 d.size (Lib.bitLen d.size) true true (Nat.zero_le _) (Nat.le_refl _) (Or.inl rfl)
    exact ⟨rfl, _, m, os, h.1, h.2, rfl⟩
end Go.Proofs.YtbhnankggcfndaaGreat
namespace Go.Proofs.YtbhnankggcfndaaGreat
open El
set_option maxRecDepth 10000
set_option maxHeartbeats 4000000
/-- The i-th is the same as the one before it. -/
def dupAt (sm : Pl → Pl → Bool) (xs : List Pl) (i : Nat) : Bool := sm (xs.getD i []) (xs.getD (i - 1) [])
def nodup (sm : Pl → Pl → Bool) (xs : List Pl) : Prop := ∀ i, 0 < i → i < xs.length → dupAt sm xs i = false
/-- What is left of the first n. -/
def keepN (sm : Pl → Pl → Bool) (xs : List Pl) : Nat → List Pl
  | 0 => []
  | n + 1 => if n ≠ 0 ∧ dupAt sm xs n = true then keepN sm xs n else keepN sm xs n ++ [xs.getD n []]
def compact (sm : Pl → Pl → Bool) (xs : List Pl) : List Pl := keepN sm xs xs.length
theorem keepN_nodup {sm : Pl → Pl → Bool} {xs : List Pl} {n : Nat} (hn : n ≤ xs.length) (h : ∀ i, 0 < i → i < n → dupAt sm xs i = false) : keepN sm xs n = xs.take n := by
  induction n with
  | zero => rfl
  | succ n ih =>
    have hx : xs.take (n + 1) = xs.take n ++ [xs.getD n []] := by
      rw [List.take_add_one, List.getD_eq_getElem?_getD, List.getElem?_eq_getElem (by omega)]
      rfl
    rw [keepN, ih (by omega) (fun i a b => h i a (by omega)), hx, if_neg]
    rintro ⟨h1, h2⟩
    rw [h n (by omega) (by omega)] at h2
    cases h2
theorem keepN_length (sm : Pl → Pl → Bool) (xs : List Pl) (n : Nat) : (keepN sm xs n).length ≤ n := by
  induction n with
  | zero => exact Nat.le_refl _
  | succ n ih =>
    rw [keepN]
    split
    · omega
    · rw [List.length_append, List.length_singleton]; omega
theorem compact_nodup {sm : Pl → Pl → Bool} {xs : List Pl} (h : nodup sm xs) : compact sm xs = xs := by
  rw [compact, keepN_nodup (Nat.le_refl _) h, List.take_length]
theorem compact_none (xs : List Pl) (sm : Pl → Pl → Bool) (f : Nat) (hf : ∀ x ∈ xs, ∀ y ∈ xs, FSpec Tryz.prog f [encP x, encP y] (.v (.bool (sm x y)))) (hn : xs.length ≤ 1000000) (hd : nodup sm xs) :
    GSpec Tryz.prog 98 [.own 1000 65 1 xs.length, .fn f []] [(1000, .row 65 1 xs.length (xs.map encP))] (.own 1000 65 1 xs.length) [(1000, .row 65 1 xs.length (xs.map encP))] [] := by
  have hm : ∀ {i}, i < xs.length → xs.getD i [] ∈ xs := fun {i} h => by rw [List.getD_eq_getElem?_getD, List.getElem?_eq_getElem h]; exact List.getElem_mem _
  refine GSpec.intro ok [] Tryz.func98 rfl rfl (m := 64) rfl rfl ?_
  conv => whnf
  skip
  refine bcase_intro (fun h => ?_) (fun h => ?_)
  · conv => whnf
    refine ⟨[], ?_⟩
    conv => whnf
    repeat' (first | exact rfl | exact trivial | exact ⟨_, rfl⟩ | exact ⟨rfl, rfl, rfl⟩ | refine And.intro ?_ ?_)
  · have h : 2 ≤ xs.length := by first | simpa [-List.getD_eq_getElem?_getD] using h | (simp [-List.getD_eq_getElem?_getD] at h; omega)
    conv => whnf
    refine ⟨{ i : Nat // 0 < i ∧ i ≤ xs.length }, fun q_ => match q_ with | ⟨i, _⟩ => ⟨[(5, .v (.int .i64 i))], []⟩, ⟨[false, false, false, false, true, true, true, true, false, false, false, false, true, true, true, true, true, true, true, true, true, true, true, true, true, true, true, true, true, true, true, true, true, true, true, true, true, true, true, true, true, true, true, true, true, true, true, true, true, true, true, true, true, true, true, true, true, true, true, true, true, true, true, true, true], [1000], []⟩, fun q_ => match q_ with | ⟨i, _⟩ => xs.length - i, ⟨⟨1, by omega, by omega⟩, [], ?_⟩, ?_⟩
    · conv => whnf
      repeat' (first | exact rfl | exact trivial | exact ⟨_, rfl⟩ | exact ⟨rfl, rfl, rfl⟩ | refine And.intro ?_ ?_)
    · rintro ⟨i, hi0, hi⟩
      conv => whnf
      refine bcase_intro (fun h3 => ?_) (fun h3 => ?_)
      · have h3 : i < xs.length := by first | simpa [-List.getD_eq_getElem?_getD] using h3 | (simp [-List.getD_eq_getElem?_getD] at h3; omega)
        conv => whnf
        repeat ((first | refine ⟨_, map_at0 [] h3, ?_⟩ | refine ⟨_, map_at0 [] (by omega : i - 1 < xs.length), ?_⟩ | refine ⟨_, wSub1 (by omega) (by omega), ?_⟩ | refine ⟨_, ⟨rfl, by omega⟩, ?_⟩ | refine anyA (by decide +kernel) ?_); conv => whnf)
        refine ⟨_, _, hf _ (hm h3) _ (hm (by omega : i - 1 < xs.length)), SubL.le (by repeat' (first | exact rfl | exact trivial | exact ⟨_, rfl⟩ | exact ⟨rfl, rfl, rfl⟩ | refine And.intro ?_ ?_)), ?_⟩
        conv => whnf
        rw [show sm (xs.getD i []) (xs.getD (i - 1) []) = false from hd i hi0 h3]
        conv => whnf
        repeat (refine ⟨_, wAdd1 (by omega), ?_⟩; conv => whnf)
        refine ⟨⟨i + 1, by omega, by omega⟩, [], by dsimp only; omega, ?_⟩
        conv => whnf
        repeat' (first | exact rfl | exact trivial | exact ⟨_, rfl⟩ | exact ⟨rfl, rfl, rfl⟩ | refine And.intro ?_ ?_)
      · have h3 : xs.length ≤ i := by first | simpa [-List.getD_eq_getElem?_getD] using h3 | (simp [-List.getD_eq_getElem?_getD] at h3; omega)
        conv => whnf
        refine ⟨[], ?_⟩
        conv => whnf
        repeat' (first | exact rfl | exact trivial | exact ⟨_, rfl⟩ | exact ⟨rfl, rfl, rfl⟩ | refine And.intro ?_ ?_)
theorem spl_set {X : Type} {f : X → C} {l : List X} {i : Nat} (x : X) (h : i < l.length) : spl (l.map f) (i * 1) [f x] = (l.set i x).map f := by
  rw [List.set_eq_take_append_cons_drop, if_pos h]
  simp [spl]
theorem take_set {X : Type} {l : List X} {i : Nat} (x : X) (h : i < l.length) : (l.set i x).take (i + 1) = l.take i ++ [x] := by
  rw [List.set_eq_take_append_cons_drop, if_pos h, List.take_append, List.take_of_length_le (by simp; omega), List.length_take, Nat.min_eq_left (by omega), Nat.add_sub_cancel_left]
  rfl
theorem getD_set {X : Type} {l : List X} {i m : Nat} {d : X} (x : X) (h : i ≠ m) : (l.set i x).getD m d = l.getD m d := by
  rw [List.getD_eq_getElem?_getD, List.getD_eq_getElem?_getD, List.getElem?_set_ne h]
theorem z65 (n : Nat) : zrow Ty.t65 n = List.replicate n (.v (.slice none 0 0)) := by
  induction n with
  | zero => rfl
  | succ n ih =>
    show (List.replicate (n + 1) [C.v (.slice none 0 0)]).flatten = _
    rw [List.replicate_succ, List.flatten_cons, List.replicate_succ]
    exact congrArg _ ih
theorem oneL_rep (n : Nat) {c : C} (h : one1 c = true) : oneL (List.replicate n c) = true := by
  induction n with
  | zero => rfl
  | succ n ih => rw [List.replicate_succ, oneL, h, ih]; rfl
theorem noNameL_rep (n : Nat) {c : C} (h : noName c = true) : noNameL (List.replicate n c) = true := by
  induction n with
  | zero => rfl
  | succ n ih => rw [List.replicate_succ, noNameL, h, ih]; rfl
theorem spl_fill {X : Type} {f : X → C} {l : List X} {j n : Nat} {c : C} (h : l.length = n) : spl (l.map f) (j * 1) (List.replicate (n - j) c) = (l.take j).map f ++ List.replicate (n - j) c := by
  unfold spl
  rw [List.length_replicate, Nat.mul_one, List.drop_of_length_le (by rw [List.length_map]; omega), List.append_nil, List.map_take]
theorem compact_some (xs : List Pl) (sm : Pl → Pl → Bool) (f : Nat) (hf : ∀ x ∈ xs, ∀ y ∈ xs, FSpec Tryz.prog f [encP x, encP y] (.v (.bool (sm x y)))) (hn : xs.length ≤ 1000000) (d0 : Nat) (hd0 : 0 < d0) (hd1 : d0 < xs.length) (hd : dupAt sm xs d0 = true) (hd2 : ∀ i, 0 < i → i < d0 → dupAt sm xs i = false) :
    GSpec Tryz.prog 98 [.own 1000 65 1 xs.length, .fn f []] [(1000, .row 65 1 xs.length (xs.map encP))] (.sub 1000 65 1 0 (compact sm xs).length) [(1000, .row 65 1 xs.length ((compact sm xs).map encP ++ List.replicate (xs.length - (compact sm xs).length) (.v (.slice none 0 0))))] [] := by
  have hm : ∀ {i}, i < xs.length → xs.getD i [] ∈ xs := fun {i} h => by rw [List.getD_eq_getElem?_getD, List.getElem?_eq_getElem h]; exact List.getElem_mem _
  have hk : ∀ k, 1 ≤ k → (keepN sm xs (d0 + k)).length ≤ d0 + k - 1 := by
    intro k hk
    induction k with
    | zero => omega
    | succ k ih =>
      rcases Nat.eq_zero_or_pos k with rfl | h
      · rw [keepN, if_pos ⟨by omega, hd⟩]
        exact keepN_length sm xs d0
      · have := ih h
        show (keepN sm xs (d0 + k + 1)).length ≤ _
        rw [keepN]
        split
        · omega
        · rw [List.length_append, List.length_singleton]; omega
  refine GSpec.intro ok [] Tryz.func98 rfl rfl (m := 64) rfl rfl ?_
  conv => whnf
  skip
  refine bcase_intro (fun h => ?_) (fun h => ?_)
  · have h : xs.length < 2 := by first | simpa [-List.getD_eq_getElem?_getD] using h | (simp [-List.getD_eq_getElem?_getD] at h; omega)
    omega
  · have h : 2 ≤ xs.length := by first | simpa [-List.getD_eq_getElem?_getD] using h | (simp [-List.getD_eq_getElem?_getD] at h; omega)
    conv => whnf
    refine ⟨{ i : Nat // 0 < i ∧ i ≤ d0 }, fun q_ => match q_ with | ⟨i, _⟩ => ⟨[(5, .v (.int .i64 i))], []⟩, ⟨[false, false, false, false, true, true, true, true, false, false, false, false, true, true, true, true, true, true, true, true, true, true, true, true, true, true, true, true, true, true, true, true, true, true, true, true, true, true, true, true, true, true, true, true, true, true, true, true, true, true, true, true, true, true, true, true, true, true, true, true, true, true, true, true, true], [1000], []⟩, fun q_ => match q_ with | ⟨i, _⟩ => xs.length - i, ⟨⟨1, by omega, by omega⟩, [], ?_⟩, ?_⟩
    · conv => whnf
      repeat' (first | exact rfl | exact trivial | exact ⟨_, rfl⟩ | exact ⟨rfl, rfl, rfl⟩ | refine And.intro ?_ ?_)
    · rintro ⟨i, hi0, hi⟩
      conv => whnf
      rw [show decide ((i : Int) < xs.length) = true from by simp; omega]
      conv => whnf
      repeat ((first | refine ⟨_, map_at0 [] (by omega : i < xs.length), ?_⟩ | refine ⟨_, map_at0 [] (by omega : i - 1 < xs.length), ?_⟩ | refine ⟨_, wSub1 (by omega) (by omega), ?_⟩ | refine ⟨_, ⟨rfl, by omega⟩, ?_⟩ | refine anyA (by decide +kernel) ?_); conv => whnf)
      refine ⟨_, _, hf _ (hm (by omega : i < xs.length)) _ (hm (by omega : i - 1 < xs.length)), SubL.le (by repeat' (first | exact rfl | exact trivial | exact ⟨_, rfl⟩ | exact ⟨rfl, rfl, rfl⟩ | refine And.intro ?_ ?_)), ?_⟩
      conv => whnf
      by_cases h4 : i = d0
      · rw [show sm (xs.getD i []) (xs.getD (i - 1) []) = true from h4 ▸ hd]
        subst h4
        conv => whnf
        repeat (refine ⟨_, _, ⟨rfl, rfl, by omega, by omega⟩, ?_⟩; conv => whnf)
        have e1 : keepN sm xs (i + 1) = xs.take i := by
          rw [keepN, if_pos ⟨by omega, hd⟩]
          exact keepN_nodup (by omega) hd2
        have e2 : i = (keepN sm xs (i + 1)).length := by rw [e1, List.length_take]; omega
        refine ⟨{ q : Nat × Nat × List Pl // 1 ≤ q.1 ∧ i + q.1 ≤ xs.length ∧ q.2.1 = (keepN sm xs (i + q.1)).length ∧ q.2.2.length = xs.length ∧ q.2.2.take q.2.1 = keepN sm xs (i + q.1) ∧ (∀ m, i + q.1 ≤ m + 1 → q.2.2.getD m [] = xs.getD m []) }, fun q_ => match q_ with | ⟨(k, j, arr), _⟩ => ⟨[(5, .v (.int .i64 j)), (7, .v (.int .i64 k))], [(1000, .row 65 1 xs.length (arr.map encP))]⟩, ⟨[false, false, false, false, false, true, false, true, false, false, false, false, false, false, false, false, false, false, false, false, false, false, false, false, false, false, false, false, false, false, false, false, true, true, true, true, true, true, true, true, true, true, true, true, true, true, true, true, true, true, true, true, true, true, true, true, true, true, true], [], []⟩, fun q_ => match q_ with | ⟨(k, j, arr), _⟩ => xs.length - k, ⟨⟨(1, i, xs), Nat.le_refl _, by omega, e2, rfl, e1.symm, fun _ _ => rfl⟩, [], ?_⟩, ?_⟩
        · conv => whnf
          repeat' (first | exact rfl | exact trivial | exact ⟨_, rfl⟩ | exact ⟨rfl, rfl, rfl⟩ | refine And.intro ?_ ?_)
        · rintro ⟨⟨k, j, arr⟩, hk1, hk2, hj, ha, hat, har⟩
          simp only at hk1 hk2 hj ha hat har
          have hkk := hk k hk1
          conv => whnf
          refine bcase_intro (fun h5 => ?_) (fun h5 => ?_)
          · have h5 : k < xs.length - i := by first | simpa [-List.getD_eq_getElem?_getD] using h5 | (simp [-List.getD_eq_getElem?_getD] at h5; omega)
            have g1 : arr.getD (i + k) [] = xs.getD (i + k) [] := har _ (by omega)
            have g2 : arr.getD (i + (k - 1)) [] = xs.getD (i + k - 1) [] := by rw [har _ (by omega), show i + (k - 1) = i + k - 1 by omega]
            have l1 : (arr.map encP)[(i + k) * 1]? = some (encP (xs.getD (i + k) [])) := by rw [map_at0 [] (by omega : i + k < arr.length), g1]
            have l2 : (arr.map encP)[(i + (k - 1)) * 1]? = some (encP (xs.getD (i + k - 1) [])) := by rw [map_at0 [] (by omega : i + (k - 1) < arr.length), g2]
            conv => whnf
            repeat ((first | refine ⟨_, l1, ?_⟩ | refine ⟨_, l2, ?_⟩ | refine ⟨_, wSub1 (by omega) (by omega), ?_⟩ | refine ⟨_, ⟨rfl, by omega⟩, ?_⟩ | refine anyA (by decide +kernel) ?_); conv => whnf)
            refine ⟨_, _, hf _ (hm (by omega : i + k < xs.length)) _ (hm (by omega : i + k - 1 < xs.length)), SubL.le (by repeat' (first | exact rfl | exact trivial | exact ⟨_, rfl⟩ | exact ⟨rfl, rfl, rfl⟩ | refine And.intro ?_ ?_)), ?_⟩
            conv => whnf
            skip
            refine bcase_intro (fun h6 => ?_) (fun h6 => ?_)
            · have h6 : sm (xs.getD (i + k) []) (xs.getD (i + k - 1) []) = false := by first | simpa [-List.getD_eq_getElem?_getD] using h6 | (simp [-List.getD_eq_getElem?_getD] at h6; omega)
              have e4 : keepN sm xs (i + (k + 1)) = keepN sm xs (i + k) ++ [xs.getD (i + k) []] := by
                show keepN sm xs (i + k + 1) = _
                rw [keepN, if_neg]
                rintro ⟨_, h7⟩
                rw [dupAt, h6] at h7
                cases h7
              conv => whnf
              repeat ((first | refine ⟨_, l1, ?_⟩ | refine ⟨_, ⟨rfl, by omega⟩, ?_⟩); conv => whnf)
              refine ⟨by show j * 1 + 1 ≤ _; simp; omega, _, spl_set (xs.getD (i + k) []) (by omega), ?_⟩
              conv => whnf
              repeat (refine ⟨_, wAdd1 (by omega), ?_⟩; conv => whnf)
              have t1 : (arr.set j (xs.getD (i + k) [])).take (j + 1) = keepN sm xs (i + (k + 1)) := by rw [e4, take_set _ (by omega), hat]
              have t2 : ∀ m, i + (k + 1) ≤ m + 1 → (arr.set j (xs.getD (i + k) [])).getD m [] = xs.getD m [] := by
                intro m hm
                rw [getD_set _ (by omega)]
                exact har m (by omega)
              have t3 : j + 1 = (keepN sm xs (i + (k + 1))).length := by rw [e4, List.length_append, List.length_singleton, ← hj]
              refine ⟨⟨(k + 1, j + 1, arr.set j (xs.getD (i + k) [])), by simp only; omega, by simp only; omega, t3, by simp only [List.length_set]; exact ha, t1, t2⟩, [], by dsimp only; omega, ?_⟩
              conv => whnf
              repeat' (first | exact rfl | exact trivial | exact ⟨_, rfl⟩ | exact ⟨rfl, rfl, rfl⟩ | refine And.intro ?_ ?_)
            · have h6 : sm (xs.getD (i + k) []) (xs.getD (i + k - 1) []) = true := by first | simpa [-List.getD_eq_getElem?_getD] using h6 | (simp [-List.getD_eq_getElem?_getD] at h6; omega)
              have e4 : keepN sm xs (i + (k + 1)) = keepN sm xs (i + k) := by
                show keepN sm xs (i + k + 1) = _
                rw [keepN, if_pos ⟨by omega, h6⟩]
              conv => whnf
              repeat (refine ⟨_, wAdd1 (by omega), ?_⟩; conv => whnf)
              refine ⟨⟨(k + 1, j, arr), by simp only; omega, by simp only; omega, by simp only; rw [e4, hj], ha, by simp only; rw [e4, hat], fun m hm => har m (by simp only at hm; omega)⟩, [], by dsimp only; omega, ?_⟩
              conv => whnf
              repeat' (first | exact rfl | exact trivial | exact ⟨_, rfl⟩ | exact ⟨rfl, rfl, rfl⟩ | refine And.intro ?_ ?_)
          · have h5 : xs.length - i ≤ k := by first | simpa [-List.getD_eq_getElem?_getD] using h5 | (simp [-List.getD_eq_getElem?_getD] at h5; omega)
            have e3 : k = xs.length - i := by omega
            conv => whnf
            repeat (refine ⟨_, _, ⟨rfl, rfl, by omega, by omega⟩, ?_⟩; conv => whnf)
            have hjc : j = (compact sm xs).length := by rw [hj, compact, show i + k = xs.length by omega]
            have hfin : spl (arr.map encP) (j * 1) (zrow Ty.t65 (xs.length - j)) = (compact sm xs).map encP ++ List.replicate (xs.length - (compact sm xs).length) (.v (.slice none 0 0)) := by
              rw [z65, spl_fill (by omega), hat, ← hjc, show i + k = xs.length by omega, compact]
            refine ⟨by omega, bchk_iff.2 ⟨?_, ?_, _, hfin, ?_⟩⟩
            · rw [z65, Bool.and_eq_true]; exact ⟨oneL_rep _ rfl, noNameL_rep _ rfl⟩
            · rw [z65]; simp; omega
            subst hjc
            conv => whnf
            repeat (refine ⟨_, _, ⟨rfl, rfl, by omega, by omega⟩, ?_⟩; conv => whnf)
            refine ⟨[], ?_⟩
            conv => whnf
            repeat' (first | exact rfl | exact trivial | exact ⟨_, rfl⟩ | exact ⟨rfl, rfl, rfl⟩ | refine And.intro ?_ ?_)
      · rw [show sm (xs.getD i []) (xs.getD (i - 1) []) = false from hd2 i hi0 (by omega)]
        conv => whnf
        repeat (refine ⟨_, wAdd1 (by omega), ?_⟩; conv => whnf)
        refine ⟨⟨i + 1, by omega, by omega⟩, [], by dsimp only; omega, ?_⟩
        conv => whnf
        repeat' (first | exact rfl | exact trivial | exact ⟨_, rfl⟩ | exact ⟨rfl, rfl, rfl⟩ | refine And.intro ?_ ?_)
end Go.Proofs.YtbhnankggcfndaaGreat
namespace Go.Proofs.YtbhnankggcfndaaGreat
open El Go.Shelf Go.Sort
set_option maxRecDepth 10000
set_option maxHeartbeats 4000000
/-- A total order, told by three signs. -/
structure TO {X : Type} (c : X → X → Int) : Prop where
  eq : ∀ a b, c a b = 0 ↔ a = b
  anti : ∀ a b, c a b < 0 ↔ 0 < c b a
  trans : ∀ a b d, c a b < 0 → c b d < 0 → c a d < 0
theorem TO.swo {X : Type} {c : X → X → Int} (h : TO c) : SWO (ltOf c) where
  irrefl x := by
    have := (h.eq x x).2 rfl
    simp [ltOf, this]
  trans x y z h1 h2 := by
    simp only [ltOf, decide_eq_true_eq] at h1 h2 ⊢
    exact h.trans x y z h1 h2
  ntrans x y z h1 h2 := by
    simp only [ltOf, decide_eq_false_iff_not, Int.not_lt] at h1 h2 ⊢
    rcases Int.lt_or_eq_of_le h1 with a | a
    · rcases Int.lt_or_eq_of_le h2 with b | b
      · have := (h.anti z x).1 (h.trans z y x ((h.anti z y).2 b) ((h.anti y x).2 a))
        omega
      · have := (h.eq y z).1 b.symm
        subst this; omega
    · have := (h.eq x y).1 a.symm
      subst this; exact h2
theorem TO.natL : TO cmpL where
  eq a := by
    induction a with
    | nil => intro b; cases b <;> simp [cmpL]
    | cons x a ih =>
      intro b
      cases b with
      | nil => simp [cmpL]
      | cons y b =>
        have := ih b
        simp only [cmpL, List.cons.injEq]
        split
        · constructor <;> omega
        · split
          · constructor <;> omega
          · rw [this]; constructor
            · intro e; exact ⟨by omega, e⟩
            · exact fun e => e.2
  anti a := by
    induction a with
    | nil => intro b; cases b <;> simp [cmpL]
    | cons x a ih =>
      intro b
      cases b with
      | nil => simp [cmpL]
      | cons y b =>
        have := ih b
        simp only [cmpL]
        split
        · rw [if_neg (by omega)]; omega
        · split
          · omega
          · exact this
  trans a := by
    induction a with
    | nil =>
      intro b d
      cases b <;> cases d <;> simp [cmpL]
    | cons x a ih =>
      intro b d
      cases b with
      | nil => simp [cmpL]
      | cons y b =>
        cases d with
        | nil => simp [cmpL]
        | cons z d =>
          simp only [cmpL]
          have := ih b d
          intro h1 h2
          by_cases e1 : x < y
          · by_cases e2 : y < z
            · rw [if_pos (by omega)]; omega
            · rw [if_neg e2] at h2
              by_cases e3 : z < y
              · rw [if_pos e3] at h2; omega
              · rw [if_pos (by omega)]; omega
          · rw [if_neg e1] at h1
            by_cases e0 : y < x
            · rw [if_pos e0] at h1; omega
            · rw [if_neg e0] at h1
              by_cases e2 : y < z
              · rw [if_pos (by omega)]; omega
              · rw [if_neg e2] at h2
                by_cases e3 : z < y
                · rw [if_pos e3] at h2; omega
                · rw [if_neg e3] at h2
                  rw [if_neg (by omega), if_neg (by omega)]
                  exact this h1 h2
theorem Mo.l_inj {a b : Mo} (h : a.l = b.l) : a = b := by
  rcases a with ⟨⟩; rcases b with ⟨⟩
  simp only [Mo.l] at h
  simp at h
  simp [h]
theorem TO.mo : TO cmpM where
  eq a b := (TO.natL.eq a.l b.l).trans ⟨Mo.l_inj, fun h => by rw [h]⟩
  anti a b := TO.natL.anti a.l b.l
  trans a b d := TO.natL.trans a.l b.l d.l
theorem rat_lt_trans {a b d : Rat} (h1 : a < b) (h2 : b < d) : a < d :=
  Rat.lt_of_le_of_ne (Rat.le_trans (Rat.le_of_lt h1) (Rat.le_of_lt h2)) (fun e => by
    subst e
    have := Rat.le_antisymm (Rat.le_of_lt h1) (Rat.le_of_lt h2)
    subst this
    exact Rat.lt_irrefl h1)
theorem TO.rat : TO cmpQ where
  eq a b := by
    unfold cmpQ
    constructor
    · intro h
      split at h
      · omega
      · split at h
        · omega
        · exact Rat.le_antisymm (Rat.not_lt.1 (by assumption)) (Rat.not_lt.1 (by assumption))
    · rintro rfl
      rw [if_neg Rat.lt_irrefl, if_neg Rat.lt_irrefl]
  anti a b := by
    unfold cmpQ
    by_cases h1 : a < b
    · have : ¬ b < a := fun h => Rat.lt_irrefl (rat_lt_trans h h1)
      simp [h1, this]
    · by_cases h2 : b < a <;> simp [h1, h2]
  trans a b d h1 h2 := by
    unfold cmpQ at *
    have h1 : a < b := by
      apply Decidable.byContradiction
      intro h
      rw [if_neg h] at h1
      split at h1 <;> omega
    have h2 : b < d := by
      apply Decidable.byContradiction
      intro h
      rw [if_neg h] at h2
      split at h2 <;> omega
    rw [if_pos (rat_lt_trans h1 h2)]
    omega
theorem TO.tm : TO cmpT where
  eq a b := by
    unfold cmpT
    have h1 := TO.mo.eq a.2 b.2
    have h2 := TO.rat.eq a.1 b.1
    split
    · rename_i h
      constructor
      · intro e; exact absurd e h
      · rintro rfl; exact absurd (h1.2 rfl) h
    · rename_i h
      have h : cmpM a.2 b.2 = 0 := Decidable.byContradiction h
      rw [h2]
      constructor
      · intro e; exact Prod.ext e (h1.1 h)
      · rintro rfl; rfl
  anti a b := by
    unfold cmpT
    have h1 := TO.mo.anti a.2 b.2
    have h1' := TO.mo.anti b.2 a.2
    have h2 := TO.rat.anti a.1 b.1
    by_cases h : cmpM a.2 b.2 = 0
    · have h' : cmpM b.2 a.2 = 0 := by omega
      simp only [h, h', ne_eq, not_true, if_false]
      exact h2
    · have h' : cmpM b.2 a.2 ≠ 0 := by omega
      rw [if_pos h, if_pos h']
      exact h1
  trans a b d := by
    unfold cmpT
    have a1 := TO.mo.eq a.2 b.2
    have a2 := TO.mo.eq b.2 d.2
    have t1 := TO.mo.trans a.2 b.2 d.2
    have t2 := TO.rat.trans a.1 b.1 d.1
    intro h1 h2
    by_cases e1 : cmpM a.2 b.2 = 0
    · rw [if_neg (fun h => h e1)] at h1
      have e := a1.1 e1
      rw [e]
      by_cases e2 : cmpM b.2 d.2 = 0
      · rw [if_neg (fun h => h e2)] at h2
        rw [if_neg (fun h => h e2)]
        exact t2 h1 h2
      · rw [if_pos e2] at h2 ⊢
        exact h2
    · rw [if_pos e1] at h1
      by_cases e2 : cmpM b.2 d.2 = 0
      · rw [← a2.1 e2, if_pos e1]
        exact h1
      · rw [if_pos e2] at h2
        have := t1 h1 h2
        rw [if_pos (by omega)]
        exact this
theorem TO.pl : TO cmpP where
  eq a := by
    induction a with
    | nil => intro b; cases b <;> simp [cmpP]
    | cons x a ih =>
      intro b
      cases b with
      | nil => simp [cmpP]
      | cons y b =>
        have h1 := ih b
        have h2 := TO.tm.eq x y
        simp only [cmpP, List.cons.injEq]
        split
        · rename_i h
          constructor
          · intro e; exact absurd e h
          · intro e; exact absurd (h2.2 e.1) h
        · rename_i h
          rw [h1]
          exact ⟨fun e => ⟨h2.1 (Decidable.byContradiction h), e⟩, fun e => e.2⟩
  anti a := by
    induction a with
    | nil => intro b; cases b <;> simp [cmpP]
    | cons x a ih =>
      intro b
      cases b with
      | nil => simp [cmpP]
      | cons y b =>
        have h1 := ih b
        have h2 := TO.tm.anti x y
        have h3 := TO.tm.anti y x
        simp only [cmpP]
        by_cases h : cmpT x y = 0
        · rw [if_neg (fun e => e h), if_neg (fun e => e (by omega))]
          exact h1
        · rw [if_pos h, if_pos (by omega)]
          exact h2
  trans a := by
    induction a with
    | nil => intro b d; cases b <;> cases d <;> simp [cmpP]
    | cons x a ih =>
      intro b d
      cases b with
      | nil => simp [cmpP]
      | cons y b =>
        cases d with
        | nil => simp [cmpP]
        | cons z d =>
          have h1 := ih b d
          simp only [cmpP]
          intro g1 g2
          by_cases e1 : cmpT x y = 0
          · rw [if_neg (fun h => h e1)] at g1
            rw [(TO.tm.eq x y).1 e1]
            by_cases e2 : cmpT y z = 0
            · rw [if_neg (fun h => h e2)] at g2 ⊢
              exact h1 g1 g2
            · rw [if_pos e2] at g2 ⊢
              exact g2
          · rw [if_pos e1] at g1
            by_cases e2 : cmpT y z = 0
            · rw [← (TO.tm.eq y z).1 e2, if_pos e1]; exact g1
            · rw [if_pos e2] at g2
              have := TO.tm.trans x y z g1 g2
              rw [if_pos (by omega)]; exact this
/-! ### Sorting -/
def ins {X : Type} (c : X → X → Int) (x : X) : List X → List X
  | [] => [x]
  | y :: l => if c y x < 0 then y :: ins c x l else x :: y :: l
def isort {X : Type} (c : X → X → Int) (l : List X) : List X := l.foldr (ins c) []
theorem ins_perm {X : Type} (c : X → X → Int) (x : X) (l : List X) : (ins c x l).Perm (x :: l) := by
  induction l with
  | nil => exact .refl _
  | cons y l ih =>
    rw [ins]
    split
    · exact (ih.cons y).trans (.swap x y l)
    · exact .refl _
theorem isort_perm {X : Type} (c : X → X → Int) (l : List X) : (isort c l).Perm l := by
  induction l with
  | nil => exact .refl _
  | cons x l ih => exact (ins_perm c x _).trans (ih.cons x)
theorem isort_length {X : Type} (c : X → X → Int) (l : List X) : (isort c l).length = l.length := (isort_perm c l).length_eq
theorem ins_sorted {X : Type} {c : X → X → Int} (h : TO c) (x : X) {l : List X} (hl : l.Pairwise (fun a b => ¬ c b a < 0)) : (ins c x l).Pairwise (fun a b => ¬ c b a < 0) := by
  induction l with
  | nil => exact List.pairwise_singleton ..
  | cons y l ih =>
    rw [List.pairwise_cons] at hl
    rw [ins]
    split
    · rename_i e
      rw [List.pairwise_cons]
      refine ⟨fun z hz => ?_, ih hl.2⟩
      rcases List.mem_cons.1 ((ins_perm c x l).mem_iff.1 hz) with rfl | hz
      · have := h.anti y z; omega
      · exact hl.1 z hz
    · rename_i e
      rw [List.pairwise_cons]
      refine ⟨fun z hz => ?_, List.pairwise_cons.2 hl⟩
      rcases List.mem_cons.1 hz with rfl | hz
      · exact e
      · intro e2
        have h1 := hl.1 z hz
        have h3 := h.swo.ntrans z y x (by simp only [ltOf, decide_eq_false_iff_not]; exact h1) (by simp only [ltOf, decide_eq_false_iff_not]; exact e)
        simp only [ltOf, decide_eq_false_iff_not] at h3
        exact h3 e2
theorem isort_sorted {X : Type} {c : X → X → Int} (h : TO c) (l : List X) : (isort c l).Pairwise (fun a b => ¬ c b a < 0) := by
  induction l with
  | nil => exact List.Pairwise.nil
  | cons x l ih => exact ins_sorted h x ih
theorem TO.uniq {X : Type} {c : X → X → Int} (h : TO c) {l m : List X} (hp : l.Perm m) (h1 : l.Pairwise (fun a b => ¬ c b a < 0)) (h2 : m.Pairwise (fun a b => ¬ c b a < 0)) : l = m :=
  List.Perm.eq_of_pairwise (fun a b _ _ g1 g2 => by
    have := h.anti a b
    have := h.anti b a
    exact (h.eq a b).1 (by omega)) h1 h2 hp
theorem TO.isort {X : Type} {c : X → X → Int} (h : TO c) {l m : List X} (hp : l.Perm m) (h1 : l.Pairwise (fun a b => ¬ c b a < 0)) : l = isort c m :=
  h.uniq (hp.trans (isort_perm c m).symm) h1 (isort_sorted h m)
end Go.Proofs.YtbhnankggcfndaaGreat
namespace Go.Proofs.YtbhnankggcfndaaGreat
open El Go.Shelf Go.Sort
set_option maxRecDepth 10000
set_option maxHeartbeats 4000000
/-- Two names change places. -/
def swp (a b x : Nat) : Nat := if x = a then b else if x = b then a else x
theorem swp_inj (a b : Nat) : Function.Injective (swp a b) := by
  intro x y h
  unfold swp at h
  split at h <;> split at h <;> first | omega | (split at h <;> first | omega | (split at h <;> omega))
instance : Inhabited Pl := ⟨[]⟩
theorem sortP_g (F f : Nat) (hF : FnOk Tryz.prog F) (hs : Sorts1 Tryz.prog F f) (c : Pl → Pl → Int) (hc : TO c) (xs : List Pl) (hcmp : ∀ x ∈ xs, ∀ y ∈ xs, FSpec Tryz.prog f [encP x, encP y] (.v (.int .i64 (c x y)))) (hf : FnOk Tryz.prog f) (hn : xs.length ≤ 1000000) (m : Nat) :
    GSpec Tryz.prog F [.own (swp 1000 m 1000) 65 1 xs.length, .fn f []] [(swp 1000 m 1000, .row 65 1 xs.length (xs.map encP))] (.tup []) [(swp 1000 m 1000, .row 65 1 xs.length ((isort c xs).map encP))] [] :=
  (sort1_g hF hs encP (fun _ => rfl) c hc.swo 65 xs (isort c xs) hcmp hf (fun zs hp hs => hc.isort hp hs) (by omega)).ren (swp_inj 1000 m)
def smP (p q : Pl) : Bool := cmpP p q == 0
def tidyOf (xs : List Pl) : List Pl := compact smP (isort cmpP xs)
def tidyP (l : List Pl) : List Pl := tidyOf (l.map normP)
theorem ps_nil : Ps [] := ⟨Nat.zero_le _, fun t h => absurd h (by simp)⟩
theorem sort_fn : FnOk Tryz.prog 96 := ⟨_, Tryz.func96, rfl, rfl⟩
theorem cmp_fn : FnOk Tryz.prog 97 := (pcmp_spec [] [] ps_nil ps_nil).1
theorem psort_g (xs : List Pl) (hx : ∀ x ∈ xs, Ps x) (hn : xs.length ≤ 1000000) :
    GSpec Tryz.prog 96 [.own 100 65 1 xs.length, .fn 97 []] [(100, .row 65 1 xs.length (xs.map encP))] (.tup []) [(100, .row 65 1 xs.length ((isort cmpP xs).map encP))] [] :=
  sortP_g _ _ sort_fn (sortsP _ cmp_fn) cmpP TO.pl xs (fun x h1 y h2 => pcmp_spec x y (hx x h1) (hx y h2)) cmp_fn hn 100
theorem compact_none100 (xs : List Pl) (hx : ∀ x ∈ xs, Ps x) (hn : xs.length ≤ 1000000) (hd : nodup smP xs) :
    GSpec Tryz.prog 98 [.own 100 65 1 xs.length, .fn 80 []] [(100, .row 65 1 xs.length (xs.map encP))] (.own 100 65 1 xs.length) [(100, .row 65 1 xs.length (xs.map encP))] [] :=
  (compact_none xs smP 80 (fun x h1 y h2 => psame_spec x y (hx x h1) (hx y h2)) hn hd).ren (swp_inj 1000 100)
theorem compact_some100 (xs : List Pl) (hx : ∀ x ∈ xs, Ps x) (hn : xs.length ≤ 1000000) (hd : ¬ nodup smP xs) :
    GSpec Tryz.prog 98 [.own 100 65 1 xs.length, .fn 80 []] [(100, .row 65 1 xs.length (xs.map encP))] (.sub 100 65 1 0 (compact smP xs).length) [(100, .row 65 1 xs.length ((compact smP xs).map encP ++ List.replicate (xs.length - (compact smP xs).length) (.v (.slice none 0 0))))] [] := by
  have hex : ∃ d, 0 < d ∧ d < xs.length ∧ dupAt smP xs d = true := by
    apply Classical.byContradiction
    intro h
    refine hd fun i h1 h2 => ?_
    cases e : dupAt smP xs i with
    | false => rfl
    | true => exact absurd ⟨i, h1, h2, e⟩ h
  have hmin : ∃ d, 0 < d ∧ d < xs.length ∧ dupAt smP xs d = true ∧ ∀ i, 0 < i → i < d → dupAt smP xs i = false := by
    obtain ⟨d, h1, h2, h3⟩ := hex
    induction d using Nat.strongRecOn with
    | _ d ih =>
      by_cases h : ∃ i, 0 < i ∧ i < d ∧ dupAt smP xs i = true
      · obtain ⟨i, g1, g2, g3⟩ := h
        exact ih i g2 g1 (by omega) g3
      · refine ⟨d, h1, h2, h3, fun i g1 g2 => ?_⟩
        cases e : dupAt smP xs i with
        | false => rfl
        | true => exact absurd ⟨i, g1, g2, e⟩ h
  obtain ⟨d, h1, h2, h3, h4⟩ := hmin
  exact (compact_some xs smP 80 (fun x h1 y h2 => psame_spec x y (hx x h1) (hx y h2)) hn d h1 h2 h3 h4).ren (swp_inj 1000 100)
theorem take_map_snoc {l : List Pl} {i : Nat} (h : i < l.length) : (l.map normP).take (i + 1) = (l.map normP).take i ++ [normP (l.getD i [])] := by
  rw [List.take_add_one, List.getElem?_map, List.getElem?_eq_getElem h, List.getD_eq_getElem?_getD, List.getElem?_eq_getElem h]
  rfl
theorem tidy_spec (l : List Pl) (hl : l.length ≤ 100000) (h1 : ∀ p ∈ l, Nm p) (h2 : ∀ p ∈ l, Ps (normP p)) : FSpec Tryz.prog 49 [encL l] (encL (tidyP l)) := by
  have hx : ∀ x ∈ l.map normP, Ps x := by
    intro x hx
    obtain ⟨p, hp, rfl⟩ := List.mem_map.1 hx
    exact h2 p hp
  refine FSpec.intro ok [(7, ([], some [100])), (8, ([], some [100]))] Tryz.func49 rfl rfl (m := 21) rfl ?_
  conv => whnf
  skip
  refine ⟨{ i : Nat // i ≤ l.length }, fun q_ => match q_ with | ⟨i, _⟩ => ⟨[(3, .own 100 65 1 i), (8, .v (.int .i64 i))], [(100, .row 65 1 i (((l.map normP).take i).map encP))]⟩, ⟨[false, false, false, true, false, true, false, false, true, true, true, true, true, true, true, true, true, true], [], [100]⟩, fun q_ => match q_ with | ⟨i, _⟩ => l.length - i, ⟨⟨0, Nat.zero_le _⟩, [(100, none)], ?_⟩, ?_⟩
  · conv => whnf
    repeat' (first | exact rfl | exact trivial | exact ⟨_, rfl⟩ | exact ⟨rfl, rfl, rfl⟩ | refine And.intro ?_ ?_)
  · rintro ⟨i, hi⟩
    conv => whnf
    refine bcase_intro (fun h => ?_) (fun h => ?_)
    · have h : i < l.length := by first | simpa [-List.getD_eq_getElem?_getD] using h | (simp [-List.getD_eq_getElem?_getD] at h; omega)
      have hm : l.getD i [] ∈ l := by rw [List.getD_eq_getElem?_getD, List.getElem?_eq_getElem h]; exact List.getElem_mem _
      conv => whnf
      repeat ((first | refine ⟨_, lt_P h, ?_⟩ | refine ⟨_, ⟨rfl, by omega⟩, ?_⟩); conv => whnf)
      refine ⟨_, _, normal_spec _ (h1 _ hm), SubL.le (by repeat' (first | exact rfl | exact trivial | exact ⟨_, rfl⟩ | exact ⟨rfl, rfl, rfl⟩ | refine And.intro ?_ ?_)), ?_⟩
      conv => whnf
      refine ⟨rfl, ?_⟩
      conv => whnf
      refine ⟨rfl, ?_⟩
      conv => whnf
      refine ⟨rfl, ?_⟩
      conv => whnf
      refine ⟨⟨by show _ * 24 ≤ _; omega, by omega⟩, ((l.map normP).take (i + 1)).map encP, i + 1, ⟨by rw [take_map_snoc h]; simp; rfl, by simp⟩, ?_⟩
      conv => whnf
      repeat (refine ⟨_, wAdd1 (by omega), ?_⟩; conv => whnf)
      refine ⟨⟨i + 1, by omega⟩, [(100, some 16)], by dsimp only; omega, ?_⟩
      conv => whnf
      repeat' (first | exact rfl | exact trivial | exact ⟨_, rfl⟩ | exact ⟨rfl, rfl, rfl⟩ | refine And.intro ?_ ?_)
    · have h : l.length ≤ i := by first | simpa [-List.getD_eq_getElem?_getD] using h | (simp [-List.getD_eq_getElem?_getD] at h; omega)
      have e : i = l.length := by omega
      subst e
      have e2 : (l.map normP).take l.length = l.map normP := List.take_of_length_le (by simp)
      have e3 : (isort cmpP (l.map normP)).length = l.length := by rw [isort_length, List.length_map]
      have hx2 : ∀ x ∈ isort cmpP (l.map normP), Ps x := fun x h => hx x ((isort_perm _ _).mem_iff.1 h)
      have hs := psort_g (l.map normP) hx (by rw [List.length_map]; omega)
      rw [List.length_map] at hs
      rw [e2]
      conv => whnf
      skip
      refine ⟨_, _, _, _, _, hs, ?_, ?_, bchk_iff.2 ⟨?_, ?_⟩⟩
      · repeat' (first | exact rfl | exact trivial | exact ⟨_, rfl⟩ | exact ⟨rfl, rfl, rfl⟩ | refine And.intro ?_ ?_)
      · repeat' (first | exact rfl | exact trivial | exact ⟨_, rfl⟩ | exact ⟨rfl, rfl, rfl⟩ | refine And.intro ?_ ?_)
      · rfl
      conv => whnf
      by_cases hd : nodup smP (isort cmpP (l.map normP))
      · have hc := compact_none100 _ hx2 (by omega) hd
        rw [e3] at hc
        refine ⟨_, _, _, _, _, hc, ?_, ?_, bchk_iff.2 ⟨?_, ?_⟩⟩
        · repeat' (first | exact rfl | exact trivial | exact ⟨_, rfl⟩ | exact ⟨rfl, rfl, rfl⟩ | refine And.intro ?_ ?_)
        · repeat' (first | exact rfl | exact trivial | exact ⟨_, rfl⟩ | exact ⟨rfl, rfl, rfl⟩ | refine And.intro ?_ ?_)
        · rfl
        conv => whnf
        refine ⟨[100], ?_⟩
        conv => whnf
        have ef : tidyP l = isort cmpP (l.map normP) := compact_nodup hd
        have eE : encL (tidyP l) = .sl 65 1 l.length false ((isort cmpP (l.map normP)).map encP) := by rw [ef, encL, e3]
        rw [eE]
        repeat' (first | exact rfl | exact trivial | exact ⟨_, rfl⟩ | exact ⟨rfl, rfl, rfl⟩ | refine And.intro ?_ ?_)
      · have hc := compact_some100 _ hx2 (by omega) hd
        rw [e3] at hc
        refine ⟨_, _, _, _, _, hc, ?_, ?_, bchk_iff.2 ⟨?_, ?_⟩⟩
        · repeat' (first | exact rfl | exact trivial | exact ⟨_, rfl⟩ | exact ⟨rfl, rfl, rfl⟩ | refine And.intro ?_ ?_)
        · repeat' (first | exact rfl | exact trivial | exact ⟨_, rfl⟩ | exact ⟨rfl, rfl, rfl⟩ | refine And.intro ?_ ?_)
        · rfl
        conv => whnf
        refine ⟨[100], ?_⟩
        conv => whnf
        have hcl : (compact smP (isort cmpP (l.map normP))).length ≤ l.length := by rw [← e3]; exact keepN_length _ _ _
        have eE : encL (tidyP l) = .sl 65 1 (compact smP (isort cmpP (l.map normP))).length false (List.take ((compact smP (isort cmpP (l.map normP))).length * 1) (List.drop (0 * 1) ((compact smP (isort cmpP (l.map normP))).map encP ++ List.replicate (l.length - (compact smP (isort cmpP (l.map normP))).length) (.v (.slice none 0 0))))) := by
          rw [Nat.zero_mul, List.drop_zero, Nat.mul_one, List.take_append_of_le_length (by simp), List.take_of_length_le (by simp)]
          rfl
        rw [eE]
        generalize compact smP (isort cmpP (l.map normP)) = cc at *
        repeat' (first | exact rfl | exact trivial | exact ⟨_, rfl⟩ | exact ⟨rfl, rfl, rfl⟩ | (exact (by omega)) | refine And.intro ?_ ?_)
end Go.Proofs.YtbhnankggcfndaaGreat
namespace Go.Proofs.YtbhnankggcfndaaGreat
open El Go.Shelf Go.Sort
set_option maxRecDepth 10000
set_option maxHeartbeats 4000000
theorem index_none (l : List Pl) (bad : Pl → Bool) (f T : Nat) (x : Go.Value) (hl : l.length ≤ 1000000) (hf : ∀ p ∈ l, FSpec Tryz.prog f [encP p, .cel T [.v x]] (.v (.bool (bad p)))) (h : ∀ p ∈ l, bad p = false) :
    FSpec Tryz.prog 90 [encL l, .fn f [.cel T [.v x]]] (.v (.int .i64 (-1))) := by
  have hm : ∀ {i}, i < l.length → l.getD i [] ∈ l := fun {i} h => by rw [List.getD_eq_getElem?_getD, List.getElem?_eq_getElem h]; exact List.getElem_mem _
  refine FSpec.intro ok [] Tryz.func90 rfl rfl (m := 17) rfl ?_
  conv => whnf
  skip
  refine ⟨{ i : Nat // i ≤ l.length }, fun q_ => match q_ with | ⟨i, _⟩ => ⟨[(8, .v (.int .i64 i))], []⟩, ⟨[false, false, false, false, true, true, false, false, true, true, true, true, true, true, true, true, true, true, true], [], []⟩, fun q_ => match q_ with | ⟨i, _⟩ => l.length - i, ⟨⟨0, Nat.zero_le _⟩, [], ?_⟩, ?_⟩
  · conv => whnf
    repeat' (first | exact rfl | exact trivial | exact ⟨_, rfl⟩ | exact ⟨rfl, rfl, rfl⟩ | refine And.intro ?_ ?_)
  · rintro ⟨i, hi⟩
    conv => whnf
    refine bcase_intro (fun h => ?_) (fun h => ?_)
    · have h : i < l.length := by first | simpa [-List.getD_eq_getElem?_getD] using h | (simp [-List.getD_eq_getElem?_getD] at h; omega)
      conv => whnf
      repeat ((first | refine ⟨_, lt_P h, ?_⟩ | refine ⟨_, ⟨rfl, by omega⟩, ?_⟩); conv => whnf)
      refine ⟨_, _, hf _ (hm h), SubL.le (by repeat' (first | exact rfl | exact trivial | exact ⟨_, rfl⟩ | exact ⟨rfl, rfl, rfl⟩ | refine And.intro ?_ ?_)), ?_⟩
      conv => whnf
      rw [‹∀ p ∈ l, bad p = false› _ (hm h)]
      conv => whnf
      repeat (refine ⟨_, wAdd1 (by omega), ?_⟩; conv => whnf)
      refine ⟨⟨i + 1, by omega⟩, [], by dsimp only; omega, ?_⟩
      conv => whnf
      repeat' (first | exact rfl | exact trivial | exact ⟨_, rfl⟩ | exact ⟨rfl, rfl, rfl⟩ | refine And.intro ?_ ?_)
    · conv => whnf
      repeat' (first | exact rfl | exact trivial | exact ⟨_, rfl⟩ | exact ⟨rfl, rfl, rfl⟩ | refine And.intro ?_ ?_)
theorem index_some (l : List Pl) (bad : Pl → Bool) (f T : Nat) (x : Go.Value) (hl : l.length ≤ 1000000) (hf : ∀ p ∈ l, FSpec Tryz.prog f [encP p, .cel T [.v x]] (.v (.bool (bad p)))) (k : Nat) (hk : k < l.length) (h : bad (l.getD k []) = true) (h0 : ∀ j, j < k → bad (l.getD j []) = false) :
    FSpec Tryz.prog 90 [encL l, .fn f [.cel T [.v x]]] (.v (.int .i64 k)) := by
  have hm : ∀ {i}, i < l.length → l.getD i [] ∈ l := fun {i} h => by rw [List.getD_eq_getElem?_getD, List.getElem?_eq_getElem h]; exact List.getElem_mem _
  refine FSpec.intro ok [] Tryz.func90 rfl rfl (m := 17) rfl ?_
  conv => whnf
  skip
  refine ⟨{ i : Nat // i ≤ k }, fun q_ => match q_ with | ⟨i, _⟩ => ⟨[(8, .v (.int .i64 i))], []⟩, ⟨[false, false, false, false, true, true, false, false, true, true, true, true, true, true, true, true, true, true, true], [], []⟩, fun q_ => match q_ with | ⟨i, _⟩ => l.length - i, ⟨⟨0, Nat.zero_le _⟩, [], ?_⟩, ?_⟩
  · conv => whnf
    repeat' (first | exact rfl | exact trivial | exact ⟨_, rfl⟩ | exact ⟨rfl, rfl, rfl⟩ | refine And.intro ?_ ?_)
  · rintro ⟨i, hi⟩
    have hil : i < l.length := by omega
    conv => whnf
    rw [show decide ((i : Int) < l.length) = true from by simp; omega]
    conv => whnf
    repeat ((first | refine ⟨_, lt_P hil, ?_⟩ | refine ⟨_, ⟨rfl, by omega⟩, ?_⟩); conv => whnf)
    refine ⟨_, _, hf _ (hm hil), SubL.le (by repeat' (first | exact rfl | exact trivial | exact ⟨_, rfl⟩ | exact ⟨rfl, rfl, rfl⟩ | refine And.intro ?_ ?_)), ?_⟩
    conv => whnf
    by_cases e : i = k
    · subst e
      rw [h]
      conv => whnf
      repeat' (first | exact rfl | exact trivial | exact ⟨_, rfl⟩ | exact ⟨rfl, rfl, rfl⟩ | refine And.intro ?_ ?_)
    · rw [h0 i (by omega)]
      conv => whnf
      repeat (refine ⟨_, wAdd1 (by omega), ?_⟩; conv => whnf)
      refine ⟨⟨i + 1, by omega⟩, [], by dsimp only; omega, ?_⟩
      conv => whnf
      repeat' (first | exact rfl | exact trivial | exact ⟨_, rfl⟩ | exact ⟨rfl, rfl, rfl⟩ | refine And.intro ?_ ?_)
theorem first_bad {l : List Pl} {bad : Pl → Bool} (h : l.any bad = true) : ∃ k, k < l.length ∧ bad (l.getD k []) = true ∧ ∀ j, j < k → bad (l.getD j []) = false := by
  induction l with
  | nil => simp at h
  | cons p l ih =>
    by_cases e : bad p = true
    · exact ⟨0, by simp, by simpa using e, fun j h => absurd h (Nat.not_lt_zero j)⟩
    · have e : bad p = false := by simpa using e
      rw [List.any_cons, e, Bool.false_or] at h
      obtain ⟨k, h1, h2, h3⟩ := ih h
      refine ⟨k + 1, by simp; omega, by simpa using h2, fun j hj => ?_⟩
      cases j with
      | zero => simpa using e
      | succ j => simpa using h3 j (by omega)
theorem contains_spec (l : List Pl) (bad : Pl → Bool) (f T : Nat) (x : Go.Value) (hl : l.length ≤ 1000000) (hf : ∀ p ∈ l, FSpec Tryz.prog f [encP p, .cel T [.v x]] (.v (.bool (bad p)))) :
    FSpec Tryz.prog 45 [encL l, .fn f [.cel T [.v x]]] (.v (.bool (l.any bad))) := by
  cases e : l.any bad with
  | true =>
    obtain ⟨k, h1, h2, h3⟩ := first_bad e
    refine FSpec.intro ok [] Tryz.func45 rfl rfl (m := 7) rfl ?_
    conv => whnf
    skip
    refine ⟨_, _, index_some l bad f T x hl hf k h1 h2 h3, SubL.le (by repeat' (first | exact rfl | exact trivial | exact ⟨_, rfl⟩ | exact ⟨rfl, rfl, rfl⟩ | refine And.intro ?_ ?_)), ?_⟩
    conv => whnf
    rw [show decide ((k : Int) ≥ 0) = true from by simp]
    repeat' (first | exact rfl | exact trivial | exact ⟨_, rfl⟩ | exact ⟨rfl, rfl, rfl⟩ | refine And.intro ?_ ?_)
  | false =>
    have h : ∀ p ∈ l, bad p = false := by
      intro p hp
      cases e2 : bad p with
      | false => rfl
      | true => rw [List.any_eq_true.2 ⟨p, hp, e2⟩] at e; cases e
    refine FSpec.intro ok [] Tryz.func45 rfl rfl (m := 7) rfl ?_
    conv => whnf
    skip
    refine ⟨_, _, index_none l bad f T x hl hf h, SubL.le (by repeat' (first | exact rfl | exact trivial | exact ⟨_, rfl⟩ | exact ⟨rfl, rfl, rfl⟩ | refine And.intro ?_ ?_)), ?_⟩
    conv => whnf
    repeat' (first | exact rfl | exact trivial | exact ⟨_, rfl⟩ | exact ⟨rfl, rfl, rfl⟩ | refine And.intro ?_ ?_)
theorem normal1_spec (p : Pl) (n : Nat) (hs : Ps p) : FSpec Tryz.prog 43 [encP p, .cel 3 [.v (.int .i64 n)]] (.v (.bool (!wiB p n 12))) := by
  refine FSpec.intro ok [] Tryz.func43 rfl rfl (m := 6) rfl ?_
  conv => whnf
  repeat (refine ⟨_, (rfl : (_ : List C)[_]? = some _), ?_⟩; conv => whnf)
  refine ⟨_, _, within_spec p n hs, SubL.le (by repeat' (first | exact rfl | exact trivial | exact ⟨_, rfl⟩ | exact ⟨rfl, rfl, rfl⟩ | refine And.intro ?_ ?_)), ?_⟩
  conv => whnf
  repeat' (first | exact rfl | exact trivial | exact ⟨_, rfl⟩ | exact ⟨rfl, rfl, rfl⟩ | refine And.intro ?_ ?_)
end Go.Proofs.YtbhnankggcfndaaGreat
namespace Go.Proofs.YtbhnankggcfndaaGreat
open El Go.Shelf Go.Sort
set_option maxRecDepth 10000
set_option maxHeartbeats 4000000
/-- What is asked of a polynomial whose normal form is held against others. -/
structure Nk (p : Pl) : Prop where
  n : Nm p
  s : Ps (normP p)
def eqsOf (es : List Pl) : List Pl := es.filter (fun p => decide (0 < p.length))
def onesOf (ds : List Pl) : List Pl := (ds.filter (fun p => degP p == -1)).map (fun _ => conP 1)
def neqsOf (ds : List Pl) : List Pl := ds.filter (fun p => !(degP p == -1) && !(degP p == 0))
def sysC (n : Nat) (es ds : List Pl) : C := .agg [.v (.int .i64 n), encL es, encL ds]
def zeroS : C := .agg [.v (.int .i64 0), .v (.slice none 0 0), .v (.slice none 0 0)]
def badS (n : Nat) (es ds : List Pl) : Bool := decide (n < 1) || decide (4 < n) || es.any (fun p => !wiB p n 12) || ds.any (fun p => !wiB p n 12)
def eqsN (es ds : List Pl) : List Pl := tidyP (eqsOf es ++ onesOf ds)
def neqsN (ds : List Pl) : List Pl := tidyP (neqsOf ds)
def normR (n : Nat) (es ds : List Pl) : C :=
  if badS n es ds = true then .tup [zeroS, .v (.int .i64 1)]
  else if 12 < (eqsN es ds).length ∨ 12 < (neqsN ds).length then .tup [zeroS, .v (.int .i64 2)]
  else .tup [sysC n (eqsN es ds) (neqsN ds), .v (.int .i64 0)]
theorem nk_one : Nk (conP 1) where
  n := by
    refine ⟨⟨by decide, ?_⟩, ⟨by decide, ?_⟩, fun _ => by decide, by decide⟩
    · intro t ht
      have : t = (1, zeroM) := by
        rw [conP, if_neg (by decide)] at ht
        simpa using ht
      subst this
      exact ⟨by decide, by decide⟩
    · intro t ht
      have : t = (1, zeroM) := by
        rw [conP, if_neg (by decide)] at ht
        simpa using ht
      subst this
      exact zeroM_v
  s := by
    have e : normP (conP 1) = [(1, zeroM)] := by decide +kernel
    rw [e]
    refine ⟨by decide, fun t ht => ?_⟩
    have : t = (1, zeroM) := by simpa using ht
    subst this
    exact ⟨by decide, by decide⟩
theorem take_snoc {X : Type} {l : List X} {i : Nat} (d : X) (h : i < l.length) : l.take (i + 1) = l.take i ++ [l.getD i d] := by
  rw [List.take_add_one, List.getElem?_eq_getElem h, List.getD_eq_getElem?_getD, List.getElem?_eq_getElem h]
  rfl
theorem sysnormal_spec (n : Nat) (es ds : List Pl) (hn : n ≤ 1000000) (hel : es.length ≤ 1000) (hdl : ds.length ≤ 1000) (he : ∀ p ∈ es, Nk p) (hd : ∀ p ∈ ds, Nk p) :
    FSpec Tryz.prog 12 [.v (.int .i64 n), encL es, encL ds] (normR n es ds) := by
  have c1 := contains_spec es (fun p => !wiB p n 12) 43 3 (.int .i64 n) (by omega) (fun p hp => normal1_spec p n (he p hp).n.s)
  have c2 := contains_spec ds (fun p => !wiB p n 12) 43 3 (.int .i64 n) (by omega) (fun p hp => normal1_spec p n (hd p hp).n.s)
  by_cases hb : badS n es ds = true
  · rw [normR, if_pos hb]
    simp only [badS, Bool.or_eq_true, decide_eq_true_eq] at hb
    refine FSpec.intro ok [(2, ([3], none))] Tryz.func12 rfl rfl (m := 85) rfl ?_
    conv => whnf
    skip
    refine ⟨(by repeat' (first | exact rfl | exact trivial | refine And.intro ?_ ?_)), (by repeat' (first | exact rfl | exact trivial | refine And.intro ?_ ?_)), ?_⟩
    conv => whnf
    refine ⟨_, rfl, ?_⟩
    conv => whnf
    skip
    refine bcase_intro (fun h1 => ?_) (fun h1 => ?_)
    · repeat ((first | refine ⟨by first | decide | exact Nat.le_refl _, _, rfl, ?_⟩ | refine ⟨_, rfl, rfl, ?_⟩); conv => whnf)
      repeat' (first | exact rfl | exact trivial | exact ⟨_, rfl⟩ | exact ⟨rfl, rfl, rfl⟩ | refine And.intro ?_ ?_)
    · have h1 : 1 ≤ n := by first | simpa [-List.getD_eq_getElem?_getD] using h1 | (simp [-List.getD_eq_getElem?_getD] at h1; omega)
      repeat (refine ⟨_, (rfl : (_ : List C)[_]? = some _), ?_⟩; conv => whnf)
      by_cases h2 : 4 < n
      · rw [show decide ((n : Int) > 4) = true from by simp; omega]
        conv => whnf
        repeat ((first | refine ⟨by first | decide | exact Nat.le_refl _, _, rfl, ?_⟩ | refine ⟨_, rfl, rfl, ?_⟩); conv => whnf)
        repeat' (first | exact rfl | exact trivial | exact ⟨_, rfl⟩ | exact ⟨rfl, rfl, rfl⟩ | refine And.intro ?_ ?_)
      · rw [show decide ((n : Int) > 4) = false from by simp; omega]
        conv => whnf
        skip
        refine ⟨_, _, c1, SubL.le (by repeat' (first | exact rfl | exact trivial | exact ⟨_, rfl⟩ | exact ⟨rfl, rfl, rfl⟩ | refine And.intro ?_ ?_)), ?_⟩
        conv => whnf
        cases h3 : es.any fun p => !wiB p n 12 with
        | true =>
          conv => whnf
          repeat ((first | refine ⟨by first | decide | exact Nat.le_refl _, _, rfl, ?_⟩ | refine ⟨_, rfl, rfl, ?_⟩); conv => whnf)
          repeat' (first | exact rfl | exact trivial | exact ⟨_, rfl⟩ | exact ⟨rfl, rfl, rfl⟩ | refine And.intro ?_ ?_)
        | false =>
          conv => whnf
          skip
          refine ⟨_, _, c2, SubL.le (by repeat' (first | exact rfl | exact trivial | exact ⟨_, rfl⟩ | exact ⟨rfl, rfl, rfl⟩ | refine And.intro ?_ ?_)), ?_⟩
          conv => whnf
          have h4 : (ds.any fun p => !wiB p n 12) = true := by
            rcases hb with (h | h) | h
            · omega
            · rw [h] at h3; cases h3
            · exact h
          rw [h4]
          conv => whnf
          repeat ((first | refine ⟨by first | decide | exact Nat.le_refl _, _, rfl, ?_⟩ | refine ⟨_, rfl, rfl, ?_⟩); conv => whnf)
          repeat' (first | exact rfl | exact trivial | exact ⟨_, rfl⟩ | exact ⟨rfl, rfl, rfl⟩ | refine And.intro ?_ ?_)
  · have hb0 : badS n es ds = false := by simpa using hb
    have hb2 := hb0
    simp only [badS, Bool.or_eq_false_iff, decide_eq_false_iff_not] at hb2
    obtain ⟨⟨⟨h1, h2⟩, h3⟩, h4⟩ := hb2
    rw [normR, if_neg hb]
    refine FSpec.intro ok [(2, ([3], none)), (20, ([100, 101], none))] Tryz.func12 rfl rfl (m := 85) rfl ?_
    conv => whnf
    skip
    refine ⟨(by repeat' (first | exact rfl | exact trivial | refine And.intro ?_ ?_)), (by repeat' (first | exact rfl | exact trivial | refine And.intro ?_ ?_)), ?_⟩
    conv => whnf
    refine ⟨_, rfl, ?_⟩
    conv => whnf
    rw [show decide ((n : Int) < 1) = false from by simp; omega]
    conv => whnf
    repeat (refine ⟨_, (rfl : (_ : List C)[_]? = some _), ?_⟩; conv => whnf)
    rw [show decide ((n : Int) > 4) = false from by simp; omega]
    conv => whnf
    skip
    refine ⟨_, _, c1, SubL.le (by repeat' (first | exact rfl | exact trivial | exact ⟨_, rfl⟩ | exact ⟨rfl, rfl, rfl⟩ | refine And.intro ?_ ?_)), ?_⟩
    conv => whnf
    rw [h3]
    conv => whnf
    skip
    refine ⟨_, _, c2, SubL.le (by repeat' (first | exact rfl | exact trivial | exact ⟨_, rfl⟩ | exact ⟨rfl, rfl, rfl⟩ | refine And.intro ?_ ?_)), ?_⟩
    conv => whnf
    rw [h4]
    conv => whnf
    skip
    refine ⟨{ q : Nat × List Pl // q.1 ≤ es.length ∧ q.2 = eqsOf (es.take q.1) }, fun q_ => match q_ with | ⟨(i, out), _⟩ => ⟨[(9, .own 100 65 1 out.length), (36, .v (.int .i64 i))], [(100, .row 65 1 out.length (out.map encP))]⟩, ⟨[false, false, false, false, false, false, false, false, false, true, false, false, true, false, false, false, false, false, false, false, false, false, false, false, false, false, false, false, false, false, false, false, false, false, false, false, true, true, true, true, true, true, true, true, true, true, true, true], [6], [100]⟩, fun q_ => match q_ with | ⟨(i, out), _⟩ => es.length - i, ⟨⟨(0, []), Nat.zero_le _, rfl⟩, [(100, none)], ?_⟩, ?_⟩
    · conv => whnf
      repeat' (first | exact rfl | exact trivial | exact ⟨_, rfl⟩ | exact ⟨rfl, rfl, rfl⟩ | refine And.intro ?_ ?_)
    · rintro ⟨⟨i, out⟩, hi, ho⟩
      simp only at hi ho
      have hil : out.length ≤ 1000 := by
        have : (eqsOf (es.take i)).length ≤ (es.take i).length := List.length_filter_le _ _
        rw [List.length_take] at this
        rw [ho]
        omega
      conv => whnf
      refine bcase_intro (fun h => ?_) (fun h => ?_)
      · have h : i < es.length := by first | simpa [-List.getD_eq_getElem?_getD] using h | (simp [-List.getD_eq_getElem?_getD] at h; omega)
        conv => whnf
        repeat ((first | refine ⟨_, lt_P h, ?_⟩ | refine ⟨_, ⟨rfl, by omega⟩, ?_⟩); conv => whnf)
        by_cases hp : 0 < (es.getD i []).length
        · have e1 : out ++ [es.getD i []] = eqsOf (es.take (i + 1)) := by
            rw [ho]
            unfold eqsOf
            rw [take_snoc [] h, List.filter_append, List.filter_cons, if_pos (decide_eq_true hp)]
            rfl
          rw [show decide (((es.getD i []).length : Int) > 0) = true from decide_eq_true (by omega)]
          conv => whnf
          refine ⟨rfl, ?_⟩
          conv => whnf
          refine ⟨rfl, ?_⟩
          conv => whnf
          refine ⟨rfl, ?_⟩
          conv => whnf
          refine ⟨⟨by show _ * 24 ≤ _; omega, by omega⟩, (out ++ [es.getD i []]).map encP, (out ++ [es.getD i []]).length, ⟨by rw [List.map_append]; rfl, by simp⟩, ?_⟩
          conv => whnf
          repeat (refine ⟨_, wAdd1 (by omega), ?_⟩; conv => whnf)
          refine ⟨⟨(i + 1, out ++ [es.getD i []]), by simp only; omega, e1⟩, [(100, some 46)], by dsimp only; omega, ?_⟩
          conv => whnf
          repeat' (first | exact rfl | exact trivial | exact ⟨_, rfl⟩ | exact ⟨rfl, rfl, rfl⟩ | refine And.intro ?_ ?_)
        · have e1 : out = eqsOf (es.take (i + 1)) := by
            rw [ho]
            unfold eqsOf
            rw [take_snoc [] h, List.filter_append, List.filter_cons, if_neg (fun e => hp (of_decide_eq_true e)), List.filter_nil, List.append_nil]
          rw [show decide (((es.getD i []).length : Int) > 0) = false from decide_eq_false (by omega)]
          conv => whnf
          repeat (refine ⟨_, wAdd1 (by omega), ?_⟩; conv => whnf)
          refine ⟨⟨(i + 1, out), by simp only; omega, e1⟩, [(100, some 100)], by dsimp only; omega, ?_⟩
          conv => whnf
          repeat' (first | exact rfl | exact trivial | exact ⟨_, rfl⟩ | exact ⟨rfl, rfl, rfl⟩ | refine And.intro ?_ ?_)
      · have h : es.length ≤ i := by first | simpa [-List.getD_eq_getElem?_getD] using h | (simp [-List.getD_eq_getElem?_getD] at h; omega)
        have e1 : es.take i = es := List.take_of_length_le h
        rw [e1] at ho
        conv => whnf
        skip
        refine ⟨{ q : Nat × List Pl × List Pl // q.1 ≤ ds.length ∧ q.2.1 = out ++ onesOf (ds.take q.1) ∧ q.2.2 = neqsOf (ds.take q.1) }, fun q_ => match q_ with | ⟨(i, o1, o2), _⟩ => ⟨[(9, .own 100 65 1 o1.length), (10, .own 101 65 1 o2.length), (50, .v (.int .i64 i))], [(100, .row 65 1 o1.length (o1.map encP)), (101, .row 65 1 o2.length (o2.map encP))]⟩, ⟨[false, false, false, false, false, false, false, false, false, true, true, false, false, false, true, false, false, false, false, false, false, false, false, false, false, false, false, false, false, false, false, false, false, false, false, false, false, false, false, false, false, false, false, false, false, false, false, false, false, false, true, true, true, true, true, true, true, true, true, true, true, true, true, true, true, true, true, true, true, true], [6], [100, 101]⟩, fun q_ => match q_ with | ⟨(i, o1, o2), _⟩ => ds.length - i, ⟨⟨(0, out, []), Nat.zero_le _, by simp [onesOf], rfl⟩, [(100, some 100), (101, none)], ?_⟩, ?_⟩
        · conv => whnf
          repeat' (first | exact rfl | exact trivial | exact ⟨_, rfl⟩ | exact ⟨rfl, rfl, rfl⟩ | refine And.intro ?_ ?_)
        · rintro ⟨⟨k, o1, o2⟩, hk, hk1, hk2⟩
          simp only at hk hk1 hk2
          have hl1 : o1.length ≤ 2000 := by
            have h1 : (onesOf (ds.take k)).length ≤ (ds.take k).length := by rw [onesOf, List.length_map]; exact List.length_filter_le _ _
            rw [List.length_take] at h1
            rw [hk1, List.length_append]
            omega
          have hl2 : o2.length ≤ 1000 := by
            have h1 : (neqsOf (ds.take k)).length ≤ (ds.take k).length := List.length_filter_le _ _
            rw [List.length_take] at h1
            rw [hk2]
            omega
          conv => whnf
          refine bcase_intro (fun h => ?_) (fun h => ?_)
          · have h : k < ds.length := by first | simpa [-List.getD_eq_getElem?_getD] using h | (simp [-List.getD_eq_getElem?_getD] at h; omega)
            have hm : ds.getD k [] ∈ ds := by rw [List.getD_eq_getElem?_getD, List.getElem?_eq_getElem h]; exact List.getElem_mem _
            conv => whnf
            repeat ((first | refine ⟨_, lt_P h, ?_⟩ | refine ⟨_, ⟨rfl, by omega⟩, ?_⟩); conv => whnf)
            refine ⟨_, _, pdegree_spec _ (hd _ hm).n.m, SubL.le (by repeat' (first | exact rfl | exact trivial | exact ⟨_, rfl⟩ | exact ⟨rfl, rfl, rfl⟩ | refine And.intro ?_ ?_)), ?_⟩
            conv => whnf
            skip
            by_cases d1 : degP (ds.getD k []) = -1
            · have g1 : o1 ++ [conP 1] = out ++ onesOf (ds.take (k + 1)) := by
                rw [hk1, take_snoc [] h, onesOf, onesOf, List.filter_append, List.filter_cons, if_pos (by rw [d1]; rfl), List.map_append, List.append_assoc]
                rfl
              have g2 : o2 = neqsOf (ds.take (k + 1)) := by
                rw [hk2, take_snoc [] h, neqsOf, neqsOf, List.filter_append, List.filter_cons, if_neg (by rw [d1]; decide), List.filter_nil, List.append_nil]
              rw [d1]
              conv => whnf
              skip
              refine ⟨_, _, whole_spec 1 (by decide) (by decide), SubL.le (by repeat' (first | exact rfl | exact trivial | exact ⟨_, rfl⟩ | exact ⟨rfl, rfl, rfl⟩ | refine And.intro ?_ ?_)), ?_⟩
              conv => whnf
              refine ⟨_, _, constant_spec ((1 : Int) : Rat), SubL.le (by repeat' (first | exact rfl | exact trivial | exact ⟨_, rfl⟩ | exact ⟨rfl, rfl, rfl⟩ | refine And.intro ?_ ?_)), ?_⟩
              conv => whnf
              refine ⟨rfl, ?_⟩
              conv => whnf
              refine ⟨rfl, ?_⟩
              conv => whnf
              refine ⟨rfl, ?_⟩
              conv => whnf
              refine ⟨⟨by show _ * 24 ≤ _; omega, by omega⟩, (o1 ++ [conP 1]).map encP, (o1 ++ [conP 1]).length, ⟨by rw [List.map_append]; rfl, by simp⟩, ?_⟩
              conv => whnf
              repeat (refine ⟨_, wAdd1 (by omega), ?_⟩; conv => whnf)
              refine ⟨⟨(k + 1, o1 ++ [conP 1], o2), by simp only; omega, g1, g2⟩, [(100, some 66), (101, some 101)], by dsimp only; omega, ?_⟩
              conv => whnf
              repeat' (first | exact rfl | exact trivial | exact ⟨_, rfl⟩ | exact ⟨rfl, rfl, rfl⟩ | refine And.intro ?_ ?_)
            · by_cases d0 : degP (ds.getD k []) = 0
              · have g1 : o1 = out ++ onesOf (ds.take (k + 1)) := by
                  rw [hk1, take_snoc [] h, onesOf, onesOf, List.filter_append, List.filter_cons, if_neg (by rw [d0]; decide), List.filter_nil, List.append_nil]
                have g2 : o2 = neqsOf (ds.take (k + 1)) := by
                  rw [hk2, take_snoc [] h, neqsOf, neqsOf, List.filter_append, List.filter_cons, if_neg (by rw [d0]; decide), List.filter_nil, List.append_nil]
                rw [d0]
                conv => whnf
                repeat (refine ⟨_, wAdd1 (by omega), ?_⟩; conv => whnf)
                refine ⟨⟨(k + 1, o1, o2), by simp only; omega, g1, g2⟩, [(100, some 100), (101, some 101)], by dsimp only; omega, ?_⟩
                conv => whnf
                repeat' (first | exact rfl | exact trivial | exact ⟨_, rfl⟩ | exact ⟨rfl, rfl, rfl⟩ | refine And.intro ?_ ?_)
              · have b1 : (degP (ds.getD k []) == -1) = false := by simpa using d1
                have b0 : (degP (ds.getD k []) == 0) = false := by simpa using d0
                have g1 : o1 = out ++ onesOf (ds.take (k + 1)) := by
                  rw [hk1, take_snoc [] h, onesOf, onesOf, List.filter_append, List.filter_cons, if_neg (by rw [b1]; decide), List.filter_nil, List.append_nil]
                have g2 : o2 ++ [ds.getD k []] = neqsOf (ds.take (k + 1)) := by
                  rw [hk2, take_snoc [] h, neqsOf, neqsOf, List.filter_append, List.filter_cons, if_pos (by rw [b1, b0]; rfl)]
                  rfl
                rw [b1]
                conv => whnf
                skip
                rw [b0]
                conv => whnf
                skip
                refine ⟨rfl, ?_⟩
                conv => whnf
                refine ⟨rfl, ?_⟩
                conv => whnf
                refine ⟨rfl, ?_⟩
                conv => whnf
                refine ⟨⟨by show _ * 24 ≤ _; omega, by omega⟩, (o2 ++ [ds.getD k []]).map encP, (o2 ++ [ds.getD k []]).length, ⟨by rw [List.map_append]; rfl, by simp⟩, ?_⟩
                conv => whnf
                repeat (refine ⟨_, wAdd1 (by omega), ?_⟩; conv => whnf)
                refine ⟨⟨(k + 1, o1, o2 ++ [ds.getD k []]), by simp only; omega, g1, g2⟩, [(100, some 100), (101, some 59)], by dsimp only; omega, ?_⟩
                conv => whnf
                repeat' (first | exact rfl | exact trivial | exact ⟨_, rfl⟩ | exact ⟨rfl, rfl, rfl⟩ | refine And.intro ?_ ?_)
          · have h : ds.length ≤ k := by first | simpa [-List.getD_eq_getElem?_getD] using h | (simp [-List.getD_eq_getElem?_getD] at h; omega)
            have e2 : ds.take k = ds := List.take_of_length_le h
            rw [e2] at hk1 hk2
            conv => whnf
            skip
            refine ⟨(by repeat' (first | exact rfl | exact trivial | refine And.intro ?_ ?_)), (by repeat' (first | exact rfl | exact trivial | refine And.intro ?_ ?_)), ?_⟩
            conv => whnf
            refine ⟨(by repeat' (first | exact rfl | exact trivial | refine And.intro ?_ ?_)), (by repeat' (first | exact rfl | exact trivial | refine And.intro ?_ ?_)), ?_⟩
            conv => whnf
            have n1 : ∀ p ∈ o1, Nk p := by
              intro p hp
              rw [hk1, ho, List.mem_append] at hp
              rcases hp with hp | hp
              · exact he p (List.mem_filter.1 hp).1
              · obtain ⟨_, _, rfl⟩ := List.mem_map.1 hp
                exact nk_one
            have n2 : ∀ p ∈ o2, Nk p := by
              intro p hp
              rw [hk2] at hp
              exact hd p (List.mem_filter.1 hp).1
            repeat ((first | refine ⟨_, (rfl : (_ : List C)[_]? = some _), ?_⟩ | refine anyA (by decide +kernel) ?_); conv => whnf)
            refine ⟨_, _, tidy_spec o1 (by omega) (fun p hp => (n1 p hp).n) (fun p hp => (n1 p hp).s), SubL.le (by repeat' (first | exact rfl | exact trivial | exact ⟨_, rfl⟩ | exact ⟨rfl, rfl, rfl⟩ | refine And.intro ?_ ?_)), ?_⟩
            conv => whnf
            skip
            refine ⟨_, _, tidy_spec o2 (by omega) (fun p hp => (n2 p hp).n) (fun p hp => (n2 p hp).s), SubL.le (by repeat' (first | exact rfl | exact trivial | exact ⟨_, rfl⟩ | exact ⟨rfl, rfl, rfl⟩ | refine And.intro ?_ ?_)), ?_⟩
            conv => whnf
            repeat ((first | refine ⟨_, (rfl : (_ : List C)[_]? = some _), ?_⟩ | refine And.intro (by decide : (_ : Nat) ≠ 0) ?_ | refine ⟨by first | decide | exact Nat.le_refl _, _, rfl, ?_⟩); conv => whnf)
            rw [ho] at hk1
            rw [show eqsN es ds = tidyP o1 by rw [eqsN, hk1], show neqsN ds = tidyP o2 by rw [neqsN, hk2]]
            by_cases t1 : 12 < (tidyP o1).length
            · rw [show decide (((tidyP o1).length : Int) > 12) = true from decide_eq_true (by omega), if_pos (.inl t1)]
              conv => whnf
              repeat ((first | refine ⟨by first | decide | exact Nat.le_refl _, _, rfl, ?_⟩ | refine ⟨_, rfl, rfl, ?_⟩); conv => whnf)
              repeat' (first | exact rfl | exact trivial | exact ⟨_, rfl⟩ | exact ⟨rfl, rfl, rfl⟩ | refine And.intro ?_ ?_)
            · rw [show decide (((tidyP o1).length : Int) > 12) = false from decide_eq_false (by omega)]
              conv => whnf
              repeat ((first | refine ⟨_, (rfl : (_ : List C)[_]? = some _), ?_⟩ | refine And.intro (by decide : (_ : Nat) ≠ 0) ?_); conv => whnf)
              by_cases t2 : 12 < (tidyP o2).length
              · rw [show decide (((tidyP o2).length : Int) > 12) = true from decide_eq_true (by omega), if_pos (.inr t2)]
                conv => whnf
                repeat ((first | refine ⟨by first | decide | exact Nat.le_refl _, _, rfl, ?_⟩ | refine ⟨_, rfl, rfl, ?_⟩); conv => whnf)
                repeat' (first | exact rfl | exact trivial | exact ⟨_, rfl⟩ | exact ⟨rfl, rfl, rfl⟩ | refine And.intro ?_ ?_)
              · rw [show decide (((tidyP o2).length : Int) > 12) = false from decide_eq_false (by omega), if_neg (by omega)]
                conv => whnf
                repeat ((first | refine ⟨by first | decide | exact Nat.le_refl _, _, rfl, ?_⟩ | refine ⟨_, rfl, rfl, ?_⟩); conv => whnf)
                repeat' (first | exact rfl | exact trivial | exact ⟨_, rfl⟩ | exact ⟨rfl, rfl, rfl⟩ | refine And.intro ?_ ?_)
end Go.Proofs.YtbhnankggcfndaaGreat
namespace Go.Proofs.YtbhnankggcfndaaGreat
open El Go.Shelf Go.Sort
set_option linter.unusedSimpArgs false
set_option maxRecDepth 10000
set_option maxHeartbeats 4000000
instance decBA : DecidableEq ByteArray := fun a b => decidable_of_iff (a.data = b.data) ⟨fun h => by cases a; cases b; exact congrArg ByteArray.mk h, fun h => by rw [h]⟩
abbrev En := Int × Pl
structure Sy where
  vars : List ByteArray
  eqs : List En
  neqs : List En
  next : Int
def encV (l : List ByteArray) : C := .sl 9 1 l.length false (l.map fun t => .v (.string t))
def ec (e : En) : List C := [.v (.int .i64 e.1), encP e.2]
def encEs (l : List En) : C := .sl 70 2 l.length false (l.map ec).flatten
def encS (s : Sy) : C := .agg [encV s.vars, encEs s.eqs, encEs s.neqs, .v (.int .i64 s.next)]
def freshAt (seen : List Int) (l : List En) (i : Nat) : Bool := !(seen ++ (l.take i).map (·.1)).contains (l.getD i (0, [])).1
def entryAt (n : Nat) (next : Int) (seen : List Int) (l : List En) (i : Nat) : Bool :=
  decide (1 ≤ (l.getD i (0, [])).1) && decide ((l.getD i (0, [])).1 < next) && freshAt seen l i && (decide (i = 0) || decide ((l.getD (i - 1) (0, [])).1 ≤ (l.getD i (0, [])).1)) && wiB (l.getD i (0, [])).2 n 12
def entriesB (n : Nat) (next : Int) (seen : List Int) (l : List En) : Bool := decide (l.length ≤ 12) && (List.range l.length).all (entryAt n next seen l)
def memB (t : ByteArray) (l : List ByteArray) : Bool := l.any fun u => decide (u = t)
theorem memB_iff {t : ByteArray} {l : List ByteArray} : memB t l = true ↔ t ∈ l := by
  rw [memB, List.any_eq_true]
  exact ⟨fun ⟨u, h1, h2⟩ => (of_decide_eq_true h2) ▸ h1, fun h => ⟨t, h, decide_eq_true rfl⟩⟩
theorem memB_false {t : ByteArray} {l : List ByteArray} (h : t ∉ l) : memB t l = false := by
  cases e : memB t l with
  | false => rfl
  | true => exact absurd (memB_iff.1 e) h
def newAt (vs : List ByteArray) (i : Nat) : Bool := nameB (vs.getD i default) && !memB (vs.getD i default) (vs.take i)
def headB (s : Sy) : Bool := decide (s.vars.length ≤ 4) && decide (1 ≤ s.next) && decide (s.next ≤ 1000000)
def varsB (vs : List ByteArray) : Bool := (List.range vs.length).all (newAt vs)
def validS (s : Sy) : Bool := headB s && varsB s.vars && entriesB s.vars.length s.next [] s.eqs && entriesB s.vars.length s.next (s.eqs.map (·.1)) s.neqs
theorem str_kl : KL Tryz.prog 9 fun v => ∃ l, Go.keyOf Tryz.prog 9 v = some l := KL.of (Go.Maps.string_keyed Tryz.underlying9)
theorem int_kl : KL Tryz.prog 3 fun v => ∃ l, Go.keyOf Tryz.prog 3 v = some l := KL.of (Go.Maps.int_keyed Tryz.underlying3)
theorem str_kv (t : ByteArray) (h : t.size ≤ 1000000) : ∃ l, Go.keyOf Tryz.prog 9 (.string t) = some l := by
  refine ⟨.string t.data.toList, ?_⟩
  simp only [Go.keyOf, Tryz.underlying9, Go.mapKey]
  rw [if_pos (by unfold Go.maxLen; omega)]
theorem int_kv (t : Int) (h1 : -9223372036854775808 ≤ t) (h2 : t ≤ 9223372036854775807) : ∃ l, Go.keyOf Tryz.prog 3 (.int .i64 t) = some l := by
  have hw : (Go.Lit.int .i64 t).wf = true := by
    simp [Go.Lit.wf, Go.IntKind.min, Go.IntKind.max, Go.IntKind.signed, Go.IntKind.bits]
    omega
  refine ⟨.int .i64 t, ?_⟩
  simp only [Go.keyOf, Tryz.underlying3, Go.mapKey]
  rw [if_pos ⟨trivial, hw⟩]
def keysV (l : List ByteArray) : List (Go.Value × C) := l.map fun t => (.string t, .v (.bool true))
def keysE (l : List Int) : List (Go.Value × C) := l.map fun t => (.int .i64 t, .v (.bool true))
def I64 (t : Int) : Prop := -9223372036854775808 ≤ t ∧ t ≤ 9223372036854775807
theorem keysE_kv {l : List Int} (h : ∀ t ∈ l, I64 t) : ∀ p ∈ keysE l, ∃ r, Go.keyOf Tryz.prog 3 p.1 = some r := by
  intro p hp
  obtain ⟨u, hu, rfl⟩ := List.mem_map.1 hp
  exact int_kv u (h u hu).1 (h u hu).2
theorem keysE_at {l : List Int} {t : Int} (h : t ∈ l) : At (keysE l) (.int .i64 t) (some (.v (.bool true))) := by
  obtain ⟨i, hi, e⟩ := List.mem_iff_getElem.1 h
  exact ⟨i, by rw [keysE, List.getElem?_map, List.getElem?_eq_getElem hi, e]; rfl⟩
theorem keysE_not {l : List Int} {t : Int} (h : t ∉ l) : ∀ p ∈ keysE l, p.1 ≠ .int .i64 t := by
  intro p hp e
  obtain ⟨u, hu, rfl⟩ := List.mem_map.1 hp
  simp only [Go.Value.int.injEq] at e
  exact h (e.2 ▸ hu)
theorem keysE_snoc (l : List Int) (t : Int) : keysE (l ++ [t]) = keysE l ++ [(.int .i64 t, .v (.bool true))] := by
  rw [keysE, List.map_append]; rfl
theorem keysV_at {l : List ByteArray} {t : ByteArray} (h : t ∈ l) : At (keysV l) (.string t) (some (.v (.bool true))) := by
  obtain ⟨i, hi, e⟩ := List.mem_iff_getElem.1 h
  exact ⟨i, by rw [keysV, List.getElem?_map, List.getElem?_eq_getElem hi, e]; rfl⟩
theorem keysV_not {l : List ByteArray} {t : ByteArray} (h : t ∉ l) : ∀ p ∈ keysV l, p.1 ≠ .string t := by
  intro p hp e
  obtain ⟨u, hu, rfl⟩ := List.mem_map.1 hp
  simp only [Go.Value.string.injEq] at e
  exact h (e ▸ hu)
theorem keysV_kv {l : List ByteArray} (h : ∀ t ∈ l, t.size ≤ 1000000) : ∀ p ∈ keysV l, ∃ r, Go.keyOf Tryz.prog 9 p.1 = some r := by
  intro p hp
  obtain ⟨u, hu, rfl⟩ := List.mem_map.1 hp
  exact str_kv u (h u hu)
theorem keysV_snoc {l : List ByteArray} {i : Nat} (h : i < l.length) : keysV (l.take (i + 1)) = keysV (l.take i) ++ [(.string (l.getD i default), .v (.bool true))] := by
  rw [keysV, take_snoc default h, List.map_append]; rfl
theorem valid_vars {s : Sy} {i : Nat} (h : i < s.vars.length) (e : newAt s.vars i = false) : validS s = false := by
  have : varsB s.vars = false := by
    rw [varsB, List.all_eq_false]
    exact ⟨i, List.mem_range.2 h, by rw [e]; decide⟩
  rw [validS, this, Bool.and_false, Bool.false_and, Bool.false_and]
theorem le_T {l : List En} {k : Nat} (h : k < l.length) : List.take 2 (List.drop 0 (List.drop (k * 2) (l.map ec).flatten)) = ec (l.getD k (0, [])) := by
  rw [List.drop_zero]
  induction l generalizing k with
  | nil => simp at h
  | cons e l ih =>
    cases k with
    | zero => rfl
    | succ k =>
      rw [Nat.succ_mul, List.map_cons, List.flatten_cons, Nat.add_comm, ← List.drop_drop]
      exact ih (by simpa using h)
theorem le_I {l : List En} {k : Nat} (h : k < l.length) : (List.drop 0 (List.drop (k * 2) (l.map ec).flatten))[0]? = some (.v (.int .i64 (l.getD k (0, [])).1)) := by
  have := le_T h
  have h2 : (List.take 2 (List.drop 0 (List.drop (k * 2) (l.map ec).flatten)))[0]? = some (.v (.int .i64 (l.getD k (0, [])).1)) := by rw [this]; rfl
  rwa [List.getElem?_take_of_lt (by decide)] at h2
def seenAt (s : Sy) (q : Nat) : List Int := if q = 0 then [] else if q = 1 then s.eqs.map (·.1) else s.eqs.map (·.1) ++ s.neqs.map (·.1)
def listAt (s : Sy) (q : Nat) : List En := if q = 0 then s.eqs else s.neqs
structure Sk (s : Sy) : Prop where
  e : s.eqs.length ≤ 1000
  d : s.neqs.length ≤ 1000
  v : s.vars.length ≤ 1000
  z : ∀ t ∈ s.vars, t.size ≤ 1000000
  pe : ∀ q ∈ s.eqs, Ps q.2
  pd : ∀ q ∈ s.neqs, Ps q.2
  ie : ∀ q ∈ s.eqs, I64 q.1
  id : ∀ q ∈ s.neqs, I64 q.1
theorem sysvalid_spec (s : Sy) (h : Sk s) : FSpec Tryz.prog 28 [encS s] (.v (.bool (validS s))) := by
  have hv := h.v
  by_cases hh : headB s = false
  · have hf : validS s = false := by rw [validS, hh, Bool.false_and, Bool.false_and, Bool.false_and]
    rw [hf]
    by_cases h1 : s.vars.length > 4
    · refine FSpec.intro ok [] Tryz.func28 rfl rfl (m := 109) rfl ?_
      conv => whnf
      repeat ((first | refine ⟨_, (rfl : (_ : List C)[_]? = some _), ?_⟩ | refine And.intro (by decide : (_ : Nat) ≠ 0) ?_); conv => whnf)
      rw [show decide ((s.vars.length : Int) > 4) = true from decide_eq_true (by omega)]
      conv => whnf
      skip
      repeat' (first | exact rfl | exact trivial | exact ⟨_, rfl⟩ | exact ⟨rfl, rfl, rfl⟩ | refine And.intro ?_ ?_)
    · by_cases h2 : s.next < 1
      · refine FSpec.intro ok [] Tryz.func28 rfl rfl (m := 109) rfl ?_
        conv => whnf
        repeat ((first | refine ⟨_, (rfl : (_ : List C)[_]? = some _), ?_⟩ | refine And.intro (by decide : (_ : Nat) ≠ 0) ?_); conv => whnf)
        rw [show decide ((s.vars.length : Int) > 4) = false from decide_eq_false (by omega)]
        conv => whnf
        repeat ((first | refine ⟨_, (rfl : (_ : List C)[_]? = some _), ?_⟩ | refine And.intro (by decide : (_ : Nat) ≠ 0) ?_); conv => whnf)
        rw [decide_eq_true h2]
        conv => whnf
        skip
        repeat' (first | exact rfl | exact trivial | exact ⟨_, rfl⟩ | exact ⟨rfl, rfl, rfl⟩ | refine And.intro ?_ ?_)
      · have h3 : s.next > 1000000 := by
          apply Decidable.byContradiction
          intro h3
          rw [headB, decide_eq_true (show s.vars.length ≤ 4 by omega), decide_eq_true (show 1 ≤ s.next by omega), decide_eq_true (show s.next ≤ 1000000 by omega)] at hh
          cases hh
        refine FSpec.intro ok [] Tryz.func28 rfl rfl (m := 109) rfl ?_
        conv => whnf
        repeat ((first | refine ⟨_, (rfl : (_ : List C)[_]? = some _), ?_⟩ | refine And.intro (by decide : (_ : Nat) ≠ 0) ?_); conv => whnf)
        rw [show decide ((s.vars.length : Int) > 4) = false from decide_eq_false (by omega)]
        conv => whnf
        repeat ((first | refine ⟨_, (rfl : (_ : List C)[_]? = some _), ?_⟩ | refine And.intro (by decide : (_ : Nat) ≠ 0) ?_); conv => whnf)
        rw [decide_eq_false h2]
        conv => whnf
        repeat ((first | refine ⟨_, (rfl : (_ : List C)[_]? = some _), ?_⟩ | refine And.intro (by decide : (_ : Nat) ≠ 0) ?_); conv => whnf)
        rw [decide_eq_true h3]
        conv => whnf
        skip
        repeat' (first | exact rfl | exact trivial | exact ⟨_, rfl⟩ | exact ⟨rfl, rfl, rfl⟩ | refine And.intro ?_ ?_)
  · have hh : headB s = true := by simpa using hh
    have hh0 := hh
    simp only [headB, Bool.and_eq_true, decide_eq_true_eq] at hh0
    obtain ⟨⟨h1, h2⟩, h3⟩ := hh0
    refine FSpec.intro ok [] Tryz.func28 rfl rfl (m := 109) rfl ?_
    conv => whnf
    repeat ((first | refine ⟨_, (rfl : (_ : List C)[_]? = some _), ?_⟩ | refine And.intro (by decide : (_ : Nat) ≠ 0) ?_); conv => whnf)
    rw [show decide ((s.vars.length : Int) > 4) = false from decide_eq_false (by omega)]
    conv => whnf
    repeat ((first | refine ⟨_, (rfl : (_ : List C)[_]? = some _), ?_⟩ | refine And.intro (by decide : (_ : Nat) ≠ 0) ?_); conv => whnf)
    rw [show decide (s.next < 1) = false from decide_eq_false (by omega)]
    conv => whnf
    repeat ((first | refine ⟨_, (rfl : (_ : List C)[_]? = some _), ?_⟩ | refine And.intro (by decide : (_ : Nat) ≠ 0) ?_); conv => whnf)
    rw [show decide (s.next > 1000000) = false from decide_eq_false (by omega)]
    conv => whnf
    repeat ((first | refine ⟨_, (rfl : (_ : List C)[_]? = some _), ?_⟩ | refine And.intro (by decide : (_ : Nat) ≠ 0) ?_); conv => whnf)
    refine ⟨{ i : Nat // i ≤ s.vars.length ∧ ∀ j, j < i → newAt s.vars j = true }, fun q_ => match q_ with | ⟨i, _⟩ => ⟨[(29, .v (.int .i64 i))], [(25, .map (keysV (s.vars.take i)))]⟩, ⟨[false, false, true, false, false, true, false, false, false, false, false, false, false, false, false, false, false, false, false, false, false, false, false, false, false, false, false, false, false, true, true, true, true, true, true, true, true, true, true, true, true, true, true, true], [1], []⟩, fun q_ => match q_ with | ⟨i, _⟩ => s.vars.length - i, ⟨⟨0, Nat.zero_le _, fun j hj => absurd hj (Nat.not_lt_zero j)⟩, [], ?_⟩, ?_⟩
    · conv => whnf
      repeat' (first | exact rfl | exact trivial | exact ⟨_, rfl⟩ | exact ⟨rfl, rfl, rfl⟩ | refine And.intro ?_ ?_)
    · rintro ⟨i, hi, hj⟩
      conv => whnf
      refine bcase_intro (fun g => ?_) (fun g => ?_)
      · have g : i < s.vars.length := by first | simpa [-List.getD_eq_getElem?_getD] using g | (simp [-List.getD_eq_getElem?_getD] at g; omega)
        have hm : s.vars.getD i default ∈ s.vars := by rw [List.getD_eq_getElem?_getD, List.getElem?_eq_getElem g]; exact List.getElem_mem _
        conv => whnf
        repeat ((first | refine ⟨_, map_at default g, ?_⟩ | refine ⟨_, ⟨rfl, by omega⟩, ?_⟩); conv => whnf)
        refine ⟨_, _, name_spec (s.vars.getD i default) (h.z _ hm), SubL.le (by repeat' (first | exact rfl | exact trivial | exact ⟨_, rfl⟩ | exact ⟨rfl, rfl, rfl⟩ | refine And.intro ?_ ?_)), ?_⟩
        conv => whnf
        have ht : ∀ t ∈ s.vars.take i, t.size ≤ 1000000 := fun t ht => h.z t (List.mem_of_mem_take ht)
        cases hn : nameB (s.vars.getD i default) with
        | false =>
          rw [valid_vars g (by rw [newAt, hn, Bool.false_and])]
          conv => whnf
          repeat' (first | exact rfl | exact trivial | exact ⟨_, rfl⟩ | exact ⟨rfl, rfl, rfl⟩ | refine And.intro ?_ ?_)
        | true =>
          conv => whnf
          skip
          by_cases hc : s.vars.getD i default ∈ s.vars.take i
          · refine ⟨_, _, ⟨rfl, str_kl, str_kv _ (h.z _ hm), keysV_kv ht⟩, _, keysV_at hc, ?_⟩
            rw [valid_vars g (by rw [newAt, hn, memB_iff.2 hc]; rfl)]
            conv => whnf
            repeat' (first | exact rfl | exact trivial | exact ⟨_, rfl⟩ | exact ⟨rfl, rfl, rfl⟩ | refine And.intro ?_ ?_)
          · refine ⟨_, _, ⟨rfl, str_kl, str_kv _ (h.z _ hm), keysV_kv ht⟩, none, keysV_not hc, ?_⟩
            conv => whnf
            skip
            refine ⟨_, _, _, ⟨rfl, str_kl, str_kv _ (h.z _ hm), keysV_kv ht⟩, .inr ⟨keysV_not hc, rfl⟩, ?_⟩
            conv => whnf
            repeat (refine ⟨_, wAdd1 (by omega), ?_⟩; conv => whnf)
            have hnew : newAt s.vars i = true := by
              rw [newAt, hn, memB_false hc]
              rfl
            have e6 : ∀ j, j < i + 1 → newAt s.vars j = true := by
              intro j hj2
              rcases Nat.lt_succ_iff_lt_or_eq.1 hj2 with h5 | h5
              · exact hj j h5
              · subst h5; exact hnew
            have e7 := keysV_snoc g
            refine ⟨⟨i + 1, by omega, e6⟩, [], by dsimp only; omega, ?_⟩
            conv => whnf
            repeat' (first | exact rfl | exact trivial | exact ⟨_, rfl⟩ | exact ⟨rfl, rfl, rfl⟩ | (exact e7) | refine And.intro ?_ ?_)
      · have g : s.vars.length ≤ i := by first | simpa [-List.getD_eq_getElem?_getD] using g | (simp [-List.getD_eq_getElem?_getD] at g; omega)
        have hvs : varsB s.vars = true := by
          rw [varsB, List.all_eq_true]
          intro j hm
          exact hj j (by have := List.mem_range.1 hm; omega)
        conv => whnf
        repeat ((first | refine ⟨_, (rfl : (_ : List C)[_]? = some _), ?_⟩ | refine And.intro (by decide : (_ : Nat) ≠ 0) ?_); conv => whnf)
        refine ⟨{ w : Nat × List Int // w.1 ≤ 2 ∧ w.2 = seenAt s w.1 ∧ (0 < w.1 → entriesB s.vars.length s.next [] s.eqs = true) ∧ (1 < w.1 → entriesB s.vars.length s.next (s.eqs.map (·.1)) s.neqs = true) }, fun q_ => match q_ with | ⟨(q, seen), _⟩ => ⟨[(51, .v (.int .i64 q))], [(44, .map (keysE seen))]⟩, ⟨[false, false, true, false, false, false, false, false, true, true, true, false, false, false, false, false, false, false, false, false, false, false, false, false, false, false, false, false, false, false, false, false, false, false, false, false, false, false, false, false, false, false, false, false, false, false, false, false, false, false, false, true, true, true, true, true, true, true, true, true, true, true, true, true, true, true, true, true, true, true, true, true, true, true, true, true, true, true, true, true, true, true, true, true, true, true, true, true, true, true, true, true, true, true, true, true, true, true, true, true, true, true, true, true, true, true, true, true, true, true], [1], []⟩, fun q_ => match q_ with | ⟨(q, seen), _⟩ => 2 - q, ⟨⟨(0, []), by simp only; omega, rfl, fun e => absurd e (Nat.lt_irrefl 0), fun e => absurd e (by simp only; omega)⟩, [], ?_⟩, ?_⟩
        · conv => whnf
          repeat' (first | exact rfl | exact trivial | exact ⟨_, rfl⟩ | exact ⟨rfl, rfl, rfl⟩ | refine And.intro ?_ ?_)
        · rintro ⟨⟨q, seen⟩, hq, hs, hq1, hq2⟩
          simp only at hq hs hq1 hq2
          have hcell : ∀ {k : Nat}, k < 2 → (List.drop (k * 1) [encEs s.eqs, encEs s.neqs])[0]? = some (encEs (listAt s k)) := by
            intro k hk
            match k, hk with
            | 0, _ => rfl
            | 1, _ => rfl
          by_cases hq3 : q = 2
          · subst hq3
            have hok : validS s = true := by rw [validS, hh, hvs, hq1 (by decide), hq2 (by decide)]; rfl
            rw [hok]
            conv => whnf
            repeat' (first | exact rfl | exact trivial | exact ⟨_, rfl⟩ | exact ⟨rfl, rfl, rfl⟩ | refine And.intro ?_ ?_)
          · have hq4 : q < 2 := by omega
            have hle : (listAt s q).length ≤ 1000 := by unfold listAt; split; exact h.e; exact h.d
            have hps : ∀ e ∈ listAt s q, Ps e.2 := by unfold listAt; split; exact h.pe; exact h.pd
            have hval : entriesB s.vars.length s.next seen (listAt s q) = false → validS s = false := by
              intro e
              match q, hq4 with
              | 0, _ =>
                have e : entriesB s.vars.length s.next [] s.eqs = false := by rw [hs] at e; exact e
                rw [validS, e, Bool.and_false, Bool.false_and]
              | 1, _ =>
                have e : entriesB s.vars.length s.next (s.eqs.map (·.1)) s.neqs = false := by rw [hs] at e; exact e
                rw [validS, e, Bool.and_false]
            have hcq := hcell hq4
            have hlr : ∀ e ∈ listAt s q, I64 e.1 := by unfold listAt; split; exact h.ie; exact h.id
            have hsr : ∀ t ∈ seen, I64 t := by
              rw [hs]
              match q, hq4 with
              | 0, _ => exact fun t ht => absurd ht (by simp [seenAt])
              | 1, _ =>
                intro t ht
                obtain ⟨e, he, rfl⟩ := List.mem_map.1 (show t ∈ s.eqs.map (·.1) from ht)
                exact h.ie e he
            have hadd : seenAt s (q + 1) = seen ++ (listAt s q).map (·.1) := by
              rw [hs]
              match q, hq4 with
              | 0, _ => rfl
              | 1, _ => rfl
            have hnx1 : q = 0 → s.eqs = listAt s q := fun e => by subst e; rfl
            have hnx2 : q = 1 → s.neqs = listAt s q := fun e => by subst e; rfl
            clear hcell
            generalize listAt s q = l at *
            conv => whnf
            rw [show decide ((q : Int) < (2 : Nat)) = true from decide_eq_true (by omega)]
            conv => whnf
            repeat ((first | refine ⟨_, hcq, ?_⟩ | refine ⟨_, ⟨rfl, by omega⟩, ?_⟩); conv => whnf)
            by_cases hl12 : 12 < l.length
            · rw [hval (by rw [entriesB, decide_eq_false (by omega), Bool.false_and]), show decide ((l.length : Int) > 12) = true from decide_eq_true (by omega)]
              conv => whnf
              repeat' (first | exact rfl | exact trivial | exact ⟨_, rfl⟩ | exact ⟨rfl, rfl, rfl⟩ | refine And.intro ?_ ?_)
            · rw [show decide ((l.length : Int) > 12) = false from decide_eq_false (by omega)]
              conv => whnf
              skip
              refine ⟨{ w : Nat × List Int // w.1 ≤ l.length ∧ w.2 = seen ++ (l.take w.1).map (·.1) ∧ ∀ j, j < w.1 → entryAt s.vars.length s.next seen l j = true }, fun q_ => match q_ with | ⟨(k, sn), _⟩ => ⟨[(60, .v (.int .i64 k))], [(44, .map (keysE sn))]⟩, ⟨[false, false, true, false, false, false, false, false, false, true, true, false, false, false, false, false, false, false, false, false, false, false, false, false, false, false, false, false, false, false, false, false, false, false, false, false, false, false, false, false, false, false, false, false, false, false, false, false, false, false, false, false, false, false, false, false, false, false, false, false, true, true, true, true, true, true, true, true, true, true, true, true, true, true, true, true, true, true, true, true, true, true, true, true, true, true, true, true, true, true, true, true, true, true, true, true, true, true, true, true, true, true, true, true, true, true, true, true, true], [1], []⟩, fun q_ => match q_ with | ⟨(k, sn), _⟩ => l.length - k, ⟨⟨(0, seen), Nat.zero_le _, by simp, fun j hj => absurd hj (Nat.not_lt_zero j)⟩, [], ?_⟩, ?_⟩
              · conv => whnf
                repeat' (first | exact rfl | exact trivial | exact ⟨_, rfl⟩ | exact ⟨rfl, rfl, rfl⟩ | refine And.intro ?_ ?_)
              · rintro ⟨⟨k, sn⟩, hk, hsn, hkj⟩
                simp only at hk hsn hkj
                conv => whnf
                refine bcase_intro (fun g3 => ?_) (fun g3 => ?_)
                · have g3 : k < l.length := by first | simpa [-List.getD_eq_getElem?_getD] using g3 | (simp [-List.getD_eq_getElem?_getD] at g3; omega)
                  have hke : l.getD k (0, []) ∈ l := by rw [List.getD_eq_getElem?_getD, List.getElem?_eq_getElem g3]; exact List.getElem_mem _
                  have hps1 := hps _ hke
                  have hT := le_T g3
                  have her := hlr _ hke
                  have hnr : ∀ t ∈ sn, I64 t := by
                    rw [hsn]
                    intro t ht
                    rcases List.mem_append.1 ht with ht | ht
                    · exact hsr t ht
                    · obtain ⟨e, he, rfl⟩ := List.mem_map.1 ht
                      exact hlr e (List.mem_of_mem_take he)
                  have hbad : entryAt s.vars.length s.next seen l k = false → validS s = false := fun e => hval (by
                    rw [entriesB, show (List.range l.length).all (entryAt s.vars.length s.next seen l) = false from by
                      rw [List.all_eq_false]; exact ⟨k, List.mem_range.2 g3, by rw [e]; decide⟩, Bool.and_false])
                  have hT2 : 0 < k → (List.drop 0 (List.drop ((k - 1) * 2) (l.map ec).flatten))[0]? = some (.v (.int .i64 (l.getD (k - 1) (0, [])).1)) := fun _ => le_I (by omega)
                  have hent : entryAt s.vars.length s.next seen l k = (decide (1 ≤ (l.getD k (0, [])).1) && decide ((l.getD k (0, [])).1 < s.next) && !sn.contains (l.getD k (0, [])).1 && (decide (k = 0) || decide ((l.getD (k - 1) (0, [])).1 ≤ (l.getD k (0, [])).1)) && wiB (l.getD k (0, [])).2 s.vars.length 12) := by
                    rw [hsn]; rfl
                  have hsn3 : sn ++ [(l.getD k (0, [])).1] = seen ++ (l.take (k + 1)).map (·.1) := by
                    rw [hsn, take_snoc (0, []) g3, List.map_append, List.append_assoc]; rfl
                  generalize l.getD k (0, []) = e at *
                  generalize l.getD (k - 1) (0, []) = e0 at *
                  rw [hent] at hbad
                  conv => whnf
                  repeat ((first | refine ⟨_, hT, rfl, ?_⟩ | refine ⟨_, ⟨rfl, by omega⟩, ?_⟩ | refine ⟨_, (rfl : (_ : List C)[_]? = some _), ?_⟩ | refine And.intro (by decide : (_ : Nat) ≠ 0) ?_ | refine anyA (by decide +kernel) ?_ | refine ⟨by first | decide | exact Nat.le_refl _, _, rfl, ?_⟩); conv => whnf)
                  by_cases a1 : e.1 < 1
                  · rw [hbad (by rw [decide_eq_false (show ¬ 1 ≤ e.1 by omega)]; rfl), decide_eq_true a1]
                    conv => whnf
                    skip
                    repeat' (first | exact rfl | exact trivial | exact ⟨_, rfl⟩ | exact ⟨rfl, rfl, rfl⟩ | refine And.intro ?_ ?_)
                  · rw [decide_eq_false a1]
                    conv => whnf
                    repeat ((first | refine ⟨_, (rfl : (_ : List C)[_]? = some _), ?_⟩ | refine And.intro (by decide : (_ : Nat) ≠ 0) ?_); conv => whnf)
                    by_cases a2 : e.1 ≥ s.next
                    · rw [hbad (by rw [decide_eq_false (show ¬ e.1 < s.next by omega), Bool.and_false]; rfl), decide_eq_true a2]
                      conv => whnf
                      skip
                      repeat' (first | exact rfl | exact trivial | exact ⟨_, rfl⟩ | exact ⟨rfl, rfl, rfl⟩ | refine And.intro ?_ ?_)
                    · rw [decide_eq_false a2]
                      conv => whnf
                      repeat ((first | refine ⟨_, (rfl : (_ : List C)[_]? = some _), ?_⟩ | refine And.intro (by decide : (_ : Nat) ≠ 0) ?_); conv => whnf)
                      by_cases a3 : e.1 ∈ sn
                      · refine ⟨_, _, ⟨rfl, int_kl, int_kv _ her.1 her.2, keysE_kv hnr⟩, _, keysE_at a3, ?_⟩
                        rw [hbad (by rw [List.contains_iff_mem.2 a3]; simp)]
                        conv => whnf
                        skip
                        repeat' (first | exact rfl | exact trivial | exact ⟨_, rfl⟩ | exact ⟨rfl, rfl, rfl⟩ | refine And.intro ?_ ?_)
                      · refine ⟨_, _, ⟨rfl, int_kl, int_kv _ her.1 her.2, keysE_kv hnr⟩, none, keysE_not a3, ?_⟩
                        conv => whnf
                        skip
                        have c3 : sn.contains e.1 = false := by
                          cases c : sn.contains e.1 with
                          | false => rfl
                          | true => exact absurd (List.contains_iff_mem.1 c) a3
                        by_cases a4 : k = 0
                        · rw [show decide ((k : Int) > 0) = false from decide_eq_false (by omega)]
                          conv => whnf
                          repeat ((first | refine ⟨_, (rfl : (_ : List C)[_]? = some _), ?_⟩ | refine And.intro (by decide : (_ : Nat) ≠ 0) ?_); conv => whnf)
                          refine ⟨_, _, within_spec e.2 s.vars.length hps1, SubL.le (by repeat' (first | exact rfl | exact trivial | exact ⟨_, rfl⟩ | exact ⟨rfl, rfl, rfl⟩ | refine And.intro ?_ ?_)), ?_⟩
                          conv => whnf
                          cases a6 : wiB e.2 s.vars.length 12 with
                          | false =>
                            rw [hbad (by rw [a6, Bool.and_false])]
                            conv => whnf
                            skip
                            repeat' (first | exact rfl | exact trivial | exact ⟨_, rfl⟩ | exact ⟨rfl, rfl, rfl⟩ | refine And.intro ?_ ?_)
                          | true =>
                            conv => whnf
                            repeat ((first | refine ⟨_, (rfl : (_ : List C)[_]? = some _), ?_⟩ | refine And.intro (by decide : (_ : Nat) ≠ 0) ?_); conv => whnf)
                            refine ⟨_, _, _, ⟨rfl, int_kl, int_kv _ her.1 her.2, keysE_kv hnr⟩, .inr ⟨keysE_not a3, rfl⟩, ?_⟩
                            conv => whnf
                            repeat (refine ⟨_, wAdd1 (by omega), ?_⟩; conv => whnf)
                            have hgood : entryAt s.vars.length s.next seen l k = true := by
                              rw [hent, a6, c3, decide_eq_true (show 1 ≤ e.1 by omega), decide_eq_true (show e.1 < s.next by omega), decide_eq_true a4]
                              rfl
                            have e6 : ∀ j, j < k + 1 → entryAt s.vars.length s.next seen l j = true := by
                              intro j hj2
                              rcases Nat.lt_succ_iff_lt_or_eq.1 hj2 with h5 | h5
                              · exact hkj j h5
                              · subst h5; exact hgood
                            have e7 := keysE_snoc sn e.1
                            refine ⟨⟨(k + 1, sn ++ [e.1]), by simp only; omega, hsn3, e6⟩, [], by dsimp only; omega, ?_⟩
                            conv => whnf
                            repeat' (first | exact rfl | exact trivial | exact ⟨_, rfl⟩ | exact ⟨rfl, rfl, rfl⟩ | (exact e7) | refine And.intro ?_ ?_)
                        · rw [show decide ((k : Int) > 0) = true from decide_eq_true (by omega)]
                          conv => whnf
                          repeat ((first | refine ⟨_, hT2 (by omega), ?_⟩ | refine ⟨_, wSub1 (by omega) (by omega), ?_⟩ | refine ⟨_, ⟨rfl, by omega⟩, ?_⟩ | refine ⟨_, (rfl : (_ : List C)[_]? = some _), ?_⟩ | refine And.intro (by decide : (_ : Nat) ≠ 0) ?_); conv => whnf)
                          by_cases a5 : e.1 < e0.1
                          · rw [hbad (by rw [decide_eq_false a4, decide_eq_false (show ¬ e0.1 ≤ e.1 by omega)]; simp), decide_eq_true a5]
                            conv => whnf
                            skip
                            repeat' (first | exact rfl | exact trivial | exact ⟨_, rfl⟩ | exact ⟨rfl, rfl, rfl⟩ | refine And.intro ?_ ?_)
                          · rw [decide_eq_false a5]
                            conv => whnf
                            repeat ((first | refine ⟨_, (rfl : (_ : List C)[_]? = some _), ?_⟩ | refine And.intro (by decide : (_ : Nat) ≠ 0) ?_); conv => whnf)
                            refine ⟨_, _, within_spec e.2 s.vars.length hps1, SubL.le (by repeat' (first | exact rfl | exact trivial | exact ⟨_, rfl⟩ | exact ⟨rfl, rfl, rfl⟩ | refine And.intro ?_ ?_)), ?_⟩
                            conv => whnf
                            cases a6 : wiB e.2 s.vars.length 12 with
                            | false =>
                              rw [hbad (by rw [a6, Bool.and_false])]
                              conv => whnf
                              skip
                              repeat' (first | exact rfl | exact trivial | exact ⟨_, rfl⟩ | exact ⟨rfl, rfl, rfl⟩ | refine And.intro ?_ ?_)
                            | true =>
                              conv => whnf
                              repeat ((first | refine ⟨_, (rfl : (_ : List C)[_]? = some _), ?_⟩ | refine And.intro (by decide : (_ : Nat) ≠ 0) ?_); conv => whnf)
                              refine ⟨_, _, _, ⟨rfl, int_kl, int_kv _ her.1 her.2, keysE_kv hnr⟩, .inr ⟨keysE_not a3, rfl⟩, ?_⟩
                              conv => whnf
                              repeat (refine ⟨_, wAdd1 (by omega), ?_⟩; conv => whnf)
                              have hgood : entryAt s.vars.length s.next seen l k = true := by
                                rw [hent, a6, c3, decide_eq_true (show 1 ≤ e.1 by omega), decide_eq_true (show e.1 < s.next by omega), decide_eq_false a4, decide_eq_true (show e0.1 ≤ e.1 by omega)]
                                rfl
                              have e6 : ∀ j, j < k + 1 → entryAt s.vars.length s.next seen l j = true := by
                                intro j hj2
                                rcases Nat.lt_succ_iff_lt_or_eq.1 hj2 with h5 | h5
                                · exact hkj j h5
                                · subst h5; exact hgood
                              have e7 := keysE_snoc sn e.1
                              refine ⟨⟨(k + 1, sn ++ [e.1]), by simp only; omega, hsn3, e6⟩, [], by dsimp only; omega, ?_⟩
                              conv => whnf
                              repeat' (first | exact rfl | exact trivial | exact ⟨_, rfl⟩ | exact ⟨rfl, rfl, rfl⟩ | (exact e7) | refine And.intro ?_ ?_)
                · have g3 : l.length ≤ k := by first | simpa [-List.getD_eq_getElem?_getD] using g3 | (simp [-List.getD_eq_getElem?_getD] at g3; omega)
                  have hall : entriesB s.vars.length s.next seen l = true := by
                    rw [entriesB, decide_eq_true (by omega), Bool.true_and, List.all_eq_true]
                    intro j hm
                    exact hkj j (by have := List.mem_range.1 hm; omega)
                  have hsn2 : sn = seenAt s (q + 1) := by rw [hsn, hadd, List.take_of_length_le g3]
                  conv => whnf
                  repeat (refine ⟨_, wAdd1 (by omega), ?_⟩; conv => whnf)
                  have y1 : 0 < q + 1 → entriesB s.vars.length s.next [] s.eqs = true := fun _ => by
                    by_cases e : q = 0
                    · subst e
                      rw [hnx1 rfl]
                      rw [hs] at hall
                      exact hall
                    · exact hq1 (by omega)
                  have y2 : 1 < q + 1 → entriesB s.vars.length s.next (s.eqs.map (·.1)) s.neqs = true := fun _ => by
                    have e : q = 1 := by omega
                    subst e
                    rw [hnx2 rfl]
                    rw [hs] at hall
                    exact hall
                  refine ⟨⟨(q + 1, sn), by simp only; omega, hsn2, y1, y2⟩, [], by dsimp only; omega, ?_⟩
                  conv => whnf
                  repeat' (first | exact rfl | exact trivial | exact ⟨_, rfl⟩ | exact ⟨rfl, rfl, rfl⟩ | refine And.intro ?_ ?_)
end Go.Proofs.YtbhnankggcfndaaGreat
namespace Go.Proofs.YtbhnankggcfndaaGreat
open El Go.Shelf Go.Sort
set_option maxRecDepth 10000
set_option maxHeartbeats 4000000
theorem mono_kl : KL Tryz.prog 68 MoKv := KL.of (Go.Maps.Keyed.of_law mono_law)
theorem mo_kv {m : Mo} (h : Mv m) : MoKv (moV m) := mo_key m fun i => by have := h i; omega
def ent (t : Tm) : Go.Value × C := (moV t.2, .agg (rc t.1.num t.1.den))
def keysM (s : Pl) : List (Go.Value × C) := s.map ent
theorem keysM_kv {s : Pl} (h : ∀ t ∈ s, Mv t.2) : ∀ p ∈ keysM s, MoKv p.1 := by
  intro p hp
  obtain ⟨t, ht, rfl⟩ := List.mem_map.1 hp
  exact mo_kv (h t ht)
theorem keysM_not {s : Pl} {m : Mo} (h : ∀ t ∈ s, t.2 ≠ m) : ∀ p, p ∈ keysM s → p.1 ≠ moV m := by
  intro p hp e
  obtain ⟨t, ht, rfl⟩ := List.mem_map.1 hp
  exact h t ht (moV_inj e)
theorem sumadd_b (s : Pl) (c : Rat) (m : Mo) (hs : ∀ t ∈ s, Mv t.2) (hm : Mv m) (hn : ∀ t ∈ s, t.2 ≠ m) :
    GSpec Tryz.prog 154 [.mp 1000, .agg (rc c.num c.den), encM m] [(1000, .map (keysM s))] (.tup []) [(1000, .map (keysM (s ++ [(c, m)])))] [] := by
  have hnk := keysM_not hn
  refine GSpec.intro ok [] Tryz.func154 rfl rfl (m := 18) rfl rfl ?_
  conv => whnf
  repeat (refine ⟨_, rfl, rfl, ?_⟩; conv => whnf)
  refine ⟨moV m, _, ⟨rfl, mono_kl, mo_kv hm, keysM_kv hs⟩, none, hnk, ?_⟩
  conv => whnf
  repeat ((first | refine ⟨_, (rfl : (_ : List C)[_]? = some _), ?_⟩ | refine ⟨by first | decide | exact Nat.le_refl _, _, rfl, ?_⟩ | refine ⟨_, rfl, rfl, ?_⟩); conv => whnf)
  refine ⟨moV m, _, _, ⟨rfl, mono_kl, mo_kv hm, keysM_kv hs⟩, .inr ⟨hnk, rfl⟩, ?_⟩
  conv => whnf
  skip
  refine ⟨[], ?_⟩
  conv => whnf
  repeat' (first | exact rfl | exact trivial | exact ⟨_, rfl⟩ | exact ⟨rfl, rfl, rfl⟩ | (exact (by simp [keysM]; rfl)) | refine And.intro ?_ ?_)
theorem sumadd_g (q : Nat) (s : Pl) (c : Rat) (m : Mo) (hs : ∀ t ∈ s, Mv t.2) (hm : Mv m) (hn : ∀ t ∈ s, t.2 ≠ m) :
    GSpec Tryz.prog 154 [.mp q, .agg (rc c.num c.den), encM m] [(q, .map (keysM s))] (.tup []) [(q, .map (keysM (s ++ [(c, m)])))] [] := by
  have h := (sumadd_b s c m hs hm hn).ren (swp_inj 1000 q)
  have e : swp 1000 q 1000 = q := by simp [swp]
  simp only [mapL, mapC, mapB, mapX, e, List.map_nil] at h
  exact h
/-! ### The sort -/
def cR (a b : Tm) : Int := cmpT b a
def cS (a b : Tm) : Int := cmpM b.2 a.2
theorem TO.cR : TO cR where
  eq a b := by
    unfold Proofs.YtbhnankggcfndaaGreat.cR
    rw [TO.tm.eq]
    exact ⟨fun h => h.symm, fun h => h.symm⟩
  anti a b := TO.tm.anti b a
  trans a b d h1 h2 := TO.tm.trans d b a h2 h1
theorem swo_cS : SWO (ltOf cS) where
  irrefl x := TO.mo.swo.irrefl x.2
  trans x y z h1 h2 := TO.mo.swo.trans z.2 y.2 x.2 h2 h1
  ntrans x y z h1 h2 := TO.mo.swo.ntrans z.2 y.2 x.2 h2 h1
/-- No two terms of the same monomial. -/
def Dst (p : Pl) : Prop := p.Pairwise fun a b => a.2 ≠ b.2
theorem cS_cR {a b : Tm} (h : a.2 ≠ b.2) : ¬ cS b a < 0 → ¬ cR b a < 0 := by
  unfold cS cR cmpT
  have := TO.mo.eq a.2 b.2
  rw [if_pos (fun e => h (this.1 e))]
  exact id
theorem sorted_cR {zs xs : Pl} (hd : Dst xs) (hp : zs.Perm xs) (hs : zs.Pairwise fun a b => ¬ cS b a < 0) : zs = isort cR xs := by
  refine TO.cR.isort hp ?_
  have hz : Dst zs := hp.symm.pairwise hd (fun h => fun e => h e.symm)
  exact (hz.and hs).imp fun h => cS_cR h.1 h.2
theorem polyc_spec (a b : Tm) : FSpec Tryz.prog 193 [encT a, encT b] (.v (.int .i64 (cS a b))) := by
  refine FSpec.intro ok [] Tryz.func193 rfl rfl (m := 8) rfl ?_
  conv => whnf
  repeat ((first | refine And.intro (by decide : (_ : Nat) ≠ 0) ?_ | refine ⟨_, rfl, rfl, ?_⟩); conv => whnf)
  refine ⟨_, _, mcmp_spec b.2 a.2, SubL.le (by repeat' (first | exact rfl | exact trivial | exact ⟨_, rfl⟩ | exact ⟨rfl, rfl, rfl⟩ | refine And.intro ?_ ?_)), ?_⟩
  conv => whnf
  skip
  repeat' (first | exact rfl | exact trivial | exact ⟨_, rfl⟩ | exact ⟨rfl, rfl, rfl⟩ | refine And.intro ?_ ?_)
theorem polyc_fn : FnOk Tryz.prog 193 := (polyc_spec (0, zeroM) (0, zeroM)).1
instance : Inhabited Tm := ⟨(0, zeroM)⟩
theorem pdqT_fn : FnOk Tryz.prog 224 := ⟨_, Tryz.func224, rfl, rfl⟩
theorem pdqT_g (xs : Pl) (hd : Dst xs) (hn : xs.length ≤ 1000000) :
    GSpec Tryz.prog 224 [.own 1000 118 12 xs.length, .v (.int .i64 0), .v (.int .i64 xs.length), .v (.int .i64 (Go.Lib.bitLen xs.length : Nat)), .fn 193 []] [(1000, .row 118 12 xs.length (pc xs))] (.tup []) [(1000, .row 118 12 xs.length (pc (isort cR xs)))] [] :=
  sortK_g pdqT_fn (sortsT _ polyc_fn) (by decide) tc tc_len (fun _ => rfl) cS swo_cS 118 xs (isort cR xs) (fun x _ y _ => polyc_spec x y) (fun zs hp hs => sorted_cR hd hp hs) (by omega)
theorem sortT_b (xs : Pl) (hd : Dst xs) (hn : xs.length ≤ 1000000) :
    GSpec Tryz.prog 192 [.own 1000 118 12 xs.length, .fn 193 []] [(1000, .row 118 12 xs.length (pc xs))] (.tup []) [(1000, .row 118 12 xs.length (pc (isort cR xs)))] [] := by
  refine GSpec.intro ok [(1, ([], some []))] Tryz.func192 rfl rfl (m := 12) rfl rfl ?_
  conv => whnf
  repeat (refine ⟨_, wU (by omega), ?_⟩; conv => whnf)
  refine ⟨[], ?_⟩
  conv => whnf
  refine ⟨_, _, _, _, _, (len_spec xs.length (by omega)).g, ?_, ?_, bchk_iff.2 ⟨rfl, ?_⟩⟩
  · repeat' (first | exact rfl | exact trivial | exact ⟨_, rfl⟩ | exact ⟨rfl, rfl, rfl⟩ | refine And.intro ?_ ?_)
  · repeat' (first | exact rfl | exact trivial | exact ⟨_, rfl⟩ | exact ⟨rfl, rfl, rfl⟩ | refine And.intro ?_ ?_)
  conv => whnf
  skip
  refine ⟨[1000], ?_⟩
  conv => whnf
  refine ⟨_, _, _, _, _, pdqT_g xs hd hn, ?_, ?_, bchk_iff.2 ⟨rfl, ?_⟩⟩
  · repeat' (first | exact rfl | exact trivial | exact ⟨_, rfl⟩ | exact ⟨rfl, rfl, rfl⟩ | refine And.intro ?_ ?_)
  · repeat' (first | exact rfl | exact trivial | exact ⟨_, rfl⟩ | exact ⟨rfl, rfl, rfl⟩ | refine And.intro ?_ ?_)
  conv => whnf
  skip
  refine ⟨[], ?_⟩
  conv => whnf
  repeat' (first | exact rfl | exact trivial | exact ⟨_, rfl⟩ | exact ⟨rfl, rfl, rfl⟩ | refine And.intro ?_ ?_)
theorem sortT_g (q : Nat) (xs : Pl) (hd : Dst xs) (hn : xs.length ≤ 1000000) :
    GSpec Tryz.prog 192 [.own q 118 12 xs.length, .fn 193 []] [(q, .row 118 12 xs.length (pc xs))] (.tup []) [(q, .row 118 12 xs.length (pc (isort cR xs)))] [] := by
  have h := (sortT_b xs hd hn).ren (swp_inj 1000 q)
  have e : swp 1000 q 1000 = q := by simp [swp]
  simp only [mapL, mapC, mapB, mapX, e, List.map_nil] at h
  exact h
end Go.Proofs.YtbhnankggcfndaaGreat
namespace Go.Proofs.YtbhnankggcfndaaGreat
open El
set_option maxRecDepth 10000
set_option maxHeartbeats 4000000
/-! ### The bytes -/
def natBf : Nat → Nat → List UInt8
  | 0, n => [UInt8.ofNat n]
  | f + 1, n => if n < 128 then [UInt8.ofNat n] else UInt8.ofNat (n % 128 + 128) :: natBf f (n / 128)
def natB (n : Nat) : List UInt8 := natBf 9 n
def wordB (d : Nat) : List UInt8 := [UInt8.ofNat (d / 16777216), UInt8.ofNat (d / 65536), UInt8.ofNat (d / 256), UInt8.ofNat d]
/-- The words of a number, for small ones at once. -/
def wl (x : Nat) : List Nat := if x = 0 then [] else if x < 4294967296 then [x] else limbs x
theorem wl_eq (x : Nat) : wl x = limbs x := by
  unfold wl
  split
  · rename_i h; subst h; exact limbs_zero.symm
  · split
    · rename_i h1 h2
      rw [limbs_pos h1, Nat.mod_eq_of_lt h2, Nat.div_eq_of_lt h2, limbs_zero]
    · rfl
def hdB (z : Int) : Nat := 2 * (wl z.natAbs).length + if z < 0 then 1 else 0
def wordsB (l : List Nat) : List UInt8 := (l.map wordB).flatten
def wholeB (z : Int) : List UInt8 := natB (hdB z) ++ wordsB (wl z.natAbs)
def ratB (q : Rat) : List UInt8 := wholeB q.num ++ wholeB q.den
def expsB (m : List Nat) : List UInt8 := (m.map natB).flatten
def termB (t : Tm) : List UInt8 := ratB t.1 ++ expsB t.2.l
def termsB (p : Pl) : List UInt8 := (p.map termB).flatten
def polyB (p : Pl) : List UInt8 := natB p.length ++ termsB p
def listB (l : List Pl) : List UInt8 := (l.map polyB).flatten
def polysB (l : List Pl) : List UInt8 := natB l.length ++ listB l
def coreB (n : Nat) (es ds : List Pl) : List UInt8 := natB (2 * n) ++ (polysB es ++ polysB ds)
theorem len_bytes (l : List UInt8) : (bytesC l).length = l.length := by simp [bytesC]
theorem bytes_app (l m : List UInt8) : bytesC (l ++ m) = bytesC l ++ bytesC m := by simp [bytesC]
theorem names4 (p q b r : Nat) (h : [p, q, b, r].Nodup) : ∃ σ : Nat → Nat, Function.Injective σ ∧ σ 1000 = p ∧ σ 1001 = q ∧ σ 1002 = b ∧ σ 1 = r := by
  obtain ⟨σ, h1, h2⟩ := names_ex _ h
  refine ⟨fun x => σ (if x = 1000 then 0 else if x = 1001 then 1 else if x = 1002 then 2 else if x = 1 then 3 else x + 4), fun x y e => ?_, h2 0 p rfl, h2 1 q rfl, h2 2 b rfl, h2 3 r rfl⟩
  have e := h1 e
  revert e
  repeat' split
  all_goals (intro e; omega)
/-! ### Words -/
theorem z8 (x : Nat) : IntKind.u8.wrap (x : Int) = (((UInt8.ofNat x).toNat : Nat) : Int) := by
  simp only [IntKind.wrap]; simp [IntKind.bits, IntKind.signed]
theorem or128 : ∀ x : Fin 256, IntKind.u8.wrap ((BitVec.ofInt IntKind.u8.bits (x.val : Int) ||| BitVec.ofInt IntKind.u8.bits 128).toNat : Int) = (((UInt8.ofNat (x.val % 128 + 128)).toNat : Nat) : Int) := by decide +kernel
theorem wOr128 (x : Nat) : IntKind.u8.wrap ((BitVec.ofInt IntKind.u8.bits (((UInt8.ofNat x).toNat : Nat) : Int) ||| BitVec.ofInt IntKind.u8.bits 128).toNat : Int) = (((UInt8.ofNat (x % 128 + 128)).toNat : Nat) : Int) := by
  have h := or128 ⟨(UInt8.ofNat x).toNat, UInt8.toNat_lt _⟩
  rw [h]
  congr 4
  simp
theorem zShr7 {a : Nat} : (a : Int).fdiv (2 ^ (min (7 : Int).toNat IntKind.u64.bits)) = ((a / 128 : Nat) : Int) := by
  show (a : Int).fdiv (2 ^ 7) = _
  rw [Int.fdiv_eq_ediv_of_nonneg _ (by decide)]
  simp
/-- What the writer holds. -/
def wcell (q n : Nat) : Bx := .cells 151 0 [.own q 5 1 n]
def wnil : Bx := .cells 151 0 [.v (.slice none 0 0)]
def wrow (l : List UInt8) : Bx := .row 5 1 l.length (bytesC l)
theorem natBf_step {f m : Nat} (h : 128 ≤ m) (hm : m < 128 ^ (f + 1)) : ∃ f', f = f' + 1 ∧ natBf f m = UInt8.ofNat (m % 128 + 128) :: natBf f' (m / 128) ∧ m / 128 < 128 ^ (f' + 1) := by
  cases f with
  | zero => simp at hm; omega
  | succ f =>
    refine ⟨f, rfl, by rw [natBf, if_neg (by omega)], ?_⟩
    rw [Nat.div_lt_iff_lt_mul (by decide), ← Nat.pow_succ]
    exact hm
theorem natBf_end {f m : Nat} (h : m < 128) : natBf f m = [UInt8.ofNat m] := by
  cases f with
  | zero => rfl
  | succ f => rw [natBf, if_pos h]
theorem nat_b (n : Nat) (l : List UInt8) (hn : n < 4611686018427387904) (hl : (l ++ natB n).length ≤ 1000000000000) :
    GSpec Tryz.prog 194 [.ptr 1000 0, .v (.int .u64 n)] [(1000, wcell 1001 l.length), (1001, wrow l)] (.tup []) [(1000, wcell 1 (l ++ natB n).length), (1, wrow (l ++ natB n))] [1] := by
  refine GSpec.intro ok [] Tryz.func194 rfl rfl (m := 29) rfl rfl ?_
  conv => whnf
  refine ⟨{ q : List UInt8 × Nat × Nat // q.1 ++ natBf q.2.2 q.2.1 = l ++ natB n ∧ q.2.1 < 128 ^ (q.2.2 + 1) ∧ q.2.1 < 4611686018427387904 }, fun q_ => match q_ with | ⟨(d, m, f), _⟩ => ⟨[(1, .v (.int .u64 m))], [(1000, .cells 151 0 [.own 100 5 1 d.length]), (100, .row 5 1 d.length (bytesC d))]⟩, ⟨[false, true, false, false, true, true, true, true, true, true, true, true, true, true, true, true, true, true, true, true], [], [100]⟩, fun q_ => match q_ with | ⟨(d, m, f), _⟩ => f, ⟨⟨(l, n, 9), rfl, by simp only; omega, hn⟩, [(100, some 1001)], ?_⟩, ?_⟩
  · conv => whnf
    repeat' (first | exact rfl | exact trivial | exact ⟨_, rfl⟩ | exact ⟨rfl, rfl, rfl⟩ | refine And.intro ?_ ?_)
  · rintro ⟨⟨d, m, f⟩, h1, h2, h3⟩
    simp only at h1 h2 h3
    have hd : (d ++ natBf f m).length ≤ 1000000000000 := by rw [h1]; exact hl
    rw [List.length_append] at hd
    conv => whnf
    refine bcase_intro (fun h => ?_) (fun h => ?_)
    · have h : 128 ≤ m := by first | simpa [-List.getD_eq_getElem?_getD] using h | (simp [-List.getD_eq_getElem?_getD] at h; omega)
      obtain ⟨f', rfl, e1, e2⟩ := natBf_step h h2
      rw [e1] at h1 hd
      rw [List.length_cons] at hd
      conv => whnf
      repeat ((first | refine ⟨_, wOr128 m, ?_⟩ | refine ⟨_, z8 m, ?_⟩ | refine ⟨_, (rfl : (_ : List C)[_]? = some _), ?_⟩ | refine And.intro (by decide : (_ : Nat) ≠ 0) ?_); conv => whnf)
      refine ⟨rfl, ?_⟩
      conv => whnf
      refine ⟨rfl, ?_⟩
      conv => whnf
      refine ⟨rfl, ?_⟩
      conv => whnf
      refine ⟨⟨by show _ * 1 ≤ _; omega, by omega⟩, bytesC (d ++ [UInt8.ofNat (m % 128 + 128)]), (d ++ [UInt8.ofNat (m % 128 + 128)]).length, ⟨by rw [bytes_app]; rfl, by simp⟩, ?_⟩
      conv => whnf
      repeat ((first | refine ⟨by decide, _, zShr7, ?_⟩ | refine And.intro (by decide : (_ : Nat) ≠ 0) ?_ | refine ⟨by first | decide | exact Nat.le_refl _, _, rfl, ?_⟩); conv => whnf)
      refine ⟨⟨(d ++ [UInt8.ofNat (m % 128 + 128)], m / 128, f'), by simp only; rw [← h1, List.append_assoc]; rfl, e2, by simp only; omega⟩, [(100, some 17)], by dsimp only; omega, ?_⟩
      conv => whnf
      repeat' (first | exact rfl | exact trivial | exact ⟨_, rfl⟩ | exact ⟨rfl, rfl, rfl⟩ | refine And.intro ?_ ?_)
    · have h : m < 128 := by first | simpa [-List.getD_eq_getElem?_getD] using h | (simp [-List.getD_eq_getElem?_getD] at h; omega)
      rw [natBf_end h] at h1 hd
      conv => whnf
      repeat ((first | refine ⟨_, z8 m, ?_⟩ | refine ⟨_, (rfl : (_ : List C)[_]? = some _), ?_⟩ | refine And.intro (by decide : (_ : Nat) ≠ 0) ?_); conv => whnf)
      refine ⟨rfl, ?_⟩
      conv => whnf
      refine ⟨rfl, ?_⟩
      conv => whnf
      refine ⟨rfl, ?_⟩
      conv => whnf
      refine ⟨⟨by show _ * 1 ≤ _; omega, by omega⟩, bytesC (d ++ [UInt8.ofNat m]), (d ++ [UInt8.ofNat m]).length, ⟨by rw [bytes_app]; rfl, by simp⟩, ?_⟩
      conv => whnf
      repeat ((first | refine And.intro (by decide : (_ : Nat) ≠ 0) ?_ | refine ⟨by first | decide | exact Nat.le_refl _, _, rfl, ?_⟩); conv => whnf)
      rw [h1]
      refine ⟨[(1, some 28)], ?_⟩
      conv => whnf
      repeat' (first | exact rfl | exact trivial | exact ⟨_, rfl⟩ | exact ⟨rfl, rfl, rfl⟩ | refine And.intro ?_ ?_)
theorem nat0_b (n : Nat) (hn : n < 4611686018427387904) (hl : (natB n).length ≤ 1000000000000) :
    GSpec Tryz.prog 194 [.ptr 1000 0, .v (.int .u64 n)] [(1000, wnil)] (.tup []) [(1000, wcell 1 (natB n).length), (1, wrow (natB n))] [1] := by
  refine GSpec.intro ok [] Tryz.func194 rfl rfl (m := 29) rfl rfl ?_
  conv => whnf
  refine ⟨{ q : List UInt8 × Nat × Nat // q.1 ++ natBf q.2.2 q.2.1 = natB n ∧ q.2.1 < 128 ^ (q.2.2 + 1) ∧ q.2.1 < 4611686018427387904 }, fun q_ => match q_ with | ⟨(d, m, f), _⟩ => ⟨[(1, .v (.int .u64 m))], [(1000, .cells 151 0 [.own 100 5 1 d.length]), (100, .row 5 1 d.length (bytesC d))]⟩, ⟨[false, true, false, false, true, true, true, true, true, true, true, true, true, true, true, true, true, true, true, true], [], [100]⟩, fun q_ => match q_ with | ⟨(d, m, f), _⟩ => f, ⟨⟨([], n, 9), rfl, by simp only; omega, hn⟩, [(100, none)], ?_⟩, ?_⟩
  · conv => whnf
    repeat' (first | exact rfl | exact trivial | exact ⟨_, rfl⟩ | exact ⟨rfl, rfl, rfl⟩ | refine And.intro ?_ ?_)
  · rintro ⟨⟨d, m, f⟩, h1, h2, h3⟩
    simp only at h1 h2 h3
    have hd : (d ++ natBf f m).length ≤ 1000000000000 := by rw [h1]; exact hl
    rw [List.length_append] at hd
    conv => whnf
    refine bcase_intro (fun h => ?_) (fun h => ?_)
    · have h : 128 ≤ m := by first | simpa [-List.getD_eq_getElem?_getD] using h | (simp [-List.getD_eq_getElem?_getD] at h; omega)
      obtain ⟨f', rfl, e1, e2⟩ := natBf_step h h2
      rw [e1] at h1 hd
      rw [List.length_cons] at hd
      conv => whnf
      repeat ((first | refine ⟨_, wOr128 m, ?_⟩ | refine ⟨_, z8 m, ?_⟩ | refine ⟨_, (rfl : (_ : List C)[_]? = some _), ?_⟩ | refine And.intro (by decide : (_ : Nat) ≠ 0) ?_); conv => whnf)
      refine ⟨rfl, ?_⟩
      conv => whnf
      refine ⟨rfl, ?_⟩
      conv => whnf
      refine ⟨rfl, ?_⟩
      conv => whnf
      refine ⟨⟨by show _ * 1 ≤ _; omega, by omega⟩, bytesC (d ++ [UInt8.ofNat (m % 128 + 128)]), (d ++ [UInt8.ofNat (m % 128 + 128)]).length, ⟨by rw [bytes_app]; rfl, by simp⟩, ?_⟩
      conv => whnf
      repeat ((first | refine ⟨by decide, _, zShr7, ?_⟩ | refine And.intro (by decide : (_ : Nat) ≠ 0) ?_ | refine ⟨by first | decide | exact Nat.le_refl _, _, rfl, ?_⟩); conv => whnf)
      refine ⟨⟨(d ++ [UInt8.ofNat (m % 128 + 128)], m / 128, f'), by simp only; rw [← h1, List.append_assoc]; rfl, e2, by simp only; omega⟩, [(100, some 17)], by dsimp only; omega, ?_⟩
      conv => whnf
      repeat' (first | exact rfl | exact trivial | exact ⟨_, rfl⟩ | exact ⟨rfl, rfl, rfl⟩ | refine And.intro ?_ ?_)
    · have h : m < 128 := by first | simpa [-List.getD_eq_getElem?_getD] using h | (simp [-List.getD_eq_getElem?_getD] at h; omega)
      rw [natBf_end h] at h1 hd
      conv => whnf
      repeat ((first | refine ⟨_, z8 m, ?_⟩ | refine ⟨_, (rfl : (_ : List C)[_]? = some _), ?_⟩ | refine And.intro (by decide : (_ : Nat) ≠ 0) ?_); conv => whnf)
      refine ⟨rfl, ?_⟩
      conv => whnf
      refine ⟨rfl, ?_⟩
      conv => whnf
      refine ⟨rfl, ?_⟩
      conv => whnf
      refine ⟨⟨by show _ * 1 ≤ _; omega, by omega⟩, bytesC (d ++ [UInt8.ofNat m]), (d ++ [UInt8.ofNat m]).length, ⟨by rw [bytes_app]; rfl, by simp⟩, ?_⟩
      conv => whnf
      repeat ((first | refine And.intro (by decide : (_ : Nat) ≠ 0) ?_ | refine ⟨by first | decide | exact Nat.le_refl _, _, rfl, ?_⟩); conv => whnf)
      rw [h1]
      refine ⟨[(1, some 28)], ?_⟩
      conv => whnf
      repeat' (first | exact rfl | exact trivial | exact ⟨_, rfl⟩ | exact ⟨rfl, rfl, rfl⟩ | refine And.intro ?_ ?_)
theorem nat_g (p q b r : Nat) (h : [p, q, b, r].Nodup) (n : Nat) (l : List UInt8) (hn : n < 4611686018427387904) (hl : (l ++ natB n).length ≤ 1000000000000) :
    GSpec Tryz.prog 194 [.ptr p 0, .v (.int .u64 n)] [(p, wcell q l.length), (q, wrow l)] (.tup []) [(p, wcell r (l ++ natB n).length), (r, wrow (l ++ natB n))] [r] := by
  obtain ⟨σ, hσ, rfl, rfl, rfl, rfl⟩ := names4 p q b r h
  exact (nat_b n l hn hl).ren hσ
/-! ### Integers -/
theorem zShl1 {n : Nat} (h : n < 4611686018427387904) : IntKind.u64.wrap ((n : Int) * 2 ^ (min (1 : Int).toNat IntKind.u64.bits)) = ((2 * n : Nat) : Int) := by
  show IntKind.u64.wrap ((n : Int) * 2 ^ 1) = _
  rw [show (n : Int) * 2 ^ 1 = ((2 * n : Nat) : Int) by omega]
  exact wU (by omega)
theorem zShr63 {n : Nat} (h : n < 4611686018427387904) : (n : Int).fdiv (2 ^ (min (63 : Int).toNat IntKind.i64.bits)) = ((0 : Nat) : Int) := by
  show (n : Int).fdiv (2 ^ 63) = _
  rw [Int.fdiv_eq_ediv_of_nonneg _ (by decide)]
  omega
theorem zbv64 {n : Nat} (h : n < 18446744073709551616) : (BitVec.ofInt 64 (n : Int)).toNat = n := by rw [BitVec.toNat_ofInt]; omega
theorem zXor0 {n : Nat} (h : n < 9223372036854775808) : IntKind.u64.wrap ((BitVec.ofInt IntKind.u64.bits (n : Int) ^^^ BitVec.ofInt IntKind.u64.bits ((0 : Nat) : Int)).toNat : Int) = (n : Int) := by
  show IntKind.u64.wrap (((BitVec.ofInt 64 (n : Int) ^^^ BitVec.ofInt 64 ((0 : Nat) : Int) : BitVec 64)).toNat : Int) = _
  rw [BitVec.toNat_xor, zbv64 (by omega), zbv64 (by omega), Nat.xor_zero]
  exact wU (by omega)
theorem zOr1 {n : Nat} (h : n < 4611686018427387904) : IntKind.u64.wrap ((BitVec.ofInt IntKind.u64.bits ((2 * n : Nat) : Int) ||| BitVec.ofInt IntKind.u64.bits 1).toNat : Int) = ((2 * n + 1 : Nat) : Int) := by
  show IntKind.u64.wrap (((BitVec.ofInt 64 ((2 * n : Nat) : Int) ||| BitVec.ofInt 64 ((1 : Nat) : Int) : BitVec 64)).toNat : Int) = _
  have e : 2 * n ||| 1 = 2 * n + 1 := by
    have := Nat.two_pow_add_eq_or_of_lt (i := 1) (b := 1) (by decide) n
    rw [Nat.pow_one] at this
    exact this.symm
  rw [BitVec.toNat_or, zbv64 (by omega), zbv64 (by omega), e]
  exact wU (by omega)
theorem number_b (n : Nat) (l : List UInt8) (hn : n < 1000000000000) (hl : (l ++ natB (2 * n)).length ≤ 1000000000000) :
    GSpec Tryz.prog 156 [.ptr 1000 0, .v (.int .i64 n)] [(1000, wcell 1001 l.length), (1001, wrow l)] (.tup []) [(1000, wcell 1 (l ++ natB (2 * n)).length), (1, wrow (l ++ natB (2 * n)))] [1] := by
  refine GSpec.intro ok [(0, ([], some [1000, 1001]))] Tryz.func156 rfl rfl (m := 11) rfl rfl ?_
  conv => whnf
  repeat ((first | refine ⟨by decide, _, zShl1 (by omega), ?_⟩ | refine ⟨by decide, _, zShr63 (by omega), ?_⟩ | refine ⟨_, zXor0 (by omega), ?_⟩ | refine ⟨_, wU (by omega), ?_⟩); conv => whnf)
  refine ⟨_, _, _, _, _, nat_g 1000 1001 1002 300 (by decide) (2 * n) l (by omega) hl, ?_, ?_, bchk_iff.2 ⟨rfl, ?_⟩⟩
  · repeat' (first | exact rfl | exact trivial | exact ⟨_, rfl⟩ | exact ⟨rfl, rfl, rfl⟩ | refine And.intro ?_ ?_)
  · repeat' (first | exact rfl | exact trivial | exact ⟨_, rfl⟩ | exact ⟨rfl, rfl, rfl⟩ | refine And.intro ?_ ?_)
  conv => whnf
  refine ⟨[(1, some 300)], ?_⟩
  conv => whnf
  repeat' (first | exact rfl | exact trivial | exact ⟨_, rfl⟩ | exact ⟨rfl, rfl, rfl⟩ | refine And.intro ?_ ?_)
theorem number0_b (n : Nat) (hn : n < 1000000000000) (hl : (natB (2 * n)).length ≤ 1000000000000) :
    GSpec Tryz.prog 156 [.ptr 1000 0, .v (.int .i64 n)] [(1000, wnil)] (.tup []) [(1000, wcell 1 (natB (2 * n)).length), (1, wrow (natB (2 * n)))] [1] := by
  refine GSpec.intro ok [(0, ([], some [1000]))] Tryz.func156 rfl rfl (m := 11) rfl rfl ?_
  conv => whnf
  repeat ((first | refine ⟨by decide, _, zShl1 (by omega), ?_⟩ | refine ⟨by decide, _, zShr63 (by omega), ?_⟩ | refine ⟨_, zXor0 (by omega), ?_⟩ | refine ⟨_, wU (by omega), ?_⟩); conv => whnf)
  refine ⟨_, _, _, _, _, nat0_b (2 * n) (by omega) hl, ?_, ?_, bchk_iff.2 ⟨rfl, ?_⟩⟩
  · repeat' (first | exact rfl | exact trivial | exact ⟨_, rfl⟩ | exact ⟨rfl, rfl, rfl⟩ | refine And.intro ?_ ?_)
  · repeat' (first | exact rfl | exact trivial | exact ⟨_, rfl⟩ | exact ⟨rfl, rfl, rfl⟩ | refine And.intro ?_ ?_)
  conv => whnf
  refine ⟨[(1, some 1)], ?_⟩
  conv => whnf
  repeat' (first | exact rfl | exact trivial | exact ⟨_, rfl⟩ | exact ⟨rfl, rfl, rfl⟩ | refine And.intro ?_ ?_)
end Go.Proofs.YtbhnankggcfndaaGreat
namespace Go.Proofs.YtbhnankggcfndaaGreat
open El
set_option maxRecDepth 10000
set_option maxHeartbeats 4000000
theorem zShr24 {a : Nat} : (a : Int).fdiv (2 ^ (min (24 : Int).toNat IntKind.u32.bits)) = ((a / 16777216 : Nat) : Int) := by
  show (a : Int).fdiv (2 ^ 24) = _
  rw [Int.fdiv_eq_ediv_of_nonneg _ (by decide)]
  simp
theorem zShr16 {a : Nat} : (a : Int).fdiv (2 ^ (min (16 : Int).toNat IntKind.u32.bits)) = ((a / 65536 : Nat) : Int) := by
  show (a : Int).fdiv (2 ^ 16) = _
  rw [Int.fdiv_eq_ediv_of_nonneg _ (by decide)]
  simp
theorem zShr8 {a : Nat} : (a : Int).fdiv (2 ^ (min (8 : Int).toNat IntKind.u32.bits)) = ((a / 256 : Nat) : Int) := by
  show (a : Int).fdiv (2 ^ 8) = _
  rw [Int.fdiv_eq_ediv_of_nonneg _ (by decide)]
  simp
def wholeW (neg : Bool) (ws : List Nat) : List UInt8 := natB (2 * ws.length + if neg = true then 1 else 0) ++ wordsB ws
theorem words_take {l : List Nat} {i : Nat} (h : i < l.length) : wordsB (l.take (i + 1)) = wordsB (l.take i) ++ wordB (l.getD i 0) := by
  unfold wordsB
  rw [List.take_add_one, List.getElem?_eq_getElem h, List.getD_eq_getElem?_getD, List.getElem?_eq_getElem h, List.map_append, List.flatten_append]
  simp
theorem wordB_len (d : Nat) : (wordB d).length = 4 := rfl
theorem words_len (l : List Nat) : (wordsB l).length = 4 * l.length := by
  induction l with
  | nil => rfl
  | cons d l ih =>
    have : wordsB (d :: l) = wordB d ++ wordsB l := by simp [wordsB]
    rw [this, List.length_append, ih, List.length_cons]
    show 4 + _ = _
    omega
theorem whole_b (neg : Bool) (ws : List Nat) (l : List UInt8) (hl : (l ++ wholeW neg ws).length ≤ 1000000000000) :
    GSpec Tryz.prog 241 [.ptr 1000 0, .agg [.v (.bool neg), encN ws]] [(1000, wcell 1001 l.length), (1001, wrow l)] (.tup []) [(1000, wcell 1 (l ++ wholeW neg ws).length), (1, wrow (l ++ wholeW neg ws))] [1] := by
  have hb := hl
  unfold wholeW at hb
  rw [List.length_append, List.length_append, words_len] at hb
  obtain ⟨B, hB⟩ : ∃ B, B = l ++ natB (2 * ws.length + if neg = true then 1 else 0) := ⟨_, rfl⟩
  have hW : l ++ wholeW neg ws = B ++ wordsB ws := by rw [hB, wholeW, List.append_assoc]
  have hBl : B.length + 4 * ws.length ≤ 1000000000000 := by rw [hB, List.length_append]; omega
  have hc : 2 * ws.length + (if neg = true then 1 else 0) < 4611686018427387904 := by split <;> omega
  have hnat := nat_g 1000 1001 1002 300 (by decide) (2 * ws.length + if neg = true then 1 else 0) l hc (by rw [← hB]; omega)
  rw [← hB] at hnat
  rw [hW]
  clear hB hW hl hc hb
  refine GSpec.intro ok [(4, ([], some [1000, 1001]))] Tryz.func241 rfl rfl (m := 45) rfl rfl ?_
  conv => whnf
  cases neg
  all_goals
    repeat ((first | refine ⟨by decide, _, zShl1 (by omega), ?_⟩ | refine ⟨_, zOr1 (by omega), ?_⟩ | refine ⟨_, wU (by omega), ?_⟩ | refine ⟨_, (rfl : (_ : List C)[_]? = some _), ?_⟩ | refine And.intro (by decide : (_ : Nat) ≠ 0) ?_); conv => whnf)
    refine ⟨_, _, _, _, _, hnat, ?_, ?_, bchk_iff.2 ⟨rfl, ?_⟩⟩
    · repeat' (first | exact rfl | exact trivial | exact ⟨_, rfl⟩ | exact ⟨rfl, rfl, rfl⟩ | refine And.intro ?_ ?_)
    · repeat' (first | exact rfl | exact trivial | exact ⟨_, rfl⟩ | exact ⟨rfl, rfl, rfl⟩ | refine And.intro ?_ ?_)
    conv => whnf
    repeat ((first | refine ⟨_, (rfl : (_ : List C)[_]? = some _), ?_⟩ | refine And.intro (by decide : (_ : Nat) ≠ 0) ?_); conv => whnf)
    refine ⟨{ q : Nat × List UInt8 // q.1 ≤ ws.length ∧ q.2 = B ++ wordsB (ws.take q.1) }, fun q_ => match q_ with | ⟨(i, d), _⟩ => ⟨[(22, .v (.int .i64 i))], [(1000, .cells 151 0 [.own 100 5 1 d.length]), (100, .row 5 1 d.length (bytesC d))]⟩, ⟨[false, false, false, false, false, false, true, false, false, false, false, false, false, false, false, false, false, false, false, false, false, false, true, true, true, true, true, true, true, true, true, true, true, true, true, true, true, true, true, true, true, true, true, true, true, true, true], [], [100]⟩, fun q_ => match q_ with | ⟨(i, d), _⟩ => ws.length - i, ⟨⟨(0, B), Nat.zero_le _, by simp [wordsB]⟩, [(100, some 300)], ?_⟩, ?_⟩
    · conv => whnf
      repeat' (first | exact rfl | exact trivial | exact ⟨_, rfl⟩ | exact ⟨rfl, rfl, rfl⟩ | refine And.intro ?_ ?_)
    · rintro ⟨⟨i, d⟩, hi, hd⟩
      simp only at hi hd
      conv => whnf
      refine bcase_intro (fun h => ?_) (fun h => ?_)
      · have h : i < ws.length := by first | simpa [-List.getD_eq_getElem?_getD] using h | (simp [-List.getD_eq_getElem?_getD] at h; omega)
        have e : d ++ wordB (ws.getD i 0) = B ++ wordsB (ws.take (i + 1)) := by rw [hd, words_take h, List.append_assoc]
        have hlen : d.length = B.length + 4 * i := by rw [hd, List.length_append, words_len, List.length_take, Nat.min_eq_left hi]
        conv => whnf
        repeat ((first | refine ⟨_, map_at 0 h, ?_⟩ | refine ⟨by decide, _, zShr24, ?_⟩ | refine ⟨by decide, _, zShr16, ?_⟩ | refine ⟨by decide, _, zShr8, ?_⟩ | refine ⟨_, z8 _, ?_⟩ | refine ⟨_, ⟨rfl, by omega⟩, ?_⟩ | refine ⟨_, (rfl : (_ : List C)[_]? = some _), ?_⟩ | refine And.intro (by decide : (_ : Nat) ≠ 0) ?_); conv => whnf)
        refine ⟨rfl, ?_⟩
        conv => whnf
        refine ⟨rfl, ?_⟩
        conv => whnf
        refine ⟨rfl, ?_⟩
        conv => whnf
        refine ⟨⟨by show _ * 1 ≤ _; omega, by omega⟩, bytesC (d ++ wordB (ws.getD i 0)), (d ++ wordB (ws.getD i 0)).length, ⟨by rw [bytes_app]; rfl, by simp [wordB_len]⟩, ?_⟩
        conv => whnf
        repeat ((first | refine ⟨_, wAdd1 (by omega), ?_⟩ | refine And.intro (by decide : (_ : Nat) ≠ 0) ?_ | refine ⟨by first | decide | exact Nat.le_refl _, _, rfl, ?_⟩); conv => whnf)
        refine ⟨⟨(i + 1, d ++ wordB (ws.getD i 0)), by simp only; omega, e⟩, [(100, some 43)], by dsimp only; omega, ?_⟩
        conv => whnf
        repeat' (first | exact rfl | exact trivial | exact ⟨_, rfl⟩ | exact ⟨rfl, rfl, rfl⟩ | refine And.intro ?_ ?_)
      · have h : ws.length ≤ i := by first | simpa [-List.getD_eq_getElem?_getD] using h | (simp [-List.getD_eq_getElem?_getD] at h; omega)
        rw [List.take_of_length_le h] at hd
        subst hd
        conv => whnf
        refine ⟨[(1, some 100)], ?_⟩
        conv => whnf
        repeat' (first | exact rfl | exact trivial | exact ⟨_, rfl⟩ | exact ⟨rfl, rfl, rfl⟩ | refine And.intro ?_ ?_)
theorem whole_g (p q b r : Nat) (h : [p, q, b, r].Nodup) (neg : Bool) (ws : List Nat) (l : List UInt8) (hl : (l ++ wholeW neg ws).length ≤ 1000000000000) :
    GSpec Tryz.prog 241 [.ptr p 0, .agg [.v (.bool neg), encN ws]] [(p, wcell q l.length), (q, wrow l)] (.tup []) [(p, wcell r (l ++ wholeW neg ws).length), (r, wrow (l ++ wholeW neg ws))] [r] := by
  obtain ⟨σ, hσ, rfl, rfl, rfl, rfl⟩ := names4 p q b r h
  exact (whole_b neg ws l hl).ren hσ
theorem wholeB_W (z : Int) : wholeB z = wholeW (decide (z < 0)) (limbs z.natAbs) := by
  unfold wholeB wholeW hdB
  rw [wl_eq]
  simp
theorem rational_b (n d : Int) (l : List UInt8) (hl : (l ++ (wholeB n ++ wholeB d)).length ≤ 1000000000000) :
    GSpec Tryz.prog 227 [.ptr 1000 0, .agg (rc n d)] [(1000, wcell 1001 l.length), (1001, wrow l)] (.tup []) [(1000, wcell 1 (l ++ (wholeB n ++ wholeB d)).length), (1, wrow (l ++ (wholeB n ++ wholeB d)))] [1] := by
  rw [wholeB_W, wholeB_W] at hl ⊢
  rw [← List.append_assoc] at hl ⊢
  refine GSpec.intro ok [(1, ([], some [1000, 1001])), (2, ([], some [1000, 300]))] Tryz.func227 rfl rfl (m := 10) rfl rfl ?_
  conv => whnf
  repeat ((first | refine And.intro (by decide : (_ : Nat) ≠ 0) ?_ | refine ⟨_, rfl, rfl, ?_⟩); conv => whnf)
  refine ⟨_, _, _, _, _, whole_g 1000 1001 1002 300 (by decide) (decide (n < 0)) (limbs n.natAbs) l (by rw [List.length_append] at hl; omega), ?_, ?_, bchk_iff.2 ⟨rfl, ?_⟩⟩
  · repeat' (first | exact rfl | exact trivial | exact ⟨_, rfl⟩ | exact ⟨rfl, rfl, rfl⟩ | refine And.intro ?_ ?_)
  · repeat' (first | exact rfl | exact trivial | exact ⟨_, rfl⟩ | exact ⟨rfl, rfl, rfl⟩ | refine And.intro ?_ ?_)
  conv => whnf
  repeat ((first | refine And.intro (by decide : (_ : Nat) ≠ 0) ?_ | refine ⟨_, rfl, rfl, ?_⟩); conv => whnf)
  refine ⟨_, _, _, _, _, whole_g 1000 300 1002 301 (by decide) (decide (d < 0)) (limbs d.natAbs) (l ++ wholeW (decide (n < 0)) (limbs n.natAbs)) hl, ?_, ?_, bchk_iff.2 ⟨rfl, ?_⟩⟩
  · repeat' (first | exact rfl | exact trivial | exact ⟨_, rfl⟩ | exact ⟨rfl, rfl, rfl⟩ | refine And.intro ?_ ?_)
  · repeat' (first | exact rfl | exact trivial | exact ⟨_, rfl⟩ | exact ⟨rfl, rfl, rfl⟩ | refine And.intro ?_ ?_)
  conv => whnf
  refine ⟨[(1, some 301)], ?_⟩
  conv => whnf
  repeat' (first | exact rfl | exact trivial | exact ⟨_, rfl⟩ | exact ⟨rfl, rfl, rfl⟩ | refine And.intro ?_ ?_)
theorem rational_g (p q b r : Nat) (h : [p, q, b, r].Nodup) (n d : Int) (l : List UInt8) (hl : (l ++ (wholeB n ++ wholeB d)).length ≤ 1000000000000) :
    GSpec Tryz.prog 227 [.ptr p 0, .agg (rc n d)] [(p, wcell q l.length), (q, wrow l)] (.tup []) [(p, wcell r (l ++ (wholeB n ++ wholeB d)).length), (r, wrow (l ++ (wholeB n ++ wholeB d)))] [r] := by
  obtain ⟨σ, hσ, rfl, rfl, rfl, rfl⟩ := names4 p q b r h
  exact (rational_b n d l hl).ren hσ
/-! ### Terms -/
/-- Where the closure keeps the writer. -/
def wptr1 (p : Nat) : Bx := .cells 187 0 [.ptr p 0]
theorem exps_take {l : List Nat} {i : Nat} (h : i < l.length) : expsB (l.take (i + 1)) = expsB (l.take i) ++ natB (l.getD i 0) := by
  unfold expsB
  rw [List.take_add_one, List.getElem?_eq_getElem h, List.getD_eq_getElem?_getD, List.getElem?_eq_getElem h, List.map_append, List.flatten_append]
  simp
theorem exps_pre (l : List Nat) (i : Nat) : (expsB (l.take i)).length ≤ (expsB l).length := by
  have : expsB l = expsB (l.take i) ++ expsB (l.drop i) := by
    unfold expsB
    rw [← List.flatten_append, ← List.map_append, List.take_append_drop]
  rw [this, List.length_append]
  omega
theorem term_b (t : Tm) (hm : Mv t.2) (l : List UInt8) (hl : (l ++ termB t).length ≤ 1000000000000) :
    GSpec Tryz.prog 226 [encT t, .ptr 1002 0] [(1000, wcell 1001 l.length), (1001, wrow l), (1002, wptr1 1000)] (.tup []) [(1000, wcell 1 (l ++ termB t).length), (1, wrow (l ++ termB t)), (1002, wptr1 1000)] [1] := by
  obtain ⟨B, hB⟩ : ∃ B, B = l ++ ratB t.1 := ⟨_, rfl⟩
  have hW : l ++ termB t = B ++ expsB t.2.l := by rw [hB, termB, List.append_assoc]
  rw [hW] at hl ⊢
  have hBl : B.length ≤ 1000000000000 := by rw [List.length_append] at hl; omega
  have hrat := rational_g 1000 1001 1003 300 (by decide) t.1.num t.1.den l (by rw [hB] at hBl; exact hBl)
  rw [show l ++ (wholeB t.1.num ++ wholeB t.1.den) = B from hB.symm] at hrat
  clear hB hW
  refine GSpec.intro ok [(1, ([], some [1000, 1001])), (5, ([], some [1000, 100]))] Tryz.func226 rfl rfl (m := 21) rfl rfl ?_
  conv => whnf
  repeat ((first | refine anyN 5 (by decide +kernel) ?_ | refine ⟨_, (rfl : (_ : List C)[_]? = some _), ?_⟩ | refine And.intro (by decide : (_ : Nat) ≠ 0) ?_ | refine ⟨_, rfl, rfl, ?_⟩); conv => whnf)
  refine ⟨_, _, _, _, _, hrat, ?_, ?_, bchk_iff.2 ⟨rfl, ?_⟩⟩
  · repeat' (first | exact rfl | exact trivial | exact ⟨_, rfl⟩ | exact ⟨rfl, rfl, rfl⟩ | refine And.intro ?_ ?_)
  · repeat' (first | exact rfl | exact trivial | exact ⟨_, rfl⟩ | exact ⟨rfl, rfl, rfl⟩ | refine And.intro ?_ ?_)
  conv => whnf
  repeat ((first | refine And.intro (by decide : (_ : Nat) ≠ 0) ?_ | refine ⟨_, rfl, rfl, ?_⟩); conv => whnf)
  refine ⟨{ q : Nat × List UInt8 // q.1 ≤ 8 ∧ q.2 = B ++ expsB (t.2.l.take q.1) }, fun q_ => match q_ with | ⟨(i, d), _⟩ => ⟨[(13, .v (.int .i64 i))], [(1000, .cells 151 0 [.own 100 5 1 d.length]), (100, .row 5 1 d.length (bytesC d))]⟩, ⟨[false, false, false, false, true, false, false, false, false, false, false, false, false, true, true, true, true, true, true, true, true, true, true], [1002], [100]⟩, fun q_ => match q_ with | ⟨(i, d), _⟩ => 8 - i, ⟨⟨(0, B), Nat.zero_le _, by simp [expsB]⟩, [(100, some 300)], ?_⟩, ?_⟩
  · conv => whnf
    repeat' (first | exact rfl | exact trivial | exact ⟨_, rfl⟩ | exact ⟨rfl, rfl, rfl⟩ | refine And.intro ?_ ?_)
  · rintro ⟨⟨i, d⟩, hi, hd⟩
    simp only at hi hd
    conv => whnf
    refine bcase_intro (fun h => ?_) (fun h => ?_)
    · have h : i < 8 := by first | simpa [-List.getD_eq_getElem?_getD] using h | (simp [-List.getD_eq_getElem?_getD] at h; omega)
      have e : d ++ natB (t.2.at i) = B ++ expsB (t.2.l.take (i + 1)) := by rw [hd, exps_take (show i < t.2.l.length from h), List.append_assoc]; rfl
      have hv := hm i
      have hlen : (d ++ natB (t.2.at i)).length ≤ 1000000000000 := by
        rw [e, List.length_append]
        rw [List.length_append] at hl
        have := exps_pre t.2.l (i + 1)
        omega
      conv => whnf
      repeat ((first | refine ⟨_, mc_at1 t.2 h, ?_⟩ | refine ⟨_, ⟨rfl, by omega⟩, ?_⟩ | refine ⟨_, wU (by omega), ?_⟩ | refine ⟨_, (rfl : (_ : List C)[_]? = some _), ?_⟩ | refine And.intro (by decide : (_ : Nat) ≠ 0) ?_); conv => whnf)
      refine ⟨_, _, _, _, _, nat_g 1000 100 1003 301 (by decide) (t.2.at i) d (by omega) hlen, ?_, ?_, bchk_iff.2 ⟨rfl, ?_⟩⟩
      · repeat' (first | exact rfl | exact trivial | exact ⟨_, rfl⟩ | exact ⟨rfl, rfl, rfl⟩ | refine And.intro ?_ ?_)
      · repeat' (first | exact rfl | exact trivial | exact ⟨_, rfl⟩ | exact ⟨rfl, rfl, rfl⟩ | refine And.intro ?_ ?_)
      conv => whnf
      repeat (refine ⟨_, wAdd1 (by omega), ?_⟩; conv => whnf)
      refine ⟨⟨(i + 1, d ++ natB (t.2.at i)), by simp only; omega, e⟩, [(100, some 301)], by dsimp only; omega, ?_⟩
      conv => whnf
      repeat' (first | exact rfl | exact trivial | exact ⟨_, rfl⟩ | exact ⟨rfl, rfl, rfl⟩ | refine And.intro ?_ ?_)
    · have h : 8 ≤ i := by first | simpa [-List.getD_eq_getElem?_getD] using h | (simp [-List.getD_eq_getElem?_getD] at h; omega)
      rw [List.take_of_length_le (show t.2.l.length ≤ i from h)] at hd
      subst hd
      conv => whnf
      refine ⟨[(1, some 100)], ?_⟩
      conv => whnf
      repeat' (first | exact rfl | exact trivial | exact ⟨_, rfl⟩ | exact ⟨rfl, rfl, rfl⟩ | refine And.intro ?_ ?_)
theorem term_g (p q b r : Nat) (h : [p, q, b, r].Nodup) (t : Tm) (hm : Mv t.2) (l : List UInt8) (hl : (l ++ termB t).length ≤ 1000000000000) :
    GSpec Tryz.prog 226 [encT t, .ptr b 0] [(p, wcell q l.length), (q, wrow l), (b, wptr1 p)] (.tup []) [(p, wcell r (l ++ termB t).length), (r, wrow (l ++ termB t)), (b, wptr1 p)] [r] := by
  obtain ⟨σ, hσ, rfl, rfl, rfl, rfl⟩ := names4 p q b r h
  exact (term_b t hm l hl).ren hσ
end Go.Proofs.YtbhnankggcfndaaGreat
namespace Go.Proofs.YtbhnankggcfndaaGreat
open El
set_option maxRecDepth 10000
set_option maxHeartbeats 4000000
theorem terms_take {p : Pl} {i : Nat} (h : i < p.length) : termsB (p.take (i + 1)) = termsB (p.take i) ++ termB (p.getD i dT) := by
  unfold termsB
  rw [List.take_add_one, List.getElem?_eq_getElem h, List.getD_eq_getElem?_getD, List.getElem?_eq_getElem h, List.map_append, List.flatten_append]
  simp
theorem terms_pre (p : Pl) (i : Nat) : (termsB (p.take i)).length ≤ (termsB p).length := by
  have : termsB p = termsB (p.take i) ++ termsB (p.drop i) := by
    unfold termsB
    rw [← List.flatten_append, ← List.map_append, List.take_append_drop]
  rw [this, List.length_append]
  omega
theorem putT_b (t : Pl) (hm : Pm t) (l : List UInt8) (hl : (l ++ polyB t).length ≤ 1000000000000) :
    GSpec Tryz.prog 225 [.ptr 1000 0, encP t, .fn 226 [.ptr 1002 0]] [(1000, wcell 1001 l.length), (1001, wrow l), (1002, wptr1 1000)] (.tup []) [(1000, wcell 1 (l ++ polyB t).length), (1, wrow (l ++ polyB t)), (1002, wptr1 1000)] [1] := by
  have hm1 := hm.1
  obtain ⟨B, hB⟩ : ∃ B, B = l ++ natB t.length := ⟨_, rfl⟩
  have hW : l ++ polyB t = B ++ termsB t := by rw [hB, polyB, List.append_assoc]
  rw [hW] at hl ⊢
  have hBl : B.length ≤ 1000000000000 := by rw [List.length_append] at hl; omega
  have hnat := nat_g 1000 1001 1003 300 (by decide) t.length l (by omega) (by rw [← hB]; exact hBl)
  rw [← hB] at hnat
  clear hB hW
  refine GSpec.intro ok [(0, ([], some [1000, 1001])), (4, ([], some [1000, 100, 1002]))] Tryz.func225 rfl rfl (m := 20) rfl rfl ?_
  conv => whnf
  repeat (refine ⟨_, wU (by omega), ?_⟩; conv => whnf)
  refine ⟨_, _, _, _, _, hnat, ?_, ?_, bchk_iff.2 ⟨rfl, ?_⟩⟩
  · repeat' (first | exact rfl | exact trivial | exact ⟨_, rfl⟩ | exact ⟨rfl, rfl, rfl⟩ | refine And.intro ?_ ?_)
  · repeat' (first | exact rfl | exact trivial | exact ⟨_, rfl⟩ | exact ⟨rfl, rfl, rfl⟩ | refine And.intro ?_ ?_)
  conv => whnf
  skip
  refine ⟨{ q : Nat × List UInt8 // q.1 ≤ t.length ∧ q.2 = B ++ termsB (t.take q.1) }, fun q_ => match q_ with | ⟨(i, d), _⟩ => ⟨[(15, .v (.int .i64 i))], [(1000, .cells 151 0 [.own 100 5 1 d.length]), (100, .row 5 1 d.length (bytesC d))]⟩, ⟨[false, false, false, false, false, false, false, true, false, false, false, false, false, false, false, true, true, true, true, true, true, true, true], [1002], [100]⟩, fun q_ => match q_ with | ⟨(i, d), _⟩ => t.length - i, ⟨⟨(0, B), Nat.zero_le _, by simp [termsB]⟩, [(100, some 300)], ?_⟩, ?_⟩
  · conv => whnf
    repeat' (first | exact rfl | exact trivial | exact ⟨_, rfl⟩ | exact ⟨rfl, rfl, rfl⟩ | refine And.intro ?_ ?_)
  · rintro ⟨⟨i, d⟩, hi, hd⟩
    simp only at hi hd
    conv => whnf
    refine bcase_intro (fun h => ?_) (fun h => ?_)
    · have h : i < t.length := by first | simpa [-List.getD_eq_getElem?_getD] using h | (simp [-List.getD_eq_getElem?_getD] at h; omega)
      have e : d ++ termB (t.getD i dT) = B ++ termsB (t.take (i + 1)) := by rw [hd, terms_take h, List.append_assoc]
      have hv := hm.at h
      have hlen : (d ++ termB (t.getD i dT)).length ≤ 1000000000000 := by
        rw [e, List.length_append]
        rw [List.length_append] at hl
        have := terms_pre t (i + 1)
        omega
      have hT := pt_T h
      conv => whnf
      repeat ((first | refine ⟨_, hT, rfl, ?_⟩ | refine ⟨_, ⟨rfl, by omega⟩, ?_⟩ | refine ⟨by first | decide | exact Nat.le_refl _, _, rfl, ?_⟩ | refine ⟨_, rfl, rfl, ?_⟩); conv => whnf)
      refine ⟨_, _, _, _, _, term_g 1000 100 1002 301 (by decide) (t.getD i dT) hv d hlen, ?_, ?_, bchk_iff.2 ⟨rfl, ?_⟩⟩
      · repeat' (first | exact rfl | exact trivial | exact ⟨_, rfl⟩ | exact ⟨rfl, rfl, rfl⟩ | refine And.intro ?_ ?_)
      · repeat' (first | exact rfl | exact trivial | exact ⟨_, rfl⟩ | exact ⟨rfl, rfl, rfl⟩ | refine And.intro ?_ ?_)
      conv => whnf
      repeat (refine ⟨_, wAdd1 (by omega), ?_⟩; conv => whnf)
      refine ⟨⟨(i + 1, d ++ termB (t.getD i dT)), by simp only; omega, e⟩, [(100, some 301)], by dsimp only; omega, ?_⟩
      conv => whnf
      repeat' (first | exact rfl | exact trivial | exact ⟨_, rfl⟩ | exact ⟨rfl, rfl, rfl⟩ | refine And.intro ?_ ?_)
    · have h : t.length ≤ i := by first | simpa [-List.getD_eq_getElem?_getD] using h | (simp [-List.getD_eq_getElem?_getD] at h; omega)
      rw [List.take_of_length_le h] at hd
      subst hd
      conv => whnf
      refine ⟨[(1, some 100)], ?_⟩
      conv => whnf
      repeat' (first | exact rfl | exact trivial | exact ⟨_, rfl⟩ | exact ⟨rfl, rfl, rfl⟩ | refine And.intro ?_ ?_)
theorem putT_g (p q b r : Nat) (h : [p, q, b, r].Nodup) (t : Pl) (hm : Pm t) (l : List UInt8) (hl : (l ++ polyB t).length ≤ 1000000000000) :
    GSpec Tryz.prog 225 [.ptr p 0, encP t, .fn 226 [.ptr b 0]] [(p, wcell q l.length), (q, wrow l), (b, wptr1 p)] (.tup []) [(p, wcell r (l ++ polyB t).length), (r, wrow (l ++ polyB t)), (b, wptr1 p)] [r] := by
  obtain ⟨σ, hσ, rfl, rfl, rfl, rfl⟩ := names4 p q b r h
  exact (putT_b t hm l hl).ren hσ
theorem poly_b (t : Pl) (hm : Pm t) (l : List UInt8) (hl : (l ++ polyB t).length ≤ 1000000000000) :
    GSpec Tryz.prog 196 [.ptr 1000 0, encP t] [(1000, wcell 1001 l.length), (1001, wrow l)] (.tup []) [(1000, wcell 1 (l ++ polyB t).length), (1, wrow (l ++ polyB t))] [1] := by
  refine GSpec.intro ok [(1, ([], some [1000, 1001, 2]))] Tryz.func196 rfl rfl (m := 8) rfl rfl ?_
  conv => whnf
  repeat ((first | refine ⟨_, (rfl : (_ : List C)[_]? = some _), ?_⟩ | refine And.intro (by decide : (_ : Nat) ≠ 0) ?_); conv => whnf)
  refine ⟨_, _, _, _, _, putT_g 1000 1001 2 300 (by decide) t hm l hl, ?_, ?_, bchk_iff.2 ⟨rfl, ?_⟩⟩
  · repeat' (first | exact rfl | exact trivial | exact ⟨_, rfl⟩ | exact ⟨rfl, rfl, rfl⟩ | refine And.intro ?_ ?_)
  · repeat' (first | exact rfl | exact trivial | exact ⟨_, rfl⟩ | exact ⟨rfl, rfl, rfl⟩ | refine And.intro ?_ ?_)
  conv => whnf
  refine ⟨[(1, some 300)], ?_⟩
  conv => whnf
  repeat' (first | exact rfl | exact trivial | exact ⟨_, rfl⟩ | exact ⟨rfl, rfl, rfl⟩ | refine And.intro ?_ ?_)
theorem poly_g (p q b r : Nat) (h : [p, q, b, r].Nodup) (t : Pl) (hm : Pm t) (l : List UInt8) (hl : (l ++ polyB t).length ≤ 1000000000000) :
    GSpec Tryz.prog 196 [.ptr p 0, encP t] [(p, wcell q l.length), (q, wrow l)] (.tup []) [(p, wcell r (l ++ polyB t).length), (r, wrow (l ++ polyB t))] [r] := by
  obtain ⟨σ, hσ, rfl, rfl, rfl, rfl⟩ := names4 p q b r h
  exact (poly_b t hm l hl).ren hσ
/-! ### Lists of polynomials -/
theorem list_take {p : List Pl} {i : Nat} (h : i < p.length) : listB (p.take (i + 1)) = listB (p.take i) ++ polyB (p.getD i []) := by
  unfold listB
  rw [List.take_add_one, List.getElem?_eq_getElem h, List.getD_eq_getElem?_getD, List.getElem?_eq_getElem h, List.map_append, List.flatten_append]
  simp
theorem list_pre (p : List Pl) (i : Nat) : (listB (p.take i)).length ≤ (listB p).length := by
  have : listB p = listB (p.take i) ++ listB (p.drop i) := by
    unfold listB
    rw [← List.flatten_append, ← List.map_append, List.take_append_drop]
  rw [this, List.length_append]
  omega
theorem putP_b (t : List Pl) (hn : t.length ≤ 1000000) (hm : ∀ p ∈ t, Pm p) (l : List UInt8) (hl : (l ++ polysB t).length ≤ 1000000000000) :
    GSpec Tryz.prog 195 [.ptr 1000 0, encL t, .fn 196 [.tup [.ptr 1000 0]]] [(1000, wcell 1001 l.length), (1001, wrow l)] (.tup []) [(1000, wcell 1 (l ++ polysB t).length), (1, wrow (l ++ polysB t))] [1] := by
  obtain ⟨B, hB⟩ : ∃ B, B = l ++ natB t.length := ⟨_, rfl⟩
  have hW : l ++ polysB t = B ++ listB t := by rw [hB, polysB, List.append_assoc]
  rw [hW] at hl ⊢
  have hBl : B.length ≤ 1000000000000 := by rw [List.length_append] at hl; omega
  have hnat := nat_g 1000 1001 1003 300 (by decide) t.length l (by omega) (by rw [← hB]; exact hBl)
  rw [← hB] at hnat
  clear hB hW
  refine GSpec.intro ok [(0, ([], some [1000, 1001])), (4, ([], some [1000, 100]))] Tryz.func195 rfl rfl (m := 20) rfl rfl ?_
  conv => whnf
  repeat (refine ⟨_, wU (by omega), ?_⟩; conv => whnf)
  refine ⟨_, _, _, _, _, hnat, ?_, ?_, bchk_iff.2 ⟨rfl, ?_⟩⟩
  · repeat' (first | exact rfl | exact trivial | exact ⟨_, rfl⟩ | exact ⟨rfl, rfl, rfl⟩ | refine And.intro ?_ ?_)
  · repeat' (first | exact rfl | exact trivial | exact ⟨_, rfl⟩ | exact ⟨rfl, rfl, rfl⟩ | refine And.intro ?_ ?_)
  conv => whnf
  skip
  refine ⟨{ q : Nat × List UInt8 // q.1 ≤ t.length ∧ q.2 = B ++ listB (t.take q.1) }, fun q_ => match q_ with | ⟨(i, d), _⟩ => ⟨[(15, .v (.int .i64 i))], [(1000, .cells 151 0 [.own 100 5 1 d.length]), (100, .row 5 1 d.length (bytesC d))]⟩, ⟨[false, false, false, false, false, false, false, true, false, false, false, false, false, false, false, true, true, true, true, true, true, true, true], [], [100]⟩, fun q_ => match q_ with | ⟨(i, d), _⟩ => t.length - i, ⟨⟨(0, B), Nat.zero_le _, by simp [listB]⟩, [(100, some 300)], ?_⟩, ?_⟩
  · conv => whnf
    repeat' (first | exact rfl | exact trivial | exact ⟨_, rfl⟩ | exact ⟨rfl, rfl, rfl⟩ | refine And.intro ?_ ?_)
  · rintro ⟨⟨i, d⟩, hi, hd⟩
    simp only at hi hd
    conv => whnf
    refine bcase_intro (fun h => ?_) (fun h => ?_)
    · have h : i < t.length := by first | simpa [-List.getD_eq_getElem?_getD] using h | (simp [-List.getD_eq_getElem?_getD] at h; omega)
      have e : d ++ polyB (t.getD i []) = B ++ listB (t.take (i + 1)) := by rw [hd, list_take h, List.append_assoc]
      have hv := hm (t.getD i []) (by rw [List.getD_eq_getElem?_getD, List.getElem?_eq_getElem h]; exact List.getElem_mem _)
      have hlen : (d ++ polyB (t.getD i [])).length ≤ 1000000000000 := by
        rw [e, List.length_append]
        rw [List.length_append] at hl
        have := list_pre t (i + 1)
        omega
      conv => whnf
      repeat ((first | refine ⟨_, lt_P h, ?_⟩ | refine ⟨_, ⟨rfl, by omega⟩, ?_⟩); conv => whnf)
      refine ⟨_, _, _, _, _, poly_g 1000 100 1002 301 (by decide) (t.getD i []) hv d hlen, ?_, ?_, bchk_iff.2 ⟨rfl, ?_⟩⟩
      · repeat' (first | exact rfl | exact trivial | exact ⟨_, rfl⟩ | exact ⟨rfl, rfl, rfl⟩ | refine And.intro ?_ ?_)
      · repeat' (first | exact rfl | exact trivial | exact ⟨_, rfl⟩ | exact ⟨rfl, rfl, rfl⟩ | refine And.intro ?_ ?_)
      conv => whnf
      repeat (refine ⟨_, wAdd1 (by omega), ?_⟩; conv => whnf)
      refine ⟨⟨(i + 1, d ++ polyB (t.getD i [])), by simp only; omega, e⟩, [(100, some 301)], by dsimp only; omega, ?_⟩
      conv => whnf
      repeat' (first | exact rfl | exact trivial | exact ⟨_, rfl⟩ | exact ⟨rfl, rfl, rfl⟩ | refine And.intro ?_ ?_)
    · have h : t.length ≤ i := by first | simpa [-List.getD_eq_getElem?_getD] using h | (simp [-List.getD_eq_getElem?_getD] at h; omega)
      rw [List.take_of_length_le h] at hd
      subst hd
      conv => whnf
      refine ⟨[(1, some 100)], ?_⟩
      conv => whnf
      repeat' (first | exact rfl | exact trivial | exact ⟨_, rfl⟩ | exact ⟨rfl, rfl, rfl⟩ | refine And.intro ?_ ?_)
theorem putP_g (p q b r : Nat) (h : [p, q, b, r].Nodup) (t : List Pl) (hn : t.length ≤ 1000000) (hm : ∀ p ∈ t, Pm p) (l : List UInt8) (hl : (l ++ polysB t).length ≤ 1000000000000) :
    GSpec Tryz.prog 195 [.ptr p 0, encL t, .fn 196 [.tup [.ptr p 0]]] [(p, wcell q l.length), (q, wrow l)] (.tup []) [(p, wcell r (l ++ polysB t).length), (r, wrow (l ++ polysB t))] [r] := by
  obtain ⟨σ, hσ, rfl, rfl, rfl, rfl⟩ := names4 p q b r h
  exact (putP_b t hn hm l hl).ren hσ
theorem polys_b (t : List Pl) (hn : t.length ≤ 1000000) (hm : ∀ p ∈ t, Pm p) (l : List UInt8) (hl : (l ++ polysB t).length ≤ 1000000000000) :
    GSpec Tryz.prog 157 [.ptr 1000 0, encL t] [(1000, wcell 1001 l.length), (1001, wrow l)] (.tup []) [(1000, wcell 1 (l ++ polysB t).length), (1, wrow (l ++ polysB t))] [1] := by
  refine GSpec.intro ok [(0, ([], some [1000, 1001]))] Tryz.func157 rfl rfl (m := 9) rfl rfl ?_
  conv => whnf
  repeat (refine And.intro (by decide : (_ : Nat) ≠ 0) ?_; conv => whnf)
  refine ⟨_, _, _, _, _, putP_g 1000 1001 1002 300 (by decide) t hn hm l hl, ?_, ?_, bchk_iff.2 ⟨rfl, ?_⟩⟩
  · repeat' (first | exact rfl | exact trivial | exact ⟨_, rfl⟩ | exact ⟨rfl, rfl, rfl⟩ | refine And.intro ?_ ?_)
  · repeat' (first | exact rfl | exact trivial | exact ⟨_, rfl⟩ | exact ⟨rfl, rfl, rfl⟩ | refine And.intro ?_ ?_)
  conv => whnf
  refine ⟨[(1, some 300)], ?_⟩
  conv => whnf
  repeat' (first | exact rfl | exact trivial | exact ⟨_, rfl⟩ | exact ⟨rfl, rfl, rfl⟩ | refine And.intro ?_ ?_)
theorem polys_g (p q b r : Nat) (h : [p, q, b, r].Nodup) (t : List Pl) (hn : t.length ≤ 1000000) (hm : ∀ p ∈ t, Pm p) (l : List UInt8) (hl : (l ++ polysB t).length ≤ 1000000000000) :
    GSpec Tryz.prog 157 [.ptr p 0, encL t] [(p, wcell q l.length), (q, wrow l)] (.tup []) [(p, wcell r (l ++ polysB t).length), (r, wrow (l ++ polysB t))] [r] := by
  obtain ⟨σ, hσ, rfl, rfl, rfl, rfl⟩ := names4 p q b r h
  exact (polys_b t hn hm l hl).ren hσ
theorem core_b (n : Nat) (es ds : List Pl) (hn : n ≤ 1000000) (he : es.length ≤ 1000000) (hd : ds.length ≤ 1000000) (hme : ∀ p ∈ es, Pm p) (hmd : ∀ p ∈ ds, Pm p) (hl : (coreB n es ds).length ≤ 1000000000000) :
    GSpec Tryz.prog 106 [.ptr 1000 0, .agg [.v (.int .i64 n), encL es, encL ds]] [(1000, wnil)] (.tup []) [(1000, wcell 1 (coreB n es ds).length), (1, wrow (coreB n es ds))] [1] := by
  have hl2 := hl
  unfold coreB at hl2 ⊢
  rw [← List.append_assoc] at hl2 ⊢
  have h1 : (natB (2 * n)).length ≤ 1000000000000 := by rw [List.length_append, List.length_append] at hl2; omega
  have h2 : (natB (2 * n) ++ polysB es).length ≤ 1000000000000 := by rw [List.length_append] at hl2; omega
  refine GSpec.intro ok [(1, ([], some [1000])), (2, ([], some [1000, 1])), (3, ([], some [1000, 301]))] Tryz.func106 rfl rfl (m := 16) rfl rfl ?_
  conv => whnf
  repeat ((first | refine anyN 5 (by decide +kernel) ?_ | refine ⟨_, (rfl : (_ : List C)[_]? = some _), ?_⟩ | refine And.intro (by decide : (_ : Nat) ≠ 0) ?_); conv => whnf)
  refine ⟨_, _, _, _, _, number0_b n (by omega) h1, ?_, ?_, bchk_iff.2 ⟨rfl, ?_⟩⟩
  · repeat' (first | exact rfl | exact trivial | exact ⟨_, rfl⟩ | exact ⟨rfl, rfl, rfl⟩ | refine And.intro ?_ ?_)
  · repeat' (first | exact rfl | exact trivial | exact ⟨_, rfl⟩ | exact ⟨rfl, rfl, rfl⟩ | refine And.intro ?_ ?_)
  conv => whnf
  repeat ((first | refine ⟨_, (rfl : (_ : List C)[_]? = some _), ?_⟩ | refine And.intro (by decide : (_ : Nat) ≠ 0) ?_); conv => whnf)
  refine ⟨_, _, _, _, _, polys_g 1000 1 1002 301 (by decide) es he hme (natB (2 * n)) h2, ?_, ?_, bchk_iff.2 ⟨rfl, ?_⟩⟩
  · repeat' (first | exact rfl | exact trivial | exact ⟨_, rfl⟩ | exact ⟨rfl, rfl, rfl⟩ | refine And.intro ?_ ?_)
  · repeat' (first | exact rfl | exact trivial | exact ⟨_, rfl⟩ | exact ⟨rfl, rfl, rfl⟩ | refine And.intro ?_ ?_)
  conv => whnf
  repeat ((first | refine ⟨_, (rfl : (_ : List C)[_]? = some _), ?_⟩ | refine And.intro (by decide : (_ : Nat) ≠ 0) ?_); conv => whnf)
  refine ⟨_, _, _, _, _, polys_g 1000 301 1002 302 (by decide) ds hd hmd (natB (2 * n) ++ polysB es) hl2, ?_, ?_, bchk_iff.2 ⟨rfl, ?_⟩⟩
  · repeat' (first | exact rfl | exact trivial | exact ⟨_, rfl⟩ | exact ⟨rfl, rfl, rfl⟩ | refine And.intro ?_ ?_)
  · repeat' (first | exact rfl | exact trivial | exact ⟨_, rfl⟩ | exact ⟨rfl, rfl, rfl⟩ | refine And.intro ?_ ?_)
  conv => whnf
  refine ⟨[(1, some 302)], ?_⟩
  conv => whnf
  repeat' (first | exact rfl | exact trivial | exact ⟨_, rfl⟩ | exact ⟨rfl, rfl, rfl⟩ | refine And.intro ?_ ?_)
theorem core_g (p q b r : Nat) (h : [p, q, b, r].Nodup) (n : Nat) (es ds : List Pl) (hn : n ≤ 1000000) (he : es.length ≤ 1000000) (hd : ds.length ≤ 1000000) (hme : ∀ p ∈ es, Pm p) (hmd : ∀ p ∈ ds, Pm p) (hl : (coreB n es ds).length ≤ 1000000000000) :
    GSpec Tryz.prog 106 [.ptr p 0, .agg [.v (.int .i64 n), encL es, encL ds]] [(p, wnil)] (.tup []) [(p, wcell r (coreB n es ds).length), (r, wrow (coreB n es ds))] [r] := by
  obtain ⟨σ, hσ, rfl, rfl, rfl, rfl⟩ := names4 p q b r h
  exact (core_b n es ds hn he hd hme hmd hl).ren hσ
end Go.Proofs.YtbhnankggcfndaaGreat
namespace Go.Proofs.YtbhnankggcfndaaGreat
open El
set_option maxRecDepth 10000
set_option maxHeartbeats 4000000
theorem names2 (q r : Nat) (h : q ≠ r) : ∃ σ : Nat → Nat, Function.Injective σ ∧ σ 1000 = q ∧ σ 1 = r := by
  obtain ⟨σ, h1, h2, _, _, h3⟩ := names4 q (q + r + 1) (q + r + 2) r (by simp; omega)
  exact ⟨σ, h1, h2, h3⟩
theorem zRem {m : Nat} : (m : Int).tmod 128 = ((m % 128 : Nat) : Int) := by
  rw [Int.tmod_eq_emod_of_nonneg (by omega)]; simp
theorem zQuo {m : Nat} (h : m < 18446744073709551616) : Go.IntKind.u64.wrap ((m : Int).tdiv 128) = ((m / 128 : Nat) : Int) := by
  rw [Int.tdiv_eq_ediv_of_nonneg (by omega), show (m : Int) / 128 = ((m / 128 : Nat) : Int) by simp]
  exact wU (by omega)
theorem zAdd {m : Nat} : Go.IntKind.u8.wrap ((((UInt8.ofNat (m % 128)).toNat : Nat) : Int) + 128) = (((UInt8.ofNat (m % 128 + 128)).toNat : Nat) : Int) := by
  rw [show (((UInt8.ofNat (m % 128)).toNat : Nat) : Int) + 128 = ((m % 128 + 128 : Nat) : Int) by simp; omega]
  exact z8 _
theorem natr_b (n : Nat) (l : List UInt8) (hn : n < 4611686018427387904) (hl : (l ++ natB n).length ≤ 1000000000000) :
    GSpec Tryz.prog 159 [.own 1000 5 1 l.length, .v (.int .u64 n)] [(1000, wrow l)] (.own 1 5 1 (l ++ natB n).length) [(1, wrow (l ++ natB n))] [1] := by
  refine GSpec.intro ok [] Tryz.func159 rfl rfl (m := 19) rfl rfl ?_
  conv => whnf
  skip
  refine ⟨{ q : List UInt8 × Nat × Nat // q.1 ++ natBf q.2.2 q.2.1 = l ++ natB n ∧ q.2.1 < 128 ^ (q.2.2 + 1) ∧ q.2.1 < 4611686018427387904 }, fun q_ => match q_ with | ⟨(d, m, f), _⟩ => ⟨[(0, .own 100 5 1 d.length), (1, .v (.int .u64 m))], [(100, .row 5 1 d.length (bytesC d))]⟩, ⟨[true, true, false, false, false, true, true, true, true, true, true, true, true, true, true, true], [], [100]⟩, fun q_ => match q_ with | ⟨(d, m, f), _⟩ => f, ⟨⟨(l, n, 9), rfl, by simp only; omega, hn⟩, [(100, some 1000)], ?_⟩, ?_⟩
  · conv => whnf
    repeat' (first | exact rfl | exact trivial | exact ⟨_, rfl⟩ | exact ⟨rfl, rfl, rfl⟩ | refine And.intro ?_ ?_)
  · rintro ⟨⟨d, m, f⟩, h1, h2, h3⟩
    simp only at h1 h2 h3
    have hd : (d ++ natBf f m).length ≤ 1000000000000 := by rw [h1]; exact hl
    rw [List.length_append] at hd
    conv => whnf
    refine bcase_intro (fun h => ?_) (fun h => ?_)
    · have h : 128 ≤ m := by first | simpa [-List.getD_eq_getElem?_getD] using h | (simp [-List.getD_eq_getElem?_getD] at h; omega)
      obtain ⟨f', rfl, e1, e2⟩ := natBf_step h h2
      rw [e1] at h1 hd
      rw [List.length_cons] at hd
      conv => whnf
      repeat ((first | refine ⟨by decide, _, zRem, ?_⟩ | refine ⟨_, z8 (m % 128), ?_⟩ | refine ⟨_, zAdd, ?_⟩); conv => whnf)
      refine ⟨rfl, ?_⟩
      conv => whnf
      refine ⟨rfl, ?_⟩
      conv => whnf
      refine ⟨rfl, ?_⟩
      conv => whnf
      refine ⟨⟨by show _ * 1 ≤ _; omega, by omega⟩, bytesC (d ++ [UInt8.ofNat (m % 128 + 128)]), (d ++ [UInt8.ofNat (m % 128 + 128)]).length, ⟨by rw [bytes_app]; rfl, by simp⟩, ?_⟩
      conv => whnf
      repeat (refine ⟨by decide, _, zQuo (by omega), ?_⟩; conv => whnf)
      refine ⟨⟨(d ++ [UInt8.ofNat (m % 128 + 128)], m / 128, f'), by simp only; rw [← h1, List.append_assoc]; rfl, e2, by simp only; omega⟩, [(100, some 13)], by dsimp only; omega, ?_⟩
      conv => whnf
      repeat' (first | exact rfl | exact trivial | exact ⟨_, rfl⟩ | exact ⟨rfl, rfl, rfl⟩ | refine And.intro ?_ ?_)
    · have h : m < 128 := by first | simpa [-List.getD_eq_getElem?_getD] using h | (simp [-List.getD_eq_getElem?_getD] at h; omega)
      rw [natBf_end h] at h1 hd
      conv => whnf
      repeat (refine ⟨_, z8 m, ?_⟩; conv => whnf)
      refine ⟨rfl, ?_⟩
      conv => whnf
      refine ⟨rfl, ?_⟩
      conv => whnf
      refine ⟨rfl, ?_⟩
      conv => whnf
      refine ⟨⟨by show _ * 1 ≤ _; omega, by omega⟩, bytesC (d ++ [UInt8.ofNat m]), (d ++ [UInt8.ofNat m]).length, ⟨by rw [bytes_app]; rfl, by simp⟩, ?_⟩
      conv => whnf
      skip
      rw [h1]
      refine ⟨[(1, some 20)], ?_⟩
      conv => whnf
      repeat' (first | exact rfl | exact trivial | exact ⟨_, rfl⟩ | exact ⟨rfl, rfl, rfl⟩ | refine And.intro ?_ ?_)
theorem natr_g (q r : Nat) (h : q ≠ r) (n : Nat) (l : List UInt8) (hn : n < 4611686018427387904) (hl : (l ++ natB n).length ≤ 1000000000000) :
    GSpec Tryz.prog 159 [.own q 5 1 l.length, .v (.int .u64 n)] [(q, wrow l)] (.own r 5 1 (l ++ natB n).length) [(r, wrow (l ++ natB n))] [r] := by
  obtain ⟨σ, hσ, rfl, rfl⟩ := names2 q r h
  exact (natr_b n l hn hl).ren hσ
theorem zMul2 {n : Nat} (h : n < 4611686018427387904) : Go.IntKind.u64.wrap ((n : Int) * 2) = ((2 * n : Nat) : Int) := by
  rw [show (n : Int) * 2 = ((2 * n : Nat) : Int) by omega]
  exact wU (by omega)
theorem numberr_b (n : Nat) (l : List UInt8) (hn : n < 1000000000000) (hl : (l ++ natB (2 * n)).length ≤ 1000000000000) :
    GSpec Tryz.prog 109 [.own 1000 5 1 l.length, .v (.int .i64 n)] [(1000, wrow l)] (.own 1 5 1 (l ++ natB (2 * n)).length) [(1, wrow (l ++ natB (2 * n)))] [1] := by
  refine GSpec.intro ok [(3, ([], some [1000]))] Tryz.func109 rfl rfl (m := 18) rfl rfl ?_
  conv => whnf
  repeat (refine ⟨_, wU (by omega), ?_⟩; conv => whnf)
  rw [show decide ((n : Int) < 0) = false from decide_eq_false (by omega)]
  conv => whnf
  repeat (refine ⟨_, zMul2 (by omega), ?_⟩; conv => whnf)
  refine ⟨_, _, _, _, _, natr_g 1000 300 (by decide) (2 * n) l (by omega) hl, ?_, ?_, bchk_iff.2 ⟨rfl, ?_⟩⟩
  · repeat' (first | exact rfl | exact trivial | exact ⟨_, rfl⟩ | exact ⟨rfl, rfl, rfl⟩ | refine And.intro ?_ ?_)
  · repeat' (first | exact rfl | exact trivial | exact ⟨_, rfl⟩ | exact ⟨rfl, rfl, rfl⟩ | refine And.intro ?_ ?_)
  conv => whnf
  skip
  refine ⟨[(1, some 300)], ?_⟩
  conv => whnf
  repeat' (first | exact rfl | exact trivial | exact ⟨_, rfl⟩ | exact ⟨rfl, rfl, rfl⟩ | refine And.intro ?_ ?_)
theorem numberr_g (q r : Nat) (h : q ≠ r) (n : Nat) (l : List UInt8) (hn : n < 1000000000000) (hl : (l ++ natB (2 * n)).length ≤ 1000000000000) :
    GSpec Tryz.prog 109 [.own q 5 1 l.length, .v (.int .i64 n)] [(q, wrow l)] (.own r 5 1 (l ++ natB (2 * n)).length) [(r, wrow (l ++ natB (2 * n)))] [r] := by
  obtain ⟨σ, hσ, rfl, rfl⟩ := names2 q r h
  exact (numberr_b n l hn hl).ren hσ
theorem zAdd0 {n : Nat} (h : n < 9223372036854775808) : Go.IntKind.u64.wrap ((n : Int) + 0) = ((n : Nat) : Int) := by
  rw [Int.add_zero]
  exact wU (by omega)
theorem zAdd1 {n : Nat} (h : n < 9223372036854775808) : Go.IntKind.u64.wrap ((n : Int) + 1) = ((n + 1 : Nat) : Int) := by
  rw [show (n : Int) + 1 = ((n + 1 : Nat) : Int) by omega]
  exact wU (by omega)
theorem wholer_b (neg : Bool) (ws : List Nat) (l : List UInt8) (hl : (l ++ wholeW neg ws).length ≤ 1000000000000) :
    GSpec Tryz.prog 228 [.own 1000 5 1 l.length, .agg [.v (.bool neg), encN ws]] [(1000, wrow l)] (.own 1 5 1 (l ++ wholeW neg ws).length) [(1, wrow (l ++ wholeW neg ws))] [1] := by
  have hb := hl
  unfold wholeW at hb
  rw [List.length_append, List.length_append, words_len] at hb
  obtain ⟨B, hB⟩ : ∃ B, B = l ++ natB (2 * ws.length + if neg = true then 1 else 0) := ⟨_, rfl⟩
  have hW : l ++ wholeW neg ws = B ++ wordsB ws := by rw [hB, wholeW, List.append_assoc]
  have hBl : B.length + 4 * ws.length ≤ 1000000000000 := by rw [hB, List.length_append]; omega
  have hc : 2 * ws.length + (if neg = true then 1 else 0) < 4611686018427387904 := by split <;> omega
  have hnat := natr_g 1000 300 (by decide) (2 * ws.length + if neg = true then 1 else 0) l hc (by rw [← hB]; omega)
  rw [← hB] at hnat
  rw [hW]
  clear hB hW hl hc hb
  refine GSpec.intro ok [(4, ([], some [1000]))] Tryz.func228 rfl rfl (m := 44) rfl rfl ?_
  conv => whnf
  cases neg
  all_goals
    repeat ((first | refine ⟨_, zMul2 (by omega), ?_⟩ | refine ⟨_, zAdd0 (by omega), ?_⟩ | refine ⟨_, (rfl : (_ : List C)[_]? = some _), ?_⟩ | refine And.intro (by decide : (_ : Nat) ≠ 0) ?_); conv => whnf)
    refine ⟨_, _, _, _, _, hnat, ?_, ?_, bchk_iff.2 ⟨rfl, ?_⟩⟩
    · repeat' (first | exact rfl | exact trivial | exact ⟨_, rfl⟩ | exact ⟨rfl, rfl, rfl⟩ | refine And.intro ?_ ?_)
    · repeat' (first | exact rfl | exact trivial | exact ⟨_, rfl⟩ | exact ⟨rfl, rfl, rfl⟩ | refine And.intro ?_ ?_)
    conv => whnf
    skip
    refine ⟨{ q : Nat × List UInt8 // q.1 ≤ ws.length ∧ q.2 = B ++ wordsB (ws.take q.1) }, fun q_ => match q_ with | ⟨(i, d), _⟩ => ⟨[(0, .own 100 5 1 d.length), (6, .v (.int .i64 i))], [(100, .row 5 1 d.length (bytesC d))]⟩, ⟨[true, false, false, false, false, false, true, true, false, false, false, false, false, false, false, false, false, false, false, true, true, true, true, true, true, true, true, true, true, true, true, true, true, true, true, true, true, true, true, true, true, true, true, true, true], [3], [100]⟩, fun q_ => match q_ with | ⟨(i, d), _⟩ => ws.length - i, ⟨⟨(0, B), Nat.zero_le _, by simp [wordsB]⟩, [(100, some 300)], ?_⟩, ?_⟩
    · conv => whnf
      repeat' (first | exact rfl | exact trivial | exact ⟨_, rfl⟩ | exact ⟨rfl, rfl, rfl⟩ | refine And.intro ?_ ?_)
    · rintro ⟨⟨i, d⟩, hi, hd⟩
      simp only at hi hd
      conv => whnf
      repeat ((first | refine ⟨_, (rfl : (_ : List C)[_]? = some _), ?_⟩ | refine And.intro (by decide : (_ : Nat) ≠ 0) ?_); conv => whnf)
      refine bcase_intro (fun h => ?_) (fun h => ?_)
      · have h : i < ws.length := by first | simpa [-List.getD_eq_getElem?_getD] using h | (simp [-List.getD_eq_getElem?_getD] at h; omega)
        have e : d ++ wordB (ws.getD i 0) = B ++ wordsB (ws.take (i + 1)) := by rw [hd, words_take h, List.append_assoc]
        have hlen : d.length = B.length + 4 * i := by rw [hd, List.length_append, words_len, List.length_take, Nat.min_eq_left hi]
        conv => whnf
        repeat ((first | refine ⟨_, map_at 0 h, ?_⟩ | refine ⟨by decide, _, zShr24, ?_⟩ | refine ⟨by decide, _, zShr16, ?_⟩ | refine ⟨by decide, _, zShr8, ?_⟩ | refine ⟨_, z8 _, ?_⟩ | refine ⟨_, ⟨rfl, by omega⟩, ?_⟩ | refine ⟨_, (rfl : (_ : List C)[_]? = some _), ?_⟩ | refine And.intro (by decide : (_ : Nat) ≠ 0) ?_); conv => whnf)
        refine ⟨rfl, ?_⟩
        conv => whnf
        refine ⟨rfl, ?_⟩
        conv => whnf
        refine ⟨rfl, ?_⟩
        conv => whnf
        refine ⟨⟨by show _ * 1 ≤ _; omega, by omega⟩, bytesC (d ++ wordB (ws.getD i 0)), (d ++ wordB (ws.getD i 0)).length, ⟨by rw [bytes_app]; rfl, by simp [wordB_len]⟩, ?_⟩
        conv => whnf
        repeat (refine ⟨_, wAdd1 (by omega), ?_⟩; conv => whnf)
        refine ⟨⟨(i + 1, d ++ wordB (ws.getD i 0)), by simp only; omega, e⟩, [(100, some 44)], by dsimp only; omega, ?_⟩
        conv => whnf
        repeat' (first | exact rfl | exact trivial | exact ⟨_, rfl⟩ | exact ⟨rfl, rfl, rfl⟩ | refine And.intro ?_ ?_)
      · have h : ws.length ≤ i := by first | simpa [-List.getD_eq_getElem?_getD] using h | (simp [-List.getD_eq_getElem?_getD] at h; omega)
        rw [List.take_of_length_le h] at hd
        subst hd
        conv => whnf
        skip
        refine ⟨[(1, some 100)], ?_⟩
        conv => whnf
        repeat' (first | exact rfl | exact trivial | exact ⟨_, rfl⟩ | exact ⟨rfl, rfl, rfl⟩ | refine And.intro ?_ ?_)
theorem wholer_g (q r : Nat) (h : q ≠ r) (neg : Bool) (ws : List Nat) (l : List UInt8) (hl : (l ++ wholeW neg ws).length ≤ 1000000000000) :
    GSpec Tryz.prog 228 [.own q 5 1 l.length, .agg [.v (.bool neg), encN ws]] [(q, wrow l)] (.own r 5 1 (l ++ wholeW neg ws).length) [(r, wrow (l ++ wholeW neg ws))] [r] := by
  obtain ⟨σ, hσ, rfl, rfl⟩ := names2 q r h
  exact (wholer_b neg ws l hl).ren hσ
theorem rationalr_b (n d : Int) (l : List UInt8) (hl : (l ++ (wholeB n ++ wholeB d)).length ≤ 1000000000000) :
    GSpec Tryz.prog 198 [.own 1000 5 1 l.length, .agg (rc n d)] [(1000, wrow l)] (.own 1 5 1 (l ++ (wholeB n ++ wholeB d)).length) [(1, wrow (l ++ (wholeB n ++ wholeB d)))] [1] := by
  rw [wholeB_W, wholeB_W] at hl ⊢
  rw [← List.append_assoc] at hl ⊢
  refine GSpec.intro ok [(1, ([3], none))] Tryz.func198 rfl rfl (m := 10) rfl rfl ?_
  conv => whnf
  skip
  refine ⟨(by repeat' (first | exact rfl | exact trivial | refine And.intro ?_ ?_)), (by repeat' (first | exact rfl | exact trivial | refine And.intro ?_ ?_)), ?_⟩
  conv => whnf
  repeat ((first | refine anyH [3, 6, 7] (by decide +kernel) ?_ | refine And.intro (by decide : (_ : Nat) ≠ 0) ?_ | refine ⟨_, rfl, rfl, ?_⟩); conv => whnf)
  refine ⟨[1000], ?_⟩
  conv => whnf
  refine ⟨_, _, _, _, _, wholer_g 1000 300 (by decide) (decide (n < 0)) (limbs n.natAbs) l (by rw [List.length_append] at hl; omega), ?_, ?_, bchk_iff.2 ⟨rfl, ?_⟩⟩
  · repeat' (first | exact rfl | exact trivial | exact ⟨_, rfl⟩ | exact ⟨rfl, rfl, rfl⟩ | refine And.intro ?_ ?_)
  · repeat' (first | exact rfl | exact trivial | exact ⟨_, rfl⟩ | exact ⟨rfl, rfl, rfl⟩ | refine And.intro ?_ ?_)
  conv => whnf
  skip
  refine ⟨[300], ?_⟩
  conv => whnf
  refine ⟨_, _, _, _, _, wholer_g 300 301 (by decide) (decide (d < 0)) (limbs d.natAbs) (l ++ wholeW (decide (n < 0)) (limbs n.natAbs)) hl, ?_, ?_, bchk_iff.2 ⟨rfl, ?_⟩⟩
  · repeat' (first | exact rfl | exact trivial | exact ⟨_, rfl⟩ | exact ⟨rfl, rfl, rfl⟩ | refine And.intro ?_ ?_)
  · repeat' (first | exact rfl | exact trivial | exact ⟨_, rfl⟩ | exact ⟨rfl, rfl, rfl⟩ | refine And.intro ?_ ?_)
  conv => whnf
  skip
  refine ⟨[(1, some 301)], ?_⟩
  conv => whnf
  repeat' (first | exact rfl | exact trivial | exact ⟨_, rfl⟩ | exact ⟨rfl, rfl, rfl⟩ | refine And.intro ?_ ?_)
theorem rationalr_g (q r : Nat) (h : q ≠ r) (n d : Int) (l : List UInt8) (hl : (l ++ (wholeB n ++ wholeB d)).length ≤ 1000000000000) :
    GSpec Tryz.prog 198 [.own q 5 1 l.length, .agg (rc n d)] [(q, wrow l)] (.own r 5 1 (l ++ (wholeB n ++ wholeB d)).length) [(r, wrow (l ++ (wholeB n ++ wholeB d)))] [r] := by
  obtain ⟨σ, hσ, rfl, rfl⟩ := names2 q r h
  exact (rationalr_b n d l hl).ren hσ
/-! ### Polynomials -/
theorem pt_E {p : Pl} {i k : Nat} (h : i < p.length) (hk : k < 8) : (List.drop (k * 1) (List.drop 4 (List.drop (i * 12) (pc p))))[0]? = some (i64n ((p.getD i dT).2.at k)) := by
  rw [pc_drop p i h, tc_eq]
  rw [List.getElem?_drop, List.getElem?_drop]
  have h2 : (rc (p.getD i dT).1.num (p.getD i dT).1.den).length = 4 := rfl
  rw [List.append_assoc, List.getElem?_append_right (by omega), h2, List.getElem?_append_left (by rw [mc_len]; omega)]
  rw [show 4 + (k * 1 + 0) - 4 = k by omega]
  exact mc_at _ hk
theorem polyr_b (t : Pl) (hm : Pm t) (l : List UInt8) (hl : (l ++ polyB t).length ≤ 1000000000000) :
    GSpec Tryz.prog 160 [.own 1000 5 1 l.length, encP t] [(1000, wrow l)] (.own 1 5 1 (l ++ polyB t).length) [(1, wrow (l ++ polyB t))] [1] := by
  have hm1 := hm.1
  obtain ⟨B, hB⟩ : ∃ B, B = l ++ natB t.length := ⟨_, rfl⟩
  have hW : l ++ polyB t = B ++ termsB t := by rw [hB, polyB, List.append_assoc]
  rw [hW] at hl ⊢
  have hBl : B.length ≤ 1000000000000 := by rw [List.length_append] at hl; omega
  have hnat := natr_g 1000 300 (by decide) t.length l (by omega) (by rw [← hB]; exact hBl)
  rw [← hB] at hnat
  clear hB hW
  refine GSpec.intro ok [(1, ([], some [1000])), (5, ([], some [100])), (9, ([], some [101]))] Tryz.func160 rfl rfl (m := 38) rfl rfl ?_
  conv => whnf
  repeat (refine ⟨_, wU (by omega), ?_⟩; conv => whnf)
  refine ⟨_, _, _, _, _, hnat, ?_, ?_, bchk_iff.2 ⟨rfl, ?_⟩⟩
  · repeat' (first | exact rfl | exact trivial | exact ⟨_, rfl⟩ | exact ⟨rfl, rfl, rfl⟩ | refine And.intro ?_ ?_)
  · repeat' (first | exact rfl | exact trivial | exact ⟨_, rfl⟩ | exact ⟨rfl, rfl, rfl⟩ | refine And.intro ?_ ?_)
  conv => whnf
  skip
  refine ⟨{ q : Nat × List UInt8 // q.1 ≤ t.length ∧ q.2 = B ++ termsB (t.take q.1) }, fun q_ => match q_ with | ⟨(i, d), _⟩ => ⟨[(0, .own 100 5 1 d.length), (5, .v (.int .i64 i))], [(100, .row 5 1 d.length (bytesC d))]⟩, ⟨[true, false, false, false, false, true, true, false, false, false, false, false, true, true, true, true, true, true, true, true, true, true, true, true, true, true, true, true, true, true, true, true, true, true, true, true, true, true, true], [], [100]⟩, fun q_ => match q_ with | ⟨(i, d), _⟩ => t.length - i, ⟨⟨(0, B), Nat.zero_le _, by simp [termsB]⟩, [(100, some 300)], ?_⟩, ?_⟩
  · conv => whnf
    repeat' (first | exact rfl | exact trivial | exact ⟨_, rfl⟩ | exact ⟨rfl, rfl, rfl⟩ | refine And.intro ?_ ?_)
  · rintro ⟨⟨i, d⟩, hi, hd⟩
    simp only at hi hd
    conv => whnf
    refine bcase_intro (fun h => ?_) (fun h => ?_)
    · have h : i < t.length := by first | simpa [-List.getD_eq_getElem?_getD] using h | (simp [-List.getD_eq_getElem?_getD] at h; omega)
      have e : d ++ termB (t.getD i dT) = B ++ termsB (t.take (i + 1)) := by rw [hd, terms_take h, List.append_assoc]
      have hv := hm.at h
      have hlen : (d ++ termB (t.getD i dT)).length ≤ 1000000000000 := by
        rw [e, List.length_append]
        rw [List.length_append] at hl
        have := terms_pre t (i + 1)
        omega
      obtain ⟨D, hD⟩ : ∃ D, D = d ++ ratB (t.getD i dT).1 := ⟨_, rfl⟩
      have eD : d ++ termB (t.getD i dT) = D ++ expsB (t.getD i dT).2.l := by rw [hD, termB, List.append_assoc]
      rw [eD] at e hlen
      have hDl : D.length ≤ 1000000000000 := by rw [List.length_append] at hlen; omega
      have hrat := rationalr_g 100 301 (by decide) (t.getD i dT).1.num (t.getD i dT).1.den d (by rw [hD] at hDl; exact hDl)
      rw [show d ++ (wholeB (t.getD i dT).1.num ++ wholeB (t.getD i dT).1.den) = D from hD.symm] at hrat
      have hC := pt_C h
      conv => whnf
      repeat ((first | refine ⟨_, hC, rfl, ?_⟩ | refine ⟨_, ⟨rfl, by omega⟩, ?_⟩ | refine And.intro (by decide : (_ : Nat) ≠ 0) ?_); conv => whnf)
      refine ⟨_, _, _, _, _, hrat, ?_, ?_, bchk_iff.2 ⟨rfl, ?_⟩⟩
      · repeat' (first | exact rfl | exact trivial | exact ⟨_, rfl⟩ | exact ⟨rfl, rfl, rfl⟩ | refine And.intro ?_ ?_)
      · repeat' (first | exact rfl | exact trivial | exact ⟨_, rfl⟩ | exact ⟨rfl, rfl, rfl⟩ | refine And.intro ?_ ?_)
      conv => whnf
      skip
      refine ⟨{ q : Nat × List UInt8 // q.1 ≤ 8 ∧ q.2 = D ++ expsB ((t.getD i dT).2.l.take q.1) }, fun q_ => match q_ with | ⟨(k, x), _⟩ => ⟨[(0, .own 101 5 1 x.length), (6, .v (.int .i64 k))], [(101, .row 5 1 x.length (bytesC x))]⟩, ⟨[true, false, false, false, false, false, true, false, false, false, false, false, false, false, false, false, false, false, false, false, false, false, false, false, false, true, true, true, true, true, true, true, true, true, true, true, true, true, true], [], [101]⟩, fun q_ => match q_ with | ⟨(k, x), _⟩ => 8 - k, ⟨⟨(0, D), Nat.zero_le _, by simp [expsB]⟩, [(101, some 301)], ?_⟩, ?_⟩
      · conv => whnf
        repeat' (first | exact rfl | exact trivial | exact ⟨_, rfl⟩ | exact ⟨rfl, rfl, rfl⟩ | refine And.intro ?_ ?_)
      · rintro ⟨⟨k, x⟩, hk, hx⟩
        simp only at hk hx
        conv => whnf
        refine bcase_intro (fun h2 => ?_) (fun h2 => ?_)
        · have h2 : k < 8 := by first | simpa [-List.getD_eq_getElem?_getD] using h2 | (simp [-List.getD_eq_getElem?_getD] at h2; omega)
          have e2 : x ++ natB ((t.getD i dT).2.at k) = D ++ expsB ((t.getD i dT).2.l.take (k + 1)) := by rw [hx, exps_take (show k < (t.getD i dT).2.l.length from h2), List.append_assoc]; rfl
          have hv2 := hv k
          have hlen2 : (x ++ natB ((t.getD i dT).2.at k)).length ≤ 1000000000000 := by
            rw [e2, List.length_append]
            rw [List.length_append] at hlen
            have := exps_pre (t.getD i dT).2.l (k + 1)
            omega
          conv => whnf
          repeat ((first | refine ⟨_, pt_E h h2, ?_⟩ | refine ⟨_, ⟨rfl, by omega⟩, ?_⟩ | refine ⟨_, wU (by omega), ?_⟩ | refine And.intro (by decide : (_ : Nat) ≠ 0) ?_); conv => whnf)
          refine ⟨_, _, _, _, _, natr_g 101 302 (by decide) ((t.getD i dT).2.at k) x (by omega) hlen2, ?_, ?_, bchk_iff.2 ⟨rfl, ?_⟩⟩
          · repeat' (first | exact rfl | exact trivial | exact ⟨_, rfl⟩ | exact ⟨rfl, rfl, rfl⟩ | refine And.intro ?_ ?_)
          · repeat' (first | exact rfl | exact trivial | exact ⟨_, rfl⟩ | exact ⟨rfl, rfl, rfl⟩ | refine And.intro ?_ ?_)
          conv => whnf
          repeat (refine ⟨_, wAdd1 (by omega), ?_⟩; conv => whnf)
          refine ⟨⟨(k + 1, x ++ natB ((t.getD i dT).2.at k)), by simp only; omega, e2⟩, [(101, some 302)], by dsimp only; omega, ?_⟩
          conv => whnf
          repeat' (first | exact rfl | exact trivial | exact ⟨_, rfl⟩ | exact ⟨rfl, rfl, rfl⟩ | refine And.intro ?_ ?_)
        · have h2 : 8 ≤ k := by first | simpa [-List.getD_eq_getElem?_getD] using h2 | (simp [-List.getD_eq_getElem?_getD] at h2; omega)
          rw [List.take_of_length_le (show (t.getD i dT).2.l.length ≤ k from h2)] at hx
          subst hx
          conv => whnf
          repeat (refine ⟨_, wAdd1 (by omega), ?_⟩; conv => whnf)
          refine ⟨⟨(i + 1, D ++ expsB (t.getD i dT).2.l), by simp only; omega, e⟩, [(100, some 101)], by dsimp only; omega, ?_⟩
          conv => whnf
          repeat' (first | exact rfl | exact trivial | exact ⟨_, rfl⟩ | exact ⟨rfl, rfl, rfl⟩ | refine And.intro ?_ ?_)
    · have h : t.length ≤ i := by first | simpa [-List.getD_eq_getElem?_getD] using h | (simp [-List.getD_eq_getElem?_getD] at h; omega)
      rw [List.take_of_length_le h] at hd
      subst hd
      conv => whnf
      skip
      refine ⟨[(1, some 100)], ?_⟩
      conv => whnf
      repeat' (first | exact rfl | exact trivial | exact ⟨_, rfl⟩ | exact ⟨rfl, rfl, rfl⟩ | refine And.intro ?_ ?_)
theorem polyr_g (q r : Nat) (h : q ≠ r) (t : Pl) (hm : Pm t) (l : List UInt8) (hl : (l ++ polyB t).length ≤ 1000000000000) :
    GSpec Tryz.prog 160 [.own q 5 1 l.length, encP t] [(q, wrow l)] (.own r 5 1 (l ++ polyB t).length) [(r, wrow (l ++ polyB t))] [r] := by
  obtain ⟨σ, hσ, rfl, rfl⟩ := names2 q r h
  exact (polyr_b t hm l hl).ren hσ
theorem polysr_b (t : List Pl) (hn : t.length ≤ 1000000) (hm : ∀ p ∈ t, Pm p) (l : List UInt8) (hl : (l ++ polysB t).length ≤ 1000000000000) :
    GSpec Tryz.prog 108 [.own 1000 5 1 l.length, encL t] [(1000, wrow l)] (.own 1 5 1 (l ++ polysB t).length) [(1, wrow (l ++ polysB t))] [1] := by
  obtain ⟨B, hB⟩ : ∃ B, B = l ++ natB t.length := ⟨_, rfl⟩
  have hW : l ++ polysB t = B ++ listB t := by rw [hB, polysB, List.append_assoc]
  rw [hW] at hl ⊢
  have hBl : B.length ≤ 1000000000000 := by rw [List.length_append] at hl; omega
  have hnat := natr_g 1000 300 (by decide) t.length l (by omega) (by rw [← hB]; exact hBl)
  rw [← hB] at hnat
  clear hB hW
  refine GSpec.intro ok [(1, ([], some [1000])), (5, ([], some [100]))] Tryz.func108 rfl rfl (m := 22) rfl rfl ?_
  conv => whnf
  repeat (refine ⟨_, wU (by omega), ?_⟩; conv => whnf)
  refine ⟨_, _, _, _, _, hnat, ?_, ?_, bchk_iff.2 ⟨rfl, ?_⟩⟩
  · repeat' (first | exact rfl | exact trivial | exact ⟨_, rfl⟩ | exact ⟨rfl, rfl, rfl⟩ | refine And.intro ?_ ?_)
  · repeat' (first | exact rfl | exact trivial | exact ⟨_, rfl⟩ | exact ⟨rfl, rfl, rfl⟩ | refine And.intro ?_ ?_)
  conv => whnf
  skip
  refine ⟨{ q : Nat × List UInt8 // q.1 ≤ t.length ∧ q.2 = B ++ listB (t.take q.1) }, fun q_ => match q_ with | ⟨(i, d), _⟩ => ⟨[(0, .own 100 5 1 d.length), (5, .v (.int .i64 i))], [(100, .row 5 1 d.length (bytesC d))]⟩, ⟨[true, false, false, false, false, true, false, false, false, false, false, true, true, true, true, true, true, true, true, true, true, true, true], [], [100]⟩, fun q_ => match q_ with | ⟨(i, d), _⟩ => t.length - i, ⟨⟨(0, B), Nat.zero_le _, by simp [listB]⟩, [(100, some 300)], ?_⟩, ?_⟩
  · conv => whnf
    repeat' (first | exact rfl | exact trivial | exact ⟨_, rfl⟩ | exact ⟨rfl, rfl, rfl⟩ | refine And.intro ?_ ?_)
  · rintro ⟨⟨i, d⟩, hi, hd⟩
    simp only at hi hd
    conv => whnf
    refine bcase_intro (fun h => ?_) (fun h => ?_)
    · have h : i < t.length := by first | simpa [-List.getD_eq_getElem?_getD] using h | (simp [-List.getD_eq_getElem?_getD] at h; omega)
      have e : d ++ polyB (t.getD i []) = B ++ listB (t.take (i + 1)) := by rw [hd, list_take h, List.append_assoc]
      have hv := hm (t.getD i []) (by rw [List.getD_eq_getElem?_getD, List.getElem?_eq_getElem h]; exact List.getElem_mem _)
      have hlen : (d ++ polyB (t.getD i [])).length ≤ 1000000000000 := by
        rw [e, List.length_append]
        rw [List.length_append] at hl
        have := list_pre t (i + 1)
        omega
      conv => whnf
      repeat ((first | refine ⟨_, lt_P h, ?_⟩ | refine ⟨_, ⟨rfl, by omega⟩, ?_⟩); conv => whnf)
      refine ⟨_, _, _, _, _, polyr_g 100 301 (by decide) (t.getD i []) hv d hlen, ?_, ?_, bchk_iff.2 ⟨rfl, ?_⟩⟩
      · repeat' (first | exact rfl | exact trivial | exact ⟨_, rfl⟩ | exact ⟨rfl, rfl, rfl⟩ | refine And.intro ?_ ?_)
      · repeat' (first | exact rfl | exact trivial | exact ⟨_, rfl⟩ | exact ⟨rfl, rfl, rfl⟩ | refine And.intro ?_ ?_)
      conv => whnf
      repeat (refine ⟨_, wAdd1 (by omega), ?_⟩; conv => whnf)
      refine ⟨⟨(i + 1, d ++ polyB (t.getD i [])), by simp only; omega, e⟩, [(100, some 301)], by dsimp only; omega, ?_⟩
      conv => whnf
      repeat' (first | exact rfl | exact trivial | exact ⟨_, rfl⟩ | exact ⟨rfl, rfl, rfl⟩ | refine And.intro ?_ ?_)
    · have h : t.length ≤ i := by first | simpa [-List.getD_eq_getElem?_getD] using h | (simp [-List.getD_eq_getElem?_getD] at h; omega)
      rw [List.take_of_length_le h] at hd
      subst hd
      conv => whnf
      skip
      refine ⟨[(1, some 100)], ?_⟩
      conv => whnf
      repeat' (first | exact rfl | exact trivial | exact ⟨_, rfl⟩ | exact ⟨rfl, rfl, rfl⟩ | refine And.intro ?_ ?_)
theorem polysr_g (q r : Nat) (h : q ≠ r) (t : List Pl) (hn : t.length ≤ 1000000) (hm : ∀ p ∈ t, Pm p) (l : List UInt8) (hl : (l ++ polysB t).length ≤ 1000000000000) :
    GSpec Tryz.prog 108 [.own q 5 1 l.length, encL t] [(q, wrow l)] (.own r 5 1 (l ++ polysB t).length) [(r, wrow (l ++ polysB t))] [r] := by
  obtain ⟨σ, hσ, rfl, rfl⟩ := names2 q r h
  exact (polysr_b t hn hm l hl).ren hσ
end Go.Proofs.YtbhnankggcfndaaGreat
namespace Go.Proofs.YtbhnankggcfndaaGreat
open El Go.Shelf Go.Sort
set_option maxRecDepth 10000
set_option maxHeartbeats 4000000
def atT (s : Pl) (i : Nat) : Tm := s.getD i dT
theorem range_perm {q : List Nat} {n : Nat} (hd : q.Nodup) (hlt : ∀ i ∈ q, i < n) (hall : ∀ i, i < n → i ∈ q) : q.Perm (List.range n) :=
  (List.perm_ext_iff_of_nodup hd List.nodup_range).2 fun i => ⟨fun h => List.mem_range.2 (hlt i h), fun h => hall i (List.mem_range.1 h)⟩
theorem range_at (s : Pl) : (List.range s.length).map (atT s) = s := by
  apply List.ext_getElem?
  intro i
  rw [List.getElem?_map]
  rcases Nat.lt_or_ge i s.length with h | h
  · rw [List.getElem?_range h, List.getElem?_eq_getElem h]
    simp [atT, List.getD_eq_getElem?_getD, List.getElem?_eq_getElem h]
  · rw [List.getElem?_eq_none (by simpa using h), List.getElem?_eq_none (by simpa using h)]
    rfl
theorem nodup_len {q : List Nat} {n : Nat} (hd : q.Nodup) (hlt : ∀ i ∈ q, i < n) : q.length ≤ n := by
  have h := hd.length_le_of_subset (l₂ := List.range n) (fun i hi => List.mem_range.2 (hlt i hi))
  simpa using h
theorem ent_at {s : Pl} {i : Nat} {k : Go.Value} {d : C} (h : (keysM s)[i]? = some (k, d)) : i < s.length ∧ k = moV (atT s i).2 ∧ d = .agg (rc (atT s i).1.num (atT s i).1.den) := by
  unfold keysM at h
  rw [List.getElem?_map] at h
  cases hs : s[i]? with
  | none => rw [hs] at h; cases h
  | some t =>
    rw [hs] at h
    simp only [Option.map_some, Option.some.injEq, ent, Prod.mk.injEq] at h
    have ht : atT s i = t := by simp [atT, List.getD_eq_getElem?_getD, hs]
    rw [ht]
    exact ⟨(List.getElem?_eq_some_iff.1 hs).1, h.1.symm, h.2.symm⟩
theorem sumpoly_b (s : Pl) (hz : ∀ t ∈ s, t.1 ≠ 0) (hd : Dst s) (hl : s.length ≤ 1000000) :
    GSpec Tryz.prog 155 [.mp 1000] [(1000, .map (keysM s))] (.own 1 118 12 s.length) [(1, .row 118 12 s.length (pc (isort cR s)))] [1] := by
  refine GSpec.intro ok [(7, ([], some [100]))] Tryz.func155 rfl rfl (m := 25) rfl rfl ?_
  conv => whnf
  skip
  refine .inr ?_
  conv => whnf
  skip
  refine ⟨s.length, by simp [keysM], ?_⟩
  conv => whnf
  skip
  refine ⟨{ q : List Nat // q.Nodup ∧ ∀ i ∈ q, i < s.length }, fun q_ => match q_ with | ⟨q, _⟩ => ⟨[(3, .own 100 118 12 q.length)], [(8, .iter 1000 s.length q), (100, .row 118 12 q.length (pc (q.map (atT s))))]⟩, ⟨[false, false, false, true, true, true, false, false, false, true, true, true, true, true, true, true, true, true, true, true, true, true, true], [1000], [100]⟩, fun q_ => match q_ with | ⟨q, _⟩ => s.length - q.length, ⟨⟨[], List.nodup_nil, fun i h => absurd h (by simp)⟩, [(100, some 6)], ?_⟩, ?_⟩
  · conv => whnf
    repeat' (first | exact rfl | exact trivial | exact ⟨_, rfl⟩ | exact ⟨rfl, rfl, rfl⟩ | refine And.intro ?_ ?_)
  · rintro ⟨q, hq1, hq2⟩
    have hql := nodup_len hq1 hq2
    conv => whnf
    refine ⟨by simp [keysM], fun hall => ?_, fun i k d hi hn => ?_⟩
    · have hp := range_perm hq1 hq2 hall
      have hlen : q.length = s.length := by rw [hp.length_eq, List.length_range]
      have hps : (q.map (atT s)).Perm s := by
        have := hp.map (atT s)
        rwa [range_at] at this
      have hdq : Dst (q.map (atT s)) := hps.symm.pairwise hd (fun h => fun e => h e.symm)
      have hso := sortT_g 100 (q.map (atT s)) hdq (by rw [List.length_map]; omega)
      have hsq : isort cR (q.map (atT s)) = isort cR s := TO.cR.isort ((isort_perm cR _).trans hps) (isort_sorted TO.cR _)
      rw [List.length_map, hsq, hlen] at hso
      rw [hlen]
      conv => whnf
      repeat (refine ⟨_, (rfl : (_ : List C)[_]? = some _), ?_⟩; conv => whnf)
      refine ⟨_, _, _, _, _, hso, ?_, ?_, bchk_iff.2 ⟨rfl, ?_⟩⟩
      · repeat' (first | exact rfl | exact trivial | exact ⟨_, rfl⟩ | exact ⟨rfl, rfl, rfl⟩ | refine And.intro ?_ ?_)
      · repeat' (first | exact rfl | exact trivial | exact ⟨_, rfl⟩ | exact ⟨rfl, rfl, rfl⟩ | refine And.intro ?_ ?_)
      conv => whnf
      skip
      refine ⟨[(1, some 100)], ?_⟩
      conv => whnf
      repeat' (first | exact rfl | exact trivial | exact ⟨_, rfl⟩ | exact ⟨rfl, rfl, rfl⟩ | refine And.intro ?_ ?_)
    · obtain ⟨hil, rfl, rfl⟩ := ent_at hi
      have hmem : atT s i ∈ s := getD_mem hil
      have hnz : ((atT s i).1.num.sign != 0) = true := by
        rw [bne_iff_ne]
        intro e
        exact hz _ hmem (by rw [Int.sign_eq_zero_iff_zero] at e; exact Rat.num_eq_zero.1 e)
      have hnd : (q ++ [i]).Nodup := by
        rw [List.nodup_append]
        exact ⟨hq1, by simp, fun a ha b hb e => hn (by simp at hb; subst hb; subst e; exact ha)⟩
      have hlt : ∀ j ∈ q ++ [i], j < s.length := by
        intro j hj
        rcases List.mem_append.1 hj with h | h
        · exact hq2 j h
        · simp at h; subst h; exact hil
      have hl2 := nodup_len hnd hlt
      rw [List.length_append, List.length_singleton] at hl2
      conv => whnf
      repeat (refine ⟨_, (rfl : (_ : List C)[_]? = some _), ?_⟩; conv => whnf)
      refine ⟨by simp [keysM], i, by simp, _, _, hi, ?_⟩
      conv => whnf
      repeat ((first | refine ⟨_, (rfl : (_ : List C)[_]? = some _), ?_⟩ | refine ⟨by first | decide | exact Nat.le_refl _, _, rfl, ?_⟩ | refine ⟨_, rfl, rfl, ?_⟩); conv => whnf)
      refine ⟨_, _, qsign_spec (atT s i).1, SubL.le (by repeat' (first | exact rfl | exact trivial | exact ⟨_, rfl⟩ | exact ⟨rfl, rfl, rfl⟩ | refine And.intro ?_ ?_)), ?_⟩
      conv => whnf
      skip
      rw [hnz]
      conv => whnf
      repeat (refine ⟨_, rfl, rfl, ?_⟩; conv => whnf)
      refine ⟨rfl, ?_⟩
      conv => whnf
      refine ⟨rfl, ?_⟩
      conv => whnf
      refine ⟨rfl, ?_⟩
      conv => whnf
      refine ⟨⟨by show _ * 128 ≤ _; omega, by omega⟩, pc ((q ++ [i]).map (atT s)), (q ++ [i]).length, ⟨by rw [List.map_append, pc_append]; simp [pc]; rfl, by simp⟩, ?_⟩
      conv => whnf
      skip
      refine ⟨⟨q ++ [i], hnd, hlt⟩, [(100, some 22)], by simp only [List.length_append, List.length_singleton]; omega, ?_⟩
      conv => whnf
      repeat' (first | exact rfl | exact trivial | exact ⟨_, rfl⟩ | exact ⟨rfl, rfl, rfl⟩ | refine And.intro ?_ ?_)
theorem sumpoly_g (q r : Nat) (h : q ≠ r) (s : Pl) (hz : ∀ t ∈ s, t.1 ≠ 0) (hd : Dst s) (hl : s.length ≤ 1000000) :
    GSpec Tryz.prog 155 [.mp q] [(q, .map (keysM s))] (.own r 118 12 s.length) [(r, .row 118 12 s.length (pc (isort cR s)))] [r] := by
  obtain ⟨σ, hσ, rfl, rfl⟩ := names2 q r h
  exact (sumpoly_b s hz hd hl).ren hσ
/-! ### Permutations -/
/-- A permutation of the eight variables. -/
structure PermOk (pm : Mo) : Prop where
  lt : ∀ i, i < 8 → pm.at i < 8
  inj : ∀ i j, i < 8 → j < 8 → pm.at i = pm.at j → i = j
def permF (pm m : Mo) : Nat → Nat → Nat
  | 0 => fun _ => 0
  | i + 1 => fun j => if j = pm.at i then m.at i else permF pm m i j
def permM (pm m : Mo) : Mo := Mo.of (permF pm m 8)
def permT (pm : Mo) (t : Tm) : Tm := (t.1, permM pm t.2)
def permP (pm : Mo) (p : Pl) : Pl := isort cR (p.map (permT pm))
/-- What is asked of a polynomial that is permuted. -/
structure Pk (pm : Mo) (p : Pl) : Prop where
  m : ∀ t ∈ p, Mv t.2
  z : ∀ t ∈ p, t.1 ≠ 0
  d : Dst (p.map (permT pm))
  l : p.length ≤ 1000000
def bc (f : Nat → Bool) : List C := [.v (.bool (f 0)), .v (.bool (f 1)), .v (.bool (f 2)), .v (.bool (f 3)), .v (.bool (f 4)), .v (.bool (f 5)), .v (.bool (f 6)), .v (.bool (f 7))]
theorem bc_at0 (f : Nat → Bool) {i : Nat} (h : i < 8) : (bc f)[0 + i * 1]? = some (.v (.bool (f i))) := by
  match i, h with
  | 0, _ => rfl
  | 1, _ => rfl
  | 2, _ => rfl
  | 3, _ => rfl
  | 4, _ => rfl
  | 5, _ => rfl
  | 6, _ => rfl
  | 7, _ => rfl
theorem bc_set0 (f : Nat → Bool) (i : Nat) (h : i < 8) : spl (bc f) (0 + i * 1) [.v (.bool true)] = bc fun j => if j = i then true else f j := by
  match i, h with
  | 0, _ => rfl
  | 1, _ => rfl
  | 2, _ => rfl
  | 3, _ => rfl
  | 4, _ => rfl
  | 5, _ => rfl
  | 6, _ => rfl
  | 7, _ => rfl
def seenF (pm : Mo) : Nat → Nat → Bool
  | 0 => fun _ => false
  | i + 1 => fun j => if j = pm.at i then true else seenF pm i j
theorem seenF_ex {pm : Mo} : ∀ {i j : Nat}, seenF pm i j = true → ∃ k, k < i ∧ pm.at k = j
  | 0, _, h => by simp [seenF] at h
  | i + 1, j, h => by
    simp only [seenF] at h
    split at h
    · rename_i e; exact ⟨i, by omega, e.symm⟩
    · obtain ⟨k, h1, h2⟩ := seenF_ex h
      exact ⟨k, by omega, h2⟩
theorem seenF_new {pm : Mo} (h : PermOk pm) {i : Nat} (hi : i < 8) : seenF pm i (pm.at i) = false := by
  cases e : seenF pm i (pm.at i) with
  | false => rfl
  | true =>
    obtain ⟨k, h1, h2⟩ := seenF_ex e
    have := h.inj k i (by omega) hi h2
    omega
theorem permF_v {pm m : Mo} (h : Mv m) : ∀ i j, permF pm m i j ≤ 65535
  | 0, j => by simp [permF]
  | i + 1, j => by
    simp only [permF]
    split
    · exact h i
    · exact permF_v h i j
theorem permM_v {pm m : Mo} (h : Mv m) : Mv (permM pm m) := by
  intro j
  rcases Nat.lt_or_ge j 8 with h1 | h1
  · rw [permM, Mo.of_at _ h1]
    exact permF_v h 8 j
  · rw [Mo.at_big _ h1]; omega
theorem permute_spec (pm : Mo) (hpm : PermOk pm) (p : Pl) (hk : Pk pm p) :
    FSpec Tryz.prog 105 [encP p, .agg (mc pm)] (.tup [encP (permP pm p), .v (.int .i64 0)]) := by
  have hl := hk.l
  refine FSpec.intro ok [(19, ([], some [33])), (21, ([], some [33]))] Tryz.func105 rfl rfl (m := 58) rfl ?_
  conv => whnf
  repeat (refine ⟨_, rfl, rfl, ?_⟩; conv => whnf)
  refine ⟨{ i : Nat // i ≤ 8 }, fun q_ => match q_ with | ⟨i, _⟩ => ⟨[(16, i64n i)], [(6, .cells 110 8 (bc (seenF pm i)))]⟩, ⟨[false, false, false, false, true, true, false, false, true, false, false, false, false, false, false, false, true, true, true, true, true, true, true, true, true, true, true, true, true, true, true, true, true], [3], []⟩, fun q_ => match q_ with | ⟨i, _⟩ => 8 - i, ⟨⟨0, Nat.zero_le _⟩, [], ?_⟩, ?_⟩
  · conv => whnf
    repeat' (first | exact rfl | exact trivial | exact ⟨_, rfl⟩ | exact ⟨rfl, rfl, rfl⟩ | refine And.intro ?_ ?_)
  · rintro ⟨i, hi⟩
    conv => whnf
    refine bcase_intro (fun h => ?_) (fun h => ?_)
    · have h : i < 8 := by first | simpa [-List.getD_eq_getElem?_getD] using h | (simp [-List.getD_eq_getElem?_getD] at h; omega)
      have hv := hpm.lt i h
      conv => whnf
      repeat ((first | refine ⟨_, mc_at1 pm h, ?_⟩ | refine ⟨_, ⟨rfl, by omega⟩, ?_⟩); conv => whnf)
      rw [show decide (((pm.at i : Nat) : Int) < 0) = false from decide_eq_false (by omega)]
      conv => whnf
      skip
      rw [show decide (((pm.at i : Nat) : Int) ≥ 8) = false from decide_eq_false (by omega)]
      conv => whnf
      repeat ((first | refine ⟨_, bc_at0 _ hv, ?_⟩ | refine ⟨_, ⟨rfl, by omega⟩, ?_⟩); conv => whnf)
      rw [seenF_new hpm h]
      conv => whnf
      repeat (refine ⟨_, ⟨rfl, by omega⟩, ?_⟩; conv => whnf)
      refine ⟨by show 0 + pm.at i * 1 + 1 ≤ 8; omega, _, bc_set0 _ _ hv, ?_⟩
      conv => whnf
      repeat (refine ⟨_, wAdd1 (by omega), ?_⟩; conv => whnf)
      refine ⟨⟨i + 1, by omega⟩, [], by dsimp only; omega, ?_⟩
      conv => whnf
      repeat' (first | exact rfl | exact trivial | exact ⟨_, rfl⟩ | exact ⟨rfl, rfl, rfl⟩ | refine And.intro ?_ ?_)
    · have h : 8 ≤ i := by first | simpa [-List.getD_eq_getElem?_getD] using h | (simp [-List.getD_eq_getElem?_getD] at h; omega)
      conv => whnf
      skip
      refine ⟨{ q : Nat × Pl // q.1 ≤ p.length ∧ q.2 = (p.take q.1).map (permT pm) }, fun q_ => match q_ with | ⟨(k, s), _⟩ => ⟨[(36, .v (.int .i64 k))], [(33, .map (keysM s))]⟩, ⟨[false, false, false, false, false, false, false, false, false, false, false, true, true, true, true, false, false, false, false, false, false, false, false, false, false, false, false, false, false, false, false, false, false, false, false, false, true, true, true, true, true, true, true, true, true, true, true, true, true, true, true, true, true, true, true, true, true, true], [3], []⟩, fun q_ => match q_ with | ⟨(k, s), _⟩ => p.length - k, ⟨⟨(0, []), Nat.zero_le _, rfl⟩, [], ?_⟩, ?_⟩
      · conv => whnf
        repeat' (first | exact rfl | exact trivial | exact ⟨_, rfl⟩ | exact ⟨rfl, rfl, rfl⟩ | refine And.intro ?_ ?_)
      · rintro ⟨⟨k, s⟩, hkl, hs⟩
        simp only at hkl hs
        conv => whnf
        refine bcase_intro (fun h2 => ?_) (fun h2 => ?_)
        · have h2 : k < p.length := by first | simpa [-List.getD_eq_getElem?_getD] using h2 | (simp [-List.getD_eq_getElem?_getD] at h2; omega)
          have hT := pt_T h2
          have hmem := getD_mem h2
          have hm := hk.m _ hmem
          have e1 : s ++ [((p.getD k dT).1, permM pm (p.getD k dT).2)] = (p.take (k + 1)).map (permT pm) := by
            rw [hs, take_snoc dT h2, List.map_append]; rfl
          have hd : Dst ((p.take (k + 1)).map (permT pm)) := hk.d.sublist ((List.take_sublist _ _).map _)
          rw [← e1] at hd
          have hnot : ∀ t ∈ s, t.2 ≠ permM pm (p.getD k dT).2 := fun t ht => (List.pairwise_append.1 hd).2.2 t ht _ (List.mem_singleton.2 rfl)
          have hsv : ∀ t ∈ s, Mv t.2 := by
            rw [hs]
            intro t ht
            obtain ⟨u, hu, rfl⟩ := List.mem_map.1 ht
            exact permM_v (hk.m u (List.mem_of_mem_take hu))
          generalize p.getD k dT = t at *
          conv => whnf
          repeat ((first | refine ⟨_, hT, rfl, ?_⟩ | refine ⟨_, ⟨rfl, by omega⟩, ?_⟩ | refine And.intro (by decide : (_ : Nat) ≠ 0) ?_ | refine ⟨by first | decide | exact Nat.le_refl _, _, rfl, ?_⟩ | refine ⟨_, rfl, rfl, ?_⟩); conv => whnf)
          refine ⟨{ i : Nat // i ≤ 8 }, fun q_ => match q_ with | ⟨i, _⟩ => ⟨[(42, i64n i)], [(12, .cells 68 8 (mc (Mo.of (permF pm t.2 i))))]⟩, ⟨[false, false, false, false, false, false, false, false, false, false, false, false, false, true, true, false, false, false, false, false, false, false, false, false, false, false, false, false, false, false, false, false, false, false, false, false, false, false, false, false, false, false, true, true, true, true, true, true, true, true, true, true], [3, 11, 33], []⟩, fun q_ => match q_ with | ⟨i, _⟩ => 8 - i, ⟨⟨0, Nat.zero_le _⟩, [], ?_⟩, ?_⟩
          · conv => whnf
            repeat' (first | exact rfl | exact trivial | exact ⟨_, rfl⟩ | exact ⟨rfl, rfl, rfl⟩ | refine And.intro ?_ ?_)
          · rintro ⟨i, hi⟩
            conv => whnf
            refine bcase_intro (fun h3 => ?_) (fun h3 => ?_)
            · have h3 : i < 8 := by first | simpa [-List.getD_eq_getElem?_getD] using h3 | (simp [-List.getD_eq_getElem?_getD] at h3; omega)
              have hv := hpm.lt i h3
              conv => whnf
              repeat ((first | refine ⟨_, mc_at1 t.2 h3, ?_⟩ | refine ⟨_, mc_at0 pm h3, ?_⟩ | refine ⟨_, ⟨rfl, by omega⟩, ?_⟩); conv => whnf)
              refine ⟨by show 0 + pm.at i * 1 + 1 ≤ 8; omega, _, mc_set0 _ _ _ hv, ?_⟩
              conv => whnf
              repeat (refine ⟨_, wAdd1 (by omega), ?_⟩; conv => whnf)
              refine ⟨⟨i + 1, by omega⟩, [], by dsimp only; omega, ?_⟩
              conv => whnf
              repeat' (first | exact rfl | exact trivial | exact ⟨_, rfl⟩ | exact ⟨rfl, rfl, rfl⟩ | refine And.intro ?_ ?_)
            · have h3 : 8 ≤ i := by first | simpa [-List.getD_eq_getElem?_getD] using h3 | (simp [-List.getD_eq_getElem?_getD] at h3; omega)
              obtain rfl : i = 8 := by omega
              conv => whnf
              repeat ((first | refine And.intro (by decide : (_ : Nat) ≠ 0) ?_ | refine ⟨_, rfl, rfl, ?_⟩); conv => whnf)
              refine ⟨_, _, _, _, _, sumadd_g 33 s t.1 (permM pm t.2) hsv (permM_v hm) hnot, ?_, ?_, bchk_iff.2 ⟨rfl, ?_⟩⟩
              · repeat' (first | exact rfl | exact trivial | exact ⟨_, rfl⟩ | exact ⟨rfl, rfl, rfl⟩ | refine And.intro ?_ ?_)
              · repeat' (first | exact rfl | exact trivial | exact ⟨_, rfl⟩ | exact ⟨rfl, rfl, rfl⟩ | refine And.intro ?_ ?_)
              conv => whnf
              repeat (refine ⟨_, wAdd1 (by omega), ?_⟩; conv => whnf)
              refine ⟨⟨(k + 1, s ++ [(t.1, permM pm t.2)]), by simp only; omega, e1⟩, [], by dsimp only; omega, ?_⟩
              conv => whnf
              repeat' (first | exact rfl | exact trivial | exact ⟨_, rfl⟩ | exact ⟨rfl, rfl, rfl⟩ | refine And.intro ?_ ?_)
        · have h2 : p.length ≤ k := by first | simpa [-List.getD_eq_getElem?_getD] using h2 | (simp [-List.getD_eq_getElem?_getD] at h2; omega)
          rw [List.take_of_length_le h2] at hs
          have hz : ∀ t ∈ s, t.1 ≠ 0 := by
            rw [hs]
            intro t ht
            obtain ⟨u, hu, rfl⟩ := List.mem_map.1 ht
            exact hk.z u hu
          have hsl : s.length ≤ 1000000 := by rw [hs, List.length_map]; omega
          have hp := sumpoly_g 33 300 (by decide) s hz (by rw [hs]; exact hk.d) hsl
          have hr : encP (permP pm p) = .sl 118 12 s.length false (pc (isort cR s)) := by
            rw [permP, ← hs, encP, isort_length]
          rw [hr]
          clear hr
          conv => whnf
          skip
          refine ⟨_, _, _, _, _, hp, ?_, ?_, bchk_iff.2 ⟨rfl, ?_⟩⟩
          · repeat' (first | exact rfl | exact trivial | exact ⟨_, rfl⟩ | exact ⟨rfl, rfl, rfl⟩ | refine And.intro ?_ ?_)
          · repeat' (first | exact rfl | exact trivial | exact ⟨_, rfl⟩ | exact ⟨rfl, rfl, rfl⟩ | refine And.intro ?_ ?_)
          conv => whnf
          skip
          refine ⟨[300], ?_⟩
          conv => whnf
          repeat' (first | exact rfl | exact trivial | exact ⟨_, rfl⟩ | exact ⟨rfl, rfl, rfl⟩ | refine And.intro ?_ ?_)
end Go.Proofs.YtbhnankggcfndaaGreat
namespace Go.Proofs.YtbhnankggcfndaaGreat
open El
set_option maxRecDepth 10000
set_option maxHeartbeats 4000000
theorem index_none0 (l : List Pl) (bad : Pl → Bool) (f : Nat) (hl : l.length ≤ 1000000) (hf : ∀ p ∈ l, FSpec Tryz.prog f [encP p] (.v (.bool (bad p)))) (h : ∀ p ∈ l, bad p = false) :
    FSpec Tryz.prog 90 [encL l, .fn f []] (.v (.int .i64 (-1))) := by
  have hm : ∀ {i}, i < l.length → l.getD i [] ∈ l := fun {i} h => by rw [List.getD_eq_getElem?_getD, List.getElem?_eq_getElem h]; exact List.getElem_mem _
  refine FSpec.intro ok [] Tryz.func90 rfl rfl (m := 17) rfl ?_
  conv => whnf
  skip
  refine ⟨{ i : Nat // i ≤ l.length }, fun q_ => match q_ with | ⟨i, _⟩ => ⟨[(8, .v (.int .i64 i))], []⟩, ⟨[false, false, false, false, true, true, false, false, true, true, true, true, true, true, true, true, true, true, true], [], []⟩, fun q_ => match q_ with | ⟨i, _⟩ => l.length - i, ⟨⟨0, Nat.zero_le _⟩, [], ?_⟩, ?_⟩
  · conv => whnf
    repeat' (first | exact rfl | exact trivial | exact ⟨_, rfl⟩ | exact ⟨rfl, rfl, rfl⟩ | refine And.intro ?_ ?_)
  · rintro ⟨i, hi⟩
    conv => whnf
    refine bcase_intro (fun h => ?_) (fun h => ?_)
    · have h : i < l.length := by first | simpa [-List.getD_eq_getElem?_getD] using h | (simp [-List.getD_eq_getElem?_getD] at h; omega)
      conv => whnf
      repeat ((first | refine ⟨_, lt_P h, ?_⟩ | refine ⟨_, ⟨rfl, by omega⟩, ?_⟩); conv => whnf)
      refine ⟨_, _, hf _ (hm h), SubL.le (by repeat' (first | exact rfl | exact trivial | exact ⟨_, rfl⟩ | exact ⟨rfl, rfl, rfl⟩ | refine And.intro ?_ ?_)), ?_⟩
      conv => whnf
      rw [‹∀ p ∈ l, bad p = false› _ (hm h)]
      conv => whnf
      repeat (refine ⟨_, wAdd1 (by omega), ?_⟩; conv => whnf)
      refine ⟨⟨i + 1, by omega⟩, [], by dsimp only; omega, ?_⟩
      conv => whnf
      repeat' (first | exact rfl | exact trivial | exact ⟨_, rfl⟩ | exact ⟨rfl, rfl, rfl⟩ | refine And.intro ?_ ?_)
    · conv => whnf
      repeat' (first | exact rfl | exact trivial | exact ⟨_, rfl⟩ | exact ⟨rfl, rfl, rfl⟩ | refine And.intro ?_ ?_)
theorem index_some0 (l : List Pl) (bad : Pl → Bool) (f : Nat) (hl : l.length ≤ 1000000) (hf : ∀ p ∈ l, FSpec Tryz.prog f [encP p] (.v (.bool (bad p)))) (k : Nat) (hk : k < l.length) (h : bad (l.getD k []) = true) (h0 : ∀ j, j < k → bad (l.getD j []) = false) :
    FSpec Tryz.prog 90 [encL l, .fn f []] (.v (.int .i64 k)) := by
  have hm : ∀ {i}, i < l.length → l.getD i [] ∈ l := fun {i} h => by rw [List.getD_eq_getElem?_getD, List.getElem?_eq_getElem h]; exact List.getElem_mem _
  refine FSpec.intro ok [] Tryz.func90 rfl rfl (m := 17) rfl ?_
  conv => whnf
  skip
  refine ⟨{ i : Nat // i ≤ k }, fun q_ => match q_ with | ⟨i, _⟩ => ⟨[(8, .v (.int .i64 i))], []⟩, ⟨[false, false, false, false, true, true, false, false, true, true, true, true, true, true, true, true, true, true, true], [], []⟩, fun q_ => match q_ with | ⟨i, _⟩ => l.length - i, ⟨⟨0, Nat.zero_le _⟩, [], ?_⟩, ?_⟩
  · conv => whnf
    repeat' (first | exact rfl | exact trivial | exact ⟨_, rfl⟩ | exact ⟨rfl, rfl, rfl⟩ | refine And.intro ?_ ?_)
  · rintro ⟨i, hi⟩
    have hil : i < l.length := by omega
    conv => whnf
    rw [show decide ((i : Int) < l.length) = true from by simp; omega]
    conv => whnf
    repeat ((first | refine ⟨_, lt_P hil, ?_⟩ | refine ⟨_, ⟨rfl, by omega⟩, ?_⟩); conv => whnf)
    refine ⟨_, _, hf _ (hm hil), SubL.le (by repeat' (first | exact rfl | exact trivial | exact ⟨_, rfl⟩ | exact ⟨rfl, rfl, rfl⟩ | refine And.intro ?_ ?_)), ?_⟩
    conv => whnf
    by_cases e : i = k
    · subst e
      rw [h]
      conv => whnf
      repeat' (first | exact rfl | exact trivial | exact ⟨_, rfl⟩ | exact ⟨rfl, rfl, rfl⟩ | refine And.intro ?_ ?_)
    · rw [h0 i (by omega)]
      conv => whnf
      repeat (refine ⟨_, wAdd1 (by omega), ?_⟩; conv => whnf)
      refine ⟨⟨i + 1, by omega⟩, [], by dsimp only; omega, ?_⟩
      conv => whnf
      repeat' (first | exact rfl | exact trivial | exact ⟨_, rfl⟩ | exact ⟨rfl, rfl, rfl⟩ | refine And.intro ?_ ?_)
theorem contains0_spec (l : List Pl) (bad : Pl → Bool) (f : Nat) (hl : l.length ≤ 1000000) (hf : ∀ p ∈ l, FSpec Tryz.prog f [encP p] (.v (.bool (bad p)))) :
    FSpec Tryz.prog 45 [encL l, .fn f []] (.v (.bool (l.any bad))) := by
  cases e : l.any bad with
  | true =>
    obtain ⟨k, h1, h2, h3⟩ := first_bad e
    refine FSpec.intro ok [] Tryz.func45 rfl rfl (m := 7) rfl ?_
    conv => whnf
    skip
    refine ⟨_, _, index_some0 l bad f hl hf k h1 h2 h3, SubL.le (by repeat' (first | exact rfl | exact trivial | exact ⟨_, rfl⟩ | exact ⟨rfl, rfl, rfl⟩ | refine And.intro ?_ ?_)), ?_⟩
    conv => whnf
    rw [show decide ((k : Int) ≥ 0) = true from by simp]
    repeat' (first | exact rfl | exact trivial | exact ⟨_, rfl⟩ | exact ⟨rfl, rfl, rfl⟩ | refine And.intro ?_ ?_)
  | false =>
    have h : ∀ p ∈ l, bad p = false := by
      intro p hp
      cases e2 : bad p with
      | false => rfl
      | true => rw [List.any_eq_true.2 ⟨p, hp, e2⟩] at e; cases e
    refine FSpec.intro ok [] Tryz.func45 rfl rfl (m := 7) rfl ?_
    conv => whnf
    skip
    refine ⟨_, _, index_none0 l bad f hl hf h, SubL.le (by repeat' (first | exact rfl | exact trivial | exact ⟨_, rfl⟩ | exact ⟨rfl, rfl, rfl⟩ | refine And.intro ?_ ?_)), ?_⟩
    conv => whnf
    repeat' (first | exact rfl | exact trivial | exact ⟨_, rfl⟩ | exact ⟨rfl, rfl, rfl⟩ | refine And.intro ?_ ?_)
/-- What is asked of the i-th polynomial of a core. -/
def okC (n : Nat) (l : List Pl) (i : Nat) : Bool := wiB (l.getD i []) n 12 && !decide ((l.getD i []).length = 0) && (cmpP (normP (l.getD i [])) (l.getD i []) == 0) && (decide (i = 0) || decide (cmpP (l.getD (i - 1) []) (l.getD i []) < 0))
def lstV (n : Nat) (l : List Pl) : Bool := decide (l.length ≤ 12) && (List.range l.length).all (okC n l)
theorem lstV_not {n : Nat} {l : List Pl} {i : Nat} (hi : i < l.length) (h : okC n l i = false) : lstV n l = false := by
  have : (List.range l.length).all (okC n l) = false := by
    rw [List.all_eq_false]
    exact ⟨i, List.mem_range.2 hi, by rw [h]; decide⟩
  rw [lstV, this, Bool.and_false]
theorem clist_spec (n : Nat) (l : List Pl) (hn : l.length ≤ 1000000) (hk : ∀ p ∈ l, Nk p) : FSpec Tryz.prog 53 [.agg [.v (.int .i64 n)], encL l] (.v (.bool (lstV n l))) := by
  by_cases h12 : 12 < l.length
  · rw [show lstV n l = false by rw [lstV, decide_eq_false (by omega), Bool.false_and]]
    refine FSpec.intro ok [] Tryz.func53 rfl rfl (m := 46) rfl ?_
    conv => whnf
    skip
    rw [show decide ((l.length : Int) > 12) = true from decide_eq_true (by omega)]
    conv => whnf
    repeat' (first | exact rfl | exact trivial | exact ⟨_, rfl⟩ | exact ⟨rfl, rfl, rfl⟩ | refine And.intro ?_ ?_)
  · refine FSpec.intro ok [] Tryz.func53 rfl rfl (m := 46) rfl ?_
    conv => whnf
    skip
    rw [show decide ((l.length : Int) > 12) = false from decide_eq_false (by omega)]
    conv => whnf
    skip
    refine ⟨{ i : Nat // i ≤ l.length ∧ ∀ j, j < i → okC n l j = true }, fun q_ => match q_ with | ⟨i, _⟩ => ⟨[(12, .v (.int .i64 i))], []⟩, ⟨[false, false, false, false, true, true, true, false, false, false, false, false, true, true, true, true, true, true, true, true, true, true, true, true, true, true, true, true, true, true, true, true, true, true, true, true, true, true, true, true, true, true, true, true, true, true, true, true], [2], []⟩, fun q_ => match q_ with | ⟨i, _⟩ => l.length - i, ⟨⟨0, Nat.zero_le _, fun j hj => absurd hj (Nat.not_lt_zero j)⟩, [], ?_⟩, ?_⟩
    · conv => whnf
      repeat' (first | exact rfl | exact trivial | exact ⟨_, rfl⟩ | exact ⟨rfl, rfl, rfl⟩ | refine And.intro ?_ ?_)
    · rintro ⟨i, hi, hj⟩
      conv => whnf
      refine bcase_intro (fun h => ?_) (fun h => ?_)
      · have h : i < l.length := by first | simpa [-List.getD_eq_getElem?_getD] using h | (simp [-List.getD_eq_getElem?_getD] at h; omega)
        have hm : l.getD i [] ∈ l := by rw [List.getD_eq_getElem?_getD, List.getElem?_eq_getElem h]; exact List.getElem_mem _
        have hp := hk _ hm
        have hbad : okC n l i = false → lstV n l = false := lstV_not h
        have hnext : okC n l i = true → ∀ j, j < i + 1 → okC n l j = true := by
          intro e j hj2
          rcases Nat.lt_succ_iff_lt_or_eq.1 hj2 with h5 | h5
          · exact hj j h5
          · subst h5; exact e
        conv => whnf
        repeat ((first | refine ⟨_, lt_P h, ?_⟩ | refine ⟨_, ⟨rfl, by omega⟩, ?_⟩ | refine ⟨_, rfl, rfl, ?_⟩); conv => whnf)
        refine ⟨_, _, fit_spec (l.getD i []) n 12 hp.n.s, SubL.le (by repeat' (first | exact rfl | exact trivial | exact ⟨_, rfl⟩ | exact ⟨rfl, rfl, rfl⟩ | refine And.intro ?_ ?_)), ?_⟩
        conv => whnf
        cases b1 : wiB (l.getD i []) n 12 with
        | false =>
          rw [hbad (by rw [okC, b1]; rfl)]
          conv => whnf
          skip
          repeat' (first | exact rfl | exact trivial | exact ⟨_, rfl⟩ | exact ⟨rfl, rfl, rfl⟩ | refine And.intro ?_ ?_)
        | true =>
          conv => whnf
          skip
          by_cases b2 : (l.getD i []).length = 0
          · rw [hbad (by rw [okC, b1, decide_eq_true b2]; rfl), show (((l.getD i []).length : Int) == 0) = true from by rw [beq_iff_eq]; omega]
            conv => whnf
            skip
            repeat' (first | exact rfl | exact trivial | exact ⟨_, rfl⟩ | exact ⟨rfl, rfl, rfl⟩ | refine And.intro ?_ ?_)
          · rw [show (((l.getD i []).length : Int) == 0) = false from by rw [beq_eq_false_iff_ne]; omega]
            conv => whnf
            skip
            refine ⟨_, _, normal_spec _ hp.n, SubL.le (by repeat' (first | exact rfl | exact trivial | exact ⟨_, rfl⟩ | exact ⟨rfl, rfl, rfl⟩ | refine And.intro ?_ ?_)), ?_⟩
            conv => whnf
            skip
            refine ⟨_, _, psame_spec _ _ hp.s hp.n.s, SubL.le (by repeat' (first | exact rfl | exact trivial | exact ⟨_, rfl⟩ | exact ⟨rfl, rfl, rfl⟩ | refine And.intro ?_ ?_)), ?_⟩
            conv => whnf
            skip
            cases b3 : cmpP (normP (l.getD i [])) (l.getD i []) == 0 with
            | false =>
              rw [hbad (by rw [okC, b1, b3, Bool.and_false]; rfl)]
              conv => whnf
              skip
              repeat' (first | exact rfl | exact trivial | exact ⟨_, rfl⟩ | exact ⟨rfl, rfl, rfl⟩ | refine And.intro ?_ ?_)
            | true =>
              conv => whnf
              skip
              by_cases b4 : i = 0
              · subst b4
                conv => whnf
                repeat (refine ⟨_, wAdd1 (by omega), ?_⟩; conv => whnf)
                refine ⟨⟨1, by omega, hnext (by rw [okC, b1, decide_eq_false b2, b3]; rfl)⟩, [], by dsimp only; omega, ?_⟩
                conv => whnf
                repeat' (first | exact rfl | exact trivial | exact ⟨_, rfl⟩ | exact ⟨rfl, rfl, rfl⟩ | refine And.intro ?_ ?_)
              · rw [show decide ((i : Int) > 0) = true from decide_eq_true (by omega)]
                conv => whnf
                repeat ((first | refine ⟨_, lt_P (show i - 1 < l.length by omega), ?_⟩ | refine ⟨_, wSub1 (by omega) (by omega), ?_⟩ | refine ⟨_, ⟨rfl, by omega⟩, ?_⟩); conv => whnf)
                have hm1 : l.getD (i - 1) [] ∈ l := by rw [List.getD_eq_getElem?_getD, List.getElem?_eq_getElem (show i - 1 < l.length by omega)]; exact List.getElem_mem _
                refine ⟨_, _, pcmp_spec _ _ (hk _ hm1).n.s hp.n.s, SubL.le (by repeat' (first | exact rfl | exact trivial | exact ⟨_, rfl⟩ | exact ⟨rfl, rfl, rfl⟩ | refine And.intro ?_ ?_)), ?_⟩
                conv => whnf
                skip
                by_cases b5 : cmpP (l.getD (i - 1) []) (l.getD i []) < 0
                · rw [show decide (cmpP (l.getD (i - 1) []) (l.getD i []) ≥ 0) = false from decide_eq_false (by omega)]
                  conv => whnf
                  repeat (refine ⟨_, wAdd1 (by omega), ?_⟩; conv => whnf)
                  refine ⟨⟨i + 1, by omega, hnext (by rw [okC, b1, decide_eq_false b2, b3, decide_eq_false b4, decide_eq_true b5]; rfl)⟩, [], by dsimp only; omega, ?_⟩
                  conv => whnf
                  repeat' (first | exact rfl | exact trivial | exact ⟨_, rfl⟩ | exact ⟨rfl, rfl, rfl⟩ | refine And.intro ?_ ?_)
                · rw [show decide (cmpP (l.getD (i - 1) []) (l.getD i []) ≥ 0) = true from decide_eq_true (by omega), hbad (by rw [okC, decide_eq_false b4, decide_eq_false b5, Bool.or_false, Bool.and_false])]
                  conv => whnf
                  skip
                  repeat' (first | exact rfl | exact trivial | exact ⟨_, rfl⟩ | exact ⟨rfl, rfl, rfl⟩ | refine And.intro ?_ ?_)
      · have h : l.length ≤ i := by first | simpa [-List.getD_eq_getElem?_getD] using h | (simp [-List.getD_eq_getElem?_getD] at h; omega)
        have hv : lstV n l = true := by
          rw [lstV, decide_eq_true (by omega), Bool.true_and, List.all_eq_true]
          intro j hm
          exact hj j (by have := List.mem_range.1 hm; omega)
        rw [hv]
        conv => whnf
        repeat' (first | exact rfl | exact trivial | exact ⟨_, rfl⟩ | exact ⟨rfl, rfl, rfl⟩ | refine And.intro ?_ ?_)
def coreV (n : Nat) (es ds : List Pl) : Bool := decide (1 ≤ n) && decide (n ≤ 4) && lstV n es && lstV n ds && !ds.any fun p => degP p == 0
theorem valid1_spec (p : Pl) (hm : Pm p) : FSpec Tryz.prog 54 [encP p] (.v (.bool (degP p == 0))) := by
  refine FSpec.intro ok [] Tryz.func54 rfl rfl (m := 5) rfl ?_
  conv => whnf
  skip
  refine ⟨_, _, pdegree_spec p hm, SubL.le (by repeat' (first | exact rfl | exact trivial | exact ⟨_, rfl⟩ | exact ⟨rfl, rfl, rfl⟩ | refine And.intro ?_ ?_)), ?_⟩
  conv => whnf
  repeat' (first | exact rfl | exact trivial | exact ⟨_, rfl⟩ | exact ⟨rfl, rfl, rfl⟩ | refine And.intro ?_ ?_)
theorem cvalid_spec (n : Nat) (es ds : List Pl) (hn : n ≤ 1000000) (he : es.length ≤ 1000000) (hd : ds.length ≤ 1000000) (hke : ∀ p ∈ es, Nk p) (hkd : ∀ p ∈ ds, Nk p) :
    FSpec Tryz.prog 15 [sysC n es ds] (.v (.bool (coreV n es ds))) := by
  have c1 := clist_spec n es he hke
  have c2 := clist_spec n ds hd hkd
  have c3 := contains0_spec ds (fun p => degP p == 0) 54 hd (fun p hp => valid1_spec p (hkd p hp).n.m)
  unfold coreV
  refine FSpec.intro ok [] Tryz.func15 rfl rfl (m := 32) rfl ?_
  conv => whnf
  repeat ((first | refine ⟨_, (rfl : (_ : List C)[_]? = some _), ?_⟩ | refine And.intro (by decide : (_ : Nat) ≠ 0) ?_ | refine ⟨by first | decide | exact Nat.le_refl _, _, rfl, ?_⟩); conv => whnf)
  by_cases b1 : 1 ≤ n
  · rw [show decide ((n : Int) ≥ 1) = true from decide_eq_true (by omega), decide_eq_true b1]
    conv => whnf
    repeat ((first | refine ⟨_, (rfl : (_ : List C)[_]? = some _), ?_⟩ | refine And.intro (by decide : (_ : Nat) ≠ 0) ?_); conv => whnf)
    by_cases b2 : n ≤ 4
    · rw [show decide ((n : Int) ≤ 4) = true from decide_eq_true (by omega), decide_eq_true b2]
      conv => whnf
      repeat ((first | refine ⟨_, (rfl : (_ : List C)[_]? = some _), ?_⟩ | refine And.intro (by decide : (_ : Nat) ≠ 0) ?_ | refine ⟨_, rfl, rfl, ?_⟩); conv => whnf)
      refine ⟨_, _, c1, SubL.le (by repeat' (first | exact rfl | exact trivial | exact ⟨_, rfl⟩ | exact ⟨rfl, rfl, rfl⟩ | refine And.intro ?_ ?_)), ?_⟩
      conv => whnf
      cases lstV n es with
      | false =>
        conv => whnf
        skip
        repeat' (first | exact rfl | exact trivial | exact ⟨_, rfl⟩ | exact ⟨rfl, rfl, rfl⟩ | refine And.intro ?_ ?_)
      | true =>
        conv => whnf
        repeat ((first | refine ⟨_, (rfl : (_ : List C)[_]? = some _), ?_⟩ | refine And.intro (by decide : (_ : Nat) ≠ 0) ?_ | refine ⟨_, rfl, rfl, ?_⟩); conv => whnf)
        refine ⟨_, _, c2, SubL.le (by repeat' (first | exact rfl | exact trivial | exact ⟨_, rfl⟩ | exact ⟨rfl, rfl, rfl⟩ | refine And.intro ?_ ?_)), ?_⟩
        conv => whnf
        cases lstV n ds with
        | false =>
          conv => whnf
          skip
          repeat' (first | exact rfl | exact trivial | exact ⟨_, rfl⟩ | exact ⟨rfl, rfl, rfl⟩ | refine And.intro ?_ ?_)
        | true =>
          conv => whnf
          repeat ((first | refine ⟨_, (rfl : (_ : List C)[_]? = some _), ?_⟩ | refine And.intro (by decide : (_ : Nat) ≠ 0) ?_); conv => whnf)
          refine ⟨_, _, c3, SubL.le (by repeat' (first | exact rfl | exact trivial | exact ⟨_, rfl⟩ | exact ⟨rfl, rfl, rfl⟩ | refine And.intro ?_ ?_)), ?_⟩
          conv => whnf
          skip
          repeat' (first | exact rfl | exact trivial | exact ⟨_, rfl⟩ | exact ⟨rfl, rfl, rfl⟩ | refine And.intro ?_ ?_)
    · rw [show decide ((n : Int) ≤ 4) = false from decide_eq_false (by omega), decide_eq_false b2]
      conv => whnf
      skip
      repeat' (first | exact rfl | exact trivial | exact ⟨_, rfl⟩ | exact ⟨rfl, rfl, rfl⟩ | refine And.intro ?_ ?_)
  · rw [show decide ((n : Int) ≥ 1) = false from decide_eq_false (by omega), decide_eq_false b1]
    conv => whnf
    skip
    repeat' (first | exact rfl | exact trivial | exact ⟨_, rfl⟩ | exact ⟨rfl, rfl, rfl⟩ | refine And.intro ?_ ?_)
end Go.Proofs.YtbhnankggcfndaaGreat
namespace Go.Proofs.YtbhnankggcfndaaGreat
open El
set_option maxRecDepth 10000
set_option maxHeartbeats 4000000
def keyB (n : Nat) (es ds : List Pl) : ByteArray := if coreV n es ds = true then ⟨(coreB n es ds).toArray⟩ else .empty
theorem key_spec (n : Nat) (es ds : List Pl) (hn : n ≤ 1000000) (he : es.length ≤ 1000000) (hd : ds.length ≤ 1000000) (hke : ∀ p ∈ es, Nk p) (hkd : ∀ p ∈ ds, Nk p) (hl : (coreB n es ds).length ≤ 1000000000000) :
    FSpec Tryz.prog 57 [sysC n es ds] (.v (.string (keyB n es ds))) := by
  unfold keyB
  refine FSpec.intro ok [(4, ([], some [3])), (5, ([300], none))] Tryz.func57 rfl rfl (m := 12) rfl ?_
  conv => whnf
  repeat (refine ⟨_, rfl, rfl, ?_⟩; conv => whnf)
  refine ⟨_, _, cvalid_spec n es ds hn he hd hke hkd, SubL.le (by repeat' (first | exact rfl | exact trivial | exact ⟨_, rfl⟩ | exact ⟨rfl, rfl, rfl⟩ | refine And.intro ?_ ?_)), ?_⟩
  conv => whnf
  cases coreV n es ds with
  | false =>
    conv => whnf
    skip
    repeat' (first | exact rfl | exact trivial | exact ⟨_, rfl⟩ | exact ⟨rfl, rfl, rfl⟩ | refine And.intro ?_ ?_)
  | true =>
    conv => whnf
    repeat (refine ⟨_, rfl, rfl, ?_⟩; conv => whnf)
    refine ⟨_, _, _, _, _, core_g 3 1001 1002 300 (by decide) n es ds hn he hd (fun p hp => (hke p hp).n.m) (fun p hp => (hkd p hp).n.m) hl, ?_, ?_, bchk_iff.2 ⟨rfl, ?_⟩⟩
    · repeat' (first | exact rfl | exact trivial | exact ⟨_, rfl⟩ | exact ⟨rfl, rfl, rfl⟩ | refine And.intro ?_ ?_)
    · repeat' (first | exact rfl | exact trivial | exact ⟨_, rfl⟩ | exact ⟨rfl, rfl, rfl⟩ | refine And.intro ?_ ?_)
    conv => whnf
    skip
    refine ⟨(by repeat' (first | exact rfl | exact trivial | refine And.intro ?_ ?_)), (by repeat' (first | exact rfl | exact trivial | refine And.intro ?_ ?_)), ?_⟩
    conv => whnf
    repeat ((first | refine ⟨_, (rfl : (_ : List C)[_]? = some _), ?_⟩ | refine And.intro (by decide : (_ : Nat) ≠ 0) ?_); conv => whnf)
    refine ⟨coreB n es ds, rfl, ?_⟩
    conv => whnf
    skip
    repeat' (first | exact rfl | exact trivial | exact ⟨_, rfl⟩ | exact ⟨rfl, rfl, rfl⟩ | refine And.intro ?_ ?_)
end Go.Proofs.YtbhnankggcfndaaGreat
namespace Go.Proofs.YtbhnankggcfndaaGreat
open El
set_option maxRecDepth 10000
set_option maxHeartbeats 4000000
theorem peach_spec (pm : Mo) (hpm : PermOk pm) (l : List Pl) (hl : l.length ≤ 1000) (hk : ∀ p ∈ l, Pk pm p) :
    FSpec Tryz.prog 104 [encL l, .cel 44 (mc pm)] (encL (l.map (permP pm))) := by
  refine FSpec.intro ok [] Tryz.func104 rfl rfl (m := 25) rfl ?_
  conv => whnf
  skip
  refine ⟨{ q : Nat × List Pl // q.1 ≤ l.length ∧ q.2 = (l.take q.1).map (permP pm) }, fun q_ => match q_ with | ⟨(i, out), _⟩ => ⟨[(4, .own 100 65 1 out.length), (11, .v (.int .i64 i))], [(100, .row 65 1 out.length (out.map encP))]⟩, ⟨[false, false, false, false, true, false, true, true, true, false, false, true, true, true, true, true, true, true, true, true, true, true, true, true, true, true], [], [100]⟩, fun q_ => match q_ with | ⟨(i, out), _⟩ => l.length - i, ⟨⟨(0, []), Nat.zero_le _, rfl⟩, [(100, none)], ?_⟩, ?_⟩
  · conv => whnf
    repeat' (first | exact rfl | exact trivial | exact ⟨_, rfl⟩ | exact ⟨rfl, rfl, rfl⟩ | refine And.intro ?_ ?_)
  · rintro ⟨⟨i, out⟩, hi, ho⟩
    simp only at hi ho
    have hol : out.length ≤ 1000 := by rw [ho, List.length_map, List.length_take]; omega
    conv => whnf
    refine bcase_intro (fun h => ?_) (fun h => ?_)
    · have h : i < l.length := by first | simpa [-List.getD_eq_getElem?_getD] using h | (simp [-List.getD_eq_getElem?_getD] at h; omega)
      have hm : l.getD i [] ∈ l := by rw [List.getD_eq_getElem?_getD, List.getElem?_eq_getElem h]; exact List.getElem_mem _
      have e1 : out ++ [permP pm (l.getD i [])] = (l.take (i + 1)).map (permP pm) := by
        rw [ho, take_snoc [] h, List.map_append]; rfl
      conv => whnf
      repeat ((first | refine ⟨_, lt_P h, ?_⟩ | refine ⟨_, ⟨rfl, by omega⟩, ?_⟩ | refine ⟨_, rfl, rfl, ?_⟩); conv => whnf)
      refine ⟨_, _, permute_spec pm hpm _ (hk _ hm), SubL.le (by repeat' (first | exact rfl | exact trivial | exact ⟨_, rfl⟩ | exact ⟨rfl, rfl, rfl⟩ | refine And.intro ?_ ?_)), ?_⟩
      conv => whnf
      repeat (refine ⟨_, (rfl : (_ : List C)[_]? = some _), ?_⟩; conv => whnf)
      refine ⟨rfl, ?_⟩
      conv => whnf
      refine ⟨rfl, ?_⟩
      conv => whnf
      refine ⟨rfl, ?_⟩
      conv => whnf
      refine ⟨⟨by show _ * 24 ≤ _; omega, by omega⟩, (out ++ [permP pm (l.getD i [])]).map encP, (out ++ [permP pm (l.getD i [])]).length, ⟨by rw [List.map_append]; rfl, by simp⟩, ?_⟩
      conv => whnf
      repeat (refine ⟨_, wAdd1 (by omega), ?_⟩; conv => whnf)
      refine ⟨⟨(i + 1, out ++ [permP pm (l.getD i [])]), by simp only; omega, e1⟩, [(100, some 24)], by dsimp only; omega, ?_⟩
      conv => whnf
      repeat' (first | exact rfl | exact trivial | exact ⟨_, rfl⟩ | exact ⟨rfl, rfl, rfl⟩ | refine And.intro ?_ ?_)
    · have h : l.length ≤ i := by first | simpa [-List.getD_eq_getElem?_getD] using h | (simp [-List.getD_eq_getElem?_getD] at h; omega)
      rw [List.take_of_length_le h] at ho
      rw [← ho]
      conv => whnf
      skip
      refine ⟨[100], ?_⟩
      conv => whnf
      repeat' (first | exact rfl | exact trivial | exact ⟨_, rfl⟩ | exact ⟨rfl, rfl, rfl⟩ | refine And.intro ?_ ?_)
/-- The permuted core is one. -/
structure Ck (n : Nat) (pm : Mo) (es ds : List Pl) : Prop where
  nn : n ≤ 1000000
  pk : PermOk pm
  el : es.length ≤ 1000
  dl : ds.length ≤ 1000
  pe : ∀ p ∈ es, Pk pm p
  pd : ∀ p ∈ ds, Pk pm p
  ne : ∀ p ∈ es, Nk (permP pm p)
  nd : ∀ p ∈ ds, Nk (permP pm p)
  ok : badS n (es.map (permP pm)) (ds.map (permP pm)) = false
  e12 : (eqsN (es.map (permP pm)) (ds.map (permP pm))).length ≤ 12
  d12 : (neqsN (ds.map (permP pm))).length ≤ 12
def pE (pm : Mo) (es ds : List Pl) : List Pl := eqsN (es.map (permP pm)) (ds.map (permP pm))
def pD (pm : Mo) (ds : List Pl) : List Pl := neqsN (ds.map (permP pm))
theorem normR_ok {n : Nat} {es ds : List Pl} (h : badS n es ds = false) (h1 : (eqsN es ds).length ≤ 12) (h2 : (neqsN ds).length ≤ 12) : normR n es ds = .tup [sysC n (eqsN es ds) (neqsN ds), .v (.int .i64 0)] := by
  rw [normR, if_neg (by rw [h]; decide), if_neg (by omega)]
theorem permuted_spec (n : Nat) (pm : Mo) (es ds : List Pl) (h : Ck n pm es ds) :
    FSpec Tryz.prog 56 [sysC n es ds, .agg (mc pm)] (sysC n (pE pm es ds) (pD pm ds)) := by
  have hel := h.el
  have hdl := h.dl
  have hN := sysnormal_spec n (es.map (permP pm)) (ds.map (permP pm)) h.nn (by rw [List.length_map]; exact h.el) (by rw [List.length_map]; exact h.dl)
    (fun p hp => by obtain ⟨q, hq, rfl⟩ := List.mem_map.1 hp; exact h.ne q hq) (fun p hp => by obtain ⟨q, hq, rfl⟩ := List.mem_map.1 hp; exact h.nd q hq)
  rw [normR_ok h.ok h.e12 h.d12] at hN
  have h1 := peach_spec pm h.pk es h.el h.pe
  have h2 := peach_spec pm h.pk ds h.dl h.pd
  refine FSpec.intro ok [(1, ([3], none))] Tryz.func56 rfl rfl (m := 22) rfl ?_
  conv => whnf
  skip
  refine ⟨(by repeat' (first | exact rfl | exact trivial | refine And.intro ?_ ?_)), (by repeat' (first | exact rfl | exact trivial | refine And.intro ?_ ?_)), ?_⟩
  conv => whnf
  skip
  refine anyC [] [6] (by decide +kernel) ?_
  conv => whnf
  repeat ((first | refine ⟨_, (rfl : (_ : List C)[_]? = some _), ?_⟩ | refine And.intro (by decide : (_ : Nat) ≠ 0) ?_); conv => whnf)
  refine ⟨_, _, h1, SubL.le (by repeat' (first | exact rfl | exact trivial | exact ⟨_, rfl⟩ | exact ⟨rfl, rfl, rfl⟩ | refine And.intro ?_ ?_)), ?_⟩
  conv => whnf
  repeat ((first | refine ⟨_, (rfl : (_ : List C)[_]? = some _), ?_⟩ | refine And.intro (by decide : (_ : Nat) ≠ 0) ?_); conv => whnf)
  refine ⟨_, _, h2, SubL.le (by repeat' (first | exact rfl | exact trivial | exact ⟨_, rfl⟩ | exact ⟨rfl, rfl, rfl⟩ | refine And.intro ?_ ?_)), ?_⟩
  conv => whnf
  skip
  refine ⟨_, _, hN, SubL.le (by repeat' (first | exact rfl | exact trivial | exact ⟨_, rfl⟩ | exact ⟨rfl, rfl, rfl⟩ | refine And.intro ?_ ?_)), ?_⟩
  conv => whnf
  repeat ((first | refine ⟨_, (rfl : (_ : List C)[_]? = some _), ?_⟩ | refine ⟨by first | decide | exact Nat.le_refl _, _, rfl, ?_⟩ | refine ⟨_, rfl, rfl, ?_⟩); conv => whnf)
  repeat' (first | exact rfl | exact trivial | exact ⟨_, rfl⟩ | exact ⟨rfl, rfl, rfl⟩ | refine And.intro ?_ ?_)
end Go.Proofs.YtbhnankggcfndaaGreat
namespace Go.Proofs.YtbhnankggcfndaaGreat
open El Go.Shelf Go.Sort
set_option linter.unusedSimpArgs false
set_option maxRecDepth 10000
set_option maxHeartbeats 4000000
theorem polys_spec (l : List En) (hl : l.length ≤ 1000) : FSpec Tryz.prog 60 [encEs l] (encL (l.map (·.2))) := by
  refine FSpec.intro ok [] Tryz.func60 rfl rfl (m := 18) rfl ?_
  conv => whnf
  skip
  refine ⟨{ q : Nat × List Pl // q.1 ≤ l.length ∧ q.2 = (l.take q.1).map (·.2) }, fun q_ => match q_ with | ⟨(i, out), _⟩ => ⟨[(3, .own 100 65 1 out.length), (8, .v (.int .i64 i))], [(100, .row 65 1 out.length (out.map encP))]⟩, ⟨[false, false, false, true, false, true, false, false, true, true, true, true, true, true, true, true, true, true], [], [100]⟩, fun q_ => match q_ with | ⟨(i, out), _⟩ => l.length - i, ⟨⟨(0, []), Nat.zero_le _, rfl⟩, [(100, none)], ?_⟩, ?_⟩
  · conv => whnf
    repeat' (first | exact rfl | exact trivial | exact ⟨_, rfl⟩ | exact ⟨rfl, rfl, rfl⟩ | refine And.intro ?_ ?_)
  · rintro ⟨⟨i, out⟩, hi, ho⟩
    simp only at hi ho
    have hol : out.length ≤ 1000 := by rw [ho, List.length_map, List.length_take]; omega
    conv => whnf
    refine bcase_intro (fun h => ?_) (fun h => ?_)
    · have h : i < l.length := by first | simpa [-List.getD_eq_getElem?_getD] using h | (simp [-List.getD_eq_getElem?_getD] at h; omega)
      have e1 : out ++ [(l.getD i (0, [])).2] = (l.take (i + 1)).map (·.2) := by
        rw [ho, take_snoc (0, []) h, List.map_append]; rfl
      have hT := le_T h
      conv => whnf
      repeat ((first | refine ⟨_, hT, rfl, ?_⟩ | refine ⟨_, ⟨rfl, by omega⟩, ?_⟩ | refine ⟨_, (rfl : (_ : List C)[_]? = some _), ?_⟩ | refine And.intro (by decide : (_ : Nat) ≠ 0) ?_ | refine ⟨by first | decide | exact Nat.le_refl _, _, rfl, ?_⟩); conv => whnf)
      refine ⟨rfl, ?_⟩
      conv => whnf
      refine ⟨rfl, ?_⟩
      conv => whnf
      refine ⟨rfl, ?_⟩
      conv => whnf
      refine ⟨⟨by show _ * 24 ≤ _; omega, by omega⟩, (out ++ [(l.getD i (0, [])).2]).map encP, (out ++ [(l.getD i (0, [])).2]).length, ⟨by rw [List.map_append]; rfl, by simp⟩, ?_⟩
      conv => whnf
      repeat (refine ⟨_, wAdd1 (by omega), ?_⟩; conv => whnf)
      refine ⟨⟨(i + 1, out ++ [(l.getD i (0, [])).2]), by simp only; omega, e1⟩, [(100, some 16)], by dsimp only; omega, ?_⟩
      conv => whnf
      repeat' (first | exact rfl | exact trivial | exact ⟨_, rfl⟩ | exact ⟨rfl, rfl, rfl⟩ | refine And.intro ?_ ?_)
    · have h : l.length ≤ i := by first | simpa [-List.getD_eq_getElem?_getD] using h | (simp [-List.getD_eq_getElem?_getD] at h; omega)
      rw [List.take_of_length_le h] at ho
      rw [← ho]
      conv => whnf
      skip
      refine ⟨[100], ?_⟩
      conv => whnf
      repeat' (first | exact rfl | exact trivial | exact ⟨_, rfl⟩ | exact ⟨rfl, rfl, rfl⟩ | refine And.intro ?_ ?_)
def coreR (s : Sy) : C := if validS s = true then normR (max 1 s.vars.length) (s.eqs.map (·.2)) (s.neqs.map (·.2)) else .tup [zeroS, .v (.int .i64 320)]
theorem normR_cases (n : Nat) (es ds : List Pl) : normR n es ds = .tup [zeroS, .v (.int .i64 1)] ∨ normR n es ds = .tup [zeroS, .v (.int .i64 2)] ∨ normR n es ds = .tup [sysC n (eqsN es ds) (neqsN ds), .v (.int .i64 0)] := by
  unfold normR
  split
  · exact .inl rfl
  · split
    · exact .inr (.inl rfl)
    · exact .inr (.inr rfl)
theorem syscore_spec (s : Sy) (h : Sk s) (he : ∀ q ∈ s.eqs, Nk q.2) (hd : ∀ q ∈ s.neqs, Nk q.2) : FSpec Tryz.prog 21 [encS s] (coreR s) := by
  have hv := h.v
  cases hb : validS s with
  | false =>
    rw [coreR, hb, if_neg (by decide)]
    refine FSpec.intro ok [] Tryz.func21 rfl rfl (m := 20) rfl ?_
    conv => whnf
    repeat (refine ⟨_, rfl, rfl, ?_⟩; conv => whnf)
    refine ⟨_, _, sysvalid_spec s h, SubL.le (by repeat' (first | exact rfl | exact trivial | exact ⟨_, rfl⟩ | exact ⟨rfl, rfl, rfl⟩ | refine And.intro ?_ ?_)), ?_⟩
    conv => whnf
    rw [hb]
    conv => whnf
    repeat ((first | refine ⟨by first | decide | exact Nat.le_refl _, _, rfl, ?_⟩ | refine ⟨_, rfl, rfl, ?_⟩); conv => whnf)
    repeat' (first | exact rfl | exact trivial | exact ⟨_, rfl⟩ | exact ⟨rfl, rfl, rfl⟩ | refine And.intro ?_ ?_)
  | true =>
    rw [coreR, hb, if_pos rfl]
    have hN := sysnormal_spec (max 1 s.vars.length) (s.eqs.map (·.2)) (s.neqs.map (·.2)) (by omega) (by rw [List.length_map]; exact h.e) (by rw [List.length_map]; exact h.d)
      (fun p hp => by obtain ⟨q, hq, rfl⟩ := List.mem_map.1 hp; exact he q hq) (fun p hp => by obtain ⟨q, hq, rfl⟩ := List.mem_map.1 hp; exact hd q hq)
    rcases normR_cases (max 1 s.vars.length) (s.eqs.map (·.2)) (s.neqs.map (·.2)) with e | e | e
    all_goals
      rw [e] at hN ⊢
      refine FSpec.intro ok [] Tryz.func21 rfl rfl (m := 20) rfl ?_
      conv => whnf
      repeat (refine ⟨_, rfl, rfl, ?_⟩; conv => whnf)
      refine ⟨_, _, sysvalid_spec s h, SubL.le (by repeat' (first | exact rfl | exact trivial | exact ⟨_, rfl⟩ | exact ⟨rfl, rfl, rfl⟩ | refine And.intro ?_ ?_)), ?_⟩
      conv => whnf
      rw [hb]
      conv => whnf
      repeat ((first | refine ⟨_, (rfl : (_ : List C)[_]? = some _), ?_⟩ | refine And.intro (by decide : (_ : Nat) ≠ 0) ?_ | refine anyA (by decide +kernel) ?_); conv => whnf)
      refine ⟨((max 1 s.vars.length : Nat) : Int), by rw [if_pos rfl]; split <;> omega, ?_⟩
      conv => whnf
      repeat ((first | refine ⟨_, (rfl : (_ : List C)[_]? = some _), ?_⟩ | refine And.intro (by decide : (_ : Nat) ≠ 0) ?_); conv => whnf)
      refine ⟨_, _, polys_spec s.eqs h.e, SubL.le (by repeat' (first | exact rfl | exact trivial | exact ⟨_, rfl⟩ | exact ⟨rfl, rfl, rfl⟩ | refine And.intro ?_ ?_)), ?_⟩
      conv => whnf
      repeat ((first | refine ⟨_, (rfl : (_ : List C)[_]? = some _), ?_⟩ | refine And.intro (by decide : (_ : Nat) ≠ 0) ?_); conv => whnf)
      refine ⟨_, _, polys_spec s.neqs h.d, SubL.le (by repeat' (first | exact rfl | exact trivial | exact ⟨_, rfl⟩ | exact ⟨rfl, rfl, rfl⟩ | refine And.intro ?_ ?_)), ?_⟩
      conv => whnf
      skip
      refine ⟨_, _, hN, SubL.le (by repeat' (first | exact rfl | exact trivial | exact ⟨_, rfl⟩ | exact ⟨rfl, rfl, rfl⟩ | refine And.intro ?_ ?_)), ?_⟩
      conv => whnf
      repeat ((first | refine ⟨_, (rfl : (_ : List C)[_]? = some _), ?_⟩ | refine ⟨by first | decide | exact Nat.le_refl _, _, rfl, ?_⟩ | refine ⟨_, rfl, rfl, ?_⟩); conv => whnf)
      repeat' (first | exact rfl | exact trivial | exact ⟨_, rfl⟩ | exact ⟨rfl, rfl, rfl⟩ | refine And.intro ?_ ?_)
theorem bytes_beq (a b : ByteArray) : (a.toList == b.toList) = decide (a = b) := by
  rw [ByteArray.toList_eq, ByteArray.toList_eq]
  by_cases e : a = b
  · subst e; simp
  · rw [decide_eq_false e]
    cases h : (a.data.toList == b.data.toList) with
    | false => rfl
    | true =>
      exfalso
      have h2 := eq_of_beq h
      have h3 : a.data = b.data := by
        have := congrArg List.toArray h2
        simpa using this
      exact e (by cases a; cases b; exact congrArg ByteArray.mk h3)
end Go.Proofs.YtbhnankggcfndaaGreat
