/- Words of my own, joined: part 3. -/
import Derived.Test.YtbhnankggcfndaaGreatFa2
import Derived.DeepKeys5
import Derived.KernelRfl
namespace Go.Proofs.YtbhnankggcfndaaGreat
open El
set_option maxRecDepth 10000
set_option maxHeartbeats 1000000
/-- The cells of an integer, and of a quotient. -/
def ic (z : Int) : List C := [.v (.bool (decide (z < 0))), encN (limbs z.natAbs)]
def rc (n d : Int) : List C := [.v (.bool (decide (n < 0))), encN (limbs n.natAbs), .v (.bool (decide (d < 0))), encN (limbs d.natAbs)]
def encR (n d : Int) : C := .agg (rc n d)
def encQ (q : Rat) : C := .agg (rc q.num q.den)
/-- The bound of numerators and denominators. -/
def Bd : Nat := 32768
def Qs (q : Rat) : Prop := q.num.natAbs < Bd ∧ q.den < Bd
/-- Small enough for whatever is done. -/
def Sm (n : Nat) : Prop := n < 18446744073709551616
theorem Sm.len {n : Nat} (h : Sm n) : (limbs n).length ≤ 999999999 := Nat.le_trans (limbs_len_le (k := 2) (show n < 4294967296 ^ 2 by unfold Sm at h; omega)) (by decide)
theorem Sm.sz {n : Nat} (h : Sm n) : (limbs n).length ≤ 1000000000 := Nat.le_trans h.len (by decide)
theorem Kn.sm {n : Nat} (h : Kn n) : Sm n := by unfold Kn at h; unfold Sm; omega
theorem bd_kn {a : Nat} (h : a < Bd) : Kn a := by unfold Bd at h; unfold Kn; omega
theorem bd_mul {a b : Nat} (ha : a < Bd) (hb : b < Bd) : Kn (a * b) := by
  have := Nat.mul_lt_mul'' ha hb
  unfold Bd at this; unfold Kn; omega
theorem bd_mul_int {a b : Int} (ha : a.natAbs < Bd) (hb : b.natAbs < Bd) : Kn (a * b).natAbs := by rw [Int.natAbs_mul]; exact bd_mul ha hb
theorem sm_add_int {a b : Int} (ha : Kn a.natAbs) (hb : Kn b.natAbs) : Sm (a + b).natAbs := by unfold Kn at *; unfold Sm; omega
theorem Sm.mono {a b : Nat} (h : a ≤ b) (hb : Sm b) : Sm a := Nat.lt_of_le_of_lt h hb
/-- An element of a list whose cells lie one behind the other. -/
theorem flat_take {α β : Type} {f : α → List β} {k : Nat} (hk : ∀ x, (f x).length = k) (d : α) : ∀ (l : List α) (i : Nat), i < l.length → List.take k (List.drop (i * k) (l.map f).flatten) = f (l.getD i d)
  | [], i, h => by simp at h
  | x :: l, 0, _ => by
    simp only [List.map_cons, List.flatten_cons, Nat.zero_mul, List.drop_zero]
    rw [List.take_append_of_le_length (by rw [hk]; omega), List.take_of_length_le (by rw [hk]; omega)]
    rfl
  | x :: l, i + 1, h => by
    simp only [List.map_cons, List.flatten_cons]
    rw [Nat.succ_mul, Nat.add_comm, ← List.drop_drop]
    have : List.drop k (f x ++ (List.map f l).flatten) = (List.map f l).flatten := by
      have := List.drop_left (l₁ := f x) (l₂ := (List.map f l).flatten)
      rwa [hk] at this
    rw [this, flat_take hk d l i (by simpa using h)]
    rfl
theorem flat_len {α β : Type} {f : α → List β} {k : Nat} (hk : ∀ x, (f x).length = k) : ∀ (l : List α), (l.map f).flatten.length = l.length * k
  | [] => by simp
  | x :: l => by simp only [List.map_cons, List.flatten_cons, List.length_append, hk, flat_len hk l, List.length_cons, Nat.succ_mul]; omega
theorem divInt_parts (n d : Int) (hd : d ≠ 0) : (Rat.divInt n d).num = n / (if d < 0 then -(Int.gcd n d : Int) else (Int.gcd n d : Int)) ∧ ((Rat.divInt n d).den : Int) = d / (if d < 0 then -(Int.gcd n d : Int) else (Int.gcd n d : Int)) := by
  have hg : (0 : Int) < Int.gcd n d := by
    have := Int.gcd_pos_of_ne_zero_right n hd
    omega
  have h1 : (Int.gcd n d : Int) ∣ n := Int.gcd_dvd_left ..
  have h2 : (Int.gcd n d : Int) ∣ d := Int.gcd_dvd_right ..
  have h3 : ((d.natAbs / Int.gcd n d : Nat) : Int) = (d.natAbs : Int) / (Int.gcd n d : Int) := by simp
  rw [Rat.num_divInt, Rat.den_divInt, if_neg hd, Int.gcd_comm d n, h3]
  by_cases h : d < 0
  · rw [if_pos h, Int.sign_eq_neg_one_of_neg h, Int.ediv_neg, Int.ediv_neg, Int.neg_one_mul, Int.neg_ediv_of_dvd h1, show (d.natAbs : Int) = -d by omega, Int.neg_ediv_of_dvd h2]
    exact ⟨rfl, rfl⟩
  · rw [if_neg h, Int.sign_eq_one_of_pos (by omega), Int.one_mul, show (d.natAbs : Int) = d by omega]
    exact ⟨rfl, rfl⟩
theorem ic_len (z : Int) : (ic z).length = 2 := rfl
theorem prod_sm {l : List Int} (hl : l.length ≤ 2) (hs : ∀ z ∈ l, Sm z.natAbs) {i : Nat} (h : i < l.length) : Sm ((l.take i).foldl (· * ·) 1).natAbs ∧ Sm (l.getD i 0).natAbs := by
  match l, i with
  | [a], 0 => exact ⟨by unfold Sm; simp, hs a (by simp)⟩
  | [a, b], 0 => exact ⟨by unfold Sm; simp, hs a (by simp)⟩
  | [a, b], 1 => exact ⟨by simpa using hs a (by simp), hs b (by simp)⟩
theorem foldl_take {l : List Int} {i : Nat} (h : i < l.length) : (l.take (i + 1)).foldl (· * ·) 1 = (l.take i).foldl (· * ·) 1 * l.getD i 0 := by
  rw [List.take_succ_eq_append_getElem h, List.foldl_append, List.getD_eq_getElem?_getD, List.getElem?_eq_getElem h]
  rfl
theorem product_spec (l : List Int) (hl : l.length ≤ 2) (hs : ∀ z ∈ l, Sm z.natAbs) : FSpec Tryz.prog 165 [.sl 57 2 l.length false (l.map ic).flatten] (encI (l.foldl (· * ·) 1)) := by
  refine FSpec.intro ok [] Tryz.func165 rfl rfl (m := 17) rfl ?_
  conv => whnf
  refine ⟨_, _, of_spec 1 (by decide) (by decide), SubL.le (by repeat' (first | exact rfl | exact trivial | exact ⟨_, rfl⟩ | exact ⟨rfl, rfl, rfl⟩ | refine And.intro ?_ ?_)), ?_⟩
  conv => whnf
  repeat (refine ⟨by first | decide | exact Nat.le_refl _, _, rfl, ?_⟩; conv => whnf)
  refine ⟨{ i : Nat // i ≤ l.length }, fun q_ => match q_ with | ⟨i, _⟩ => ⟨[(9, .v (.int .i64 i))], [(3, .cells 57 0 (ic ((l.take i).foldl (· * ·) 1)))]⟩, ⟨[false, false, false, false, false, true, false, false, false, true, true, true, true, true, true, true, true], [2], []⟩, fun q_ => match q_ with | ⟨i, _⟩ => l.length - i, ⟨⟨0, Nat.zero_le _⟩, [], ?_⟩, ?_⟩
  · conv => whnf
    repeat' (first | exact rfl | exact trivial | exact ⟨_, rfl⟩ | exact ⟨rfl, rfl, rfl⟩ | refine And.intro ?_ ?_)
  · rintro ⟨i, hi⟩
    conv => whnf
    refine bcase_intro (fun h => ?_) (fun h => ?_)
    · have h : i < l.length := by first | simpa [-List.getD_eq_getElem?_getD] using h | (simp [-List.getD_eq_getElem?_getD] at h; omega)
      conv => whnf
      repeat (refine ⟨_, ⟨rfl, by omega⟩, ?_⟩; conv => whnf)
      refine ⟨ic (l.getD i 0), flat_take ic_len 0 l i h, rfl, ?_⟩
      conv => whnf
      repeat ((first | refine ⟨by first | decide | exact Nat.le_refl _, _, rfl, ?_⟩ | refine ⟨_, rfl, rfl, ?_⟩); conv => whnf)
      have hp := prod_sm hl hs h
      refine ⟨_, _, imul_spec ((l.take i).foldl (· * ·) 1) (l.getD i 0) (hp.1.sz) (hp.2.sz), SubL.le (by repeat' (first | exact rfl | exact trivial | exact ⟨_, rfl⟩ | exact ⟨rfl, rfl, rfl⟩ | refine And.intro ?_ ?_)), ?_⟩
      conv => whnf
      repeat ((first | refine ⟨_, wAdd1 (by omega), ?_⟩ | refine ⟨by first | decide | exact Nat.le_refl _, _, rfl, ?_⟩); conv => whnf)
      rw [← foldl_take h]
      refine ⟨⟨i + 1, by omega⟩, [], by dsimp only; omega, ?_⟩
      conv => whnf
      repeat' (first | exact rfl | exact trivial | exact ⟨_, rfl⟩ | exact ⟨rfl, rfl, rfl⟩ | refine And.intro ?_ ?_)
    · have h : l.length ≤ i := by first | simpa [-List.getD_eq_getElem?_getD] using h | (simp [-List.getD_eq_getElem?_getD] at h; omega)
      have hi2 : i = l.length := by omega
      subst hi2
      conv => whnf
      repeat ((first | refine ⟨by first | decide | exact Nat.le_refl _, _, rfl, ?_⟩ | refine ⟨_, rfl, rfl, ?_⟩); conv => whnf)
      rw [List.take_length]
      repeat' (first | exact rfl | exact trivial | exact ⟨_, rfl⟩ | exact ⟨rfl, rfl, rfl⟩ | refine And.intro ?_ ?_)
theorem product1 (a : Int) (ha : Sm a.natAbs) : FSpec Tryz.prog 165 [.sl 57 2 1 false (ic a)] (encI a) := by
  have := product_spec [a] (by simp) (by simpa using ha)
  simpa using this
theorem product2 (a b : Int) (ha : Sm a.natAbs) (hb : Sm b.natAbs) : FSpec Tryz.prog 165 [.sl 57 2 2 false (ic a ++ ic b)] (encI (a * b)) := by
  have := product_spec [a, b] (by simp) (by simpa using ⟨ha, hb⟩)
  simpa using this
theorem lowest_spec (n d : Int) (hn : Sm n.natAbs) (hd : Kn d.natAbs) (h0 : d ≠ 0) : FSpec Tryz.prog 164 [encI n, encI d] (encQ (Rat.divInt n d)) := by
  have hgd : Int.gcd n d ≤ d.natAbs := Nat.gcd_le_right _ (by omega)
  have hg0 : Int.gcd n d ≠ 0 := by have := Int.gcd_pos_of_ne_zero_right n h0; omega
  have hg : Kn (Int.gcd n d) := Kn.mono hgd hd
  obtain ⟨p1, p2⟩ := divInt_parts n d h0
  refine FSpec.intro ok [] Tryz.func164 rfl rfl (m := 29) rfl ?_
  conv => whnf
  repeat (refine ⟨_, rfl, rfl, ?_⟩; conv => whnf)
  refine ⟨_, _, igcd_spec n d hn.sz hd, SubL.le (by repeat' (first | exact rfl | exact trivial | exact ⟨_, rfl⟩ | exact ⟨rfl, rfl, rfl⟩ | refine And.intro ?_ ?_)), ?_⟩
  conv => whnf
  repeat ((first | refine ⟨by first | decide | exact Nat.le_refl _, _, rfl, ?_⟩ | refine ⟨_, rfl, rfl, ?_⟩); conv => whnf)
  refine ⟨_, _, sign_spec d, SubL.le (by repeat' (first | exact rfl | exact trivial | exact ⟨_, rfl⟩ | exact ⟨rfl, rfl, rfl⟩ | refine And.intro ?_ ?_)), ?_⟩
  conv => whnf
  refine bcase_intro (fun h => ?_) (fun h => ?_)
  · have h : d < 0 := by first | simpa [-List.getD_eq_getElem?_getD] using h | (simp [-List.getD_eq_getElem?_getD] at h; omega)
    rw [if_pos h] at p1 p2
    conv => whnf
    repeat (refine ⟨_, rfl, rfl, ?_⟩; conv => whnf)
    refine ⟨_, _, neg_spec ((Int.gcd n d : Nat) : Int) (Nat.le_trans (Kn.sz hg) (by decide)), SubL.le (by repeat' (first | exact rfl | exact trivial | exact ⟨_, rfl⟩ | exact ⟨rfl, rfl, rfl⟩ | refine And.intro ?_ ?_)), ?_⟩
    conv => whnf
    repeat ((first | refine ⟨by first | decide | exact Nat.le_refl _, _, rfl, ?_⟩ | refine ⟨_, rfl, rfl, ?_⟩); conv => whnf)
    refine ⟨_, _, dmod_spec n (-((Int.gcd n d : Nat) : Int)) hn.len (by simpa using hg) (by omega), SubL.le (by repeat' (first | exact rfl | exact trivial | exact ⟨_, rfl⟩ | exact ⟨rfl, rfl, rfl⟩ | refine And.intro ?_ ?_)), ?_⟩
    conv => whnf
    repeat ((first | refine ⟨_, (rfl : (_ : List C)[_]? = some _), ?_⟩ | refine ⟨by first | decide | exact Nat.le_refl _, _, rfl, ?_⟩ | refine ⟨_, rfl, rfl, ?_⟩); conv => whnf)
    refine ⟨_, _, dmod_spec d (-((Int.gcd n d : Nat) : Int)) hd.sm.len (by simpa using hg) (by omega), SubL.le (by repeat' (first | exact rfl | exact trivial | exact ⟨_, rfl⟩ | exact ⟨rfl, rfl, rfl⟩ | refine And.intro ?_ ?_)), ?_⟩
    conv => whnf
    repeat ((first | refine ⟨_, (rfl : (_ : List C)[_]? = some _), ?_⟩ | refine ⟨by first | decide | exact Nat.le_refl _, _, rfl, ?_⟩ | refine ⟨_, rfl, rfl, ?_⟩); conv => whnf)
    rw [← p1, ← p2]
    repeat' (first | exact rfl | exact trivial | exact ⟨_, rfl⟩ | exact ⟨rfl, rfl, rfl⟩ | refine And.intro ?_ ?_)
  · have h : ¬ d < 0 := by first | simpa [-List.getD_eq_getElem?_getD] using h | (simp [-List.getD_eq_getElem?_getD] at h; omega)
    rw [if_neg h] at p1 p2
    conv => whnf
    repeat (refine ⟨_, rfl, rfl, ?_⟩; conv => whnf)
    refine ⟨_, _, dmod_spec n ((Int.gcd n d : Nat) : Int) hn.len (by simpa using hg) (by omega), SubL.le (by repeat' (first | exact rfl | exact trivial | exact ⟨_, rfl⟩ | exact ⟨rfl, rfl, rfl⟩ | refine And.intro ?_ ?_)), ?_⟩
    conv => whnf
    repeat ((first | refine ⟨_, (rfl : (_ : List C)[_]? = some _), ?_⟩ | refine ⟨by first | decide | exact Nat.le_refl _, _, rfl, ?_⟩ | refine ⟨_, rfl, rfl, ?_⟩); conv => whnf)
    refine ⟨_, _, dmod_spec d ((Int.gcd n d : Nat) : Int) hd.sm.len (by simpa using hg) (by omega), SubL.le (by repeat' (first | exact rfl | exact trivial | exact ⟨_, rfl⟩ | exact ⟨rfl, rfl, rfl⟩ | refine And.intro ?_ ?_)), ?_⟩
    conv => whnf
    repeat ((first | refine ⟨_, (rfl : (_ : List C)[_]? = some _), ?_⟩ | refine ⟨by first | decide | exact Nat.le_refl _, _, rfl, ?_⟩ | refine ⟨_, rfl, rfl, ?_⟩); conv => whnf)
    rw [← p1, ← p2]
    repeat' (first | exact rfl | exact trivial | exact ⟨_, rfl⟩ | exact ⟨rfl, rfl, rfl⟩ | refine And.intro ?_ ?_)
theorem Qs.n {q : Rat} (h : Qs q) : Sm q.num.natAbs := (bd_kn h.1).sm
theorem Qs.d {q : Rat} (h : Qs q) : Sm (q.den : Int).natAbs := by simpa using (bd_kn h.2).sm
theorem Qs.dk {q : Rat} (h : Qs q) : Kn (q.den : Int).natAbs := by simpa using bd_kn h.2
theorem qadd_eq (a b : Rat) : Rat.divInt (a.num * b.den + b.num * a.den) (a.den * b.den) = a + b := by
  rw [Rat.add_def', ← Rat.divInt_ofNat]; simp
theorem qmul_eq (a b : Rat) : Rat.divInt (a.num * b.num) (a.den * b.den) = a * b := by
  rw [Rat.mul_def', ← Rat.divInt_ofNat]; simp
theorem den_ne (a b : Rat) : (a.den : Int) * b.den ≠ 0 := by
  have h1 := a.den_nz
  have h2 := b.den_nz
  exact Int.mul_ne_zero (by omega) (by omega)
theorem qadd_spec (a b : Rat) (ha : Qs a) (hb : Qs b) : FSpec Tryz.prog 124 [encQ a, encQ b] (encQ (a + b)) := by
  have k1 : Kn (a.num * b.den).natAbs := bd_mul_int ha.1 (by simpa using hb.2)
  have k2 : Kn (b.num * a.den).natAbs := bd_mul_int hb.1 (by simpa using ha.2)
  have k3 : Kn ((a.den : Int) * b.den).natAbs := bd_mul_int (by simpa using ha.2) (by simpa using hb.2)
  refine FSpec.intro ok [] Tryz.func124 rfl rfl (m := 23) rfl ?_
  conv => whnf
  repeat ((first | refine And.intro (by decide : (_ : Nat) ≠ 0) ?_ | refine anyA (by decide +kernel) ?_ | refine ⟨_, rfl, rfl, ?_⟩); conv => whnf)
  refine ⟨_, _, product2 a.num b.den ha.n hb.d, SubL.le (by repeat' (first | exact rfl | exact trivial | exact ⟨_, rfl⟩ | exact ⟨rfl, rfl, rfl⟩ | refine And.intro ?_ ?_)), ?_⟩
  conv => whnf
  repeat ((first | refine And.intro (by decide : (_ : Nat) ≠ 0) ?_ | refine ⟨_, rfl, rfl, ?_⟩); conv => whnf)
  refine ⟨_, _, product2 b.num a.den hb.n ha.d, SubL.le (by repeat' (first | exact rfl | exact trivial | exact ⟨_, rfl⟩ | exact ⟨rfl, rfl, rfl⟩ | refine And.intro ?_ ?_)), ?_⟩
  conv => whnf
  skip
  refine ⟨_, _, iadd_spec (a.num * b.den) (b.num * a.den) k1.sz k2.sz, SubL.le (by repeat' (first | exact rfl | exact trivial | exact ⟨_, rfl⟩ | exact ⟨rfl, rfl, rfl⟩ | refine And.intro ?_ ?_)), ?_⟩
  conv => whnf
  repeat ((first | refine And.intro (by decide : (_ : Nat) ≠ 0) ?_ | refine ⟨_, rfl, rfl, ?_⟩); conv => whnf)
  refine ⟨_, _, product2 a.den b.den ha.d hb.d, SubL.le (by repeat' (first | exact rfl | exact trivial | exact ⟨_, rfl⟩ | exact ⟨rfl, rfl, rfl⟩ | refine And.intro ?_ ?_)), ?_⟩
  conv => whnf
  refine ⟨_, _, lowest_spec (a.num * b.den + b.num * a.den) (a.den * b.den) (sm_add_int k1 k2) k3 (den_ne a b), SubL.le (by repeat' (first | exact rfl | exact trivial | exact ⟨_, rfl⟩ | exact ⟨rfl, rfl, rfl⟩ | refine And.intro ?_ ?_)), ?_⟩
  conv => whnf
  rw [qadd_eq]
  repeat ((first | refine ⟨by first | decide | exact Nat.le_refl _, _, rfl, ?_⟩ | refine ⟨_, rfl, rfl, ?_⟩); conv => whnf)
  repeat' (first | exact rfl | exact trivial | exact ⟨_, rfl⟩ | exact ⟨rfl, rfl, rfl⟩ | refine And.intro ?_ ?_)
theorem qmul_spec (a b : Rat) (ha : Qs a) (hb : Qs b) : FSpec Tryz.prog 122 [encQ a, encQ b] (encQ (a * b)) := by
  have k1 : Kn (a.num * b.num).natAbs := bd_mul_int ha.1 hb.1
  have k3 : Kn ((a.den : Int) * b.den).natAbs := bd_mul_int (by simpa using ha.2) (by simpa using hb.2)
  refine FSpec.intro ok [] Tryz.func122 rfl rfl (m := 16) rfl ?_
  conv => whnf
  repeat ((first | refine And.intro (by decide : (_ : Nat) ≠ 0) ?_ | refine anyA (by decide +kernel) ?_ | refine ⟨_, rfl, rfl, ?_⟩); conv => whnf)
  refine ⟨_, _, product2 a.num b.num ha.n hb.n, SubL.le (by repeat' (first | exact rfl | exact trivial | exact ⟨_, rfl⟩ | exact ⟨rfl, rfl, rfl⟩ | refine And.intro ?_ ?_)), ?_⟩
  conv => whnf
  repeat ((first | refine And.intro (by decide : (_ : Nat) ≠ 0) ?_ | refine ⟨_, rfl, rfl, ?_⟩); conv => whnf)
  refine ⟨_, _, product2 a.den b.den ha.d hb.d, SubL.le (by repeat' (first | exact rfl | exact trivial | exact ⟨_, rfl⟩ | exact ⟨rfl, rfl, rfl⟩ | refine And.intro ?_ ?_)), ?_⟩
  conv => whnf
  refine ⟨_, _, lowest_spec (a.num * b.num) (a.den * b.den) k1.sm k3 (den_ne a b), SubL.le (by repeat' (first | exact rfl | exact trivial | exact ⟨_, rfl⟩ | exact ⟨rfl, rfl, rfl⟩ | refine And.intro ?_ ?_)), ?_⟩
  conv => whnf
  rw [qmul_eq]
  repeat ((first | refine ⟨by first | decide | exact Nat.le_refl _, _, rfl, ?_⟩ | refine ⟨_, rfl, rfl, ?_⟩); conv => whnf)
  repeat' (first | exact rfl | exact trivial | exact ⟨_, rfl⟩ | exact ⟨rfl, rfl, rfl⟩ | refine And.intro ?_ ?_)
def cmpQ (a b : Rat) : Int := if a < b then -1 else if b < a then 1 else 0
theorem cmpQ_eq (a b : Rat) : cmpI (a.num * b.den) (b.num * a.den) = cmpQ a b := by
  unfold cmpI cmpQ
  simp only [Rat.lt_iff]
theorem qcmp_spec (a b : Rat) (ha : Qs a) (hb : Qs b) : FSpec Tryz.prog 146 [encQ a, encQ b] (.v (.int .i64 (cmpQ a b))) := by
  have k1 : Kn (a.num * b.den).natAbs := bd_mul_int ha.1 (by simpa using hb.2)
  have k2 : Kn (b.num * a.den).natAbs := bd_mul_int hb.1 (by simpa using ha.2)
  refine FSpec.intro ok [] Tryz.func146 rfl rfl (m := 16) rfl ?_
  conv => whnf
  repeat ((first | refine And.intro (by decide : (_ : Nat) ≠ 0) ?_ | refine anyA (by decide +kernel) ?_ | refine ⟨_, rfl, rfl, ?_⟩); conv => whnf)
  refine ⟨_, _, product2 a.num b.den ha.n hb.d, SubL.le (by repeat' (first | exact rfl | exact trivial | exact ⟨_, rfl⟩ | exact ⟨rfl, rfl, rfl⟩ | refine And.intro ?_ ?_)), ?_⟩
  conv => whnf
  repeat ((first | refine And.intro (by decide : (_ : Nat) ≠ 0) ?_ | refine ⟨_, rfl, rfl, ?_⟩); conv => whnf)
  refine ⟨_, _, product2 b.num a.den hb.n ha.d, SubL.le (by repeat' (first | exact rfl | exact trivial | exact ⟨_, rfl⟩ | exact ⟨rfl, rfl, rfl⟩ | refine And.intro ?_ ?_)), ?_⟩
  conv => whnf
  refine ⟨_, _, icmp_spec (a.num * b.den) (b.num * a.den) k1.sz k2.sz, SubL.le (by repeat' (first | exact rfl | exact trivial | exact ⟨_, rfl⟩ | exact ⟨rfl, rfl, rfl⟩ | refine And.intro ?_ ?_)), ?_⟩
  conv => whnf
  rw [cmpQ_eq]
  repeat' (first | exact rfl | exact trivial | exact ⟨_, rfl⟩ | exact ⟨rfl, rfl, rfl⟩ | refine And.intro ?_ ?_)
theorem qsign_spec (q : Rat) : FSpec Tryz.prog 92 [encQ q] (.v (.int .i64 q.num.sign)) := by
  refine FSpec.intro ok [] Tryz.func92 rfl rfl (m := 5) rfl ?_
  conv => whnf
  repeat ((first | refine And.intro (by decide : (_ : Nat) ≠ 0) ?_ | refine ⟨_, rfl, rfl, ?_⟩); conv => whnf)
  refine ⟨_, _, sign_spec q.num, SubL.le (by repeat' (first | exact rfl | exact trivial | exact ⟨_, rfl⟩ | exact ⟨rfl, rfl, rfl⟩ | refine And.intro ?_ ?_)), ?_⟩
  conv => whnf
  repeat' (first | exact rfl | exact trivial | exact ⟨_, rfl⟩ | exact ⟨rfl, rfl, rfl⟩ | refine And.intro ?_ ?_)
theorem qof_spec (n : Int) : FSpec Tryz.prog 93 [encI n] (encQ n) := by
  refine FSpec.intro ok [] Tryz.func93 rfl rfl (m := 5) rfl ?_
  conv => whnf
  repeat ((first | refine anyA (by decide +kernel) ?_ | refine ⟨_, rfl, rfl, ?_⟩); conv => whnf)
  refine ⟨_, _, of_spec 1 (by decide) (by decide), SubL.le (by repeat' (first | exact rfl | exact trivial | exact ⟨_, rfl⟩ | exact ⟨rfl, rfl, rfl⟩ | refine And.intro ?_ ?_)), ?_⟩
  conv => whnf
  repeat ((first | refine ⟨by first | decide | exact Nat.le_refl _, _, rfl, ?_⟩ | refine ⟨_, rfl, rfl, ?_⟩); conv => whnf)
  repeat' (first | exact rfl | exact trivial | exact ⟨_, rfl⟩ | exact ⟨rfl, rfl, rfl⟩ | refine And.intro ?_ ?_)
theorem whole_spec (n : Int) (h1 : -9223372036854775808 ≤ n) (h2 : n ≤ 9223372036854775807) : FSpec Tryz.prog 48 [.v (.int .i64 n)] (encQ n) := by
  refine FSpec.intro ok [] Tryz.func48 rfl rfl (m := 5) rfl ?_
  conv => whnf
  refine ⟨_, _, of_spec n h1 h2, SubL.le (by repeat' (first | exact rfl | exact trivial | exact ⟨_, rfl⟩ | exact ⟨rfl, rfl, rfl⟩ | refine And.intro ?_ ?_)), ?_⟩
  conv => whnf
  refine ⟨_, _, qof_spec n, SubL.le (by repeat' (first | exact rfl | exact trivial | exact ⟨_, rfl⟩ | exact ⟨rfl, rfl, rfl⟩ | refine And.intro ?_ ?_)), ?_⟩
  conv => whnf
  repeat ((first | refine ⟨by first | decide | exact Nat.le_refl _, _, rfl, ?_⟩ | refine ⟨_, rfl, rfl, ?_⟩); conv => whnf)
  repeat' (first | exact rfl | exact trivial | exact ⟨_, rfl⟩ | exact ⟨rfl, rfl, rfl⟩ | refine And.intro ?_ ?_)
theorem new_spec (n d : Int) (hn : Sm n.natAbs) (hd : Kn d.natAbs) (h0 : d ≠ 0) : FSpec Tryz.prog 140 [encI n, encI d] (.tup [encQ (Rat.divInt n d), .v (.int .i64 0)]) := by
  refine FSpec.intro ok [] Tryz.func140 rfl rfl (m := 11) rfl ?_
  conv => whnf
  repeat (refine ⟨_, rfl, rfl, ?_⟩; conv => whnf)
  refine ⟨_, _, sign_spec d, SubL.le (by repeat' (first | exact rfl | exact trivial | exact ⟨_, rfl⟩ | exact ⟨rfl, rfl, rfl⟩ | refine And.intro ?_ ?_)), ?_⟩
  conv => whnf
  refine bcase_intro (fun h => ?_) (fun h => ?_)
  · exfalso
    have h : d = 0 := by first | simpa [-List.getD_eq_getElem?_getD] using h | (simp [-List.getD_eq_getElem?_getD] at h; omega)
    exact h0 h
  · conv => whnf
    repeat (refine ⟨_, rfl, rfl, ?_⟩; conv => whnf)
    refine ⟨_, _, lowest_spec n d hn hd h0, SubL.le (by repeat' (first | exact rfl | exact trivial | exact ⟨_, rfl⟩ | exact ⟨rfl, rfl, rfl⟩ | refine And.intro ?_ ?_)), ?_⟩
    conv => whnf
    repeat ((first | refine ⟨by first | decide | exact Nat.le_refl _, _, rfl, ?_⟩ | refine ⟨_, rfl, rfl, ?_⟩); conv => whnf)
    repeat' (first | exact rfl | exact trivial | exact ⟨_, rfl⟩ | exact ⟨rfl, rfl, rfl⟩ | refine And.intro ?_ ?_)
theorem qvalid_spec (q : Rat) (hq : Qs q) : FSpec Tryz.prog 129 [encQ q] (.v (.bool true)) := by
  have hp : (q.den : Int).sign = 1 := Int.sign_eq_one_of_pos (by have := q.den_nz; omega)
  refine FSpec.intro ok [] Tryz.func129 rfl rfl (m := 26) rfl ?_
  conv => whnf
  repeat ((first | refine And.intro (by decide : (_ : Nat) ≠ 0) ?_ | refine ⟨_, rfl, rfl, ?_⟩); conv => whnf)
  refine ⟨_, _, ivalid_spec q.num hq.n.sz, SubL.le (by repeat' (first | exact rfl | exact trivial | exact ⟨_, rfl⟩ | exact ⟨rfl, rfl, rfl⟩ | refine And.intro ?_ ?_)), ?_⟩
  conv => whnf
  repeat ((first | refine And.intro (by decide : (_ : Nat) ≠ 0) ?_ | refine ⟨_, rfl, rfl, ?_⟩); conv => whnf)
  refine ⟨_, _, ivalid_spec q.den hq.d.sz, SubL.le (by repeat' (first | exact rfl | exact trivial | exact ⟨_, rfl⟩ | exact ⟨rfl, rfl, rfl⟩ | refine And.intro ?_ ?_)), ?_⟩
  conv => whnf
  repeat ((first | refine And.intro (by decide : (_ : Nat) ≠ 0) ?_ | refine ⟨_, rfl, rfl, ?_⟩); conv => whnf)
  refine ⟨_, _, sign_spec q.den, SubL.le (by repeat' (first | exact rfl | exact trivial | exact ⟨_, rfl⟩ | exact ⟨rfl, rfl, rfl⟩ | refine And.intro ?_ ?_)), ?_⟩
  conv => whnf
  rw [hp]
  repeat ((first | refine And.intro (by decide : (_ : Nat) ≠ 0) ?_ | refine ⟨_, rfl, rfl, ?_⟩); conv => whnf)
  refine ⟨_, _, igcd_spec q.num q.den hq.n.sz hq.dk, SubL.le (by repeat' (first | exact rfl | exact trivial | exact ⟨_, rfl⟩ | exact ⟨rfl, rfl, rfl⟩ | refine And.intro ?_ ?_)), ?_⟩
  conv => whnf
  refine ⟨_, _, of_spec 1 (by decide) (by decide), SubL.le (by repeat' (first | exact rfl | exact trivial | exact ⟨_, rfl⟩ | exact ⟨rfl, rfl, rfl⟩ | refine And.intro ?_ ?_)), ?_⟩
  conv => whnf
  refine ⟨_, _, icmp_spec ((Int.gcd q.num q.den : Nat) : Int) 1 (by rw [show Int.gcd q.num q.den = 1 from q.reduced]; exact (Sm.sz (by unfold Sm; decide))) (Sm.sz (by unfold Sm; decide)), SubL.le (by repeat' (first | exact rfl | exact trivial | exact ⟨_, rfl⟩ | exact ⟨rfl, rfl, rfl⟩ | refine And.intro ?_ ?_)), ?_⟩
  conv => whnf
  rw [show Int.gcd q.num q.den = 1 from q.reduced]
  repeat' (first | exact rfl | exact trivial | exact ⟨_, rfl⟩ | exact ⟨rfl, rfl, rfl⟩ | refine And.intro ?_ ?_)
end Go.Proofs.YtbhnankggcfndaaGreat
namespace Go.Proofs.YtbhnankggcfndaaGreat
open El
set_option maxRecDepth 10000
set_option maxHeartbeats 2000000
def u64 (x : Nat) : C := .v (.int .u64 (x : Int))
theorem wRemB {a : Nat} : (a : Int).tmod 4294967296 = ((a % 4294967296 : Nat) : Int) := by
  rw [show (4294967296 : Int) = ((4294967296 : Nat) : Int) from rfl, ← Int.ofNat_tmod]
theorem wQuoB {a : Nat} (h : a < 18446744073709551616) : IntKind.u64.wrap ((a : Int).tdiv 4294967296) = ((a / 4294967296 : Nat) : Int) := by
  rw [show (4294967296 : Int) = ((4294967296 : Nat) : Int) from rfl, ← Int.ofNat_tdiv, wU (by omega)]
theorem wMulB {a : Nat} (h : a < 4294967296) : IntKind.u64.wrap ((a : Int) * 4294967296) = ((a * 4294967296 : Nat) : Int) := by
  rw [show (a : Int) * 4294967296 = ((a * 4294967296 : Nat) : Int) by simp, wU (by omega)]
theorem wAddB {a : Nat} (h : a < 4294967296) : IntKind.u64.wrap (4294967296 + (a : Int)) = ((4294967296 + a : Nat) : Int) := by
  rw [show 4294967296 + (a : Int) = ((4294967296 + a : Nat) : Int) by simp, wU (by omega)]
theorem wSubOne {a : Nat} (h : a ≤ 1) : IntKind.u64.wrap (1 - (a : Int)) = ((1 - a : Nat) : Int) := by
  rw [show 1 - (a : Int) = ((1 - a : Nat) : Int) by omega, wU (by omega)]
theorem trim_spec (l : List Nat) (hd : Dig l) (hl : l.length ≤ 1099511627776) : FSpec Tryz.prog 161 [encN l] (encN (limbs (val l))) := by
  refine FSpec.intro ok [] Tryz.func161 rfl rfl (m := 20) rfl ?_
  conv => whnf
  refine ⟨{ n : Nat // n ≤ l.length ∧ val (l.take n) = val l }, fun q_ => match q_ with | ⟨n, _⟩ => ⟨[(3, .v (.int .i64 n))], []⟩, ⟨[false, false, false, true, false, false, true, true, true, true, true, true, true, true, true, true, true, true], [], []⟩, fun q_ => match q_ with | ⟨n, _⟩ => n, ⟨⟨l.length, Nat.le_refl _, by rw [List.take_length]⟩, [], ?_⟩, ?_⟩
  · conv => whnf
    repeat' (first | exact rfl | exact trivial | exact ⟨_, rfl⟩ | exact ⟨rfl, rfl, rfl⟩ | refine And.intro ?_ ?_)
  · rintro ⟨n, hn, hv⟩
    have last : (n = 0 ∨ l.getD (n - 1) 0 ≠ 0) → encN (limbs (val l)) = .sl 192 1 (n - 0) false (((l.map u32).drop (0 * 1)).take ((n - 0) * 1)) := by
      intro h
      rw [← strip_done hd hn hv h]
      unfold encN
      simp [Nat.min_eq_left hn, List.map_take]
    conv => whnf
    refine bcase_intro (fun h => ?_) (fun h => ?_)
    · have h0 : 0 < n := by simpa using h
      conv => whnf
      repeat ((first | refine ⟨_, wSub1 (by omega) (by omega), ?_⟩ | refine ⟨_, ⟨rfl, by omega⟩, ?_⟩ | refine ⟨_, map_at 0 (by omega), ?_⟩); conv => whnf)
      refine bcase_intro (fun h1 => ?_) (fun h1 => ?_)
      · have h1 : l.getD (n - 1) 0 = 0 := by simpa using h1
        conv => whnf
        repeat (refine ⟨_, wSub1 (by omega) (by omega), ?_⟩; conv => whnf)
        refine ⟨⟨n - 1, by omega, by rw [← hv, show n = (n - 1) + 1 by omega, val_take_succ (by omega), Nat.add_sub_cancel, h1]; simp⟩, [], by dsimp only; omega, ?_⟩
        conv => whnf
        repeat' (first | exact rfl | exact trivial | exact ⟨_, rfl⟩ | exact ⟨rfl, rfl, rfl⟩ | refine And.intro ?_ ?_)
      · have h1 : l.getD (n - 1) 0 ≠ 0 := by simpa using h1
        conv => whnf
        repeat (refine ⟨_, _, ⟨rfl, rfl, by omega, by omega⟩, ?_⟩; conv => whnf)
        exact ⟨false, last (.inr h1)⟩
    · have h0 : n = 0 := by simpa using h
      subst h0
      conv => whnf
      repeat (refine ⟨_, _, ⟨rfl, rfl, by omega, by omega⟩, ?_⟩; conv => whnf)
      exact ⟨false, last (.inl rfl)⟩
theorem word_ref (l : List Nat) (hl : Dig l) (i : Nat) : FSpec Tryz.prog 162 [encN l, .v (.int .i64 i)] (u64 (l.getD i 0)) := by
  have hw := hl.getD i
  refine FSpec.intro ok [] Tryz.func162 rfl rfl (m := 12) rfl ?_
  conv => whnf
  refine bcase_intro (fun h => ?_) (fun h => ?_)
  · have h : i < l.length := by simpa using h
    conv => whnf
    repeat ((first | refine ⟨_, ⟨rfl, by omega⟩, ?_⟩ | refine ⟨_, map_at 0 (by omega), ?_⟩ | refine ⟨_, wU (by omega), ?_⟩); conv => whnf)
    repeat' (first | exact rfl | exact trivial | exact ⟨_, rfl⟩ | exact ⟨rfl, rfl, rfl⟩ | refine And.intro ?_ ?_)
  · have h : l.length ≤ i := by simpa using h
    conv => whnf
    rw [List.getD_eq_getElem?_getD, List.getElem?_eq_none h]
    repeat' (first | exact rfl | exact trivial | exact ⟨_, rfl⟩ | exact ⟨rfl, rfl, rfl⟩ | refine And.intro ?_ ?_)
theorem number_ref (l : List Nat) (hl : Dig l) (h2 : l.length ≤ 2) : FSpec Tryz.prog 200 [encN l] (u64 (val l)) := by
  have e : val l = l.getD 1 0 * 4294967296 + l.getD 0 0 := by
    match l, h2 with
    | [], _ => rfl
    | [a], _ => simp [val]
    | [a, b], _ => simp [val]; omega
  have h0 := hl.getD 0
  have h1 := hl.getD 1
  refine FSpec.intro ok [] Tryz.func200 rfl rfl (m := 8) rfl ?_
  conv => whnf
  refine ⟨_, _, word_ref l hl 1, SubL.le (by repeat' (first | exact rfl | exact trivial | exact ⟨_, rfl⟩ | exact ⟨rfl, rfl, rfl⟩ | refine And.intro ?_ ?_)), ?_⟩
  conv => whnf
  refine ⟨_, wMulB h1, ?_⟩
  conv => whnf
  refine ⟨_, _, word_ref l hl 0, SubL.le (by repeat' (first | exact rfl | exact trivial | exact ⟨_, rfl⟩ | exact ⟨rfl, rfl, rfl⟩ | refine And.intro ?_ ?_)), ?_⟩
  conv => whnf
  repeat (refine ⟨_, wU (by omega), ?_⟩; conv => whnf)
  rw [e]
  repeat' (first | exact rfl | exact trivial | exact ⟨_, rfl⟩ | exact ⟨rfl, rfl, rfl⟩ | refine And.intro ?_ ?_)
theorem made_ref (l : List Nat) (neg : Bool) (hd : Dig l) (hl : l.length ≤ 1099511627776) : FSpec Tryz.prog 111 [.v (.bool neg), encN l] (encI (if neg then -(val l : Int) else (val l : Int))) := by
  rw [limbs_natAbs]
  refine FSpec.intro ok [] Tryz.func111 rfl rfl (m := 14) rfl ?_
  conv => whnf
  refine ⟨_, _, trim_spec l hd hl, SubL.le (by repeat' (first | exact rfl | exact trivial | exact ⟨_, rfl⟩ | exact ⟨rfl, rfl, rfl⟩ | refine And.intro ?_ ?_)), ?_⟩
  conv => whnf
  refine bcase_intro (fun h => ?_) (fun h => ?_)
  · subst h
    conv => whnf
    repeat ((first | refine ⟨by first | decide | exact Nat.le_refl _, _, rfl, ?_⟩ | refine ⟨_, rfl, rfl, ?_⟩); conv => whnf)
    repeat' (first | exact rfl | exact trivial | exact ⟨_, rfl⟩ | exact ⟨rfl, rfl, rfl⟩ | ((show C.v _ = C.v _; congr 2; simp)) | refine And.intro ?_ ?_)
  · subst h
    conv => whnf
    repeat ((first | refine ⟨by first | decide | exact Nat.le_refl _, _, rfl, ?_⟩ | refine ⟨_, rfl, rfl, ?_⟩); conv => whnf)
    repeat' (first | exact rfl | exact trivial | exact ⟨_, rfl⟩ | exact ⟨rfl, rfl, rfl⟩ | refine And.intro ?_ ?_)
theorem words_ref (n : Nat) (h : n < 18446744073709551616) : FSpec Tryz.prog 112 [u64 n] (encN (limbs n)) := by
  have hd : Dig [n % 4294967296 % 4294967296, n / 4294967296 % 4294967296] := Dig.cons (Nat.mod_lt _ (by decide)) (Dig.cons (Nat.mod_lt _ (by decide)) Dig.nil)
  have hv : val [n % 4294967296 % 4294967296, n / 4294967296 % 4294967296] = n := by simp [val]; omega
  refine FSpec.intro ok [] Tryz.func112 rfl rfl (m := 10) rfl ?_
  conv => whnf
  repeat ((first | refine ⟨_, wW, ?_⟩ | refine ⟨by decide, _, wRemB, ?_⟩ | refine ⟨by decide, _, wQuoB (by omega), ?_⟩); conv => whnf)
  refine ⟨_, _, trim_spec _ hd (by simp), SubL.le (by repeat' (first | exact rfl | exact trivial | exact ⟨_, rfl⟩ | exact ⟨rfl, rfl, rfl⟩ | refine And.intro ?_ ?_)), ?_⟩
  conv => whnf
  rw [hv]
  repeat' (first | exact rfl | exact trivial | exact ⟨_, rfl⟩ | exact ⟨rfl, rfl, rfl⟩ | refine And.intro ?_ ?_)
theorem compared_ref (a b : Nat) (ha : (limbs a).length ≤ 1099511627776) (hb : (limbs b).length ≤ 1099511627776) : FSpec Tryz.prog 114 [encN (limbs a), encN (limbs b)] (.v (.int .i64 (cmpN a b))) := by
  refine FSpec.intro ok [] Tryz.func114 rfl rfl (m := 39) rfl ?_
  conv => whnf
  refine bcase_intro (fun h => ?_) (fun h => ?_)
  · have h : (limbs a).length < (limbs b).length := by first | simpa [-List.getD_eq_getElem?_getD] using h | (simp [-List.getD_eq_getElem?_getD] at h; omega)
    have := limbs_mono h
    conv => whnf
    rw [show cmpN a b = -1 by simp [cmpN, this]]
    repeat' (first | exact rfl | exact trivial | exact ⟨_, rfl⟩ | exact ⟨rfl, rfl, rfl⟩ | refine And.intro ?_ ?_)
  · have h : (limbs b).length ≤ (limbs a).length := by first | simpa [-List.getD_eq_getElem?_getD] using h | (simp [-List.getD_eq_getElem?_getD] at h; omega)
    conv => whnf
    refine bcase_intro (fun h1 => ?_) (fun h1 => ?_)
    · have h1 : (limbs b).length < (limbs a).length := by first | simpa [-List.getD_eq_getElem?_getD] using h1 | (simp [-List.getD_eq_getElem?_getD] at h1; omega)
      have := limbs_mono h1
      conv => whnf
      rw [show cmpN a b = 1 by unfold cmpN; rw [if_neg (by omega), if_pos this]]
      repeat' (first | exact rfl | exact trivial | exact ⟨_, rfl⟩ | exact ⟨rfl, rfl, rfl⟩ | refine And.intro ?_ ?_)
    · have h1 : (limbs a).length ≤ (limbs b).length := by first | simpa [-List.getD_eq_getElem?_getD] using h1 | (simp [-List.getD_eq_getElem?_getD] at h1; omega)
      have h2 : (limbs a).length = (limbs b).length := by omega
      conv => whnf
      refine ⟨((limbs a).length : Int) - 1, wI rfl (by omega) (by omega), ?_⟩
      conv => whnf
      refine ⟨{ n : Nat // n ≤ (limbs a).length ∧ ∀ j, n ≤ j → (limbs a).getD j 0 = (limbs b).getD j 0 }, fun q_ => match q_ with | ⟨n, _⟩ => ⟨[(5, .v (.int .i64 ((n : Int) - 1)))], []⟩, ⟨[false, false, false, false, true, true, false, false, false, false, false, false, false, false, false, false, false, false, false, true, true, true, true, true, true, true, true, true, true, true, true, true, true, true, true, true, true, true, true, true, true], [], []⟩, fun q_ => match q_ with | ⟨n, _⟩ => n, ⟨⟨(limbs a).length, Nat.le_refl _, by intro j hj; rw [List.getD_eq_getElem?_getD, List.getD_eq_getElem?_getD, List.getElem?_eq_none (by omega), List.getElem?_eq_none (by omega)]⟩, [], ?_⟩, ?_⟩
      · conv => whnf
        repeat' (first | exact rfl | exact trivial | exact ⟨_, rfl⟩ | exact ⟨rfl, rfl, rfl⟩ | refine And.intro ?_ ?_)
      · rintro ⟨n, hn, heq⟩
        conv => whnf
        refine bcase_intro (fun h3 => ?_) (fun h3 => ?_)
        · have h3 : 1 ≤ n := by first | simpa [-List.getD_eq_getElem?_getD] using h3 | (simp [-List.getD_eq_getElem?_getD] at h3; omega)
          obtain ⟨i, rfl⟩ : ∃ i, n = i + 1 := ⟨n - 1, by omega⟩
          rw [show ((i + 1 : Nat) : Int) - 1 = (i : Int) by omega]
          conv => whnf
          repeat ((first | refine ⟨_, ⟨rfl, by omega⟩, ?_⟩ | refine ⟨_, map_at 0 (by omega), ?_⟩ | refine anyA (by decide +kernel) ?_); conv => whnf)
          refine bcase_intro (fun h4 => ?_) (fun h4 => ?_)
          · have h4 : (limbs a).getD i 0 < (limbs b).getD i 0 := by first | simpa [-List.getD_eq_getElem?_getD] using h4 | (simp [-List.getD_eq_getElem?_getD] at h4; omega)
            have := val_lt_of_top (dig_limbs a) (dig_limbs b) h2 (by omega) (fun j hj => heq j (by omega)) h4
            rw [val_limbs, val_limbs] at this
            conv => whnf
            rw [show cmpN a b = -1 by simp [cmpN, this]]
            repeat' (first | exact rfl | exact trivial | exact ⟨_, rfl⟩ | exact ⟨rfl, rfl, rfl⟩ | refine And.intro ?_ ?_)
          · have h4 : (limbs b).getD i 0 ≤ (limbs a).getD i 0 := by first | simpa [-List.getD_eq_getElem?_getD] using h4 | (simp [-List.getD_eq_getElem?_getD] at h4; omega)
            conv => whnf
            repeat ((first | refine ⟨_, ⟨rfl, by omega⟩, ?_⟩ | refine ⟨_, map_at 0 (by omega), ?_⟩ | refine anyA (by decide +kernel) ?_); conv => whnf)
            refine bcase_intro (fun h5 => ?_) (fun h5 => ?_)
            · have h5 : (limbs b).getD i 0 < (limbs a).getD i 0 := by first | simpa [-List.getD_eq_getElem?_getD] using h5 | (simp [-List.getD_eq_getElem?_getD] at h5; omega)
              have := val_lt_of_top (dig_limbs b) (dig_limbs a) h2.symm (by omega) (fun j hj => (heq j (by omega)).symm) h5
              rw [val_limbs, val_limbs] at this
              conv => whnf
              rw [show cmpN a b = 1 by unfold cmpN; rw [if_neg (by omega), if_pos this]]
              repeat' (first | exact rfl | exact trivial | exact ⟨_, rfl⟩ | exact ⟨rfl, rfl, rfl⟩ | refine And.intro ?_ ?_)
            · have h5 : (limbs a).getD i 0 ≤ (limbs b).getD i 0 := by first | simpa [-List.getD_eq_getElem?_getD] using h5 | (simp [-List.getD_eq_getElem?_getD] at h5; omega)
              conv => whnf
              refine ⟨(i : Int) - 1, wI rfl (by omega) (by omega), ?_⟩
              conv => whnf
              refine ⟨⟨i, by omega, fun j hj => (Nat.lt_or_ge i j).elim (fun h6 => heq j (by omega)) (fun h6 => by rw [show j = i by omega]; omega)⟩, [], by dsimp only; omega, ?_⟩
              conv => whnf
              repeat' (first | exact rfl | exact trivial | exact ⟨_, rfl⟩ | exact ⟨rfl, rfl, rfl⟩ | refine And.intro ?_ ?_)
        · have h3 : n = 0 := by first | simpa [-List.getD_eq_getElem?_getD] using h3 | (simp [-List.getD_eq_getElem?_getD] at h3; omega)
          subst h3
          conv => whnf
          have : cmpN a b = 0 := by
            have h3 : limbs a = limbs b := by
              apply List.ext_getElem h2
              intro j h3 h4
              have := heq j (by omega)
              rwa [List.getD_eq_getElem?_getD, List.getD_eq_getElem?_getD, List.getElem?_eq_getElem h3, List.getElem?_eq_getElem h4, Option.getD_some, Option.getD_some] at this
            have h4 : a = b := by rw [← val_limbs a, h3, val_limbs]
            simp [cmpN, h4]
          rw [this]
          repeat' (first | exact rfl | exact trivial | exact ⟨_, rfl⟩ | exact ⟨rfl, rfl, rfl⟩ | refine And.intro ?_ ?_)
theorem ce0 {W : Nat} : 2 * W ≤ W * 4294967296 := by omega
theorem ce1 {V X Y W Z c : Nat} (hc : c ≤ 1) (h2 : 2 * W ≤ Z) (hv : V + Z * c = X + Y) (hx : X < W) (hy : Y < W) : V = X + Y := by
  rcases Nat.lt_or_ge c 1 with h | h
  · have : c = 0 := by omega
    rw [this] at hv
    simpa using hv
  · have : c = 1 := by omega
    rw [this, Nat.mul_one] at hv
    omega
theorem carry_end {V X Y W c : Nat} (hc : c ≤ 1) (hv : V + W * 4294967296 * c = X + Y) (hx : X < W) (hy : Y < W) : V = X + Y :=
  ce1 hc ce0 hv hx hy
theorem added_ref (x y : List Nat) (hx : Dig x) (hy : Dig y) (hlx : x.length ≤ 1000000000) (hly : y.length ≤ 1000000000) : FSpec Tryz.prog 113 [encN x, encN y] (encN (limbs (val x + val y))) := by
  refine FSpec.intro ok [(10, ([17], none))] Tryz.func113 rfl rfl (m := 40) rfl ?_
  conv => whnf
  refine ⟨((max x.length y.length : Nat) : Int), wMax, ?_⟩
  conv => whnf
  repeat (refine ⟨_, wAdd1 (by omega), ?_⟩; conv => whnf)
  refine ⟨max x.length y.length + 1, max x.length y.length + 1, ⟨rfl, rfl, Nat.le_refl _, by show 4 * _ ≤ _; omega, by omega⟩, ?_⟩
  rw [show zrow _ (max x.length y.length + 1) = (List.replicate (max x.length y.length + 1) 0).map u32 from zrow_u32 _]
  conv => whnf
  refine ⟨{ p : Nat × List Nat × Nat // p.1 ≤ max x.length y.length + 1 ∧ p.2.1.length = p.1 ∧ Dig p.2.1 ∧ p.2.2 ≤ 1 ∧ val p.2.1 + 4294967296 ^ p.1 * p.2.2 = val (x.take p.1) + val (y.take p.1) }, fun q_ => match q_ with | ⟨(i, out, c), _⟩ => ⟨[(7, u64 c), (8, .v (.int .i64 i))], [(17, .row 192 1 (max x.length y.length + 1) ((out ++ List.replicate (max x.length y.length + 1 - i) 0).map u32))]⟩, ⟨[false, false, false, false, false, false, false, true, true, true, false, false, false, false, false, false, false, false, true, true, true, true, true, true, true, true, true, true, true, true, true, true, true, true, true, true, true, true, true, true], [], []⟩, fun q_ => match q_ with | ⟨(i, out, c), _⟩ => max x.length y.length + 1 - i, ⟨⟨(0, [], 0), Nat.zero_le _, rfl, Dig.nil, Nat.zero_le _, rfl⟩, [], ?_⟩, ?_⟩
  · conv => whnf
    repeat' (first | exact rfl | exact trivial | exact ⟨_, rfl⟩ | exact ⟨rfl, rfl, rfl⟩ | refine And.intro ?_ ?_)
  · rintro ⟨⟨i, out, c⟩, hi, ho, hdo, hc, hv⟩
    simp only at hi ho hdo hc hv
    have h1 := hx.getD i
    have h2 := hy.getD i
    conv => whnf
    refine bcase_intro (fun h => ?_) (fun h => ?_)
    · have h : i < max x.length y.length + 1 := by first | simpa [-List.getD_eq_getElem?_getD] using h | (simp [-List.getD_eq_getElem?_getD] at h; omega)
      conv => whnf
      refine ⟨_, _, word_ref x hx i, SubL.le (by repeat' (first | exact rfl | exact trivial | exact ⟨_, rfl⟩ | exact ⟨rfl, rfl, rfl⟩ | refine And.intro ?_ ?_)), ?_⟩
      conv => whnf
      refine ⟨_, _, word_ref y hy i, SubL.le (by repeat' (first | exact rfl | exact trivial | exact ⟨_, rfl⟩ | exact ⟨rfl, rfl, rfl⟩ | refine And.intro ?_ ?_)), ?_⟩
      conv => whnf
      repeat ((first | refine ⟨_, ⟨rfl, by omega⟩, ?_⟩ | refine ⟨_, wU (by omega), ?_⟩ | refine ⟨_, wW, ?_⟩ | refine ⟨by decide, _, wRemB, ?_⟩); conv => whnf)
      rw [Nat.mod_mod]
      refine ⟨by show i * 1 + 1 ≤ _; simp; omega, _, spl_rep _ ho.symm (by omega), ?_⟩
      conv => whnf
      repeat ((first | refine ⟨_, wAdd1 (by omega), ?_⟩ | refine ⟨by decide, _, wQuoB (by omega), ?_⟩); conv => whnf)
      have hs : (x.getD i 0 + y.getD i 0 + c) / 4294967296 ≤ 1 := by omega
      refine ⟨⟨(i + 1, out ++ [(x.getD i 0 + y.getD i 0 + c) % 4294967296], (x.getD i 0 + y.getD i 0 + c) / 4294967296), by simp only; omega, by simp [ho], hdo.append (Dig.cons (Nat.mod_lt _ (by decide)) Dig.nil), hs, by simp only; rw [val_snoc, ho, val_take_getD, val_take_getD, Nat.pow_succ]; have := step_carry (s := x.getD i 0 + y.getD i 0 + c) c (4294967296 ^ i) hv; rw [Nat.mul_add, Nat.mul_add] at this; omega⟩, [], by dsimp only; omega, ?_⟩
      conv => whnf
      repeat' (first | exact rfl | exact trivial | exact ⟨_, rfl⟩ | exact ⟨rfl, rfl, rfl⟩ | refine And.intro ?_ ?_)
    · have h : max x.length y.length + 1 ≤ i := by first | simpa [-List.getD_eq_getElem?_getD] using h | (simp [-List.getD_eq_getElem?_getD] at h; omega)
      have hi2 : i = max x.length y.length + 1 := by omega
      conv => whnf
      have hlen : (out ++ List.replicate (max x.length y.length + 1 - i) 0).length = max x.length y.length + 1 := by simp; omega
      have hd2 : Dig (out ++ List.replicate (max x.length y.length + 1 - i) 0) := by rw [hi2, Nat.sub_self]; simpa using hdo
      have hv2 : val (out ++ List.replicate (max x.length y.length + 1 - i) 0) = val x + val y := by
        have e1 : x.take i = x := List.take_of_length_le (by omega)
        have e2 : y.take i = y := List.take_of_length_le (by omega)
        rw [hi2, Nat.sub_self, List.replicate_zero, List.append_nil]
        rw [e1, e2, hi2, Nat.pow_succ] at hv
        exact carry_end hc hv (Nat.lt_of_lt_of_le (val_lt hx) (Nat.pow_le_pow_right (by decide) (Nat.le_max_left ..))) (Nat.lt_of_lt_of_le (val_lt hy) (Nat.pow_le_pow_right (by decide) (Nat.le_max_right ..)))
      refine ⟨(by repeat' (first | exact rfl | exact trivial | refine And.intro ?_ ?_)), (by repeat' (first | exact rfl | exact trivial | refine And.intro ?_ ?_)), ?_⟩
      conv => whnf
      refine ⟨_, _, trim_spec _ hd2 (by omega), SubL.le (by repeat' (first | exact rfl | exact trivial | exact ⟨_, rfl⟩ | exact ⟨rfl, rfl, rfl⟩ | (exact ⟨false, by rw [hlen]; rfl⟩) | refine And.intro ?_ ?_)), ?_⟩
      conv => whnf
      rw [hv2]
      repeat' (first | exact rfl | exact trivial | exact ⟨_, rfl⟩ | exact ⟨rfl, rfl, rfl⟩ | refine And.intro ?_ ?_)
theorem taken_ref (x y : List Nat) (hx : Dig x) (hy : Dig y) (hlx : x.length ≤ 1000000000) (hly : y.length ≤ x.length) (hle : val y ≤ val x) : FSpec Tryz.prog 115 [encN x, encN y] (encN (limbs (val x - val y))) := by
  refine FSpec.intro ok [(9, ([11], none))] Tryz.func115 rfl rfl (m := 39) rfl ?_
  conv => whnf
  refine ⟨x.length, x.length, ⟨rfl, rfl, Nat.le_refl _, by show 4 * _ ≤ _; omega, by omega⟩, ?_⟩
  rw [show zrow _ x.length = (List.replicate x.length 0).map u32 from zrow_u32 _]
  conv => whnf
  refine ⟨{ p : Nat × List Nat × Nat // p.1 ≤ x.length ∧ p.2.1.length = p.1 ∧ Dig p.2.1 ∧ p.2.2 ≤ 1 ∧ val p.2.1 + val (y.take p.1) = val (x.take p.1) + 4294967296 ^ p.1 * p.2.2 }, fun q_ => match q_ with | ⟨(i, out, c), _⟩ => ⟨[(6, u64 c), (7, .v (.int .i64 i))], [(11, .row 192 1 x.length ((out ++ List.replicate (x.length - i) 0).map u32))]⟩, ⟨[false, false, false, false, false, false, true, true, true, false, false, false, true, true, true, true, true, true, true, true, true, true, true, true, true, true, true, true, true, true, true, true, true, true, true, true, true, true, true], [], []⟩, fun q_ => match q_ with | ⟨(i, out, c), _⟩ => x.length - i, ⟨⟨(0, [], 0), Nat.zero_le _, rfl, Dig.nil, Nat.zero_le _, rfl⟩, [], ?_⟩, ?_⟩
  · conv => whnf
    repeat' (first | exact rfl | exact trivial | exact ⟨_, rfl⟩ | exact ⟨rfl, rfl, rfl⟩ | refine And.intro ?_ ?_)
  · rintro ⟨⟨i, out, c⟩, hi, ho, hdo, hc, hv⟩
    simp only at hi ho hdo hc hv
    have h1 := hx.getD i
    have h2 := hy.getD i
    conv => whnf
    refine bcase_intro (fun h => ?_) (fun h => ?_)
    · have h : i < x.length := by first | simpa [-List.getD_eq_getElem?_getD] using h | (simp [-List.getD_eq_getElem?_getD] at h; omega)
      conv => whnf
      refine anyC [] [11] (by decide +kernel) ?_
      conv => whnf
      repeat ((first | refine ⟨_, wAddB h1, ?_⟩ | refine ⟨_, ⟨rfl, by omega⟩, ?_⟩ | refine ⟨_, map_at 0 (by omega), ?_⟩ | refine ⟨_, wU (by omega), ?_⟩); conv => whnf)
      refine ⟨_, _, word_ref y hy i, SubL.le (by repeat' (first | exact rfl | exact trivial | exact ⟨_, rfl⟩ | exact ⟨rfl, rfl, rfl⟩ | refine And.intro ?_ ?_)), ?_⟩
      conv => whnf
      have hd : (4294967296 + x.getD i 0 - y.getD i 0 - c) / 4294967296 ≤ 1 := by omega
      repeat ((first | refine ⟨_, ⟨rfl, by omega⟩, ?_⟩ | refine ⟨_, wW, ?_⟩ | refine ⟨by decide, _, wRemB, ?_⟩ | refine ⟨_, wSubU (by omega) (by omega), ?_⟩); conv => whnf)
      rw [Nat.mod_mod]
      refine ⟨by show i * 1 + 1 ≤ _; simp; omega, _, spl_rep _ ho.symm (by omega), ?_⟩
      conv => whnf
      repeat ((first | refine ⟨_, wSubOne hd, ?_⟩ | refine ⟨_, wAdd1 (by omega), ?_⟩ | refine ⟨by decide, _, wQuoB (by omega), ?_⟩); conv => whnf)
      have he : 1 - (4294967296 + x.getD i 0 - y.getD i 0 - c) / 4294967296 = if x.getD i 0 < y.getD i 0 + c then 1 else 0 := by split <;> omega
      rw [he]
      refine ⟨⟨(i + 1, out ++ [(x.getD i 0 + 4294967296 - y.getD i 0 - c) % 4294967296], if x.getD i 0 < y.getD i 0 + c then 1 else 0), by simp only; omega, by simp [ho], hdo.append (Dig.cons (Nat.mod_lt _ (by decide)) Dig.nil), by simp only; split <;> omega, by simp only; rw [val_snoc, ho, val_take_getD, val_take_getD, Nat.pow_succ]; exact step_borrow (hx.getD i) (hy.getD i) hc hv⟩, [], by dsimp only; omega, ?_⟩
      conv => whnf
      repeat' (first | exact rfl | exact trivial | exact ⟨_, rfl⟩ | exact ⟨rfl, rfl, rfl⟩ | ((show Bx.row _ _ _ _ = Bx.row _ _ _ _; rw [Nat.add_comm 4294967296, Nat.sub_sub])) | refine And.intro ?_ ?_)
    · have h : x.length ≤ i := by first | simpa [-List.getD_eq_getElem?_getD] using h | (simp [-List.getD_eq_getElem?_getD] at h; omega)
      have hi2 : i = x.length := by omega
      conv => whnf
      have hlen : (out ++ List.replicate (x.length - i) 0).length = x.length := by simp; omega
      have hd2 : Dig (out ++ List.replicate (x.length - i) 0) := by rw [hi2, Nat.sub_self]; simpa using hdo
      have hv2 : val (out ++ List.replicate (x.length - i) 0) = val x - val y := by
        rw [hi2, Nat.sub_self, List.replicate_zero, List.append_nil]
        rw [hi2, List.take_of_length_le hly, List.take_of_length_le (Nat.le_refl _)] at hv
        have h1 := val_lt hdo
        rw [ho, hi2] at h1
        have : c = 0 := by
          rcases Nat.lt_or_ge c 1 with h2 | h2
          · omega
          · exfalso
            have : c = 1 := by omega
            subst this
            omega
        subst this
        omega
      refine ⟨(by repeat' (first | exact rfl | exact trivial | refine And.intro ?_ ?_)), (by repeat' (first | exact rfl | exact trivial | refine And.intro ?_ ?_)), ?_⟩
      conv => whnf
      refine ⟨_, _, trim_spec _ hd2 (by omega), SubL.le (by repeat' (first | exact rfl | exact trivial | exact ⟨_, rfl⟩ | exact ⟨rfl, rfl, rfl⟩ | (exact ⟨false, by rw [hlen]; rfl⟩) | refine And.intro ?_ ?_)), ?_⟩
      conv => whnf
      rw [hv2]
      repeat' (first | exact rfl | exact trivial | exact ⟨_, rfl⟩ | exact ⟨rfl, rfl, rfl⟩ | refine And.intro ?_ ?_)
end Go.Proofs.YtbhnankggcfndaaGreat
namespace Go.Proofs.YtbhnankggcfndaaGreat
open El
set_option maxRecDepth 10000
set_option maxHeartbeats 2000000
theorem wQuoV {a d : Nat} (h : a < 18446744073709551616) : IntKind.u64.wrap ((a : Int).tdiv (d : Int)) = ((a / d : Nat) : Int) := by
  rw [← Int.ofNat_tdiv, wU (Nat.lt_of_le_of_lt (Nat.div_le_self _ _) h)]
theorem times_ref (x y : List Nat) (hx : Dig x) (hy : Dig y) (hlx : x.length ≤ 1000000000) (hly : y.length ≤ 1000000000) : FSpec Tryz.prog 116 [encN x, encN y] (encN (limbs (val x * val y))) := by
  refine FSpec.intro ok [(13, ([15], none))] Tryz.func116 rfl rfl (m := 67) rfl ?_
  conv => whnf
  repeat (refine ⟨_, wAdd (by omega), ?_⟩; conv => whnf)
  refine ⟨x.length + y.length, x.length + y.length, ⟨rfl, rfl, Nat.le_refl _, by show 4 * _ ≤ _; omega, by omega⟩, ?_⟩
  rw [show zrow _ (x.length + y.length) = (List.replicate (x.length + y.length) 0).map u32 from zrow_u32 _]
  conv => whnf
  refine ⟨{ p : Nat × List Nat // p.1 ≤ x.length ∧ p.2.length = p.1 + y.length ∧ Dig p.2 ∧ val p.2 = val (x.take p.1) * val y }, fun q_ => match q_ with | ⟨(i, m), _⟩ => ⟨[(6, .v (.int .i64 i))], [(15, .row 192 1 (x.length + y.length) ((m ++ List.replicate (x.length - i) 0).map u32))]⟩, ⟨[false, false, false, false, false, false, true, true, true, true, false, false, false, false, false, false, true, true, true, true, true, true, true, true, true, true, true, true, true, true, true, true, true, true, true, true, true, true, true, true, true, true, true, true, true, true, true, true, true, true, true, true, true, true, true, true, true, true, true, true, true, true, true, true, true, true, true], [], []⟩, fun q_ => match q_ with | ⟨(i, m), _⟩ => x.length - i, ⟨⟨(0, List.replicate y.length 0), Nat.zero_le _, by simp, by intro d hd; rw [List.eq_of_mem_replicate hd]; decide, by simp [val_zeros, val]⟩, [], ?_⟩, ?_⟩
  · conv => whnf
    repeat' (first | exact rfl | exact trivial | exact ⟨_, rfl⟩ | exact ⟨rfl, rfl, rfl⟩ | ((show Bx.row _ _ _ _ = Bx.row _ _ _ _; congr 2; rw [List.replicate_append_replicate]; congr 1; omega)) | refine And.intro ?_ ?_)
  · rintro ⟨⟨i, m⟩, hi, hm, hdm, hv⟩
    simp only at hi hm hdm hv
    conv => whnf
    refine bcase_intro (fun h => ?_) (fun h => ?_)
    · have h : i < x.length := by first | simpa [-List.getD_eq_getElem?_getD] using h | (simp [-List.getD_eq_getElem?_getD] at h; omega)
      conv => whnf
      skip
      refine ⟨{ p : Nat × List Nat × Nat // p.1 ≤ y.length ∧ p.2.1.length = i + p.1 ∧ Dig p.2.1 ∧ p.2.2 < 4294967296 ∧ val p.2.1 + 4294967296 ^ (i + p.1) * p.2.2 = val (m.take (i + p.1)) + 4294967296 ^ i * (x.getD i 0 * val (y.take p.1)) }, fun q_ => match q_ with | ⟨(k, p, c), _⟩ => ⟨[(7, u64 c), (8, .v (.int .i64 k))], [(15, .row 192 1 (x.length + y.length) (((p ++ m.drop (i + k)) ++ List.replicate (x.length - i) 0).map u32))]⟩, ⟨[false, false, false, false, false, false, false, true, true, true, false, false, false, false, false, false, false, false, false, false, false, false, true, true, true, true, true, true, true, true, true, true, true, true, true, true, true, true, true, true, true, true, true, true, true, true, true, true, true, true, true, true, true, true, true, true, true, true, true], [], []⟩, fun q_ => match q_ with | ⟨(k, p, c), _⟩ => y.length - k, ⟨⟨(0, m.take i, 0), Nat.zero_le _, by simp; omega, hdm.take _, by show 0 < _; decide, by simp [val]⟩, [], ?_⟩, ?_⟩
      · conv => whnf
        repeat' (first | exact rfl | exact trivial | exact ⟨_, rfl⟩ | exact ⟨rfl, rfl, rfl⟩ | ((show Bx.row _ _ _ _ = Bx.row _ _ _ _; simp)) | refine And.intro ?_ ?_)
      · rintro ⟨⟨k, p, c⟩, hk, hp, hdp, hc, hv2⟩
        simp only at hk hp hdp hc hv2
        conv => whnf
        refine bcase_intro (fun h2 => ?_) (fun h2 => ?_)
        · have h2 : k < y.length := by first | simpa [-List.getD_eq_getElem?_getD] using h2 | (simp [-List.getD_eq_getElem?_getD] at h2; omega)
          conv => whnf
          have ha := hx.getD i
          have hb := hy.getD k
          have hmk := hdm.getD (i + k)
          have hlt := mul_lt ha hb hc hmk
          have hlt2 := hlt
          rw [Nat.add_comm] at hlt2
          have hload : (((p ++ m.drop (i + k)) ++ List.replicate (x.length - i) 0).map u32)[(i + k) * 1]? = some (u32 (m.getD (i + k) 0)) := by
            rw [map_at0 0 (by simp; omega), getD_mid hp (by omega)]
          repeat ((first | refine ⟨_, wMulU (by have := mul_lt ha hb (show 0 < 4294967296 by decide) (show 0 < 4294967296 by decide); omega), ?_⟩ | refine ⟨_, hload, ?_⟩ | refine ⟨_, wAddU (by have := hlt; omega), ?_⟩ | refine ⟨_, wAdd (by omega), ?_⟩ | refine ⟨_, ⟨rfl, by omega⟩, ?_⟩ | refine ⟨_, map_at 0 (by omega), ?_⟩ | refine ⟨_, wU (by omega), ?_⟩ | refine ⟨_, wW, ?_⟩ | refine ⟨by decide, _, wRemB, ?_⟩ | refine anyA (by decide +kernel) ?_); conv => whnf)
          rw [Nat.mod_mod, Nat.add_comm (x.getD i 0 * y.getD k 0 + m.getD (i + k) 0) c]
          refine ⟨by show (i + k) * 1 + 1 ≤ _; simp; omega, _, spl_mid _ hp (by omega), ?_⟩
          conv => whnf
          repeat ((first | refine ⟨by decide, _, wQuoB hlt, ?_⟩ | refine ⟨_, wAdd1 (by omega), ?_⟩); conv => whnf)
          refine ⟨⟨(k + 1, p ++ [(c + (x.getD i 0 * y.getD k 0 + m.getD (i + k) 0)) % 4294967296], (c + (x.getD i 0 * y.getD k 0 + m.getD (i + k) 0)) / 4294967296), by simp only; omega, by simp [hp]; omega, hdp.append (Dig.cons (Nat.mod_lt _ (by decide)) Dig.nil), by simp only; omega, by simp only; rw [val_snoc, hp, val_take_getD (l := y), ← Nat.add_assoc i k 1, val_take_getD (l := m), Nat.pow_succ]; exact step_mul hv2 (Nat.pow_add ..)⟩, [], by dsimp only; omega, ?_⟩
          conv => whnf
          repeat' (first | exact rfl | exact trivial | exact ⟨_, rfl⟩ | exact ⟨rfl, rfl, rfl⟩ | ((show Bx.row _ _ _ _ = Bx.row _ _ _ _; rw [← Nat.add_assoc i k 1])) | refine And.intro ?_ ?_)
        · have h2 : y.length ≤ k := by first | simpa [-List.getD_eq_getElem?_getD] using h2 | (simp [-List.getD_eq_getElem?_getD] at h2; omega)
          have hk2 : k = y.length := by omega
          conv => whnf
          repeat ((first | refine ⟨_, wAdd (by omega), ?_⟩ | refine ⟨_, ⟨rfl, by omega⟩, ?_⟩ | refine ⟨_, wW, ?_⟩); conv => whnf)
          have e : (p ++ m.drop (i + k)) ++ List.replicate (x.length - i) 0 = p ++ List.replicate (x.length - i) 0 := by rw [List.drop_of_length_le (by omega), List.append_nil]
          rw [e]
          refine ⟨by show (i + y.length) * 1 + 1 ≤ _; simp; omega, _, spl_rep _ (by omega) (by omega), ?_⟩
          conv => whnf
          repeat (refine ⟨_, wAdd1 (by omega), ?_⟩; conv => whnf)
          refine ⟨⟨(i + 1, p ++ [c % 4294967296]), by simp only; omega, by simp only [List.length_append, List.length_singleton]; omega, hdp.append (Dig.cons (Nat.mod_lt _ (by decide)) Dig.nil), by simp only; rw [val_snoc, hp, val_take_getD, Nat.mod_eq_of_lt hc, hv2, hk2, List.take_of_length_le (by omega), List.take_of_length_le (Nat.le_refl _), hv, Nat.add_mul, Nat.mul_assoc]⟩, [], by dsimp only; omega, ?_⟩
          conv => whnf
          repeat' (first | exact rfl | exact trivial | exact ⟨_, rfl⟩ | exact ⟨rfl, rfl, rfl⟩ | ((show Bx.row _ _ _ _ = Bx.row _ _ _ _; congr 2)) | refine And.intro ?_ ?_)
    · have h : x.length ≤ i := by first | simpa [-List.getD_eq_getElem?_getD] using h | (simp [-List.getD_eq_getElem?_getD] at h; omega)
      have hi2 : i = x.length := by omega
      conv => whnf
      have hlen : (m ++ List.replicate (x.length - i) 0).length = x.length + y.length := by simp; omega
      have hd2 : Dig (m ++ List.replicate (x.length - i) 0) := by rw [hi2, Nat.sub_self]; simpa using hdm
      have hv3 : val (m ++ List.replicate (x.length - i) 0) = val x * val y := by
        rw [hi2, Nat.sub_self, List.replicate_zero, List.append_nil, hv, hi2, List.take_of_length_le (Nat.le_refl _)]
      refine ⟨(by repeat' (first | exact rfl | exact trivial | refine And.intro ?_ ?_)), (by repeat' (first | exact rfl | exact trivial | refine And.intro ?_ ?_)), ?_⟩
      conv => whnf
      refine ⟨_, _, trim_spec _ hd2 (by omega), SubL.le (by repeat' (first | exact rfl | exact trivial | exact ⟨_, rfl⟩ | exact ⟨rfl, rfl, rfl⟩ | (exact ⟨false, by rw [hlen]; rfl⟩) | refine And.intro ?_ ?_)), ?_⟩
      conv => whnf
      rw [hv3]
      repeat' (first | exact rfl | exact trivial | exact ⟨_, rfl⟩ | exact ⟨rfl, rfl, rfl⟩ | refine And.intro ?_ ?_)
theorem shortly_ref (x : List Nat) (d : Nat) (hx : Dig x) (hlx : x.length ≤ 1000000000) (hd0 : 0 < d) (hd1 : d < 4294967296) : FSpec Tryz.prog 220 [encN x, u64 d] (.tup [encN (limbs (val x / d)), u64 (val x % d)]) := by
  refine FSpec.intro ok [(9, ([12], none))] Tryz.func220 rfl rfl (m := 39) rfl ?_
  conv => whnf
  skip
  refine ⟨x.length, x.length, ⟨rfl, rfl, Nat.le_refl _, by show 4 * _ ≤ _; omega, by omega⟩, ?_⟩
  rw [show zrow _ x.length = (List.replicate x.length 0).map u32 from zrow_u32 _]
  conv => whnf
  refine ⟨(x.length : Int) - 1, wI rfl (by omega) (by omega), ?_⟩
  conv => whnf
  refine ⟨{ p : Nat × List Nat × Nat // p.1 ≤ x.length ∧ p.2.1.length = x.length - p.1 ∧ Dig p.2.1 ∧ p.2.2 < d ∧ val (x.drop p.1) = val p.2.1 * d + p.2.2 }, fun q_ => match q_ with | ⟨(n, q, r), _⟩ => ⟨[(7, u64 r), (8, .v (.int .i64 ((n : Int) - 1)))], [(12, .row 192 1 x.length ((List.replicate n 0 ++ q).map u32))]⟩, ⟨[false, false, false, false, false, false, false, true, true, true, false, false, false, false, false, false, true, true, true, true, true, true, true, true, true, true, true, true, true, true, true, true, true, true, true, true, true, true], [], []⟩, fun q_ => match q_ with | ⟨(n, q, r), _⟩ => n, ⟨⟨(x.length, [], 0), Nat.le_refl _, by simp, Dig.nil, hd0, by simp [val]⟩, [], ?_⟩, ?_⟩
  · conv => whnf
    repeat' (first | exact rfl | exact trivial | exact ⟨_, rfl⟩ | exact ⟨rfl, rfl, rfl⟩ | ((show Bx.row _ _ _ _ = Bx.row _ _ _ _; simp)) | refine And.intro ?_ ?_)
  · rintro ⟨⟨n, q, r⟩, hn, hq, hdq, hr, hv⟩
    simp only at hn hq hdq hr hv
    conv => whnf
    refine bcase_intro (fun h => ?_) (fun h => ?_)
    · have h : 1 ≤ n := by first | simpa [-List.getD_eq_getElem?_getD] using h | (simp [-List.getD_eq_getElem?_getD] at h; omega)
      obtain ⟨i, rfl⟩ : ∃ i, n = i + 1 := ⟨n - 1, by omega⟩
      have hxi := hx.getD i
      rw [show ((i + 1 : Nat) : Int) - 1 = (i : Int) by omega]
      conv => whnf
      refine ⟨_, wMulB (show r < 4294967296 by omega), ?_⟩
      conv => whnf
      have hdg : (r * 4294967296 + x.getD i 0) / d < 4294967296 := by
        rw [Nat.div_lt_iff_lt_mul hd0]
        have h2 : (r + 1) * 4294967296 ≤ d * 4294967296 := Nat.mul_le_mul_right _ hr
        omega
      have hlt : r * 4294967296 + x.getD i 0 < 18446744073709551616 := by omega
      repeat ((first | refine ⟨by omega, _, wQuoV hlt, ?_⟩ | refine ⟨_, ⟨rfl, by omega⟩, ?_⟩ | refine ⟨_, map_at 0 (by omega), ?_⟩ | refine ⟨_, wU (by omega), ?_⟩ | refine ⟨_, wW, ?_⟩); conv => whnf)
      rw [Nat.mod_eq_of_lt hdg]
      refine ⟨by show i * 1 + 1 ≤ _; simp, _, spl_front _ rfl, ?_⟩
      conv => whnf
      repeat (refine ⟨by omega, _, wRem, ?_⟩; conv => whnf)
      refine ⟨(i : Int) - 1, wI rfl (by omega) (by omega), ?_⟩
      conv => whnf
      have hstep : val (x.drop i) = val ((r * 4294967296 + x.getD i 0) / d :: q) * d + (r * 4294967296 + x.getD i 0) % d := by
        rw [val_drop (by omega), hv, val, Nat.add_mul, Nat.mul_assoc]
        have := Nat.div_add_mod' (r * 4294967296 + x.getD i 0) d
        omega
      refine ⟨⟨(i, (r * 4294967296 + x.getD i 0) / d :: q, (r * 4294967296 + x.getD i 0) % d), by simp only; omega, by simp only [List.length_cons, hq]; omega, Dig.cons hdg hdq, Nat.mod_lt _ hd0, hstep⟩, [], by dsimp only; omega, ?_⟩
      conv => whnf
      repeat' (first | exact rfl | exact trivial | exact ⟨_, rfl⟩ | exact ⟨rfl, rfl, rfl⟩ | refine And.intro ?_ ?_)
    · have h : n = 0 := by first | simpa [-List.getD_eq_getElem?_getD] using h | (simp [-List.getD_eq_getElem?_getD] at h; omega)
      subst h
      conv => whnf
      have hlen : (List.replicate 0 0 ++ q).length = x.length := by simp [hq]
      have hd2 : Dig (List.replicate 0 0 ++ q) := by simpa using hdq
      rw [List.drop_zero] at hv
      have hv2 : val (List.replicate 0 0 ++ q) = val x / d := by
        rw [List.replicate_zero, List.nil_append, hv, Nat.mul_comm, Nat.mul_add_div hd0, Nat.div_eq_of_lt hr, Nat.add_zero]
      have hv3 : r = val x % d := by rw [hv, Nat.mul_comm, Nat.mul_add_mod, Nat.mod_eq_of_lt hr]
      refine ⟨(by repeat' (first | exact rfl | exact trivial | refine And.intro ?_ ?_)), (by repeat' (first | exact rfl | exact trivial | refine And.intro ?_ ?_)), ?_⟩
      conv => whnf
      refine ⟨_, _, trim_spec _ hd2 (by omega), SubL.le (by repeat' (first | exact rfl | exact trivial | exact ⟨_, rfl⟩ | exact ⟨rfl, rfl, rfl⟩ | (exact ⟨false, by rw [hlen]; rfl⟩) | refine And.intro ?_ ?_)), ?_⟩
      conv => whnf
      rw [hv2, hv3]
      repeat' (first | exact rfl | exact trivial | exact ⟨_, rfl⟩ | exact ⟨rfl, rfl, rfl⟩ | refine And.intro ?_ ?_)
theorem divided_ref (a b : Nat) (ha : Sz a) (hb : Kn b) (h0 : b ≠ 0) : FSpec Tryz.prog 190 [encN (limbs a), encN (limbs b)] (.tup [encN (limbs (a / b)), encN (limbs (a % b))]) := by
  have hl := limbs_one h0 hb
  have hsb := hb.sz
  unfold Sz at ha hsb
  refine FSpec.intro ok [] Tryz.func190 rfl rfl (m := 108) rfl ?_
  conv => whnf
  refine ⟨_, _, compared_ref a b (by omega) (by omega), SubL.le (by repeat' (first | exact rfl | exact trivial | exact ⟨_, rfl⟩ | exact ⟨rfl, rfl, rfl⟩ | refine And.intro ?_ ?_)), ?_⟩
  conv => whnf
  refine bcase_intro (fun h => ?_) (fun h => ?_)
  · have h : a < b := cmpN_neg.1 (of_decide_eq_true h)
    conv => whnf
    rw [Nat.div_eq_of_lt h, Nat.mod_eq_of_lt h, limbs_zero]
    repeat' (first | exact rfl | exact trivial | exact ⟨_, rfl⟩ | exact ⟨rfl, rfl, rfl⟩ | refine And.intro ?_ ?_)
  · conv => whnf
    refine bcase_intro (fun h2 => ?_) (fun h2 => ?_)
    · conv => whnf
      refine ⟨0, ⟨rfl, by rw [hl]; exact Nat.zero_lt_one⟩, ?_⟩
      conv => whnf
      refine ⟨u32 b, by rw [hl]; rfl, ?_⟩
      conv => whnf
      refine ⟨_, wU (by unfold Kn at hb; omega), ?_⟩
      conv => whnf
      refine ⟨_, _, shortly_ref (limbs a) b (dig_limbs a) ha (by omega) hb, SubL.le (by repeat' (first | exact rfl | exact trivial | exact ⟨_, rfl⟩ | exact ⟨rfl, rfl, rfl⟩ | refine And.intro ?_ ?_)), ?_⟩
      conv => whnf
      rw [val_limbs]
      have hm : a % b < 4294967296 := Nat.lt_trans (Nat.mod_lt _ (by omega)) hb
      repeat (refine ⟨_, (rfl : (_ : List C)[_]? = some _), ?_⟩; conv => whnf)
      refine ⟨_, _, words_ref (a % b) (by omega), SubL.le (by repeat' (first | exact rfl | exact trivial | exact ⟨_, rfl⟩ | exact ⟨rfl, rfl, rfl⟩ | refine And.intro ?_ ?_)), ?_⟩
      conv => whnf
      repeat' (first | exact rfl | exact trivial | exact ⟨_, rfl⟩ | exact ⟨rfl, rfl, rfl⟩ | refine And.intro ?_ ?_)
    · exfalso
      rw [hl] at h2
      simp at h2
theorem euclid_ref (a b : Nat) : FSpec Tryz.prog 199 [u64 a, u64 b] (u64 (Nat.gcd a b)) := by
  refine FSpec.intro ok [] Tryz.func199 rfl rfl (m := 12) rfl ?_
  conv => whnf
  refine ⟨{ p : Nat × Nat // Nat.gcd p.1 p.2 = Nat.gcd a b }, fun q_ => match q_ with | ⟨(x, y), _⟩ => ⟨[(0, u64 x), (1, u64 y)], []⟩, ⟨[true, true, false, false, false, true, true, true, true, true, true, true, true], [], []⟩, fun q_ => match q_ with | ⟨(x, y), _⟩ => y, ⟨⟨(a, b), rfl⟩, [], ?_⟩, ?_⟩
  · conv => whnf
    repeat' (first | exact rfl | exact trivial | exact ⟨_, rfl⟩ | exact ⟨rfl, rfl, rfl⟩ | refine And.intro ?_ ?_)
  · rintro ⟨⟨x, y⟩, hg⟩
    simp only at hg
    conv => whnf
    refine bcase_intro (fun h => ?_) (fun h => ?_)
    · have h : 0 < y := by first | simpa [-List.getD_eq_getElem?_getD] using h | (simp [-List.getD_eq_getElem?_getD] at h; omega)
      conv => whnf
      repeat (refine ⟨by omega, _, wRem, ?_⟩; conv => whnf)
      refine ⟨⟨(y, x % y), by simp only; rw [← hg, Nat.gcd_comm x y, Nat.gcd_comm y (x % y)]; exact (Nat.gcd_rec y x).symm⟩, [], by exact Nat.mod_lt _ (by omega), ?_⟩
      conv => whnf
      repeat' (first | exact rfl | exact trivial | exact ⟨_, rfl⟩ | exact ⟨rfl, rfl, rfl⟩ | refine And.intro ?_ ?_)
    · have h : y = 0 := by first | simpa [-List.getD_eq_getElem?_getD] using h | (simp [-List.getD_eq_getElem?_getD] at h; omega)
      subst h
      rw [Nat.gcd_zero_right] at hg
      subst hg
      conv => whnf
      repeat' (first | exact rfl | exact trivial | exact ⟨_, rfl⟩ | exact ⟨rfl, rfl, rfl⟩ | refine And.intro ?_ ?_)
theorem common_ref (a b : Nat) (ha : Sz a) (hb : Kn b) : FSpec Tryz.prog 163 [encN (limbs a), encN (limbs b)] (encN (limbs (Nat.gcd a b))) := by
  refine FSpec.intro ok [] Tryz.func163 rfl rfl (m := 31) rfl ?_
  conv => whnf
  refine ⟨{ p : Nat × Nat // Nat.gcd p.1 p.2 = Nat.gcd a b ∧ Sz p.1 ∧ Kn p.2 }, fun q_ => match q_ with | ⟨(x, y), _⟩ => ⟨[(0, encN (limbs x)), (1, encN (limbs y))], []⟩, ⟨[true, true, false, false, true, true, true, true, true, true, true, true, true, true, true, true, true, true, true, true, true, true, true, true, true, true, true, true, true, true, true, true], [], []⟩, fun q_ => match q_ with | ⟨(x, y), _⟩ => y, ⟨⟨(a, b), rfl, ha, hb⟩, [], ?_⟩, ?_⟩
  · conv => whnf
    repeat' (first | exact rfl | exact trivial | exact ⟨_, rfl⟩ | exact ⟨rfl, rfl, rfl⟩ | refine And.intro ?_ ?_)
  · rintro ⟨⟨x, y⟩, hg, hx, hy⟩
    simp only at hg hx hy
    conv => whnf
    refine bcase_intro (fun h => ?_) (fun h => ?_)
    · have h : 0 < (limbs y).length := by first | simpa [-List.getD_eq_getElem?_getD] using h | (simp [-List.getD_eq_getElem?_getD] at h; omega)
      have h0 : y ≠ 0 := fun e => by rw [limbs_nil.2 e] at h; omega
      have hy2 : y < 18446744073709551616 := by unfold Kn at hy; omega
      conv => whnf
      refine bcase_intro (fun h2 => ?_) (fun h2 => ?_)
      · have h2 : (limbs x).length ≤ 2 := by first | simpa [-List.getD_eq_getElem?_getD] using h2 | (simp [-List.getD_eq_getElem?_getD] at h2; omega)
        have hx2 : x < 18446744073709551616 := by have := limbs_length.1 h2; simpa using this
        conv => whnf
        refine bcase_intro (fun h3 => ?_) (fun h3 => ?_)
        · conv => whnf
          refine ⟨_, _, number_ref (limbs x) (dig_limbs x) h2, SubL.le (by repeat' (first | exact rfl | exact trivial | exact ⟨_, rfl⟩ | exact ⟨rfl, rfl, rfl⟩ | refine And.intro ?_ ?_)), ?_⟩
          conv => whnf
          refine ⟨_, _, number_ref (limbs y) (dig_limbs y) (limbs_len_le (by simpa using hy2)), SubL.le (by repeat' (first | exact rfl | exact trivial | exact ⟨_, rfl⟩ | exact ⟨rfl, rfl, rfl⟩ | refine And.intro ?_ ?_)), ?_⟩
          conv => whnf
          rw [val_limbs, val_limbs]
          refine ⟨_, _, euclid_ref x y, SubL.le (by repeat' (first | exact rfl | exact trivial | exact ⟨_, rfl⟩ | exact ⟨rfl, rfl, rfl⟩ | refine And.intro ?_ ?_)), ?_⟩
          conv => whnf
          refine ⟨_, _, words_ref (Nat.gcd x y) (Nat.lt_of_le_of_lt (Nat.gcd_le_right _ (by omega)) hy2), SubL.le (by repeat' (first | exact rfl | exact trivial | exact ⟨_, rfl⟩ | exact ⟨rfl, rfl, rfl⟩ | refine And.intro ?_ ?_)), ?_⟩
          conv => whnf
          rw [hg]
          repeat' (first | exact rfl | exact trivial | exact ⟨_, rfl⟩ | exact ⟨rfl, rfl, rfl⟩ | refine And.intro ?_ ?_)
        · exfalso
          have h3 : ¬ (limbs y).length ≤ 2 := by first | simpa [-List.getD_eq_getElem?_getD] using h3 | (simp [-List.getD_eq_getElem?_getD] at h3; omega)
          exact h3 (limbs_len_le (by simpa using hy2))
      · conv => whnf
        skip
        refine ⟨_, _, divided_ref x y hx hy h0, SubL.le (by repeat' (first | exact rfl | exact trivial | exact ⟨_, rfl⟩ | exact ⟨rfl, rfl, rfl⟩ | refine And.intro ?_ ?_)), ?_⟩
        conv => whnf
        repeat (refine ⟨_, (rfl : (_ : List C)[_]? = some _), ?_⟩; conv => whnf)
        refine ⟨⟨(y, x % y), by simp only; rw [← hg, Nat.gcd_comm x y, Nat.gcd_comm y (x % y)]; exact (Nat.gcd_rec y x).symm, hy.sz, hy.mono (Nat.le_of_lt (Nat.mod_lt _ (by omega)))⟩, [], by exact Nat.mod_lt _ (by omega), ?_⟩
        conv => whnf
        repeat' (first | exact rfl | exact trivial | exact ⟨_, rfl⟩ | exact ⟨rfl, rfl, rfl⟩ | refine And.intro ?_ ?_)
    · have h : (limbs y).length = 0 := by first | simpa [-List.getD_eq_getElem?_getD] using h | (simp [-List.getD_eq_getElem?_getD] at h; omega)
      have h0 : y = 0 := limbs_nil.1 h
      subst h0
      rw [Nat.gcd_zero_right] at hg
      subst hg
      conv => whnf
      repeat' (first | exact rfl | exact trivial | exact ⟨_, rfl⟩ | exact ⟨rfl, rfl, rfl⟩ | refine And.intro ?_ ?_)
end Go.Proofs.YtbhnankggcfndaaGreat
namespace Go.Proofs.YtbhnankggcfndaaGreat
open El
set_option maxRecDepth 10000
set_option maxHeartbeats 2000000
theorem sm64 {m : Nat} (h : m < 18446744073709551616) : (limbs m).length ≤ 1099511627776 := Nat.le_trans (Sm.len h) (by decide)
theorem of_ref (n : Int) (h1 : -9223372036854775808 ≤ n) (h2 : n ≤ 9223372036854775807) : FSpec Tryz.prog 62 [.v (.int .i64 n)] (encI n) := by
  refine FSpec.intro ok [] Tryz.func62 rfl rfl (m := 15) rfl ?_
  conv => whnf
  refine bcase_intro (fun h => ?_) (fun h => ?_)
  · have h : n < 0 := by first | simpa [-List.getD_eq_getElem?_getD] using h | (simp [-List.getD_eq_getElem?_getD] at h; omega)
    conv => whnf
    refine ⟨_, (wI (show n + 1 = n + 1 from rfl) (by omega) (by omega)), ?_⟩
    conv => whnf
    have e0 : IntKind.i64.wrap (0 - (n + 1)) = ((n.natAbs - 1 : Nat) : Int) := wI (by omega) (by omega) (by omega)
    refine ⟨_, e0, ?_⟩
    conv => whnf
    refine ⟨_, (wU (show n.natAbs - 1 < 18446744073709551616 by omega)), ?_⟩
    conv => whnf
    have e3 : IntKind.u64.wrap (((n.natAbs - 1 : Nat) : Int) + 1) = ((n.natAbs : Nat) : Int) := by
      rw [show ((n.natAbs - 1 : Nat) : Int) + 1 = ((n.natAbs : Nat) : Int) by omega]; exact wU (by omega)
    refine ⟨_, e3, ?_⟩
    conv => whnf
    refine ⟨_, _, words_ref n.natAbs (by omega), SubL.le (by repeat' (first | exact rfl | exact trivial | exact ⟨_, rfl⟩ | exact ⟨rfl, rfl, rfl⟩ | refine And.intro ?_ ?_)), ?_⟩
    conv => whnf
    refine ⟨_, _, made_ref (limbs n.natAbs) true (dig_limbs _) (sm64 (by omega)), SubL.le (by repeat' (first | exact rfl | exact trivial | exact ⟨_, rfl⟩ | exact ⟨rfl, rfl, rfl⟩ | refine And.intro ?_ ?_)), ?_⟩
    conv => whnf
    rw [val_limbs, show (if true = true then -((n.natAbs : Nat) : Int) else ((n.natAbs : Nat) : Int)) = n by simp; omega]
    repeat ((first | refine ⟨by first | decide | exact Nat.le_refl _, _, rfl, ?_⟩ | refine ⟨_, rfl, rfl, ?_⟩); conv => whnf)
    repeat' (first | exact rfl | exact trivial | exact ⟨_, rfl⟩ | exact ⟨rfl, rfl, rfl⟩ | refine And.intro ?_ ?_)
  · have h : 0 ≤ n := by first | simpa [-List.getD_eq_getElem?_getD] using h | (simp [-List.getD_eq_getElem?_getD] at h; omega)
    conv => whnf
    have e1 : IntKind.u64.wrap n = ((n.natAbs : Nat) : Int) := by
      rw [show n = ((n.natAbs : Nat) : Int) by omega, wU (by omega)]; simp
    refine ⟨_, e1, ?_⟩
    conv => whnf
    refine ⟨_, _, words_ref n.natAbs (by omega), SubL.le (by repeat' (first | exact rfl | exact trivial | exact ⟨_, rfl⟩ | exact ⟨rfl, rfl, rfl⟩ | refine And.intro ?_ ?_)), ?_⟩
    conv => whnf
    refine ⟨_, _, made_ref (limbs n.natAbs) false (dig_limbs _) (sm64 (by omega)), SubL.le (by repeat' (first | exact rfl | exact trivial | exact ⟨_, rfl⟩ | exact ⟨rfl, rfl, rfl⟩ | refine And.intro ?_ ?_)), ?_⟩
    conv => whnf
    rw [val_limbs, show (if false = true then -((n.natAbs : Nat) : Int) else ((n.natAbs : Nat) : Int)) = n by simp; omega]
    repeat ((first | refine ⟨by first | decide | exact Nat.le_refl _, _, rfl, ?_⟩ | refine ⟨_, rfl, rfl, ?_⟩); conv => whnf)
    repeat' (first | exact rfl | exact trivial | exact ⟨_, rfl⟩ | exact ⟨rfl, rfl, rfl⟩ | refine And.intro ?_ ?_)
theorem sign_ref (z : Int) : FSpec Tryz.prog 118 [encI z] (.v (.int .i64 z.sign)) := by
  refine FSpec.intro ok [] Tryz.func118 rfl rfl (m := 8) rfl ?_
  conv => whnf
  repeat ((first | refine ⟨_, (rfl : (_ : List C)[_]? = some _), ?_⟩ | refine And.intro (by decide : (_ : Nat) ≠ 0) ?_); conv => whnf)
  refine bcase_intro (fun h => ?_) (fun h => ?_)
  · have h : z < 0 := by first | simpa [-List.getD_eq_getElem?_getD] using h | (simp [-List.getD_eq_getElem?_getD] at h; omega)
    conv => whnf
    rw [Int.sign_eq_neg_one_of_neg h]
    repeat' (first | exact rfl | exact trivial | exact ⟨_, rfl⟩ | exact ⟨rfl, rfl, rfl⟩ | refine And.intro ?_ ?_)
  · have h : 0 ≤ z := by first | simpa [-List.getD_eq_getElem?_getD] using h | (simp [-List.getD_eq_getElem?_getD] at h; omega)
    conv => whnf
    repeat ((first | refine ⟨_, (rfl : (_ : List C)[_]? = some _), ?_⟩ | refine And.intro (by decide : (_ : Nat) ≠ 0) ?_); conv => whnf)
    have e : (if false then (if (1 : Int) > ((limbs z.natAbs).length : Int) then (1 : Int) else ((limbs z.natAbs).length : Int)) else (if (1 : Int) < ((limbs z.natAbs).length : Int) then (1 : Int) else ((limbs z.natAbs).length : Int))) = z.sign := by
      have h0 := @limbs_nil z.natAbs
      rcases Int.lt_or_eq_of_le h with h1 | h1
      · rw [Int.sign_eq_one_of_pos h1]
        simp
        omega
      · rw [← h1]
        simp [limbs_zero]
    refine ⟨_, e, ?_⟩
    conv => whnf
    repeat' (first | exact rfl | exact trivial | exact ⟨_, rfl⟩ | exact ⟨rfl, rfl, rfl⟩ | refine And.intro ?_ ?_)
theorem neg_ref (z : Int) (hz : (limbs z.natAbs).length ≤ 1099511627776) : FSpec Tryz.prog 119 [encI z] (encI (-z)) := by
  refine FSpec.intro ok [] Tryz.func119 rfl rfl (m := 8) rfl ?_
  conv => whnf
  repeat ((first | refine ⟨_, (rfl : (_ : List C)[_]? = some _), ?_⟩ | refine And.intro (by decide : (_ : Nat) ≠ 0) ?_); conv => whnf)
  refine ⟨_, _, made_ref (limbs z.natAbs) (!decide (z < 0)) (dig_limbs _) hz, SubL.le (by repeat' (first | exact rfl | exact trivial | exact ⟨_, rfl⟩ | exact ⟨rfl, rfl, rfl⟩ | refine And.intro ?_ ?_)), ?_⟩
  conv => whnf
  rw [val_limbs, show (if (!decide (z < 0)) = true then -(z.natAbs : Int) else (z.natAbs : Int)) = -z by by_cases h : z < 0 <;> simp [h] <;> omega]
  repeat ((first | refine ⟨by first | decide | exact Nat.le_refl _, _, rfl, ?_⟩ | refine ⟨_, rfl, rfl, ?_⟩); conv => whnf)
  repeat' (first | exact rfl | exact trivial | exact ⟨_, rfl⟩ | exact ⟨rfl, rfl, rfl⟩ | refine And.intro ?_ ?_)
theorem mul_ref (a b : Int) (ha : (limbs a.natAbs).length ≤ 1000000000) (hb : (limbs b.natAbs).length ≤ 1000000000) : FSpec Tryz.prog 64 [encI a, encI b] (encI (a * b)) := by
  have hl : (limbs (a.natAbs * b.natAbs)).length ≤ 1099511627776 := Nat.le_trans (limbs_mul_len _ _) (by omega)
  refine FSpec.intro ok [] Tryz.func64 rfl rfl (m := 14) rfl ?_
  conv => whnf
  refine anyC [] [4] (by decide +kernel) ?_
  conv => whnf
  repeat ((first | refine ⟨_, (rfl : (_ : List C)[_]? = some _), ?_⟩ | refine And.intro (by decide : (_ : Nat) ≠ 0) ?_); conv => whnf)
  refine ⟨_, _, times_ref _ _ (dig_limbs a.natAbs) (dig_limbs b.natAbs) ha hb, SubL.le (by repeat' (first | exact rfl | exact trivial | exact ⟨_, rfl⟩ | exact ⟨rfl, rfl, rfl⟩ | refine And.intro ?_ ?_)), ?_⟩
  conv => whnf
  skip
  refine ⟨_, _, made_ref (limbs (a.natAbs * b.natAbs)) (!(decide (a < 0) == decide (b < 0))) (dig_limbs _) hl, SubL.le (by repeat' (first | exact rfl | exact trivial | exact ⟨_, rfl⟩ | exact ⟨rfl, rfl, rfl⟩ | (rw [val_limbs, val_limbs]; exact ⟨_, rfl⟩) | refine And.intro ?_ ?_)), ?_⟩
  conv => whnf
  rw [val_limbs, sgn_mul]
  repeat ((first | refine ⟨by first | decide | exact Nat.le_refl _, _, rfl, ?_⟩ | refine ⟨_, rfl, rfl, ?_⟩); conv => whnf)
  repeat' (first | exact rfl | exact trivial | exact ⟨_, rfl⟩ | exact ⟨rfl, rfl, rfl⟩ | refine And.intro ?_ ?_)
theorem cmp_ref (a b : Int) (ha : (limbs a.natAbs).length ≤ 1000000000) (hb : (limbs b.natAbs).length ≤ 1000000000) : FSpec Tryz.prog 191 [encI a, encI b] (.v (.int .i64 (cmpI a b))) := by
  have hneg : cmpN b.natAbs a.natAbs = cmpI a b ∨ 0 ≤ a ∨ 0 ≤ b := by
    by_cases h1 : 0 ≤ a
    · exact .inr (.inl h1)
    · by_cases h2 : 0 ≤ b
      · exact .inr (.inr h2)
      · left
        unfold cmpN cmpI
        by_cases h3 : a < b
        · rw [if_pos (by omega), if_pos h3]
        · rw [if_neg (by omega), if_neg h3]
          by_cases h4 : b < a
          · rw [if_pos (by omega), if_pos h4]
          · rw [if_neg (by omega), if_neg h4]
  have hpos : 0 ≤ a → 0 ≤ b → cmpN a.natAbs b.natAbs = cmpI a b := by
    intro h1 h2
    unfold cmpN cmpI
    by_cases h3 : a < b
    · rw [if_pos (by omega), if_pos h3]
    · rw [if_neg (by omega), if_neg h3]
      by_cases h4 : b < a
      · rw [if_pos (by omega), if_pos h4]
      · rw [if_neg (by omega), if_neg h4]
  refine FSpec.intro ok [] Tryz.func191 rfl rfl (m := 29) rfl ?_
  conv => whnf
  repeat ((first | refine ⟨_, (rfl : (_ : List C)[_]? = some _), ?_⟩ | refine And.intro (by decide : (_ : Nat) ≠ 0) ?_); conv => whnf)
  refine bcase_intro (fun h => ?_) (fun h => ?_)
  · have h : a < 0 := by first | simpa [-List.getD_eq_getElem?_getD] using h | (simp [-List.getD_eq_getElem?_getD] at h; omega)
    conv => whnf
    repeat ((first | refine ⟨_, (rfl : (_ : List C)[_]? = some _), ?_⟩ | refine And.intro (by decide : (_ : Nat) ≠ 0) ?_); conv => whnf)
    refine bcase_intro (fun h1 => ?_) (fun h1 => ?_)
    · have h1 : 0 ≤ b := by first | simpa [-List.getD_eq_getElem?_getD] using h1 | (simp [-List.getD_eq_getElem?_getD] at h1; omega)
      conv => whnf
      rw [show cmpI a b = -1 by unfold cmpI; rw [if_pos (by omega)]]
      repeat' (first | exact rfl | exact trivial | exact ⟨_, rfl⟩ | exact ⟨rfl, rfl, rfl⟩ | refine And.intro ?_ ?_)
    · have h1 : b < 0 := by first | simpa [-List.getD_eq_getElem?_getD] using h1 | (simp [-List.getD_eq_getElem?_getD] at h1; omega)
      conv => whnf
      repeat ((first | refine ⟨_, (rfl : (_ : List C)[_]? = some _), ?_⟩ | refine And.intro (by decide : (_ : Nat) ≠ 0) ?_); conv => whnf)
      refine bcase_intro (fun h2 => ?_) (fun h2 => ?_)
      · exfalso
        simp at h2
        omega
      · conv => whnf
        repeat ((first | refine ⟨_, (rfl : (_ : List C)[_]? = some _), ?_⟩ | refine And.intro (by decide : (_ : Nat) ≠ 0) ?_); conv => whnf)
        refine bcase_intro (fun h3 => ?_) (fun h3 => ?_)
        · conv => whnf
          repeat ((first | refine ⟨_, (rfl : (_ : List C)[_]? = some _), ?_⟩ | refine And.intro (by decide : (_ : Nat) ≠ 0) ?_); conv => whnf)
          refine ⟨_, _, compared_ref b.natAbs a.natAbs (by omega) (by omega), SubL.le (by repeat' (first | exact rfl | exact trivial | exact ⟨_, rfl⟩ | exact ⟨rfl, rfl, rfl⟩ | refine And.intro ?_ ?_)), ?_⟩
          conv => whnf
          rcases hneg with e | e | e
          · rw [e]
            repeat' (first | exact rfl | exact trivial | exact ⟨_, rfl⟩ | exact ⟨rfl, rfl, rfl⟩ | refine And.intro ?_ ?_)
          · omega
          · omega
        · exfalso
          simp at h3
          omega
  · have h : 0 ≤ a := by first | simpa [-List.getD_eq_getElem?_getD] using h | (simp [-List.getD_eq_getElem?_getD] at h; omega)
    conv => whnf
    repeat ((first | refine ⟨_, (rfl : (_ : List C)[_]? = some _), ?_⟩ | refine And.intro (by decide : (_ : Nat) ≠ 0) ?_); conv => whnf)
    refine bcase_intro (fun h2 => ?_) (fun h2 => ?_)
    · conv => whnf
      repeat ((first | refine ⟨_, (rfl : (_ : List C)[_]? = some _), ?_⟩ | refine And.intro (by decide : (_ : Nat) ≠ 0) ?_); conv => whnf)
      refine bcase_intro (fun h3 => ?_) (fun h3 => ?_)
      · have h3 : b < 0 := by first | simpa [-List.getD_eq_getElem?_getD] using h3 | (simp [-List.getD_eq_getElem?_getD] at h3; omega)
        conv => whnf
        rw [show cmpI a b = 1 by unfold cmpI; rw [if_neg (by omega), if_pos (by omega)]]
        repeat' (first | exact rfl | exact trivial | exact ⟨_, rfl⟩ | exact ⟨rfl, rfl, rfl⟩ | refine And.intro ?_ ?_)
      · have h3 : 0 ≤ b := by first | simpa [-List.getD_eq_getElem?_getD] using h3 | (simp [-List.getD_eq_getElem?_getD] at h3; omega)
        conv => whnf
        repeat ((first | refine ⟨_, (rfl : (_ : List C)[_]? = some _), ?_⟩ | refine And.intro (by decide : (_ : Nat) ≠ 0) ?_); conv => whnf)
        refine bcase_intro (fun h4 => ?_) (fun h4 => ?_)
        · exfalso
          simp at h4
          omega
        · conv => whnf
          repeat ((first | refine ⟨_, (rfl : (_ : List C)[_]? = some _), ?_⟩ | refine And.intro (by decide : (_ : Nat) ≠ 0) ?_); conv => whnf)
          refine ⟨_, _, compared_ref a.natAbs b.natAbs (by omega) (by omega), SubL.le (by repeat' (first | exact rfl | exact trivial | exact ⟨_, rfl⟩ | exact ⟨rfl, rfl, rfl⟩ | refine And.intro ?_ ?_)), ?_⟩
          conv => whnf
          rw [hpos h h3]
          repeat' (first | exact rfl | exact trivial | exact ⟨_, rfl⟩ | exact ⟨rfl, rfl, rfl⟩ | refine And.intro ?_ ?_)
    · exfalso
      simp at h2
      omega
theorem add_ref (a b : Int) (ha : (limbs a.natAbs).length ≤ 1000000000) (hb : (limbs b.natAbs).length ≤ 1000000000) : FSpec Tryz.prog 63 [encI a, encI b] (encI (a + b)) := by
  have hadd : (limbs (a.natAbs + b.natAbs)).length ≤ 1099511627776 := by
    refine Nat.le_trans (limbs_len_le (k := max (limbs a.natAbs).length (limbs b.natAbs).length + 1) ?_) (by omega)
    have h1 : a.natAbs < 4294967296 ^ max (limbs a.natAbs).length (limbs b.natAbs).length := limbs_length.1 (Nat.le_max_left ..)
    have h2 : b.natAbs < 4294967296 ^ max (limbs a.natAbs).length (limbs b.natAbs).length := limbs_length.1 (Nat.le_max_right ..)
    rw [Nat.pow_succ]
    omega
  have hsub : ∀ x y : Nat, (limbs x).length ≤ 1000000000 → (limbs (x - y)).length ≤ 1099511627776 := by
    intro x y hx
    refine Nat.le_trans (limbs_len_le (k := (limbs x).length) ?_) (by omega)
    exact Nat.lt_of_le_of_lt (Nat.sub_le _ _) (limbs_length.1 (Nat.le_refl _))
  have hmono : ∀ x y : Nat, x ≤ y → (limbs x).length ≤ (limbs y).length := fun x y h => limbs_len_le (Nat.lt_of_le_of_lt h (limbs_length.1 (Nat.le_refl _)))
  refine FSpec.intro ok [] Tryz.func63 rfl rfl (m := 38) rfl ?_
  conv => whnf
  repeat ((first | refine ⟨_, (rfl : (_ : List C)[_]? = some _), ?_⟩ | refine And.intro (by decide : (_ : Nat) ≠ 0) ?_); conv => whnf)
  refine bcase_intro (fun h => ?_) (fun h => ?_)
  · have h : (a < 0) ↔ (b < 0) := by first | simpa [-List.getD_eq_getElem?_getD] using h | (simp [-List.getD_eq_getElem?_getD] at h; omega)
    conv => whnf
    refine anyC [] [4] (by decide +kernel) ?_
    conv => whnf
    repeat ((first | refine ⟨_, (rfl : (_ : List C)[_]? = some _), ?_⟩ | refine And.intro (by decide : (_ : Nat) ≠ 0) ?_); conv => whnf)
    refine ⟨_, _, added_ref _ _ (dig_limbs a.natAbs) (dig_limbs b.natAbs) ha hb, SubL.le (by repeat' (first | exact rfl | exact trivial | exact ⟨_, rfl⟩ | exact ⟨rfl, rfl, rfl⟩ | refine And.intro ?_ ?_)), ?_⟩
    conv => whnf
    skip
    refine ⟨_, _, made_ref (limbs (a.natAbs + b.natAbs)) (decide (a < 0)) (dig_limbs _) hadd, SubL.le (by repeat' (first | exact rfl | exact trivial | exact ⟨_, rfl⟩ | exact ⟨rfl, rfl, rfl⟩ | (rw [val_limbs, val_limbs]; exact ⟨_, rfl⟩) | refine And.intro ?_ ?_)), ?_⟩
    conv => whnf
    rw [val_limbs, show (if decide (a < 0) = true then -((a.natAbs + b.natAbs : Nat) : Int) else ((a.natAbs + b.natAbs : Nat) : Int)) = a + b by by_cases h1 : a < 0 <;> simp [h1] at h ⊢ <;> omega]
    repeat ((first | refine ⟨by first | decide | exact Nat.le_refl _, _, rfl, ?_⟩ | refine ⟨_, rfl, rfl, ?_⟩); conv => whnf)
    repeat' (first | exact rfl | exact trivial | exact ⟨_, rfl⟩ | exact ⟨rfl, rfl, rfl⟩ | refine And.intro ?_ ?_)
  · have h : ¬ ((a < 0) ↔ (b < 0)) := by first | simpa [-List.getD_eq_getElem?_getD] using h | (simp [-List.getD_eq_getElem?_getD] at h; omega)
    conv => whnf
    repeat ((first | refine ⟨_, (rfl : (_ : List C)[_]? = some _), ?_⟩ | refine And.intro (by decide : (_ : Nat) ≠ 0) ?_); conv => whnf)
    refine ⟨_, _, compared_ref a.natAbs b.natAbs (by omega) (by omega), SubL.le (by repeat' (first | exact rfl | exact trivial | exact ⟨_, rfl⟩ | exact ⟨rfl, rfl, rfl⟩ | refine And.intro ?_ ?_)), ?_⟩
    conv => whnf
    refine bcase_intro (fun h2 => ?_) (fun h2 => ?_)
    · have h2 : a.natAbs < b.natAbs := cmpN_neg.1 (of_decide_eq_true h2)
      conv => whnf
      refine anyC [] [4] (by decide +kernel) ?_
      conv => whnf
      repeat ((first | refine ⟨_, (rfl : (_ : List C)[_]? = some _), ?_⟩ | refine And.intro (by decide : (_ : Nat) ≠ 0) ?_); conv => whnf)
      refine ⟨_, _, taken_ref _ _ (dig_limbs b.natAbs) (dig_limbs a.natAbs) hb (hmono _ _ (by omega)) (by rw [val_limbs, val_limbs]; omega), SubL.le (by repeat' (first | exact rfl | exact trivial | exact ⟨_, rfl⟩ | exact ⟨rfl, rfl, rfl⟩ | refine And.intro ?_ ?_)), ?_⟩
      conv => whnf
      skip
      refine ⟨_, _, made_ref (limbs (b.natAbs - a.natAbs)) (decide (b < 0)) (dig_limbs _) (hsub _ _ hb), SubL.le (by repeat' (first | exact rfl | exact trivial | exact ⟨_, rfl⟩ | exact ⟨rfl, rfl, rfl⟩ | (rw [val_limbs, val_limbs]; exact ⟨_, rfl⟩) | refine And.intro ?_ ?_)), ?_⟩
      conv => whnf
      rw [val_limbs, show (if decide (b < 0) = true then -((b.natAbs - a.natAbs : Nat) : Int) else ((b.natAbs - a.natAbs : Nat) : Int)) = a + b by by_cases h1 : b < 0 <;> simp [h1] at h ⊢ <;> omega]
      repeat ((first | refine ⟨by first | decide | exact Nat.le_refl _, _, rfl, ?_⟩ | refine ⟨_, rfl, rfl, ?_⟩); conv => whnf)
      repeat' (first | exact rfl | exact trivial | exact ⟨_, rfl⟩ | exact ⟨rfl, rfl, rfl⟩ | refine And.intro ?_ ?_)
    · have h2 : b.natAbs ≤ a.natAbs := Nat.not_lt.1 fun h3 => of_decide_eq_false h2 (cmpN_neg.2 h3)
      conv => whnf
      refine anyC [] [4] (by decide +kernel) ?_
      conv => whnf
      repeat ((first | refine ⟨_, (rfl : (_ : List C)[_]? = some _), ?_⟩ | refine And.intro (by decide : (_ : Nat) ≠ 0) ?_); conv => whnf)
      refine ⟨_, _, taken_ref _ _ (dig_limbs a.natAbs) (dig_limbs b.natAbs) ha (hmono _ _ (by omega)) (by rw [val_limbs, val_limbs]; omega), SubL.le (by repeat' (first | exact rfl | exact trivial | exact ⟨_, rfl⟩ | exact ⟨rfl, rfl, rfl⟩ | refine And.intro ?_ ?_)), ?_⟩
      conv => whnf
      skip
      refine ⟨_, _, made_ref (limbs (a.natAbs - b.natAbs)) (decide (a < 0)) (dig_limbs _) (hsub _ _ ha), SubL.le (by repeat' (first | exact rfl | exact trivial | exact ⟨_, rfl⟩ | exact ⟨rfl, rfl, rfl⟩ | (rw [val_limbs, val_limbs]; exact ⟨_, rfl⟩) | refine And.intro ?_ ?_)), ?_⟩
      conv => whnf
      rw [val_limbs, show (if decide (a < 0) = true then -((a.natAbs - b.natAbs : Nat) : Int) else ((a.natAbs - b.natAbs : Nat) : Int)) = a + b by by_cases h1 : a < 0 <;> simp [h1] at h ⊢ <;> omega]
      repeat ((first | refine ⟨by first | decide | exact Nat.le_refl _, _, rfl, ?_⟩ | refine ⟨_, rfl, rfl, ?_⟩); conv => whnf)
      repeat' (first | exact rfl | exact trivial | exact ⟨_, rfl⟩ | exact ⟨rfl, rfl, rfl⟩ | refine And.intro ?_ ?_)
theorem valid_ref (z : Int) (hz : (limbs z.natAbs).length ≤ 1000000000) : FSpec Tryz.prog 218 [encI z] (.v (.bool true)) := by
  refine FSpec.intro ok [] Tryz.func218 rfl rfl (m := 18) rfl ?_
  conv => whnf
  repeat ((first | refine ⟨_, (rfl : (_ : List C)[_]? = some _), ?_⟩ | refine And.intro (by decide : (_ : Nat) ≠ 0) ?_); conv => whnf)
  refine bcase_intro (fun h => ?_) (fun h => ?_)
  · have h : (limbs z.natAbs).length = 0 := by first | simpa [-List.getD_eq_getElem?_getD] using h | (simp [-List.getD_eq_getElem?_getD] at h; omega)
    have h1 : z = 0 := by have := limbs_nil.1 h; omega
    subst h1
    conv => whnf
    repeat ((first | refine ⟨_, (rfl : (_ : List C)[_]? = some _), ?_⟩ | refine And.intro (by decide : (_ : Nat) ≠ 0) ?_); conv => whnf)
    repeat' (first | exact rfl | exact trivial | exact ⟨_, rfl⟩ | exact ⟨rfl, rfl, rfl⟩ | refine And.intro ?_ ?_)
  · have h : ¬ (limbs z.natAbs).length = 0 := by first | simpa [-List.getD_eq_getElem?_getD] using h | (simp [-List.getD_eq_getElem?_getD] at h; omega)
    conv => whnf
    repeat ((first | refine ⟨_, wSub1 (by omega) (by omega), ?_⟩ | refine ⟨_, ⟨rfl, by omega⟩, ?_⟩ | refine ⟨_, map_at 0 (by omega), ?_⟩ | refine ⟨_, (rfl : (_ : List C)[_]? = some _), ?_⟩ | refine And.intro (by decide : (_ : Nat) ≠ 0) ?_); conv => whnf)
    have h1 : z.natAbs ≠ 0 := fun h2 => by rw [limbs_nil.2 h2] at h; omega
    have h2 := limbs_getLast h1
    rw [show ((((limbs z.natAbs).getD ((limbs z.natAbs).length - 1) 0 : Nat) : Int) != 0) = true by simpa [-List.getD_eq_getElem?_getD] using h2]
    repeat' (first | exact rfl | exact trivial | exact ⟨_, rfl⟩ | exact ⟨rfl, rfl, rfl⟩ | refine And.intro ?_ ?_)
theorem gcd_ref (a b : Int) (ha : Sz a.natAbs) (hb : Kn b.natAbs) : FSpec Tryz.prog 117 [encI a, encI b] (encI (Int.gcd a b : Nat)) := by
  have hl : Sz (Int.gcd a b) := by
    by_cases h0 : b.natAbs = 0
    · rw [show Int.gcd a b = a.natAbs by rw [Int.gcd, h0, Nat.gcd_zero_right]]; exact ha
    · exact hb.sz.mono (Nat.gcd_le_right _ (by omega))
  unfold Sz at hl
  refine FSpec.intro ok [] Tryz.func117 rfl rfl (m := 9) rfl ?_
  conv => whnf
  repeat ((first | refine ⟨_, (rfl : (_ : List C)[_]? = some _), ?_⟩ | refine And.intro (by decide : (_ : Nat) ≠ 0) ?_); conv => whnf)
  refine ⟨_, _, common_ref a.natAbs b.natAbs ha hb, SubL.le (by repeat' (first | exact rfl | exact trivial | exact ⟨_, rfl⟩ | exact ⟨rfl, rfl, rfl⟩ | refine And.intro ?_ ?_)), ?_⟩
  conv => whnf
  refine ⟨_, _, made_ref (limbs (Nat.gcd a.natAbs b.natAbs)) false (dig_limbs _) (Nat.le_trans hl (by decide)), SubL.le (by repeat' (first | exact rfl | exact trivial | exact ⟨_, rfl⟩ | exact ⟨rfl, rfl, rfl⟩ | refine And.intro ?_ ?_)), ?_⟩
  conv => whnf
  rw [val_limbs]
  repeat ((first | refine ⟨by first | decide | exact Nat.le_refl _, _, rfl, ?_⟩ | refine ⟨_, rfl, rfl, ?_⟩); conv => whnf)
  repeat' (first | exact rfl | exact trivial | exact ⟨_, rfl⟩ | exact ⟨rfl, rfl, rfl⟩ | refine And.intro ?_ ?_)
theorem dmod_ref (a b : Int) (ha : (limbs a.natAbs).length ≤ 999999999) (hb : Kn b.natAbs) (h0 : b ≠ 0) : FSpec Tryz.prog 149 [encI a, encI b] (.tup [encI (a / b), encI (a % b), .v (.int .i64 0)]) := by
  have hb0 : b.natAbs ≠ 0 := by omega
  have hn1 : (limbs (a.natAbs / b.natAbs)).length ≤ 999999999 := Nat.le_trans (limbs_len_le (Nat.lt_of_le_of_lt (Nat.div_le_self _ _) (limbs_length.1 (Nat.le_refl _)))) ha
  have hn2 : Sz (a.natAbs % b.natAbs) := hb.sz.mono (Nat.le_of_lt (Nat.mod_lt _ (by omega)))
  have hsb := hb.sz
  refine FSpec.intro ok [] Tryz.func149 rfl rfl (m := 44) rfl ?_
  conv => whnf
  repeat ((first | refine ⟨_, (rfl : (_ : List C)[_]? = some _), ?_⟩ | refine And.intro (by decide : (_ : Nat) ≠ 0) ?_); conv => whnf)
  refine bcase_intro (fun h => ?_) (fun h => ?_)
  · exfalso
    have h : (limbs b.natAbs).length = 0 := by first | simpa [-List.getD_eq_getElem?_getD] using h | (simp [-List.getD_eq_getElem?_getD] at h; omega)
    exact hb0 (limbs_nil.1 h)
  · conv => whnf
    repeat ((first | refine ⟨_, (rfl : (_ : List C)[_]? = some _), ?_⟩ | refine And.intro (by decide : (_ : Nat) ≠ 0) ?_); conv => whnf)
    refine ⟨_, _, divided_ref a.natAbs b.natAbs (Nat.le_trans ha (by decide)) hb hb0, SubL.le (by repeat' (first | exact rfl | exact trivial | exact ⟨_, rfl⟩ | exact ⟨rfl, rfl, rfl⟩ | refine And.intro ?_ ?_)), ?_⟩
    conv => whnf
    repeat ((first | refine ⟨_, (rfl : (_ : List C)[_]? = some _), ?_⟩ | refine And.intro (by decide : (_ : Nat) ≠ 0) ?_); conv => whnf)
    refine bcase_intro (fun h2 => ?_) (fun h2 => ?_)
    · have h2 : a < 0 := by first | simpa [-List.getD_eq_getElem?_getD] using h2 | (simp [-List.getD_eq_getElem?_getD] at h2; omega)
      conv => whnf
      refine bcase_intro (fun h3 => ?_) (fun h3 => ?_)
      · have h3 : 0 < (limbs (a.natAbs % b.natAbs)).length := by first | simpa [-List.getD_eq_getElem?_getD] using h3 | (simp [-List.getD_eq_getElem?_getD] at h3; omega)
        have hr : a.natAbs % b.natAbs ≠ 0 := fun e => by rw [limbs_nil.2 e] at h3; omega
        have hlt : a.natAbs % b.natAbs < b.natAbs := Nat.mod_lt _ (by omega)
        conv => whnf
        skip
        refine ⟨_, _, added_ref (limbs (a.natAbs / b.natAbs)) [1] (dig_limbs _) (Dig.cons (by decide) Dig.nil) (by omega) (by simp), SubL.le (by repeat' (first | exact rfl | exact trivial | exact ⟨_, rfl⟩ | exact ⟨rfl, rfl, rfl⟩ | refine And.intro ?_ ?_)), ?_⟩
        conv => whnf
        repeat ((first | refine ⟨_, (rfl : (_ : List C)[_]? = some _), ?_⟩ | refine And.intro (by decide : (_ : Nat) ≠ 0) ?_); conv => whnf)
        refine ⟨_, _, taken_ref (limbs b.natAbs) (limbs (a.natAbs % b.natAbs)) (dig_limbs _) (dig_limbs _) hsb (limbs_len_le (Nat.lt_trans hlt (limbs_length.1 (Nat.le_refl _)))) (by rw [val_limbs, val_limbs]; omega), SubL.le (by repeat' (first | exact rfl | exact trivial | exact ⟨_, rfl⟩ | exact ⟨rfl, rfl, rfl⟩ | refine And.intro ?_ ?_)), ?_⟩
        conv => whnf
        rw [val_limbs, val_limbs, val_limbs, show val [1] = 1 from rfl]
        repeat ((first | refine ⟨_, (rfl : (_ : List C)[_]? = some _), ?_⟩ | refine And.intro (by decide : (_ : Nat) ≠ 0) ?_); conv => whnf)
        have hq : (limbs (a.natAbs / b.natAbs + 1)).length ≤ 1000000000 := by
          refine Nat.le_trans (limbs_len_le (k := (limbs (a.natAbs / b.natAbs)).length + 1) ?_) (by omega)
          have h4 : a.natAbs / b.natAbs < 4294967296 ^ (limbs (a.natAbs / b.natAbs)).length := limbs_length.1 (Nat.le_refl _)
          rw [Nat.pow_succ]
          generalize a.natAbs / b.natAbs = Q at h4 ⊢
          generalize 4294967296 ^ (limbs Q).length = W at h4 ⊢
          omega
        have hs2 : Sz (b.natAbs - a.natAbs % b.natAbs) := hsb.mono (Nat.sub_le _ _)
        unfold Sz at hs2
        refine ⟨_, _, made_ref (limbs (a.natAbs / b.natAbs + 1)) (decide (a < 0) != decide (b < 0)) (dig_limbs _) (by omega), SubL.le (by repeat' (first | exact rfl | exact trivial | exact ⟨_, rfl⟩ | exact ⟨rfl, rfl, rfl⟩ | refine And.intro ?_ ?_)), ?_⟩
        conv => whnf
        refine ⟨_, _, made_ref (limbs (b.natAbs - a.natAbs % b.natAbs)) false (dig_limbs _) (by omega), SubL.le (by repeat' (first | exact rfl | exact trivial | exact ⟨_, rfl⟩ | exact ⟨rfl, rfl, rfl⟩ | refine And.intro ?_ ?_)), ?_⟩
        conv => whnf
        rw [val_limbs, val_limbs]
        repeat ((first | refine ⟨by first | decide | exact Nat.le_refl _, _, rfl, ?_⟩ | refine ⟨_, rfl, rfl, ?_⟩); conv => whnf)
        rw [(quo_neg h0 h2 hr).1, (quo_neg h0 h2 hr).2]
        repeat' (first | exact rfl | exact trivial | exact ⟨_, rfl⟩ | exact ⟨rfl, rfl, rfl⟩ | refine And.intro ?_ ?_)
      · have h3 : (limbs (a.natAbs % b.natAbs)).length = 0 := by first | simpa [-List.getD_eq_getElem?_getD] using h3 | (simp [-List.getD_eq_getElem?_getD] at h3; omega)
        have hr : a.natAbs % b.natAbs = 0 := limbs_nil.1 h3
        conv => whnf
        repeat ((first | refine ⟨_, (rfl : (_ : List C)[_]? = some _), ?_⟩ | refine And.intro (by decide : (_ : Nat) ≠ 0) ?_); conv => whnf)
        unfold Sz at hn2
        refine ⟨_, _, made_ref (limbs (a.natAbs / b.natAbs)) (decide (a < 0) != decide (b < 0)) (dig_limbs _) (by omega), SubL.le (by repeat' (first | exact rfl | exact trivial | exact ⟨_, rfl⟩ | exact ⟨rfl, rfl, rfl⟩ | refine And.intro ?_ ?_)), ?_⟩
        conv => whnf
        refine ⟨_, _, made_ref (limbs (a.natAbs % b.natAbs)) false (dig_limbs _) (by omega), SubL.le (by repeat' (first | exact rfl | exact trivial | exact ⟨_, rfl⟩ | exact ⟨rfl, rfl, rfl⟩ | refine And.intro ?_ ?_)), ?_⟩
        conv => whnf
        rw [val_limbs, val_limbs]
        repeat ((first | refine ⟨by first | decide | exact Nat.le_refl _, _, rfl, ?_⟩ | refine ⟨_, rfl, rfl, ?_⟩); conv => whnf)
        rw [(quo_pos h0 (.inr hr)).1, (quo_pos h0 (.inr hr)).2]
        repeat' (first | exact rfl | exact trivial | exact ⟨_, rfl⟩ | exact ⟨rfl, rfl, rfl⟩ | refine And.intro ?_ ?_)
    · have h2 : 0 ≤ a := by first | simpa [-List.getD_eq_getElem?_getD] using h2 | (simp [-List.getD_eq_getElem?_getD] at h2; omega)
      conv => whnf
      repeat ((first | refine ⟨_, (rfl : (_ : List C)[_]? = some _), ?_⟩ | refine And.intro (by decide : (_ : Nat) ≠ 0) ?_); conv => whnf)
      unfold Sz at hn2
      refine ⟨_, _, made_ref (limbs (a.natAbs / b.natAbs)) (decide (a < 0) != decide (b < 0)) (dig_limbs _) (by omega), SubL.le (by repeat' (first | exact rfl | exact trivial | exact ⟨_, rfl⟩ | exact ⟨rfl, rfl, rfl⟩ | refine And.intro ?_ ?_)), ?_⟩
      conv => whnf
      refine ⟨_, _, made_ref (limbs (a.natAbs % b.natAbs)) false (dig_limbs _) (by omega), SubL.le (by repeat' (first | exact rfl | exact trivial | exact ⟨_, rfl⟩ | exact ⟨rfl, rfl, rfl⟩ | refine And.intro ?_ ?_)), ?_⟩
      conv => whnf
      rw [val_limbs, val_limbs]
      repeat ((first | refine ⟨by first | decide | exact Nat.le_refl _, _, rfl, ?_⟩ | refine ⟨_, rfl, rfl, ?_⟩); conv => whnf)
      rw [(quo_pos h0 (.inl h2)).1, (quo_pos h0 (.inl h2)).2]
      repeat' (first | exact rfl | exact trivial | exact ⟨_, rfl⟩ | exact ⟨rfl, rfl, rfl⟩ | refine And.intro ?_ ?_)
end Go.Proofs.YtbhnankggcfndaaGreat
namespace Go.Proofs.YtbhnankggcfndaaGreat
open El
set_option maxRecDepth 10000
set_option maxHeartbeats 2000000
theorem exact_ref (a b : Int) (ha : (limbs a.natAbs).length ≤ 999999999) (hb : Kn b.natAbs) (h0 : b ≠ 0) : FSpec Tryz.prog 120 [encI a, encI b] (encI (a / b)) := by
  refine FSpec.intro ok [] Tryz.func120 rfl rfl (m := 14) rfl ?_
  conv => whnf
  repeat (refine ⟨_, rfl, rfl, ?_⟩; conv => whnf)
  refine ⟨_, _, dmod_ref a b ha hb h0, SubL.le (by repeat' (first | exact rfl | exact trivial | exact ⟨_, rfl⟩ | exact ⟨rfl, rfl, rfl⟩ | refine And.intro ?_ ?_)), ?_⟩
  conv => whnf
  repeat ((first | refine ⟨_, (rfl : (_ : List C)[_]? = some _), ?_⟩ | refine ⟨by first | decide | exact Nat.le_refl _, _, rfl, ?_⟩ | refine ⟨_, rfl, rfl, ?_⟩); conv => whnf)
  repeat' (first | exact rfl | exact trivial | exact ⟨_, rfl⟩ | exact ⟨rfl, rfl, rfl⟩ | refine And.intro ?_ ?_)
theorem lowest_ref (n d : Int) (hn : Sm n.natAbs) (hd : Kn d.natAbs) (h0 : d ≠ 0) : FSpec Tryz.prog 65 [encI n, encI d] (encQ (Rat.divInt n d)) := by
  have hgd : Int.gcd n d ≤ d.natAbs := Nat.gcd_le_right _ (by omega)
  have hg0 : Int.gcd n d ≠ 0 := by have := Int.gcd_pos_of_ne_zero_right n h0; omega
  have hg : Kn (Int.gcd n d) := Kn.mono hgd hd
  obtain ⟨p1, p2⟩ := divInt_parts n d h0
  refine FSpec.intro ok [] Tryz.func65 rfl rfl (m := 19) rfl ?_
  conv => whnf
  repeat (refine ⟨_, rfl, rfl, ?_⟩; conv => whnf)
  refine ⟨_, _, gcd_ref n d hn.sz hd, SubL.le (by repeat' (first | exact rfl | exact trivial | exact ⟨_, rfl⟩ | exact ⟨rfl, rfl, rfl⟩ | refine And.intro ?_ ?_)), ?_⟩
  conv => whnf
  repeat ((first | refine ⟨by first | decide | exact Nat.le_refl _, _, rfl, ?_⟩ | refine ⟨_, rfl, rfl, ?_⟩); conv => whnf)
  refine ⟨_, _, sign_ref d, SubL.le (by repeat' (first | exact rfl | exact trivial | exact ⟨_, rfl⟩ | exact ⟨rfl, rfl, rfl⟩ | refine And.intro ?_ ?_)), ?_⟩
  conv => whnf
  refine bcase_intro (fun h => ?_) (fun h => ?_)
  · have h : d < 0 := by first | simpa [-List.getD_eq_getElem?_getD] using h | (simp [-List.getD_eq_getElem?_getD] at h; omega)
    rw [if_pos h] at p1 p2
    conv => whnf
    repeat (refine ⟨_, rfl, rfl, ?_⟩; conv => whnf)
    refine ⟨_, _, neg_ref ((Int.gcd n d : Nat) : Int) (Nat.le_trans (Kn.sz hg) (by decide)), SubL.le (by repeat' (first | exact rfl | exact trivial | exact ⟨_, rfl⟩ | exact ⟨rfl, rfl, rfl⟩ | refine And.intro ?_ ?_)), ?_⟩
    conv => whnf
    repeat ((first | refine anyA (by decide +kernel) ?_ | refine ⟨by first | decide | exact Nat.le_refl _, _, rfl, ?_⟩ | refine ⟨_, rfl, rfl, ?_⟩); conv => whnf)
    refine ⟨_, _, exact_ref n (-((Int.gcd n d : Nat) : Int)) hn.len (by simpa using hg) (by omega), SubL.le (by repeat' (first | exact rfl | exact trivial | exact ⟨_, rfl⟩ | exact ⟨rfl, rfl, rfl⟩ | refine And.intro ?_ ?_)), ?_⟩
    conv => whnf
    repeat (refine ⟨_, rfl, rfl, ?_⟩; conv => whnf)
    refine ⟨_, _, exact_ref d (-((Int.gcd n d : Nat) : Int)) hd.sm.len (by simpa using hg) (by omega), SubL.le (by repeat' (first | exact rfl | exact trivial | exact ⟨_, rfl⟩ | exact ⟨rfl, rfl, rfl⟩ | refine And.intro ?_ ?_)), ?_⟩
    conv => whnf
    repeat ((first | refine ⟨by first | decide | exact Nat.le_refl _, _, rfl, ?_⟩ | refine ⟨_, rfl, rfl, ?_⟩); conv => whnf)
    rw [← p1, ← p2]
    repeat' (first | exact rfl | exact trivial | exact ⟨_, rfl⟩ | exact ⟨rfl, rfl, rfl⟩ | refine And.intro ?_ ?_)
  · have h : ¬ d < 0 := by first | simpa [-List.getD_eq_getElem?_getD] using h | (simp [-List.getD_eq_getElem?_getD] at h; omega)
    rw [if_neg h] at p1 p2
    conv => whnf
    repeat ((first | refine anyA (by decide +kernel) ?_ | refine ⟨_, rfl, rfl, ?_⟩); conv => whnf)
    refine ⟨_, _, exact_ref n ((Int.gcd n d : Nat) : Int) hn.len (by simpa using hg) (by omega), SubL.le (by repeat' (first | exact rfl | exact trivial | exact ⟨_, rfl⟩ | exact ⟨rfl, rfl, rfl⟩ | refine And.intro ?_ ?_)), ?_⟩
    conv => whnf
    repeat (refine ⟨_, rfl, rfl, ?_⟩; conv => whnf)
    refine ⟨_, _, exact_ref d ((Int.gcd n d : Nat) : Int) hd.sm.len (by simpa using hg) (by omega), SubL.le (by repeat' (first | exact rfl | exact trivial | exact ⟨_, rfl⟩ | exact ⟨rfl, rfl, rfl⟩ | refine And.intro ?_ ?_)), ?_⟩
    conv => whnf
    repeat ((first | refine ⟨by first | decide | exact Nat.le_refl _, _, rfl, ?_⟩ | refine ⟨_, rfl, rfl, ?_⟩); conv => whnf)
    rw [← p1, ← p2]
    repeat' (first | exact rfl | exact trivial | exact ⟨_, rfl⟩ | exact ⟨rfl, rfl, rfl⟩ | refine And.intro ?_ ?_)
theorem whole_ref (n : Int) (h1 : -9223372036854775808 ≤ n) (h2 : n ≤ 9223372036854775807) : FSpec Tryz.prog 26 [.v (.int .i64 n)] (encQ n) := by
  refine FSpec.intro ok [] Tryz.func26 rfl rfl (m := 6) rfl ?_
  conv => whnf
  skip
  refine ⟨_, _, of_ref n h1 h2, SubL.le (by repeat' (first | exact rfl | exact trivial | exact ⟨_, rfl⟩ | exact ⟨rfl, rfl, rfl⟩ | refine And.intro ?_ ?_)), ?_⟩
  conv => whnf
  refine ⟨_, _, of_ref 1 (by decide) (by decide), SubL.le (by repeat' (first | exact rfl | exact trivial | exact ⟨_, rfl⟩ | exact ⟨rfl, rfl, rfl⟩ | refine And.intro ?_ ?_)), ?_⟩
  conv => whnf
  repeat ((first | refine ⟨by first | decide | exact Nat.le_refl _, _, rfl, ?_⟩ | refine ⟨_, rfl, rfl, ?_⟩); conv => whnf)
  repeat' (first | exact rfl | exact trivial | exact ⟨_, rfl⟩ | exact ⟨rfl, rfl, rfl⟩ | refine And.intro ?_ ?_)
theorem new_ref (n d : Int) (hn : Sm n.natAbs) (hd : Kn d.natAbs) (h0 : d ≠ 0) : FSpec Tryz.prog 150 [encI n, encI d] (.tup [encQ (Rat.divInt n d), .v (.int .i64 0)]) := by
  refine FSpec.intro ok [] Tryz.func150 rfl rfl (m := 11) rfl ?_
  conv => whnf
  repeat (refine ⟨_, rfl, rfl, ?_⟩; conv => whnf)
  refine ⟨_, _, sign_ref d, SubL.le (by repeat' (first | exact rfl | exact trivial | exact ⟨_, rfl⟩ | exact ⟨rfl, rfl, rfl⟩ | refine And.intro ?_ ?_)), ?_⟩
  conv => whnf
  refine bcase_intro (fun h => ?_) (fun h => ?_)
  · exfalso
    have h : d = 0 := by first | simpa [-List.getD_eq_getElem?_getD] using h | (simp [-List.getD_eq_getElem?_getD] at h; omega)
    exact h0 h
  · conv => whnf
    repeat (refine ⟨_, rfl, rfl, ?_⟩; conv => whnf)
    refine ⟨_, _, lowest_ref n d hn hd h0, SubL.le (by repeat' (first | exact rfl | exact trivial | exact ⟨_, rfl⟩ | exact ⟨rfl, rfl, rfl⟩ | refine And.intro ?_ ?_)), ?_⟩
    conv => whnf
    repeat ((first | refine ⟨by first | decide | exact Nat.le_refl _, _, rfl, ?_⟩ | refine ⟨_, rfl, rfl, ?_⟩); conv => whnf)
    repeat' (first | exact rfl | exact trivial | exact ⟨_, rfl⟩ | exact ⟨rfl, rfl, rfl⟩ | refine And.intro ?_ ?_)
theorem qneg_ref (q : Rat) (hq : (limbs q.num.natAbs).length ≤ 1099511627776) : FSpec Tryz.prog 151 [encQ q] (encQ (-q)) := by
  rw [show encQ (-q) = encR (-q.num) q.den from rfl]
  refine FSpec.intro ok [] Tryz.func151 rfl rfl (m := 8) rfl ?_
  conv => whnf
  repeat ((first | refine And.intro (by decide : (_ : Nat) ≠ 0) ?_ | refine anyA (by decide +kernel) ?_ | refine ⟨_, rfl, rfl, ?_⟩); conv => whnf)
  refine ⟨_, _, neg_ref q.num hq, SubL.le (by repeat' (first | exact rfl | exact trivial | exact ⟨_, rfl⟩ | exact ⟨rfl, rfl, rfl⟩ | refine And.intro ?_ ?_)), ?_⟩
  conv => whnf
  repeat ((first | refine And.intro (by decide : (_ : Nat) ≠ 0) ?_ | refine ⟨by first | decide | exact Nat.le_refl _, _, rfl, ?_⟩ | refine ⟨_, rfl, rfl, ?_⟩); conv => whnf)
  repeat' (first | exact rfl | exact trivial | exact ⟨_, rfl⟩ | exact ⟨rfl, rfl, rfl⟩ | refine And.intro ?_ ?_)
theorem qsign_ref (q : Rat) : FSpec Tryz.prog 66 [encQ q] (.v (.int .i64 q.num.sign)) := by
  refine FSpec.intro ok [] Tryz.func66 rfl rfl (m := 5) rfl ?_
  conv => whnf
  repeat ((first | refine And.intro (by decide : (_ : Nat) ≠ 0) ?_ | refine ⟨_, rfl, rfl, ?_⟩); conv => whnf)
  refine ⟨_, _, sign_ref q.num, SubL.le (by repeat' (first | exact rfl | exact trivial | exact ⟨_, rfl⟩ | exact ⟨rfl, rfl, rfl⟩ | refine And.intro ?_ ?_)), ?_⟩
  conv => whnf
  repeat' (first | exact rfl | exact trivial | exact ⟨_, rfl⟩ | exact ⟨rfl, rfl, rfl⟩ | refine And.intro ?_ ?_)
theorem qadd_ref (a b : Rat) (ha : Qs a) (hb : Qs b) : FSpec Tryz.prog 86 [encQ a, encQ b] (encQ (a + b)) := by
  have k1 : Kn (a.num * b.den).natAbs := bd_mul_int ha.1 (by simpa using hb.2)
  have k2 : Kn (b.num * a.den).natAbs := bd_mul_int hb.1 (by simpa using ha.2)
  have k3 : Kn ((a.den : Int) * b.den).natAbs := bd_mul_int (by simpa using ha.2) (by simpa using hb.2)
  refine FSpec.intro ok [] Tryz.func86 rfl rfl (m := 20) rfl ?_
  conv => whnf
  repeat ((first | refine And.intro (by decide : (_ : Nat) ≠ 0) ?_ | refine anyA (by decide +kernel) ?_ | refine ⟨_, rfl, rfl, ?_⟩); conv => whnf)
  refine ⟨_, _, mul_ref a.num b.den ha.n.sz hb.d.sz, SubL.le (by repeat' (first | exact rfl | exact trivial | exact ⟨_, rfl⟩ | exact ⟨rfl, rfl, rfl⟩ | refine And.intro ?_ ?_)), ?_⟩
  conv => whnf
  repeat ((first | refine And.intro (by decide : (_ : Nat) ≠ 0) ?_ | refine ⟨_, rfl, rfl, ?_⟩); conv => whnf)
  refine ⟨_, _, mul_ref b.num a.den hb.n.sz ha.d.sz, SubL.le (by repeat' (first | exact rfl | exact trivial | exact ⟨_, rfl⟩ | exact ⟨rfl, rfl, rfl⟩ | refine And.intro ?_ ?_)), ?_⟩
  conv => whnf
  skip
  refine ⟨_, _, add_ref (a.num * b.den) (b.num * a.den) k1.sz k2.sz, SubL.le (by repeat' (first | exact rfl | exact trivial | exact ⟨_, rfl⟩ | exact ⟨rfl, rfl, rfl⟩ | refine And.intro ?_ ?_)), ?_⟩
  conv => whnf
  repeat ((first | refine And.intro (by decide : (_ : Nat) ≠ 0) ?_ | refine ⟨_, rfl, rfl, ?_⟩); conv => whnf)
  refine ⟨_, _, mul_ref a.den b.den ha.d.sz hb.d.sz, SubL.le (by repeat' (first | exact rfl | exact trivial | exact ⟨_, rfl⟩ | exact ⟨rfl, rfl, rfl⟩ | refine And.intro ?_ ?_)), ?_⟩
  conv => whnf
  refine ⟨_, _, lowest_ref (a.num * b.den + b.num * a.den) (a.den * b.den) (sm_add_int k1 k2) k3 (den_ne a b), SubL.le (by repeat' (first | exact rfl | exact trivial | exact ⟨_, rfl⟩ | exact ⟨rfl, rfl, rfl⟩ | refine And.intro ?_ ?_)), ?_⟩
  conv => whnf
  rw [qadd_eq]
  repeat ((first | refine ⟨by first | decide | exact Nat.le_refl _, _, rfl, ?_⟩ | refine ⟨_, rfl, rfl, ?_⟩); conv => whnf)
  repeat' (first | exact rfl | exact trivial | exact ⟨_, rfl⟩ | exact ⟨rfl, rfl, rfl⟩ | refine And.intro ?_ ?_)
theorem qmul_ref (a b : Rat) (ha : Qs a) (hb : Qs b) : FSpec Tryz.prog 68 [encQ a, encQ b] (encQ (a * b)) := by
  have k1 : Kn (a.num * b.num).natAbs := bd_mul_int ha.1 hb.1
  have k3 : Kn ((a.den : Int) * b.den).natAbs := bd_mul_int (by simpa using ha.2) (by simpa using hb.2)
  refine FSpec.intro ok [] Tryz.func68 rfl rfl (m := 14) rfl ?_
  conv => whnf
  repeat ((first | refine And.intro (by decide : (_ : Nat) ≠ 0) ?_ | refine anyA (by decide +kernel) ?_ | refine ⟨_, rfl, rfl, ?_⟩); conv => whnf)
  refine ⟨_, _, mul_ref a.num b.num ha.n.sz hb.n.sz, SubL.le (by repeat' (first | exact rfl | exact trivial | exact ⟨_, rfl⟩ | exact ⟨rfl, rfl, rfl⟩ | refine And.intro ?_ ?_)), ?_⟩
  conv => whnf
  repeat ((first | refine And.intro (by decide : (_ : Nat) ≠ 0) ?_ | refine ⟨_, rfl, rfl, ?_⟩); conv => whnf)
  refine ⟨_, _, mul_ref a.den b.den ha.d.sz hb.d.sz, SubL.le (by repeat' (first | exact rfl | exact trivial | exact ⟨_, rfl⟩ | exact ⟨rfl, rfl, rfl⟩ | refine And.intro ?_ ?_)), ?_⟩
  conv => whnf
  refine ⟨_, _, lowest_ref (a.num * b.num) (a.den * b.den) k1.sm k3 (den_ne a b), SubL.le (by repeat' (first | exact rfl | exact trivial | exact ⟨_, rfl⟩ | exact ⟨rfl, rfl, rfl⟩ | refine And.intro ?_ ?_)), ?_⟩
  conv => whnf
  rw [qmul_eq]
  repeat ((first | refine ⟨by first | decide | exact Nat.le_refl _, _, rfl, ?_⟩ | refine ⟨_, rfl, rfl, ?_⟩); conv => whnf)
  repeat' (first | exact rfl | exact trivial | exact ⟨_, rfl⟩ | exact ⟨rfl, rfl, rfl⟩ | refine And.intro ?_ ?_)
theorem qcmp_ref (a b : Rat) (ha : Qs a) (hb : Qs b) : FSpec Tryz.prog 152 [encQ a, encQ b] (.v (.int .i64 (cmpQ a b))) := by
  have k1 : Kn (a.num * b.den).natAbs := bd_mul_int ha.1 (by simpa using hb.2)
  have k2 : Kn (b.num * a.den).natAbs := bd_mul_int hb.1 (by simpa using ha.2)
  refine FSpec.intro ok [] Tryz.func152 rfl rfl (m := 14) rfl ?_
  conv => whnf
  repeat ((first | refine And.intro (by decide : (_ : Nat) ≠ 0) ?_ | refine anyA (by decide +kernel) ?_ | refine ⟨_, rfl, rfl, ?_⟩); conv => whnf)
  refine ⟨_, _, mul_ref a.num b.den ha.n.sz hb.d.sz, SubL.le (by repeat' (first | exact rfl | exact trivial | exact ⟨_, rfl⟩ | exact ⟨rfl, rfl, rfl⟩ | refine And.intro ?_ ?_)), ?_⟩
  conv => whnf
  repeat ((first | refine And.intro (by decide : (_ : Nat) ≠ 0) ?_ | refine ⟨_, rfl, rfl, ?_⟩); conv => whnf)
  refine ⟨_, _, mul_ref b.num a.den hb.n.sz ha.d.sz, SubL.le (by repeat' (first | exact rfl | exact trivial | exact ⟨_, rfl⟩ | exact ⟨rfl, rfl, rfl⟩ | refine And.intro ?_ ?_)), ?_⟩
  conv => whnf
  refine ⟨_, _, cmp_ref (a.num * b.den) (b.num * a.den) k1.sz k2.sz, SubL.le (by repeat' (first | exact rfl | exact trivial | exact ⟨_, rfl⟩ | exact ⟨rfl, rfl, rfl⟩ | refine And.intro ?_ ?_)), ?_⟩
  conv => whnf
  rw [cmpQ_eq]
  repeat' (first | exact rfl | exact trivial | exact ⟨_, rfl⟩ | exact ⟨rfl, rfl, rfl⟩ | refine And.intro ?_ ?_)
theorem qvalid_ref (q : Rat) (hq : Qs q) : FSpec Tryz.prog 188 [encQ q] (.v (.bool true)) := by
  have hp : (q.den : Int).sign = 1 := Int.sign_eq_one_of_pos (by have := q.den_nz; omega)
  refine FSpec.intro ok [] Tryz.func188 rfl rfl (m := 26) rfl ?_
  conv => whnf
  repeat ((first | refine And.intro (by decide : (_ : Nat) ≠ 0) ?_ | refine ⟨_, rfl, rfl, ?_⟩); conv => whnf)
  refine ⟨_, _, valid_ref q.num hq.n.sz, SubL.le (by repeat' (first | exact rfl | exact trivial | exact ⟨_, rfl⟩ | exact ⟨rfl, rfl, rfl⟩ | refine And.intro ?_ ?_)), ?_⟩
  conv => whnf
  repeat ((first | refine And.intro (by decide : (_ : Nat) ≠ 0) ?_ | refine ⟨_, rfl, rfl, ?_⟩); conv => whnf)
  refine ⟨_, _, valid_ref q.den hq.d.sz, SubL.le (by repeat' (first | exact rfl | exact trivial | exact ⟨_, rfl⟩ | exact ⟨rfl, rfl, rfl⟩ | refine And.intro ?_ ?_)), ?_⟩
  conv => whnf
  repeat ((first | refine And.intro (by decide : (_ : Nat) ≠ 0) ?_ | refine ⟨_, rfl, rfl, ?_⟩); conv => whnf)
  refine ⟨_, _, sign_ref q.den, SubL.le (by repeat' (first | exact rfl | exact trivial | exact ⟨_, rfl⟩ | exact ⟨rfl, rfl, rfl⟩ | refine And.intro ?_ ?_)), ?_⟩
  conv => whnf
  rw [hp]
  repeat ((first | refine And.intro (by decide : (_ : Nat) ≠ 0) ?_ | refine ⟨_, rfl, rfl, ?_⟩); conv => whnf)
  refine ⟨_, _, gcd_ref q.num q.den hq.n.sz hq.dk, SubL.le (by repeat' (first | exact rfl | exact trivial | exact ⟨_, rfl⟩ | exact ⟨rfl, rfl, rfl⟩ | refine And.intro ?_ ?_)), ?_⟩
  conv => whnf
  refine ⟨_, _, of_ref 1 (by decide) (by decide), SubL.le (by repeat' (first | exact rfl | exact trivial | exact ⟨_, rfl⟩ | exact ⟨rfl, rfl, rfl⟩ | refine And.intro ?_ ?_)), ?_⟩
  conv => whnf
  refine ⟨_, _, cmp_ref ((Int.gcd q.num q.den : Nat) : Int) 1 (by rw [show Int.gcd q.num q.den = 1 from q.reduced]; exact (Sm.sz (by unfold Sm; decide))) (Sm.sz (by unfold Sm; decide)), SubL.le (by repeat' (first | exact rfl | exact trivial | exact ⟨_, rfl⟩ | exact ⟨rfl, rfl, rfl⟩ | refine And.intro ?_ ?_)), ?_⟩
  conv => whnf
  rw [show Int.gcd q.num q.den = 1 from q.reduced]
  repeat' (first | exact rfl | exact trivial | exact ⟨_, rfl⟩ | exact ⟨rfl, rfl, rfl⟩ | refine And.intro ?_ ?_)
theorem limbs_ext {a b : Nat} (h : (limbs a).length = (limbs b).length) (he : ∀ i, i < (limbs a).length → (limbs a).getD i 0 = (limbs b).getD i 0) : a = b := by
  rw [← val_limbs a, ← val_limbs b]
  congr 1
  apply List.ext_getElem h
  intro i h1 h2
  have := he i h1
  rwa [List.getD_eq_getElem?_getD, List.getD_eq_getElem?_getD, List.getElem?_eq_getElem h1, List.getElem?_eq_getElem h2, Option.getD_some, Option.getD_some] at this
theorem same_ref (a b : Int) (ha : (limbs a.natAbs).length ≤ 1000000000) : FSpec Tryz.prog 168 [encI a, encI b] (.v (.bool (decide (a = b)))) := by
  refine FSpec.intro ok [] Tryz.func168 rfl rfl (m := 36) rfl ?_
  conv => whnf
  repeat ((first | refine ⟨_, (rfl : (_ : List C)[_]? = some _), ?_⟩ | refine And.intro (by decide : (_ : Nat) ≠ 0) ?_); conv => whnf)
  refine bcase_intro (fun h => ?_) (fun h => ?_)
  · have h : ¬ ((a < 0) ↔ (b < 0)) := by first | simpa [-List.getD_eq_getElem?_getD] using h | (simp [-List.getD_eq_getElem?_getD] at h; omega)
    conv => whnf
    have : ¬ a = b := by rintro rfl; exact h Iff.rfl
    rw [decide_eq_false this]
    repeat' (first | exact rfl | exact trivial | exact ⟨_, rfl⟩ | exact ⟨rfl, rfl, rfl⟩ | refine And.intro ?_ ?_)
  · have h : (a < 0) ↔ (b < 0) := by first | simpa [-List.getD_eq_getElem?_getD] using h | (simp [-List.getD_eq_getElem?_getD] at h; omega)
    conv => whnf
    repeat ((first | refine ⟨_, (rfl : (_ : List C)[_]? = some _), ?_⟩ | refine And.intro (by decide : (_ : Nat) ≠ 0) ?_); conv => whnf)
    refine bcase_intro (fun h1 => ?_) (fun h1 => ?_)
    · have h1 : (limbs a.natAbs).length ≠ (limbs b.natAbs).length := by first | simpa [-List.getD_eq_getElem?_getD] using h1 | (simp [-List.getD_eq_getElem?_getD] at h1; omega)
      conv => whnf
      have : ¬ a = b := by rintro rfl; exact h1 rfl
      rw [decide_eq_false this]
      repeat' (first | exact rfl | exact trivial | exact ⟨_, rfl⟩ | exact ⟨rfl, rfl, rfl⟩ | refine And.intro ?_ ?_)
    · have h1 : (limbs a.natAbs).length = (limbs b.natAbs).length := by first | simpa [-List.getD_eq_getElem?_getD] using h1 | (simp [-List.getD_eq_getElem?_getD] at h1; omega)
      conv => whnf
      refine ⟨{ i : Nat // i ≤ (limbs a.natAbs).length ∧ ∀ j, j < i → (limbs a.natAbs).getD j 0 = (limbs b.natAbs).getD j 0 }, fun q_ => match q_ with | ⟨i, _⟩ => ⟨[(5, .v (.int .i64 i))], []⟩, ⟨[false, false, false, false, true, true, false, false, false, false, false, false, false, false, false, false, false, false, false, false, true, true, true, true, true, true, true, true, true, true, true, true, true, true, true, true, true, true], [2, 3], []⟩, fun q_ => match q_ with | ⟨i, _⟩ => (limbs a.natAbs).length - i, ⟨⟨0, Nat.zero_le _, fun j hj => absurd hj (Nat.not_lt_zero j)⟩, [], ?_⟩, ?_⟩
      · conv => whnf
        repeat' (first | exact rfl | exact trivial | exact ⟨_, rfl⟩ | exact ⟨rfl, rfl, rfl⟩ | refine And.intro ?_ ?_)
      · rintro ⟨i, hi, heq⟩
        conv => whnf
        repeat ((first | refine ⟨_, (rfl : (_ : List C)[_]? = some _), ?_⟩ | refine And.intro (by decide : (_ : Nat) ≠ 0) ?_); conv => whnf)
        refine bcase_intro (fun h2 => ?_) (fun h2 => ?_)
        · have h2 : i < (limbs a.natAbs).length := by first | simpa [-List.getD_eq_getElem?_getD] using h2 | (simp [-List.getD_eq_getElem?_getD] at h2; omega)
          conv => whnf
          repeat ((first | refine ⟨_, ⟨rfl, by omega⟩, ?_⟩ | refine ⟨_, map_at 0 (by omega), ?_⟩ | refine ⟨_, (rfl : (_ : List C)[_]? = some _), ?_⟩ | refine And.intro (by decide : (_ : Nat) ≠ 0) ?_ | refine anyA (by decide +kernel) ?_); conv => whnf)
          refine bcase_intro (fun h3 => ?_) (fun h3 => ?_)
          · have h3 : (limbs a.natAbs).getD i 0 ≠ (limbs b.natAbs).getD i 0 := by first | simpa [-List.getD_eq_getElem?_getD] using h3 | (simp [-List.getD_eq_getElem?_getD] at h3; omega)
            conv => whnf
            have : ¬ a = b := by rintro rfl; exact h3 rfl
            rw [decide_eq_false this]
            repeat' (first | exact rfl | exact trivial | exact ⟨_, rfl⟩ | exact ⟨rfl, rfl, rfl⟩ | refine And.intro ?_ ?_)
          · have h3 : (limbs a.natAbs).getD i 0 = (limbs b.natAbs).getD i 0 := by first | simpa [-List.getD_eq_getElem?_getD] using h3 | (simp [-List.getD_eq_getElem?_getD] at h3; omega)
            conv => whnf
            repeat (refine ⟨_, wAdd1 (by omega), ?_⟩; conv => whnf)
            refine ⟨⟨i + 1, by omega, fun j hj => (Nat.lt_or_ge j i).elim (heq j) (fun h6 => by rw [show j = i by omega]; exact h3)⟩, [], by dsimp only; omega, ?_⟩
            conv => whnf
            repeat' (first | exact rfl | exact trivial | exact ⟨_, rfl⟩ | exact ⟨rfl, rfl, rfl⟩ | refine And.intro ?_ ?_)
        · have h2 : (limbs a.natAbs).length ≤ i := by first | simpa [-List.getD_eq_getElem?_getD] using h2 | (simp [-List.getD_eq_getElem?_getD] at h2; omega)
          conv => whnf
          have : a.natAbs = b.natAbs := limbs_ext h1 fun j hj => heq j (by omega)
          rw [decide_eq_true (show a = b by omega)]
          repeat' (first | exact rfl | exact trivial | exact ⟨_, rfl⟩ | exact ⟨rfl, rfl, rfl⟩ | refine And.intro ?_ ?_)
theorem qsame_ref (a b : Rat) (ha : Qs a) : FSpec Tryz.prog 128 [encQ a, encQ b] (.v (.bool (decide (a = b)))) := by
  refine FSpec.intro ok [] Tryz.func128 rfl rfl (m := 15) rfl ?_
  conv => whnf
  repeat ((first | refine And.intro (by decide : (_ : Nat) ≠ 0) ?_ | refine ⟨_, rfl, rfl, ?_⟩); conv => whnf)
  refine ⟨_, _, same_ref a.num b.num ha.n.sz, SubL.le (by repeat' (first | exact rfl | exact trivial | exact ⟨_, rfl⟩ | exact ⟨rfl, rfl, rfl⟩ | refine And.intro ?_ ?_)), ?_⟩
  conv => whnf
  refine bcase_intro (fun h => ?_) (fun h => ?_)
  · have h : a.num = b.num := by first | simpa [-List.getD_eq_getElem?_getD] using h | (simp [-List.getD_eq_getElem?_getD] at h; omega)
    conv => whnf
    repeat ((first | refine And.intro (by decide : (_ : Nat) ≠ 0) ?_ | refine ⟨_, rfl, rfl, ?_⟩); conv => whnf)
    refine ⟨_, _, same_ref a.den b.den ha.d.sz, SubL.le (by repeat' (first | exact rfl | exact trivial | exact ⟨_, rfl⟩ | exact ⟨rfl, rfl, rfl⟩ | refine And.intro ?_ ?_)), ?_⟩
    conv => whnf
    rw [show decide (a = b) = decide ((a.den : Int) = b.den) by
      congr 1
      apply propext
      exact ⟨fun e => by rw [e], fun e => Rat.ext h (by omega)⟩]
    repeat' (first | exact rfl | exact trivial | exact ⟨_, rfl⟩ | exact ⟨rfl, rfl, rfl⟩ | refine And.intro ?_ ?_)
  · have h : ¬ a.num = b.num := by first | simpa [-List.getD_eq_getElem?_getD] using h | (simp [-List.getD_eq_getElem?_getD] at h; omega)
    conv => whnf
    have : ¬ a = b := by rintro rfl; exact h rfl
    rw [decide_eq_false this]
    repeat' (first | exact rfl | exact trivial | exact ⟨_, rfl⟩ | exact ⟨rfl, rfl, rfl⟩ | refine And.intro ?_ ?_)
end Go.Proofs.YtbhnankggcfndaaGreat
namespace Go.Proofs.YtbhnankggcfndaaGreat
open El
set_option maxRecDepth 10000
set_option maxHeartbeats 2000000
/-- Eight exponents. -/
structure Mo where
  a0 : Nat
  a1 : Nat
  a2 : Nat
  a3 : Nat
  a4 : Nat
  a5 : Nat
  a6 : Nat
  a7 : Nat
  deriving DecidableEq
def Mo.l (m : Mo) : List Nat := [m.a0, m.a1, m.a2, m.a3, m.a4, m.a5, m.a6, m.a7]
def Mo.of (f : Nat → Nat) : Mo := ⟨f 0, f 1, f 2, f 3, f 4, f 5, f 6, f 7⟩
def Mo.at (m : Mo) (i : Nat) : Nat := m.l.getD i 0
def i64n (x : Nat) : C := .v (.int .i64 (x : Int))
def mc (m : Mo) : List C := [i64n m.a0, i64n m.a1, i64n m.a2, i64n m.a3, i64n m.a4, i64n m.a5, i64n m.a6, i64n m.a7]
def encM (m : Mo) : C := .agg (mc m)
theorem mc_map (m : Mo) : mc m = m.l.map i64n := rfl
theorem mc_len (m : Mo) : (mc m).length = 8 := rfl
theorem mc_at (m : Mo) {i : Nat} (h : i < 8) : (mc m)[i]? = some (i64n (m.at i)) := by
  match i, h with
  | 0, _ => rfl
  | 1, _ => rfl
  | 2, _ => rfl
  | 3, _ => rfl
  | 4, _ => rfl
  | 5, _ => rfl
  | 6, _ => rfl
  | 7, _ => rfl
theorem mc_at1 (m : Mo) {i : Nat} (h : i < 8) : (mc m)[i * 1]? = some (i64n (m.at i)) := by rw [Nat.mul_one]; exact mc_at m h
theorem mc_atd (m : Mo) {i : Nat} (h : i < 8) : ((mc m).drop (i * 1))[0]? = some (i64n (m.at i)) := by rw [List.getElem?_drop, Nat.mul_one, Nat.add_zero]; exact mc_at m h
theorem mc_at0 (m : Mo) {i : Nat} (h : i < 8) : (mc m)[0 + i * 1]? = some (i64n (m.at i)) := by rw [Nat.mul_one, Nat.zero_add]; exact mc_at m h
theorem Mo.of_at (f : Nat → Nat) {i : Nat} (h : i < 8) : (Mo.of f).at i = f i := by
  match i, h with
  | 0, _ => rfl
  | 1, _ => rfl
  | 2, _ => rfl
  | 3, _ => rfl
  | 4, _ => rfl
  | 5, _ => rfl
  | 6, _ => rfl
  | 7, _ => rfl
theorem Mo.eq_of_at {a b : Mo} (h : ∀ i, i < 8 → a.at i = b.at i) : a = b := by
  cases a
  cases b
  rw [Mo.mk.injEq]
  exact ⟨h 0 (by decide), h 1 (by decide), h 2 (by decide), h 3 (by decide), h 4 (by decide), h 5 (by decide), h 6 (by decide), h 7 (by decide)⟩
theorem Mo.of_eq (m : Mo) : Mo.of m.at = m := rfl
theorem Mo.of_congr {f g : Nat → Nat} (h : ∀ i, i < 8 → f i = g i) : Mo.of f = Mo.of g := Mo.eq_of_at fun i hi => by rw [Mo.of_at f hi, Mo.of_at g hi, h i hi]
theorem Mo.at_big (m : Mo) {i : Nat} (h : 8 ≤ i) : m.at i = 0 := by
  unfold Mo.at
  rw [List.getD_eq_getElem?_getD, List.getElem?_eq_none (by simpa [Mo.l] using h)]; rfl
/-- One exponent stored. -/
theorem mc_set (f : Nat → Nat) (i v : Nat) (h : i < 8) : spl (mc (Mo.of f)) (i * 1) [i64n v] = mc (Mo.of fun j => if j = i then v else f j) := by
  match i, h with
  | 0, _ => rfl
  | 1, _ => rfl
  | 2, _ => rfl
  | 3, _ => rfl
  | 4, _ => rfl
  | 5, _ => rfl
  | 6, _ => rfl
  | 7, _ => rfl
/-- All exponents are in their range. -/
def Mv (m : Mo) : Prop := ∀ i, m.at i ≤ 65535
def mvB (m : Mo) : Bool := m.l.all fun e => decide (e ≤ 65535)
theorem mvB_iff {m : Mo} : mvB m = true ↔ Mv m := by
  unfold mvB Mv
  rw [List.all_eq_true]
  constructor
  · intro h i
    by_cases hi : i < m.l.length
    · have := h m.l[i] (List.getElem_mem hi)
      simpa [Mo.at, hi] using this
    · rw [Mo.at_big m (by simp [Mo.l] at hi; omega)]; omega
  · intro h e he
    obtain ⟨i, hi, rfl⟩ := List.getElem_of_mem he
    have := h i
    simpa [Mo.at, hi] using this
theorem mvB_false {m : Mo} (i : Nat) (h : 65535 < m.at i) : mvB m = false := by
  apply Bool.eq_false_iff.2
  intro h2
  have := mvB_iff.1 h2 i
  omega
theorem mvalid_spec (m : Mo) : FSpec Tryz.prog 130 [encM m] (.v (.bool (mvB m))) := by
  refine FSpec.intro ok [] Tryz.func130 rfl rfl (m := 15) rfl ?_
  conv => whnf
  repeat (refine ⟨_, rfl, rfl, ?_⟩; conv => whnf)
  refine ⟨{ i : Nat // i ≤ 8 ∧ ∀ j, j < i → m.at j ≤ 65535 }, fun q_ => match q_ with | ⟨i, _⟩ => ⟨[(6, i64n i)], []⟩, ⟨[false, false, true, false, true, false, true, true, true, true, true, true, true, true, true, true], [], []⟩, fun q_ => match q_ with | ⟨i, _⟩ => 8 - i, ⟨⟨0, Nat.zero_le _, fun j hj => absurd hj (Nat.not_lt_zero j)⟩, [], ?_⟩, ?_⟩
  · conv => whnf
    repeat' (first | exact rfl | exact trivial | exact ⟨_, rfl⟩ | exact ⟨rfl, rfl, rfl⟩ | refine And.intro ?_ ?_)
  · rintro ⟨i, hi, hall⟩
    conv => whnf
    refine bcase_intro (fun h => ?_) (fun h => ?_)
    · have h : i < 8 := by first | simpa [-List.getD_eq_getElem?_getD] using h | (simp [-List.getD_eq_getElem?_getD] at h; omega)
      conv => whnf
      refine ⟨i, ⟨rfl, h⟩, ?_⟩
      conv => whnf
      refine ⟨_, mc_at1 m h, ?_⟩
      conv => whnf
      skip
      refine bcase_intro (fun h2 => ?_) (fun h2 => ?_)
      · have h2 : 65535 < m.at i := by first | simpa [-List.getD_eq_getElem?_getD] using h2 | (simp [-List.getD_eq_getElem?_getD] at h2; omega)
        conv => whnf
        rw [mvB_false i h2]
        repeat' (first | exact rfl | exact trivial | exact ⟨_, rfl⟩ | exact ⟨rfl, rfl, rfl⟩ | refine And.intro ?_ ?_)
      · have h2 : m.at i ≤ 65535 := by first | simpa [-List.getD_eq_getElem?_getD] using h2 | (simp [-List.getD_eq_getElem?_getD] at h2; omega)
        conv => whnf
        repeat (refine ⟨_, wAdd1 (by omega), ?_⟩; conv => whnf)
        refine ⟨⟨i + 1, by omega, fun j hj => (Nat.lt_or_ge j i).elim (hall j) (fun h3 => by rw [show j = i by omega]; exact h2)⟩, [], by dsimp only; omega, ?_⟩
        conv => whnf
        repeat' (first | exact rfl | exact trivial | exact ⟨_, rfl⟩ | exact ⟨rfl, rfl, rfl⟩ | refine And.intro ?_ ?_)
    · have h : 8 ≤ i := by first | simpa [-List.getD_eq_getElem?_getD] using h | (simp [-List.getD_eq_getElem?_getD] at h; omega)
      conv => whnf
      rw [mvB_iff.2 fun j => (Nat.lt_or_ge j 8).elim (fun h2 => hall j (by omega)) (fun h2 => by rw [Mo.at_big m h2]; omega)]
      repeat' (first | exact rfl | exact trivial | exact ⟨_, rfl⟩ | exact ⟨rfl, rfl, rfl⟩ | refine And.intro ?_ ?_)
theorem mvalid_ref (m : Mo) : FSpec Tryz.prog 121 [encM m] (.v (.bool (mvB m))) := by
  refine FSpec.intro ok [] Tryz.func121 rfl rfl (m := 17) rfl ?_
  conv => whnf
  skip
  refine ⟨{ i : Nat // i ≤ 8 ∧ ∀ j, j < i → m.at j ≤ 65535 }, fun q_ => match q_ with | ⟨i, _⟩ => ⟨[(3, i64n i)], []⟩, ⟨[false, false, true, true, true, true, true, true, true, true, true, true, true, true, true, true, true, true], [1], []⟩, fun q_ => match q_ with | ⟨i, _⟩ => 8 - i, ⟨⟨0, Nat.zero_le _, fun j hj => absurd hj (Nat.not_lt_zero j)⟩, [], ?_⟩, ?_⟩
  · conv => whnf
    repeat' (first | exact rfl | exact trivial | exact ⟨_, rfl⟩ | exact ⟨rfl, rfl, rfl⟩ | refine And.intro ?_ ?_)
  · rintro ⟨i, hi, hall⟩
    conv => whnf
    refine bcase_intro (fun h => ?_) (fun h => ?_)
    · have h : i < 8 := by first | simpa [-List.getD_eq_getElem?_getD] using h | (simp [-List.getD_eq_getElem?_getD] at h; omega)
      conv => whnf
      repeat ((first | refine ⟨_, mc_at0 m h, ?_⟩ | refine ⟨_, ⟨rfl, by omega⟩, ?_⟩); conv => whnf)
      skip
      refine bcase_intro (fun h2 => ?_) (fun h2 => ?_)
      · have h2 : 65535 < m.at i := by first | simpa [-List.getD_eq_getElem?_getD] using h2 | (simp [-List.getD_eq_getElem?_getD] at h2; omega)
        conv => whnf
        rw [mvB_false i h2]
        repeat' (first | exact rfl | exact trivial | exact ⟨_, rfl⟩ | exact ⟨rfl, rfl, rfl⟩ | refine And.intro ?_ ?_)
      · have h2 : m.at i ≤ 65535 := by first | simpa [-List.getD_eq_getElem?_getD] using h2 | (simp [-List.getD_eq_getElem?_getD] at h2; omega)
        conv => whnf
        repeat (refine ⟨_, wAdd1 (by omega), ?_⟩; conv => whnf)
        refine ⟨⟨i + 1, by omega, fun j hj => (Nat.lt_or_ge j i).elim (hall j) (fun h3 => by rw [show j = i by omega]; exact h2)⟩, [], by dsimp only; omega, ?_⟩
        conv => whnf
        repeat' (first | exact rfl | exact trivial | exact ⟨_, rfl⟩ | exact ⟨rfl, rfl, rfl⟩ | refine And.intro ?_ ?_)
    · have h : 8 ≤ i := by first | simpa [-List.getD_eq_getElem?_getD] using h | (simp [-List.getD_eq_getElem?_getD] at h; omega)
      conv => whnf
      rw [mvB_iff.2 fun j => (Nat.lt_or_ge j 8).elim (fun h2 => hall j (by omega)) (fun h2 => by rw [Mo.at_big m h2]; omega)]
      repeat' (first | exact rfl | exact trivial | exact ⟨_, rfl⟩ | exact ⟨rfl, rfl, rfl⟩ | refine And.intro ?_ ?_)
/-! ### Degrees -/
def degM (m : Mo) : Nat := m.l.sum
theorem take_sum (m : Mo) {i : Nat} (h : i < 8) : (m.l.take (i + 1)).sum = (m.l.take i).sum + m.at i := by
  match i, h with
  | 0, _ => simp [Mo.l, Mo.at]
  | 1, _ => simp [Mo.l, Mo.at]
  | 2, _ => simp [Mo.l, Mo.at]; omega
  | 3, _ => simp [Mo.l, Mo.at]; omega
  | 4, _ => simp [Mo.l, Mo.at]; omega
  | 5, _ => simp [Mo.l, Mo.at]; omega
  | 6, _ => simp [Mo.l, Mo.at]; omega
  | 7, _ => simp [Mo.l, Mo.at]; omega
theorem take_eight (m : Mo) : m.l.take 8 = m.l := rfl
theorem sum_le {m : Mo} (hv : Mv m) : ∀ i, i ≤ 8 → (m.l.take i).sum ≤ 65535 * i
  | 0, _ => by simp
  | i + 1, h => by
    rw [take_sum m (by omega)]
    have := sum_le hv i (by omega)
    have := hv i
    omega
theorem mdegree_spec (m : Mo) (hv : Mv m) : FSpec Tryz.prog 91 [encM m] (i64n (degM m)) := by
  refine FSpec.intro ok [] Tryz.func91 rfl rfl (m := 14) rfl ?_
  conv => whnf
  repeat (refine ⟨_, rfl, rfl, ?_⟩; conv => whnf)
  refine ⟨{ i : Nat // i ≤ 8 }, fun q_ => match q_ with | ⟨i, _⟩ => ⟨[(3, i64n (m.l.take i).sum), (7, i64n i)], []⟩, ⟨[false, false, false, true, false, true, false, true, true, true, true, true, true, true], [], []⟩, fun q_ => match q_ with | ⟨i, _⟩ => 8 - i, ⟨⟨0, Nat.zero_le _⟩, [], ?_⟩, ?_⟩
  · conv => whnf
    repeat' (first | exact rfl | exact trivial | exact ⟨_, rfl⟩ | exact ⟨rfl, rfl, rfl⟩ | refine And.intro ?_ ?_)
  · rintro ⟨i, hi⟩
    have hs := sum_le hv i hi
    conv => whnf
    refine bcase_intro (fun h => ?_) (fun h => ?_)
    · have h : i < 8 := by first | simpa [-List.getD_eq_getElem?_getD] using h | (simp [-List.getD_eq_getElem?_getD] at h; omega)
      have := hv i
      conv => whnf
      repeat ((first | refine ⟨_, mc_at1 m h, ?_⟩ | refine ⟨_, wAdd1 (by omega), ?_⟩ | refine ⟨_, wAdd (by omega), ?_⟩ | refine ⟨_, ⟨rfl, by omega⟩, ?_⟩); conv => whnf)
      rw [← take_sum m h]
      refine ⟨⟨i + 1, by omega⟩, [], by dsimp only; omega, ?_⟩
      conv => whnf
      repeat' (first | exact rfl | exact trivial | exact ⟨_, rfl⟩ | exact ⟨rfl, rfl, rfl⟩ | refine And.intro ?_ ?_)
    · have h : 8 ≤ i := by first | simpa [-List.getD_eq_getElem?_getD] using h | (simp [-List.getD_eq_getElem?_getD] at h; omega)
      obtain rfl : i = 8 := by omega
      conv => whnf
      repeat' (first | exact rfl | exact trivial | exact ⟨_, rfl⟩ | exact ⟨rfl, rfl, rfl⟩ | refine And.intro ?_ ?_)
theorem mdegree_ref (m : Mo) (hv : Mv m) : FSpec Tryz.prog 153 [encM m] (i64n (degM m)) := by
  refine FSpec.intro ok [] Tryz.func153 rfl rfl (m := 14) rfl ?_
  conv => whnf
  skip
  refine ⟨{ i : Nat // i ≤ 8 }, fun q_ => match q_ with | ⟨i, _⟩ => ⟨[(3, i64n (m.l.take i).sum), (4, i64n i)], []⟩, ⟨[false, false, false, true, true, true, true, true, true, true, true, true, true, true], [1], []⟩, fun q_ => match q_ with | ⟨i, _⟩ => 8 - i, ⟨⟨0, Nat.zero_le _⟩, [], ?_⟩, ?_⟩
  · conv => whnf
    repeat' (first | exact rfl | exact trivial | exact ⟨_, rfl⟩ | exact ⟨rfl, rfl, rfl⟩ | refine And.intro ?_ ?_)
  · rintro ⟨i, hi⟩
    have hs := sum_le hv i hi
    conv => whnf
    refine bcase_intro (fun h => ?_) (fun h => ?_)
    · have h : i < 8 := by first | simpa [-List.getD_eq_getElem?_getD] using h | (simp [-List.getD_eq_getElem?_getD] at h; omega)
      have := hv i
      conv => whnf
      repeat ((first | refine ⟨_, mc_at0 m h, ?_⟩ | refine ⟨_, wAdd1 (by omega), ?_⟩ | refine ⟨_, wAdd (by omega), ?_⟩ | refine ⟨_, ⟨rfl, by omega⟩, ?_⟩); conv => whnf)
      rw [← take_sum m h]
      refine ⟨⟨i + 1, by omega⟩, [], by dsimp only; omega, ?_⟩
      conv => whnf
      repeat' (first | exact rfl | exact trivial | exact ⟨_, rfl⟩ | exact ⟨rfl, rfl, rfl⟩ | refine And.intro ?_ ?_)
    · have h : 8 ≤ i := by first | simpa [-List.getD_eq_getElem?_getD] using h | (simp [-List.getD_eq_getElem?_getD] at h; omega)
      obtain rfl : i = 8 := by omega
      conv => whnf
      repeat' (first | exact rfl | exact trivial | exact ⟨_, rfl⟩ | exact ⟨rfl, rfl, rfl⟩ | refine And.intro ?_ ?_)
/-! ### Which variables occur -/
def u8 (x : Nat) : C := .v (.int .u8 (x : Int))
def supTo (m : Mo) : Nat → Nat
  | 0 => 0
  | i + 1 => supTo m i + if 0 < m.at i then 2 ^ i else 0
def supM (m : Mo) : Nat := supTo m 8
theorem supTo_lt (m : Mo) : ∀ i, supTo m i < 2 ^ i
  | 0 => by simp [supTo]
  | i + 1 => by
    have := supTo_lt m i
    rw [supTo, Nat.pow_succ]
    split <;> omega
theorem pow8 {i : Nat} (h : i < 8) : 2 ^ i ≤ 128 := Nat.pow_le_pow_right (n := 2) (by decide) (show i ≤ 7 by omega)
theorem wU8 {a : Nat} (h : a < 256) : IntKind.u8.wrap (a : Int) = (a : Int) := by
  simp only [IntKind.wrap]; simp [IntKind.bits, IntKind.signed]; omega
theorem wShl8 {i : Nat} (h : i < 8) : IntKind.u8.wrap (1 * 2 ^ (min ((i : Nat) : Int).toNat IntKind.u8.bits)) = ((2 ^ i : Nat) : Int) := by
  rw [Int.toNat_natCast, show min i IntKind.u8.bits = i from Nat.min_eq_left (by show i ≤ 8; omega), Int.one_mul]
  have : (2 : Int) ^ i = ((2 ^ i : Nat) : Int) := by simp
  rw [this]
  exact wU8 (by have := pow8 h; omega)
theorem wOr8 {x i : Nat} (hx : x < 2 ^ i) (h : i < 8) : IntKind.u8.wrap ((BitVec.ofInt IntKind.u8.bits (x : Int) ||| BitVec.ofInt IntKind.u8.bits ((2 ^ i : Nat) : Int)).toNat : Int) = ((x + 2 ^ i : Nat) : Int) := by
  have hp := pow8 h
  have hor : x ||| 2 ^ i = x + 2 ^ i := by
    have := Nat.two_pow_add_eq_or_of_lt (i := i) (b := x) hx 1
    rw [Nat.mul_one] at this
    rw [Nat.or_comm, ← this, Nat.add_comm]
  show IntKind.u8.wrap (((BitVec.ofInt 8 (x : Int) ||| BitVec.ofInt 8 ((2 ^ i : Nat) : Int) : BitVec 8)).toNat : Int) = _
  have e1 : (BitVec.ofInt 8 (x : Int)).toNat = x := by rw [BitVec.toNat_ofInt]; omega
  have e2 : (BitVec.ofInt 8 ((2 ^ i : Nat) : Int)).toNat = 2 ^ i := by rw [BitVec.toNat_ofInt]; omega
  rw [BitVec.toNat_or, e1, e2, hor, wU8 (by omega)]
theorem msupport_spec (m : Mo) : FSpec Tryz.prog 132 [encM m] (u8 (supM m)) := by
  refine FSpec.intro ok [] Tryz.func132 rfl rfl (m := 18) rfl ?_
  conv => whnf
  repeat (refine ⟨_, rfl, rfl, ?_⟩; conv => whnf)
  refine ⟨{ i : Nat // i ≤ 8 }, fun q_ => match q_ with | ⟨i, _⟩ => ⟨[(3, u8 (supTo m i)), (7, i64n i)], []⟩, ⟨[false, false, false, true, true, true, false, true, true, true, true, true, true, true, true, true, true, true], [], []⟩, fun q_ => match q_ with | ⟨i, _⟩ => 8 - i, ⟨⟨0, Nat.zero_le _⟩, [], ?_⟩, ?_⟩
  · conv => whnf
    repeat' (first | exact rfl | exact trivial | exact ⟨_, rfl⟩ | exact ⟨rfl, rfl, rfl⟩ | refine And.intro ?_ ?_)
  · rintro ⟨i, hi⟩
    have hs := supTo_lt m i
    conv => whnf
    refine bcase_intro (fun h => ?_) (fun h => ?_)
    · have h : i < 8 := by first | simpa [-List.getD_eq_getElem?_getD] using h | (simp [-List.getD_eq_getElem?_getD] at h; omega)
      conv => whnf
      repeat ((first | refine ⟨_, mc_at1 m h, ?_⟩ | refine ⟨_, ⟨rfl, by omega⟩, ?_⟩); conv => whnf)
      refine bcase_intro (fun h2 => ?_) (fun h2 => ?_)
      · have h2 : 0 < m.at i := by first | simpa [-List.getD_eq_getElem?_getD] using h2 | (simp [-List.getD_eq_getElem?_getD] at h2; omega)
        conv => whnf
        repeat ((first | refine ⟨by omega, _, wShl8 h, ?_⟩ | refine ⟨_, wOr8 hs h, ?_⟩ | refine ⟨_, wAdd1 (by omega), ?_⟩); conv => whnf)
        rw [show supTo m i + 2 ^ i = supTo m (i + 1) by rw [supTo, if_pos h2]]
        refine ⟨⟨i + 1, by omega⟩, [], by dsimp only; omega, ?_⟩
        conv => whnf
        repeat' (first | exact rfl | exact trivial | exact ⟨_, rfl⟩ | exact ⟨rfl, rfl, rfl⟩ | refine And.intro ?_ ?_)
      · have h2 : ¬ 0 < m.at i := by first | simpa [-List.getD_eq_getElem?_getD] using h2 | (simp [-List.getD_eq_getElem?_getD] at h2; omega)
        conv => whnf
        repeat (refine ⟨_, wAdd1 (by omega), ?_⟩; conv => whnf)
        rw [show supTo m i = supTo m (i + 1) by rw [supTo, if_neg h2, Nat.add_zero]]
        refine ⟨⟨i + 1, by omega⟩, [], by dsimp only; omega, ?_⟩
        conv => whnf
        repeat' (first | exact rfl | exact trivial | exact ⟨_, rfl⟩ | exact ⟨rfl, rfl, rfl⟩ | refine And.intro ?_ ?_)
    · have h : 8 ≤ i := by first | simpa [-List.getD_eq_getElem?_getD] using h | (simp [-List.getD_eq_getElem?_getD] at h; omega)
      obtain rfl : i = 8 := by omega
      conv => whnf
      repeat' (first | exact rfl | exact trivial | exact ⟨_, rfl⟩ | exact ⟨rfl, rfl, rfl⟩ | refine And.intro ?_ ?_)
theorem bit_ref (i : Nat) (hi : i < 8) : FSpec Tryz.prog 219 [i64n i] (u8 (2 ^ i)) := by
  refine FSpec.intro ok [] Tryz.func219 rfl rfl (m := 13) rfl ?_
  conv => whnf
  refine ⟨{ k : Nat // k ≤ i }, fun q_ => match q_ with | ⟨k, _⟩ => ⟨[(3, i64n (2 ^ k)), (4, i64n k)], []⟩, ⟨[false, false, false, true, true, true, true, true, true, true, true, true], [], []⟩, fun q_ => match q_ with | ⟨k, _⟩ => i - k, ⟨⟨0, Nat.zero_le _⟩, [], ?_⟩, ?_⟩
  · conv => whnf
    repeat' (first | exact rfl | exact trivial | exact ⟨_, rfl⟩ | exact ⟨rfl, rfl, rfl⟩ | refine And.intro ?_ ?_)
  · rintro ⟨k, hk⟩
    have hp := pow8 (Nat.lt_of_le_of_lt hk hi)
    conv => whnf
    refine bcase_intro (fun h => ?_) (fun h => ?_)
    · have h : k < i := by first | simpa [-List.getD_eq_getElem?_getD] using h | (simp [-List.getD_eq_getElem?_getD] at h; omega)
      conv => whnf
      refine ⟨((2 ^ (k + 1) : Nat) : Int), by rw [Nat.pow_succ]; exact wI (by omega) (by omega) (by omega), ?_⟩
      conv => whnf
      repeat (refine ⟨_, wAdd1 (by omega), ?_⟩; conv => whnf)
      refine ⟨⟨k + 1, by omega⟩, [], by dsimp only; omega, ?_⟩
      conv => whnf
      repeat' (first | exact rfl | exact trivial | exact ⟨_, rfl⟩ | exact ⟨rfl, rfl, rfl⟩ | refine And.intro ?_ ?_)
    · have h : i ≤ k := by first | simpa [-List.getD_eq_getElem?_getD] using h | (simp [-List.getD_eq_getElem?_getD] at h; omega)
      obtain rfl : k = i := by omega
      conv => whnf
      refine ⟨_, wU8 (by omega), ?_⟩
      conv => whnf
      repeat' (first | exact rfl | exact trivial | exact ⟨_, rfl⟩ | exact ⟨rfl, rfl, rfl⟩ | refine And.intro ?_ ?_)
theorem msupport_ref (m : Mo) : FSpec Tryz.prog 189 [encM m] (u8 (supM m)) := by
  refine FSpec.intro ok [] Tryz.func189 rfl rfl (m := 17) rfl ?_
  conv => whnf
  skip
  refine ⟨{ i : Nat // i ≤ 8 }, fun q_ => match q_ with | ⟨i, _⟩ => ⟨[(3, u8 (supTo m i)), (4, i64n i)], []⟩, ⟨[false, false, false, true, true, true, true, true, true, true, true, true, true, true, true, true, true], [1], []⟩, fun q_ => match q_ with | ⟨i, _⟩ => 8 - i, ⟨⟨0, Nat.zero_le _⟩, [], ?_⟩, ?_⟩
  · conv => whnf
    repeat' (first | exact rfl | exact trivial | exact ⟨_, rfl⟩ | exact ⟨rfl, rfl, rfl⟩ | refine And.intro ?_ ?_)
  · rintro ⟨i, hi⟩
    have hs := supTo_lt m i
    conv => whnf
    refine bcase_intro (fun h => ?_) (fun h => ?_)
    · have h : i < 8 := by first | simpa [-List.getD_eq_getElem?_getD] using h | (simp [-List.getD_eq_getElem?_getD] at h; omega)
      have hp := pow8 h
      conv => whnf
      repeat ((first | refine ⟨_, mc_at0 m h, ?_⟩ | refine ⟨_, ⟨rfl, by omega⟩, ?_⟩); conv => whnf)
      refine bcase_intro (fun h2 => ?_) (fun h2 => ?_)
      · have h2 : 0 < m.at i := by first | simpa [-List.getD_eq_getElem?_getD] using h2 | (simp [-List.getD_eq_getElem?_getD] at h2; omega)
        conv => whnf
        refine ⟨_, _, bit_ref i h, SubL.le (by repeat' (first | exact rfl | exact trivial | exact ⟨_, rfl⟩ | exact ⟨rfl, rfl, rfl⟩ | refine And.intro ?_ ?_)), ?_⟩
        conv => whnf
        refine ⟨((supTo m i + 2 ^ i : Nat) : Int), by rw [← Int.natCast_add]; exact wU8 (by omega), ?_⟩
        conv => whnf
        repeat (refine ⟨_, wAdd1 (by omega), ?_⟩; conv => whnf)
        rw [show supTo m i + 2 ^ i = supTo m (i + 1) by rw [supTo, if_pos h2]]
        refine ⟨⟨i + 1, by omega⟩, [], by dsimp only; omega, ?_⟩
        conv => whnf
        repeat' (first | exact rfl | exact trivial | exact ⟨_, rfl⟩ | exact ⟨rfl, rfl, rfl⟩ | refine And.intro ?_ ?_)
      · have h2 : ¬ 0 < m.at i := by first | simpa [-List.getD_eq_getElem?_getD] using h2 | (simp [-List.getD_eq_getElem?_getD] at h2; omega)
        conv => whnf
        repeat (refine ⟨_, wAdd1 (by omega), ?_⟩; conv => whnf)
        rw [show supTo m i = supTo m (i + 1) by rw [supTo, if_neg h2, Nat.add_zero]]
        refine ⟨⟨i + 1, by omega⟩, [], by dsimp only; omega, ?_⟩
        conv => whnf
        repeat' (first | exact rfl | exact trivial | exact ⟨_, rfl⟩ | exact ⟨rfl, rfl, rfl⟩ | refine And.intro ?_ ?_)
    · have h : 8 ≤ i := by first | simpa [-List.getD_eq_getElem?_getD] using h | (simp [-List.getD_eq_getElem?_getD] at h; omega)
      obtain rfl : i = 8 := by omega
      conv => whnf
      repeat' (first | exact rfl | exact trivial | exact ⟨_, rfl⟩ | exact ⟨rfl, rfl, rfl⟩ | refine And.intro ?_ ?_)
end Go.Proofs.YtbhnankggcfndaaGreat
namespace Go.Proofs.YtbhnankggcfndaaGreat
open El
set_option maxRecDepth 10000
set_option maxHeartbeats 2000000
theorem mc_set0 (f : Nat → Nat) (i v : Nat) (h : i < 8) : spl (mc (Mo.of f)) (0 + i * 1) [i64n v] = mc (Mo.of fun j => if j = i then v else f j) := by rw [Nat.zero_add]; exact mc_set f i v h
theorem mo_step {f g : Nat → Nat} {i : Nat} : (Mo.of fun j => if j = i then g i else if j < i then g j else f j) = Mo.of fun j => if j < i + 1 then g j else f j := by
  refine Mo.of_congr fun j _ => ?_
  by_cases h : j = i
  · subst h; simp
  · by_cases h2 : j < i
    · rw [if_neg h, if_pos h2, if_pos (by omega)]
    · rw [if_neg h, if_neg h2, if_neg (by omega)]
theorem mo_done {f g : Nat → Nat} : (Mo.of fun j => if j < 8 then g j else f j) = Mo.of g := Mo.of_congr fun j hj => by rw [if_pos hj]
theorem each_spec (f : Nat) (g : Nat → Nat → Nat) (a b : Mo) (hf : ∀ i, i < 8 → FSpec Tryz.prog f [i64n (a.at i), i64n (b.at i)] (i64n (g (a.at i) (b.at i)))) :
    FSpec Tryz.prog 202 [encM a, encM b, .fn f []] (encM (Mo.of fun j => g (a.at j) (b.at j))) := by
  refine FSpec.intro ok [] Tryz.func202 rfl rfl (m := 20) rfl ?_
  conv => whnf
  skip
  refine ⟨{ i : Nat // i ≤ 8 }, fun q_ => match q_ with | ⟨i, _⟩ => ⟨[(8, i64n i)], [(3, .cells 68 (capOf Ty.t68.sh) (mc (Mo.of fun j => if j < i then g (a.at j) (b.at j) else a.at j)))]⟩, ⟨[false, false, false, false, false, false, false, true, true, true, true, true, true, true, true, true, true, true, true, true, true, true], [4, 6], []⟩, fun q_ => match q_ with | ⟨i, _⟩ => 8 - i, ⟨⟨0, Nat.zero_le _⟩, [], ?_⟩, ?_⟩
  · conv => whnf
    repeat' (first | exact rfl | exact trivial | exact ⟨_, rfl⟩ | exact ⟨rfl, rfl, rfl⟩ | refine And.intro ?_ ?_)
  · rintro ⟨i, hi⟩
    conv => whnf
    refine bcase_intro (fun h => ?_) (fun h => ?_)
    · have h : i < 8 := by first | simpa [-List.getD_eq_getElem?_getD] using h | (simp [-List.getD_eq_getElem?_getD] at h; omega)
      conv => whnf
      refine anyC [false, false, false, false, true] [3] (by decide +kernel) ?_
      conv => whnf
      repeat ((first | refine ⟨_, mc_at0 _ h, ?_⟩ | refine ⟨_, ⟨rfl, by omega⟩, ?_⟩); conv => whnf)
      rw [Mo.of_at _ h, if_neg (Nat.lt_irrefl i)]
      refine ⟨_, _, hf i h, SubL.le (by repeat' (first | exact rfl | exact trivial | exact ⟨_, rfl⟩ | exact ⟨rfl, rfl, rfl⟩ | refine And.intro ?_ ?_)), ?_⟩
      conv => whnf
      repeat (refine ⟨_, ⟨rfl, by omega⟩, ?_⟩; conv => whnf)
      refine ⟨by show 0 + i * 1 + 1 ≤ 8; omega, _, mc_set0 _ i _ h, ?_⟩
      conv => whnf
      rw [mo_step (f := a.at) (g := fun j => g (a.at j) (b.at j))]
      repeat (refine ⟨_, wAdd1 (by omega), ?_⟩; conv => whnf)
      refine ⟨⟨i + 1, by omega⟩, [], by dsimp only; omega, ?_⟩
      conv => whnf
      repeat' (first | exact rfl | exact trivial | exact ⟨_, rfl⟩ | exact ⟨rfl, rfl, rfl⟩ | refine And.intro ?_ ?_)
    · have h : 8 ≤ i := by first | simpa [-List.getD_eq_getElem?_getD] using h | (simp [-List.getD_eq_getElem?_getD] at h; omega)
      obtain rfl : i = 8 := by omega
      rw [mo_done (f := a.at) (g := fun j => g (a.at j) (b.at j))]
      conv => whnf
      repeat ((first | refine ⟨by first | decide | exact Nat.le_refl _, _, rfl, ?_⟩ | refine ⟨_, rfl, rfl, ?_⟩); conv => whnf)
      repeat' (first | exact rfl | exact trivial | exact ⟨_, rfl⟩ | exact ⟨rfl, rfl, rfl⟩ | refine And.intro ?_ ?_)
def mulM (a b : Mo) : Mo := Mo.of fun j => a.at j + b.at j
def zeroM : Mo := ⟨0, 0, 0, 0, 0, 0, 0, 0⟩
theorem mulM_at (a b : Mo) (i : Nat) : (mulM a b).at i = a.at i + b.at i := by
  by_cases h : i < 8
  · exact Mo.of_at _ h
  · rw [Mo.at_big _ (by omega), Mo.at_big _ (by omega), Mo.at_big _ (by omega)]
theorem plus_spec (x y : Nat) (h : x + y < 9223372036854775808) : FSpec Tryz.prog 203 [i64n x, i64n y] (i64n (x + y)) := by
  refine FSpec.intro ok [] Tryz.func203 rfl rfl (m := 6) rfl ?_
  conv => whnf
  repeat (refine ⟨_, wAdd (by omega), ?_⟩; conv => whnf)
  repeat' (first | exact rfl | exact trivial | exact ⟨_, rfl⟩ | exact ⟨rfl, rfl, rfl⟩ | refine And.intro ?_ ?_)
theorem mmul_spec (a b : Mo) (ha : Mv a) (hb : Mv b) (h : Mv (mulM a b)) : FSpec Tryz.prog 167 [encM a, encM b] (.tup [encM (mulM a b), .v (.int .i64 0)]) := by
  refine FSpec.intro ok [] Tryz.func167 rfl rfl (m := 13) rfl ?_
  conv => whnf
  repeat (refine ⟨_, rfl, rfl, ?_⟩; conv => whnf)
  refine ⟨_, _, each_spec 203 (· + ·) a b (fun i _ => plus_spec _ _ (by have := ha i; have := hb i; omega)), SubL.le (by repeat' (first | exact rfl | exact trivial | exact ⟨_, rfl⟩ | exact ⟨rfl, rfl, rfl⟩ | refine And.intro ?_ ?_)), ?_⟩
  conv => whnf
  repeat ((first | refine ⟨by first | decide | exact Nat.le_refl _, _, rfl, ?_⟩ | refine ⟨_, rfl, rfl, ?_⟩); conv => whnf)
  refine ⟨_, _, mvalid_spec (mulM a b), SubL.le (by repeat' (first | exact rfl | exact trivial | exact ⟨_, rfl⟩ | exact ⟨rfl, rfl, rfl⟩ | refine And.intro ?_ ?_)), ?_⟩
  conv => whnf
  rw [mvB_iff.2 h]
  repeat ((first | refine ⟨by first | decide | exact Nat.le_refl _, _, rfl, ?_⟩ | refine ⟨_, rfl, rfl, ?_⟩); conv => whnf)
  repeat' (first | exact rfl | exact trivial | exact ⟨_, rfl⟩ | exact ⟨rfl, rfl, rfl⟩ | refine And.intro ?_ ?_)
theorem mmul_big (a b : Mo) (ha : Mv a) (hb : Mv b) (h : mvB (mulM a b) = false) : FSpec Tryz.prog 167 [encM a, encM b] (.tup [encM zeroM, .v (.int .i64 2)]) := by
  refine FSpec.intro ok [] Tryz.func167 rfl rfl (m := 13) rfl ?_
  conv => whnf
  repeat (refine ⟨_, rfl, rfl, ?_⟩; conv => whnf)
  refine ⟨_, _, each_spec 203 (· + ·) a b (fun i _ => plus_spec _ _ (by have := ha i; have := hb i; omega)), SubL.le (by repeat' (first | exact rfl | exact trivial | exact ⟨_, rfl⟩ | exact ⟨rfl, rfl, rfl⟩ | refine And.intro ?_ ?_)), ?_⟩
  conv => whnf
  repeat ((first | refine ⟨by first | decide | exact Nat.le_refl _, _, rfl, ?_⟩ | refine ⟨_, rfl, rfl, ?_⟩); conv => whnf)
  refine ⟨_, _, mvalid_spec (mulM a b), SubL.le (by repeat' (first | exact rfl | exact trivial | exact ⟨_, rfl⟩ | exact ⟨rfl, rfl, rfl⟩ | refine And.intro ?_ ?_)), ?_⟩
  conv => whnf
  rw [h]
  repeat ((first | refine ⟨by first | decide | exact Nat.le_refl _, _, rfl, ?_⟩ | refine ⟨_, rfl, rfl, ?_⟩); conv => whnf)
  repeat' (first | exact rfl | exact trivial | exact ⟨_, rfl⟩ | exact ⟨rfl, rfl, rfl⟩ | refine And.intro ?_ ?_)
theorem mul_loop (a b : Mo) (ha : Mv a) (hb : Mv b) (P : Bool) (hP : mvB (mulM a b) = P) : FSpec Tryz.prog 67 [encM a, encM b] (.tup [encM (if P then mulM a b else zeroM), .v (.int .i64 (if P then 0 else 2))]) := by
  refine FSpec.intro ok [] Tryz.func67 rfl rfl (m := 22) rfl ?_
  conv => whnf
  skip
  refine ⟨{ i : Nat // i ≤ 8 }, fun q_ => match q_ with | ⟨i, _⟩ => ⟨[(6, i64n i)], [(2, .cells 68 (capOf Ty.t68.sh) (mc (Mo.of fun j => if j < i then a.at j + b.at j else a.at j)))]⟩, ⟨[false, false, false, false, false, false, true, true, true, true, true, true, true, true, true, true, true, true, true], [3, 4], []⟩, fun q_ => match q_ with | ⟨i, _⟩ => 8 - i, ⟨⟨0, Nat.zero_le _⟩, [], ?_⟩, ?_⟩
  · conv => whnf
    repeat' (first | exact rfl | exact trivial | exact ⟨_, rfl⟩ | exact ⟨rfl, rfl, rfl⟩ | refine And.intro ?_ ?_)
  · rintro ⟨i, hi⟩
    conv => whnf
    refine bcase_intro (fun h => ?_) (fun h => ?_)
    · have h : i < 8 := by first | simpa [-List.getD_eq_getElem?_getD] using h | (simp [-List.getD_eq_getElem?_getD] at h; omega)
      have h1 := ha i
      have h2 := hb i
      conv => whnf
      refine anyC [false, false, true] [2] (by decide +kernel) ?_
      conv => whnf
      repeat ((first | refine ⟨_, mc_at0 _ h, ?_⟩ | refine ⟨_, ⟨rfl, by omega⟩, ?_⟩); conv => whnf)
      rw [Mo.of_at _ h, if_neg (Nat.lt_irrefl i)]
      repeat ((first | refine ⟨_, wAdd (by omega), ?_⟩ | refine ⟨_, ⟨rfl, by omega⟩, ?_⟩); conv => whnf)
      refine ⟨by show 0 + i * 1 + 1 ≤ 8; omega, _, mc_set0 _ i _ h, ?_⟩
      conv => whnf
      rw [mo_step (f := a.at) (g := fun j => a.at j + b.at j)]
      repeat (refine ⟨_, wAdd1 (by omega), ?_⟩; conv => whnf)
      refine ⟨⟨i + 1, by omega⟩, [], by dsimp only; omega, ?_⟩
      conv => whnf
      repeat' (first | exact rfl | exact trivial | exact ⟨_, rfl⟩ | exact ⟨rfl, rfl, rfl⟩ | refine And.intro ?_ ?_)
    · have h : 8 ≤ i := by first | simpa [-List.getD_eq_getElem?_getD] using h | (simp [-List.getD_eq_getElem?_getD] at h; omega)
      obtain rfl : i = 8 := by omega
      rw [mo_done (f := a.at) (g := fun j => a.at j + b.at j)]
      conv => whnf
      repeat (refine ⟨_, rfl, rfl, ?_⟩; conv => whnf)
      refine ⟨_, _, mvalid_ref (mulM a b), SubL.le (by repeat' (first | exact rfl | exact trivial | exact ⟨_, rfl⟩ | exact ⟨rfl, rfl, rfl⟩ | refine And.intro ?_ ?_)), ?_⟩
      conv => whnf
      rw [hP]
      cases P
      · repeat ((first | refine ⟨by first | decide | exact Nat.le_refl _, _, rfl, ?_⟩ | refine ⟨_, rfl, rfl, ?_⟩); conv => whnf)
        repeat' (first | exact rfl | exact trivial | exact ⟨_, rfl⟩ | exact ⟨rfl, rfl, rfl⟩ | refine And.intro ?_ ?_)
      · repeat ((first | refine ⟨by first | decide | exact Nat.le_refl _, _, rfl, ?_⟩ | refine ⟨_, rfl, rfl, ?_⟩); conv => whnf)
        repeat' (first | exact rfl | exact trivial | exact ⟨_, rfl⟩ | exact ⟨rfl, rfl, rfl⟩ | refine And.intro ?_ ?_)
theorem mmul_ref (a b : Mo) (ha : Mv a) (hb : Mv b) (h : Mv (mulM a b)) : FSpec Tryz.prog 67 [encM a, encM b] (.tup [encM (mulM a b), .v (.int .i64 0)]) := mul_loop a b ha hb true (mvB_iff.2 h)
theorem mmul_ref_big (a b : Mo) (ha : Mv a) (hb : Mv b) (h : mvB (mulM a b) = false) : FSpec Tryz.prog 67 [encM a, encM b] (.tup [encM zeroM, .v (.int .i64 2)]) := mul_loop a b ha hb false h
/-! ### Comparison -/
def cmpL : List Nat → List Nat → Int
  | [], [] => 0
  | [], _ :: _ => -1
  | _ :: _, [] => 1
  | x :: xs, y :: ys => if x < y then -1 else if y < x then 1 else cmpL xs ys
def cmpM (a b : Mo) : Int := cmpL a.l b.l
theorem cmpL_drop (a b : Mo) {i : Nat} (h : i < 8) : cmpL (a.l.drop i) (b.l.drop i) = if a.at i < b.at i then -1 else if b.at i < a.at i then 1 else cmpL (a.l.drop (i + 1)) (b.l.drop (i + 1)) := by
  match i, h with
  | 0, _ => rfl
  | 1, _ => rfl
  | 2, _ => rfl
  | 3, _ => rfl
  | 4, _ => rfl
  | 5, _ => rfl
  | 6, _ => rfl
  | 7, _ => rfl
theorem lcompare_spec (a b : Mo) (E E' : Nat) : FSpec Tryz.prog 171 [.sl E 1 8 false (mc a), .sl E' 1 8 false (mc b)] (.v (.int .i64 (cmpM a b))) := by
  refine FSpec.intro ok [] Tryz.func171 rfl rfl (m := 34) rfl ?_
  conv => whnf
  skip
  refine ⟨{ i : Nat // i ≤ 8 ∧ cmpM a b = cmpL (a.l.drop i) (b.l.drop i) }, fun q_ => match q_ with | ⟨i, _⟩ => ⟨[(11, i64n i)], []⟩, ⟨[false, false, false, false, true, true, true, true, true, false, false, true, true, true, true, true, true, true, true, true, true, true, true, true, true, true, true, true, true, true, true], [], []⟩, fun q_ => match q_ with | ⟨i, _⟩ => 8 - i, ⟨⟨0, Nat.zero_le _, rfl⟩, [], ?_⟩, ?_⟩
  · conv => whnf
    repeat' (first | exact rfl | exact trivial | exact ⟨_, rfl⟩ | exact ⟨rfl, rfl, rfl⟩ | refine And.intro ?_ ?_)
  · rintro ⟨i, hi, he⟩
    conv => whnf
    refine bcase_intro (fun h => ?_) (fun h => ?_)
    · have h : i < 8 := by first | simpa [-List.getD_eq_getElem?_getD] using h | (simp [-List.getD_eq_getElem?_getD] at h; omega)
      rw [cmpL_drop a b h] at he
      conv => whnf
      repeat ((first | refine ⟨_, mc_atd _ h, ?_⟩ | refine ⟨_, ⟨rfl, by omega⟩, ?_⟩); conv => whnf)
      refine bcase_intro (fun h2 => ?_) (fun h2 => ?_)
      · exfalso
        simp at h2
        omega
      · conv => whnf
        repeat ((first | refine ⟨_, mc_atd _ h, ?_⟩ | refine ⟨_, ⟨rfl, by omega⟩, ?_⟩); conv => whnf)
        refine ⟨_, _, cmp_i64 (a.at i) (b.at i), SubL.le (by repeat' (first | exact rfl | exact trivial | exact ⟨_, rfl⟩ | exact ⟨rfl, rfl, rfl⟩ | refine And.intro ?_ ?_)), ?_⟩
        conv => whnf
        skip
        refine bcase_intro (fun h3 => ?_) (fun h3 => ?_)
        · have h3 : cmpN (a.at i) (b.at i) ≠ 0 := by first | simpa [-List.getD_eq_getElem?_getD] using h3 | (simp [-List.getD_eq_getElem?_getD] at h3; omega)
          conv => whnf
          have : cmpN (a.at i) (b.at i) = cmpM a b := by
            rw [he]
            unfold cmpN at h3 ⊢
            split
            · rfl
            · split
              · rfl
              · rename_i h4 h5
                simp [h4, h5] at h3
          rw [this]
          repeat' (first | exact rfl | exact trivial | exact ⟨_, rfl⟩ | exact ⟨rfl, rfl, rfl⟩ | refine And.intro ?_ ?_)
        · have h3 : cmpN (a.at i) (b.at i) = 0 := by first | simpa [-List.getD_eq_getElem?_getD] using h3 | (simp [-List.getD_eq_getElem?_getD] at h3; omega)
          have h4 : ¬ a.at i < b.at i := fun h5 => by simp [cmpN, h5] at h3
          have h5 : ¬ b.at i < a.at i := fun h5 => by simp [cmpN, h4, h5] at h3
          rw [if_neg h4, if_neg h5] at he
          conv => whnf
          repeat (refine ⟨_, wAdd1 (by omega), ?_⟩; conv => whnf)
          refine ⟨⟨i + 1, by omega, he⟩, [], by dsimp only; omega, ?_⟩
          conv => whnf
          repeat' (first | exact rfl | exact trivial | exact ⟨_, rfl⟩ | exact ⟨rfl, rfl, rfl⟩ | refine And.intro ?_ ?_)
    · have h : 8 ≤ i := by first | simpa [-List.getD_eq_getElem?_getD] using h | (simp [-List.getD_eq_getElem?_getD] at h; omega)
      obtain rfl : i = 8 := by omega
      conv => whnf
      skip
      rw [he]
      repeat' (first | exact rfl | exact trivial | exact ⟨_, rfl⟩ | exact ⟨rfl, rfl, rfl⟩ | refine And.intro ?_ ?_)
theorem mcmp_spec (a b : Mo) : FSpec Tryz.prog 131 [encM a, encM b] (.v (.int .i64 (cmpM a b))) := by
  refine FSpec.intro ok [(1, ([2, 3], none))] Tryz.func131 rfl rfl (m := 6) rfl ?_
  conv => whnf
  refine ⟨(by repeat' (first | exact rfl | exact trivial | refine And.intro ?_ ?_)), (by repeat' (first | exact rfl | exact trivial | refine And.intro ?_ ?_)), ?_⟩
  conv => whnf
  refine ⟨(by repeat' (first | exact rfl | exact trivial | refine And.intro ?_ ?_)), (by repeat' (first | exact rfl | exact trivial | refine And.intro ?_ ?_)), ?_⟩
  conv => whnf
  repeat ((first | refine ⟨rfl, ?_⟩ | refine anyA (by decide +kernel) ?_); conv => whnf)
  refine ⟨_, _, lcompare_spec a b _ _, SubL.le (by repeat' (first | exact rfl | exact trivial | exact ⟨_, rfl⟩ | exact ⟨rfl, rfl, rfl⟩ | refine And.intro ?_ ?_)), ?_⟩
  conv => whnf
  repeat' (first | exact rfl | exact trivial | exact ⟨_, rfl⟩ | exact ⟨rfl, rfl, rfl⟩ | refine And.intro ?_ ?_)
theorem mcmp_ref (a b : Mo) : FSpec Tryz.prog 85 [encM a, encM b] (.v (.int .i64 (cmpM a b))) := by
  refine FSpec.intro ok [] Tryz.func85 rfl rfl (m := 22) rfl ?_
  conv => whnf
  skip
  refine ⟨{ i : Nat // i ≤ 8 ∧ cmpM a b = cmpL (a.l.drop i) (b.l.drop i) }, fun q_ => match q_ with | ⟨i, _⟩ => ⟨[(5, i64n i)], []⟩, ⟨[false, false, false, false, true, true, true, true, true, true, true, true, true, true, true, true, true, true, true, true, true, true, true, true], [2, 3], []⟩, fun q_ => match q_ with | ⟨i, _⟩ => 8 - i, ⟨⟨0, Nat.zero_le _, rfl⟩, [], ?_⟩, ?_⟩
  · conv => whnf
    repeat' (first | exact rfl | exact trivial | exact ⟨_, rfl⟩ | exact ⟨rfl, rfl, rfl⟩ | refine And.intro ?_ ?_)
  · rintro ⟨i, hi, he⟩
    conv => whnf
    refine bcase_intro (fun h => ?_) (fun h => ?_)
    · have h : i < 8 := by first | simpa [-List.getD_eq_getElem?_getD] using h | (simp [-List.getD_eq_getElem?_getD] at h; omega)
      rw [cmpL_drop a b h] at he
      conv => whnf
      repeat ((first | refine ⟨_, mc_at0 _ h, ?_⟩ | refine ⟨_, ⟨rfl, by omega⟩, ?_⟩ | refine anyA (by decide +kernel) ?_); conv => whnf)
      refine bcase_intro (fun h2 => ?_) (fun h2 => ?_)
      · have h2 : a.at i < b.at i := by first | simpa [-List.getD_eq_getElem?_getD] using h2 | (simp [-List.getD_eq_getElem?_getD] at h2; omega)
        rw [if_pos h2] at he
        conv => whnf
        rw [he]
        repeat' (first | exact rfl | exact trivial | exact ⟨_, rfl⟩ | exact ⟨rfl, rfl, rfl⟩ | refine And.intro ?_ ?_)
      · have h2 : ¬ a.at i < b.at i := by first | simpa [-List.getD_eq_getElem?_getD] using h2 | (simp [-List.getD_eq_getElem?_getD] at h2; omega)
        conv => whnf
        repeat ((first | refine ⟨_, mc_at0 _ h, ?_⟩ | refine ⟨_, ⟨rfl, by omega⟩, ?_⟩ | refine anyA (by decide +kernel) ?_); conv => whnf)
        refine bcase_intro (fun h3 => ?_) (fun h3 => ?_)
        · have h3 : b.at i < a.at i := by first | simpa [-List.getD_eq_getElem?_getD] using h3 | (simp [-List.getD_eq_getElem?_getD] at h3; omega)
          rw [if_neg h2, if_pos h3] at he
          conv => whnf
          rw [he]
          repeat' (first | exact rfl | exact trivial | exact ⟨_, rfl⟩ | exact ⟨rfl, rfl, rfl⟩ | refine And.intro ?_ ?_)
        · have h3 : ¬ b.at i < a.at i := by first | simpa [-List.getD_eq_getElem?_getD] using h3 | (simp [-List.getD_eq_getElem?_getD] at h3; omega)
          rw [if_neg h2, if_neg h3] at he
          conv => whnf
          repeat (refine ⟨_, wAdd1 (by omega), ?_⟩; conv => whnf)
          refine ⟨⟨i + 1, by omega, he⟩, [], by dsimp only; omega, ?_⟩
          conv => whnf
          repeat' (first | exact rfl | exact trivial | exact ⟨_, rfl⟩ | exact ⟨rfl, rfl, rfl⟩ | refine And.intro ?_ ?_)
    · have h : 8 ≤ i := by first | simpa [-List.getD_eq_getElem?_getD] using h | (simp [-List.getD_eq_getElem?_getD] at h; omega)
      obtain rfl : i = 8 := by omega
      conv => whnf
      rw [he]
      repeat' (first | exact rfl | exact trivial | exact ⟨_, rfl⟩ | exact ⟨rfl, rfl, rfl⟩ | refine And.intro ?_ ?_)
end Go.Proofs.YtbhnankggcfndaaGreat
namespace Go.Proofs.YtbhnankggcfndaaGreat
open El
set_option maxRecDepth 10000
set_option maxHeartbeats 4000000
abbrev Tm := Rat × Mo
abbrev Pl := List Tm
def tc (t : Tm) : List C := [.v (.bool (decide (t.1.num < 0))), encN (limbs t.1.num.natAbs), .v (.bool (decide ((t.1.den : Int) < 0))), encN (limbs (t.1.den : Int).natAbs),
  i64n t.2.a0, i64n t.2.a1, i64n t.2.a2, i64n t.2.a3, i64n t.2.a4, i64n t.2.a5, i64n t.2.a6, i64n t.2.a7]
theorem tc_eq (t : Tm) : tc t = rc t.1.num t.1.den ++ mc t.2 := rfl
theorem tc_len (t : Tm) : (tc t).length = 12 := rfl
def encT (t : Tm) : C := .agg (tc t)
def pc (p : Pl) : List C := (p.map tc).flatten
def encP (p : Pl) : C := .sl 118 12 p.length false (pc p)
def dT : Tm := (0, zeroM)
theorem pc_len (p : Pl) : (pc p).length = p.length * 12 := flat_len tc_len p
theorem pc_append (p q : Pl) : pc (p ++ q) = pc p ++ pc q := by simp [pc]
theorem pc_one (t : Tm) : pc [t] = tc t := by simp [pc]
theorem pc_drop (p : Pl) (i : Nat) (h : i < p.length) : List.drop (i * 12) (pc p) = tc (p.getD i dT) ++ List.drop ((i + 1) * 12) (pc p) := by
  have h1 := flat_take tc_len dT p i h
  have h2 := List.take_append_drop 12 (List.drop (i * 12) (pc p))
  rw [List.drop_drop] at h2
  unfold pc at h2 ⊢
  rw [h1] at h2
  rw [← h2, Nat.succ_mul]
theorem pt_T {p : Pl} {i : Nat} (h : i < p.length) : List.take 12 (List.drop 0 (List.drop (i * 12) (pc p))) = tc (p.getD i dT) := by
  rw [pc_drop p i h]; rfl
theorem pt_M {p : Pl} {i : Nat} (h : i < p.length) : List.take 8 (List.drop 0 (List.drop 4 (List.drop (i * 12) (pc p)))) = mc (p.getD i dT).2 := by
  rw [pc_drop p i h]; rfl
theorem pt_C {p : Pl} {i : Nat} (h : i < p.length) : List.take 4 (List.drop 0 (List.drop 0 (List.drop (i * 12) (pc p)))) = rc (p.getD i dT).1.num (p.getD i dT).1.den := by
  rw [pc_drop p i h]; rfl
/-- All coefficients are small; all exponents are in their range. -/
def Ps (p : Pl) : Prop := p.length ≤ 1000000 ∧ ∀ t ∈ p, Qs t.1
def Pm (p : Pl) : Prop := p.length ≤ 1000000 ∧ ∀ t ∈ p, Mv t.2
theorem getD_mem {p : Pl} {i : Nat} (h : i < p.length) : p.getD i dT ∈ p := by
  rw [List.getD_eq_getElem?_getD, List.getElem?_eq_getElem h]; exact List.getElem_mem h
theorem Ps.at {p : Pl} (hp : Ps p) {i : Nat} (h : i < p.length) : Qs (p.getD i dT).1 := hp.2 _ (getD_mem h)
theorem Pm.at {p : Pl} (hp : Pm p) {i : Nat} (h : i < p.length) : Mv (p.getD i dT).2 := hp.2 _ (getD_mem h)
/-! ### Valid polynomials -/
def okAt (p : Pl) (i : Nat) : Bool := decide ((p.getD i dT).1 ≠ 0) && mvB (p.getD i dT).2 && (decide (i = 0) || decide (0 < cmpM (p.getD (i - 1) dT).2 (p.getD i dT).2))
def pvB (p : Pl) : Bool := (List.range p.length).all (okAt p)
theorem pvB_true {p : Pl} (h : ∀ i, i < p.length → okAt p i = true) : pvB p = true := List.all_eq_true.2 fun i hi => h i (List.mem_range.1 hi)
theorem pvB_false {p : Pl} {i : Nat} (hi : i < p.length) (h : okAt p i = false) : pvB p = false := by
  apply Bool.eq_false_iff.2
  intro h2
  have := List.all_eq_true.1 h2 i (List.mem_range.2 hi)
  rw [h] at this; cases this
theorem sign_zero {q : Rat} : q.num.sign = 0 ↔ q = 0 := by rw [Int.sign_eq_zero_iff_zero, Rat.num_eq_zero]
theorem pvalid_spec (p : Pl) (hs : Ps p) : FSpec Tryz.prog 88 [encP p] (.v (.bool (pvB p))) := by
  have hlen := hs.1
  refine FSpec.intro ok [] Tryz.func88 rfl rfl (m := 42) rfl ?_
  conv => whnf
  skip
  refine ⟨{ i : Nat // i ≤ p.length ∧ ∀ j, j < i → okAt p j = true }, fun q_ => match q_ with | ⟨i, _⟩ => ⟨[(7, .v (.int .i64 i))], []⟩, ⟨[false, false, true, true, true, false, false, true, true, true, true, true, true, true, true, true, true, true, true, true, true, true, true, true, true, true, true, true, true, true, true, true, true, true, true, true, true, true, true, true, true, true, true], [], []⟩, fun q_ => match q_ with | ⟨i, _⟩ => p.length - i, ⟨⟨0, Nat.zero_le _, fun j hj => absurd hj (Nat.not_lt_zero j)⟩, [], ?_⟩, ?_⟩
  · conv => whnf
    repeat' (first | exact rfl | exact trivial | exact ⟨_, rfl⟩ | exact ⟨rfl, rfl, rfl⟩ | refine And.intro ?_ ?_)
  · rintro ⟨i, hi, hall⟩
    conv => whnf
    refine bcase_intro (fun h => ?_) (fun h => ?_)
    · have h : i < p.length := by first | simpa [-List.getD_eq_getElem?_getD] using h | (simp [-List.getD_eq_getElem?_getD] at h; omega)
      have hq := hs.at h
      conv => whnf
      repeat ((first | refine ⟨_, pt_T h, rfl, ?_⟩ | refine ⟨_, ⟨rfl, by omega⟩, ?_⟩ | refine And.intro (by decide : (_ : Nat) ≠ 0) ?_ | refine ⟨by first | decide | exact Nat.le_refl _, _, rfl, ?_⟩ | refine ⟨_, rfl, rfl, ?_⟩); conv => whnf)
      refine ⟨_, _, qvalid_spec (p.getD i dT).1 hq, SubL.le (by repeat' (first | exact rfl | exact trivial | exact ⟨_, rfl⟩ | exact ⟨rfl, rfl, rfl⟩ | refine And.intro ?_ ?_)), ?_⟩
      conv => whnf
      repeat ((first | refine And.intro (by decide : (_ : Nat) ≠ 0) ?_ | refine ⟨_, rfl, rfl, ?_⟩); conv => whnf)
      refine ⟨_, _, qsign_spec (p.getD i dT).1, SubL.le (by repeat' (first | exact rfl | exact trivial | exact ⟨_, rfl⟩ | exact ⟨rfl, rfl, rfl⟩ | refine And.intro ?_ ?_)), ?_⟩
      conv => whnf
      refine bcase_intro (fun h1 => ?_) (fun h1 => ?_)
      · have h1 : (p.getD i dT).1 = 0 := sign_zero.1 (by simpa [-List.getD_eq_getElem?_getD] using h1)
        conv => whnf
        rw [pvB_false h (by unfold okAt; rw [decide_eq_false (fun hn => hn h1)]; rfl)]
        repeat' (first | exact rfl | exact trivial | exact ⟨_, rfl⟩ | exact ⟨rfl, rfl, rfl⟩ | refine And.intro ?_ ?_)
      · have h1 : (p.getD i dT).1 ≠ 0 := fun e => by rw [sign_zero.2 e] at h1; cases h1
        conv => whnf
        repeat ((first | refine And.intro (by decide : (_ : Nat) ≠ 0) ?_ | refine ⟨_, rfl, rfl, ?_⟩); conv => whnf)
        refine ⟨_, _, mvalid_spec (p.getD i dT).2, SubL.le (by repeat' (first | exact rfl | exact trivial | exact ⟨_, rfl⟩ | exact ⟨rfl, rfl, rfl⟩ | refine And.intro ?_ ?_)), ?_⟩
        conv => whnf
        cases hm : mvB (p.getD i dT).2 with
        | false =>
          conv => whnf
          rw [pvB_false h (by unfold okAt; rw [hm, Bool.and_false]; rfl)]
          repeat' (first | exact rfl | exact trivial | exact ⟨_, rfl⟩ | exact ⟨rfl, rfl, rfl⟩ | refine And.intro ?_ ?_)
        | true =>
          conv => whnf
          repeat (refine anyA (by decide +kernel) ?_; conv => whnf)
          refine bcase_intro (fun h2 => ?_) (fun h2 => ?_)
          · have h2 : 0 < i := by first | simpa [-List.getD_eq_getElem?_getD] using h2 | (simp [-List.getD_eq_getElem?_getD] at h2; omega)
            conv => whnf
            repeat ((first | refine ⟨_, pt_M (show i - 1 < p.length by omega), rfl, ?_⟩ | refine ⟨_, wSub1 (by omega) (by omega), ?_⟩ | refine ⟨_, ⟨rfl, by omega⟩, ?_⟩ | refine And.intro (by decide : (_ : Nat) ≠ 0) ?_ | refine ⟨_, rfl, rfl, ?_⟩); conv => whnf)
            refine ⟨_, _, mcmp_spec (p.getD (i - 1) dT).2 (p.getD i dT).2, SubL.le (by repeat' (first | exact rfl | exact trivial | exact ⟨_, rfl⟩ | exact ⟨rfl, rfl, rfl⟩ | refine And.intro ?_ ?_)), ?_⟩
            conv => whnf
            refine bcase_intro (fun h3 => ?_) (fun h3 => ?_)
            · have h3 : cmpM (p.getD (i - 1) dT).2 (p.getD i dT).2 ≤ 0 := by first | simpa [-List.getD_eq_getElem?_getD] using h3 | (simp [-List.getD_eq_getElem?_getD] at h3; omega)
              conv => whnf
              rw [pvB_false h (by unfold okAt; rw [decide_eq_false (show ¬ i = 0 by omega), decide_eq_false (show ¬ 0 < cmpM (p.getD (i - 1) dT).2 (p.getD i dT).2 by omega), Bool.or_false, Bool.and_false])]
              repeat' (first | exact rfl | exact trivial | exact ⟨_, rfl⟩ | exact ⟨rfl, rfl, rfl⟩ | refine And.intro ?_ ?_)
            · have h3 : 0 < cmpM (p.getD (i - 1) dT).2 (p.getD i dT).2 := by first | simpa [-List.getD_eq_getElem?_getD] using h3 | (simp [-List.getD_eq_getElem?_getD] at h3; omega)
              conv => whnf
              repeat (refine ⟨_, wAdd1 (by omega), ?_⟩; conv => whnf)
              have ok1 : okAt p i = true := by unfold okAt; rw [decide_eq_true h1, hm, decide_eq_true h3]; simp
              refine ⟨⟨i + 1, by omega, fun j hj => (Nat.lt_or_ge j i).elim (hall j) (fun h4 => by rw [show j = i by omega]; exact ok1)⟩, [], by dsimp only; omega, ?_⟩
              conv => whnf
              repeat' (first | exact rfl | exact trivial | exact ⟨_, rfl⟩ | exact ⟨rfl, rfl, rfl⟩ | refine And.intro ?_ ?_)
          · have h2 : i = 0 := by first | simpa [-List.getD_eq_getElem?_getD] using h2 | (simp [-List.getD_eq_getElem?_getD] at h2; omega)
            conv => whnf
            repeat (refine ⟨_, wAdd1 (by omega), ?_⟩; conv => whnf)
            have ok1 : okAt p i = true := by unfold okAt; rw [decide_eq_true h1, hm, decide_eq_true h2]; simp
            refine ⟨⟨i + 1, by omega, fun j hj => (Nat.lt_or_ge j i).elim (hall j) (fun h4 => by rw [show j = i by omega]; exact ok1)⟩, [], by dsimp only; omega, ?_⟩
            conv => whnf
            repeat' (first | exact rfl | exact trivial | exact ⟨_, rfl⟩ | exact ⟨rfl, rfl, rfl⟩ | refine And.intro ?_ ?_)
    · have h : p.length ≤ i := by first | simpa [-List.getD_eq_getElem?_getD] using h | (simp [-List.getD_eq_getElem?_getD] at h; omega)
      conv => whnf
      rw [pvB_true fun j hj => hall j (by omega)]
      repeat' (first | exact rfl | exact trivial | exact ⟨_, rfl⟩ | exact ⟨rfl, rfl, rfl⟩ | refine And.intro ?_ ?_)
theorem pvalid_ref (p : Pl) (hs : Ps p) : FSpec Tryz.prog 147 [encP p] (.v (.bool (pvB p))) := by
  have hlen := hs.1
  refine FSpec.intro ok [] Tryz.func147 rfl rfl (m := 51) rfl ?_
  conv => whnf
  skip
  refine ⟨{ i : Nat // i ≤ p.length ∧ ∀ j, j < i → okAt p j = true }, fun q_ => match q_ with | ⟨i, _⟩ => ⟨[(3, .v (.int .i64 i))], []⟩, ⟨[false, false, true, true, true, true, true, true, true, true, true, true, true, true, true, true, true, true, true, true, true, true, true, true, true, true, true, true, true, true, true, true, true, true, true, true, true, true, true, true, true, true, true, true, true, true, true, true, true, true, true, true], [], []⟩, fun q_ => match q_ with | ⟨i, _⟩ => p.length - i, ⟨⟨0, Nat.zero_le _, fun j hj => absurd hj (Nat.not_lt_zero j)⟩, [], ?_⟩, ?_⟩
  · conv => whnf
    repeat' (first | exact rfl | exact trivial | exact ⟨_, rfl⟩ | exact ⟨rfl, rfl, rfl⟩ | refine And.intro ?_ ?_)
  · rintro ⟨i, hi, hall⟩
    conv => whnf
    refine bcase_intro (fun h => ?_) (fun h => ?_)
    · have h : i < p.length := by first | simpa [-List.getD_eq_getElem?_getD] using h | (simp [-List.getD_eq_getElem?_getD] at h; omega)
      have hq := hs.at h
      conv => whnf
      repeat ((first | refine ⟨_, pt_C h, rfl, ?_⟩ | refine ⟨_, ⟨rfl, by omega⟩, ?_⟩ | refine And.intro (by decide : (_ : Nat) ≠ 0) ?_); conv => whnf)
      refine ⟨_, _, qvalid_ref (p.getD i dT).1 hq, SubL.le (by repeat' (first | exact rfl | exact trivial | exact ⟨_, rfl⟩ | exact ⟨rfl, rfl, rfl⟩ | refine And.intro ?_ ?_)), ?_⟩
      conv => whnf
      repeat ((first | refine ⟨_, pt_C h, rfl, ?_⟩ | refine ⟨_, ⟨rfl, by omega⟩, ?_⟩ | refine And.intro (by decide : (_ : Nat) ≠ 0) ?_); conv => whnf)
      refine ⟨_, _, qsign_ref (p.getD i dT).1, SubL.le (by repeat' (first | exact rfl | exact trivial | exact ⟨_, rfl⟩ | exact ⟨rfl, rfl, rfl⟩ | refine And.intro ?_ ?_)), ?_⟩
      conv => whnf
      refine bcase_intro (fun h1 => ?_) (fun h1 => ?_)
      · have h1 : (p.getD i dT).1 = 0 := sign_zero.1 (by simpa [-List.getD_eq_getElem?_getD] using h1)
        conv => whnf
        rw [pvB_false h (by unfold okAt; rw [decide_eq_false (fun hn => hn h1)]; rfl)]
        repeat' (first | exact rfl | exact trivial | exact ⟨_, rfl⟩ | exact ⟨rfl, rfl, rfl⟩ | refine And.intro ?_ ?_)
      · have h1 : (p.getD i dT).1 ≠ 0 := fun e => by rw [sign_zero.2 e] at h1; cases h1
        conv => whnf
        repeat ((first | refine ⟨_, pt_M h, rfl, ?_⟩ | refine ⟨_, ⟨rfl, by omega⟩, ?_⟩ | refine And.intro (by decide : (_ : Nat) ≠ 0) ?_); conv => whnf)
        refine ⟨_, _, mvalid_ref (p.getD i dT).2, SubL.le (by repeat' (first | exact rfl | exact trivial | exact ⟨_, rfl⟩ | exact ⟨rfl, rfl, rfl⟩ | refine And.intro ?_ ?_)), ?_⟩
        conv => whnf
        cases hm : mvB (p.getD i dT).2 with
        | false =>
          conv => whnf
          rw [pvB_false h (by unfold okAt; rw [hm, Bool.and_false]; rfl)]
          repeat' (first | exact rfl | exact trivial | exact ⟨_, rfl⟩ | exact ⟨rfl, rfl, rfl⟩ | refine And.intro ?_ ?_)
        | true =>
          conv => whnf
          repeat (refine anyA (by decide +kernel) ?_; conv => whnf)
          refine bcase_intro (fun h2 => ?_) (fun h2 => ?_)
          · have h2 : 0 < i := by first | simpa [-List.getD_eq_getElem?_getD] using h2 | (simp [-List.getD_eq_getElem?_getD] at h2; omega)
            conv => whnf
            repeat ((first | refine ⟨_, pt_M (show i - 1 < p.length by omega), rfl, ?_⟩ | refine ⟨_, pt_M h, rfl, ?_⟩ | refine ⟨_, wSub1 (by omega) (by omega), ?_⟩ | refine ⟨_, ⟨rfl, by omega⟩, ?_⟩ | refine And.intro (by decide : (_ : Nat) ≠ 0) ?_); conv => whnf)
            refine ⟨_, _, mcmp_ref (p.getD (i - 1) dT).2 (p.getD i dT).2, SubL.le (by repeat' (first | exact rfl | exact trivial | exact ⟨_, rfl⟩ | exact ⟨rfl, rfl, rfl⟩ | refine And.intro ?_ ?_)), ?_⟩
            conv => whnf
            refine bcase_intro (fun h3 => ?_) (fun h3 => ?_)
            · have h3 : cmpM (p.getD (i - 1) dT).2 (p.getD i dT).2 ≤ 0 := by first | simpa [-List.getD_eq_getElem?_getD] using h3 | (simp [-List.getD_eq_getElem?_getD] at h3; omega)
              conv => whnf
              rw [pvB_false h (by unfold okAt; rw [decide_eq_false (show ¬ i = 0 by omega), decide_eq_false (show ¬ 0 < cmpM (p.getD (i - 1) dT).2 (p.getD i dT).2 by omega), Bool.or_false, Bool.and_false])]
              repeat' (first | exact rfl | exact trivial | exact ⟨_, rfl⟩ | exact ⟨rfl, rfl, rfl⟩ | refine And.intro ?_ ?_)
            · have h3 : 0 < cmpM (p.getD (i - 1) dT).2 (p.getD i dT).2 := by first | simpa [-List.getD_eq_getElem?_getD] using h3 | (simp [-List.getD_eq_getElem?_getD] at h3; omega)
              conv => whnf
              repeat (refine ⟨_, wAdd1 (by omega), ?_⟩; conv => whnf)
              have ok1 : okAt p i = true := by unfold okAt; rw [decide_eq_true h1, hm, decide_eq_true h3]; simp
              refine ⟨⟨i + 1, by omega, fun j hj => (Nat.lt_or_ge j i).elim (hall j) (fun h4 => by rw [show j = i by omega]; exact ok1)⟩, [], by dsimp only; omega, ?_⟩
              conv => whnf
              repeat' (first | exact rfl | exact trivial | exact ⟨_, rfl⟩ | exact ⟨rfl, rfl, rfl⟩ | refine And.intro ?_ ?_)
          · have h2 : i = 0 := by first | simpa [-List.getD_eq_getElem?_getD] using h2 | (simp [-List.getD_eq_getElem?_getD] at h2; omega)
            conv => whnf
            repeat (refine ⟨_, wAdd1 (by omega), ?_⟩; conv => whnf)
            have ok1 : okAt p i = true := by unfold okAt; rw [decide_eq_true h1, hm, decide_eq_true h2]; simp
            refine ⟨⟨i + 1, by omega, fun j hj => (Nat.lt_or_ge j i).elim (hall j) (fun h4 => by rw [show j = i by omega]; exact ok1)⟩, [], by dsimp only; omega, ?_⟩
            conv => whnf
            repeat' (first | exact rfl | exact trivial | exact ⟨_, rfl⟩ | exact ⟨rfl, rfl, rfl⟩ | refine And.intro ?_ ?_)
    · have h : p.length ≤ i := by first | simpa [-List.getD_eq_getElem?_getD] using h | (simp [-List.getD_eq_getElem?_getD] at h; omega)
      conv => whnf
      rw [pvB_true fun j hj => hall j (by omega)]
      repeat' (first | exact rfl | exact trivial | exact ⟨_, rfl⟩ | exact ⟨rfl, rfl, rfl⟩ | refine And.intro ?_ ?_)
/-! ### Degrees -/
def degTo (p : Pl) : Nat → Int
  | 0 => -1
  | i + 1 => max (degTo p i) (degM (p.getD i dT).2 : Int)
def degP (p : Pl) : Int := degTo p p.length
theorem wMaxI {a b : Int} : (if (true : Bool) then (if b > a then b else a) else (if b < a then b else a)) = max a b := by
  simp only [if_true]
  split <;> omega
theorem pdegree_spec (p : Pl) (hm : Pm p) : FSpec Tryz.prog 46 [encP p] (.v (.int .i64 (degP p))) := by
  have hlen := hm.1
  refine FSpec.intro ok [] Tryz.func46 rfl rfl (m := 18) rfl ?_
  conv => whnf
  skip
  refine ⟨{ i : Nat // i ≤ p.length }, fun q_ => match q_ with | ⟨i, _⟩ => ⟨[(3, .v (.int .i64 (degTo p i))), (8, .v (.int .i64 i))], []⟩, ⟨[false, false, false, true, false, true, false, false, true, true, true, true, true, true, true, true, true, true], [], []⟩, fun q_ => match q_ with | ⟨i, _⟩ => p.length - i, ⟨⟨0, Nat.zero_le _⟩, [], ?_⟩, ?_⟩
  · conv => whnf
    repeat' (first | exact rfl | exact trivial | exact ⟨_, rfl⟩ | exact ⟨rfl, rfl, rfl⟩ | refine And.intro ?_ ?_)
  · rintro ⟨i, hi⟩
    conv => whnf
    refine bcase_intro (fun h => ?_) (fun h => ?_)
    · have h : i < p.length := by first | simpa [-List.getD_eq_getElem?_getD] using h | (simp [-List.getD_eq_getElem?_getD] at h; omega)
      conv => whnf
      repeat ((first | refine ⟨_, pt_T h, rfl, ?_⟩ | refine ⟨_, ⟨rfl, by omega⟩, ?_⟩ | refine And.intro (by decide : (_ : Nat) ≠ 0) ?_ | refine ⟨by first | decide | exact Nat.le_refl _, _, rfl, ?_⟩ | refine ⟨_, rfl, rfl, ?_⟩); conv => whnf)
      refine ⟨_, _, mdegree_spec (p.getD i dT).2 (hm.at h), SubL.le (by repeat' (first | exact rfl | exact trivial | exact ⟨_, rfl⟩ | exact ⟨rfl, rfl, rfl⟩ | refine And.intro ?_ ?_)), ?_⟩
      conv => whnf
      refine ⟨_, wMaxI, ?_⟩
      conv => whnf
      repeat (refine ⟨_, wAdd1 (by omega), ?_⟩; conv => whnf)
      refine ⟨⟨i + 1, by omega⟩, [], by dsimp only; omega, ?_⟩
      conv => whnf
      repeat' (first | exact rfl | exact trivial | exact ⟨_, rfl⟩ | exact ⟨rfl, rfl, rfl⟩ | refine And.intro ?_ ?_)
    · have h : p.length ≤ i := by first | simpa [-List.getD_eq_getElem?_getD] using h | (simp [-List.getD_eq_getElem?_getD] at h; omega)
      obtain rfl : i = p.length := by omega
      conv => whnf
      repeat' (first | exact rfl | exact trivial | exact ⟨_, rfl⟩ | exact ⟨rfl, rfl, rfl⟩ | refine And.intro ?_ ?_)
theorem pdegree_ref (p : Pl) (hm : Pm p) : FSpec Tryz.prog 102 [encP p] (.v (.int .i64 (degP p))) := by
  have hlen := hm.1
  refine FSpec.intro ok [] Tryz.func102 rfl rfl (m := 19) rfl ?_
  conv => whnf
  skip
  refine ⟨{ i : Nat // i ≤ p.length }, fun q_ => match q_ with | ⟨i, _⟩ => ⟨[(3, .v (.int .i64 (degTo p i))), (4, .v (.int .i64 i))], []⟩, ⟨[false, false, false, true, true, true, true, true, true, true, true, true, true, true, true, true, true, true, true], [], []⟩, fun q_ => match q_ with | ⟨i, _⟩ => p.length - i, ⟨⟨0, Nat.zero_le _⟩, [], ?_⟩, ?_⟩
  · conv => whnf
    repeat' (first | exact rfl | exact trivial | exact ⟨_, rfl⟩ | exact ⟨rfl, rfl, rfl⟩ | refine And.intro ?_ ?_)
  · rintro ⟨i, hi⟩
    conv => whnf
    refine bcase_intro (fun h => ?_) (fun h => ?_)
    · have h : i < p.length := by first | simpa [-List.getD_eq_getElem?_getD] using h | (simp [-List.getD_eq_getElem?_getD] at h; omega)
      conv => whnf
      repeat ((first | refine ⟨_, pt_M h, rfl, ?_⟩ | refine ⟨_, ⟨rfl, by omega⟩, ?_⟩ | refine And.intro (by decide : (_ : Nat) ≠ 0) ?_); conv => whnf)
      refine ⟨_, _, mdegree_ref (p.getD i dT).2 (hm.at h), SubL.le (by repeat' (first | exact rfl | exact trivial | exact ⟨_, rfl⟩ | exact ⟨rfl, rfl, rfl⟩ | refine And.intro ?_ ?_)), ?_⟩
      conv => whnf
      refine ⟨_, wMaxI, ?_⟩
      conv => whnf
      repeat (refine ⟨_, wAdd1 (by omega), ?_⟩; conv => whnf)
      refine ⟨⟨i + 1, by omega⟩, [], by dsimp only; omega, ?_⟩
      conv => whnf
      repeat' (first | exact rfl | exact trivial | exact ⟨_, rfl⟩ | exact ⟨rfl, rfl, rfl⟩ | refine And.intro ?_ ?_)
    · have h : p.length ≤ i := by first | simpa [-List.getD_eq_getElem?_getD] using h | (simp [-List.getD_eq_getElem?_getD] at h; omega)
      obtain rfl : i = p.length := by omega
      conv => whnf
      repeat' (first | exact rfl | exact trivial | exact ⟨_, rfl⟩ | exact ⟨rfl, rfl, rfl⟩ | refine And.intro ?_ ?_)
/-! ### Variables -/
def useTo (p : Pl) : Nat → Nat
  | 0 => 0
  | i + 1 => useTo p i ||| supM (p.getD i dT).2
def useP (p : Pl) : Nat := useTo p p.length
theorem useTo_lt (p : Pl) : ∀ i, useTo p i < 256
  | 0 => by simp [useTo]
  | i + 1 => Nat.or_lt_two_pow (n := 8) (useTo_lt p i) (supTo_lt _ 8)
theorem wOrU8 {x y : Nat} (hx : x < 256) (hy : y < 256) : IntKind.u8.wrap ((BitVec.ofInt IntKind.u8.bits (x : Int) ||| BitVec.ofInt IntKind.u8.bits (y : Int)).toNat : Int) = ((x ||| y : Nat) : Int) := by
  show IntKind.u8.wrap (((BitVec.ofInt 8 (x : Int) ||| BitVec.ofInt 8 (y : Int) : BitVec 8)).toNat : Int) = _
  have e1 : (BitVec.ofInt 8 (x : Int)).toNat = x := by rw [BitVec.toNat_ofInt]; omega
  have e2 : (BitVec.ofInt 8 (y : Int)).toNat = y := by rw [BitVec.toNat_ofInt]; omega
  rw [BitVec.toNat_or, e1, e2, wU8 (Nat.or_lt_two_pow (n := 8) hx hy)]
theorem puses_spec (p : Pl) (hlen : p.length ≤ 1000000) : FSpec Tryz.prog 89 [encP p] (u8 (useP p)) := by
  refine FSpec.intro ok [] Tryz.func89 rfl rfl (m := 18) rfl ?_
  conv => whnf
  skip
  refine ⟨{ i : Nat // i ≤ p.length }, fun q_ => match q_ with | ⟨i, _⟩ => ⟨[(3, u8 (useTo p i)), (8, .v (.int .i64 i))], []⟩, ⟨[false, false, false, true, false, true, false, false, true, true, true, true, true, true, true, true, true, true], [], []⟩, fun q_ => match q_ with | ⟨i, _⟩ => p.length - i, ⟨⟨0, Nat.zero_le _⟩, [], ?_⟩, ?_⟩
  · conv => whnf
    repeat' (first | exact rfl | exact trivial | exact ⟨_, rfl⟩ | exact ⟨rfl, rfl, rfl⟩ | refine And.intro ?_ ?_)
  · rintro ⟨i, hi⟩
    conv => whnf
    refine bcase_intro (fun h => ?_) (fun h => ?_)
    · have h : i < p.length := by first | simpa [-List.getD_eq_getElem?_getD] using h | (simp [-List.getD_eq_getElem?_getD] at h; omega)
      conv => whnf
      repeat ((first | refine ⟨_, pt_T h, rfl, ?_⟩ | refine ⟨_, ⟨rfl, by omega⟩, ?_⟩ | refine And.intro (by decide : (_ : Nat) ≠ 0) ?_ | refine ⟨by first | decide | exact Nat.le_refl _, _, rfl, ?_⟩ | refine ⟨_, rfl, rfl, ?_⟩); conv => whnf)
      refine ⟨_, _, msupport_spec (p.getD i dT).2, SubL.le (by repeat' (first | exact rfl | exact trivial | exact ⟨_, rfl⟩ | exact ⟨rfl, rfl, rfl⟩ | refine And.intro ?_ ?_)), ?_⟩
      conv => whnf
      refine ⟨_, wOrU8 (useTo_lt p i) (supTo_lt _ 8), ?_⟩
      conv => whnf
      repeat (refine ⟨_, wAdd1 (by omega), ?_⟩; conv => whnf)
      refine ⟨⟨i + 1, by omega⟩, [], by dsimp only; omega, ?_⟩
      conv => whnf
      repeat' (first | exact rfl | exact trivial | exact ⟨_, rfl⟩ | exact ⟨rfl, rfl, rfl⟩ | refine And.intro ?_ ?_)
    · have h : p.length ≤ i := by first | simpa [-List.getD_eq_getElem?_getD] using h | (simp [-List.getD_eq_getElem?_getD] at h; omega)
      obtain rfl : i = p.length := by omega
      conv => whnf
      repeat' (first | exact rfl | exact trivial | exact ⟨_, rfl⟩ | exact ⟨rfl, rfl, rfl⟩ | refine And.intro ?_ ?_)
theorem puses_ref (p : Pl) (hlen : p.length ≤ 1000000) : FSpec Tryz.prog 148 [encP p] (u8 (useP p)) := by
  refine FSpec.intro ok [] Tryz.func148 rfl rfl (m := 19) rfl ?_
  conv => whnf
  skip
  refine ⟨{ i : Nat // i ≤ p.length }, fun q_ => match q_ with | ⟨i, _⟩ => ⟨[(3, u8 (useTo p i)), (4, .v (.int .i64 i))], []⟩, ⟨[false, false, false, true, true, true, true, true, true, true, true, true, true, true, true, true, true, true, true], [], []⟩, fun q_ => match q_ with | ⟨i, _⟩ => p.length - i, ⟨⟨0, Nat.zero_le _⟩, [], ?_⟩, ?_⟩
  · conv => whnf
    repeat' (first | exact rfl | exact trivial | exact ⟨_, rfl⟩ | exact ⟨rfl, rfl, rfl⟩ | refine And.intro ?_ ?_)
  · rintro ⟨i, hi⟩
    conv => whnf
    refine bcase_intro (fun h => ?_) (fun h => ?_)
    · have h : i < p.length := by first | simpa [-List.getD_eq_getElem?_getD] using h | (simp [-List.getD_eq_getElem?_getD] at h; omega)
      conv => whnf
      repeat ((first | refine ⟨_, pt_M h, rfl, ?_⟩ | refine ⟨_, ⟨rfl, by omega⟩, ?_⟩ | refine And.intro (by decide : (_ : Nat) ≠ 0) ?_); conv => whnf)
      refine ⟨_, _, msupport_ref (p.getD i dT).2, SubL.le (by repeat' (first | exact rfl | exact trivial | exact ⟨_, rfl⟩ | exact ⟨rfl, rfl, rfl⟩ | refine And.intro ?_ ?_)), ?_⟩
      conv => whnf
      refine ⟨_, wOrU8 (useTo_lt p i) (supTo_lt _ 8), ?_⟩
      conv => whnf
      repeat (refine ⟨_, wAdd1 (by omega), ?_⟩; conv => whnf)
      refine ⟨⟨i + 1, by omega⟩, [], by dsimp only; omega, ?_⟩
      conv => whnf
      repeat' (first | exact rfl | exact trivial | exact ⟨_, rfl⟩ | exact ⟨rfl, rfl, rfl⟩ | refine And.intro ?_ ?_)
    · have h : p.length ≤ i := by first | simpa [-List.getD_eq_getElem?_getD] using h | (simp [-List.getD_eq_getElem?_getD] at h; omega)
      obtain rfl : i = p.length := by omega
      conv => whnf
      repeat' (first | exact rfl | exact trivial | exact ⟨_, rfl⟩ | exact ⟨rfl, rfl, rfl⟩ | refine And.intro ?_ ?_)
/-! ### Constants -/
def conP (c : Rat) : Pl := if c = 0 then [] else [(c, zeroM)]
theorem constant_spec (c : Rat) : FSpec Tryz.prog 47 [encQ c] (encP (conP c)) := by
  refine FSpec.intro ok [] Tryz.func47 rfl rfl (m := 8) rfl ?_
  conv => whnf
  repeat (refine ⟨_, rfl, rfl, ?_⟩; conv => whnf)
  refine ⟨_, _, qsign_spec c, SubL.le (by repeat' (first | exact rfl | exact trivial | exact ⟨_, rfl⟩ | exact ⟨rfl, rfl, rfl⟩ | refine And.intro ?_ ?_)), ?_⟩
  conv => whnf
  refine bcase_intro (fun h => ?_) (fun h => ?_)
  · have h : c = 0 := sign_zero.1 (by simpa using h)
    conv => whnf
    rw [conP, if_pos h]
    repeat' (first | exact rfl | exact trivial | exact ⟨_, rfl⟩ | exact ⟨rfl, rfl, rfl⟩ | refine And.intro ?_ ?_)
  · have h : c ≠ 0 := fun e => by rw [sign_zero.2 e] at h; cases h
    conv => whnf
    repeat (refine ⟨_, rfl, rfl, ?_⟩; conv => whnf)
    rw [conP, if_neg h]
    repeat' (first | exact rfl | exact trivial | exact ⟨_, rfl⟩ | exact ⟨rfl, rfl, rfl⟩ | refine And.intro ?_ ?_)
theorem constant_ref (c : Rat) : FSpec Tryz.prog 51 [encQ c] (encP (conP c)) := by
  refine FSpec.intro ok [] Tryz.func51 rfl rfl (m := 8) rfl ?_
  conv => whnf
  repeat (refine ⟨_, rfl, rfl, ?_⟩; conv => whnf)
  refine ⟨_, _, qsign_ref c, SubL.le (by repeat' (first | exact rfl | exact trivial | exact ⟨_, rfl⟩ | exact ⟨rfl, rfl, rfl⟩ | refine And.intro ?_ ?_)), ?_⟩
  conv => whnf
  refine bcase_intro (fun h => ?_) (fun h => ?_)
  · have h : c = 0 := sign_zero.1 (by simpa using h)
    conv => whnf
    rw [conP, if_pos h]
    repeat' (first | exact rfl | exact trivial | exact ⟨_, rfl⟩ | exact ⟨rfl, rfl, rfl⟩ | refine And.intro ?_ ?_)
  · have h : c ≠ 0 := fun e => by rw [sign_zero.2 e] at h; cases h
    conv => whnf
    repeat (refine ⟨_, rfl, rfl, ?_⟩; conv => whnf)
    rw [conP, if_neg h]
    repeat' (first | exact rfl | exact trivial | exact ⟨_, rfl⟩ | exact ⟨rfl, rfl, rfl⟩ | refine And.intro ?_ ?_)
end Go.Proofs.YtbhnankggcfndaaGreat
namespace Go.Proofs.YtbhnankggcfndaaGreat
open El
set_option maxRecDepth 10000
set_option maxHeartbeats 4000000
def cmpT (a b : Tm) : Int := if cmpM a.2 b.2 ≠ 0 then cmpM a.2 b.2 else cmpQ a.1 b.1
def cmpP : Pl → Pl → Int
  | [], [] => 0
  | [], _ :: _ => -1
  | _ :: _, [] => 1
  | a :: p, b :: q => if cmpT a b ≠ 0 then cmpT a b else cmpP p q
theorem drop_getD {p : Pl} {i : Nat} (h : i < p.length) : p.drop i = p.getD i dT :: p.drop (i + 1) := by
  rw [List.drop_eq_getElem_cons h, List.getD_eq_getElem?_getD, List.getElem?_eq_getElem h, Option.getD_some]
theorem cmpP_drop {p q : Pl} {i : Nat} (h : i < p.length) (h2 : i < q.length) : cmpP (p.drop i) (q.drop i) = if cmpT (p.getD i dT) (q.getD i dT) ≠ 0 then cmpT (p.getD i dT) (q.getD i dT) else cmpP (p.drop (i + 1)) (q.drop (i + 1)) := by
  rw [drop_getD h, drop_getD h2]; rfl
theorem cmpP_gt {p q : Pl} {i : Nat} (h : i < p.length) (h2 : q.length ≤ i) : cmpP (p.drop i) (q.drop i) = 1 := by
  rw [drop_getD h, List.drop_of_length_le h2]; rfl
theorem cmpP_lt {p q : Pl} {i : Nat} (h : p.length ≤ i) (h2 : i < q.length) : cmpP (p.drop i) (q.drop i) = -1 := by
  rw [drop_getD h2, List.drop_of_length_le h]; rfl
theorem cmpP_nil {p q : Pl} {i : Nat} (h : p.length ≤ i) (h2 : q.length ≤ i) : cmpP (p.drop i) (q.drop i) = 0 := by
  rw [List.drop_of_length_le h, List.drop_of_length_le h2]; rfl
theorem tcmp_spec (a b : Tm) (ha : Qs a.1) (hb : Qs b.1) : FSpec Tryz.prog 145 [encT a, encT b] (.v (.int .i64 (cmpT a b))) := by
  refine FSpec.intro ok [] Tryz.func145 rfl rfl (m := 17) rfl ?_
  conv => whnf
  repeat ((first | refine And.intro (by decide : (_ : Nat) ≠ 0) ?_ | refine ⟨_, rfl, rfl, ?_⟩); conv => whnf)
  refine ⟨_, _, mcmp_spec a.2 b.2, SubL.le (by repeat' (first | exact rfl | exact trivial | exact ⟨_, rfl⟩ | exact ⟨rfl, rfl, rfl⟩ | refine And.intro ?_ ?_)), ?_⟩
  conv => whnf
  refine bcase_intro (fun h => ?_) (fun h => ?_)
  · have h : cmpM a.2 b.2 ≠ 0 := by first | simpa [-List.getD_eq_getElem?_getD] using h | (simp [-List.getD_eq_getElem?_getD] at h; omega)
    conv => whnf
    rw [cmpT, if_pos h]
    repeat' (first | exact rfl | exact trivial | exact ⟨_, rfl⟩ | exact ⟨rfl, rfl, rfl⟩ | refine And.intro ?_ ?_)
  · have h : cmpM a.2 b.2 = 0 := by first | simpa [-List.getD_eq_getElem?_getD] using h | (simp [-List.getD_eq_getElem?_getD] at h; omega)
    conv => whnf
    repeat ((first | refine And.intro (by decide : (_ : Nat) ≠ 0) ?_ | refine ⟨_, rfl, rfl, ?_⟩); conv => whnf)
    refine ⟨_, _, qcmp_spec a.1 b.1 ha hb, SubL.le (by repeat' (first | exact rfl | exact trivial | exact ⟨_, rfl⟩ | exact ⟨rfl, rfl, rfl⟩ | refine And.intro ?_ ?_)), ?_⟩
    conv => whnf
    rw [cmpT, if_neg (fun hn => hn h)]
    repeat' (first | exact rfl | exact trivial | exact ⟨_, rfl⟩ | exact ⟨rfl, rfl, rfl⟩ | refine And.intro ?_ ?_)
theorem pcmpf_spec (p q : Pl) (hp : Ps p) (hq : Ps q) (f : Nat) (hf : ∀ a b, Qs a.1 → Qs b.1 → FSpec Tryz.prog f [encT a, encT b] (.v (.int .i64 (cmpT a b)))) :
    FSpec Tryz.prog 144 [encP p, encP q, .fn f []] (.v (.int .i64 (cmpP p q))) := by
  have hlen := hp.1
  have hlen2 := hq.1
  refine FSpec.intro ok [] Tryz.func144 rfl rfl (m := 36) rfl ?_
  conv => whnf
  skip
  refine ⟨{ i : Nat // i ≤ p.length ∧ cmpP p q = cmpP (p.drop i) (q.drop i) }, fun q_ => match q_ with | ⟨i, _⟩ => ⟨[(13, .v (.int .i64 i))], []⟩, ⟨[false, false, false, false, false, false, true, true, true, true, true, false, false, true, true, true, true, true, true, true, true, true, true, true, true, true, true, true, true, true, true, true, true, true], [], []⟩, fun q_ => match q_ with | ⟨i, _⟩ => p.length - i, ⟨⟨0, Nat.zero_le _, rfl⟩, [], ?_⟩, ?_⟩
  · conv => whnf
    repeat' (first | exact rfl | exact trivial | exact ⟨_, rfl⟩ | exact ⟨rfl, rfl, rfl⟩ | refine And.intro ?_ ?_)
  · rintro ⟨i, hi, he⟩
    conv => whnf
    refine bcase_intro (fun h => ?_) (fun h => ?_)
    · have h : i < p.length := by first | simpa [-List.getD_eq_getElem?_getD] using h | (simp [-List.getD_eq_getElem?_getD] at h; omega)
      conv => whnf
      repeat ((first | refine ⟨_, pt_T h, rfl, ?_⟩ | refine ⟨_, ⟨rfl, by omega⟩, ?_⟩ | refine ⟨by first | decide | exact Nat.le_refl _, _, rfl, ?_⟩); conv => whnf)
      refine bcase_intro (fun h2 => ?_) (fun h2 => ?_)
      · have h2 : q.length ≤ i := by first | simpa [-List.getD_eq_getElem?_getD] using h2 | (simp [-List.getD_eq_getElem?_getD] at h2; omega)
        conv => whnf
        rw [he, cmpP_gt h h2]
        repeat' (first | exact rfl | exact trivial | exact ⟨_, rfl⟩ | exact ⟨rfl, rfl, rfl⟩ | refine And.intro ?_ ?_)
      · have h2 : i < q.length := by first | simpa [-List.getD_eq_getElem?_getD] using h2 | (simp [-List.getD_eq_getElem?_getD] at h2; omega)
        rw [cmpP_drop h h2] at he
        conv => whnf
        repeat ((first | refine ⟨_, pt_T h2, rfl, ?_⟩ | refine ⟨_, ⟨rfl, by omega⟩, ?_⟩ | refine ⟨by first | decide | exact Nat.le_refl _, _, rfl, ?_⟩ | refine ⟨_, rfl, rfl, ?_⟩); conv => whnf)
        refine ⟨_, _, hf (p.getD i dT) (q.getD i dT) (hp.at h) (hq.at h2), SubL.le (by repeat' (first | exact rfl | exact trivial | exact ⟨_, rfl⟩ | exact ⟨rfl, rfl, rfl⟩ | refine And.intro ?_ ?_)), ?_⟩
        conv => whnf
        refine bcase_intro (fun h3 => ?_) (fun h3 => ?_)
        · have h3 : cmpT (p.getD i dT) (q.getD i dT) ≠ 0 := by first | simpa [-List.getD_eq_getElem?_getD] using h3 | (simp [-List.getD_eq_getElem?_getD] at h3; omega)
          rw [if_pos h3] at he
          conv => whnf
          rw [he]
          repeat' (first | exact rfl | exact trivial | exact ⟨_, rfl⟩ | exact ⟨rfl, rfl, rfl⟩ | refine And.intro ?_ ?_)
        · have h3 : cmpT (p.getD i dT) (q.getD i dT) = 0 := by first | simpa [-List.getD_eq_getElem?_getD] using h3 | (simp [-List.getD_eq_getElem?_getD] at h3; omega)
          rw [if_neg (fun hn => hn h3)] at he
          conv => whnf
          repeat (refine ⟨_, wAdd1 (by omega), ?_⟩; conv => whnf)
          refine ⟨⟨i + 1, by omega, he⟩, [], by dsimp only; omega, ?_⟩
          conv => whnf
          repeat' (first | exact rfl | exact trivial | exact ⟨_, rfl⟩ | exact ⟨rfl, rfl, rfl⟩ | refine And.intro ?_ ?_)
    · have h : p.length ≤ i := by first | simpa [-List.getD_eq_getElem?_getD] using h | (simp [-List.getD_eq_getElem?_getD] at h; omega)
      obtain rfl : i = p.length := by omega
      conv => whnf
      skip
      refine bcase_intro (fun h2 => ?_) (fun h2 => ?_)
      · have h2 : p.length < q.length := by first | simpa [-List.getD_eq_getElem?_getD] using h2 | (simp [-List.getD_eq_getElem?_getD] at h2; omega)
        conv => whnf
        rw [he, cmpP_lt (Nat.le_refl _) h2]
        repeat' (first | exact rfl | exact trivial | exact ⟨_, rfl⟩ | exact ⟨rfl, rfl, rfl⟩ | refine And.intro ?_ ?_)
      · have h2 : q.length ≤ p.length := by first | simpa [-List.getD_eq_getElem?_getD] using h2 | (simp [-List.getD_eq_getElem?_getD] at h2; omega)
        conv => whnf
        rw [he, cmpP_nil (Nat.le_refl _) h2]
        repeat' (first | exact rfl | exact trivial | exact ⟨_, rfl⟩ | exact ⟨rfl, rfl, rfl⟩ | refine And.intro ?_ ?_)
theorem pcmp_spec (p q : Pl) (hp : Ps p) (hq : Ps q) : FSpec Tryz.prog 97 [encP p, encP q] (.v (.int .i64 (cmpP p q))) := by
  refine FSpec.intro ok [] Tryz.func97 rfl rfl (m := 6) rfl ?_
  conv => whnf
  skip
  refine ⟨_, _, pcmpf_spec p q hp hq 145 tcmp_spec, SubL.le (by repeat' (first | exact rfl | exact trivial | exact ⟨_, rfl⟩ | exact ⟨rfl, rfl, rfl⟩ | refine And.intro ?_ ?_)), ?_⟩
  conv => whnf
  repeat' (first | exact rfl | exact trivial | exact ⟨_, rfl⟩ | exact ⟨rfl, rfl, rfl⟩ | refine And.intro ?_ ?_)
theorem psame_spec (p q : Pl) (hp : Ps p) (hq : Ps q) : FSpec Tryz.prog 80 [encP p, encP q] (.v (.bool (cmpP p q == 0))) := by
  refine FSpec.intro ok [] Tryz.func80 rfl rfl (m := 7) rfl ?_
  conv => whnf
  skip
  refine ⟨_, _, pcmp_spec p q hp hq, SubL.le (by repeat' (first | exact rfl | exact trivial | exact ⟨_, rfl⟩ | exact ⟨rfl, rfl, rfl⟩ | refine And.intro ?_ ?_)), ?_⟩
  conv => whnf
  repeat' (first | exact rfl | exact trivial | exact ⟨_, rfl⟩ | exact ⟨rfl, rfl, rfl⟩ | refine And.intro ?_ ?_)
theorem pcmp_ref (p q : Pl) (hp : Ps p) (hq : Ps q) : FSpec Tryz.prog 101 [encP p, encP q] (.v (.int .i64 (cmpP p q))) := by
  have hlen := hp.1
  have hlen2 := hq.1
  refine FSpec.intro ok [] Tryz.func101 rfl rfl (m := 72) rfl ?_
  conv => whnf
  skip
  refine ⟨{ i : Nat // i ≤ p.length ∧ i ≤ q.length ∧ cmpP p q = cmpP (p.drop i) (q.drop i) }, fun q_ => match q_ with | ⟨i, _⟩ => ⟨[(5, .v (.int .i64 i))], []⟩, ⟨[false, false, false, false, true, true, true, true, true, true, true, true, true, true, true, true, true, true, true, true, true, true, true, true, true, true, true, true, true, true, true, true, true, true, true, true, true, true, true, true, true, true, true, true, true, true, true, true, true, true, true, true, true, true, true, true, true, true, true, true, true, true, true, true], [], []⟩, fun q_ => match q_ with | ⟨i, _⟩ => p.length - i, ⟨⟨0, Nat.zero_le _, Nat.zero_le _, rfl⟩, [], ?_⟩, ?_⟩
  · conv => whnf
    repeat' (first | exact rfl | exact trivial | exact ⟨_, rfl⟩ | exact ⟨rfl, rfl, rfl⟩ | refine And.intro ?_ ?_)
  · rintro ⟨i, hi, hi2, he⟩
    have fin : (p.length ≤ i ∨ q.length ≤ i) → cmpP p q = if p.length < q.length then -1 else if q.length < p.length then 1 else 0 := by
      intro h
      rw [he]
      by_cases h1 : p.length < q.length
      · rw [if_pos h1]; exact cmpP_lt (by omega) (by omega)
      · rw [if_neg h1]
        by_cases h2 : q.length < p.length
        · rw [if_pos h2]; exact cmpP_gt (by omega) (by omega)
        · rw [if_neg h2]; exact cmpP_nil (by omega) (by omega)
    conv => whnf
    refine bcase_intro (fun h => ?_) (fun h => ?_)
    · have h : i < p.length := by first | simpa [-List.getD_eq_getElem?_getD] using h | (simp [-List.getD_eq_getElem?_getD] at h; omega)
      conv => whnf
      refine bcase_intro (fun h2 => ?_) (fun h2 => ?_)
      · have h2 : i < q.length := by first | simpa [-List.getD_eq_getElem?_getD] using h2 | (simp [-List.getD_eq_getElem?_getD] at h2; omega)
        rw [cmpP_drop h h2] at he
        conv => whnf
        repeat ((first | refine ⟨_, pt_M h, rfl, ?_⟩ | refine ⟨_, pt_M h2, rfl, ?_⟩ | refine ⟨_, ⟨rfl, by omega⟩, ?_⟩ | refine And.intro (by decide : (_ : Nat) ≠ 0) ?_ | refine anyA (by decide +kernel) ?_); conv => whnf)
        refine ⟨_, _, mcmp_ref (p.getD i dT).2 (q.getD i dT).2, SubL.le (by repeat' (first | exact rfl | exact trivial | exact ⟨_, rfl⟩ | exact ⟨rfl, rfl, rfl⟩ | refine And.intro ?_ ?_)), ?_⟩
        conv => whnf
        skip
        refine bcase_intro (fun h3 => ?_) (fun h3 => ?_)
        · have h3 : cmpM (p.getD i dT).2 (q.getD i dT).2 ≠ 0 := by first | simpa [-List.getD_eq_getElem?_getD] using h3 | (simp [-List.getD_eq_getElem?_getD] at h3; omega)
          conv => whnf
          repeat ((first | refine ⟨_, pt_M h, rfl, ?_⟩ | refine ⟨_, pt_M h2, rfl, ?_⟩ | refine ⟨_, ⟨rfl, by omega⟩, ?_⟩ | refine And.intro (by decide : (_ : Nat) ≠ 0) ?_ | refine anyA (by decide +kernel) ?_); conv => whnf)
          refine ⟨_, _, mcmp_ref (p.getD i dT).2 (q.getD i dT).2, SubL.le (by repeat' (first | exact rfl | exact trivial | exact ⟨_, rfl⟩ | exact ⟨rfl, rfl, rfl⟩ | refine And.intro ?_ ?_)), ?_⟩
          conv => whnf
          have e : cmpT (p.getD i dT) (q.getD i dT) = cmpM (p.getD i dT).2 (q.getD i dT).2 := by rw [cmpT, if_pos h3]
          rw [he, e, if_pos h3]
          repeat' (first | exact rfl | exact trivial | exact ⟨_, rfl⟩ | exact ⟨rfl, rfl, rfl⟩ | refine And.intro ?_ ?_)
        · have h3 : cmpM (p.getD i dT).2 (q.getD i dT).2 = 0 := by first | simpa [-List.getD_eq_getElem?_getD] using h3 | (simp [-List.getD_eq_getElem?_getD] at h3; omega)
          have e : cmpT (p.getD i dT) (q.getD i dT) = cmpQ (p.getD i dT).1 (q.getD i dT).1 := by rw [cmpT, if_neg (fun hn => hn h3)]
          conv => whnf
          repeat ((first | refine ⟨_, pt_C h, rfl, ?_⟩ | refine ⟨_, pt_C h2, rfl, ?_⟩ | refine ⟨_, ⟨rfl, by omega⟩, ?_⟩ | refine And.intro (by decide : (_ : Nat) ≠ 0) ?_ | refine anyA (by decide +kernel) ?_); conv => whnf)
          refine ⟨_, _, qcmp_ref (p.getD i dT).1 (q.getD i dT).1 (hp.at h) (hq.at h2), SubL.le (by repeat' (first | exact rfl | exact trivial | exact ⟨_, rfl⟩ | exact ⟨rfl, rfl, rfl⟩ | refine And.intro ?_ ?_)), ?_⟩
          conv => whnf
          skip
          refine bcase_intro (fun h4 => ?_) (fun h4 => ?_)
          · have h4 : cmpQ (p.getD i dT).1 (q.getD i dT).1 ≠ 0 := by first | simpa [-List.getD_eq_getElem?_getD] using h4 | (simp [-List.getD_eq_getElem?_getD] at h4; omega)
            conv => whnf
            repeat ((first | refine ⟨_, pt_C h, rfl, ?_⟩ | refine ⟨_, pt_C h2, rfl, ?_⟩ | refine ⟨_, ⟨rfl, by omega⟩, ?_⟩ | refine And.intro (by decide : (_ : Nat) ≠ 0) ?_ | refine anyA (by decide +kernel) ?_); conv => whnf)
            refine ⟨_, _, qcmp_ref (p.getD i dT).1 (q.getD i dT).1 (hp.at h) (hq.at h2), SubL.le (by repeat' (first | exact rfl | exact trivial | exact ⟨_, rfl⟩ | exact ⟨rfl, rfl, rfl⟩ | refine And.intro ?_ ?_)), ?_⟩
            conv => whnf
            rw [he, e, if_pos h4]
            repeat' (first | exact rfl | exact trivial | exact ⟨_, rfl⟩ | exact ⟨rfl, rfl, rfl⟩ | refine And.intro ?_ ?_)
          · have h4 : cmpQ (p.getD i dT).1 (q.getD i dT).1 = 0 := by first | simpa [-List.getD_eq_getElem?_getD] using h4 | (simp [-List.getD_eq_getElem?_getD] at h4; omega)
            rw [e, if_neg (fun hn => hn h4)] at he
            conv => whnf
            repeat (refine ⟨_, wAdd1 (by omega), ?_⟩; conv => whnf)
            refine ⟨⟨i + 1, by omega, by omega, he⟩, [], by dsimp only; omega, ?_⟩
            conv => whnf
            repeat' (first | exact rfl | exact trivial | exact ⟨_, rfl⟩ | exact ⟨rfl, rfl, rfl⟩ | refine And.intro ?_ ?_)
      · have h2 : q.length ≤ i := by first | simpa [-List.getD_eq_getElem?_getD] using h2 | (simp [-List.getD_eq_getElem?_getD] at h2; omega)
        have e := fin (.inr h2)
        conv => whnf
        skip
        refine bcase_intro (fun h3 => ?_) (fun h3 => ?_)
        · exfalso
          simp at h3
          omega
        · conv => whnf
          refine bcase_intro (fun h4 => ?_) (fun h4 => ?_)
          · have h4 : q.length < p.length := by first | simpa [-List.getD_eq_getElem?_getD] using h4 | (simp [-List.getD_eq_getElem?_getD] at h4; omega)
            rw [if_neg (by omega), if_pos h4] at e
            conv => whnf
            rw [e]
            repeat' (first | exact rfl | exact trivial | exact ⟨_, rfl⟩ | exact ⟨rfl, rfl, rfl⟩ | refine And.intro ?_ ?_)
          · exfalso
            simp at h4
            omega
    · have h : p.length ≤ i := by first | simpa [-List.getD_eq_getElem?_getD] using h | (simp [-List.getD_eq_getElem?_getD] at h; omega)
      have e := fin (.inl h)
      conv => whnf
      skip
      refine bcase_intro (fun h3 => ?_) (fun h3 => ?_)
      · have h3 : p.length < q.length := by first | simpa [-List.getD_eq_getElem?_getD] using h3 | (simp [-List.getD_eq_getElem?_getD] at h3; omega)
        rw [if_pos h3] at e
        conv => whnf
        rw [e]
        repeat' (first | exact rfl | exact trivial | exact ⟨_, rfl⟩ | exact ⟨rfl, rfl, rfl⟩ | refine And.intro ?_ ?_)
      · have h3 : q.length ≤ p.length := by first | simpa [-List.getD_eq_getElem?_getD] using h3 | (simp [-List.getD_eq_getElem?_getD] at h3; omega)
        conv => whnf
        refine bcase_intro (fun h4 => ?_) (fun h4 => ?_)
        · have h4 : q.length < p.length := by first | simpa [-List.getD_eq_getElem?_getD] using h4 | (simp [-List.getD_eq_getElem?_getD] at h4; omega)
          rw [if_neg (by omega), if_pos h4] at e
          conv => whnf
          rw [e]
          repeat' (first | exact rfl | exact trivial | exact ⟨_, rfl⟩ | exact ⟨rfl, rfl, rfl⟩ | refine And.intro ?_ ?_)
        · have h4 : p.length ≤ q.length := by first | simpa [-List.getD_eq_getElem?_getD] using h4 | (simp [-List.getD_eq_getElem?_getD] at h4; omega)
          rw [if_neg (by omega), if_neg (by omega)] at e
          conv => whnf
          rw [e]
          repeat' (first | exact rfl | exact trivial | exact ⟨_, rfl⟩ | exact ⟨rfl, rfl, rfl⟩ | refine And.intro ?_ ?_)
end Go.Proofs.YtbhnankggcfndaaGreat
namespace Go.Proofs.YtbhnankggcfndaaGreat
open El
set_option maxRecDepth 10000
set_option maxHeartbeats 4000000
def scaleP (c : Rat) (m : Mo) (p : Pl) : Pl := p.map fun t => (c * t.1, mulM m t.2)
def ztc : List C := [.v (.bool false), .v (.slice none 0 0), .v (.bool false), .v (.slice none 0 0), i64n 0, i64n 0, i64n 0, i64n 0, i64n 0, i64n 0, i64n 0, i64n 0]
theorem spl_at {α : Type} {a x z r : List α} {i : Nat} (hi : a.length = i) (hx : x.length = z.length) : spl (a ++ (z ++ r)) i x = a ++ (x ++ r) := by
  subst hi
  unfold spl
  rw [List.take_left' rfl, List.drop_append, List.drop_of_length_le (by omega), hx, List.nil_append, Nat.add_sub_cancel_left, List.drop_left' rfl]
theorem spl_pc {out : Pl} {i k : Nat} (t : Tm) (hi : i = out.length) (hk : 0 < k) : spl (pc out ++ (List.replicate k ztc).flatten) (i * 12) (tc t) = pc (out ++ [t]) ++ (List.replicate (k - 1) ztc).flatten := by
  obtain ⟨m, rfl⟩ : ∃ m, k = m + 1 := ⟨k - 1, by omega⟩
  rw [List.replicate_succ, List.flatten_cons, spl_at (by rw [pc_len, hi]) (show (tc t).length = ztc.length from rfl), pc_append, pc_one, List.append_assoc]
  rfl
theorem zeroM_at (i : Nat) : zeroM.at i = 0 := by
  by_cases h : i < 8
  · exact Mo.of_at (fun _ => 0) h
  · exact Mo.at_big _ (by omega)
theorem zeroM_v : Mv zeroM := fun i => by rw [zeroM_at]; omega
theorem take_scale (c : Rat) (m : Mo) (p : Pl) {i : Nat} (h : i < p.length) : (scaleP c m p).take (i + 1) = (scaleP c m p).take i ++ [(c * (p.getD i dT).1, mulM m (p.getD i dT).2)] := by
  have h2 : i < (scaleP c m p).length := by simpa [scaleP] using h
  rw [List.take_succ_eq_append_getElem h2]
  congr 2
  simp [scaleP, h]
theorem times_zero (m : Mo) (p : Pl) : FSpec Tryz.prog 127 [encQ 0, encM m, encP p] (.tup [encP [], .v (.int .i64 0)]) := by
  refine FSpec.intro ok [] Tryz.func127 rfl rfl (m := 43) rfl ?_
  conv => whnf
  repeat (refine ⟨_, rfl, rfl, ?_⟩; conv => whnf)
  refine ⟨_, _, qsign_spec 0, SubL.le (by repeat' (first | exact rfl | exact trivial | exact ⟨_, rfl⟩ | exact ⟨rfl, rfl, rfl⟩ | refine And.intro ?_ ?_)), ?_⟩
  conv => whnf
  conv => whnf
  repeat' (first | exact rfl | exact trivial | exact ⟨_, rfl⟩ | exact ⟨rfl, rfl, rfl⟩ | refine And.intro ?_ ?_)
theorem times_spec (c : Rat) (m : Mo) (p : Pl) (hc : Qs c) (h0 : c ≠ 0) (hs : Ps p) (hm : Mv m) (hpm : Pm p) (hmm : ∀ t ∈ p, Mv (mulM m t.2)) :
    FSpec Tryz.prog 127 [encQ c, encM m, encP p] (.tup [encP (scaleP c m p), .v (.int .i64 0)]) := by
  have hlen := hs.1
  have hsl : (scaleP c m p).length = p.length := by simp [scaleP]
  refine FSpec.intro ok [] Tryz.func127 rfl rfl (m := 43) rfl ?_
  conv => whnf
  repeat (refine ⟨_, rfl, rfl, ?_⟩; conv => whnf)
  refine ⟨_, _, qsign_spec c, SubL.le (by repeat' (first | exact rfl | exact trivial | exact ⟨_, rfl⟩ | exact ⟨rfl, rfl, rfl⟩ | refine And.intro ?_ ?_)), ?_⟩
  conv => whnf
  refine bcase_intro (fun h => ?_) (fun h => ?_)
  · exact absurd (sign_zero.1 (by simpa using h)) h0
  · conv => whnf
    refine ⟨p.length, p.length, ⟨rfl, rfl, Nat.le_refl _, by show 128 * _ ≤ _; omega, by omega⟩, ?_⟩
    conv => whnf
    skip
    refine ⟨{ i : Nat // i ≤ p.length }, fun q_ => match q_ with | ⟨i, _⟩ => ⟨[(21, .v (.int .i64 i))], [(18, .row 118 12 p.length (pc ((scaleP c m p).take i) ++ (List.replicate (p.length - i) ztc).flatten))]⟩, ⟨[false, false, false, false, false, false, true, true, false, true, true, true, true, false, false, false, false, false, false, false, false, true, true, true, true, true, true, true, true, true, true, true, true, true, true, true, true, true, true, true, true, true, true, true, true], [3, 4], []⟩, fun q_ => match q_ with | ⟨i, _⟩ => p.length - i, ⟨⟨0, Nat.zero_le _⟩, [], ?_⟩, ?_⟩
    · conv => whnf
      repeat' (first | exact rfl | exact trivial | exact ⟨_, rfl⟩ | exact ⟨rfl, rfl, rfl⟩ | refine And.intro ?_ ?_)
    · rintro ⟨i, hi⟩
      conv => whnf
      refine bcase_intro (fun h => ?_) (fun h => ?_)
      · have h : i < p.length := by first | simpa [-List.getD_eq_getElem?_getD] using h | (simp [-List.getD_eq_getElem?_getD] at h; omega)
        have hq := hs.at h
        have hmi := hmm _ (getD_mem h)
        conv => whnf
        repeat ((first | refine ⟨_, pt_T h, rfl, ?_⟩ | refine ⟨_, ⟨rfl, by omega⟩, ?_⟩ | refine And.intro (by decide : (_ : Nat) ≠ 0) ?_ | refine ⟨by first | decide | exact Nat.le_refl _, _, rfl, ?_⟩ | refine ⟨_, rfl, rfl, ?_⟩); conv => whnf)
        refine ⟨_, _, mmul_spec m (p.getD i dT).2 hm (hpm.at h) hmi, SubL.le (by repeat' (first | exact rfl | exact trivial | exact ⟨_, rfl⟩ | exact ⟨rfl, rfl, rfl⟩ | refine And.intro ?_ ?_)), ?_⟩
        conv => whnf
        repeat ((first | refine ⟨_, (rfl : (_ : List C)[_]? = some _), ?_⟩ | refine And.intro (by decide : (_ : Nat) ≠ 0) ?_ | refine anyA (by decide +kernel) ?_ | refine ⟨by first | decide | exact Nat.le_refl _, _, rfl, ?_⟩ | refine ⟨_, rfl, rfl, ?_⟩); conv => whnf)
        refine ⟨_, _, qmul_spec c (p.getD i dT).1 hc hq, SubL.le (by repeat' (first | exact rfl | exact trivial | exact ⟨_, rfl⟩ | exact ⟨rfl, rfl, rfl⟩ | refine And.intro ?_ ?_)), ?_⟩
        conv => whnf
        repeat ((first | refine ⟨_, ⟨rfl, by omega⟩, ?_⟩ | refine ⟨_, rfl, rfl, ?_⟩); conv => whnf)
        refine ⟨by show i * 12 + 12 ≤ _; rw [List.length_append, pc_len, List.length_take, hsl]; simp [ztc]; omega, _, spl_pc (c * (p.getD i dT).1, mulM m (p.getD i dT).2) (by rw [List.length_take, hsl]; omega) (by omega), ?_⟩
        conv => whnf
        rw [← take_scale c m p h]
        repeat (refine ⟨_, wAdd1 (by omega), ?_⟩; conv => whnf)
        refine ⟨⟨i + 1, by omega⟩, [], by dsimp only; omega, ?_⟩
        conv => whnf
        repeat' (first | exact rfl | exact trivial | exact ⟨_, rfl⟩ | exact ⟨rfl, rfl, rfl⟩ | refine And.intro ?_ ?_)
      · have h : p.length ≤ i := by first | simpa [-List.getD_eq_getElem?_getD] using h | (simp [-List.getD_eq_getElem?_getD] at h; omega)
        obtain rfl : i = p.length := by omega
        have e : pc ((scaleP c m p).take p.length) ++ (List.replicate (p.length - p.length) ztc).flatten = pc (scaleP c m p) := by
          rw [Nat.sub_self, List.take_of_length_le (by omega)]; simp
        rw [e]
        conv => whnf
        refine ⟨[18], ?_⟩
        conv => whnf
        rw [← hsl]
        repeat' (first | exact rfl | exact trivial | exact ⟨_, rfl⟩ | exact ⟨rfl, rfl, rfl⟩ | refine And.intro ?_ ?_)
theorem times_ref_zero (m : Mo) (p : Pl) : FSpec Tryz.prog 27 [encQ 0, encM m, encP p] (.tup [encP [], .v (.int .i64 0)]) := by
  refine FSpec.intro ok [] Tryz.func27 rfl rfl (m := 44) rfl ?_
  conv => whnf
  skip
  refine .inl ?_
  conv => whnf
  repeat (refine ⟨_, rfl, rfl, ?_⟩; conv => whnf)
  refine ⟨_, _, qsign_ref 0, SubL.le (by repeat' (first | exact rfl | exact trivial | exact ⟨_, rfl⟩ | exact ⟨rfl, rfl, rfl⟩ | refine And.intro ?_ ?_)), ?_⟩
  conv => whnf
  conv => whnf
  repeat' (first | exact rfl | exact trivial | exact ⟨_, rfl⟩ | exact ⟨rfl, rfl, rfl⟩ | refine And.intro ?_ ?_)
theorem ptimes_ref (c : Rat) (m : Mo) (p : Pl) (hc : Qs c) (h0 : c ≠ 0) (hs : Ps p) (hm : Mv m) (hpm : Pm p) (hmm : ∀ t ∈ p, Mv (mulM m t.2)) :
    FSpec Tryz.prog 27 [encQ c, encM m, encP p] (.tup [encP (scaleP c m p), .v (.int .i64 0)]) := by
  have hlen := hs.1
  have hsl : (scaleP c m p).length = p.length := by simp [scaleP]
  refine FSpec.intro ok [] Tryz.func27 rfl rfl (m := 44) rfl ?_
  conv => whnf
  skip
  refine .inr ?_
  conv => whnf
  repeat (refine ⟨_, rfl, rfl, ?_⟩; conv => whnf)
  refine ⟨_, _, qsign_ref c, SubL.le (by repeat' (first | exact rfl | exact trivial | exact ⟨_, rfl⟩ | exact ⟨rfl, rfl, rfl⟩ | refine And.intro ?_ ?_)), ?_⟩
  conv => whnf
  refine bcase_intro (fun h => ?_) (fun h => ?_)
  · exact absurd (sign_zero.1 (by simpa using h)) h0
  · conv => whnf
    refine ⟨{ i : Nat // i ≤ p.length }, fun q_ => match q_ with | ⟨i, _⟩ => ⟨[(8, .own 100 118 12 i), (9, .v (.int .i64 i))], [(100, .row 118 12 i (pc ((scaleP c m p).take i)))]⟩, ⟨[false, false, false, false, false, false, true, true, true, true, true, true, false, false, false, false, true, true, true, true, true, true, true, true, true, true, true, true, true, true, true, true, true, true, true, true, true, true, true, true, true, true, true, true, true, true], [3, 4], [100]⟩, fun q_ => match q_ with | ⟨i, _⟩ => p.length - i, ⟨⟨0, Nat.zero_le _⟩, [(100, some 12)], ?_⟩, ?_⟩
    · conv => whnf
      repeat' (first | exact rfl | exact trivial | exact ⟨_, rfl⟩ | exact ⟨rfl, rfl, rfl⟩ | refine And.intro ?_ ?_)
    · rintro ⟨i, hi⟩
      conv => whnf
      refine bcase_intro (fun h => ?_) (fun h => ?_)
      · have h : i < p.length := by first | simpa [-List.getD_eq_getElem?_getD] using h | (simp [-List.getD_eq_getElem?_getD] at h; omega)
        have hq := hs.at h
        have hmi := hmm _ (getD_mem h)
        conv => whnf
        refine anyC [] [10] (by decide +kernel) ?_
        conv => whnf
        repeat ((first | refine ⟨_, pt_M h, rfl, ?_⟩ | refine ⟨_, ⟨rfl, by omega⟩, ?_⟩ | refine And.intro (by decide : (_ : Nat) ≠ 0) ?_ | refine ⟨_, rfl, rfl, ?_⟩); conv => whnf)
        refine ⟨_, _, mmul_ref m (p.getD i dT).2 hm (hpm.at h) hmi, SubL.le (by repeat' (first | exact rfl | exact trivial | exact ⟨_, rfl⟩ | exact ⟨rfl, rfl, rfl⟩ | refine And.intro ?_ ?_)), ?_⟩
        conv => whnf
        repeat ((first | refine ⟨_, pt_C h, rfl, ?_⟩ | refine ⟨_, ⟨rfl, by omega⟩, ?_⟩ | refine ⟨_, (rfl : (_ : List C)[_]? = some _), ?_⟩ | refine And.intro (by decide : (_ : Nat) ≠ 0) ?_ | refine anyA (by decide +kernel) ?_ | refine ⟨by first | decide | exact Nat.le_refl _, _, rfl, ?_⟩ | refine ⟨_, rfl, rfl, ?_⟩); conv => whnf)
        refine ⟨_, _, qmul_ref c (p.getD i dT).1 hc hq, SubL.le (by repeat' (first | exact rfl | exact trivial | exact ⟨_, rfl⟩ | exact ⟨rfl, rfl, rfl⟩ | refine And.intro ?_ ?_)), ?_⟩
        conv => whnf
        repeat (refine ⟨_, rfl, rfl, ?_⟩; conv => whnf)
        refine ⟨rfl, ?_⟩
        conv => whnf
        refine ⟨rfl, ?_⟩
        conv => whnf
        refine ⟨rfl, ?_⟩
        conv => whnf
        refine ⟨⟨by show _ * 128 ≤ _; omega, by omega⟩, pc ((scaleP c m p).take (i + 1)), i + 1, ⟨by rw [take_scale c m p h, pc_append, pc_one]; rfl, by simp⟩, ?_⟩
        conv => whnf
        repeat (refine ⟨_, wAdd1 (by omega), ?_⟩; conv => whnf)
        refine ⟨⟨i + 1, by omega⟩, [(100, some 45)], by dsimp only; omega, ?_⟩
        conv => whnf
        repeat' (first | exact rfl | exact trivial | exact ⟨_, rfl⟩ | exact ⟨rfl, rfl, rfl⟩ | refine And.intro ?_ ?_)
      · have h : p.length ≤ i := by first | simpa [-List.getD_eq_getElem?_getD] using h | (simp [-List.getD_eq_getElem?_getD] at h; omega)
        obtain rfl : i = p.length := by omega
        have e : pc ((scaleP c m p).take p.length) = pc (scaleP c m p) := by
          rw [List.take_of_length_le (by omega)]
        rw [e]
        conv => whnf
        refine ⟨[100], ?_⟩
        conv => whnf
        rw [← hsl]
        repeat' (first | exact rfl | exact trivial | exact ⟨_, rfl⟩ | exact ⟨rfl, rfl, rfl⟩ | refine And.intro ?_ ?_)
theorem scale_ref (c : Rat) (p : Pl) (hc : Qs c) (h0 : c ≠ 0) (hs : Ps p) (hpm : Pm p) : FSpec Tryz.prog 84 [encQ c, encP p] (encP (scaleP c zeroM p)) := by
  have hmm : ∀ t ∈ p, Mv (mulM zeroM t.2) := fun t ht i => by rw [mulM_at]; have := hpm.2 t ht i; have : zeroM.at i = 0 := zeroM_at i; omega
  refine FSpec.intro ok [] Tryz.func84 rfl rfl (m := 13) rfl ?_
  conv => whnf
  repeat (refine ⟨_, rfl, rfl, ?_⟩; conv => whnf)
  refine ⟨_, _, ptimes_ref c zeroM p hc h0 hs zeroM_v hpm hmm, SubL.le (by repeat' (first | exact rfl | exact trivial | exact ⟨_, rfl⟩ | exact ⟨rfl, rfl, rfl⟩ | refine And.intro ?_ ?_)), ?_⟩
  conv => whnf
  repeat (refine ⟨_, (rfl : (_ : List C)[_]? = some _), ?_⟩; conv => whnf)
  repeat' (first | exact rfl | exact trivial | exact ⟨_, rfl⟩ | exact ⟨rfl, rfl, rfl⟩ | refine And.intro ?_ ?_)
/-! ### Sums -/
def addP : Pl → Pl → Pl
  | [], q => q
  | p, [] => p
  | a :: p, b :: q => if 0 < cmpM a.2 b.2 then a :: addP p (b :: q) else if cmpM a.2 b.2 < 0 then b :: addP (a :: p) q else if a.1 + b.1 ≠ 0 then (a.1 + b.1, a.2) :: addP p q else addP p q
  termination_by p q => p.length + q.length
theorem addP_nil (q : Pl) : addP [] q = q := by unfold addP; rfl
theorem addP_nil' (p : Pl) : addP p [] = p := by
  cases p with
  | nil => exact addP_nil []
  | cons a p => unfold addP; rfl
theorem addP_cons (a b : Tm) (p q : Pl) : addP (a :: p) (b :: q) = if 0 < cmpM a.2 b.2 then a :: addP p (b :: q) else if cmpM a.2 b.2 < 0 then b :: addP (a :: p) q else if a.1 + b.1 ≠ 0 then (a.1 + b.1, a.2) :: addP p q else addP p q := by
  conv => lhs; unfold addP
/-- A state of the sum. -/
def AddSt (p q : Pl) (s : Nat × Nat × Pl) : Prop := s.1 ≤ p.length ∧ s.2.1 ≤ q.length ∧ s.2.2.length ≤ s.1 + s.2.1 ∧ addP p q = s.2.2 ++ addP (p.drop s.1) (q.drop s.2.1)
theorem padd_ref (p q : Pl) (hp : Ps p) (hq : Ps q) : FSpec Tryz.prog 41 [encP p, encP q] (encP (addP p q)) := by
  have hlen := hp.1
  have hlen2 := hq.1
  refine FSpec.intro ok [] Tryz.func41 rfl rfl (m := 107) rfl ?_
  conv => whnf
  refine .inr ?_
  conv => whnf
  refine ⟨{ s : Nat × Nat × Pl // AddSt p q s }, fun q_ => match q_ with | ⟨(i, k, out), _⟩ => ⟨[(5, .own 100 118 12 out.length), (6, .v (.int .i64 i)), (7, .v (.int .i64 k))], [(100, .row 118 12 out.length (pc out))]⟩, ⟨[false, false, false, false, false, true, true, true, true, false, true, true, true, true, true, true, true, true, true, true, true, true, true, true, true, true, true, true, true, true, true, true, true, true, true, true, true, true, true, true, true, true, true, true, true, true, true, true, true, true, true, true, true, true, true, true, true, true, true, true, true, true, true, true, true, true, true, true, true, true, true, true, true, true, true, true, true, true, true, true, true, true, true, true, true, true, true, true, true, true, true, true, true, true, true, true, true, true, true, true, true, true, true, true, true, true, true, true], [], [100]⟩, fun q_ => match q_ with | ⟨(i, k, out), _⟩ => p.length + q.length - i - k, ⟨⟨(0, 0, []), Nat.zero_le _, Nat.zero_le _, Nat.le_refl _, rfl⟩, [(100, some 9)], ?_⟩, ?_⟩
  · conv => whnf
    repeat' (first | exact rfl | exact trivial | exact ⟨_, rfl⟩ | exact ⟨rfl, rfl, rfl⟩ | refine And.intro ?_ ?_)
  · rintro ⟨⟨i, k, out⟩, hi, hk, ho, he⟩
    simp only at hi hk ho he
    -- one more term of the first
    have stepA : i < p.length → (k = q.length ∨ 0 < cmpM (p.getD i dT).2 (q.getD k dT).2) → AddSt p q (i + 1, k, out ++ [p.getD i dT]) := by
      intro h1 h2
      refine ⟨h1, hk, by simp only [List.length_append, List.length_singleton]; omega, ?_⟩
      simp only
      rw [he, drop_getD h1, List.append_assoc]
      congr 1
      rcases Nat.lt_or_ge k q.length with h3 | h3
      · rw [drop_getD h3, addP_cons, if_pos (h2.resolve_left (by omega))]; rfl
      · rw [List.drop_of_length_le h3, addP_nil', addP_nil']; rfl
    have stepB : k < q.length → (i = p.length ∨ cmpM (p.getD i dT).2 (q.getD k dT).2 < 0) → AddSt p q (i, k + 1, out ++ [q.getD k dT]) := by
      intro h1 h2
      refine ⟨hi, h1, by simp only [List.length_append, List.length_singleton]; omega, ?_⟩
      simp only
      rw [he, drop_getD h1, List.append_assoc]
      congr 1
      rcases Nat.lt_or_ge i p.length with h3 | h3
      · have h4 := h2.resolve_left (by omega)
        rw [drop_getD h3, addP_cons, if_neg (by omega), if_pos h4]; rfl
      · rw [List.drop_of_length_le h3, addP_nil, addP_nil]; rfl
    have stepC : i < p.length → k < q.length → ¬ 0 < cmpM (p.getD i dT).2 (q.getD k dT).2 → ¬ cmpM (p.getD i dT).2 (q.getD k dT).2 < 0 →
        ((p.getD i dT).1 + (q.getD k dT).1 ≠ 0 → AddSt p q (i + 1, k + 1, out ++ [((p.getD i dT).1 + (q.getD k dT).1, (p.getD i dT).2)])) ∧ ((p.getD i dT).1 + (q.getD k dT).1 = 0 → AddSt p q (i + 1, k + 1, out)) := by
      intro h1 h2 h3 h4
      have e := he
      rw [drop_getD h1, drop_getD h2, addP_cons, if_neg h3, if_neg h4] at e
      refine ⟨fun h5 => ⟨h1, h2, by simp only [List.length_append, List.length_singleton]; omega, ?_⟩, fun h5 => ⟨h1, h2, by simp only; omega, ?_⟩⟩
      · rw [if_pos h5] at e
        simp only
        rw [e, List.append_assoc]; rfl
      · rw [if_neg (fun hn => hn h5)] at e
        exact e
    have tA : i < p.length → decide ((i : Int) < (p.length : Int)) = true := fun h => by simpa using h
    have fA : ¬ i < p.length → decide ((i : Int) < (p.length : Int)) = false := fun h => by simpa using h
    have tB : k < q.length → decide ((k : Int) < (q.length : Int)) = true := fun h => by simpa using h
    have fB : ¬ k < q.length → decide ((k : Int) < (q.length : Int)) = false := fun h => by simpa using h
    have eA : i = p.length → ((i : Int) == (p.length : Int)) = true := fun h => by simp [h]
    have nA : i < p.length → ((i : Int) == (p.length : Int)) = false := fun h => by simp; omega
    have eB : k = q.length → ((k : Int) == (q.length : Int)) = true := fun h => by simp [h]
    have nB : k < q.length → ((k : Int) == (q.length : Int)) = false := fun h => by simp; omega
    by_cases h : i < p.length
    · by_cases h2 : k < q.length
      · by_cases h3 : 0 < cmpM (p.getD i dT).2 (q.getD k dT).2
        · conv => whnf
          rw [tA h]
          conv => whnf
          repeat (refine anyA (by decide +kernel) ?_; conv => whnf)
          rw [nB h2]
          conv => whnf
          rw [tA h]
          conv => whnf
          repeat ((first | refine ⟨_, pt_M h, rfl, ?_⟩ | refine ⟨_, pt_M h2, rfl, ?_⟩ | refine ⟨_, ⟨rfl, by omega⟩, ?_⟩ | refine And.intro (by decide : (_ : Nat) ≠ 0) ?_); conv => whnf)
          refine ⟨_, _, mcmp_ref (p.getD i dT).2 (q.getD k dT).2, SubL.le (by repeat' (first | exact rfl | exact trivial | exact ⟨_, rfl⟩ | exact ⟨rfl, rfl, rfl⟩ | refine And.intro ?_ ?_)), ?_⟩
          conv => whnf
          rw [show decide (cmpM (p.getD i dT).2 (q.getD k dT).2 > 0) = true from decide_eq_true h3]
          conv => whnf
          repeat ((first | refine ⟨_, pt_T h, rfl, ?_⟩ | refine ⟨_, ⟨rfl, by omega⟩, ?_⟩); conv => whnf)
          refine ⟨rfl, ?_⟩
          conv => whnf
          refine ⟨rfl, ?_⟩
          conv => whnf
          refine ⟨rfl, ?_⟩
          conv => whnf
          refine ⟨⟨by show _ * 128 ≤ _; omega, by omega⟩, pc (out ++ [p.getD i dT]), (out ++ [p.getD i dT]).length, ⟨by rw [pc_append, pc_one]; rfl, by simp⟩, ?_⟩
          conv => whnf
          repeat (refine ⟨_, wAdd1 (by omega), ?_⟩; conv => whnf)
          refine ⟨⟨(i + 1, k, out ++ [p.getD i dT]), stepA h (.inr h3)⟩, [(100, some 50)], by simp only; omega, ?_⟩
          conv => whnf
          repeat' (first | exact rfl | exact trivial | exact ⟨_, rfl⟩ | exact ⟨rfl, rfl, rfl⟩ | refine And.intro ?_ ?_)
        · have d3 : decide (cmpM (p.getD i dT).2 (q.getD k dT).2 > 0) = false := decide_eq_false h3
          by_cases h4 : cmpM (p.getD i dT).2 (q.getD k dT).2 < 0
          · conv => whnf
            rw [tA h]
            conv => whnf
            repeat (refine anyA (by decide +kernel) ?_; conv => whnf)
            rw [nB h2]
            conv => whnf
            rw [tA h]
            conv => whnf
            repeat ((first | refine ⟨_, pt_M h, rfl, ?_⟩ | refine ⟨_, pt_M h2, rfl, ?_⟩ | refine ⟨_, ⟨rfl, by omega⟩, ?_⟩ | refine And.intro (by decide : (_ : Nat) ≠ 0) ?_); conv => whnf)
            refine ⟨_, _, mcmp_ref (p.getD i dT).2 (q.getD k dT).2, SubL.le (by repeat' (first | exact rfl | exact trivial | exact ⟨_, rfl⟩ | exact ⟨rfl, rfl, rfl⟩ | refine And.intro ?_ ?_)), ?_⟩
            conv => whnf
            rw [d3]
            conv => whnf
            repeat (refine anyA (by decide +kernel) ?_; conv => whnf)
            rw [nA h]
            conv => whnf
            repeat ((first | refine ⟨_, pt_M h, rfl, ?_⟩ | refine ⟨_, pt_M h2, rfl, ?_⟩ | refine ⟨_, ⟨rfl, by omega⟩, ?_⟩ | refine And.intro (by decide : (_ : Nat) ≠ 0) ?_); conv => whnf)
            refine ⟨_, _, mcmp_ref (p.getD i dT).2 (q.getD k dT).2, SubL.le (by repeat' (first | exact rfl | exact trivial | exact ⟨_, rfl⟩ | exact ⟨rfl, rfl, rfl⟩ | refine And.intro ?_ ?_)), ?_⟩
            conv => whnf
            rw [show decide (cmpM (p.getD i dT).2 (q.getD k dT).2 < 0) = true from decide_eq_true h4]
            conv => whnf
            repeat ((first | refine ⟨_, pt_T h2, rfl, ?_⟩ | refine ⟨_, ⟨rfl, by omega⟩, ?_⟩); conv => whnf)
            refine ⟨rfl, ?_⟩
            conv => whnf
            refine ⟨rfl, ?_⟩
            conv => whnf
            refine ⟨rfl, ?_⟩
            conv => whnf
            refine ⟨⟨by show _ * 128 ≤ _; omega, by omega⟩, pc (out ++ [q.getD k dT]), (out ++ [q.getD k dT]).length, ⟨by rw [pc_append, pc_one]; rfl, by simp⟩, ?_⟩
            conv => whnf
            repeat (refine ⟨_, wAdd1 (by omega), ?_⟩; conv => whnf)
            refine ⟨⟨(i, k + 1, out ++ [q.getD k dT]), stepB h2 (.inr h4)⟩, [(100, some 77)], by simp only; omega, ?_⟩
            conv => whnf
            repeat' (first | exact rfl | exact trivial | exact ⟨_, rfl⟩ | exact ⟨rfl, rfl, rfl⟩ | refine And.intro ?_ ?_)
          · conv => whnf
            rw [tA h]
            conv => whnf
            repeat (refine anyA (by decide +kernel) ?_; conv => whnf)
            rw [nB h2]
            conv => whnf
            rw [tA h]
            conv => whnf
            repeat ((first | refine ⟨_, pt_M h, rfl, ?_⟩ | refine ⟨_, pt_M h2, rfl, ?_⟩ | refine ⟨_, ⟨rfl, by omega⟩, ?_⟩ | refine And.intro (by decide : (_ : Nat) ≠ 0) ?_); conv => whnf)
            refine ⟨_, _, mcmp_ref (p.getD i dT).2 (q.getD k dT).2, SubL.le (by repeat' (first | exact rfl | exact trivial | exact ⟨_, rfl⟩ | exact ⟨rfl, rfl, rfl⟩ | refine And.intro ?_ ?_)), ?_⟩
            conv => whnf
            rw [d3]
            conv => whnf
            repeat (refine anyA (by decide +kernel) ?_; conv => whnf)
            rw [nA h]
            conv => whnf
            repeat ((first | refine ⟨_, pt_M h, rfl, ?_⟩ | refine ⟨_, pt_M h2, rfl, ?_⟩ | refine ⟨_, ⟨rfl, by omega⟩, ?_⟩ | refine And.intro (by decide : (_ : Nat) ≠ 0) ?_); conv => whnf)
            refine ⟨_, _, mcmp_ref (p.getD i dT).2 (q.getD k dT).2, SubL.le (by repeat' (first | exact rfl | exact trivial | exact ⟨_, rfl⟩ | exact ⟨rfl, rfl, rfl⟩ | refine And.intro ?_ ?_)), ?_⟩
            conv => whnf
            rw [show decide (cmpM (p.getD i dT).2 (q.getD k dT).2 < 0) = false from decide_eq_false h4]
            conv => whnf
            repeat ((first | refine ⟨_, pt_C h, rfl, ?_⟩ | refine ⟨_, pt_C h2, rfl, ?_⟩ | refine ⟨_, ⟨rfl, by omega⟩, ?_⟩ | refine And.intro (by decide : (_ : Nat) ≠ 0) ?_ | refine anyA (by decide +kernel) ?_); conv => whnf)
            refine ⟨_, _, qadd_ref (p.getD i dT).1 (q.getD k dT).1 (hp.at h) (hq.at h2), SubL.le (by repeat' (first | exact rfl | exact trivial | exact ⟨_, rfl⟩ | exact ⟨rfl, rfl, rfl⟩ | refine And.intro ?_ ?_)), ?_⟩
            conv => whnf
            repeat ((first | refine ⟨by first | decide | exact Nat.le_refl _, _, rfl, ?_⟩ | refine ⟨_, rfl, rfl, ?_⟩); conv => whnf)
            refine ⟨_, _, qsign_ref ((p.getD i dT).1 + (q.getD k dT).1), SubL.le (by repeat' (first | exact rfl | exact trivial | exact ⟨_, rfl⟩ | exact ⟨rfl, rfl, rfl⟩ | refine And.intro ?_ ?_)), ?_⟩
            conv => whnf
            obtain ⟨c1, c2⟩ := stepC h h2 h3 h4
            refine bcase_intro (fun h5 => ?_) (fun h5 => ?_)
            · have h5 : (p.getD i dT).1 + (q.getD k dT).1 ≠ 0 := fun e => by rw [sign_zero.2 e] at h5; cases h5
              conv => whnf
              repeat ((first | refine ⟨_, pt_M h, rfl, ?_⟩ | refine ⟨_, ⟨rfl, by omega⟩, ?_⟩ | refine And.intro (by decide : (_ : Nat) ≠ 0) ?_ | refine anyA (by decide +kernel) ?_ | refine ⟨_, rfl, rfl, ?_⟩); conv => whnf)
              refine ⟨rfl, ?_⟩
              conv => whnf
              refine ⟨rfl, ?_⟩
              conv => whnf
              refine ⟨rfl, ?_⟩
              conv => whnf
              refine ⟨⟨by show _ * 128 ≤ _; omega, by omega⟩, pc (out ++ [((p.getD i dT).1 + (q.getD k dT).1, (p.getD i dT).2)]), (out ++ [((p.getD i dT).1 + (q.getD k dT).1, (p.getD i dT).2)]).length, ⟨by rw [pc_append, pc_one]; rfl, by simp⟩, ?_⟩
              conv => whnf
              repeat (refine ⟨_, wAdd1 (by omega), ?_⟩; conv => whnf)
              refine ⟨⟨(i + 1, k + 1, out ++ [((p.getD i dT).1 + (q.getD k dT).1, (p.getD i dT).2)]), c1 h5⟩, [(100, some 103)], by simp only; omega, ?_⟩
              conv => whnf
              repeat' (first | exact rfl | exact trivial | exact ⟨_, rfl⟩ | exact ⟨rfl, rfl, rfl⟩ | refine And.intro ?_ ?_)
            · have h5 : (p.getD i dT).1 + (q.getD k dT).1 = 0 := sign_zero.1 (by simpa [-List.getD_eq_getElem?_getD] using h5)
              conv => whnf
              repeat (refine ⟨_, wAdd1 (by omega), ?_⟩; conv => whnf)
              refine ⟨⟨(i + 1, k + 1, out), c2 h5⟩, [(100, some 100)], by simp only; omega, ?_⟩
              conv => whnf
              repeat' (first | exact rfl | exact trivial | exact ⟨_, rfl⟩ | exact ⟨rfl, rfl, rfl⟩ | refine And.intro ?_ ?_)
      · have h3 : k = q.length := by omega
        conv => whnf
        rw [tA h]
        conv => whnf
        repeat (refine anyA (by decide +kernel) ?_; conv => whnf)
        rw [eB h3]
        conv => whnf
        repeat ((first | refine ⟨_, pt_T h, rfl, ?_⟩ | refine ⟨_, ⟨rfl, by omega⟩, ?_⟩); conv => whnf)
        refine ⟨rfl, ?_⟩
        conv => whnf
        refine ⟨rfl, ?_⟩
        conv => whnf
        refine ⟨rfl, ?_⟩
        conv => whnf
        refine ⟨⟨by show _ * 128 ≤ _; omega, by omega⟩, pc (out ++ [p.getD i dT]), (out ++ [p.getD i dT]).length, ⟨by rw [pc_append, pc_one]; rfl, by simp⟩, ?_⟩
        conv => whnf
        repeat (refine ⟨_, wAdd1 (by omega), ?_⟩; conv => whnf)
        refine ⟨⟨(i + 1, k, out ++ [p.getD i dT]), stepA h (.inl h3)⟩, [(100, some 50)], by simp only; omega, ?_⟩
        conv => whnf
        repeat' (first | exact rfl | exact trivial | exact ⟨_, rfl⟩ | exact ⟨rfl, rfl, rfl⟩ | refine And.intro ?_ ?_)
    · by_cases h2 : k < q.length
      · have h3 : i = p.length := by omega
        conv => whnf
        rw [fA h]
        conv => whnf
        rw [tB h2]
        conv => whnf
        repeat (refine anyA (by decide +kernel) ?_; conv => whnf)
        rw [nB h2]
        conv => whnf
        rw [fA h]
        conv => whnf
        repeat (refine anyA (by decide +kernel) ?_; conv => whnf)
        rw [eA h3]
        conv => whnf
        repeat ((first | refine ⟨_, pt_T h2, rfl, ?_⟩ | refine ⟨_, ⟨rfl, by omega⟩, ?_⟩); conv => whnf)
        refine ⟨rfl, ?_⟩
        conv => whnf
        refine ⟨rfl, ?_⟩
        conv => whnf
        refine ⟨rfl, ?_⟩
        conv => whnf
        refine ⟨⟨by show _ * 128 ≤ _; omega, by omega⟩, pc (out ++ [q.getD k dT]), (out ++ [q.getD k dT]).length, ⟨by rw [pc_append, pc_one]; rfl, by simp⟩, ?_⟩
        conv => whnf
        repeat (refine ⟨_, wAdd1 (by omega), ?_⟩; conv => whnf)
        refine ⟨⟨(i, k + 1, out ++ [q.getD k dT]), stepB h2 (.inl h3)⟩, [(100, some 77)], by simp only; omega, ?_⟩
        conv => whnf
        repeat' (first | exact rfl | exact trivial | exact ⟨_, rfl⟩ | exact ⟨rfl, rfl, rfl⟩ | refine And.intro ?_ ?_)
      · conv => whnf
        rw [fA h]
        conv => whnf
        rw [fB h2]
        conv => whnf
        have e : addP p q = out := by rw [he, List.drop_of_length_le (by omega), List.drop_of_length_le (by omega), addP_nil, List.append_nil]
        rw [e]
        refine ⟨[100], ?_⟩
        conv => whnf
        repeat' (first | exact rfl | exact trivial | exact ⟨_, rfl⟩ | exact ⟨rfl, rfl, rfl⟩ | refine And.intro ?_ ?_)
end Go.Proofs.YtbhnankggcfndaaGreat
namespace Go.Proofs.YtbhnankggcfndaaGreat
open El
set_option maxRecDepth 10000
set_option maxHeartbeats 4000000
theorem Qs.neg {q : Rat} (h : Qs q) : Qs (-q) := ⟨by rw [Rat.neg_num, Int.natAbs_neg]; exact h.1, h.2⟩
theorem ps_neg {p : Pl} (hp : Ps p) : Ps (scaleP (-1) zeroM p) := by
  refine ⟨by simpa [scaleP] using hp.1, fun t ht => ?_⟩
  obtain ⟨u, hu, rfl⟩ := List.mem_map.1 ht
  simp only
  rw [show -1 * u.1 = -u.1 by grind]
  exact (hp.2 u hu).neg
theorem qs_neg1 : Qs (-1) := by unfold Qs Bd; decide
def subP (p q : Pl) : Pl := addP p (scaleP (-1) zeroM q)
theorem psub_ref (p q : Pl) (hp : Ps p) (hq : Ps q) (hqm : Pm q) : FSpec Tryz.prog 39 [encP p, encP q] (encP (subP p q)) := by
  refine FSpec.intro ok [] Tryz.func39 rfl rfl (m := 8) rfl ?_
  conv => whnf
  refine ⟨_, _, whole_ref (-1) (by decide) (by decide), SubL.le (by repeat' (first | exact rfl | exact trivial | exact ⟨_, rfl⟩ | exact ⟨rfl, rfl, rfl⟩ | refine And.intro ?_ ?_)), ?_⟩
  conv => whnf
  refine ⟨_, _, scale_ref (-1) q qs_neg1 (by decide) hq hqm, SubL.le (by repeat' (first | exact rfl | exact trivial | exact ⟨_, rfl⟩ | exact ⟨rfl, rfl, rfl⟩ | refine And.intro ?_ ?_)), ?_⟩
  conv => whnf
  refine ⟨_, _, padd_ref p (scaleP (-1) zeroM q) hp (ps_neg hq), SubL.le (by repeat' (first | exact rfl | exact trivial | exact ⟨_, rfl⟩ | exact ⟨rfl, rfl, rfl⟩ | refine And.intro ?_ ?_)), ?_⟩
  conv => whnf
  repeat' (first | exact rfl | exact trivial | exact ⟨_, rfl⟩ | exact ⟨rfl, rfl, rfl⟩ | refine And.intro ?_ ?_)
def lcmTo (p : Pl) : Nat → Nat
  | 0 => 1
  | i + 1 => Nat.lcm (lcmTo p i) (p.getD i dT).1.den
def gcdTo (p : Pl) : Nat → Nat
  | 0 => 0
  | i + 1 => Nat.gcd (gcdTo p i) (p.getD i dT).1.num.natAbs
def gcdE (p : Pl) (L : Nat) : Nat → Nat
  | 0 => 0
  | i + 1 => Nat.gcd (gcdE p L i) ((p.getD i dT).1.num.natAbs * (L / (p.getD i dT).1.den))
theorem den_dvd_lcm (p : Pl) : ∀ {n i : Nat}, i < n → (p.getD i dT).1.den ∣ lcmTo p n
  | n + 1, i, h => by
    rcases Nat.lt_or_ge i n with h2 | h2
    · exact Nat.dvd_trans (den_dvd_lcm p h2) (Nat.dvd_lcm_left ..)
    · obtain rfl : i = n := by omega
      exact Nat.dvd_lcm_right ..
theorem lcm_dvd (p : Pl) {m : Nat} : ∀ {n : Nat}, (∀ i, i < n → (p.getD i dT).1.den ∣ m) → lcmTo p n ∣ m
  | 0, _ => Nat.one_dvd m
  | n + 1, h => Nat.lcm_dvd (lcm_dvd p fun i hi => h i (by omega)) (h n (by omega))
theorem lcmTo_pos (p : Pl) : ∀ n, 0 < lcmTo p n
  | 0 => Nat.one_pos
  | n + 1 => Nat.lcm_pos (lcmTo_pos p n) (Nat.pos_of_ne_zero (p.getD n dT).1.den_nz)
theorem gcd_dvd_num (p : Pl) : ∀ {n i : Nat}, i < n → gcdTo p n ∣ (p.getD i dT).1.num.natAbs
  | n + 1, i, h => by
    rcases Nat.lt_or_ge i n with h2 | h2
    · exact Nat.dvd_trans (Nat.gcd_dvd_left ..) (gcd_dvd_num p h2)
    · obtain rfl : i = n := by omega
      exact Nat.gcd_dvd_right ..
theorem dvd_gcdTo (p : Pl) {m : Nat} : ∀ {n : Nat}, (∀ i, i < n → m ∣ (p.getD i dT).1.num.natAbs) → m ∣ gcdTo p n
  | 0, _ => Nat.dvd_zero m
  | n + 1, h => Nat.dvd_gcd (dvd_gcdTo p fun i hi => h i (by omega)) (h n (by omega))
theorem gcdE_dvd (p : Pl) (L : Nat) : ∀ {n i : Nat}, i < n → gcdE p L n ∣ (p.getD i dT).1.num.natAbs * (L / (p.getD i dT).1.den)
  | n + 1, i, h => by
    rcases Nat.lt_or_ge i n with h2 | h2
    · exact Nat.dvd_trans (Nat.gcd_dvd_left ..) (gcdE_dvd p L h2)
    · obtain rfl : i = n := by omega
      exact Nat.gcd_dvd_right ..
theorem dvd_gcdE (p : Pl) (L : Nat) {m : Nat} : ∀ {n : Nat}, (∀ i, i < n → m ∣ (p.getD i dT).1.num.natAbs * (L / (p.getD i dT).1.den)) → m ∣ gcdE p L n
  | 0, _ => Nat.dvd_zero m
  | n + 1, h => Nat.dvd_gcd (dvd_gcdE p L fun i hi => h i (by omega)) (h n (by omega))
theorem gcdE_eq (p : Pl) (n : Nat) : gcdE p (lcmTo p n) n = gcdTo p n := by
  apply Nat.dvd_antisymm
  · -- coprime to the common denominator
    have hL := lcmTo_pos p n
    have key : Nat.gcd (gcdE p (lcmTo p n) n) (lcmTo p n) = 1 := by
      generalize ht : Nat.gcd (gcdE p (lcmTo p n) n) (lcmTo p n) = t
      have t1 : t ∣ gcdE p (lcmTo p n) n := ht ▸ Nat.gcd_dvd_left ..
      have t2 : t ∣ lcmTo p n := ht ▸ Nat.gcd_dvd_right ..
      have tpos : 0 < t := Nat.pos_of_dvd_of_pos t2 hL
      have te : ∀ i, i < n → t ∣ lcmTo p n / (p.getD i dT).1.den := by
        intro i hi
        have h1 := Nat.dvd_trans t1 (gcdE_dvd p _ hi)
        have h2 : t ∣ (p.getD i dT).1.den * (lcmTo p n / (p.getD i dT).1.den) := by rw [Nat.mul_div_cancel' (den_dvd_lcm p hi)]; exact t2
        have h3 := Nat.dvd_gcd h1 h2
        rw [Nat.gcd_mul_right, (p.getD i dT).1.reduced, Nat.one_mul] at h3
        exact h3
      have hd : lcmTo p n ∣ lcmTo p n / t := by
        refine lcm_dvd p fun i hi => ?_
        obtain ⟨f, hf⟩ := te i hi
        have h1 : (p.getD i dT).1.den * (lcmTo p n / (p.getD i dT).1.den) = lcmTo p n := Nat.mul_div_cancel' (den_dvd_lcm p hi)
        rw [hf, ← Nat.mul_assoc, Nat.mul_comm _ t, Nat.mul_assoc] at h1
        refine ⟨f, ?_⟩
        conv => lhs; rw [← h1]
        rw [Nat.mul_div_cancel_left _ tpos]
      have h4 : 0 < lcmTo p n / t := Nat.div_pos (Nat.le_of_dvd hL t2) tpos
      have h5 := Nat.le_of_dvd h4 hd
      rcases Nat.lt_or_ge 1 t with h6 | h6
      · have := Nat.div_lt_self hL h6; omega
      · omega
    refine dvd_gcdTo p fun i hi => ?_
    have h1 := gcdE_dvd p (lcmTo p n) hi
    have h2 : Nat.Coprime (gcdE p (lcmTo p n) n) (lcmTo p n / (p.getD i dT).1.den) := Nat.Coprime.coprime_dvd_right (Nat.div_dvd_of_dvd (den_dvd_lcm p hi)) key
    exact h2.dvd_of_dvd_mul_right h1
  · exact dvd_gcdE p _ fun i hi => Nat.dvd_trans (gcd_dvd_num p hi) (Nat.dvd_mul_right ..)
/-! ### The normal multiple -/
theorem lcm_cast (a d : Nat) : ((a : Int) * (d : Int)) / (Int.gcd a d : Nat) = (Nat.lcm a d : Nat) := by
  rw [← Int.natCast_mul, Int.gcd_natCast_natCast, ← Int.natCast_ediv]; rfl
theorem gcd_cast (a : Nat) (n : Int) : Int.gcd (a : Int) n = Nat.gcd a n.natAbs := rfl
theorem lcmTo_le (p : Pl) {i n : Nat} (h : i ≤ n) : lcmTo p i ≤ lcmTo p n := by
  refine Nat.le_of_dvd (lcmTo_pos p n) ?_
  exact lcm_dvd p fun j hj => den_dvd_lcm p (by omega)
def signed (neg : Bool) (g : Nat) : Int := if neg then -(g : Int) else (g : Int)
/-- The factor that makes the coefficients whole, coprime, and the first one positive. -/
def normC (p : Pl) : Rat := Rat.divInt (lcmTo p p.length) (signed (decide ((p.getD 0 dT).1.num < 0)) (gcdTo p p.length))
def normP (p : Pl) : Pl := if p.length = 0 then [] else scaleP (normC p) zeroM p
/-- What is asked of a polynomial that is normalized. -/
structure Nm (p : Pl) : Prop where
  s : Ps p
  m : Pm p
  nz : p.length ≠ 0 → (p.getD 0 dT).1 ≠ 0
  l : lcmTo p p.length < Bd
theorem Nm.g0 {p : Pl} (h : Nm p) (hl : p.length ≠ 0) : gcdTo p p.length ≠ 0 := by
  intro e
  have h1 := gcd_dvd_num p (show 0 < p.length by omega)
  rw [e] at h1
  have h2 := Nat.eq_zero_of_zero_dvd h1
  exact h.nz hl (Rat.num_eq_zero.1 (by omega))
theorem Nm.gb {p : Pl} (h : Nm p) (i : Nat) (hi : i ≤ p.length) : Kn (gcdTo p i) := by
  cases i with
  | zero => show (0 : Nat) < _; decide
  | succ i =>
    by_cases h0 : (p.getD i dT).1.num.natAbs = 0
    · rw [gcdTo, h0, Nat.gcd_zero_right]
      exact h.gb i (by omega)
    · exact (bd_kn (h.s.at (show i < p.length by omega)).1).mono (Nat.gcd_le_right _ (by omega))
theorem Nm.gbd {p : Pl} (h : Nm p) (hl : p.length ≠ 0) : gcdTo p p.length < Bd := by
  have h1 := gcd_dvd_num p (show 0 < p.length by omega)
  have h2 : (p.getD 0 dT).1.num.natAbs ≠ 0 := fun e => h.nz hl (Rat.num_eq_zero.1 (by omega))
  exact Nat.lt_of_le_of_lt (Nat.le_of_dvd (by omega) h1) (h.s.at (show 0 < p.length by omega)).1
theorem Nm.lk {p : Pl} (h : Nm p) (i : Nat) (hi : i ≤ p.length) : lcmTo p i < Bd := Nat.lt_of_le_of_lt (lcmTo_le p hi) h.l
theorem signed_ne {b : Bool} {g : Nat} (h : g ≠ 0) : signed b g ≠ 0 := by unfold signed; split <;> omega
theorem signed_abs (b : Bool) (g : Nat) : (signed b g).natAbs = g := by unfold signed; split <;> omega
theorem divInt_num_le (n d : Int) (hd : d ≠ 0) : (Rat.divInt n d).num.natAbs ≤ n.natAbs := by
  rw [(divInt_parts n d hd).1]
  exact Int.natAbs_ediv_le_natAbs ..
theorem divInt_den_le (n d : Int) (hd : d ≠ 0) : (Rat.divInt n d).den ≤ d.natAbs := by
  have h := (divInt_parts n d hd).2
  have h2 := Int.natAbs_ediv_le_natAbs d (if d < 0 then -(Int.gcd n d : Int) else (Int.gcd n d : Int))
  rw [← h] at h2
  simpa using h2
theorem Nm.qc {p : Pl} (h : Nm p) (hl : p.length ≠ 0) : Qs (normC p) := by
  have h1 := signed_ne (b := decide ((p.getD 0 dT).1.num < 0)) (h.g0 hl)
  refine ⟨Nat.lt_of_le_of_lt (divInt_num_le _ _ h1) (by simpa using h.l), Nat.lt_of_le_of_lt (divInt_den_le _ _ h1) ?_⟩
  rw [signed_abs]; exact h.gbd hl
theorem Nm.c0 {p : Pl} (h : Nm p) (hl : p.length ≠ 0) : normC p ≠ 0 := by
  have h1 := signed_ne (b := decide ((p.getD 0 dT).1.num < 0)) (h.g0 hl)
  intro e
  have h2 := lcmTo_pos p p.length
  have h3 := (divInt_parts (lcmTo p p.length) _ h1).1
  unfold normC at e
  rw [e] at h3
  have h4 : (if signed (decide ((p.getD 0 dT).1.num < 0)) (gcdTo p p.length) < 0 then -(Int.gcd (lcmTo p p.length) (signed (decide ((p.getD 0 dT).1.num < 0)) (gcdTo p p.length)) : Int) else (Int.gcd (lcmTo p p.length) (signed (decide ((p.getD 0 dT).1.num < 0)) (gcdTo p p.length)) : Int)) ∣ (lcmTo p p.length : Int) := by
    split
    · exact (Int.neg_dvd).2 (Int.gcd_dvd_left ..)
    · exact Int.gcd_dvd_left ..
  have h5 := Int.mul_ediv_cancel' h4
  rw [← h3] at h5
  simp at h5
  omega
theorem scaled_spec (c : Rat) (p : Pl) (hc : Qs c) (h0 : c ≠ 0) (hs : Ps p) (hpm : Pm p) : FSpec Tryz.prog 141 [encQ c, encP p] (encP (scaleP c zeroM p)) := by
  have hmm : ∀ t ∈ p, Mv (mulM zeroM t.2) := fun t ht i => by rw [mulM_at]; have := hpm.2 t ht i; have : zeroM.at i = 0 := zeroM_at i; omega
  refine FSpec.intro ok [] Tryz.func141 rfl rfl (m := 13) rfl ?_
  conv => whnf
  repeat (refine ⟨_, rfl, rfl, ?_⟩; conv => whnf)
  refine ⟨_, _, times_spec c zeroM p hc h0 hs zeroM_v hpm hmm, SubL.le (by repeat' (first | exact rfl | exact trivial | exact ⟨_, rfl⟩ | exact ⟨rfl, rfl, rfl⟩ | refine And.intro ?_ ?_)), ?_⟩
  conv => whnf
  repeat (refine ⟨_, (rfl : (_ : List C)[_]? = some _), ?_⟩; conv => whnf)
  repeat' (first | exact rfl | exact trivial | exact ⟨_, rfl⟩ | exact ⟨rfl, rfl, rfl⟩ | refine And.intro ?_ ?_)
theorem normal_spec (p : Pl) (h : Nm p) : FSpec Tryz.prog 95 [encP p] (encP (normP p)) := by
  have hlen := h.s.1
  by_cases hl : p.length = 0
  · have e0 : (((p.length : Nat) : Int) == 0) = true := by simp [hl]
    rw [normP, if_pos hl]
    refine FSpec.intro ok [] Tryz.func95 rfl rfl (m := 62) rfl ?_
    conv => whnf
    rw [e0]
    conv => whnf
    repeat' (first | exact rfl | exact trivial | exact ⟨_, rfl⟩ | exact ⟨rfl, rfl, rfl⟩ | refine And.intro ?_ ?_)
  · have e0 : (((p.length : Nat) : Int) == 0) = false := by simp [hl]
    have hpos : 0 < p.length := by omega
    rw [normP, if_neg hl]
    refine FSpec.intro ok [] Tryz.func95 rfl rfl (m := 62) rfl ?_
    conv => whnf
    rw [e0]
    conv => whnf
    refine ⟨_, _, of_spec 0 (by decide) (by decide), SubL.le (by repeat' (first | exact rfl | exact trivial | exact ⟨_, rfl⟩ | exact ⟨rfl, rfl, rfl⟩ | refine And.intro ?_ ?_)), ?_⟩
    conv => whnf
    refine ⟨_, _, of_spec 1 (by decide) (by decide), SubL.le (by repeat' (first | exact rfl | exact trivial | exact ⟨_, rfl⟩ | exact ⟨rfl, rfl, rfl⟩ | refine And.intro ?_ ?_)), ?_⟩
    conv => whnf
    repeat (refine ⟨by first | decide | exact Nat.le_refl _, _, rfl, ?_⟩; conv => whnf)
    refine ⟨{ i : Nat // i ≤ p.length }, fun q_ => match q_ with | ⟨i, _⟩ => ⟨[(19, .v (.int .i64 i))], [(3, .cells 57 0 (ic (gcdTo p i : Nat))), (4, .cells 57 0 (ic (lcmTo p i : Nat)))]⟩, ⟨[false, false, false, false, false, false, true, true, true, true, false, false, false, false, false, false, false, false, false, true, true, true, true, true, true, true, true, true, true, true, true, true, true, true, true, true, true, true, true, true, true, true, true, true, true], [], []⟩, fun q_ => match q_ with | ⟨i, _⟩ => p.length - i, ⟨⟨0, Nat.zero_le _⟩, [], ?_⟩, ?_⟩
    · conv => whnf
      repeat' (first | exact rfl | exact trivial | exact ⟨_, rfl⟩ | exact ⟨rfl, rfl, rfl⟩ | refine And.intro ?_ ?_)
    · rintro ⟨i, hi⟩
      conv => whnf
      refine bcase_intro (fun h1 => ?_) (fun h1 => ?_)
      · have h1 : i < p.length := by first | simpa [-List.getD_eq_getElem?_getD] using h1 | (simp [-List.getD_eq_getElem?_getD] at h1; omega)
        have hq := h.s.at h1
        have hL := h.lk i hi
        have hdn := (p.getD i dT).1.den_nz
        conv => whnf
        repeat ((first | refine ⟨_, pt_T h1, rfl, ?_⟩ | refine ⟨_, ⟨rfl, by omega⟩, ?_⟩ | refine ⟨by first | decide | exact Nat.le_refl _, _, rfl, ?_⟩); conv => whnf)
        refine anyC [] [7, 8] (by decide +kernel) ?_
        conv => whnf
        repeat ((first | refine And.intro (by decide : (_ : Nat) ≠ 0) ?_ | refine ⟨_, rfl, rfl, ?_⟩); conv => whnf)
        have kd : Kn ((p.getD i dT).1.den : Int).natAbs := hq.dk
        have sL : Sm ((lcmTo p i : Nat) : Int).natAbs := by simpa using (bd_kn hL).sm
        have km : Kn (((lcmTo p i : Nat) : Int) * (p.getD i dT).1.den).natAbs := bd_mul_int (by simpa using hL) (by simpa using hq.2)
        have kg : Kn (Int.gcd (lcmTo p i : Nat) (p.getD i dT).1.den) := Kn.mono (Nat.gcd_le_right _ (by simpa using Nat.pos_of_ne_zero hdn)) kd
        have g0 : ((Int.gcd (lcmTo p i : Nat) (p.getD i dT).1.den : Nat) : Int) ≠ 0 := by
          have := Int.gcd_pos_of_ne_zero_right ((lcmTo p i : Nat) : Int) (show ((p.getD i dT).1.den : Int) ≠ 0 by omega)
          omega
        refine ⟨_, _, imul_spec (lcmTo p i : Nat) (p.getD i dT).1.den sL.sz hq.d.sz, SubL.le (by repeat' (first | exact rfl | exact trivial | exact ⟨_, rfl⟩ | exact ⟨rfl, rfl, rfl⟩ | refine And.intro ?_ ?_)), ?_⟩
        conv => whnf
        repeat ((first | refine And.intro (by decide : (_ : Nat) ≠ 0) ?_ | refine ⟨_, rfl, rfl, ?_⟩); conv => whnf)
        refine ⟨_, _, igcd_spec (lcmTo p i : Nat) (p.getD i dT).1.den sL.sz kd, SubL.le (by repeat' (first | exact rfl | exact trivial | exact ⟨_, rfl⟩ | exact ⟨rfl, rfl, rfl⟩ | refine And.intro ?_ ?_)), ?_⟩
        conv => whnf
        refine ⟨_, _, dmod_spec (((lcmTo p i : Nat) : Int) * (p.getD i dT).1.den) (Int.gcd (lcmTo p i : Nat) (p.getD i dT).1.den : Nat) km.sm.len (by simpa using kg) g0, SubL.le (by repeat' (first | exact rfl | exact trivial | exact ⟨_, rfl⟩ | exact ⟨rfl, rfl, rfl⟩ | refine And.intro ?_ ?_)), ?_⟩
        conv => whnf
        rw [lcm_cast]
        repeat ((first | refine ⟨_, (rfl : (_ : List C)[_]? = some _), ?_⟩ | refine And.intro (by decide : (_ : Nat) ≠ 0) ?_ | refine ⟨by first | decide | exact Nat.le_refl _, _, rfl, ?_⟩ | refine ⟨_, rfl, rfl, ?_⟩); conv => whnf)
        refine ⟨_, _, igcd_spec (gcdTo p i : Nat) (p.getD i dT).1.num (by simpa using (h.gb i hi).sz) (bd_kn hq.1), SubL.le (by repeat' (first | exact rfl | exact trivial | exact ⟨_, rfl⟩ | exact ⟨rfl, rfl, rfl⟩ | refine And.intro ?_ ?_)), ?_⟩
        conv => whnf
        rw [gcd_cast]
        repeat ((first | refine ⟨_, wAdd1 (by omega), ?_⟩ | refine ⟨by first | decide | exact Nat.le_refl _, _, rfl, ?_⟩); conv => whnf)
        refine ⟨⟨i + 1, by omega⟩, [], by dsimp only; omega, ?_⟩
        conv => whnf
        repeat' (first | exact rfl | exact trivial | exact ⟨_, rfl⟩ | exact ⟨rfl, rfl, rfl⟩ | refine And.intro ?_ ?_)
      · have h1 : p.length ≤ i := by first | simpa [-List.getD_eq_getElem?_getD] using h1 | (simp [-List.getD_eq_getElem?_getD] at h1; omega)
        obtain rfl : i = p.length := by omega
        have hc := h.qc hl
        have hc0 := h.c0 hl
        have hg := h.g0 hl
        have hgb := h.gb p.length (Nat.le_refl _)
        have hLl : Sm ((lcmTo p p.length : Nat) : Int).natAbs := by simpa using (bd_kn h.l).sm
        unfold normC at hc hc0 ⊢
        conv => whnf
        repeat ((first | refine ⟨0, ⟨rfl, by omega⟩, ?_⟩ | refine And.intro (by decide : (_ : Nat) ≠ 0) ?_); conv => whnf)
        refine ⟨ic (p.getD 0 dT).1.num, by have := pc_drop p 0 hpos; rw [Nat.zero_mul, List.drop_zero] at this; rw [show List.drop (0 * 12) (pc p) = pc p by simp, this]; rfl, rfl, ?_⟩
        conv => whnf
        refine ⟨_, _, sign_spec (p.getD 0 dT).1.num, SubL.le (by repeat' (first | exact rfl | exact trivial | exact ⟨_, rfl⟩ | exact ⟨rfl, rfl, rfl⟩ | refine And.intro ?_ ?_)), ?_⟩
        conv => whnf
        by_cases hs : (p.getD 0 dT).1.num < 0
        · rw [show decide ((p.getD 0 dT).1.num.sign < 0) = true from decide_eq_true (by rw [Int.sign_eq_neg_one_of_neg hs]; decide)]
          rw [decide_eq_true hs] at hc hc0 ⊢
          conv => whnf
          repeat (refine ⟨_, rfl, rfl, ?_⟩; conv => whnf)
          refine ⟨_, _, neg_spec (gcdTo p p.length : Nat) (Nat.le_trans (show (limbs (((gcdTo p p.length : Nat) : Int)).natAbs).length ≤ 1000000000 by simpa using (show (limbs (gcdTo p p.length)).length ≤ 1000000000 from hgb.sz)) (by decide)), SubL.le (by repeat' (first | exact rfl | exact trivial | exact ⟨_, rfl⟩ | exact ⟨rfl, rfl, rfl⟩ | refine And.intro ?_ ?_)), ?_⟩
          conv => whnf
          repeat ((first | refine ⟨by first | decide | exact Nat.le_refl _, _, rfl, ?_⟩ | refine ⟨_, rfl, rfl, ?_⟩); conv => whnf)
          refine ⟨_, _, new_spec (lcmTo p p.length : Nat) (-((gcdTo p p.length : Nat) : Int)) hLl (by simpa using hgb) (by omega), SubL.le (by repeat' (first | exact rfl | exact trivial | exact ⟨_, rfl⟩ | exact ⟨rfl, rfl, rfl⟩ | refine And.intro ?_ ?_)), ?_⟩
          conv => whnf
          repeat ((first | refine ⟨_, (rfl : (_ : List C)[_]? = some _), ?_⟩ | refine ⟨by first | decide | exact Nat.le_refl _, _, rfl, ?_⟩ | refine ⟨_, rfl, rfl, ?_⟩); conv => whnf)
          refine ⟨_, _, scaled_spec _ p hc hc0 h.s h.m, SubL.le (by repeat' (first | exact rfl | exact trivial | exact ⟨_, rfl⟩ | exact ⟨rfl, rfl, rfl⟩ | refine And.intro ?_ ?_)), ?_⟩
          conv => whnf
          repeat' (first | exact rfl | exact trivial | exact ⟨_, rfl⟩ | exact ⟨rfl, rfl, rfl⟩ | refine And.intro ?_ ?_)
        · rw [show decide ((p.getD 0 dT).1.num.sign < 0) = false from decide_eq_false (by have := Int.sign_nonneg_iff.2 (show 0 ≤ (p.getD 0 dT).1.num by omega); omega)]
          rw [decide_eq_false hs] at hc hc0 ⊢
          conv => whnf
          repeat (refine ⟨_, rfl, rfl, ?_⟩; conv => whnf)
          refine ⟨_, _, new_spec (lcmTo p p.length : Nat) (gcdTo p p.length : Nat) hLl (by simpa using hgb) (by omega), SubL.le (by repeat' (first | exact rfl | exact trivial | exact ⟨_, rfl⟩ | exact ⟨rfl, rfl, rfl⟩ | refine And.intro ?_ ?_)), ?_⟩
          conv => whnf
          repeat ((first | refine ⟨_, (rfl : (_ : List C)[_]? = some _), ?_⟩ | refine ⟨by first | decide | exact Nat.le_refl _, _, rfl, ?_⟩ | refine ⟨_, rfl, rfl, ?_⟩); conv => whnf)
          refine ⟨_, _, scaled_spec _ p hc hc0 h.s h.m, SubL.le (by repeat' (first | exact rfl | exact trivial | exact ⟨_, rfl⟩ | exact ⟨rfl, rfl, rfl⟩ | refine And.intro ?_ ?_)), ?_⟩
          conv => whnf
          repeat' (first | exact rfl | exact trivial | exact ⟨_, rfl⟩ | exact ⟨rfl, rfl, rfl⟩ | refine And.intro ?_ ?_)
theorem Nm.eb {p : Pl} (h : Nm p) (i : Nat) (hi : i ≤ p.length) : Kn (gcdE p (lcmTo p p.length) i) := by
  cases i with
  | zero => show (0 : Nat) < _; decide
  | succ i =>
    by_cases h0 : (p.getD i dT).1.num.natAbs * (lcmTo p p.length / (p.getD i dT).1.den) = 0
    · rw [gcdE, h0, Nat.gcd_zero_right]
      exact h.eb i (by omega)
    · exact (bd_mul (h.s.at (show i < p.length by omega)).1 (Nat.lt_of_le_of_lt (Nat.div_le_self _ _) h.l)).mono (Nat.gcd_le_right _ (by omega))
theorem eg_cast (n : Int) (L d : Nat) : (n * ((L : Int) / (d : Int))).natAbs = n.natAbs * (L / d) := by
  rw [Int.natAbs_mul, ← Int.natCast_ediv]; rfl
theorem den_step (L d : Nat) : (L : Int) * ((d : Int) / (Int.gcd L d : Nat)) = (Nat.lcm L d : Nat) := by
  rw [Int.gcd_natCast_natCast, ← Int.natCast_ediv, ← Int.natCast_mul]
  congr 1
  rw [Nat.lcm, Nat.mul_div_assoc _ (Nat.gcd_dvd_right L d)]
theorem normal_ref (p : Pl) (h : Nm p) : FSpec Tryz.prog 100 [encP p] (encP (normP p)) := by
  have hlen := h.s.1
  by_cases hl : p.length = 0
  · have e0 : (((p.length : Nat) : Int) == 0) = true := by simp [hl]
    rw [normP, if_pos hl]
    refine FSpec.intro ok [] Tryz.func100 rfl rfl (m := 100) rfl ?_
    conv => whnf
    rw [e0]
    conv => whnf
    refine .inl ?_
    conv => whnf
    repeat' (first | exact rfl | exact trivial | exact ⟨_, rfl⟩ | exact ⟨rfl, rfl, rfl⟩ | refine And.intro ?_ ?_)
  · have e0 : (((p.length : Nat) : Int) == 0) = false := by simp [hl]
    have hpos : 0 < p.length := by omega
    have hc := h.qc hl
    have hc0 := h.c0 hl
    have hg := h.g0 hl
    rw [normP, if_neg hl]
    have eN : normC p = if (p.getD 0 dT).1.num < 0 then -(Rat.divInt (lcmTo p p.length) (gcdTo p p.length : Nat)) else Rat.divInt (lcmTo p p.length) (gcdTo p p.length : Nat) := by
      unfold normC signed
      by_cases hs : (p.getD 0 dT).1.num < 0
      · rw [decide_eq_true hs, if_pos hs, if_pos rfl, Rat.divInt_neg', Rat.neg_divInt]
      · rw [decide_eq_false hs, if_neg hs, if_neg (by decide)]
    generalize normC p = c at *
    refine FSpec.intro ok [] Tryz.func100 rfl rfl (m := 100) rfl ?_
    conv => whnf
    rw [e0]
    conv => whnf
    refine ⟨_, _, of_ref 1 (by decide) (by decide), SubL.le (by repeat' (first | exact rfl | exact trivial | exact ⟨_, rfl⟩ | exact ⟨rfl, rfl, rfl⟩ | refine And.intro ?_ ?_)), ?_⟩
    conv => whnf
    refine ⟨_, _, of_ref 0 (by decide) (by decide), SubL.le (by repeat' (first | exact rfl | exact trivial | exact ⟨_, rfl⟩ | exact ⟨rfl, rfl, rfl⟩ | refine And.intro ?_ ?_)), ?_⟩
    conv => whnf
    repeat (refine ⟨by first | decide | exact Nat.le_refl _, _, rfl, ?_⟩; conv => whnf)
    refine ⟨{ i : Nat // i ≤ p.length }, fun q_ => match q_ with | ⟨i, _⟩ => ⟨[(5, .v (.int .i64 i))], [(3, .cells 57 0 (ic (lcmTo p i : Nat)))]⟩, ⟨[false, false, false, false, false, true, true, true, true, false, false, false, false, false, false, false, false, false, false, false, false, false, false, true, true, true, true, true, true, true, true, true, true, true, true, true, true, true, true, true, true, true, true, true, true, true, true, true, true, true, true], [4], []⟩, fun q_ => match q_ with | ⟨i, _⟩ => p.length - i, ⟨⟨0, Nat.zero_le _⟩, [], ?_⟩, ?_⟩
    · conv => whnf
      repeat' (first | exact rfl | exact trivial | exact ⟨_, rfl⟩ | exact ⟨rfl, rfl, rfl⟩ | refine And.intro ?_ ?_)
    · rintro ⟨i, hi⟩
      conv => whnf
      refine bcase_intro (fun h1 => ?_) (fun h1 => ?_)
      · have h1 : i < p.length := by first | simpa [-List.getD_eq_getElem?_getD] using h1 | (simp [-List.getD_eq_getElem?_getD] at h1; omega)
        have hq := h.s.at h1
        have hL := h.lk i hi
        have hdn := (p.getD i dT).1.den_nz
        have kd : Kn ((p.getD i dT).1.den : Int).natAbs := hq.dk
        have sL : Sm ((lcmTo p i : Nat) : Int).natAbs := by simpa using (bd_kn hL).sm
        have kg : Kn (Int.gcd (lcmTo p i : Nat) (p.getD i dT).1.den) := Kn.mono (Nat.gcd_le_right _ (by simpa using Nat.pos_of_ne_zero hdn)) kd
        have g0 : ((Int.gcd (lcmTo p i : Nat) (p.getD i dT).1.den : Nat) : Int) ≠ 0 := by
          have := Int.gcd_pos_of_ne_zero_right ((lcmTo p i : Nat) : Int) (show ((p.getD i dT).1.den : Int) ≠ 0 by omega)
          omega
        have kq : Kn (((p.getD i dT).1.den : Int) / (Int.gcd (lcmTo p i : Nat) (p.getD i dT).1.den : Nat)).natAbs := Kn.mono (Int.natAbs_ediv_le_natAbs ..) kd
        conv => whnf
        refine anyC [] [6, 7] (by decide +kernel) ?_
        conv => whnf
        repeat ((first | refine ⟨ic (p.getD i dT).1.den, by rw [pc_drop p i h1]; rfl, rfl, ?_⟩ | refine ⟨_, ⟨rfl, by omega⟩, ?_⟩ | refine And.intro (by decide : (_ : Nat) ≠ 0) ?_ | refine ⟨_, rfl, rfl, ?_⟩); conv => whnf)
        refine ⟨_, _, gcd_ref (lcmTo p i : Nat) (p.getD i dT).1.den sL.sz kd, SubL.le (by repeat' (first | exact rfl | exact trivial | exact ⟨_, rfl⟩ | exact ⟨rfl, rfl, rfl⟩ | refine And.intro ?_ ?_)), ?_⟩
        conv => whnf
        refine ⟨_, _, dmod_ref (p.getD i dT).1.den (Int.gcd (lcmTo p i : Nat) (p.getD i dT).1.den : Nat) hq.d.len (by simpa using kg) g0, SubL.le (by repeat' (first | exact rfl | exact trivial | exact ⟨_, rfl⟩ | exact ⟨rfl, rfl, rfl⟩ | refine And.intro ?_ ?_)), ?_⟩
        conv => whnf
        repeat ((first | refine ⟨_, (rfl : (_ : List C)[_]? = some _), ?_⟩ | refine ⟨by first | decide | exact Nat.le_refl _, _, rfl, ?_⟩ | refine ⟨_, rfl, rfl, ?_⟩); conv => whnf)
        refine ⟨_, _, mul_ref (lcmTo p i : Nat) _ sL.sz kq.sz, SubL.le (by repeat' (first | exact rfl | exact trivial | exact ⟨_, rfl⟩ | exact ⟨rfl, rfl, rfl⟩ | refine And.intro ?_ ?_)), ?_⟩
        conv => whnf
        rw [den_step]
        repeat ((first | refine ⟨_, wAdd1 (by omega), ?_⟩ | refine ⟨by first | decide | exact Nat.le_refl _, _, rfl, ?_⟩); conv => whnf)
        refine ⟨⟨i + 1, by omega⟩, [], by dsimp only; omega, ?_⟩
        conv => whnf
        repeat' (first | exact rfl | exact trivial | exact ⟨_, rfl⟩ | exact ⟨rfl, rfl, rfl⟩ | refine And.intro ?_ ?_)
      · have h1 : p.length ≤ i := by first | simpa [-List.getD_eq_getElem?_getD] using h1 | (simp [-List.getD_eq_getElem?_getD] at h1; omega)
        obtain rfl : i = p.length := by omega
        have hLk := bd_kn h.l
        have hLs : Sm ((lcmTo p p.length : Nat) : Int).natAbs := by simpa using hLk.sm
        conv => whnf
        skip
        refine ⟨{ k : Nat // k ≤ p.length }, fun q_ => match q_ with | ⟨k, _⟩ => ⟨[(9, .v (.int .i64 k))], [(4, .cells 57 0 (ic (gcdE p (lcmTo p p.length) k : Nat)))]⟩, ⟨[false, false, false, false, false, false, false, false, false, true, true, true, true, false, false, false, false, false, false, false, false, false, false, false, false, false, false, false, false, false, false, false, false, false, false, false, false, false, false, false, false, false, false, false, false, false, false, false, false, false, false, true, true, true, true, true, true, true, true, true, true, true, true, true, true, true, true, true, true, true, true, true, true, true, true, true, true, true, true], [3], []⟩, fun q_ => match q_ with | ⟨k, _⟩ => p.length - k, ⟨⟨0, Nat.zero_le _⟩, [], ?_⟩, ?_⟩
        · conv => whnf
          repeat' (first | exact rfl | exact trivial | exact ⟨_, rfl⟩ | exact ⟨rfl, rfl, rfl⟩ | refine And.intro ?_ ?_)
        · rintro ⟨k, hk⟩
          have hE : Kn (gcdE p (lcmTo p p.length) k) := h.eb k hk
          conv => whnf
          refine bcase_intro (fun h2 => ?_) (fun h2 => ?_)
          · have h2 : k < p.length := by first | simpa [-List.getD_eq_getElem?_getD] using h2 | (simp [-List.getD_eq_getElem?_getD] at h2; omega)
            have hq := h.s.at h2
            have hdn := (p.getD k dT).1.den_nz
            have hq2 : (((lcmTo p p.length : Nat) : Int) / (p.getD k dT).1.den).natAbs < Bd := Nat.lt_of_le_of_lt (Int.natAbs_ediv_le_natAbs ..) (by simpa using h.l)
            conv => whnf
            refine anyC [] [10, 11] (by decide +kernel) ?_
            conv => whnf
            repeat ((first | refine ⟨ic (p.getD k dT).1.den, by rw [pc_drop p k h2]; rfl, rfl, ?_⟩ | refine ⟨_, ⟨rfl, by omega⟩, ?_⟩ | refine And.intro (by decide : (_ : Nat) ≠ 0) ?_ | refine ⟨_, rfl, rfl, ?_⟩); conv => whnf)
            refine ⟨_, _, dmod_ref (lcmTo p p.length : Nat) (p.getD k dT).1.den hLs.len hq.dk (by omega), SubL.le (by repeat' (first | exact rfl | exact trivial | exact ⟨_, rfl⟩ | exact ⟨rfl, rfl, rfl⟩ | refine And.intro ?_ ?_)), ?_⟩
            conv => whnf
            repeat ((first | refine ⟨ic (p.getD k dT).1.num, by rw [pc_drop p k h2]; rfl, rfl, ?_⟩ | refine ⟨_, ⟨rfl, by omega⟩, ?_⟩ | refine ⟨_, (rfl : (_ : List C)[_]? = some _), ?_⟩ | refine And.intro (by decide : (_ : Nat) ≠ 0) ?_ | refine anyA (by decide +kernel) ?_ | refine ⟨by first | decide | exact Nat.le_refl _, _, rfl, ?_⟩ | refine ⟨_, rfl, rfl, ?_⟩); conv => whnf)
            refine ⟨_, _, mul_ref (p.getD k dT).1.num (((lcmTo p p.length : Nat) : Int) / (p.getD k dT).1.den) hq.n.sz (bd_kn hq2).sz, SubL.le (by repeat' (first | exact rfl | exact trivial | exact ⟨_, rfl⟩ | exact ⟨rfl, rfl, rfl⟩ | refine And.intro ?_ ?_)), ?_⟩
            conv => whnf
            refine ⟨_, _, gcd_ref (gcdE p (lcmTo p p.length) k : Nat) ((p.getD k dT).1.num * (((lcmTo p p.length : Nat) : Int) / (p.getD k dT).1.den)) (by simpa using hE.sz) (bd_mul_int hq.1 hq2), SubL.le (by repeat' (first | exact rfl | exact trivial | exact ⟨_, rfl⟩ | exact ⟨rfl, rfl, rfl⟩ | refine And.intro ?_ ?_)), ?_⟩
            conv => whnf
            rw [gcd_cast, eg_cast]
            repeat ((first | refine ⟨_, wAdd1 (by omega), ?_⟩ | refine ⟨by first | decide | exact Nat.le_refl _, _, rfl, ?_⟩); conv => whnf)
            refine ⟨⟨k + 1, by omega⟩, [], by dsimp only; omega, ?_⟩
            conv => whnf
            repeat' (first | exact rfl | exact trivial | exact ⟨_, rfl⟩ | exact ⟨rfl, rfl, rfl⟩ | refine And.intro ?_ ?_)
          · have h2 : p.length ≤ k := by first | simpa [-List.getD_eq_getElem?_getD] using h2 | (simp [-List.getD_eq_getElem?_getD] at h2; omega)
            obtain rfl : k = p.length := by omega
            rw [gcdE_eq]
            have hgb := h.gb p.length (Nat.le_refl _)
            have hmm : ∀ t ∈ p, Mv (mulM zeroM t.2) := fun t ht i => by rw [mulM_at]; have := h.m.2 t ht i; have : zeroM.at i = 0 := zeroM_at i; omega
            conv => whnf
            repeat (refine ⟨_, rfl, rfl, ?_⟩; conv => whnf)
            refine ⟨_, _, new_ref (lcmTo p p.length : Nat) (gcdTo p p.length : Nat) hLs (by simpa using hgb) (by omega), SubL.le (by repeat' (first | exact rfl | exact trivial | exact ⟨_, rfl⟩ | exact ⟨rfl, rfl, rfl⟩ | refine And.intro ?_ ?_)), ?_⟩
            conv => whnf
            repeat ((first | refine ⟨0, ⟨rfl, by omega⟩, ?_⟩ | refine ⟨_, (rfl : (_ : List C)[_]? = some _), ?_⟩ | refine And.intro (by decide : (_ : Nat) ≠ 0) ?_ | refine ⟨by first | decide | exact Nat.le_refl _, _, rfl, ?_⟩); conv => whnf)
            refine ⟨rc (p.getD 0 dT).1.num (p.getD 0 dT).1.den, by have := pc_drop p 0 hpos; rw [Nat.zero_mul, List.drop_zero] at this; rw [show List.drop (0 * 12) (pc p) = pc p by simp, this]; rfl, rfl, ?_⟩
            conv => whnf
            refine ⟨_, _, qsign_ref (p.getD 0 dT).1, SubL.le (by repeat' (first | exact rfl | exact trivial | exact ⟨_, rfl⟩ | exact ⟨rfl, rfl, rfl⟩ | refine And.intro ?_ ?_)), ?_⟩
            conv => whnf
            by_cases hs : (p.getD 0 dT).1.num < 0
            · rw [show decide ((p.getD 0 dT).1.num.sign < 0) = true from decide_eq_true (by rw [Int.sign_eq_neg_one_of_neg hs]; decide)]
              rw [if_pos hs] at eN
              have hqd : (limbs (Rat.divInt (lcmTo p p.length : Nat) (gcdTo p p.length : Nat)).num.natAbs).length ≤ 1099511627776 := Nat.le_trans (Sm.sz (Sm.mono (divInt_num_le _ _ (by omega)) hLs)) (by decide)
              conv => whnf
              repeat (refine ⟨_, rfl, rfl, ?_⟩; conv => whnf)
              refine ⟨_, _, qneg_ref (Rat.divInt (lcmTo p p.length : Nat) (gcdTo p p.length : Nat)) hqd, SubL.le (by repeat' (first | exact rfl | exact trivial | exact ⟨_, rfl⟩ | exact ⟨rfl, rfl, rfl⟩ | refine And.intro ?_ ?_)), ?_⟩
              conv => whnf
              rw [← eN]
              repeat ((first | refine ⟨by first | decide | exact Nat.le_refl _, _, rfl, ?_⟩ | refine ⟨_, rfl, rfl, ?_⟩); conv => whnf)
              refine ⟨_, _, ptimes_ref c zeroM p hc hc0 h.s zeroM_v h.m hmm, SubL.le (by repeat' (first | exact rfl | exact trivial | exact ⟨_, rfl⟩ | exact ⟨rfl, rfl, rfl⟩ | refine And.intro ?_ ?_)), ?_⟩
              conv => whnf
              repeat (refine ⟨_, (rfl : (_ : List C)[_]? = some _), ?_⟩; conv => whnf)
              repeat' (first | exact rfl | exact trivial | exact ⟨_, rfl⟩ | exact ⟨rfl, rfl, rfl⟩ | refine And.intro ?_ ?_)
            · rw [show decide ((p.getD 0 dT).1.num.sign < 0) = false from decide_eq_false (by have := Int.sign_nonneg_iff.2 (show 0 ≤ (p.getD 0 dT).1.num by omega); omega)]
              rw [if_neg hs] at eN
              rw [← eN]
              conv => whnf
              repeat (refine ⟨_, rfl, rfl, ?_⟩; conv => whnf)
              refine ⟨_, _, ptimes_ref c zeroM p hc hc0 h.s zeroM_v h.m hmm, SubL.le (by repeat' (first | exact rfl | exact trivial | exact ⟨_, rfl⟩ | exact ⟨rfl, rfl, rfl⟩ | refine And.intro ?_ ?_)), ?_⟩
              conv => whnf
              repeat (refine ⟨_, (rfl : (_ : List C)[_]? = some _), ?_⟩; conv => whnf)
              repeat' (first | exact rfl | exact trivial | exact ⟨_, rfl⟩ | exact ⟨rfl, rfl, rfl⟩ | refine And.intro ?_ ?_)
end Go.Proofs.YtbhnankggcfndaaGreat
namespace Go.Proofs.YtbhnankggcfndaaGreat
open El Go
set_option maxRecDepth 10000
set_option maxHeartbeats 2000000
def moV (m : Mo) : Value := .agg #[.int .i64 (m.a0 : Int), .int .i64 (m.a1 : Int), .int .i64 (m.a2 : Int), .int .i64 (m.a3 : Int), .int .i64 (m.a4 : Int), .int .i64 (m.a5 : Int), .int .i64 (m.a6 : Int), .int .i64 (m.a7 : Int)]
theorem moV_inj {a b : Mo} (h : moV a = moV b) : a = b := by
  simp only [moV, Value.agg.injEq] at h
  have h2 := congrArg Array.toList h
  simp at h2
  cases a
  cases b
  rw [Mo.mk.injEq]
  simp only at h2
  omega
def MoKv (v : Value) : Prop := ∃ l, keyOf Tryz.prog 68 v = some l
theorem mono_law : WideMaps.KeyLaw Tryz.prog 68 :=
  deep_law_laid (by kernel_rfl) (m := 2) (by decide) (by decide +kernel) (by kernel_rfl) (by kernel_rfl)
theorem MoKv.agg {v : Value} (h : MoKv v) : ∃ p, v = .agg p := by
  obtain ⟨l, h⟩ := h
  simp only [keyOf, Tryz.underlying68] at h
  split at h
  · rename_i hf
    simp only [Bool.and_eq_true] at hf
    have hf := hf.2
    cases v <;> first | exact ⟨_, rfl⟩ | (simp [Value.formed, Tryz.underlying68] at hf)
  · cases h
theorem mono_eq : EqLaw Tryz.prog 68 MoKv where
  guard w op a b x y hx hy := by
    have hg : Tryz.prog.eqGuardType Tryz.prog.depth 68 = false := by kernel_rfl
    obtain ⟨p, rfl⟩ := hx.agg
    obtain ⟨q, rfl⟩ := hy.agg
    cases op <;> simp [eqGuard, hg]
  eq w x y hx hy := by
    obtain ⟨l1, h1⟩ := hx
    obtain ⟨l2, h2⟩ := hy
    obtain ⟨r, hr, hi⟩ := run_equal_deep (P := Tryz.prog) w (m := 2) (by decide) (k := 68) (by kernel_rfl) (by kernel_rfl) h1 h2
    refine ⟨r, hr, hi.trans ⟨fun e => ?_, fun e => ?_⟩⟩
    · subst e; exact mono_law.inj h1 h2
    · subst e; rw [h1] at h2; cases h2; rfl
theorem int_key {d : Nat} {n : Nat} (h : n < 9223372036854775808) : Tryz.prog.keyLits (d + 1) 3 [.int .i64 (n : Int)] = some [.int .i64 (n : Int)] := by
  have hw : (Lit.int .i64 (n : Int)).wf = true := by
    simp [Lit.wf, IntKind.min, IntKind.max, IntKind.signed, IntKind.bits]
    omega
  simp only [Program.keyLits, Tryz.underlying3]
  rw [if_pos ⟨trivial, hw⟩]
theorem mo_key (m : Mo) (h : ∀ i, m.at i < 9223372036854775808) : MoKv (moV m) := by
  have ht : Tryz.prog.keyType 68 = true := by kernel_rfl
  have hc : Tryz.prog.cellsOf 68 = 8 := by kernel_rfl
  have hc3 : Tryz.prog.cellsOf 3 = 1 := by kernel_rfl
  have hpos : 0 < Tryz.prog.types.size := by decide +kernel
  obtain ⟨z, hz⟩ : ∃ z, Tryz.prog.types.size = z + 1 := ⟨Tryz.prog.types.size - 1, by omega⟩
  have w : ∀ n : Nat, n < 9223372036854775808 → (Lit.int .i64 (n : Int)).wf = true := fun n h => by
    simp [Lit.wf, IntKind.min, IntKind.max, IntKind.signed, IntKind.bits]
    omega
  have h0 := w m.a0 (h 0)
  have h1 := w m.a1 (h 1)
  have h2 := w m.a2 (h 2)
  have h3 := w m.a3 (h 3)
  have h4 := w m.a4 (h 4)
  have h5 := w m.a5 (h 5)
  have h6 := w m.a6 (h 6)
  have h7 := w m.a7 (h 7)
  unfold MoKv
  simp only [keyOf, Tryz.underlying68]
  have hf : (moV m).formed Tryz.prog 68 = true := by
    simp [moV, Value.formed, Tryz.underlying68, hc]
  rw [ht, hf, hz]
  simp only [Bool.and_self, if_true]
  have hr : List.range 8 = [0, 1, 2, 3, 4, 5, 6, 7] := by decide
  simp [Program.keyLits, Tryz.underlying68, hc, hc3, hr, moV, Value.cells, Tryz.underlying3, h0, h1, h2, h3, h4, h5, h6, h7]
end Go.Proofs.YtbhnankggcfndaaGreat
