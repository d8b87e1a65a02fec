/- Words of my own, joined: part 5. -/
import Derived.Test.YtbhnankggcfndaaGreatFa4
import Derived.DeepKeys5
import Derived.KernelRfl
namespace Go.Proofs.YtbhnankggcfndaaGreat
open El
set_option maxRecDepth 10000
set_option maxHeartbeats 8000000
/-! ### The search -/
structure Bs where
  es : List Pl
  ds : List Pl
  pm : Mo
  key : ByteArray
abbrev Sr := Option Bs
def bestC (n : Nat) : Sr → List C
  | none => [.v (.int .i64 0), .v (.slice none 0 0), .v (.slice none 0 0)]
  | some b => [.v (.int .i64 n), encL b.es, encL b.ds]
def atC : Sr → List C
  | none => mc zeroM
  | some b => mc b.pm
def keyC : Sr → ByteArray
  | none => .empty
  | some b => b.key
def rotF (pm : Mo) (i j : Nat) : Mo := Mo.of fun m => if m = i then pm.at j else if i < m ∧ m ≤ j then pm.at (m - 1) else pm.at m
def found1 (n : Nat) (es ds : List Pl) (pm : Mo) : Bs := ⟨pE pm es ds, pD pm ds, pm, keyB n (pE pm es ds) (pD pm ds)⟩
def stepS (n : Nat) (es ds : List Pl) (pm : Mo) : Sr → Sr
  | none => some (found1 n es ds pm)
  | some b => if Go.Op.bytesLess (found1 n es ds pm).key.data.toList b.key.data.toList = true then some (found1 n es ds pm) else some b
def tryS (n : Nat) (es ds : List Pl) : Nat → Nat → Mo → Sr → Sr
  | 0, _, pm, st => stepS n es ds pm st
  | d + 1, i, pm, st => (List.range (d + 1)).foldl (fun st k => tryS n es ds d (i + 1) (rotF pm i (i + k)) st) st
/-- What is asked of a permutation that is tried. -/
structure Lk (n : Nat) (es ds : List Pl) (pm : Mo) : Prop where
  ck : Ck n pm es ds
  ke : ∀ p ∈ pE pm es ds, Nk p
  kd : ∀ p ∈ pD pm ds, Nk p
  kl : (coreB n (pE pm es ds) (pD pm ds)).length ≤ 1000000000000
  kn : keyB n (pE pm es ds) (pD pm ds) ≠ .empty
def Rk (n : Nat) (es ds : List Pl) : Nat → Nat → Mo → Prop
  | 0, _, pm => Lk n es ds pm
  | d + 1, i, pm => ∀ k, k < d + 1 → Rk n es ds d (i + 1) (rotF pm i (i + k))
def Sk2 (st : Sr) : Prop := ∀ b, st = some b → b.key ≠ .empty
theorem stepS_key {n : Nat} {es ds : List Pl} {pm : Mo} {st : Sr} (h : Sk2 st) (hl : Lk n es ds pm) : Sk2 (stepS n es ds pm st) := by
  intro b hb
  cases st with
  | none =>
    simp only [stepS, Option.some.injEq] at hb
    subst hb
    exact hl.kn
  | some b0 =>
    simp only [stepS] at hb
    split at hb
    · cases hb; exact hl.kn
    · cases hb; exact h _ rfl
theorem tryS_key {n : Nat} {es ds : List Pl} : ∀ (d i : Nat) (pm : Mo) (st : Sr), Sk2 st → Rk n es ds d i pm → Sk2 (tryS n es ds d i pm st)
  | 0, _, _, _, h, hl => stepS_key h hl
  | d + 1, i, pm, st, h, hl => by
    have key : ∀ (l : List Nat) (st : Sr), (∀ k ∈ l, k < d + 1) → Sk2 st → Sk2 (l.foldl (fun st k => tryS n es ds d (i + 1) (rotF pm i (i + k)) st) st) := by
      intro l
      induction l with
      | nil => intro st _ h; exact h
      | cons k l ih =>
        intro st hk h
        exact ih _ (fun x hx => hk x (List.mem_cons_of_mem _ hx)) (tryS_key d (i + 1) _ st h (hl k (hk k (List.mem_cons_self ..))))
    exact key _ st (fun k hk => List.mem_range.1 hk) h
def kC (n : Nat) (es ds : List Pl) : C := .cel 28 [.v (.int .i64 n), encL es, encL ds]
def tryX (n : Nat) (es ds : List Pl) : Bx := .cells 105 0 [.fn 55 [kC n es ds, .ptr 1000 0, .ptr 1001 0, .ptr 1002 0, .ptr 1003 0, .ptr 1004 0]]
def tbx (n : Nat) (es ds : List Pl) (pm : Mo) (st : Sr) : Bxs := [(1000, .cells 44 8 (mc pm)), (1001, .cells 9 0 [.v (.string (keyC st))]), (1002, .cells 28 0 (bestC n st)), (1003, .cells 44 8 (atC st)), (1004, tryX n es ds)]
theorem try0_b (n : Nat) (es ds : List Pl) (i : Nat) (pm : Mo) (st : Sr) (hi : i = n) (hn : n ≤ 4) (he : es.length ≤ 1000) (hd : ds.length ≤ 1000) (hl : Lk n es ds pm) (hs : Sk2 st) :
    GSpec Tryz.prog 55 [.v (.int .i64 i), kC n es ds, .ptr 1000 0, .ptr 1001 0, .ptr 1002 0, .ptr 1003 0, .ptr 1004 0] (tbx n es ds pm st) (.tup []) (tbx n es ds pm (stepS n es ds pm st)) [] := by
  subst hi
  have hE12 := hl.ck.e12
  have hD12 := hl.ck.d12
  have hk := key_spec i (pE pm es ds) (pD pm ds) (by omega) (by unfold pE; omega) (by unfold pD; omega) hl.ke hl.kd hl.kl
  have hp := permuted_spec i pm es ds hl.ck
  cases st with
  | none =>
    refine GSpec.intro ok [] Tryz.func55 rfl rfl (m := 58) rfl rfl ?_
    conv => whnf
    repeat ((first | refine ⟨_, (rfl : (_ : List C)[_]? = some _), ?_⟩ | refine And.intro (by decide : (_ : Nat) ≠ 0) ?_); conv => whnf)
    rw [show ((i : Int) == (i : Int)) = true from by simp]
    conv => whnf
    repeat (refine ⟨_, rfl, rfl, ?_⟩; conv => whnf)
    refine ⟨_, _, hp, SubL.le (by repeat' (first | exact rfl | exact trivial | exact ⟨_, rfl⟩ | exact ⟨rfl, rfl, rfl⟩ | refine And.intro ?_ ?_)), ?_⟩
    conv => whnf
    repeat ((first | refine ⟨by first | decide | exact Nat.le_refl _, _, rfl, ?_⟩ | refine ⟨_, rfl, rfl, ?_⟩); conv => whnf)
    refine ⟨_, _, hk, SubL.le (by repeat' (first | exact rfl | exact trivial | exact ⟨_, rfl⟩ | exact ⟨rfl, rfl, rfl⟩ | refine And.intro ?_ ?_)), ?_⟩
    conv => whnf
    repeat (refine ⟨_, (rfl : (_ : List C)[_]? = some _), ?_⟩; conv => whnf)
    rw [bytes_beq, show decide (keyC none = { data := #[] }) = true from decide_eq_true rfl]
    conv => whnf
    skip
    refine anyC [] [1002, 1003, 1001] (by decide +kernel) ?_
    conv => whnf
    repeat ((first | refine ⟨by first | decide | exact Nat.le_refl _, _, rfl, ?_⟩ | refine ⟨_, rfl, rfl, ?_⟩); conv => whnf)
    refine ⟨[], ?_⟩
    conv => whnf
    repeat' (first | exact rfl | exact trivial | exact ⟨_, rfl⟩ | exact ⟨rfl, rfl, rfl⟩ | refine And.intro ?_ ?_)
  | some b =>
    have hb := hs b rfl
    cases hlt : Go.Op.bytesLess (keyB i (pE pm es ds) (pD pm ds)).data.toList b.key.data.toList with
    | true =>
      rw [show stepS i es ds pm (some b) = some (found1 i es ds pm) from if_pos hlt]
      refine GSpec.intro ok [] Tryz.func55 rfl rfl (m := 58) rfl rfl ?_
      conv => whnf
      repeat ((first | refine ⟨_, (rfl : (_ : List C)[_]? = some _), ?_⟩ | refine And.intro (by decide : (_ : Nat) ≠ 0) ?_); conv => whnf)
      rw [show ((i : Int) == (i : Int)) = true from by simp]
      conv => whnf
      repeat (refine ⟨_, rfl, rfl, ?_⟩; conv => whnf)
      refine ⟨_, _, hp, SubL.le (by repeat' (first | exact rfl | exact trivial | exact ⟨_, rfl⟩ | exact ⟨rfl, rfl, rfl⟩ | refine And.intro ?_ ?_)), ?_⟩
      conv => whnf
      repeat ((first | refine ⟨by first | decide | exact Nat.le_refl _, _, rfl, ?_⟩ | refine ⟨_, rfl, rfl, ?_⟩); conv => whnf)
      refine ⟨_, _, hk, SubL.le (by repeat' (first | exact rfl | exact trivial | exact ⟨_, rfl⟩ | exact ⟨rfl, rfl, rfl⟩ | refine And.intro ?_ ?_)), ?_⟩
      conv => whnf
      repeat (refine ⟨_, (rfl : (_ : List C)[_]? = some _), ?_⟩; conv => whnf)
      rw [bytes_beq, show decide (keyC (some b) = { data := #[] }) = false from decide_eq_false hb]
      conv => whnf
      repeat (refine ⟨_, (rfl : (_ : List C)[_]? = some _), ?_⟩; conv => whnf)
      show bcase (Go.Op.bytesLess (keyB i (pE pm es ds) (pD pm ds)).toList b.key.toList) _ _
      rw [ByteArray.toList_eq, ByteArray.toList_eq, hlt]
      conv => whnf
      skip
      refine anyC [] [1002, 1003, 1001] (by decide +kernel) ?_
      conv => whnf
      repeat ((first | refine ⟨by first | decide | exact Nat.le_refl _, _, rfl, ?_⟩ | refine ⟨_, rfl, rfl, ?_⟩); conv => whnf)
      refine ⟨[], ?_⟩
      conv => whnf
      repeat' (first | exact rfl | exact trivial | exact ⟨_, rfl⟩ | exact ⟨rfl, rfl, rfl⟩ | refine And.intro ?_ ?_)
    | false =>
      rw [show stepS i es ds pm (some b) = some b from if_neg (by rw [show (found1 i es ds pm).key = keyB i (pE pm es ds) (pD pm ds) from rfl, hlt]; decide)]
      refine GSpec.intro ok [] Tryz.func55 rfl rfl (m := 58) rfl rfl ?_
      conv => whnf
      repeat ((first | refine ⟨_, (rfl : (_ : List C)[_]? = some _), ?_⟩ | refine And.intro (by decide : (_ : Nat) ≠ 0) ?_); conv => whnf)
      rw [show ((i : Int) == (i : Int)) = true from by simp]
      conv => whnf
      repeat (refine ⟨_, rfl, rfl, ?_⟩; conv => whnf)
      refine ⟨_, _, hp, SubL.le (by repeat' (first | exact rfl | exact trivial | exact ⟨_, rfl⟩ | exact ⟨rfl, rfl, rfl⟩ | refine And.intro ?_ ?_)), ?_⟩
      conv => whnf
      repeat ((first | refine ⟨by first | decide | exact Nat.le_refl _, _, rfl, ?_⟩ | refine ⟨_, rfl, rfl, ?_⟩); conv => whnf)
      refine ⟨_, _, hk, SubL.le (by repeat' (first | exact rfl | exact trivial | exact ⟨_, rfl⟩ | exact ⟨rfl, rfl, rfl⟩ | refine And.intro ?_ ?_)), ?_⟩
      conv => whnf
      repeat (refine ⟨_, (rfl : (_ : List C)[_]? = some _), ?_⟩; conv => whnf)
      rw [bytes_beq, show decide (keyC (some b) = { data := #[] }) = false from decide_eq_false hb]
      conv => whnf
      repeat (refine ⟨_, (rfl : (_ : List C)[_]? = some _), ?_⟩; conv => whnf)
      show bcase (Go.Op.bytesLess (keyB i (pE pm es ds) (pD pm ds)).toList b.key.toList) _ _
      rw [ByteArray.toList_eq, ByteArray.toList_eq, hlt]
      conv => whnf
      skip
      refine ⟨[], ?_⟩
      conv => whnf
      repeat' (first | exact rfl | exact trivial | exact ⟨_, rfl⟩ | exact ⟨rfl, rfl, rfl⟩ | refine And.intro ?_ ?_)
theorem best_le (r : Ren) (n : Nat) (st : Sr) : leL r (bestC n st) (bestC n st) := by
  cases st with
  | none =>
    repeat' (first | exact rfl | exact trivial | exact ⟨_, rfl⟩ | exact ⟨rfl, rfl, rfl⟩ | refine And.intro ?_ ?_)
  | some b =>
    repeat' (first | exact rfl | exact trivial | exact ⟨_, rfl⟩ | exact ⟨rfl, rfl, rfl⟩ | refine And.intro ?_ ?_)
theorem at_le (r : Ren) (st : Sr) : leL r (atC st) (atC st) := by
  cases st with
  | none =>
    repeat' (first | exact rfl | exact trivial | exact ⟨_, rfl⟩ | exact ⟨rfl, rfl, rfl⟩ | refine And.intro ?_ ?_)
  | some b =>
    repeat' (first | exact rfl | exact trivial | exact ⟨_, rfl⟩ | exact ⟨rfl, rfl, rfl⟩ | refine And.intro ?_ ?_)
theorem try_b (n : Nat) (es ds : List Pl) (hn : n ≤ 4) (he : es.length ≤ 1000) (hd : ds.length ≤ 1000) : ∀ (d i : Nat) (pm : Mo) (st : Sr), i + d = n → Rk n es ds d i pm → Sk2 st →
    GSpec Tryz.prog 55 [.v (.int .i64 i), kC n es ds, .ptr 1000 0, .ptr 1001 0, .ptr 1002 0, .ptr 1003 0, .ptr 1004 0] (tbx n es ds pm st) (.tup []) (tbx n es ds pm (tryS n es ds d i pm st)) [] := by
  intro d
  induction d with
  | zero => exact fun i pm st hi hr hs => try0_b n es ds i pm st (by omega) hn he hd hr hs
  | succ d ih =>
    intro i pm st hi hr hs
    have hfold : ∀ k, k < d + 1 → ∀ st, (List.range (k + 1)).foldl (fun st k => tryS n es ds d (i + 1) (rotF pm i (i + k)) st) st = tryS n es ds d (i + 1) (rotF pm i (i + k)) ((List.range k).foldl (fun st k => tryS n es ds d (i + 1) (rotF pm i (i + k)) st) st) := by
      intro k _ st
      rw [List.range_succ, List.foldl_append]
      rfl
    have hkey : ∀ k, k ≤ d + 1 → Sk2 ((List.range k).foldl (fun st k => tryS n es ds d (i + 1) (rotF pm i (i + k)) st) st) := by
      intro k
      induction k with
      | zero => exact fun _ => hs
      | succ k ihk =>
        intro hk
        rw [hfold k (by omega)]
        exact tryS_key d (i + 1) _ _ (ihk (by omega)) (hr k (by omega))
    refine GSpec.intro ok [(12, ([], some [1000, 1001, 1002, 1003, 1004]))] Tryz.func55 rfl rfl (m := 58) rfl rfl ?_
    conv => whnf
    repeat ((first | refine ⟨_, (rfl : (_ : List C)[_]? = some _), ?_⟩ | refine And.intro (by decide : (_ : Nat) ≠ 0) ?_); conv => whnf)
    rw [show ((i : Int) == (n : Int)) = false from by rw [beq_eq_false_iff_ne]; omega]
    conv => whnf
    repeat ((first | refine ⟨by first | decide | exact Nat.le_refl _, _, rfl, ?_⟩ | refine ⟨_, rfl, rfl, ?_⟩); conv => whnf)
    refine ⟨{ k : Nat // k ≤ d + 1 }, fun q_ => match q_ with | ⟨k, _⟩ => ⟨[(11, .v (.int .i64 ((i + k : Nat) : Int)))], [(1000, .cells 44 8 (mc pm)), (1001, .cells 9 0 [.v (.string (keyC ((List.range k).foldl (fun st k => tryS n es ds d (i + 1) (rotF pm i (i + k)) st) st)))]), (1002, .cells 28 0 (bestC n ((List.range k).foldl (fun st k => tryS n es ds d (i + 1) (rotF pm i (i + k)) st) st))), (1003, .cells 44 8 (atC ((List.range k).foldl (fun st k => tryS n es ds d (i + 1) (rotF pm i (i + k)) st) st)))]⟩, ⟨[false, false, false, false, false, false, false, false, false, false, false, true, false, false, false, false, false, false, false, false, false, false, false, false, false, false, false, false, false, false, false, false, false, true, true, true, true, true, true, true, true, true, true, true, true, true, true, true, true, true, true, true, true, true, true, true, true, true, true, true, true, true, true, true, true], [10, 1004], []⟩, fun q_ => match q_ with | ⟨k, _⟩ => d + 1 - k, ⟨⟨0, Nat.zero_le _⟩, [], ?_⟩, ?_⟩
    · conv => whnf
      repeat' (first | exact rfl | exact trivial | exact ⟨_, rfl⟩ | exact ⟨rfl, rfl, rfl⟩ | (exact best_le _ _ _) | (exact at_le _ _) | refine And.intro ?_ ?_)
    · rintro ⟨k, hk⟩
      have hkk := hkey k hk
      conv => whnf
      repeat ((first | refine ⟨_, (rfl : (_ : List C)[_]? = some _), ?_⟩ | refine And.intro (by decide : (_ : Nat) ≠ 0) ?_); conv => whnf)
      refine bcase_intro (fun h => ?_) (fun h => ?_)
      · have h : i + k < n := by first | simpa [-List.getD_eq_getElem?_getD] using h | (simp [-List.getD_eq_getElem?_getD] at h; omega)
        have hnext := hfold k (by omega) st
        have hrk := hr k (by omega)
        generalize (List.range k).foldl (fun st k => tryS n es ds d (i + 1) (rotF pm i (i + k)) st) st = st2 at *
        have hih := ih (i + 1) (rotF pm i (i + k)) st2 (by omega) hrk hkk
        clear hfold hkey ih hr hs
        have hc : (i = 0 ∧ k = 0) ∨ (i = 0 ∧ k = 1) ∨ (i = 0 ∧ k = 2) ∨ (i = 0 ∧ k = 3) ∨ (i = 1 ∧ k = 0) ∨ (i = 1 ∧ k = 1) ∨ (i = 1 ∧ k = 2) ∨ (i = 2 ∧ k = 0) ∨ (i = 2 ∧ k = 1) ∨ (i = 3 ∧ k = 0) := by omega
        rcases hc with ⟨rfl, rfl⟩ | ⟨rfl, rfl⟩ | ⟨rfl, rfl⟩ | ⟨rfl, rfl⟩ | ⟨rfl, rfl⟩ | ⟨rfl, rfl⟩ | ⟨rfl, rfl⟩ | ⟨rfl, rfl⟩ | ⟨rfl, rfl⟩ | ⟨rfl, rfl⟩
        · conv => whnf
          repeat ((first | refine ⟨Nat.le_of_ble_eq_true rfl, _, rfl, ?_⟩ | refine .inl ⟨rfl, ?_⟩ | refine .inr ⟨Nat.le_of_ble_eq_true rfl, ?_⟩ | refine ⟨_, wAdd1 (by omega), ?_⟩ | refine ⟨_, ⟨rfl, by omega⟩, ?_⟩ | refine ⟨_, _, ⟨rfl, rfl, by omega, by omega⟩, ?_⟩ | refine ⟨_, (rfl : (_ : List C)[_]? = some _), ?_⟩ | refine anyA (by decide +kernel) ?_); conv => whnf)
          refine ⟨_, _, _, _, _, hih, ?_, ?_, bchk_iff.2 ⟨rfl, ?_⟩⟩
          · repeat' (first | exact rfl | exact trivial | exact ⟨_, rfl⟩ | exact ⟨rfl, rfl, rfl⟩ | (exact best_le _ _ _) | (exact at_le _ _) | refine And.intro ?_ ?_)
          · repeat' (first | exact rfl | exact trivial | exact ⟨_, rfl⟩ | exact ⟨rfl, rfl, rfl⟩ | (exact best_le _ _ _) | (exact at_le _ _) | refine And.intro ?_ ?_)
          conv => whnf
          repeat ((first | refine ⟨_, wAdd1 (by omega), ?_⟩ | refine ⟨by first | decide | exact Nat.le_refl _, _, rfl, ?_⟩ | refine ⟨_, rfl, rfl, ?_⟩); conv => whnf)
          refine ⟨⟨0 + 1, by omega⟩, [], by dsimp only; omega, ?_⟩
          conv => whnf
          repeat' (first | exact rfl | exact trivial | exact ⟨_, rfl⟩ | exact ⟨rfl, rfl, rfl⟩ | (exact hnext ▸ best_le _ _ _) | (exact hnext ▸ at_le _ _) | (exact hnext ▸ rfl) | refine And.intro ?_ ?_)
        · conv => whnf
          repeat ((first | refine ⟨Nat.le_of_ble_eq_true rfl, _, rfl, ?_⟩ | refine .inr ⟨Nat.le_of_ble_eq_true rfl, ?_⟩ | refine ⟨_, wAdd1 (by omega), ?_⟩ | refine ⟨_, ⟨rfl, by omega⟩, ?_⟩ | refine ⟨_, _, ⟨rfl, rfl, by omega, by omega⟩, ?_⟩ | refine ⟨_, (rfl : (_ : List C)[_]? = some _), ?_⟩ | refine anyA (by decide +kernel) ?_); conv => whnf)
          refine ⟨_, _, _, _, _, hih, ?_, ?_, bchk_iff.2 ⟨rfl, ?_⟩⟩
          · repeat' (first | exact rfl | exact trivial | exact ⟨_, rfl⟩ | exact ⟨rfl, rfl, rfl⟩ | (exact best_le _ _ _) | (exact at_le _ _) | refine And.intro ?_ ?_)
          · repeat' (first | exact rfl | exact trivial | exact ⟨_, rfl⟩ | exact ⟨rfl, rfl, rfl⟩ | (exact best_le _ _ _) | (exact at_le _ _) | refine And.intro ?_ ?_)
          conv => whnf
          repeat ((first | refine ⟨_, wAdd1 (by omega), ?_⟩ | refine ⟨by first | decide | exact Nat.le_refl _, _, rfl, ?_⟩ | refine ⟨_, rfl, rfl, ?_⟩); conv => whnf)
          refine ⟨⟨1 + 1, by omega⟩, [], by dsimp only; omega, ?_⟩
          conv => whnf
          repeat' (first | exact rfl | exact trivial | exact ⟨_, rfl⟩ | exact ⟨rfl, rfl, rfl⟩ | (exact hnext ▸ best_le _ _ _) | (exact hnext ▸ at_le _ _) | (exact hnext ▸ rfl) | refine And.intro ?_ ?_)
        · conv => whnf
          repeat ((first | refine ⟨Nat.le_of_ble_eq_true rfl, _, rfl, ?_⟩ | refine .inr ⟨Nat.le_of_ble_eq_true rfl, ?_⟩ | refine ⟨_, wAdd1 (by omega), ?_⟩ | refine ⟨_, ⟨rfl, by omega⟩, ?_⟩ | refine ⟨_, _, ⟨rfl, rfl, by omega, by omega⟩, ?_⟩ | refine ⟨_, (rfl : (_ : List C)[_]? = some _), ?_⟩ | refine anyA (by decide +kernel) ?_); conv => whnf)
          refine ⟨_, _, _, _, _, hih, ?_, ?_, bchk_iff.2 ⟨rfl, ?_⟩⟩
          · repeat' (first | exact rfl | exact trivial | exact ⟨_, rfl⟩ | exact ⟨rfl, rfl, rfl⟩ | (exact best_le _ _ _) | (exact at_le _ _) | refine And.intro ?_ ?_)
          · repeat' (first | exact rfl | exact trivial | exact ⟨_, rfl⟩ | exact ⟨rfl, rfl, rfl⟩ | (exact best_le _ _ _) | (exact at_le _ _) | refine And.intro ?_ ?_)
          conv => whnf
          repeat ((first | refine ⟨_, wAdd1 (by omega), ?_⟩ | refine ⟨by first | decide | exact Nat.le_refl _, _, rfl, ?_⟩ | refine ⟨_, rfl, rfl, ?_⟩); conv => whnf)
          refine ⟨⟨2 + 1, by omega⟩, [], by dsimp only; omega, ?_⟩
          conv => whnf
          repeat' (first | exact rfl | exact trivial | exact ⟨_, rfl⟩ | exact ⟨rfl, rfl, rfl⟩ | (exact hnext ▸ best_le _ _ _) | (exact hnext ▸ at_le _ _) | (exact hnext ▸ rfl) | refine And.intro ?_ ?_)
        · conv => whnf
          repeat ((first | refine ⟨Nat.le_of_ble_eq_true rfl, _, rfl, ?_⟩ | refine .inr ⟨Nat.le_of_ble_eq_true rfl, ?_⟩ | refine ⟨_, wAdd1 (by omega), ?_⟩ | refine ⟨_, ⟨rfl, by omega⟩, ?_⟩ | refine ⟨_, _, ⟨rfl, rfl, by omega, by omega⟩, ?_⟩ | refine ⟨_, (rfl : (_ : List C)[_]? = some _), ?_⟩ | refine anyA (by decide +kernel) ?_); conv => whnf)
          refine ⟨_, _, _, _, _, hih, ?_, ?_, bchk_iff.2 ⟨rfl, ?_⟩⟩
          · repeat' (first | exact rfl | exact trivial | exact ⟨_, rfl⟩ | exact ⟨rfl, rfl, rfl⟩ | (exact best_le _ _ _) | (exact at_le _ _) | refine And.intro ?_ ?_)
          · repeat' (first | exact rfl | exact trivial | exact ⟨_, rfl⟩ | exact ⟨rfl, rfl, rfl⟩ | (exact best_le _ _ _) | (exact at_le _ _) | refine And.intro ?_ ?_)
          conv => whnf
          repeat ((first | refine ⟨_, wAdd1 (by omega), ?_⟩ | refine ⟨by first | decide | exact Nat.le_refl _, _, rfl, ?_⟩ | refine ⟨_, rfl, rfl, ?_⟩); conv => whnf)
          refine ⟨⟨3 + 1, by omega⟩, [], by dsimp only; omega, ?_⟩
          conv => whnf
          repeat' (first | exact rfl | exact trivial | exact ⟨_, rfl⟩ | exact ⟨rfl, rfl, rfl⟩ | (exact hnext ▸ best_le _ _ _) | (exact hnext ▸ at_le _ _) | (exact hnext ▸ rfl) | refine And.intro ?_ ?_)
        · conv => whnf
          repeat ((first | refine ⟨Nat.le_of_ble_eq_true rfl, _, rfl, ?_⟩ | refine .inl ⟨rfl, ?_⟩ | refine .inr ⟨Nat.le_of_ble_eq_true rfl, ?_⟩ | refine ⟨_, wAdd1 (by omega), ?_⟩ | refine ⟨_, ⟨rfl, by omega⟩, ?_⟩ | refine ⟨_, _, ⟨rfl, rfl, by omega, by omega⟩, ?_⟩ | refine ⟨_, (rfl : (_ : List C)[_]? = some _), ?_⟩ | refine anyA (by decide +kernel) ?_); conv => whnf)
          refine ⟨_, _, _, _, _, hih, ?_, ?_, bchk_iff.2 ⟨rfl, ?_⟩⟩
          · repeat' (first | exact rfl | exact trivial | exact ⟨_, rfl⟩ | exact ⟨rfl, rfl, rfl⟩ | (exact best_le _ _ _) | (exact at_le _ _) | refine And.intro ?_ ?_)
          · repeat' (first | exact rfl | exact trivial | exact ⟨_, rfl⟩ | exact ⟨rfl, rfl, rfl⟩ | (exact best_le _ _ _) | (exact at_le _ _) | refine And.intro ?_ ?_)
          conv => whnf
          repeat ((first | refine ⟨_, wAdd1 (by omega), ?_⟩ | refine ⟨by first | decide | exact Nat.le_refl _, _, rfl, ?_⟩ | refine ⟨_, rfl, rfl, ?_⟩); conv => whnf)
          refine ⟨⟨0 + 1, by omega⟩, [], by dsimp only; omega, ?_⟩
          conv => whnf
          repeat' (first | exact rfl | exact trivial | exact ⟨_, rfl⟩ | exact ⟨rfl, rfl, rfl⟩ | (exact hnext ▸ best_le _ _ _) | (exact hnext ▸ at_le _ _) | (exact hnext ▸ rfl) | refine And.intro ?_ ?_)
        · conv => whnf
          repeat ((first | refine ⟨Nat.le_of_ble_eq_true rfl, _, rfl, ?_⟩ | refine .inr ⟨Nat.le_of_ble_eq_true rfl, ?_⟩ | refine ⟨_, wAdd1 (by omega), ?_⟩ | refine ⟨_, ⟨rfl, by omega⟩, ?_⟩ | refine ⟨_, _, ⟨rfl, rfl, by omega, by omega⟩, ?_⟩ | refine ⟨_, (rfl : (_ : List C)[_]? = some _), ?_⟩ | refine anyA (by decide +kernel) ?_); conv => whnf)
          refine ⟨_, _, _, _, _, hih, ?_, ?_, bchk_iff.2 ⟨rfl, ?_⟩⟩
          · repeat' (first | exact rfl | exact trivial | exact ⟨_, rfl⟩ | exact ⟨rfl, rfl, rfl⟩ | (exact best_le _ _ _) | (exact at_le _ _) | refine And.intro ?_ ?_)
          · repeat' (first | exact rfl | exact trivial | exact ⟨_, rfl⟩ | exact ⟨rfl, rfl, rfl⟩ | (exact best_le _ _ _) | (exact at_le _ _) | refine And.intro ?_ ?_)
          conv => whnf
          repeat ((first | refine ⟨_, wAdd1 (by omega), ?_⟩ | refine ⟨by first | decide | exact Nat.le_refl _, _, rfl, ?_⟩ | refine ⟨_, rfl, rfl, ?_⟩); conv => whnf)
          refine ⟨⟨1 + 1, by omega⟩, [], by dsimp only; omega, ?_⟩
          conv => whnf
          repeat' (first | exact rfl | exact trivial | exact ⟨_, rfl⟩ | exact ⟨rfl, rfl, rfl⟩ | (exact hnext ▸ best_le _ _ _) | (exact hnext ▸ at_le _ _) | (exact hnext ▸ rfl) | refine And.intro ?_ ?_)
        · conv => whnf
          repeat ((first | refine ⟨Nat.le_of_ble_eq_true rfl, _, rfl, ?_⟩ | refine .inr ⟨Nat.le_of_ble_eq_true rfl, ?_⟩ | refine ⟨_, wAdd1 (by omega), ?_⟩ | refine ⟨_, ⟨rfl, by omega⟩, ?_⟩ | refine ⟨_, _, ⟨rfl, rfl, by omega, by omega⟩, ?_⟩ | refine ⟨_, (rfl : (_ : List C)[_]? = some _), ?_⟩ | refine anyA (by decide +kernel) ?_); conv => whnf)
          refine ⟨_, _, _, _, _, hih, ?_, ?_, bchk_iff.2 ⟨rfl, ?_⟩⟩
          · repeat' (first | exact rfl | exact trivial | exact ⟨_, rfl⟩ | exact ⟨rfl, rfl, rfl⟩ | (exact best_le _ _ _) | (exact at_le _ _) | refine And.intro ?_ ?_)
          · repeat' (first | exact rfl | exact trivial | exact ⟨_, rfl⟩ | exact ⟨rfl, rfl, rfl⟩ | (exact best_le _ _ _) | (exact at_le _ _) | refine And.intro ?_ ?_)
          conv => whnf
          repeat ((first | refine ⟨_, wAdd1 (by omega), ?_⟩ | refine ⟨by first | decide | exact Nat.le_refl _, _, rfl, ?_⟩ | refine ⟨_, rfl, rfl, ?_⟩); conv => whnf)
          refine ⟨⟨2 + 1, by omega⟩, [], by dsimp only; omega, ?_⟩
          conv => whnf
          repeat' (first | exact rfl | exact trivial | exact ⟨_, rfl⟩ | exact ⟨rfl, rfl, rfl⟩ | (exact hnext ▸ best_le _ _ _) | (exact hnext ▸ at_le _ _) | (exact hnext ▸ rfl) | refine And.intro ?_ ?_)
        · conv => whnf
          repeat ((first | refine ⟨Nat.le_of_ble_eq_true rfl, _, rfl, ?_⟩ | refine .inl ⟨rfl, ?_⟩ | refine .inr ⟨Nat.le_of_ble_eq_true rfl, ?_⟩ | refine ⟨_, wAdd1 (by omega), ?_⟩ | refine ⟨_, ⟨rfl, by omega⟩, ?_⟩ | refine ⟨_, _, ⟨rfl, rfl, by omega, by omega⟩, ?_⟩ | refine ⟨_, (rfl : (_ : List C)[_]? = some _), ?_⟩ | refine anyA (by decide +kernel) ?_); conv => whnf)
          refine ⟨_, _, _, _, _, hih, ?_, ?_, bchk_iff.2 ⟨rfl, ?_⟩⟩
          · repeat' (first | exact rfl | exact trivial | exact ⟨_, rfl⟩ | exact ⟨rfl, rfl, rfl⟩ | (exact best_le _ _ _) | (exact at_le _ _) | refine And.intro ?_ ?_)
          · repeat' (first | exact rfl | exact trivial | exact ⟨_, rfl⟩ | exact ⟨rfl, rfl, rfl⟩ | (exact best_le _ _ _) | (exact at_le _ _) | refine And.intro ?_ ?_)
          conv => whnf
          repeat ((first | refine ⟨_, wAdd1 (by omega), ?_⟩ | refine ⟨by first | decide | exact Nat.le_refl _, _, rfl, ?_⟩ | refine ⟨_, rfl, rfl, ?_⟩); conv => whnf)
          refine ⟨⟨0 + 1, by omega⟩, [], by dsimp only; omega, ?_⟩
          conv => whnf
          repeat' (first | exact rfl | exact trivial | exact ⟨_, rfl⟩ | exact ⟨rfl, rfl, rfl⟩ | (exact hnext ▸ best_le _ _ _) | (exact hnext ▸ at_le _ _) | (exact hnext ▸ rfl) | refine And.intro ?_ ?_)
        · conv => whnf
          repeat ((first | refine ⟨Nat.le_of_ble_eq_true rfl, _, rfl, ?_⟩ | refine .inr ⟨Nat.le_of_ble_eq_true rfl, ?_⟩ | refine ⟨_, wAdd1 (by omega), ?_⟩ | refine ⟨_, ⟨rfl, by omega⟩, ?_⟩ | refine ⟨_, _, ⟨rfl, rfl, by omega, by omega⟩, ?_⟩ | refine ⟨_, (rfl : (_ : List C)[_]? = some _), ?_⟩ | refine anyA (by decide +kernel) ?_); conv => whnf)
          refine ⟨_, _, _, _, _, hih, ?_, ?_, bchk_iff.2 ⟨rfl, ?_⟩⟩
          · repeat' (first | exact rfl | exact trivial | exact ⟨_, rfl⟩ | exact ⟨rfl, rfl, rfl⟩ | (exact best_le _ _ _) | (exact at_le _ _) | refine And.intro ?_ ?_)
          · repeat' (first | exact rfl | exact trivial | exact ⟨_, rfl⟩ | exact ⟨rfl, rfl, rfl⟩ | (exact best_le _ _ _) | (exact at_le _ _) | refine And.intro ?_ ?_)
          conv => whnf
          repeat ((first | refine ⟨_, wAdd1 (by omega), ?_⟩ | refine ⟨by first | decide | exact Nat.le_refl _, _, rfl, ?_⟩ | refine ⟨_, rfl, rfl, ?_⟩); conv => whnf)
          refine ⟨⟨1 + 1, by omega⟩, [], by dsimp only; omega, ?_⟩
          conv => whnf
          repeat' (first | exact rfl | exact trivial | exact ⟨_, rfl⟩ | exact ⟨rfl, rfl, rfl⟩ | (exact hnext ▸ best_le _ _ _) | (exact hnext ▸ at_le _ _) | (exact hnext ▸ rfl) | refine And.intro ?_ ?_)
        · conv => whnf
          repeat ((first | refine ⟨Nat.le_of_ble_eq_true rfl, _, rfl, ?_⟩ | refine .inl ⟨rfl, ?_⟩ | refine .inr ⟨Nat.le_of_ble_eq_true rfl, ?_⟩ | refine ⟨_, wAdd1 (by omega), ?_⟩ | refine ⟨_, ⟨rfl, by omega⟩, ?_⟩ | refine ⟨_, _, ⟨rfl, rfl, by omega, by omega⟩, ?_⟩ | refine ⟨_, (rfl : (_ : List C)[_]? = some _), ?_⟩ | refine anyA (by decide +kernel) ?_); conv => whnf)
          refine ⟨_, _, _, _, _, hih, ?_, ?_, bchk_iff.2 ⟨rfl, ?_⟩⟩
          · repeat' (first | exact rfl | exact trivial | exact ⟨_, rfl⟩ | exact ⟨rfl, rfl, rfl⟩ | (exact best_le _ _ _) | (exact at_le _ _) | refine And.intro ?_ ?_)
          · repeat' (first | exact rfl | exact trivial | exact ⟨_, rfl⟩ | exact ⟨rfl, rfl, rfl⟩ | (exact best_le _ _ _) | (exact at_le _ _) | refine And.intro ?_ ?_)
          conv => whnf
          repeat ((first | refine ⟨_, wAdd1 (by omega), ?_⟩ | refine ⟨by first | decide | exact Nat.le_refl _, _, rfl, ?_⟩ | refine ⟨_, rfl, rfl, ?_⟩); conv => whnf)
          refine ⟨⟨0 + 1, by omega⟩, [], by dsimp only; omega, ?_⟩
          conv => whnf
          repeat' (first | exact rfl | exact trivial | exact ⟨_, rfl⟩ | exact ⟨rfl, rfl, rfl⟩ | (exact hnext ▸ best_le _ _ _) | (exact hnext ▸ at_le _ _) | (exact hnext ▸ rfl) | refine And.intro ?_ ?_)
      · have h : n ≤ i + k := by first | simpa [-List.getD_eq_getElem?_getD] using h | (simp [-List.getD_eq_getElem?_getD] at h; omega)
        obtain rfl : k = d + 1 := by omega
        conv => whnf
        skip
        refine ⟨[], ?_⟩
        conv => whnf
        repeat' (first | exact rfl | exact trivial | exact ⟨_, rfl⟩ | exact ⟨rfl, rfl, rfl⟩ | (exact best_le _ _ _) | (exact at_le _ _) | refine And.intro ?_ ?_)
end Go.Proofs.YtbhnankggcfndaaGreat
namespace Go.Proofs.YtbhnankggcfndaaGreat
open El
set_option maxRecDepth 10000
set_option maxHeartbeats 8000000
def idM : Mo := ⟨0, 1, 2, 3, 4, 5, 6, 7⟩
theorem names5 (p q b r z : Nat) (h : [p, q, b, r, z].Nodup) : ∃ σ : Nat → Nat, Function.Injective σ ∧ σ 1000 = p ∧ σ 1001 = q ∧ σ 1002 = b ∧ σ 1003 = r ∧ σ 1004 = z := by
  obtain ⟨σ, h1, h2⟩ := names_ex _ h
  refine ⟨fun x => σ (if x = 1000 then 0 else if x = 1001 then 1 else if x = 1002 then 2 else if x = 1003 then 3 else if x = 1004 then 4 else x + 5), fun x y e => ?_, h2 0 p rfl, h2 1 q rfl, h2 2 b rfl, h2 3 r rfl, h2 4 z rfl⟩
  have e := h1 e
  revert e
  repeat' split
  all_goals (intro e; omega)
theorem stepS_some {n : Nat} {es ds : List Pl} {pm : Mo} {st : Sr} : ∃ b, stepS n es ds pm st = some b := by
  cases st with
  | none => exact ⟨_, rfl⟩
  | some b =>
    simp only [stepS]
    split
    · exact ⟨_, rfl⟩
    · exact ⟨_, rfl⟩
theorem tryS_some {n : Nat} {es ds : List Pl} : ∀ (d i : Nat) (pm : Mo) (st : Sr), ∃ b, tryS n es ds d i pm st = some b
  | 0, _, _, _ => stepS_some
  | d + 1, i, pm, st => by
    rw [tryS, List.range_succ, List.foldl_append]
    exact tryS_some d (i + 1) _ _
theorem try_g (p q b r z : Nat) (h : [p, q, b, r, z].Nodup) (n : Nat) (es ds : List Pl) (hn : n ≤ 4) (he : es.length ≤ 1000) (hd : ds.length ≤ 1000) (hr : Rk n es ds n 0 idM) (x : Bs) (hx : tryS n es ds n 0 idM none = some x) :
    GSpec Tryz.prog 55 [.v (.int .i64 0), kC n es ds, .ptr p 0, .ptr q 0, .ptr b 0, .ptr r 0, .ptr z 0]
      [(p, .cells 44 8 (mc idM)), (q, .cells 9 0 [.v (.string .empty)]), (b, .cells 28 0 (bestC n none)), (r, .cells 44 8 (mc zeroM)), (z, .cells 105 0 [.fn 55 [kC n es ds, .ptr p 0, .ptr q 0, .ptr b 0, .ptr r 0, .ptr z 0]])] (.tup [])
      [(p, .cells 44 8 (mc idM)), (q, .cells 9 0 [.v (.string x.key)]), (b, .cells 28 0 (bestC n (some x))), (r, .cells 44 8 (mc x.pm)), (z, .cells 105 0 [.fn 55 [kC n es ds, .ptr p 0, .ptr q 0, .ptr b 0, .ptr r 0, .ptr z 0]])] [] := by
  obtain ⟨σ, hσ, rfl, rfl, rfl, rfl, rfl⟩ := names5 p q b r z h
  have h1 := try_b n es ds hn he hd n 0 idM none (by omega) hr (fun b hb => by cases hb)
  rw [hx] at h1
  exact h1.ren hσ
theorem canon_spec (n : Nat) (es ds : List Pl) (hn : n ≤ 4) (he : es.length ≤ 1000) (hd : ds.length ≤ 1000) (hr : Rk n es ds n 0 idM) (x : Bs) (hx : tryS n es ds n 0 idM none = some x) :
    FSpec Tryz.prog 18 [sysC n es ds] (.tup [sysC n x.es x.ds, .agg (mc x.pm)]) := by
  refine FSpec.intro ok [(1, ([1], none)), (7, ([], some [4, 7, 5, 6, 8]))] Tryz.func18 rfl rfl (m := 14) rfl ?_
  conv => whnf
  skip
  refine ⟨(by repeat' (first | exact rfl | exact trivial | refine And.intro ?_ ?_)), (by repeat' (first | exact rfl | exact trivial | refine And.intro ?_ ?_)), ?_⟩
  conv => whnf
  repeat ((first | refine ⟨_, (rfl : (_ : List C)[_]? = some _), ?_⟩ | refine ⟨by first | decide | exact Nat.le_refl _, _, rfl, ?_⟩); conv => whnf)
  refine ⟨_, _, _, _, _, try_g 4 7 5 6 8 (by decide) n es ds hn he hd hr x hx, ?_, ?_, bchk_iff.2 ⟨rfl, ?_⟩⟩
  · repeat' (first | exact rfl | exact trivial | exact ⟨_, rfl⟩ | exact ⟨rfl, rfl, rfl⟩ | refine And.intro ?_ ?_)
  · repeat' (first | exact rfl | exact trivial | exact ⟨_, rfl⟩ | exact ⟨rfl, rfl, rfl⟩ | refine And.intro ?_ ?_)
  conv => whnf
  skip
  refine anyC [] [2, 3] (by decide +kernel) ?_
  conv => whnf
  repeat ((first | refine ⟨by first | decide | exact Nat.le_refl _, _, rfl, ?_⟩ | refine ⟨_, rfl, rfl, ?_⟩); conv => whnf)
  repeat' (first | exact rfl | exact trivial | exact ⟨_, rfl⟩ | exact ⟨rfl, rfl, rfl⟩ | refine And.intro ?_ ?_)
end Go.Proofs.YtbhnankggcfndaaGreat
namespace Go.Proofs.YtbhnankggcfndaaGreat
open El
set_option maxRecDepth 10000
set_option maxHeartbeats 4000000
def noB : C := .sl 5 1 0 true []
theorem natr0_b (n : Nat) (hn : n < 128) :
    GSpec Tryz.prog 159 [noB, .v (.int .u64 n)] [] (.own 1 5 1 (natB n).length) [(1, wrow (natB n))] [1] := by
  have e : natB n = [UInt8.ofNat n] := natBf_end hn
  rw [e]
  refine GSpec.intro ok [] Tryz.func159 rfl rfl (m := 19) rfl rfl ?_
  conv => whnf
  skip
  refine ⟨Unit, fun q_ => match q_ with | _ => ⟨[(0, noB), (1, .v (.int .u64 n))], []⟩, ⟨[true, true, false, false, false, true, true, true, true, true, true, true, true, true, true, true], [], []⟩, fun q_ => match q_ with | _ => 0, ⟨(), [], ?_⟩, ?_⟩
  · conv => whnf
    repeat' (first | exact rfl | exact trivial | exact ⟨_, rfl⟩ | exact ⟨rfl, rfl, rfl⟩ | refine And.intro ?_ ?_)
  · rintro ⟨⟩
    conv => whnf
    rw [show decide ((n : Int) > 127) = false from decide_eq_false (by omega)]
    conv => whnf
    repeat (refine ⟨_, z8 n, ?_⟩; conv => whnf)
    refine ⟨rfl, ?_⟩
    conv => whnf
    refine ⟨rfl, ?_⟩
    conv => whnf
    refine .inl ⟨⟨by decide, rfl⟩, ?_⟩
    conv => whnf
    refine ⟨⟨by decide, by decide⟩, bytesC [UInt8.ofNat n], 1, ⟨rfl, rfl⟩, ?_⟩
    conv => whnf
    skip
    refine ⟨[(1, some 20)], ?_⟩
    conv => whnf
    repeat' (first | exact rfl | exact trivial | exact ⟨_, rfl⟩ | exact ⟨rfl, rfl, rfl⟩ | refine And.intro ?_ ?_)
theorem numberr0_b (n : Nat) (hn : n < 64) :
    GSpec Tryz.prog 109 [noB, .v (.int .i64 n)] [] (.own 1 5 1 (natB (2 * n)).length) [(1, wrow (natB (2 * n)))] [1] := by
  refine GSpec.intro ok [(3, ([], some []))] Tryz.func109 rfl rfl (m := 18) rfl rfl ?_
  conv => whnf
  repeat (refine ⟨_, wU (by omega), ?_⟩; conv => whnf)
  rw [show decide ((n : Int) < 0) = false from decide_eq_false (by omega)]
  conv => whnf
  repeat (refine ⟨_, zMul2 (by omega), ?_⟩; conv => whnf)
  refine ⟨[], ?_⟩
  conv => whnf
  refine ⟨_, _, _, _, _, natr0_b (2 * n) (by omega), ?_, ?_, bchk_iff.2 ⟨rfl, ?_⟩⟩
  · repeat' (first | exact rfl | exact trivial | exact ⟨_, rfl⟩ | exact ⟨rfl, rfl, rfl⟩ | refine And.intro ?_ ?_)
  · repeat' (first | exact rfl | exact trivial | exact ⟨_, rfl⟩ | exact ⟨rfl, rfl, rfl⟩ | refine And.intro ?_ ?_)
  conv => whnf
  skip
  refine ⟨[(1, some 1)], ?_⟩
  conv => whnf
  repeat' (first | exact rfl | exact trivial | exact ⟨_, rfl⟩ | exact ⟨rfl, rfl, rfl⟩ | refine And.intro ?_ ?_)
theorem corer_spec (n : Nat) (es ds : List Pl) (hn : n < 64) (he : es.length ≤ 1000000) (hd : ds.length ≤ 1000000) (hme : ∀ p ∈ es, Pm p) (hmd : ∀ p ∈ ds, Pm p) (hl : (coreB n es ds).length ≤ 1000000000000) :
    FSpec Tryz.prog 59 [noB, sysC n es ds] (.sl 5 1 (coreB n es ds).length false (bytesC (coreB n es ds))) := by
  have hl2 := hl
  unfold coreB at hl2 ⊢
  rw [← List.append_assoc] at hl2 ⊢
  have h2 : (natB (2 * n) ++ polysB es).length ≤ 1000000000000 := by rw [List.length_append] at hl2; omega
  refine FSpec.intro ok [(1, ([3], none))] Tryz.func59 rfl rfl (m := 13) rfl ?_
  conv => whnf
  skip
  refine ⟨(by repeat' (first | exact rfl | exact trivial | refine And.intro ?_ ?_)), (by repeat' (first | exact rfl | exact trivial | refine And.intro ?_ ?_)), ?_⟩
  conv => whnf
  repeat ((first | refine anyH [3, 6, 9, 10] (by decide +kernel) ?_ | refine ⟨_, (rfl : (_ : List C)[_]? = some _), ?_⟩ | refine And.intro (by decide : (_ : Nat) ≠ 0) ?_); conv => whnf)
  refine ⟨[], ?_⟩
  conv => whnf
  refine ⟨_, _, _, _, _, numberr0_b n hn, ?_, ?_, bchk_iff.2 ⟨rfl, ?_⟩⟩
  · repeat' (first | exact rfl | exact trivial | exact ⟨_, rfl⟩ | exact ⟨rfl, rfl, rfl⟩ | refine And.intro ?_ ?_)
  · repeat' (first | exact rfl | exact trivial | exact ⟨_, rfl⟩ | exact ⟨rfl, rfl, rfl⟩ | refine And.intro ?_ ?_)
  conv => whnf
  skip
  refine ⟨[1], ?_⟩
  conv => whnf
  refine ⟨_, _, _, _, _, polysr_g 1 301 (by decide) es he hme (natB (2 * n)) h2, ?_, ?_, bchk_iff.2 ⟨rfl, ?_⟩⟩
  · repeat' (first | exact rfl | exact trivial | exact ⟨_, rfl⟩ | exact ⟨rfl, rfl, rfl⟩ | refine And.intro ?_ ?_)
  · repeat' (first | exact rfl | exact trivial | exact ⟨_, rfl⟩ | exact ⟨rfl, rfl, rfl⟩ | refine And.intro ?_ ?_)
  conv => whnf
  skip
  refine ⟨[301], ?_⟩
  conv => whnf
  refine ⟨_, _, _, _, _, polysr_g 301 302 (by decide) ds hd hmd (natB (2 * n) ++ polysB es) hl2, ?_, ?_, bchk_iff.2 ⟨rfl, ?_⟩⟩
  · repeat' (first | exact rfl | exact trivial | exact ⟨_, rfl⟩ | exact ⟨rfl, rfl, rfl⟩ | refine And.intro ?_ ?_)
  · repeat' (first | exact rfl | exact trivial | exact ⟨_, rfl⟩ | exact ⟨rfl, rfl, rfl⟩ | refine And.intro ?_ ?_)
  conv => whnf
  skip
  refine ⟨[302], ?_⟩
  conv => whnf
  repeat' (first | exact rfl | exact trivial | exact ⟨_, rfl⟩ | exact ⟨rfl, rfl, rfl⟩ | refine And.intro ?_ ?_)
theorem bytes_eq (a b : List UInt8) : (((⟨a.toArray⟩ : ByteArray).toList == (⟨b.toArray⟩ : ByteArray).toList)) = decide (a = b) := by
  rw [bytes_beq]
  by_cases e : a = b
  · subst e; simp
  · rw [decide_eq_false e, decide_eq_false]
    intro h
    apply e
    have := congrArg (fun x : ByteArray => x.data.toList) h
    simpa using this
/-- A core that may be told. -/
structure Kk (n : Nat) (es ds : List Pl) : Prop where
  a : n < 64
  e : es.length ≤ 1000000
  d : ds.length ≤ 1000000
  me : ∀ p ∈ es, Pm p
  md : ∀ p ∈ ds, Pm p
  l : (coreB n es ds).length ≤ 1000000000000
theorem samecore_spec (n m : Nat) (es ds fs gs : List Pl) (h : Kk n es ds) (k : Kk m fs gs) :
    FSpec Tryz.prog 20 [sysC n es ds, sysC m fs gs] (.v (.bool (decide (coreB n es ds = coreB m fs gs)))) := by
  have c1 := corer_spec n es ds h.a h.e h.d h.me h.md h.l
  have c2 := corer_spec m fs gs k.a k.e k.d k.me k.md k.l
  refine FSpec.intro ok [] Tryz.func20 rfl rfl (m := 12) rfl ?_
  conv => whnf
  repeat (refine anyA (by decide +kernel) ?_; conv => whnf)
  refine .inl ?_
  conv => whnf
  repeat (refine ⟨_, rfl, rfl, ?_⟩; conv => whnf)
  refine ⟨_, _, c1, SubL.le (by repeat' (first | exact rfl | exact trivial | exact ⟨_, rfl⟩ | exact ⟨rfl, rfl, rfl⟩ | refine And.intro ?_ ?_)), ?_⟩
  conv => whnf
  skip
  refine ⟨coreB n es ds, rfl, ?_⟩
  conv => whnf
  skip
  refine .inl ?_
  conv => whnf
  repeat (refine ⟨_, rfl, rfl, ?_⟩; conv => whnf)
  refine ⟨_, _, c2, SubL.le (by repeat' (first | exact rfl | exact trivial | exact ⟨_, rfl⟩ | exact ⟨rfl, rfl, rfl⟩ | refine And.intro ?_ ?_)), ?_⟩
  conv => whnf
  skip
  refine ⟨coreB m fs gs, rfl, ?_⟩
  conv => whnf
  skip
  rw [bytes_eq]
  repeat' (first | exact rfl | exact trivial | exact ⟨_, rfl⟩ | exact ⟨rfl, rfl, rfl⟩ | refine And.intro ?_ ?_)
end Go.Proofs.YtbhnankggcfndaaGreat
namespace Go.Proofs.YtbhnankggcfndaaGreat
open El
set_option maxRecDepth 10000
set_option maxHeartbeats 4000000
/-! ### Sums, reckoned by a number of steps -/
def addF : Nat → Pl → Pl → Pl
  | 0, p, q => p ++ q
  | _ + 1, [], q => q
  | _ + 1, a :: p, [] => a :: p
  | f + 1, a :: p, b :: q => if 0 < cmpM a.2 b.2 then a :: addF f p (b :: q) else if cmpM a.2 b.2 < 0 then b :: addF f (a :: p) q else if a.1 + b.1 ≠ 0 then (a.1 + b.1, a.2) :: addF f p q else addF f p q
theorem addF_eq : ∀ (f : Nat) (p q : Pl), p.length + q.length ≤ f → addF f p q = addP p q
  | 0, p, q, h => by
    have h1 : p = [] := List.eq_nil_of_length_eq_zero (by omega)
    have h2 : q = [] := List.eq_nil_of_length_eq_zero (by omega)
    subst h1; subst h2
    rw [addP_nil]
    rfl
  | f + 1, [], q, _ => by rw [addP_nil]; rfl
  | f + 1, a :: p, [], _ => by rw [addP_nil']; rfl
  | f + 1, a :: p, b :: q, h => by
    simp only [List.length_cons] at h
    rw [addP, addF, addF_eq f p (b :: q) (by simp only [List.length_cons]; omega), addF_eq f (a :: p) q (by simp only [List.length_cons]; omega), addF_eq f p q (by omega)]
theorem addP_F (p q : Pl) : addP p q = addF (p.length + q.length) p q := (addF_eq _ p q (Nat.le_refl _)).symm
theorem addF_len : ∀ (f : Nat) (p q : Pl), (addF f p q).length ≤ p.length + q.length
  | 0, p, q => by rw [addF, List.length_append]; exact Nat.le_refl _
  | f + 1, [], q => by rw [addF]; omega
  | f + 1, a :: p, [] => by rw [addF]; simp
  | f + 1, a :: p, b :: q => by
    have h1 := addF_len f p (b :: q)
    have h2 := addF_len f (a :: p) q
    have h3 := addF_len f p q
    simp only [List.length_cons] at h1 h2
    rw [addF]
    split
    · simp only [List.length_cons]; omega
    · split
      · simp only [List.length_cons]; omega
      · split
        · simp only [List.length_cons]; omega
        · simp only [List.length_cons]; omega
theorem addP_len (p q : Pl) : (addP p q).length ≤ p.length + q.length := by rw [addP_F]; exact addF_len _ p q
/-- Coefficients that are small whole numbers, and no 0. -/
def Sml (B : Nat) (p : Pl) : Prop := ∀ t ∈ p, (∃ z : Int, t.1 = (z : Rat) ∧ z ≠ 0 ∧ z.natAbs ≤ B) ∧ Mv t.2
theorem Sml.nil (B : Nat) : Sml B [] := fun t h => absurd h (by simp)
theorem Sml.le {B C : Nat} (h : B ≤ C) {p : Pl} (hp : Sml B p) : Sml C p := fun t ht => by
  obtain ⟨⟨z, h1, h2, h3⟩, h4⟩ := hp t ht
  exact ⟨⟨z, h1, h2, by omega⟩, h4⟩
theorem Sml.cons {B : Nat} {a : Tm} {p : Pl} : Sml B (a :: p) ↔ ((∃ z : Int, a.1 = (z : Rat) ∧ z ≠ 0 ∧ z.natAbs ≤ B) ∧ Mv a.2) ∧ Sml B p :=
  ⟨fun h => ⟨h a (List.mem_cons_self ..), fun t ht => h t (List.mem_cons_of_mem _ ht)⟩, fun h t ht => by
    rcases List.mem_cons.1 ht with rfl | ht
    · exact h.1
    · exact h.2 t ht⟩
theorem addF_sml {B C : Nat} : ∀ (f : Nat) (p q : Pl), Sml B p → Sml C q → Sml (B + C) (addF f p q)
  | 0, p, q, hp, hq => by
    rw [addF]
    intro t ht
    rcases List.mem_append.1 ht with h | h
    · exact (hp.le (by omega)) t h
    · exact (hq.le (by omega)) t h
  | f + 1, [], q, hp, hq => by rw [addF]; exact hq.le (by omega)
  | f + 1, a :: p, [], hp, hq => by rw [addF]; exact hp.le (by omega)
  | f + 1, a :: p, b :: q, hp, hq => by
    have hp1 := Sml.cons.1 hp
    have hq1 := Sml.cons.1 hq
    have h1 := addF_sml f p (b :: q) hp1.2 hq
    have h2 := addF_sml f (a :: p) q hp hq1.2
    have h3 := addF_sml f p q hp1.2 hq1.2
    obtain ⟨⟨⟨z, z1, z2, z3⟩, z4⟩, _⟩ := hp1
    obtain ⟨⟨⟨y, y1, y2, y3⟩, y4⟩, _⟩ := hq1
    rw [addF]
    split
    · exact Sml.cons.2 ⟨⟨⟨z, z1, z2, by omega⟩, z4⟩, h1⟩
    · split
      · exact Sml.cons.2 ⟨⟨⟨y, y1, y2, by omega⟩, y4⟩, h2⟩
      · split
        · rename_i hne
          refine Sml.cons.2 ⟨⟨⟨z + y, by simp [z1, y1], ?_, by omega⟩, z4⟩, h3⟩
          intro e
          apply hne
          rw [z1, y1, ← Rat.intCast_add, e]
          rfl
        · exact h3
theorem addP_sml {B C : Nat} {p q : Pl} (hp : Sml B p) (hq : Sml C q) : Sml (B + C) (addP p q) := by rw [addP_F]; exact addF_sml _ p q hp hq
theorem Sml.ps {B : Nat} {p : Pl} (h : Sml B p) (hB : B < 32768) (hl : p.length ≤ 1000000) : Ps p := by
  refine ⟨hl, fun t ht => ?_⟩
  obtain ⟨⟨z, h1, h2, h3⟩, h4⟩ := h t ht
  rw [h1]
  exact ⟨by show ((z : Rat)).num.natAbs < 32768; rw [Rat.num_intCast]; omega, by show ((z : Rat)).den < 32768; rw [Rat.den_intCast]; decide⟩
theorem Sml.pm {B : Nat} {p : Pl} (h : Sml B p) (hl : p.length ≤ 1000000) : Pm p := ⟨hl, fun t ht => (h t ht).2⟩
end Go.Proofs.YtbhnankggcfndaaGreat
namespace Go.Proofs.YtbhnankggcfndaaGreat
open El
set_option maxRecDepth 10000
set_option maxHeartbeats 4000000
theorem subP_F (p q : Pl) : subP p q = addF (p.length + (scaleP (-1) zeroM q).length) p (scaleP (-1) zeroM q) := addP_F _ _
/-! ### What is asked of polynomials and cores -/
def qsB (q : Rat) : Bool := decide (q.num.natAbs < Bd) && decide (q.den < Bd)
def psB (p : Pl) : Bool := decide (p.length ≤ 1000000) && p.all fun t => qsB t.1
def pmB (p : Pl) : Bool := decide (p.length ≤ 1000000) && p.all fun t => mvB t.2
def nkB (p : Pl) : Bool := psB p && pmB p && (decide (p.length = 0) || decide ((p.getD 0 dT).1 ≠ 0)) && decide (lcmTo p p.length < Bd) && psB (normP p)
theorem psB_of {p : Pl} (h : psB p = true) : Ps p := by
  simp only [psB, Bool.and_eq_true, decide_eq_true_eq, List.all_eq_true] at h
  refine ⟨h.1, fun t ht => ?_⟩
  have := h.2 t ht
  simp only [qsB, Bool.and_eq_true, decide_eq_true_eq] at this
  exact this
theorem pmB_of {p : Pl} (h : pmB p = true) : Pm p := by
  simp only [pmB, Bool.and_eq_true, decide_eq_true_eq, List.all_eq_true] at h
  exact ⟨h.1, fun t ht => mvB_iff.1 (h.2 t ht)⟩
theorem nkB_of {p : Pl} (h : nkB p = true) : Nk p := by
  simp only [nkB, Bool.and_eq_true, Bool.or_eq_true, decide_eq_true_eq] at h
  obtain ⟨⟨⟨⟨h1, h2⟩, h3⟩, h4⟩, h5⟩ := h
  exact ⟨⟨psB_of h1, pmB_of h2, fun hn => h3.resolve_left hn, h4⟩, psB_of h5⟩
theorem nkL_of {l : List Pl} (h : l.all nkB = true) : ∀ p ∈ l, Nk p := fun p hp => nkB_of (List.all_eq_true.1 h p hp)
def permOkB (pm : Mo) : Bool := (List.range 8).all fun i => decide (pm.at i < 8) && (List.range 8).all fun j => decide (pm.at i ≠ pm.at j) || decide (i = j)
theorem permOkB_of {pm : Mo} (h : permOkB pm = true) : PermOk pm := by
  simp only [permOkB, List.all_eq_true, List.mem_range, Bool.and_eq_true, Bool.or_eq_true, decide_eq_true_eq] at h
  exact ⟨fun i hi => (h i hi).1, fun i j hi hj e => ((h i hi).2 j hj).resolve_left fun hn => hn e⟩
def dstB : Pl → Bool
  | [] => true
  | a :: p => (p.all fun b => decide (a.2 ≠ b.2)) && dstB p
theorem dstB_of : ∀ {p : Pl}, dstB p = true → Dst p
  | [], _ => List.Pairwise.nil
  | a :: p, h => by
    simp only [dstB, Bool.and_eq_true, List.all_eq_true, decide_eq_true_eq] at h
    exact List.pairwise_cons.2 ⟨h.1, dstB_of h.2⟩
def pkB (pm : Mo) (p : Pl) : Bool := pmB p && (p.all fun t => decide (t.1 ≠ 0)) && dstB (p.map (permT pm))
theorem pkB_of {pm : Mo} {p : Pl} (h : pkB pm p = true) : Pk pm p := by
  simp only [pkB, Bool.and_eq_true, List.all_eq_true, decide_eq_true_eq] at h
  obtain ⟨⟨h1, h2⟩, h3⟩ := h
  exact ⟨(pmB_of h1).2, h2, dstB_of h3, (pmB_of h1).1⟩
def ckB (n : Nat) (pm : Mo) (es ds : List Pl) : Bool :=
  decide (n ≤ 1000000) && permOkB pm && decide (es.length ≤ 1000) && decide (ds.length ≤ 1000) && es.all (pkB pm) && ds.all (pkB pm) && (es.all fun p => nkB (permP pm p)) && (ds.all fun p => nkB (permP pm p)) &&
    !badS n (es.map (permP pm)) (ds.map (permP pm)) && decide ((eqsN (es.map (permP pm)) (ds.map (permP pm))).length ≤ 12) && decide ((neqsN (ds.map (permP pm))).length ≤ 12)
theorem ckB_of {n : Nat} {pm : Mo} {es ds : List Pl} (h : ckB n pm es ds = true) : Ck n pm es ds := by
  simp only [ckB, Bool.and_eq_true, List.all_eq_true, decide_eq_true_eq, Bool.not_eq_true'] at h
  obtain ⟨⟨⟨⟨⟨⟨⟨⟨⟨⟨h1, h2⟩, h3⟩, h4⟩, h5⟩, h6⟩, h7⟩, h8⟩, h9⟩, h10⟩, h11⟩ := h
  exact ⟨h1, permOkB_of h2, h3, h4, fun p hp => pkB_of (h5 p hp), fun p hp => pkB_of (h6 p hp), fun p hp => nkB_of (h7 p hp), fun p hp => nkB_of (h8 p hp), h9, h10, h11⟩
theorem natB_ne (n : Nat) : natB n ≠ [] := by
  unfold natB natBf
  split <;> simp
theorem keyB_ne {n : Nat} {es ds : List Pl} (h : coreV n es ds = true) : keyB n es ds ≠ .empty := by
  rw [keyB, if_pos h]
  intro e
  have h1 := congrArg (fun x : ByteArray => x.data.toList) e
  simp only at h1
  have h2 : coreB n es ds = [] := by simpa using h1
  unfold coreB at h2
  exact natB_ne _ (List.append_eq_nil_iff.1 h2).1
def lkB (n : Nat) (es ds : List Pl) (pm : Mo) : Bool :=
  ckB n pm es ds && (pE pm es ds).all nkB && (pD pm ds).all nkB && decide ((coreB n (pE pm es ds) (pD pm ds)).length ≤ 1000000000000) && coreV n (pE pm es ds) (pD pm ds)
theorem lkB_of {n : Nat} {es ds : List Pl} {pm : Mo} (h : lkB n es ds pm = true) : Lk n es ds pm := by
  simp only [lkB, Bool.and_eq_true, decide_eq_true_eq] at h
  obtain ⟨⟨⟨⟨h1, h2⟩, h3⟩, h4⟩, h5⟩ := h
  exact ⟨ckB_of h1, nkL_of h2, nkL_of h3, h4, keyB_ne h5⟩
def rkB (n : Nat) (es ds : List Pl) : Nat → Nat → Mo → Bool
  | 0, _, pm => lkB n es ds pm
  | d + 1, i, pm => (List.range (d + 1)).all fun k => rkB n es ds d (i + 1) (rotF pm i (i + k))
theorem rkB_of {n : Nat} {es ds : List Pl} : ∀ {d i : Nat} {pm : Mo}, rkB n es ds d i pm = true → Rk n es ds d i pm
  | 0, _, _, h => lkB_of h
  | d + 1, i, pm, h => fun k hk => rkB_of (List.all_eq_true.1 h k (List.mem_range.2 hk))
def kkB (n : Nat) (es ds : List Pl) : Bool := decide (n < 64) && decide (es.length ≤ 1000000) && decide (ds.length ≤ 1000000) && es.all pmB && ds.all pmB && decide ((coreB n es ds).length ≤ 1000000000000)
theorem kkB_of {n : Nat} {es ds : List Pl} (h : kkB n es ds = true) : Kk n es ds := by
  simp only [kkB, Bool.and_eq_true, List.all_eq_true, decide_eq_true_eq] at h
  obtain ⟨⟨⟨⟨⟨h1, h2⟩, h3⟩, h4⟩, h5⟩, h6⟩ := h
  exact ⟨h1, h2, h3, fun p hp => pmB_of (h4 p hp), fun p hp => pmB_of (h5 p hp), h6⟩
/-! ### The examples' polynomials -/
def mo2 (a b : Nat) : Mo := ⟨a, b, 0, 0, 0, 0, 0, 0⟩
def tm (c : Int) (a b : Nat) : Pl := [((c : Rat), mo2 a b)]
def xLess : Pl := [(1, mo2 1 0), (-1, mo2 0 0)]
def xA : Pl := [(2, mo2 1 0), (-4, mo2 0 0)]
def xB : Pl := [(-1, mo2 1 0), (2, mo2 0 0)]
def xC : Pl := addF 2 (tm 1 1 0) (tm 1 0 2)
def xD : Pl := [(1, mo2 0 1), (-1, mo2 0 0)]
def xE : Pl := addF 2 (tm 1 2 0) (tm 1 0 1)
def xF : Pl := [(1, mo2 1 0), (-2, mo2 0 0)]
theorem x_less : subP (tm 1 1 0) (tm 1 0 0) = xLess := by rw [subP_F]; decide +kernel
theorem x_a : subP (tm 2 1 0) (tm 4 0 0) = xA := by rw [subP_F]; decide +kernel
theorem x_b : subP (tm 2 0 0) (tm 1 1 0) = xB := by rw [subP_F]; decide +kernel
theorem x_d : subP (tm 1 0 1) (tm 1 0 0) = xD := by rw [subP_F]; decide +kernel
theorem x_f : subP (tm 1 1 0) (tm 2 0 0) = xF := by rw [subP_F]; decide +kernel
theorem x_c : addP (tm 1 1 0) (tm 1 0 2) = xC := addP_F _ _
theorem x_e : addP (tm 1 2 0) (tm 1 0 1) = xE := addP_F _ _
theorem n_one : (tidyP [conP 1] : List Pl) = [tm 1 0 0] := by decide +kernel
theorem n_k1 : badS 1 [xA, [], xB] [tm 3 0 0] = false := by decide +kernel
theorem n_k2 : eqsN [xA, [], xB] [tm 3 0 0] = [xF] := by decide +kernel
theorem n_k3 : neqsN [tm 3 0 0] = [] := by decide +kernel
theorem n_k4 : ([xA, [], xB].all nkB && [tm 3 0 0].all nkB) = true := by decide +kernel
theorem n_m1 : badS 2 [] [[]] = false := by decide +kernel
theorem n_m2 : eqsN [] [[]] = [tm 1 0 0] := by decide +kernel
theorem n_m3 : neqsN [[]] = [] := by decide +kernel
theorem n_m4 : ([[]] : List Pl).all nkB = true := by decide +kernel
theorem n_g1 : badS 1 [tm 1 0 1] [] = true := by decide +kernel
theorem n_g4 : [tm 1 0 1].all nkB = true := by decide +kernel
theorem n_c1 : rkB 2 [xLess, xC] [] 2 0 idM = true := by decide +kernel
theorem n_c2 : (tryS 2 [xLess, xC] [] 2 0 idM none).map (fun b => (b.es, b.ds, b.pm)) = some ([xD, xE], [], ⟨1, 0, 2, 3, 4, 5, 6, 7⟩) := by decide +kernel
theorem n_s1 : kkB 2 [xD, xE] [] = true := by decide +kernel
theorem n_s2 : kkB 1 [xF] [] = true := by decide +kernel
theorem n_s3 : kkB 2 [tm 1 0 0] [] = true := by decide +kernel
theorem n_v1 : validS ⟨[], [], [], 1⟩ = true := by decide +kernel
theorem n_v2 : validS ⟨[], [], [], 0⟩ = false := by decide +kernel
end Go.Proofs.YtbhnankggcfndaaGreat
namespace Go.Proofs.YtbhnankggcfndaaGreat
open El Go
set_option maxRecDepth 10000
set_option maxHeartbeats 2000000
def PmKv (v : Value) : Prop := ∃ l, keyOf Tryz.prog 44 v = some l
theorem perm_law : WideMaps.KeyLaw Tryz.prog 44 :=
  deep_law_laid (by kernel_rfl) (m := 2) (by decide) (by decide +kernel) (by kernel_rfl) (by kernel_rfl)
theorem PmKv.agg {v : Value} (h : PmKv v) : ∃ p, v = .agg p := by
  obtain ⟨l, h⟩ := h
  simp only [keyOf, Tryz.underlying44] at h
  split at h
  · rename_i hf
    simp only [Bool.and_eq_true] at hf
    have hf := hf.2
    cases v <;> first | exact ⟨_, rfl⟩ | (simp [Value.formed, Tryz.underlying44] at hf)
  · cases h
theorem perm_eq : EqLaw Tryz.prog 44 PmKv where
  guard w op a b x y hx hy := by
    have hg : Tryz.prog.eqGuardType Tryz.prog.depth 44 = false := by kernel_rfl
    obtain ⟨p, rfl⟩ := hx.agg
    obtain ⟨q, rfl⟩ := hy.agg
    cases op <;> simp [eqGuard, hg]
  eq w x y hx hy := by
    obtain ⟨l1, h1⟩ := hx
    obtain ⟨l2, h2⟩ := hy
    obtain ⟨r, hr, hi⟩ := run_equal_deep (P := Tryz.prog) w (m := 2) (by decide) (k := 44) (by kernel_rfl) (by kernel_rfl) h1 h2
    refine ⟨r, hr, hi.trans ⟨fun e => ?_, fun e => ?_⟩⟩
    · subst e; exact perm_law.inj h1 h2
    · subst e; rw [h1] at h2; cases h2; rfl
theorem pm_key (m : Mo) (h : ∀ i, m.at i < 9223372036854775808) : PmKv (moV m) := by
  have ht : Tryz.prog.keyType 44 = true := by kernel_rfl
  have hc : Tryz.prog.cellsOf 44 = 8 := by kernel_rfl
  have hc3 : Tryz.prog.cellsOf 3 = 1 := by kernel_rfl
  have hpos : 0 < Tryz.prog.types.size := by decide +kernel
  obtain ⟨z, hz⟩ : ∃ z, Tryz.prog.types.size = z + 1 := ⟨Tryz.prog.types.size - 1, by omega⟩
  have w : ∀ n : Nat, n < 9223372036854775808 → (Lit.int .i64 (n : Int)).wf = true := fun n h => by
    simp [Lit.wf, IntKind.min, IntKind.max, IntKind.signed, IntKind.bits]
    omega
  have h0 := w m.a0 (h 0)
  have h1 := w m.a1 (h 1)
  have h2 := w m.a2 (h 2)
  have h3 := w m.a3 (h 3)
  have h4 := w m.a4 (h 4)
  have h5 := w m.a5 (h 5)
  have h6 := w m.a6 (h 6)
  have h7 := w m.a7 (h 7)
  unfold PmKv
  simp only [keyOf, Tryz.underlying44]
  have hf : (moV m).formed Tryz.prog 44 = true := by
    simp [moV, Value.formed, Tryz.underlying44, hc]
  rw [ht, hf, hz]
  simp only [Bool.and_self, if_true]
  have hr : List.range 8 = [0, 1, 2, 3, 4, 5, 6, 7] := by decide
  simp [Program.keyLits, Tryz.underlying44, hc, hc3, hr, moV, Value.cells, Tryz.underlying3, h0, h1, h2, h3, h4, h5, h6, h7]
end Go.Proofs.YtbhnankggcfndaaGreat
namespace Go.Proofs.YtbhnankggcfndaaGreat
open El
set_option maxRecDepth 10000
set_option maxHeartbeats 8000000
theorem con_one : conP ((1 : Int) : Rat) = [(1, zeroM)] := by decide +kernel
theorem mulM_zero (m : Mo) : mulM m zeroM = m := by
  refine Mo.eq_of_at fun i hi => ?_
  rw [mulM_at]
  have : zeroM.at i = 0 := by
    match i, hi with
    | 0, _ => rfl
    | 1, _ => rfl
    | 2, _ => rfl
    | 3, _ => rfl
    | 4, _ => rfl
    | 5, _ => rfl
    | 6, _ => rfl
    | 7, _ => rfl
  omega
theorem tm_scale (c : Int) (a b : Nat) : scaleP (c : Rat) (mo2 a b) [(1, zeroM)] = tm c a b := by
  simp [scaleP, tm, Rat.mul_one, mulM_zero]
theorem mo2_v {a b : Nat} (ha : a ≤ 65535) (hb : b ≤ 65535) : Mv (mo2 a b) := by
  intro i
  rcases Nat.lt_or_ge i 8 with h | h
  · match i, h with
    | 0, _ => exact ha
    | 1, _ => exact hb
    | 2, _ => exact Nat.zero_le _
    | 3, _ => exact Nat.zero_le _
    | 4, _ => exact Nat.zero_le _
    | 5, _ => exact Nat.zero_le _
    | 6, _ => exact Nat.zero_le _
    | 7, _ => exact Nat.zero_le _
  · rw [Mo.at_big _ h]; omega
theorem qs_int {c : Int} (h : c.natAbs < 32768) : Qs (c : Rat) := ⟨by show ((c : Rat)).num.natAbs < 32768; rw [Rat.num_intCast]; exact h, by show ((c : Rat)).den < 32768; rw [Rat.den_intCast]; decide⟩
theorem term_spec (c : Int) (a b : Nat) (h0 : c ≠ 0) (hc : c.natAbs < 32768) (ha : a ≤ 65535) (hb : b ≤ 65535) :
    FSpec Tryz.prog 40 [.v (.int .i64 c), i64n a, i64n b] (encP (tm c a b)) := by
  have ht := ptimes_ref (c : Rat) (mo2 a b) [(1, zeroM)] (qs_int hc) (by simpa using h0) (psB_of (by decide +kernel)) (mo2_v ha hb) (pmB_of (by decide +kernel)) (fun t ht => by
    simp at ht
    subst ht
    rw [mulM_zero]
    exact mo2_v ha hb)
  rw [tm_scale] at ht
  have h1 := constant_ref ((1 : Int) : Rat)
  rw [con_one] at h1
  refine FSpec.intro ok [] Tryz.func40 rfl rfl (m := 18) rfl ?_
  conv => whnf
  skip
  refine ⟨_, _, whole_ref c (by omega) (by omega), SubL.le (by repeat' (first | exact rfl | exact trivial | exact ⟨_, rfl⟩ | exact ⟨rfl, rfl, rfl⟩ | refine And.intro ?_ ?_)), ?_⟩
  conv => whnf
  skip
  refine ⟨_, _, whole_ref 1 (by decide) (by decide), SubL.le (by repeat' (first | exact rfl | exact trivial | exact ⟨_, rfl⟩ | exact ⟨rfl, rfl, rfl⟩ | refine And.intro ?_ ?_)), ?_⟩
  conv => whnf
  skip
  refine ⟨_, _, h1, SubL.le (by repeat' (first | exact rfl | exact trivial | exact ⟨_, rfl⟩ | exact ⟨rfl, rfl, rfl⟩ | refine And.intro ?_ ?_)), ?_⟩
  conv => whnf
  skip
  refine ⟨_, _, ht, SubL.le (by repeat' (first | exact rfl | exact trivial | exact ⟨_, rfl⟩ | exact ⟨rfl, rfl, rfl⟩ | refine And.intro ?_ ?_)), ?_⟩
  conv => whnf
  repeat (refine ⟨_, (rfl : (_ : List C)[_]? = some _), ?_⟩; conv => whnf)
  repeat' (first | exact rfl | exact trivial | exact ⟨_, rfl⟩ | exact ⟨rfl, rfl, rfl⟩ | refine And.intro ?_ ?_)
theorem t_ps (c : Int) (a b : Nat) (hc : c.natAbs < 32768) : Ps (tm c a b) := ⟨by show 1 ≤ 1000000; decide, fun t ht => by simp [tm] at ht; subst ht; exact qs_int hc⟩
theorem t_pm (c : Int) (a b : Nat) (ha : a ≤ 65535) (hb : b ≤ 65535) : Pm (tm c a b) := ⟨by show 1 ≤ 1000000; decide, fun t ht => by simp [tm] at ht; subst ht; exact mo2_v ha hb⟩
theorem xsub_spec (c : Int) (a b : Nat) (d : Int) (e f : Nat) (h1 : c.natAbs < 32768) (h2 : d.natAbs < 32768) (h3 : e ≤ 65535) (h4 : f ≤ 65535) : FSpec Tryz.prog 39 [encP (tm c a b), encP (tm d e f)] (encP (subP (tm c a b) (tm d e f))) :=
  psub_ref _ _ (t_ps c a b h1) (t_ps d e f h2) (t_pm d e f h3 h4)
theorem xadd_spec (c : Int) (a b : Nat) (d : Int) (e f : Nat) (h1 : c.natAbs < 32768) (h2 : d.natAbs < 32768) : FSpec Tryz.prog 41 [encP (tm c a b), encP (tm d e f)] (encP (addP (tm c a b) (tm d e f))) :=
  padd_ref _ _ (t_ps c a b h1) (t_ps d e f h2)
theorem ex_k : FSpec Tryz.prog 12 [.v (.int .i64 (1 : Nat)), encL [xA, [], xB], encL [tm 3 0 0]] (.tup [sysC 1 [xF] [], .v (.int .i64 0)]) := by
  have h := n_k4
  simp only [Bool.and_eq_true] at h
  have hN := sysnormal_spec 1 [xA, [], xB] [tm 3 0 0] (by decide) (by decide) (by decide) (nkL_of h.1) (nkL_of h.2)
  rwa [normR_ok n_k1 (by rw [n_k2]; decide) (by rw [n_k3]; decide), n_k2, n_k3] at hN
theorem ex_m : FSpec Tryz.prog 12 [.v (.int .i64 (2 : Nat)), encL [], encL [[]]] (.tup [sysC 2 [tm 1 0 0] [], .v (.int .i64 0)]) := by
  have hN := sysnormal_spec 2 [] [[]] (by decide) (by decide) (by decide) (fun p hp => absurd hp (by simp)) (nkL_of n_m4)
  rwa [normR_ok n_m1 (by rw [n_m2]; decide) (by rw [n_m3]; decide), n_m2, n_m3] at hN
theorem ex_g : FSpec Tryz.prog 12 [.v (.int .i64 (1 : Nat)), encL [tm 1 0 1], encL []] (.tup [zeroS, .v (.int .i64 1)]) := by
  have hN := sysnormal_spec 1 [tm 1 0 1] [] (by decide) (by decide) (by decide) (nkL_of n_g4) (fun p hp => absurd hp (by simp))
  rwa [normR, if_pos n_g1] at hN
theorem sk0 (n : Int) : Sk ⟨[], [], [], n⟩ := ⟨Nat.zero_le _, Nat.zero_le _, Nat.zero_le _, fun t h => absurd h (by simp), fun t h => absurd h (by simp), fun t h => absurd h (by simp), fun t h => absurd h (by simp), fun t h => absurd h (by simp)⟩
theorem ex_h : FSpec Tryz.prog 21 [encS ⟨[], [], [], 0⟩] (.tup [zeroS, .v (.int .i64 320)]) := by
  have h := syscore_spec ⟨[], [], [], 0⟩ (sk0 0) (fun q h => absurd h (by simp)) (fun q h => absurd h (by simp))
  rwa [coreR, if_neg (by rw [n_v2]; decide)] at h
theorem ex_c : FSpec Tryz.prog 18 [sysC 2 [xLess, xC] []] (.tup [sysC 2 [xD, xE] [], .agg (mc ⟨1, 0, 2, 3, 4, 5, 6, 7⟩)]) := by
  obtain ⟨x, hx⟩ := tryS_some (n := 2) (es := [xLess, xC]) (ds := []) 2 0 idM none
  have h := canon_spec 2 [xLess, xC] [] (by decide) (by decide) (by decide) (rkB_of n_c1) x hx
  have h2 := n_c2
  rw [hx] at h2
  simp only [Option.map_some, Option.some.injEq, Prod.mk.injEq] at h2
  rw [h2.1, h2.2.1, h2.2.2] at h
  exact h
theorem ex_v1 : FSpec Tryz.prog 28 [encS ⟨[], [], [], 1⟩] (.v (.bool true)) := by
  have h := sysvalid_spec ⟨[], [], [], 1⟩ (sk0 1)
  rwa [n_v1] at h
theorem ex_v2 : FSpec Tryz.prog 28 [encS ⟨[], [], [], 0⟩] (.v (.bool false)) := by
  have h := sysvalid_spec ⟨[], [], [], 0⟩ (sk0 0)
  rwa [n_v2] at h
theorem same_self (n : Nat) (es ds : List Pl) (h : Kk n es ds) : FSpec Tryz.prog 20 [sysC n es ds, sysC n es ds] (.v (.bool true)) := by
  have h1 := samecore_spec n n es ds es ds h h
  rwa [decide_eq_true rfl] at h1
/-! ### Cells that read as others -/
theorem FSpec_sub {P : Go.Program} {f : Nat} {ds args : List C} {r : C} (h : FSpec P f args r) (hs : SubL ds args) : FSpec P f ds r := ⟨h.1, fun w S vs hS ha => h.2 w S vs hS (hs w S noN vs ha)⟩
theorem sl_sub {w : Go.World} {S : Nat → Prop} {b b' : Names} {E k n : Nat} {full : Bool} {cs cs' : List C} {v : Go.Value} (hl : cs'.length = cs.length) (h : ∀ vs, RdL w S noN cs vs → RdL w S noN cs' vs) (hv : Rd w S b (.sl E k n full cs) v) : Rd w S b' (.sl E k n false cs') v := by
  simp only [Rd] at hv ⊢
  obtain ⟨A, c, h1, h2, h3, h4, h5, h6⟩ := hv
  refine ⟨A, c, h1, h2, h3, (fun h => by cases h), (by rw [hl]; exact h5), ?_⟩
  rcases h6 with h6 | ⟨g, off, arr, fr, g1, g2, g3, g4⟩
  · exact .inl h6
  · exact .inr ⟨g, off, arr, fr, g1, g2, g3, h _ g4⟩
theorem nil_sub {w : Go.World} {S : Nat → Prop} {b b' : Names} {E k : Nat} {full : Bool} {v : Go.Value} (hv : Rd w S b (.sl E k 0 full []) v) : Rd w S b' (.sl E k 0 false []) v := sl_sub rfl (fun vs h => h) hv
def nilP : C := .sl 118 12 0 true []
theorem ex_k2 : FSpec Tryz.prog 12 [.v (.int .i64 (1 : Nat)), .sl 65 1 3 true [encP xA, nilP, encP xB], encL [tm 3 0 0]] (.tup [sysC 1 [xF] [], .v (.int .i64 0)]) := by
  have e1 : encL [xA, [], xB] = .sl 65 1 3 false [encP xA, .sl 118 12 0 false [], encP xB] := rfl
  refine FSpec_sub ex_k fun w S b vs h => ?_
  rw [e1]
  match vs, h with
  | [u, v, x], h =>
    simp only [RdL] at h ⊢
    refine ⟨h.1, sl_sub (by rfl) (fun ws h => ?_) h.2.1, (h.2.2.1.keep (fun _ _ hn => ⟨rfl, hn⟩) (fun _ _ h => h)).anyNames rfl, trivial⟩
    match ws, h with
    | [p, q, s], h =>
      simp only [RdL] at h
      exact ⟨h.1, nil_sub h.2.1, h.2.2.1, trivial⟩
theorem ex_m2 : FSpec Tryz.prog 12 [.v (.int .i64 (2 : Nat)), encL [], .sl 65 1 1 true [nilP]] (.tup [sysC 2 [tm 1 0 0] [], .v (.int .i64 0)]) := by
  have e1 : encL [[]] = .sl 65 1 1 false [.sl 118 12 0 false []] := rfl
  refine FSpec_sub ex_m fun w S b vs h => ?_
  rw [e1]
  match vs, h with
  | [u, v, x], h =>
    simp only [RdL] at h ⊢
    refine ⟨h.1, (h.2.1.keep (fun _ _ hn => ⟨rfl, hn⟩) (fun _ _ h => h)).anyNames rfl, sl_sub (by rfl) (fun ws h => ?_) h.2.2.1, trivial⟩
    match ws, h with
    | [p], h =>
      simp only [RdL] at h
      exact ⟨nil_sub h.1, trivial⟩
theorem px_lt : ∀ i, (⟨1, 0, 2, 3, 4, 5, 6, 7⟩ : Mo).at i < 9223372036854775808 := by
  intro i
  rcases Nat.lt_or_ge i 8 with h | h
  · match i, h with
    | 0, _ => decide
    | 1, _ => decide
    | 2, _ => decide
    | 3, _ => decide
    | 4, _ => decide
    | 5, _ => decide
    | 6, _ => decide
    | 7, _ => decide
  · rw [Mo.at_big _ h]; omega
theorem examples_spec : FSpec Tryz.prog 10 [] (.v (.bool true)) := by
  have s1 := xsub_spec 1 1 0 1 0 0 (by decide) (by decide) (by decide) (by decide)
  rw [x_less] at s1
  have s2 := xsub_spec 2 1 0 4 0 0 (by decide) (by decide) (by decide) (by decide)
  rw [x_a] at s2
  have s3 := xsub_spec 2 0 0 1 1 0 (by decide) (by decide) (by decide) (by decide)
  rw [x_b] at s3
  have s4 := xsub_spec 1 0 1 1 0 0 (by decide) (by decide) (by decide) (by decide)
  rw [x_d] at s4
  have s5 := xsub_spec 1 1 0 2 0 0 (by decide) (by decide) (by decide) (by decide)
  rw [x_f] at s5
  have a1 := xadd_spec 1 1 0 1 0 2 (by decide) (by decide)
  rw [x_c] at a1
  have a2 := xadd_spec 1 2 0 1 0 1 (by decide) (by decide)
  rw [x_e] at a2
  have tt := fun (c : Int) (a b : Nat) => term_spec c a b
  refine FSpec.intro ok [] Tryz.func10 rfl rfl (m := 115) rfl ?_
  conv => whnf
  skip
  refine ⟨_, _, term_spec 1 1 0 (by decide) (by decide) (by decide) (by decide), SubL.le (by repeat' (first | exact rfl | exact trivial | exact ⟨_, rfl⟩ | exact ⟨rfl, rfl, rfl⟩ | refine And.intro ?_ ?_)), ?_⟩
  conv => whnf
  skip
  refine ⟨_, _, term_spec 1 0 0 (by decide) (by decide) (by decide) (by decide), SubL.le (by repeat' (first | exact rfl | exact trivial | exact ⟨_, rfl⟩ | exact ⟨rfl, rfl, rfl⟩ | refine And.intro ?_ ?_)), ?_⟩
  conv => whnf
  skip
  refine ⟨_, _, s1, SubL.le (by repeat' (first | exact rfl | exact trivial | exact ⟨_, rfl⟩ | exact ⟨rfl, rfl, rfl⟩ | refine And.intro ?_ ?_)), ?_⟩
  conv => whnf
  skip
  refine ⟨_, _, term_spec 1 0 0 (by decide) (by decide) (by decide) (by decide), SubL.le (by repeat' (first | exact rfl | exact trivial | exact ⟨_, rfl⟩ | exact ⟨rfl, rfl, rfl⟩ | refine And.intro ?_ ?_)), ?_⟩
  conv => whnf
  skip
  refine ⟨_, _, term_spec 2 1 0 (by decide) (by decide) (by decide) (by decide), SubL.le (by repeat' (first | exact rfl | exact trivial | exact ⟨_, rfl⟩ | exact ⟨rfl, rfl, rfl⟩ | refine And.intro ?_ ?_)), ?_⟩
  conv => whnf
  skip
  refine ⟨_, _, term_spec 4 0 0 (by decide) (by decide) (by decide) (by decide), SubL.le (by repeat' (first | exact rfl | exact trivial | exact ⟨_, rfl⟩ | exact ⟨rfl, rfl, rfl⟩ | refine And.intro ?_ ?_)), ?_⟩
  conv => whnf
  skip
  refine ⟨_, _, s2, SubL.le (by repeat' (first | exact rfl | exact trivial | exact ⟨_, rfl⟩ | exact ⟨rfl, rfl, rfl⟩ | refine And.intro ?_ ?_)), ?_⟩
  conv => whnf
  skip
  refine .inl ?_
  conv => whnf
  skip
  refine ⟨_, _, term_spec 2 0 0 (by decide) (by decide) (by decide) (by decide), SubL.le (by repeat' (first | exact rfl | exact trivial | exact ⟨_, rfl⟩ | exact ⟨rfl, rfl, rfl⟩ | refine And.intro ?_ ?_)), ?_⟩
  conv => whnf
  skip
  refine ⟨_, _, term_spec 1 1 0 (by decide) (by decide) (by decide) (by decide), SubL.le (by repeat' (first | exact rfl | exact trivial | exact ⟨_, rfl⟩ | exact ⟨rfl, rfl, rfl⟩ | refine And.intro ?_ ?_)), ?_⟩
  conv => whnf
  skip
  refine ⟨_, _, s3, SubL.le (by repeat' (first | exact rfl | exact trivial | exact ⟨_, rfl⟩ | exact ⟨rfl, rfl, rfl⟩ | refine And.intro ?_ ?_)), ?_⟩
  conv => whnf
  skip
  refine ⟨_, _, term_spec 3 0 0 (by decide) (by decide) (by decide) (by decide), SubL.le (by repeat' (first | exact rfl | exact trivial | exact ⟨_, rfl⟩ | exact ⟨rfl, rfl, rfl⟩ | refine And.intro ?_ ?_)), ?_⟩
  conv => whnf
  skip
  refine ⟨_, _, ex_k2, SubL.le (by repeat' (first | exact rfl | exact trivial | exact ⟨_, rfl⟩ | exact ⟨rfl, rfl, rfl⟩ | refine And.intro ?_ ?_)), ?_⟩
  conv => whnf
  repeat ((first | refine ⟨_, (rfl : (_ : List C)[_]? = some _), ?_⟩ | refine ⟨by first | decide | exact Nat.le_refl _, _, rfl, ?_⟩); conv => whnf)
  refine .inl ?_
  conv => whnf
  skip
  refine ⟨_, _, ex_m2, SubL.le (by repeat' (first | exact rfl | exact trivial | exact ⟨_, rfl⟩ | exact ⟨rfl, rfl, rfl⟩ | refine And.intro ?_ ?_)), ?_⟩
  conv => whnf
  repeat ((first | refine ⟨_, (rfl : (_ : List C)[_]? = some _), ?_⟩ | refine ⟨by first | decide | exact Nat.le_refl _, _, rfl, ?_⟩); conv => whnf)
  refine ⟨_, _, term_spec 1 0 1 (by decide) (by decide) (by decide) (by decide), SubL.le (by repeat' (first | exact rfl | exact trivial | exact ⟨_, rfl⟩ | exact ⟨rfl, rfl, rfl⟩ | refine And.intro ?_ ?_)), ?_⟩
  conv => whnf
  skip
  refine ⟨_, _, ex_g, SubL.le (by repeat' (first | exact rfl | exact trivial | exact ⟨_, rfl⟩ | exact ⟨rfl, rfl, rfl⟩ | refine And.intro ?_ ?_)), ?_⟩
  conv => whnf
  repeat ((first | refine ⟨_, (rfl : (_ : List C)[_]? = some _), ?_⟩ | refine ⟨by first | decide | exact Nat.le_refl _, _, rfl, ?_⟩); conv => whnf)
  refine ⟨_, _, ex_h, SubL.le (by repeat' (first | exact rfl | exact trivial | exact ⟨_, rfl⟩ | exact ⟨rfl, rfl, rfl⟩ | refine And.intro ?_ ?_)), ?_⟩
  conv => whnf
  repeat ((first | refine ⟨_, (rfl : (_ : List C)[_]? = some _), ?_⟩ | refine ⟨by first | decide | exact Nat.le_refl _, _, rfl, ?_⟩); conv => whnf)
  refine ⟨_, _, term_spec 1 1 0 (by decide) (by decide) (by decide) (by decide), SubL.le (by repeat' (first | exact rfl | exact trivial | exact ⟨_, rfl⟩ | exact ⟨rfl, rfl, rfl⟩ | refine And.intro ?_ ?_)), ?_⟩
  conv => whnf
  skip
  refine ⟨_, _, term_spec 1 0 2 (by decide) (by decide) (by decide) (by decide), SubL.le (by repeat' (first | exact rfl | exact trivial | exact ⟨_, rfl⟩ | exact ⟨rfl, rfl, rfl⟩ | refine And.intro ?_ ?_)), ?_⟩
  conv => whnf
  skip
  refine ⟨_, _, a1, SubL.le (by repeat' (first | exact rfl | exact trivial | exact ⟨_, rfl⟩ | exact ⟨rfl, rfl, rfl⟩ | refine And.intro ?_ ?_)), ?_⟩
  conv => whnf
  skip
  refine ⟨_, _, ex_c, SubL.le (by repeat' (first | exact rfl | exact trivial | exact ⟨_, rfl⟩ | exact ⟨rfl, rfl, rfl⟩ | refine And.intro ?_ ?_)), ?_⟩
  conv => whnf
  repeat ((first | refine ⟨_, (rfl : (_ : List C)[_]? = some _), ?_⟩ | refine ⟨by first | decide | exact Nat.le_refl _, _, rfl, ?_⟩); conv => whnf)
  refine ⟨_, _, term_spec 1 0 1 (by decide) (by decide) (by decide) (by decide), SubL.le (by repeat' (first | exact rfl | exact trivial | exact ⟨_, rfl⟩ | exact ⟨rfl, rfl, rfl⟩ | refine And.intro ?_ ?_)), ?_⟩
  conv => whnf
  skip
  refine ⟨_, _, s4, SubL.le (by repeat' (first | exact rfl | exact trivial | exact ⟨_, rfl⟩ | exact ⟨rfl, rfl, rfl⟩ | refine And.intro ?_ ?_)), ?_⟩
  conv => whnf
  skip
  refine ⟨_, _, term_spec 1 2 0 (by decide) (by decide) (by decide) (by decide), SubL.le (by repeat' (first | exact rfl | exact trivial | exact ⟨_, rfl⟩ | exact ⟨rfl, rfl, rfl⟩ | refine And.intro ?_ ?_)), ?_⟩
  conv => whnf
  skip
  refine ⟨_, _, term_spec 1 0 1 (by decide) (by decide) (by decide) (by decide), SubL.le (by repeat' (first | exact rfl | exact trivial | exact ⟨_, rfl⟩ | exact ⟨rfl, rfl, rfl⟩ | refine And.intro ?_ ?_)), ?_⟩
  conv => whnf
  skip
  refine ⟨_, _, a2, SubL.le (by repeat' (first | exact rfl | exact trivial | exact ⟨_, rfl⟩ | exact ⟨rfl, rfl, rfl⟩ | refine And.intro ?_ ?_)), ?_⟩
  conv => whnf
  repeat ((first | refine ⟨by first | decide | exact Nat.le_refl _, _, rfl, ?_⟩ | refine ⟨_, rfl, rfl, ?_⟩); conv => whnf)
  refine ⟨_, _, same_self 2 [xD, xE] [] (kkB_of n_s1), SubL.le (by repeat' (first | exact rfl | exact trivial | exact ⟨_, rfl⟩ | exact ⟨rfl, rfl, rfl⟩ | refine And.intro ?_ ?_)), ?_⟩
  conv => whnf
  repeat (refine ⟨_, rfl, rfl, ?_⟩; conv => whnf)
  refine ⟨moV ⟨1, 0, 2, 3, 4, 5, 6, 7⟩, moV ⟨1, 0, 2, 3, 4, 5, 6, 7⟩, PmKv, ⟨rfl, rfl, perm_eq, pm_key _ ?_, pm_key _ ?_, _, _, rfl, rfl⟩, fun r hr => ?_⟩
  · exact px_lt
  · exact px_lt
  have hr : r = true := hr.2 rfl
  subst hr
  conv => whnf
  repeat ((first | refine anyA (by decide +kernel) ?_ | refine ⟨_, rfl, rfl, ?_⟩); conv => whnf)
  refine ⟨_, _, term_spec 1 1 0 (by decide) (by decide) (by decide) (by decide), SubL.le (by repeat' (first | exact rfl | exact trivial | exact ⟨_, rfl⟩ | exact ⟨rfl, rfl, rfl⟩ | refine And.intro ?_ ?_)), ?_⟩
  conv => whnf
  skip
  refine ⟨_, _, term_spec 2 0 0 (by decide) (by decide) (by decide) (by decide), SubL.le (by repeat' (first | exact rfl | exact trivial | exact ⟨_, rfl⟩ | exact ⟨rfl, rfl, rfl⟩ | refine And.intro ?_ ?_)), ?_⟩
  conv => whnf
  skip
  refine ⟨_, _, s5, SubL.le (by repeat' (first | exact rfl | exact trivial | exact ⟨_, rfl⟩ | exact ⟨rfl, rfl, rfl⟩ | refine And.intro ?_ ?_)), ?_⟩
  conv => whnf
  skip
  refine ⟨_, _, same_self 1 [xF] [] (kkB_of n_s2), SubL.le (by repeat' (first | exact rfl | exact trivial | exact ⟨_, rfl⟩ | exact ⟨rfl, rfl, rfl⟩ | refine And.intro ?_ ?_)), ?_⟩
  conv => whnf
  repeat (refine ⟨_, rfl, rfl, ?_⟩; conv => whnf)
  refine ⟨_, _, same_self 2 [tm 1 0 0] [] (kkB_of n_s3), SubL.le (by repeat' (first | exact rfl | exact trivial | exact ⟨_, rfl⟩ | exact ⟨rfl, rfl, rfl⟩ | refine And.intro ?_ ?_)), ?_⟩
  conv => whnf
  skip
  refine ⟨_, _, ex_v1, SubL.le (by repeat' (first | exact rfl | exact trivial | exact ⟨_, rfl⟩ | exact ⟨rfl, rfl, rfl⟩ | refine And.intro ?_ ?_)), ?_⟩
  conv => whnf
  skip
  refine ⟨_, _, ex_v2, SubL.le (by repeat' (first | exact rfl | exact trivial | exact ⟨_, rfl⟩ | exact ⟨rfl, rfl, rfl⟩ | refine And.intro ?_ ?_)), ?_⟩
  conv => whnf
  skip
  repeat' (first | exact rfl | exact trivial | exact ⟨_, rfl⟩ | exact ⟨rfl, rfl, rfl⟩ | refine And.intro ?_ ?_)
end Go.Proofs.YtbhnankggcfndaaGreat
namespace Go.Proofs.YtbhnankggcfndaaGreat
open El
set_option maxRecDepth 10000
set_option maxHeartbeats 8000000
theorem v_one (a : ByteArray) : validS ⟨[a], [], [], 1⟩ = nameB a := by
  have h : newAt [a] 0 = nameB a := by simp [newAt, memB]
  have h2 : validS ⟨[a], [], [], 1⟩ = (newAt [a] 0 && true) := by
    simp [validS, headB, varsB, entriesB, List.range_succ]
  rw [h2, h, Bool.and_true]
theorem v_two (a b : ByteArray) : validS ⟨[a, b], [], [], 1⟩ = (nameB a && (nameB b && !decide (a = b))) := by
  have h : newAt [a, b] 0 = nameB a := by simp [newAt, memB]
  have h1 : newAt [a, b] 1 = (nameB b && !decide (a = b)) := by simp [newAt, memB]
  have h2 : validS ⟨[a, b], [], [], 1⟩ = (newAt [a, b] 0 && newAt [a, b] 1) := by
    simp [validS, headB, varsB, entriesB, List.range_succ]
  rw [h2, h, h1]
theorem sk_vars (l : List ByteArray) (n : Int) (h1 : l.length ≤ 2) (h2 : ∀ t ∈ l, t.size ≤ 20) : Sk ⟨l, [], [], n⟩ :=
  ⟨Nat.zero_le _, Nat.zero_le _, Nat.le_trans h1 (by decide), fun t h => Nat.le_trans (h2 t h) (by decide), fun t h => absurd h (by simp), fun t h => absurd h (by simp), fun t h => absurd h (by simp), fun t h => absurd h (by simp)⟩
theorem names_spec (a b : ByteArray) : FSpec Tryz.prog 7 [.v (.string a), .v (.string b)] (.v (.bool true)) := by
  by_cases ha : 20 < a.size
  · refine FSpec.intro ok [] Tryz.func7 rfl rfl (m := 59) rfl ?_
    conv => whnf
    skip
    refine ⟨_, _, examples_spec, SubL.le (by repeat' (first | exact rfl | exact trivial | exact ⟨_, rfl⟩ | exact ⟨rfl, rfl, rfl⟩ | refine And.intro ?_ ?_)), ?_⟩
    conv => whnf
    skip
    rw [show decide ((a.size : Int) > 20) = true from decide_eq_true (by omega)]
    conv => whnf
    skip
    repeat' (first | exact rfl | exact trivial | exact ⟨_, rfl⟩ | exact ⟨rfl, rfl, rfl⟩ | refine And.intro ?_ ?_)
  · by_cases hb : 20 < b.size
    · refine FSpec.intro ok [] Tryz.func7 rfl rfl (m := 59) rfl ?_
      conv => whnf
      skip
      refine ⟨_, _, examples_spec, SubL.le (by repeat' (first | exact rfl | exact trivial | exact ⟨_, rfl⟩ | exact ⟨rfl, rfl, rfl⟩ | refine And.intro ?_ ?_)), ?_⟩
      conv => whnf
      skip
      rw [show decide ((a.size : Int) > 20) = false from decide_eq_false (by omega)]
      conv => whnf
      skip
      rw [show decide ((b.size : Int) > 20) = true from decide_eq_true (by omega)]
      conv => whnf
      skip
      repeat' (first | exact rfl | exact trivial | exact ⟨_, rfl⟩ | exact ⟨rfl, rfl, rfl⟩ | refine And.intro ?_ ?_)
    · have h1 := sysvalid_spec ⟨[a], [], [], 1⟩ (sk_vars _ 1 (by simp) (by simp; omega))
      have h2 := sysvalid_spec ⟨[a, b], [], [], 1⟩ (sk_vars _ 1 (by simp) (by simp; omega))
      have h3 := sysvalid_spec ⟨[a, a], [], [], 1⟩ (sk_vars _ 1 (by simp) (by simp; omega))
      rw [v_one] at h1
      rw [v_two] at h2 h3
      have n1 := name_ref a (by omega)
      have n2 := name_ref b (by omega)
      rw [decide_eq_true (rfl : a = a), Bool.not_true, Bool.and_false, Bool.and_false] at h3
      cases e : nameB a with
      | false =>
        rw [e] at n1 h1 h2
        rw [Bool.false_and] at h2
        refine FSpec.intro ok [] Tryz.func7 rfl rfl (m := 59) rfl ?_
        conv => whnf
        skip
        refine ⟨_, _, examples_spec, SubL.le (by repeat' (first | exact rfl | exact trivial | exact ⟨_, rfl⟩ | exact ⟨rfl, rfl, rfl⟩ | refine And.intro ?_ ?_)), ?_⟩
        conv => whnf
        skip
        rw [show decide ((a.size : Int) > 20) = false from decide_eq_false (by omega)]
        conv => whnf
        skip
        rw [show decide ((b.size : Int) > 20) = false from decide_eq_false (by omega)]
        conv => whnf
        skip
        refine ⟨_, _, h1, SubL.le (by repeat' (first | exact rfl | exact trivial | exact ⟨_, rfl⟩ | exact ⟨rfl, rfl, rfl⟩ | refine And.intro ?_ ?_)), ?_⟩
        conv => whnf
        skip
        refine ⟨_, _, h2, SubL.le (by repeat' (first | exact rfl | exact trivial | exact ⟨_, rfl⟩ | exact ⟨rfl, rfl, rfl⟩ | refine And.intro ?_ ?_)), ?_⟩
        conv => whnf
        skip
        refine ⟨_, _, h3, SubL.le (by repeat' (first | exact rfl | exact trivial | exact ⟨_, rfl⟩ | exact ⟨rfl, rfl, rfl⟩ | refine And.intro ?_ ?_)), ?_⟩
        conv => whnf
        skip
        refine ⟨_, _, n1, SubL.le (by repeat' (first | exact rfl | exact trivial | exact ⟨_, rfl⟩ | exact ⟨rfl, rfl, rfl⟩ | refine And.intro ?_ ?_)), ?_⟩
        conv => whnf
        skip
        refine ⟨_, _, n1, SubL.le (by repeat' (first | exact rfl | exact trivial | exact ⟨_, rfl⟩ | exact ⟨rfl, rfl, rfl⟩ | refine And.intro ?_ ?_)), ?_⟩
        conv => whnf
        skip
        repeat' (first | exact rfl | exact trivial | exact ⟨_, rfl⟩ | exact ⟨rfl, rfl, rfl⟩ | refine And.intro ?_ ?_)
      | true =>
        rw [e] at n1 h1 h2
        rw [Bool.true_and] at h2
        cases e2 : nameB b with
        | false =>
          rw [e2] at n2 h2
          rw [Bool.false_and] at h2
          refine FSpec.intro ok [] Tryz.func7 rfl rfl (m := 59) rfl ?_
          conv => whnf
          skip
          refine ⟨_, _, examples_spec, SubL.le (by repeat' (first | exact rfl | exact trivial | exact ⟨_, rfl⟩ | exact ⟨rfl, rfl, rfl⟩ | refine And.intro ?_ ?_)), ?_⟩
          conv => whnf
          skip
          rw [show decide ((a.size : Int) > 20) = false from decide_eq_false (by omega)]
          conv => whnf
          skip
          rw [show decide ((b.size : Int) > 20) = false from decide_eq_false (by omega)]
          conv => whnf
          skip
          refine ⟨_, _, h1, SubL.le (by repeat' (first | exact rfl | exact trivial | exact ⟨_, rfl⟩ | exact ⟨rfl, rfl, rfl⟩ | refine And.intro ?_ ?_)), ?_⟩
          conv => whnf
          skip
          refine ⟨_, _, h2, SubL.le (by repeat' (first | exact rfl | exact trivial | exact ⟨_, rfl⟩ | exact ⟨rfl, rfl, rfl⟩ | refine And.intro ?_ ?_)), ?_⟩
          conv => whnf
          skip
          refine ⟨_, _, h3, SubL.le (by repeat' (first | exact rfl | exact trivial | exact ⟨_, rfl⟩ | exact ⟨rfl, rfl, rfl⟩ | refine And.intro ?_ ?_)), ?_⟩
          conv => whnf
          skip
          refine ⟨_, _, n1, SubL.le (by repeat' (first | exact rfl | exact trivial | exact ⟨_, rfl⟩ | exact ⟨rfl, rfl, rfl⟩ | refine And.intro ?_ ?_)), ?_⟩
          conv => whnf
          skip
          refine ⟨_, _, n1, SubL.le (by repeat' (first | exact rfl | exact trivial | exact ⟨_, rfl⟩ | exact ⟨rfl, rfl, rfl⟩ | refine And.intro ?_ ?_)), ?_⟩
          conv => whnf
          skip
          refine ⟨_, _, n2, SubL.le (by repeat' (first | exact rfl | exact trivial | exact ⟨_, rfl⟩ | exact ⟨rfl, rfl, rfl⟩ | refine And.intro ?_ ?_)), ?_⟩
          conv => whnf
          skip
          repeat' (first | exact rfl | exact trivial | exact ⟨_, rfl⟩ | exact ⟨rfl, rfl, rfl⟩ | refine And.intro ?_ ?_)
        | true =>
          rw [e2] at n2 h2
          rw [Bool.true_and] at h2
          refine FSpec.intro ok [] Tryz.func7 rfl rfl (m := 59) rfl ?_
          conv => whnf
          skip
          refine ⟨_, _, examples_spec, SubL.le (by repeat' (first | exact rfl | exact trivial | exact ⟨_, rfl⟩ | exact ⟨rfl, rfl, rfl⟩ | refine And.intro ?_ ?_)), ?_⟩
          conv => whnf
          skip
          rw [show decide ((a.size : Int) > 20) = false from decide_eq_false (by omega)]
          conv => whnf
          skip
          rw [show decide ((b.size : Int) > 20) = false from decide_eq_false (by omega)]
          conv => whnf
          skip
          refine ⟨_, _, h1, SubL.le (by repeat' (first | exact rfl | exact trivial | exact ⟨_, rfl⟩ | exact ⟨rfl, rfl, rfl⟩ | refine And.intro ?_ ?_)), ?_⟩
          conv => whnf
          skip
          refine ⟨_, _, h2, SubL.le (by repeat' (first | exact rfl | exact trivial | exact ⟨_, rfl⟩ | exact ⟨rfl, rfl, rfl⟩ | refine And.intro ?_ ?_)), ?_⟩
          conv => whnf
          skip
          refine ⟨_, _, h3, SubL.le (by repeat' (first | exact rfl | exact trivial | exact ⟨_, rfl⟩ | exact ⟨rfl, rfl, rfl⟩ | refine And.intro ?_ ?_)), ?_⟩
          conv => whnf
          skip
          refine ⟨_, _, n1, SubL.le (by repeat' (first | exact rfl | exact trivial | exact ⟨_, rfl⟩ | exact ⟨rfl, rfl, rfl⟩ | refine And.intro ?_ ?_)), ?_⟩
          conv => whnf
          skip
          refine ⟨_, _, n1, SubL.le (by repeat' (first | exact rfl | exact trivial | exact ⟨_, rfl⟩ | exact ⟨rfl, rfl, rfl⟩ | refine And.intro ?_ ?_)), ?_⟩
          conv => whnf
          skip
          refine ⟨_, _, n2, SubL.le (by repeat' (first | exact rfl | exact trivial | exact ⟨_, rfl⟩ | exact ⟨rfl, rfl, rfl⟩ | refine And.intro ?_ ?_)), ?_⟩
          conv => whnf
          skip
          rw [bytes_beq]
          cases decide (a = b) with
          | false =>
            conv => whnf
            skip
            repeat' (first | exact rfl | exact trivial | exact ⟨_, rfl⟩ | exact ⟨rfl, rfl, rfl⟩ | refine And.intro ?_ ?_)
          | true =>
            conv => whnf
            skip
            repeat' (first | exact rfl | exact trivial | exact ⟨_, rfl⟩ | exact ⟨rfl, rfl, rfl⟩ | refine And.intro ?_ ?_)
end Go.Proofs.YtbhnankggcfndaaGreat
