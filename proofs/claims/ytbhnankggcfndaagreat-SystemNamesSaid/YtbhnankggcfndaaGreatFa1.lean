/- Words of my own, joined: part 1. -/
import Derived.Test.YtbhnankggcfndaaGreatFa0
import Derived.Laws.Cover3
import Derived.StillTail
import Derived.Scope
namespace El
open Go Go.RowKit
/-- An entry of a map is written. -/
def aupdate (P : Program) (G : Tab) (T : Nat) (s : St) (dm dk dx : C) (K : St → Prop) : Prop :=
  match s, dm, G T with
  | ⟨sl, bx, nm⟩, .mp l, some t => (match t.sh with
    | .map Kt _ => (match getB bx l with
      | some (.map es) => forceC dx fun dx => ∃ (key : Value) (Kv : Value → Prop) (es' : List (Value × C)), (valC dk = some key ∧ KL P Kt Kv ∧ Kv key ∧ (∀ p, p ∈ es → Kv p.1)) ∧
          ((∃ i d, es[i]? = some (key, d) ∧ es' = es.set i (key, dx)) ∨ ((∀ p, p ∈ es → p.1 ≠ key) ∧ es' = es ++ [(key, dx)])) ∧ bchk (noName dx) (setBK bx l (.map es') fun bx' => K ⟨sl, bx', nm⟩)
      | _ => False)
    | _ => False)
  | _, _, _ => False
/-- The next round of a range. -/
def anext (s : St) (dx : C) (isString : Bool) (dst : Option Nat) (K : St → Prop) : Prop :=
  match s, dx with
  | ⟨sl, bx, nm⟩, .ptr l 0 => (match getB bx l, isString with
    | some (.iter m n seen), false => (match getB bx m with
      | some (.map es) => es.length = n ∧ ((∀ i, i < n → i ∈ seen) → slotK sl dst (.tup [.v (.bool false)]) fun l => K ⟨l, bx, nm⟩) ∧
          ∀ i k d, es[i]? = some (k, d) → i ∉ seen → slotK sl dst (.tup [.v (.bool true), cOf k, d]) fun sl' => setBK bx l (.iter m n (seen ++ [i])) fun bx' => K ⟨sl', bx', nm⟩
      | _ => False)
    | some (.str t pos), true => bcase (decide (pos < t.size))
        (∃ c wd, Utf8.decode t pos = (c, wd) ∧ slotK sl dst (.tup [.v (.bool true), .v (.int .i64 (pos : Int)), .v (.int .i32 (c : Int))]) fun sl' => setBK bx l (.str t (pos + wd)) fun bx' => K ⟨sl', bx', nm⟩)
        (slotK sl dst (.tup [.v (.bool false)]) fun l => K ⟨l, bx, nm⟩)
    | _, _ => False)
  | _, _ => False
/-- One block is turned, and nothing else. -/
structure Turned (w w' : World) (gg : Nat) : Prop where
  size : w'.heap.size = w.heap.size
  os : w'.os = w.os
  tape : w'.tape = w.tape
  output : w'.output = w.output
  drawn : w.drawn ≤ w'.drawn
  other : ∀ x, x ≠ gg → w'.heap[x]? = w.heap[x]?
theorem Rel.setAt {g : Ghost} {s : St} {b : Names} {a : Act} {w w' : World} (h : Rel g s b a w) {l gg c : Nat} {B B' : Bx} (hB : (l, B) ∈ s.bx) (hb : b l = some (some gg, c)) (hw : Turned w w' gg)
    (hB' : BxAt w' (Mut g.S0 b s.bx) b l B') : Rel g ⟨s.sl, setB s.bx l B', s.nm⟩ b a w' := by
  have hmut : Mut g.S0 b s.bx gg := .inr ⟨l, B, c, hB, hb⟩
  have hk : ∀ x, x < w.heap.size → ¬ Mut g.S0 b s.bx x → w'.heap[x]? = w.heap[x]? ∧ ¬ Mut g.S0 b (setB s.bx l B') x :=
    fun x _ hn => ⟨hw.other x (fun e => hn (e ▸ hmut)), fun hm => hn (Mut_setB.1 hm)⟩
  have hS : ∀ x, Mut g.S0 b (setB s.bx l B') x ↔ Mut g.S0 b s.bx x := fun x => Mut_setB
  have hm := h.mem
  refine ⟨h.df, h.sl.keep hk fun _ _ h => h, ?_, h.nm⟩
  refine ⟨hm.s0, by rw [hw.size]; exact hm.size, hw.os.trans hm.os, hw.tape.trans hm.tape, hw.output.trans hm.output, Nat.le_trans hm.drawn hw.drawn, ?_, ?_, ?_, hm.kp, ?_⟩
  · intro x hx hH
    rw [hw.other x, hm.old x hx hH]
    rintro rfl
    rcases (hm.new l B _ _ hB hb).1 with h' | h'
    · exact hH h'
    · omega
  · intro m X hX
    rcases mem_setB hm.uniq hB m X hX with ⟨rfl, rfl⟩ | ⟨hne, hX'⟩
    · exact hB'.keep (fun x hx hn => ⟨rfl, fun hh => hn ((hS x).1 hh)⟩) (fun _ _ h => h) fun _ _ _ => rfl
    · refine (hm.boxes m X hX').keep hk (fun _ _ h => h) fun g' c' hc' => hw.other g' ?_
      rintro rfl
      exact hne (hm.same (p := (m, X)) (q := (l, B)) hX' hB hc' hb)
  · intro m X g' c' hX hc'
    obtain ⟨Y, hY⟩ := setB_old ⟨X, hX⟩
    exact hm.new m Y g' c' hY hc'
  · have h1 : (setB s.bx l B').map (·.1) = s.bx.map (·.1) := setB_names _ _ _
    have h2 : (s.bx.map (·.1)).Pairwise fun p q => (∀ g c c', b p = some (some g, c) → b q ≠ some (some g, c')) ∧ p ≠ q := by
      rw [List.pairwise_map]; exact hm.apart
    rw [← h1, List.pairwise_map] at h2
    exact h2
/-- The world with one block replaced. -/
def setO (w : World) (r : Nat) (o : Obj) : World := { w with heap := w.heap.setIfInBounds r o }
theorem setO_turned (w : World) (r : Nat) (o : Obj) : Turned w (setO w r o) r := by
  refine ⟨by simp [setO], rfl, rfl, rfl, Nat.le_refl _, fun x hx => ?_⟩
  simp only [setO, Array.getElem?_setIfInBounds]
  rw [if_neg (fun e => hx e.symm)]
theorem setO_at {w : World} {r : Nat} {o : Obj} (h : r < w.heap.size) : (setO w r o).heap[r]? = some o := by simp [setO, h]
theorem run_setObj_at {P : Program} {w : World} {g : Nat} {o o' : Obj} (h : w.heap[g]? = some o) (hv : ∀ c e f, o ≠ .cells c e f) : (setObj g o').run P w = .ok () (setO w g o') := by
  cases o <;> first
    | exact absurd rfl (hv _ _ _)
    | simp only [setObj, Sem.run, h, setO]
theorem aupdate_sound {P : Program} {G : Tab} (hG : TabOk P G) {T : Nat} {s : St} {dm dk dx : C} {K : St → Prop} (h : aupdate P G T s dm dk dx K) {g : Ghost} {b : Names} {a : Act} {w : World} (hr : Rel g s b a w)
    {vm vk vx : Value} (hvm : Rd w (Mut g.S0 b s.bx) b dm vm) (hvk : Rd w (Mut g.S0 b s.bx) b dk vk) (hvx : Rd w (Mut g.S0 b s.bx) b dx vx) : ∃ w', (Instr.mapUpdate T vm vk vx).run P w = .ok () w' ∧ Nxt g K a w' := by
  obtain ⟨sl, bx, nm⟩ := s
  unfold aupdate at h
  split at h <;> try (exact h.elim)
  rename_i sl0 bx0 nm0 l t hst hT
  cases hst
  have hok := (hG.ok T t hT).sh
  split at h <;> try (exact h.elim)
  rename_i Kt V hsh
  rw [hsh] at hok
  simp only [shOk] at hok
  split at h <;> try (exact h.elim)
  rename_i es hl
  rw [forceC_iff] at h
  obtain ⟨key, Kv, es', ⟨hkey, hKL, hKk, hall⟩, hes, h⟩ := h
  obtain ⟨hno, hK⟩ := bchk_iff.1 h
  rw [setBK_iff] at hK
  have hmem := getB_mem hl
  obtain ⟨gg, c, h1, arr, h2, h3, h4, h5, h6⟩ := hr.mem.boxes l _ hmem
  have hlt : gg < w.heap.size := (Array.getElem?_eq_some_iff.1 h2).1
  simp only [Rd] at hvm
  obtain ⟨gg', c', h7, rfl⟩ := hvm
  rw [h1] at h7; cases h7
  have hk := valC_rd hkey hvk
  subst hk
  have hmut : Mut g.S0 b bx gg := .inr ⟨l, _, c, hmem, h1⟩
  have hkeep : ∀ o x, x < w.heap.size → ¬ Mut g.S0 b bx x → (setO w gg o).heap[x]? = w.heap[x]? ∧ ¬ Mut g.S0 b bx x :=
    fun o x _ hn => ⟨(setO_turned w gg o).other x (fun e => hn (e ▸ hmut)), hn⟩
  have hvx0 := hvx.anyNames (b' := noN) hno
  rcases hes with ⟨i, d, hi, rfl⟩ | ⟨hne, rfl⟩
  · have hf := found hKL h4 h5 h6 hKk hall (o := some d) ⟨i, hi⟩
    obtain ⟨j, e, h8, h9, h10, h11, _⟩ := hf
    have hij : i = j := by
      have a1 : (es.map (·.1))[i]? = some vk := by rw [List.getElem?_map, hi]; rfl
      have a2 : (es.map (·.1))[j]? = some vk := by rw [List.getElem?_map, h11]; rfl
      obtain ⟨b1, b2⟩ := List.getElem?_eq_some_iff.1 a1
      obtain ⟨b3, b4⟩ := List.getElem?_eq_some_iff.1 a2
      have h5 := List.pairwise_iff_getElem.1 h5
      rcases Nat.lt_trichotomy i j with hij | hij | hij
      · exact absurd (b2.trans b4.symm) (h5 i j b1 b3 hij)
      · exact hij
      · exact absurd (b4.trans b2.symm) (h5 j i b3 b1 hij)
    subst hij
    have hj : arr[i]? = some e := by simpa using h9
    let arr' := arr.modify i fun e' => { e' with key := vk, val := vx }
    have harr' : arr'.toList = arr.toList.set i { e with key := vk, val := vx } := by
      show (arr.modify i _).toList = _
      rw [Array.toList_modify, ChangeMaps.modify_eq_set _ _ _ _ h9]
    refine ⟨setO w gg (.map arr' es.length), ?_, _, b, hr.setAt hmem h1 (setO_turned w gg _) ?_, hK⟩
    · simp [Instr.mapUpdate, run_underlying hok, run_getObj_at h2 (by intro _ _ _ h; cases h), hKL.check w false hKk, h8, hj, h10, hKL.stays w hKk, run_setObj_at h2 (by intro _ _ _ h; cases h), Result.andThen]
      rfl
    · simp only [BxAt]
      refine ⟨gg, c, h1, arr', ?_, ?_, ?_, ?_, ?_⟩
      · rw [List.length_set]; exact setO_at hlt
      · rw [harr', List.map_set, List.length_set, ← h3]
        apply List.ext_getElem?
        intro k
        rw [List.getElem?_set]
        split
        · rename_i e'; subst e'
          split
          · rw [List.getElem?_map, h9]; rfl
          · rename_i hlt'; rw [List.getElem?_eq_none (by simpa using hlt')]
        · rfl
      · rw [harr', List.map_set, List.map_set, h4]
      · rw [List.map_set]
        have : (es.map (·.1)).set i vk = es.map (·.1) := by
          apply List.ext_getElem?
          intro k
          rw [List.getElem?_set]
          split
          · rename_i e'; subst e'
            split
            · rw [List.getElem?_map, hi]; rfl
            · rename_i hlt'; rw [List.getElem?_eq_none (by simpa using hlt')]
          · rfl
        rw [this]; exact h5
      · rw [harr', List.map_set, List.map_set]
        exact (h6.keep (hkeep _) fun _ _ hh => hh).set (hvx0.keep (hkeep _) fun _ _ hh => hh) i
  · have hf := found hKL h4 h5 h6 hKk hall (o := none) hne
    have hlen : arr.toList.length = es.length := by have := congrArg List.length h4; simpa using this
    refine ⟨setO w gg (.map (arr.push ⟨vk, vx, es.length⟩) (es.length + 1)), ?_, _, b, hr.setAt hmem h1 (setO_turned w gg _) ?_, hK⟩
    · simp [Instr.mapUpdate, run_underlying hok, run_getObj_at h2 (by intro _ _ _ h; cases h), hKL.check w false hKk, hf, run_setObj_at h2 (by intro _ _ _ h; cases h), Result.andThen]
    · simp only [BxAt]
      refine ⟨gg, c, h1, arr.push ⟨vk, vx, es.length⟩, ?_, ?_, ?_, ?_, ?_⟩
      · rw [List.length_append]; exact setO_at hlt
      · rw [Array.toList_push, List.map_append, h3, List.length_append]
        simp [List.range_succ]
      · rw [Array.toList_push, List.map_append, List.map_append, h4]; rfl
      · rw [List.map_append]
        refine List.nodup_append.2 ⟨h5, by simp, ?_⟩
        intro x hx y hy
        simp only [List.map_cons, List.map_nil, List.mem_singleton] at hy
        subst hy
        obtain ⟨p, hp, rfl⟩ := List.mem_map.1 hx
        exact hne p hp
      · rw [Array.toList_push, List.map_append, List.map_append]
        refine (h6.keep (hkeep _) fun _ _ hh => hh).append ?_
        simp only [List.map_cons, List.map_nil, RdL]
        exact ⟨hvx0.keep (hkeep _) fun _ _ hh => hh, trivial⟩
/-- A round of a range over a map that does not turn meanwhile. -/
theorem run_next_at {P : Program} {w : World} {ty gi gm n : Nat} {seen : List Nat} {arr : Array MapEntry} (hi : w.heap[gi]? = some (.mapIter (some gm) n seen.toArray n)) (hm : w.heap[gm]? = some (.map arr n))
    (hb : arr.toList.map (·.born) = List.range n) :
    ((∀ i, i < n → i ∈ seen) ∧ (Instr.next (.pointer (some ⟨gi, 0, none⟩)) false ty).run P w = .ok (.tuple #[.bool false]) w) ∨
      ∃ i e, arr.toList[i]? = some e ∧ i ∉ seen ∧ ∃ w1 : World, Below w.heap.size w w1 ∧ w1.heap = w.heap ∧
        (Instr.next (.pointer (some ⟨gi, 0, none⟩)) false ty).run P w = .ok (.tuple #[.bool true, e.key, e.val]) (setO w1 gi (.mapIter (some gm) n (seen ++ [i]).toArray n)) := by
  have hold : ∀ x ∈ arr.toList, x.born < n := by
    intro x hx
    have : x.born ∈ arr.toList.map (·.born) := List.mem_map.2 ⟨x, hx, rfl⟩
    rw [hb] at this
    simpa using this
  simp only [Instr.next, Sem.run_bind, run_getObj_at hi (by intro _ _ _ h; cases h), run_getObj_at hm (by intro _ _ _ h; cases h), Result.andThen_ok, next_test_false seen.toArray arr n n hold (Nat.le_refl _), Bool.false_eq_true, if_false]
  have hleft : ∀ x, x ∈ (Array.filter (fun e => !seen.toArray.contains e.born) arr).toList ↔ x ∈ arr.toList ∧ x.born ∉ seen := by
    intro x; simp
  have hmem : ∀ x ∈ (Array.filter (fun e => !seen.toArray.contains e.born) arr).toList, x.born < n := fun x hx => hold x ((hleft x).1 hx).1
  generalize Array.filter (fun e => !seen.toArray.contains e.born) arr = L at hleft hmem ⊢
  have e1 : L.filter (fun x => decide (x.born < n)) = L := Array.filter_eq_self.2 (fun x hx => by simpa using hmem x (by simpa using hx))
  have e2 : L.filter (fun x => decide (x.born ≥ n)) = #[] := by
    rw [Array.filter_eq_empty_iff]
    intro x hx
    have := hmem x (by simpa using hx)
    simp
    omega
  simp only [e1, e2, Array.append_empty]
  by_cases h0 : L.size = 0
  · left
    have : L = #[] := Array.eq_empty_of_size_eq_zero h0
    subst this
    refine ⟨fun i hi' => ?_, by simp [choose, Sem.run, Question.forced]⟩
    have h1 : (arr.toList.map (·.born))[i]? = some i := by rw [hb]; simp [hi']
    rw [List.getElem?_map, Option.map_eq_some_iff] at h1
    obtain ⟨e, he, h2⟩ := h1
    apply Classical.byContradiction
    intro hn
    have := (hleft e).2 ⟨List.mem_of_getElem? he, by rw [h2]; exact hn⟩
    simp at this
  · right
    have hne : L.isEmpty = false := by simp [Array.isEmpty, h0]
    simp only [hne, Bool.false_eq_true, if_false, Array.empty_append, Array.size_map]
    have hch : ∃ (j : Nat) (w1 : World), j < L.size ∧ Below w.heap.size w w1 ∧ w1.heap = w.heap ∧ (choose (Question.mapNext L.size)).run P w = .ok j w1 := by
      by_cases hf : L.size ≤ 1
      · exact ⟨0, w, by omega, Below.refl _ _, rfl, by simp [choose, Sem.run, Question.forced, hf]⟩
      · exact ⟨_, w.drew, Nat.mod_lt _ (by omega), (Below.refl _ _).drew, rfl, by
          simp only [choose, Sem.run, Question.forced, decide_eq_true_eq, hf, if_false, Question.cut]
          rfl⟩
    obtain ⟨j, w1, hj, hbel, hheap, hrun⟩ := hch
    have hLj : L[j] ∈ L.toList := by simp
    obtain ⟨h1, h2⟩ := (hleft _).1 hLj
    obtain ⟨i, hi1, hi2⟩ := List.getElem_of_mem h1
    have hie : arr.toList[i]? = some L[j] := by rw [List.getElem?_eq_getElem hi1, hi2]
    have hborn := born_at hb hie
    refine ⟨i, L[j], hie, by rw [← hborn]; exact h2, w1, hbel, hheap, ?_⟩
    have hset : ∀ o', (setObj gi o').run P w1 = .ok () (setO w1 gi o') := fun o' => run_setObj_at (by rw [hheap]; exact hi) (by intro _ _ _ h; cases h)
    simp only [hrun, Result.andThen_ok, Array.getElem?_map, Array.getElem?_eq_getElem hj, Option.map_some, Sem.run_bind, hset, Sem.run_pure]
    rw [hborn]
    simp
theorem anext_sound {P : Program} {s : St} {dx : C} {isString : Bool} {dst : Option Nat} {K : St → Prop} (h : anext s dx isString dst K) {g : Ghost} {b : Names} {a : Act} {w : World} (hr : Rel g s b a w)
    {vx : Value} (hvx : Rd w (Mut g.S0 b s.bx) b dx vx) (ty : Nat) : ∃ v w', (Instr.next vx isString ty).run P w = .ok v w' ∧ Nxt g K (a.put dst v) w' := by
  obtain ⟨sl, bx, nm⟩ := s
  unfold anext at h
  split at h <;> try (exact h.elim)
  rename_i sl0 bx0 nm0 l hst
  cases hst
  simp only [Rd] at hvx
  obtain ⟨gg, c, hb, rfl⟩ := hvx
  split at h <;> try (exact h.elim)
  · rename_i m n seen hl
    split at h <;> try (exact h.elim)
    rename_i es hm
    obtain ⟨rfl, hdone, hmore⟩ := h
    have hmem := getB_mem hl
    obtain ⟨gg', c', h1, gm, h2, c2, h3⟩ := hr.mem.boxes l _ hmem
    rw [hb] at h1; cases h1
    obtain ⟨gm', c3, h4, arr, h5, h6, h7, h8, h9⟩ := hr.mem.boxes m _ (getB_mem hm)
    rw [h3] at h4; cases h4
    have hlt : gg < w.heap.size := (Array.getElem?_eq_some_iff.1 h2).1
    have hmut : Mut g.S0 b bx gg := .inr ⟨l, _, c, hmem, hb⟩
    rcases run_next_at (P := P) (ty := ty) h2 h5 h6 with ⟨hall, hrun⟩ | ⟨i, e, he, hns, w1, hbel, hheap, hrun⟩
    · have hK := (slotK_iff (s := ⟨sl, bx, nm⟩)).1 (hdone hall)
      refine ⟨_, _, hrun, _, b, putV0 hr dst ?_, hK⟩
      simp only [Rd, RdL]; exact ⟨[.bool false], rfl, rfl, trivial⟩
    · have hki : (es.map (·.1))[i]? = some e.key := by rw [← h7, List.getElem?_map, he]; rfl
      rw [List.getElem?_map, Option.map_eq_some_iff] at hki
      obtain ⟨⟨k, d⟩, hi, hk⟩ := hki
      simp only at hk
      have hK := (slotK_iff (s := ⟨sl, bx, nm⟩)).1 (hmore i k d hi hns)
      rw [setBK_iff] at hK
      have hr1 : Rel g ⟨sl, bx, nm⟩ b a w1 := ⟨hr.df, hr.sl.keep (fun x hx hn => ⟨by rw [hheap], hn⟩) fun _ _ hh => hh, hr.mem.below hbel, hr.nm⟩
      have hv : Rd w1 (Mut g.S0 b bx) b (.tup [.v (.bool true), cOf k, d]) (.tuple #[.bool true, e.key, e.val]) := by
        simp only [Rd]
        refine ⟨[.bool true, e.key, e.val], rfl, ?_⟩
        simp only [RdL]
        exact ⟨rfl, by rw [← hk]; exact cOf_rd k, (val_at h9 hi he).keep (fun x hx hn => ⟨by rw [hheap], hn⟩) (fun _ _ hh => by cases hh), trivial⟩
      have hr2 := putV0 hr1 dst hv
      have hr3 := hr2.setAt (l := l) (B' := .iter m es.length (seen ++ [i])) hmem hb (setO_turned w1 gg (.mapIter (some gm) es.length (seen ++ [i]).toArray es.length)) (by
        simp only [BxAt]
        exact ⟨gg, c, hb, gm, setO_at (by rw [hheap]; exact hlt), c2, h3⟩)
      exact ⟨_, _, hrun, _, b, hr3, hK⟩
  · rename_i t pos hl
    have hmem := getB_mem hl
    obtain ⟨gg', c', h1, h2⟩ := hr.mem.boxes l _ hmem
    rw [hb] at h1; cases h1
    have hlt : gg < w.heap.size := (Array.getElem?_eq_some_iff.1 h2).1
    by_cases hp : pos < t.size
    · rw [show decide (pos < t.size) = true from by simpa using hp] at h
      simp only [bcase] at h
      obtain ⟨cc, wd, hdec, h⟩ := h
      have hK := (slotK_iff (s := ⟨sl, bx, nm⟩)).1 h
      rw [setBK_iff] at hK
      have hr2 := putV0 hr dst (d := .tup [.v (.bool true), .v (.int .i64 (pos : Int)), .v (.int .i32 (cc : Int))]) (v := .tuple #[.bool true, .int .i64 pos, .int .i32 cc]) (by
        simp only [Rd, RdL]; exact ⟨[.bool true, .int .i64 pos, .int .i32 cc], rfl, rfl, rfl, rfl, trivial⟩)
      have hr3 := hr2.setAt (l := l) (B' := .str t (pos + wd)) hmem hb (setO_turned w gg (.stringIter t (pos + wd))) (by
        simp only [BxAt]
        exact ⟨gg, c, hb, setO_at hlt⟩)
      refine ⟨_, _, ?_, _, b, hr3, hK⟩
      simp only [Instr.next, Sem.run_bind, run_getObj_at h2 (by intro _ _ _ h; cases h), Result.andThen_ok, hp, if_true, hdec, run_setObj_at h2 (by intro _ _ _ h; cases h), Sem.run_pure]
      rfl
    · rw [show decide (pos < t.size) = false from by simpa using hp] at h
      simp only [bcase] at h
      have hK := (slotK_iff (s := ⟨sl, bx, nm⟩)).1 h
      refine ⟨.tuple #[.bool false], w, ?_, _, b, putV0 hr dst ?_, hK⟩
      · simp only [Instr.next, Sem.run_bind, run_getObj_at h2 (by intro _ _ _ h; cases h), Result.andThen_ok, hp, if_false, Sem.run_pure]
      · simp only [Rd, RdL]; exact ⟨[.bool false], rfl, rfl, trivial⟩
end El
namespace El
open Go Go.RowKit
/-- Cells are put into a block of one's own. -/
def aput (bx : Bxs) (l off : Nat) (ds : List C) (K : Bxs → Prop) : Prop :=
  match getB bx l with
  | some (.row E k n cs) => bchk (oneL ds && noNameL ds) (off + ds.length ≤ cs.length ∧ ∃ cs', spl cs off ds = cs' ∧ setBK bx l (.row E k n cs') K)
  | some (.cells E c cs) => bchk (oneL ds) (off + ds.length ≤ cs.length ∧ ∃ cs', spl cs off ds = cs' ∧ setBK bx l (.cells E c cs') K)
  | _ => False
theorem aput_sound {P : Program} {s : St} {l off : Nat} {ds : List C} {K : Bxs → Prop} (h : aput s.bx l off ds K) {g : Ghost} {b : Names} {a : Act} {w : World} (hr : Rel g s b a w) {us : List Value}
    (hd : RdL w (Mut g.S0 b s.bx) noN ds us) {gg c : Nat} (hb : b l = some (some gg, c)) :
    ∃ w' bx', (storeCells ⟨gg, off, none⟩ us).run P w = .ok () w' ∧ Rel g ⟨s.sl, bx', s.nm⟩ b a w' ∧ K bx' := by
  unfold aput at h
  cases hl : getB s.bx l with
  | none => simp [hl] at h
  | some B =>
    have hmem := getB_mem hl
    have hbox := hr.mem.boxes l B hmem
    have hmut : Mut g.S0 b s.bx gg := .inr ⟨l, B, c, hmem, hb⟩
    have hkeep : ∀ (arr' : Array Value) x, x < w.heap.size → ¬ Mut g.S0 b s.bx x → (w.setRow gg arr').heap[x]? = w.heap[x]? ∧ ¬ Mut g.S0 b s.bx x :=
      fun arr' x _ hn => ⟨setRow_other w gg x _ (fun e => hn (e ▸ hmut)), hn⟩
    have hlv := hd.length
    rw [hl] at h
    cases B with
    | row E k n cs =>
      simp only at h
      obtain ⟨hb0, h3, cs', rfl, hK⟩ := bchk_iff.1 h
      rw [setBK_iff] at hK
      simp only [Bool.and_eq_true] at hb0
      obtain ⟨h2, h2n⟩ := hb0
      obtain ⟨aa, c2, h4, hnc, hcm, hlen, h5⟩ := hbox
      rw [hb] at h4; cases h4
      obtain ⟨arr, h5, hsz, h6, h7⟩ := h5
      have hle : n * k ≤ arr.size := by rw [hsz]; exact Nat.mul_le_mul_right _ hnc
      have h1 := hd.one h2
      have hrun := run_storeCells_at (P := P) gg off E us 0 arr w h5 (by omega) h1
      simp only [Nat.add_zero] at hrun
      have hspl : (arr.toList.take off ++ us ++ arr.toList.drop (off + us.length)) = spl arr.toList off us := by simp [spl]
      rw [hspl] at hrun
      refine ⟨_, _, hrun, hr.setRow hmem hb _ ?_, hK⟩
      simp only [BxAt]
      have htk : (spl arr.toList off us).take (n * k) = spl (arr.toList.take (n * k)) off us := spl_take (by omega) (by simpa using hle)
      refine ⟨some gg, _, hb, hnc, hcm, by rw [spl_length (cs := cs) (ds := ds) (off := off) (by omega)]; exact hlen, _, setRow_heap w gg arr _ E (0, 0) h5, ?_, ?_, ?_⟩
      · rw [List.size_toArray, spl_length (cs := arr.toList) (ds := us) (off := off) (by simp; omega)]; simpa using hsz
      · rw [htk]
        intro u hu
        simp only [spl, List.mem_append] at hu
        rcases hu with hu | hu | hu
        · exact h6 u (List.mem_of_mem_take hu)
        · exact h1 u hu
        · exact h6 u (List.mem_of_mem_drop hu)
      · rw [htk]
        exact (h7.spl (hd.anyNames h2n)).keep (hkeep _) fun _ _ h => h
    | cells E c2 cs =>
      simp only at h
      obtain ⟨h2, h3, cs', rfl, hK⟩ := bchk_iff.1 h
      rw [setBK_iff] at hK
      obtain ⟨gg', arr, h4, h5, h6, h7⟩ := hbox
      rw [hb] at h4; cases h4
      have hsz := h7.length
      have h1 := hd.one h2
      have hle0 : off + us.length ≤ arr.size := by simp at hsz; omega
      have hrun := run_storeCells_at (P := P) gg off E us 0 arr w h5 (by omega) h1
      simp only [Nat.add_zero] at hrun
      have hspl : (arr.toList.take off ++ us ++ arr.toList.drop (off + us.length)) = spl arr.toList off us := by simp [spl]
      rw [hspl] at hrun
      refine ⟨_, _, hrun, hr.setRow hmem hb _ ?_, hK⟩
      simp only [BxAt]
      refine ⟨gg, _, hb, setRow_heap w gg arr _ E (0, 0) h5, ?_, ?_⟩
      · intro u hu
        simp only [spl, List.mem_append] at hu
        rcases hu with hu | hu | hu
        · exact h6 u (List.mem_of_mem_take hu)
        · exact h1 u hu
        · exact h6 u (List.mem_of_mem_drop hu)
      · exact (h7.spl (hd.keep (fun _ _ hn => ⟨rfl, hn⟩) fun _ _ hh => by cases hh)).keep (hkeep _) fun _ _ h => h
    | _ => exact h.elim
/-! ### clear -/
def aclear (G : Tab) (T : Nat) (s : St) (d : C) (K : St → Prop) : Prop :=
  match s with
  | ⟨sl, bx, nm⟩ => match G T, d with
    | some t, .sub l _ k i n => (match t.sh with
      | .slice E => (match G E with
        | some t' => bchk (Nat.beq t'.size k && Nat.blt 0 t'.size) (0 < n ∧ aput bx l (i * k) (zrow t' n) fun bx' => K ⟨sl, bx', nm⟩)
        | none => False)
      | _ => False)
    | _, _ => False
theorem zeroCells_made {z : Array Value} {n k : Nat} (h : z.size = k) : Builtin.zeroCells z n = madeCells z (n * k) := by
  unfold Builtin.zeroCells madeCells
  rw [h]
theorem aclear_sound {P : Program} {G : Tab} (hG : TabOk P G) {T ty : Nat} {s : St} {d : C} {K : St → Prop} (h : aclear G T s d K) {g : Ghost} {b : Names} {a : Act} {w : World} (hr : Rel g s b a w) {v : Value} (hv : Rd w (Mut g.S0 b s.bx) b d v) :
    ∃ w', (Builtin.clear_ #[T] ty #[v]).run P w = .ok (.tuple #[]) w' ∧ Nxt g K a w' := by
  obtain ⟨sl, bx, nm⟩ := s
  unfold aclear at h
  simp only at h
  split at h <;> try (exact h.elim)
  rename_i t l E0 k i n hT
  split at h <;> try (exact h.elim)
  rename_i E hsh
  split at h <;> try (exact h.elim)
  rename_i t' hE
  have hok := (hG.ok T t hT).sh
  rw [hsh] at hok
  simp only [shOk] at hok
  have hEok := hG.ok E t' hE
  obtain ⟨inf, z, hi, hi1, hi2, hz, hzl⟩ := hEok.info
  obtain ⟨hk, hn, hput⟩ := bchk_iff.1 h
  simp only [Bool.and_eq_true] at hk
  have hk1 := Nat.eq_of_beq_eq_true hk.1
  have hpos : 0 < t'.size := Nat.le_of_ble_eq_true hk.2
  subst hk1
  simp only [Rd] at hv
  obtain ⟨aa, c, A, c', h1, rfl, h2, h3, h4⟩ := hv
  obtain ⟨gg, rfl, rfl⟩ := h4 hn
  have hzs : z.cells.size = t'.size := by rw [← hEok.zlen, ← hzl]; simp
  have hrd : RdL w (Mut g.S0 b bx) noN (zrow t' n) (madeCells z.cells (n * t'.size)).toList := by
    rw [← zrow_made hEok hzl hpos n]
    exact RdL.vals _
  obtain ⟨w', bx', h5, h6, h7⟩ := aput_sound (P := P) (s := ⟨sl, bx, nm⟩) hput hr hrd h1
  refine ⟨w', ?_, _, b, h6, h7⟩
  have hzr : (zeroValue E).run P w = .ok z w := by simp [zeroValue, typeInfo, hi, hz]
  obtain ⟨m, rfl⟩ : ∃ m, n = m + 1 := ⟨n - 1, by omega⟩
  simp [Builtin.clear_, run_underlying hok, hzr, zeroCells_made hzs, h5]
/-! ### copy -/
/-- The cells of a slice that is read. -/
def asrc (bx : Bxs) (d : C) (R : Nat → Nat → List C → Prop) : Prop :=
  match d with
  | .sl _ k n _ cs => R k n cs
  | .own l _ k n => (match getB bx l with
    | some (.row _ k2 n2 cs) => bchk (Nat.beq k2 k) (n2 = n ∧ R k n cs)
    | _ => False)
  | .sub l _ k i n => (match getB bx l with
    | some (.row _ k2 n2 cs) => bchk (Nat.beq k2 k) (i + n ≤ n2 ∧ R k n ((cs.drop (i * k)).take (n * k)))
    | some (.cells _ _ cs) => bchk (noNameL cs) ((i + n) * k ≤ cs.length ∧ R k n ((cs.drop (i * k)).take (n * k)))
    | _ => False)
  | _ => False
/-- What is read where a slice lies. -/
structure SrcAt (w : World) (S : Nat → Prop) (v : Value) (k n : Nat) (cs : List C) : Prop where
  val : ∃ A c, v = .slice A n c ∧ cs.length = n * k ∧ (0 < n → ∃ gg off arr E fr, A = some ⟨gg, off, none⟩ ∧ w.heap[gg]? = some (.cells arr E fr) ∧ RdL w S noN cs ((arr.toList.drop off).take (n * k)))
theorem asrc_sound {bx : Bxs} {d : C} {R : Nat → Nat → List C → Prop} (h : asrc bx d R) {g : Ghost} {b : Names} {w : World} (hm : Mem g b bx w) {v : Value} (hv : Rd w (Mut g.S0 b bx) b d v) :
    ∃ k n cs, R k n cs ∧ SrcAt w (Mut g.S0 b bx) v k n cs := by
  unfold asrc at h
  split at h <;> try (exact h.elim)
  · rename_i E k n full cs
    simp only [Rd] at hv
    obtain ⟨A, c, rfl, h2, h3, h4, h5, h6⟩ := hv
    refine ⟨k, n, cs, h, ⟨A, c, rfl, h5, fun h0 => ?_⟩⟩
    rcases h6 with h6 | ⟨gg, off, arr, fr, rfl, hS, hg, hL⟩
    · omega
    · exact ⟨gg, off, arr, fr.1, fr.2, rfl, hg, hL⟩
  · rename_i l E k n
    split at h <;> try (exact h.elim)
    rename_i E2 k2 n2 cs hl
    obtain ⟨hk, rfl, hR⟩ := bchk_iff.1 h
    have hk := Nat.eq_of_beq_eq_true hk
    subst hk
    obtain ⟨aa, c, h4, hnc, hcm, hlen, h5⟩ := hm.boxes l _ (getB_mem hl)
    simp only [Rd] at hv
    obtain ⟨a, c2, h1, h2, rfl, h7, h8⟩ := hv
    rw [h4] at h1
    simp only [Option.some.injEq, Prod.mk.injEq] at h1
    obtain ⟨rfl, rfl⟩ := h1
    refine ⟨k2, n2, cs, hR, ⟨_, _, rfl, hlen, fun h0 => ?_⟩⟩
    cases aa with
    | none => have := h2 rfl; omega
    | some gg =>
      obtain ⟨arr, h9, h10, h11, h12⟩ := h5
      exact ⟨gg, 0, arr, E2, (0, 0), rfl, h9, by simpa using h12⟩
  · rename_i l E k i n
    split at h <;> try (exact h.elim)
    · rename_i E2 k2 n2 cs hl
      obtain ⟨hk, hin, hR⟩ := bchk_iff.1 h
      have hk := Nat.eq_of_beq_eq_true hk
      subst hk
      obtain ⟨aa, c, h4, hnc, hcm, hlen, h5⟩ := hm.boxes l _ (getB_mem hl)
      simp only [Rd] at hv
      obtain ⟨a, c2, A, c', h1, rfl, h7, h8, h9⟩ := hv
      rw [h4] at h1
      simp only [Option.some.injEq, Prod.mk.injEq] at h1
      obtain ⟨rfl, rfl⟩ := h1
      have hl2 : ((cs.drop (i * k2)).take (n * k2)).length = n * k2 := by
        rw [List.length_take, List.length_drop, hlen, ← Nat.sub_mul, Nat.min_eq_left]
        exact Nat.mul_le_mul_right _ (by omega)
      refine ⟨k2, n, _, hR, ⟨_, _, rfl, hl2, fun h0 => ?_⟩⟩
      obtain ⟨gg, rfl, rfl⟩ := h9 h0
      obtain ⟨arr, h9, h10, h11, h12⟩ := h5
      refine ⟨gg, i * k2, arr, E2, (0, 0), rfl, h9, ?_⟩
      have h14 := (h12.drop (i * k2)).take (n * k2)
      rw [List.drop_take, List.take_take, ← Nat.sub_mul] at h14
      rwa [Nat.min_eq_left (Nat.mul_le_mul_right _ (by omega))] at h14
    · rename_i E2 c0 cs hl
      obtain ⟨hno, hin, hR⟩ := bchk_iff.1 h
      obtain ⟨gg', arr, h4, h5, h6, h7⟩ := hm.boxes l _ (getB_mem hl)
      simp only [Rd] at hv
      obtain ⟨a, c2, A, c', h1, rfl, h8, h9, h10⟩ := hv
      rw [h4] at h1
      simp only [Option.some.injEq, Prod.mk.injEq] at h1
      obtain ⟨rfl, rfl⟩ := h1
      have hl2 : ((cs.drop (i * k)).take (n * k)).length = n * k := by
        rw [List.length_take, List.length_drop, Nat.add_mul] at *
        omega
      refine ⟨k, n, _, hR, ⟨_, _, rfl, hl2, fun h0 => ?_⟩⟩
      obtain ⟨gg, hgg, rfl⟩ := h10 h0
      cases hgg
      exact ⟨gg', i * k, arr, E2, (0, 0), rfl, h5, ((h7.anyNames (b' := noN) hno).drop (i * k)).take (n * k)⟩
/-- Where the cells of a copy go. -/
def adst (d : C) (R : Nat → Nat → Nat → Nat → Prop) : Prop :=
  match d with
  | .own l _ k n => R l k 0 n
  | .sub l _ k i n => R l k i n
  | _ => False
theorem adst_sound {d : C} {R : Nat → Nat → Nat → Nat → Prop} (h : adst d R) {w : World} {S : Nat → Prop} {b : Names} {v : Value} (hv : Rd w S b d v) :
    ∃ l k i n, R l k i n ∧ ∃ A c', v = .slice A n c' ∧ (0 < n → ∃ gg c, b l = some (some gg, c) ∧ A = some ⟨gg, i * k, none⟩) := by
  unfold adst at h
  split at h <;> try (exact h.elim)
  · rename_i l E k n
    simp only [Rd] at hv
    obtain ⟨a, c, h1, h2, rfl, h3, h4⟩ := hv
    refine ⟨l, k, 0, n, h, _, c, rfl, fun h0 => ?_⟩
    cases a with
    | none => have := h2 rfl; omega
    | some gg => exact ⟨gg, c, h1, by simp⟩
  · rename_i l E k i n
    simp only [Rd] at hv
    obtain ⟨a, c, A, c', h1, rfl, h2, h3, h4⟩ := hv
    refine ⟨l, k, i, n, h, _, _, rfl, fun h0 => ?_⟩
    obtain ⟨gg, rfl, rfl⟩ := h4 h0
    exact ⟨gg, c, h1, rfl⟩
def acopy (G : Tab) (T : Nat) (s : St) (dd ds : C) (dst : Option Nat) (K : St → Prop) : Prop :=
  match s with
  | ⟨sl, bx, nm⟩ => match G T with
    | some t => (match t.sh with
      | .slice E => (match G E with
        | some t' => adst dd fun l k i n => asrc bx ds fun k2 n2 cs => bchk (Nat.beq t'.size k && Nat.beq k2 k) (∃ m, min n2 n = m ∧ ((m = 0 ∧ slotK sl dst (.v (.int .i64 0)) fun sl => K ⟨sl, bx, nm⟩) ∨
            (0 < m ∧ slotK sl dst (.v (.int .i64 (m : Nat))) fun sl => aput bx l (i * k) (cs.take (m * k)) fun bx' => K ⟨sl, bx', nm⟩)))
        | none => False)
      | _ => False)
    | none => False
theorem acopy_sound {P : Program} {G : Tab} (hG : TabOk P G) {T T2 ty : Nat} {s : St} {dd ds : C} {dst : Option Nat} {K : St → Prop} (h : acopy G T s dd ds dst K) {g : Ghost} {b : Names} {a : Act} {w : World} (hr : Rel g s b a w) {vd vs : Value}
    (hd : Rd w (Mut g.S0 b s.bx) b dd vd) (hs : Rd w (Mut g.S0 b s.bx) b ds vs) :
    ∃ u w', (Builtin.copy_ #[T, T2] ty #[vd, vs]).run P w = .ok u w' ∧ Nxt g K (a.put dst u) w' := by
  obtain ⟨sl, bx, nm⟩ := s
  unfold acopy at h
  simp only at h
  split at h <;> try (exact h.elim)
  rename_i t hT
  split at h <;> try (exact h.elim)
  rename_i E hsh
  split at h <;> try (exact h.elim)
  rename_i t' hE
  have hok := (hG.ok T t hT).sh
  rw [hsh] at hok
  simp only [shOk] at hok
  have hEok := hG.ok E t' hE
  obtain ⟨l, k, i, n, h, A, c', rfl, hA⟩ := adst_sound h hd
  obtain ⟨k2, n2, cs, h, ⟨A2, c2, rfl, hlen, hcs⟩⟩ := asrc_sound h hr.mem hs
  obtain ⟨hk, m, rfl, h'⟩ := bchk_iff.1 h
  clear h
  simp only [Bool.and_eq_true] at hk
  have hk1 := Nat.eq_of_beq_eq_true hk.1
  have hk2 := Nat.eq_of_beq_eq_true hk.2
  subst hk1
  subst hk2
  rcases h' with ⟨h0, hK⟩ | ⟨h0, hK⟩
  · have hK := (slotK_iff (s := ⟨sl, bx, nm⟩)).1 hK
    refine ⟨.int .i64 0, w, ?_, _, b, ?_, hK⟩
    · have h00 : Nat.min n2 n = 0 := h0
      have hl : ∀ ad : Addr, (loadCells ad 0).run P w = .ok #[] w := fun ad => by simp [loadCells, loadCellsFrom]
      cases A2 <;> cases A <;> simp [Builtin.copy_, run_underlying hok, Builtin.lenOf, h00, sizeOf_run hEok, Builtin.firstCells, hl, storeCells, goInt]
    · have := hr.mem
      refine ⟨by have := hr.df; cases dst <;> simpa [Act.put] using this, RdL.slot hr dst (fun _ _ hn => ⟨rfl, hn⟩) (fun _ _ h => h) (by simp only [Rd]), hr.mem, hr.nm⟩
  · have hK := (slotK_iff (s := ⟨sl, bx, nm⟩)).1 hK
    have hn2 : 0 < n2 := by omega
    have hn : 0 < n := by omega
    obtain ⟨gg, c, hb, rfl⟩ := hA hn
    obtain ⟨g2, off, arr, E2, fr, rfl, hg, hL⟩ := hcs hn2
    have hm2 : min n2 n * t'.size ≤ n2 * t'.size := Nat.mul_le_mul_right _ (Nat.min_le_left ..)
    have hL2 := hL.take (min n2 n * t'.size)
    rw [List.take_take, Nat.min_eq_left hm2] at hL2
    have hlu : ((arr.toList.drop off).take (min n2 n * t'.size)).length = min n2 n * t'.size := by
      rw [← hL2.length, List.length_take, hlen, Nat.min_eq_left hm2]
    have hr1 : Rel g ⟨(⟨sl, bx, nm⟩ : St).slot dst (.v (.int .i64 ((min n2 n : Nat) : Int))), bx, nm⟩ b (a.put dst (.int .i64 ((min n2 n : Nat) : Int))) w :=
      ⟨by have := hr.df; cases dst <;> simpa [Act.put] using this, RdL.slot hr dst (fun _ _ hn => ⟨rfl, hn⟩) (fun _ _ h => h) (by simp only [Rd]), hr.mem, hr.nm⟩
    obtain ⟨w', bx', h5, h6, h7⟩ := aput_sound (P := P) (s := ⟨(⟨sl, bx, nm⟩ : St).slot dst (.v (.int .i64 ((min n2 n : Nat) : Int))), bx, nm⟩) hK hr1 hL2 hb
    refine ⟨.int .i64 ((min n2 n : Nat) : Int), w', ?_, _, b, h6, h7⟩
    have hc : ∀ j v, ((arr.toList.drop off).take (min n2 n * t'.size))[j]? = some v → w.cell? ((⟨g2, off, none⟩ : Addr).add (0 + j)) = some v := by
      intro j v hj
      rw [cell_block hg]
      have hj' : j < min n2 n * t'.size := by rw [← hlu]; exact (List.getElem?_eq_some_iff.1 hj).1
      rw [List.getElem?_take, if_pos (by omega), List.getElem?_drop] at hj
      simpa using hj
    have hload := run_loadFrom (P := P) (w := w) (a := ⟨g2, off, none⟩) ((arr.toList.drop off).take (min n2 n * t'.size)) 0 #[] hc
    rw [hlu] at hload
    have hload2 : (loadCellsFrom ⟨g2, off, none⟩ 0 (n2.min n * t'.size) #[]).run P w = .ok (#[] ++ ((arr.toList.drop off).take (min n2 n * t'.size)).toArray) w := hload
    simp [Builtin.copy_, run_underlying hok, Builtin.lenOf, sizeOf_run hEok, Builtin.firstCells, loadCells, hload2, goInt]
    rw [h5]
    rfl
end El
namespace El
open Go Go.RowKit
def isNil : C → Bool
  | .v (.slice none 0 0) => true
  | _ => false
/-- A slice held against nil: what the answer says of the length. -/
def anil (op : BinOp) (n : Nat) (s : St) (dst : Option Nat) (K : St → Prop) : Prop :=
  match s with
  | ⟨sl, bx, nm⟩ => match op with
    | .eql => ∀ t : Bool, (t = true → n = 0) → slotK sl dst (.v (.bool t)) fun l => K ⟨l, bx, nm⟩
    | .neq => ∀ t : Bool, (t = false → n = 0) → slotK sl dst (.v (.bool t)) fun l => K ⟨l, bx, nm⟩
    | _ => False
def astep (P : Program) (G : Tab) (lend : Option (List Nat)) (o : Oper) (s : St) (K : St → Prop) : Prop :=
  match o.op with
  | .store T a x => (match o.dst with
    | none => astore G T s (s.ev a) (s.ev x) K
    | some _ => False)
  | .mapUpdate T m k x => (match o.dst with
    | none => aupdate P G T s (s.ev m) (s.ev k) (s.ev x) K
    | some _ => False)
  | .next it isString => anext s (s.ev it) isString o.dst K
  | .binOp op T x y _ => (match s.ev x with
    | .sl _ _ n _ _ => (match G T, isNil (s.ev y) with
      | some t, true => (match t.sh with
        | .slice _ => anil op n s o.dst K
        | _ => False)
      | _, _ => False)
    | _ => ares' P G o s.ev s.bx fun d nb => putK s o.dst d nb K)
  | .call c => (match c.callee with
    | .builtin .append => (match c.args.toList, c.argTypes.toList, o.dst with
      | [x, y], [T, T'], some d => T = T' ∧ aappend G T d s (s.ev x) (s.ev y) K
      | _, _, _ => False)
    | .builtin .clear => (match c.args.toList, c.argTypes.toList, o.dst with
      | [x], [T], none => aclear G T s (s.ev x) K
      | _, _, _ => False)
    | .builtin .copy => (match c.args.toList, c.argTypes.toList with
      | [x, y], [T, _] => acopy G T s (s.ev x) (s.ev y) o.dst K
      | _, _ => False)
    | .value _ => (match lend with
      | none => ares' P G o s.ev s.bx fun d nb => putK s o.dst d nb K
      | some [] => ∃ ls, acallG P s c o.dst ls K
      | some (x :: ls) => acallG P s c o.dst (x :: ls) K)
    | _ => ares' P G o s.ev s.bx fun d nb => putK s o.dst d nb K)
  | _ => ares' P G o s.ev s.bx fun d nb => putK s o.dst d nb K
theorem ares_step {P : Program} {G : Tab} (hG : TabOk P G) {o : Oper} {s : St} {K : St → Prop} (h : ares' P G o s.ev s.bx fun d nb => putK s o.dst d nb K) {g : Ghost} {b : Names} {a : Act} {w : World}
    (hr : Rel g s b a w) (Q : Exit → Act → World → Prop) : o.wp P a w (Nxt g K) Q := by
  obtain ⟨r, nb, hK, hY⟩ := ares'_sound hG h
  have h1 := (putK_sound (w' := w) (v := undef) hr hK).1
  refine Runs.wp (hY g b s.bx w a.eval (fun _ h => h) hr.mem h1 fun x _ => hr.ev x) fun v w' hy => ?_
  exact (putK_sound (w' := w') hr hK).2 hy
theorem run_nil_eq {P : Program} {w : World} {T E : Nat} (ht : P.underlying T = some (.slice E)) (A : Option Addr) (n c : Nat) (op : BinOp) (hop : op = .eql ∨ op = .neq) (x y : Operand) :
    (do eqGuard op T x y (.slice A n c) (.slice none 0 0); binOp op T (.slice A n c) (.slice none 0 0) : Sem Value).run P w = .ok (.bool (if op = .eql then A.isNone else !A.isNone)) w := by
  have hg : (eqGuard op T x y (.slice A n c) (.slice none 0 0)).run P w = .ok () w := by
    rcases hop with rfl | rfl <;> simp [eqGuard]
  have he : (Op.equal T (.slice A n c) (.slice none 0 0)).run P w = .ok A.isNone w := by
    exact run_equal_slice_nil w T E A n c ht
  simp only [Sem.run_bind, hg, Result.andThen_ok]
  rcases hop with rfl | rfl
  · simp only [binOp, Sem.run_bind, he, Result.andThen_ok, Sem.run_pure, if_true]
  · simp only [binOp, Sem.run_bind, he, Result.andThen_ok, Sem.run_pure]
    simp
theorem putV {g : Ghost} {s : St} {b : Names} {a : Act} {w : World} (h : Rel g s b a w) (dst : Option Nat) {d : C} {v : Value} (hd : Rd w (Mut g.S0 b s.bx) b d v) :
    Rel g ⟨s.slot dst d, s.bx, s.nm⟩ b (a.put dst v) w :=
  ⟨by have := h.df; cases dst <;> simpa [Act.put] using this, RdL.slot h dst (fun _ _ hn => ⟨rfl, hn⟩) (fun _ _ h => h) hd, h.mem, h.nm⟩
theorem astep_sound {P : Program} {G : Tab} (hG : TabOk P G) {lend : Option (List Nat)} {o : Oper} {s : St} {K : St → Prop} (h : astep P G lend o s K) {g : Ghost} {b : Names} {a : Act} {w : World}
    (hr : Rel g s b a w) (Q : Exit → Act → World → Prop) : o.wp P a w (Nxt g K) Q := by
  unfold astep at h
  split at h
  · rename_i T ad x ho
    cases hd : o.dst with
    | some _ => simp [hd] at h
    | none =>
      simp only [hd] at h
      obtain ⟨w', h1, h2⟩ := astore_sound (P := P) hG h hr (hr.ev ad) (hr.ev x)
      refine Runs.wp (R := fun _ w' => Nxt g K a w') ?_ fun v w' hn => ?_
      · have : (execOp a.eval o).run P w = .ok .skip w' := by
          unfold execOp; rw [ho]
          simp only [Sem.run_bind, h1, Result.andThen_ok, Sem.run_pure]
        rw [this]
        exact h2
      · rw [hd]; exact hn
  · rename_i T m k x ho
    cases hd : o.dst with
    | some _ => simp [hd] at h
    | none =>
      simp only [hd] at h
      obtain ⟨w', h1, h2⟩ := aupdate_sound (P := P) hG h hr (hr.ev m) (hr.ev k) (hr.ev x)
      refine Runs.wp (R := fun _ w' => Nxt g K a w') ?_ fun v w' hn => ?_
      · have : (execOp a.eval o).run P w = .ok .skip w' := by
          unfold execOp; rw [ho]
          simp only [Sem.run_bind, h1, Result.andThen_ok, Sem.run_pure]
        rw [this]
        exact h2
      · rw [hd]; exact hn
  · rename_i it isString ho
    obtain ⟨v, w', h1, h2⟩ := anext_sound (P := P) h hr (hr.ev it) o.type
    refine Runs.wp (R := fun v w' => Nxt g K (a.put o.dst v) w') ?_ fun v w' hn => hn
    have : (execOp a.eval o).run P w = .ok (.value v) w' := by
      unfold execOp; rw [ho]
      simp only [Sem.run_bind, h1, Result.andThen_ok, Sem.run_pure]
    rw [this]
    exact h2
  · rename_i op T x y yT ho
    split at h
    · rename_i E k n f cs hx
      split at h
      · rename_i t hT hy
        have hok := (hG.ok T t hT).sh
        split at h
        · rename_i E' hsh
          rw [hsh] at hok
          simp only [shOk] at hok
          have hxr := hr.ev x
          have hyr := hr.ev y
          rw [hx] at hxr
          have hyv : s.ev y = .v (.slice none 0 0) := by
            unfold isNil at hy
            split at hy
            · assumption
            · cases hy
          rw [hyv] at hyr
          simp only [Rd] at hyr hxr
          obtain ⟨A, c, hxv, h2, h3, h4, h5, h6⟩ := hxr
          have hA : A.isNone = true → n = 0 := by
            intro hA
            rcases h6 with h6 | ⟨_, _, _, _, rfl, _⟩
            · exact h6
            · cases hA
          have hop : (op = .eql ∨ op = .neq) ∧ ∃ t : Bool, (if op = .eql then A.isNone else !A.isNone) = t ∧ slotK s.sl o.dst (.v (.bool t)) fun l => K ⟨l, s.bx, s.nm⟩ := by
            obtain ⟨sl, bx, nm⟩ := s
            simp only [anil] at h
            cases op <;> simp only at h <;> try (exact h.elim)
            · exact ⟨.inl rfl, _, rfl, by simpa using h A.isNone hA⟩
            · refine ⟨.inr rfl, _, rfl, ?_⟩
              have := h (!A.isNone) (fun e => hA (by simpa using e))
              simpa using this
          obtain ⟨hop, t', ht', hK⟩ := hop
          rw [slotK_iff] at hK
          refine Runs.wp (R := fun v w' => v = .bool t' ∧ w' = w) ?_ fun v w' hn => ?_
          · have h7 := run_nil_eq (P := P) (w := w) hok A n c op hop x y
            have : (execOp a.eval o).run P w = .ok (.value (.bool t')) w := by
              unfold execOp; rw [ho]
              simp only [hxv, hyr]
              simp only [Sem.run_bind] at h7 ⊢
              rw [h7, ht']
              simp
            rw [this]
            exact ⟨rfl, rfl⟩
          · obtain ⟨rfl, rfl⟩ := hn
            exact ⟨_, b, putV hr o.dst (by simp only [Rd]), hK⟩
        · exact h.elim
      · exact h.elim
    · exact ares_step hG h hr Q
  · rename_i c ho
    split at h
    · rename_i hc
      split at h
      · rename_i x y T T' d h1 h2 h3
        obtain ⟨rfl, h⟩ := h
        obtain ⟨v', w', hrun, hn⟩ := aappend_sound (P := P) (ty := o.type) hG h hr (hr.ev x) (hr.ev y)
        refine Runs.wp (R := fun v w' => Nxt g K (a.put (some d) v) w') ?_ fun v w' hn => ?_
        · have : (execOp a.eval o).run P w = .ok (.value v') w' := by
            have he : execOp a.eval o = builtin .append c.argTypes o.type (c.args.map fun | .const _ => true | _ => false) (c.args.map a.eval) := by
              unfold execOp; rw [ho]
              simp only [resolve, hc]
              rfl
            have ha : c.args.map a.eval = #[a.eval x, a.eval y] := by
              apply Array.toList_inj.1; simp [h1]
            have hat : c.argTypes = #[T, T] := by apply Array.toList_inj.1; simp [h2]
            rw [he, ha, hat]
            simp only [builtin, Sem.run_bind, hrun, Result.andThen_ok, Sem.run_pure]
          rw [this]
          exact hn
        · rw [h3]; exact hn
      · exact h.elim
    · rename_i hc
      split at h
      · rename_i x T h1 h2 h3
        obtain ⟨w', hrun, hn⟩ := aclear_sound (P := P) (ty := o.type) hG h hr (hr.ev x)
        refine Runs.wp (R := fun _ w' => Nxt g K a w') ?_ fun v w' hn => ?_
        · have : (execOp a.eval o).run P w = .ok (.value (.tuple #[])) w' := by
            have he : execOp a.eval o = builtin .clear c.argTypes o.type (c.args.map fun | .const _ => true | _ => false) (c.args.map a.eval) := by
              unfold execOp; rw [ho]
              simp only [resolve, hc]
              rfl
            have ha : c.args.map a.eval = #[a.eval x] := by
              apply Array.toList_inj.1; simp [h1]
            have hat : c.argTypes = #[T] := by apply Array.toList_inj.1; simp [h2]
            rw [he, ha, hat]
            simp only [builtin, Sem.run_bind, hrun, Result.andThen_ok, Sem.run_pure]
          rw [this]
          exact hn
        · rw [h3]; exact hn
      · exact h.elim
    · rename_i hc
      split at h
      · rename_i x y T T2 h1 h2
        obtain ⟨u, w', hrun, hn⟩ := acopy_sound (P := P) (T2 := T2) (ty := o.type) hG h hr (hr.ev x) (hr.ev y)
        refine Runs.wp (R := fun v w' => Nxt g K (a.put o.dst v) w') ?_ fun v w' hn => hn
        have : (execOp a.eval o).run P w = .ok (.value u) w' := by
          have he : execOp a.eval o = builtin .copy c.argTypes o.type (c.args.map fun | .const _ => true | _ => false) (c.args.map a.eval) := by
            unfold execOp; rw [ho]
            simp only [resolve, hc]
            rfl
          have ha : c.args.map a.eval = #[a.eval x, a.eval y] := by
            apply Array.toList_inj.1; simp [h1]
          have hat : c.argTypes = #[T, T2] := by apply Array.toList_inj.1; simp [h2]
          rw [he, ha, hat]
          simp only [builtin, Sem.run_bind, hrun, Result.andThen_ok, Sem.run_pure]
        rw [this]
        exact hn
      · exact h.elim
    · cases lend with
      | none => exact ares_step hG h hr Q
      | some ls => cases ls with
        | nil =>
          obtain ⟨ls, h⟩ := h
          exact acallG_sound ho h hr Q
        | cons x ls => exact acallG_sound ho h hr Q
    · exact ares_step hG h hr Q
  · exact ares_step hG h hr Q
/-! ### Guards -/
def gslot (ops : List Oper) (j : Nat) : Option Nat := match ops[j]? with
  | some o => o.dst
  | none => none
def skipK (s : St) (dst : Option Nat) (K : St → Prop) : Prop :=
  match s with
  | ⟨sl, bx, nm⟩ => slotK sl dst (.v undef) fun l => K ⟨l, bx, nm⟩
theorem skipK_eq (s : St) (dst : Option Nat) (K : St → Prop) : skipK s dst K = slotK s.sl dst (.v undef) fun l => K ⟨l, s.bx, s.nm⟩ := rfl
def gx (step : St → (St → Prop) → Prop) (s : St) (dst : Option Nat) (t : Nat) (q want : Bool) (K : St → Prop) : Prop :=
  match s with
  | ⟨sl, bx, nm⟩ => setK sl t (.v (.bool q)) fun l => match q, want with
    | true, true => step ⟨l, bx, nm⟩ K
    | false, false => step ⟨l, bx, nm⟩ K
    | true, false => skipK ⟨l, bx, nm⟩ dst K
    | false, true => skipK ⟨l, bx, nm⟩ dst K
theorem gx_eq (step : St → (St → Prop) → Prop) (s : St) (dst : Option Nat) (t : Nat) (q want : Bool) (K : St → Prop) : gx step s dst t q want K =
  setK s.sl t (.v (.bool q)) fun l => match q, want with
    | true, true => step ⟨l, s.bx, s.nm⟩ K
    | false, false => step ⟨l, s.bx, s.nm⟩ K
    | true, false => skipK ⟨l, s.bx, s.nm⟩ dst K
    | false, true => skipK ⟨l, s.bx, s.nm⟩ dst K := rfl
def guarded (ops : List Oper) (o : Oper) (step : St → (St → Prop) → Prop) (s : St) (K : St → Prop) : Prop :=
  match o.guard with
  | none => step s K
  | some (j, want) => match gslot ops j with
    | none => False
    | some t => match getC s.sl t with
      | .v (.bool p) => bcase p (gx step s o.dst t true want K) (gx step s o.dst t false want K)
      | .v (.tuple _) => skipK s o.dst K
      | _ => False
/-- A slot that surely holds a truth is said to hold it. -/
theorem setC_bool {s : St} {t : Nat} {q : Bool} (ht : getC s.sl t = .v (.bool q)) : setC s.sl t (.v (.bool q)) = s.sl := by
  have : ∀ (l : List C) (t : Nat), getC l t = .v (.bool q) → setC l t (.v (.bool q)) = l := by
    intro l
    induction l with
    | nil => intro t _; rfl
    | cons d l ih =>
      intro t ht
      cases t with
      | zero => simp only [getC] at ht; simp [setC, ht]
      | succ t => simp only [getC] at ht; simp [setC, ih t ht]
  exact this _ _ ht
theorem yielded_of {g : Ghost} {s : St} {b : Names} {a : Act} {w : World} (h : Rel g s b a w) {ops : List Oper} {j t : Nat} (hj : gslot ops j = some t) :
    (∀ q, getC s.sl t = .v (.bool q) → yielded ops.toArray a.tmps j = some q) ∧ (∀ vs, getC s.sl t = .v (.tuple vs) → yielded ops.toArray a.tmps j = none) := by
  have hb : ((ops.toArray[j]?).bind (·.dst)) = some t := by
    unfold gslot at hj
    split at hj
    · rename_i o ho; simp [ho, hj]
    · cases hj
  have hg := getC_rd h.sl t
  constructor
  · intro q hq
    rw [hq] at hg
    simp only [Rd, List.getD_eq_getElem?_getD, Array.getElem?_toList] at hg
    unfold yielded
    rw [hb]
    cases hx : a.tmps[t]? with
    | none => rw [hx] at hg; simp [undef] at hg
    | some v => rw [hx] at hg; simp only [Option.getD_some] at hg; subst hg; simp [hx]
  · intro vs hq
    rw [hq] at hg
    simp only [Rd, List.getD_eq_getElem?_getD, Array.getElem?_toList] at hg
    unfold yielded
    rw [hb]
    cases hx : a.tmps[t]? with
    | none => simp [hx]
    | some v => rw [hx] at hg; simp only [Option.getD_some] at hg; subst hg; simp [hx]
theorem skipK_sound {g : Ghost} {s : St} {b : Names} {a : Act} {w : World} (h : Rel g s b a w) {dst : Option Nat} {K : St → Prop} (hK : skipK s dst K) : Nxt g K (a.put dst undef) w := by
  rw [skipK_eq, slotK_iff] at hK
  exact ⟨_, b, putV h dst (by simp only [Rd]), hK⟩
/-- One operation with its guard. -/
theorem guarded_sound {P : Program} {ops : List Oper} {o : Oper} {step : St → (St → Prop) → Prop} {s : St} {K : St → Prop} (h : guarded ops o step s K) {g : Ghost} {b : Names} {a : Act} {w : World}
    (hr : Rel g s b a w) (Q : Exit → Act → World → Prop) (hstep : ∀ K', step s K' → o.wp P a w (Nxt g K') Q) :
    if Region.wanted o (yielded ops.toArray a.tmps) then o.wp P a w (Nxt g K) Q else Nxt g K (a.put o.dst undef) w := by
  unfold guarded at h
  cases hg : o.guard with
  | none =>
    simp only [hg] at h
    rw [if_pos (by simp [Region.wanted, hg])]
    exact hstep K h
  | some p =>
    obtain ⟨j, want⟩ := p
    simp only [hg] at h
    cases hj : gslot ops j with
    | none => simp [hj] at h
    | some t =>
      simp only [hj] at h
      have hy := yielded_of hr hj
      split at h
      · rename_i p hp
        have hyp := hy.1 p hp
        have key : ∀ q, p = q → gx step s o.dst t q want K → if Region.wanted o (yielded ops.toArray a.tmps) then o.wp P a w (Nxt g K) Q else Nxt g K (a.put o.dst undef) w := by
          rintro q rfl hx
          rw [gx_eq, setK_iff, setC_bool hp] at hx
          have hw : Region.wanted o (yielded ops.toArray a.tmps) = (p == want) := by
            simp only [Region.wanted, hg, hyp]
            cases p <;> cases want <;> rfl
          rw [hw]
          cases p <;> cases want <;> simp only at hx <;> first | exact hstep K hx | exact skipK_sound hr hx
        cases p with
        | true => exact key true rfl h
        | false => exact key false rfl h
      · rename_i vs hp
        have hyp := hy.2 vs hp
        have hw : Region.wanted o (yielded ops.toArray a.tmps) = false := by
          simp only [Region.wanted, hg, hyp]
          rfl
        rw [hw]
        exact skipK_sound hr h
      · exact h.elim
def aops (P : Program) (G : Tab) (lend : Option (List Nat)) (ops : List Oper) : List Oper → St → (St → Prop) → Prop
  | [], s, K => K s
  | o :: r, s, K => guarded ops o (astep P G lend o) s fun s' => aops P G lend ops r s' K
theorem aops_sound {P : Program} {G : Tab} (hG : TabOk P G) {lend : Option (List Nat)} {ops : List Oper} {g : Ghost} {K : St → Prop} {Q : Exit → Act → World → Prop} (hQ : ∀ a w, Nxt g K a w → Q .normal a w) :
    ∀ (l : List Oper) (s : St) (b : Names) (a : Act) (w : World), aops P G lend ops l s K → Rel g s b a w → wpList P ops.toArray Q l a w
  | [], s, b, a, w, h, hr => hQ a w ⟨s, b, hr, h⟩
  | o :: r, s, b, a, w, h, hr => by
    have hrest : ∀ a w, Nxt g (fun s' => aops P G lend ops r s' K) a w → wpList P ops.toArray Q r a w := by
      rintro a w ⟨s', b', hr', h'⟩
      exact aops_sound hG hQ r s' b' a w h' hr'
    have := guarded_sound (P := P) h hr Q fun K' hK => astep_sound hG hK hr Q
    simp only [wpList]
    split at this
    · rename_i hw
      rw [if_pos hw]
      refine .inl ?_
      unfold Oper.wp at this ⊢
      generalize (execOp a.eval o).run P w = res at this
      cases res with
      | ok n w' =>
        cases n <;> simp only [Oper.upon] at this ⊢
        case value => exact hrest _ _ this
        case skip => exact hrest _ _ this
        case defer => exact hrest _ _ this
        case row => exact this.mono fun v w' h => hrest _ _ h
        case enter =>
          refine this.mono fun e w' h => ?_
          cases e
          · exact hrest _ _ h
          · exact h
          · exact h
      | halt x w' => cases x <;> simp only [Oper.upon] at this ⊢ <;> exact this
    · rename_i hw
      rw [if_neg hw]
      exact hrest _ _ this
end El
namespace El
open Go Go.RowKit
def isStore (o : Oper) : Bool :=
  match o.op with
  | .store .. => true
  | _ => false
/-- The boxes that no store of the region writes. -/
def dropN (st : List Nat) : Bxs → Bxs
  | [] => []
  | (l, B) :: r => match elemN st l with
    | true => dropN st r
    | false => (l, B) :: dropN st r
def bxOf (rs : List Bool) (st : List Nat) (bx0 : Bxs) (i : Nat) : Bxs :=
  match rs[i]? with
  | some true => bx0
  | _ => dropN st bx0
/-- A store into a block that the region stores into but once. -/
def apst (G : Tab) (st used : List Nat) (o : Oper) (s : St) (K : Nat → St → Prop) : Prop :=
  match o.op, o.guard, o.dst with
  | .store T a x, none, none => (match s.ev a with
    | .ptr l off => bchk (elemN st l && !elemN used l) (astore G T s (.ptr l off) (s.ev x) (K l))
    | _ => False)
  | _, _, _ => False
/-- The first operations of a region, in the order of the text. -/
def apre (P : Program) (G : Tab) (ops : List Oper) (rs : List Bool) (st : List Nat) (bx0 : Bxs) : Nat → List Nat → List Oper → St → (St → Prop) → Prop
  | _, _, [], s, K => K s
  | i, used, o :: r, s, K => match isStore o with
    | true => apst G st used o s fun l s' => apre P G ops rs st bx0 (i + 1) (l :: used) r s' K
    | false => guarded ops o (fun s K => ares' P G o s.ev (bxOf rs st bx0 i) fun d nb => putK s o.dst d nb K) s fun s' => apre P G ops rs st bx0 (i + 1) used r s' K
def GuardSays (ops : List Oper) (o : Oper) (s : St) (ex : Bool) : Prop :=
  match o.guard with
  | none => ex = true
  | some (j, want) => ∃ t, gslot ops j = some t ∧ ((∃ p, getC s.sl t = .v (.bool p) ∧ ex = (p == want)) ∨ ∃ vs, getC s.sl t = .v (.tuple vs) ∧ ex = false)
def St.next (s : St) (dst : Option Nat) (d : C) (nb : Bxs) : St := ⟨s.slot dst d, nb ++ s.bx, nb.map (·.1) ++ s.nm⟩
/-- One block holds something else. -/
def St.up (s : St) : Option (Nat × Bx × Bx) → St
  | none => s
  | some (l, _, B') => ⟨s.sl, setB s.bx l B', s.nm⟩
/-- A store, wherever the block holds the same. -/
def StoreOf (G : Tab) (T : Nat) (da dx : C) (l : Nat) (B B' : Bx) : Prop :=
  ∀ (sl : List C) (bx : Bxs) (nm : List Nat), getB bx l = some B → astore G T ⟨sl, bx, nm⟩ da dx fun s' => s' = ⟨sl, setB bx l B', nm⟩
theorem astore_split {G : Tab} {T : Nat} {s : St} {l off : Nat} {dx : C} {K : St → Prop} (h : astore G T s (.ptr l off) dx K) : ∃ B B', getB s.bx l = some B ∧ K ⟨s.sl, setB s.bx l B', s.nm⟩ ∧ StoreOf G T (.ptr l off) dx l B B' := by
  obtain ⟨sl, bx, nm⟩ := s
  simp only [astore] at h
  rw [forceC_iff] at h
  cases hT : G T with
  | none => rw [hT] at h; exact h.elim
  | some t =>
    rw [hT] at h
    simp only at h
    cases hl : getB bx l with
    | none => rw [hl] at h; exact h.elim
    | some B =>
      rw [hl] at h
      cases B with
      | cells E c cs =>
        simp only at h
        obtain ⟨h0, h1, cs', h2, hK⟩ := bchk_iff.1 h
        rw [setBK_iff] at hK
        refine ⟨_, _, rfl, hK, fun sl bx nm hb => ?_⟩
        simp only [astore]
        rw [forceC_iff, hT]
        simp only [hb]
        rw [bchk_iff]
        exact ⟨h0, h1, cs', h2, by rw [setBK_iff]⟩
      | row E k n cs =>
        simp only at h
        obtain ⟨h0, h1, cs', h2, hK⟩ := bchk_iff.1 h
        rw [setBK_iff] at hK
        refine ⟨_, _, rfl, hK, fun sl bx nm hb => ?_⟩
        simp only [astore]
        rw [forceC_iff, hT]
        simp only [hb]
        rw [bchk_iff]
        exact ⟨h0, h1, cs', h2, by rw [setBK_iff]⟩
      | map _ => exact h.elim
      | iter _ _ _ => exact h.elim
      | str _ _ => exact h.elim
      | win _ _ _ _ _ _ => exact h.elim
/-- What a store of the text did. -/
structure Stored (G : Tab) (st : List Nat) (o : Oper) (s : St) (l : Nat) (B B' : Bx) : Prop where
  op : ∃ T a x off, o.op = .store T a x ∧ s.ev a = .ptr l off ∧ StoreOf G T (.ptr l off) (s.ev x) l B B'
  guard : o.guard = none
  dst : o.dst = none
  mem : getB s.bx l = some B
  st : l ∈ st
theorem elemN_true {l : List Nat} {m : Nat} (h : elemN l m = true) : m ∈ l := by
  induction l with
  | nil => simp [elemN] at h
  | cons x l ih =>
    simp only [elemN] at h
    split at h
    · rename_i e; rw [Nat.eq_of_beq_eq_true e]; exact List.mem_cons_self ..
    · exact List.mem_cons_of_mem _ (ih h)
theorem apst_did {G : Tab} {st used : List Nat} {o : Oper} {s : St} {K : Nat → St → Prop} (h : apst G st used o s K) : ∃ l B B', Stored G st o s l B B' ∧ l ∉ used ∧ K l (s.up (some (l, B, B'))) := by
  unfold apst at h
  split at h <;> try (exact h.elim)
  rename_i T a x ho hg hd
  split at h <;> try (exact h.elim)
  rename_i l off ha
  obtain ⟨h0, h⟩ := bchk_iff.1 h
  simp only [Bool.and_eq_true, Bool.not_eq_true'] at h0
  obtain ⟨B, B', h1, h2, h3⟩ := astore_split h
  exact ⟨l, B, B', ⟨⟨T, a, x, off, ho, ha, h3⟩, hg, hd, h1, elemN_true h0.1⟩, elemN_mem h0.2, h2⟩
/-- What one operation of the text did. -/
structure Did (P : Program) (ops : List Oper) (bx0 : Bxs) (o : Oper) (s : St) (ex : Bool) (d : C) (nb : Bxs) : Prop where
  says : GuardSays ops o s ex
  yes : ex = true → OpY P o s.ev bx0 d nb
  no : ex = false → d = .v undef ∧ nb = []
  fresh : ∀ p, p ∈ nb → p.1 ∉ s.nm
  one : nb.length ≤ 1
theorem putK_next {s : St} {dst : Option Nat} {d : C} {nb : Bxs} {K : St → Prop} (h : putK s dst d nb K) : (∀ p, p ∈ nb → p.1 ∉ s.nm) ∧ nb.length ≤ 1 ∧ K (s.next dst d nb) := by
  match nb, h with
  | [], h =>
    have h : slotK s.sl dst d fun l => K ⟨l, s.bx, s.nm⟩ := h
    rw [slotK_iff] at h
    exact ⟨by simp, by simp, h⟩
  | [(m, B)], h =>
    have h : bchk (!elemN s.nm m) (slotK s.sl dst d fun l => K ⟨l, (m, B) :: s.bx, m :: s.nm⟩) := h
    rw [bchk_iff, slotK_iff] at h
    refine ⟨fun p hp => ?_, by simp, h.2⟩
    simp only [List.mem_singleton] at hp
    subst hp
    exact elemN_mem (by simpa using h.1)
  | _ :: _ :: _, h => simp [putK] at h
theorem apre_did {P : Program} {G : Tab} (hG : TabOk P G) {ops : List Oper} {bx0 : Bxs} {o : Oper} {s : St} {K : St → Prop}
    (h : guarded ops o (fun s K => ares' P G o s.ev bx0 fun d nb => putK s o.dst d nb K) s K) : ∃ ex d nb, Did P ops bx0 o s ex d nb ∧ K (s.next o.dst d nb) := by
  have yes : ∀ {K}, GuardSays ops o s true → (ares' P G o s.ev bx0 fun d nb => putK s o.dst d nb K) → ∃ ex d nb, Did P ops bx0 o s ex d nb ∧ K (s.next o.dst d nb) := by
    intro K hs h
    obtain ⟨d, nb, hK, hY⟩ := ares'_sound hG h
    obtain ⟨h1, h2, h3⟩ := putK_next hK
    exact ⟨true, d, nb, ⟨hs, fun _ => hY, (fun e => by cases e), h1, h2⟩, h3⟩
  have no : ∀ {K}, GuardSays ops o s false → skipK s o.dst K → ∃ ex d nb, Did P ops bx0 o s ex d nb ∧ K (s.next o.dst d nb) := by
    intro K hs h
    rw [skipK_eq, slotK_iff] at h
    exact ⟨false, .v undef, [], ⟨hs, (fun e => by cases e), fun _ => ⟨rfl, rfl⟩, by simp, by simp⟩, h⟩
  unfold guarded at h
  cases hg : o.guard with
  | none =>
    simp only [hg] at h
    exact yes (by simp [GuardSays, hg]) h
  | some p =>
    obtain ⟨j, want⟩ := p
    simp only [hg] at h
    cases hj : gslot ops j with
    | none => simp [hj] at h
    | some t =>
      simp only [hj] at h
      split at h
      · rename_i p hp
        have key : ∀ q, p = q → gx (fun s K => ares' P G o s.ev bx0 fun d nb => putK s o.dst d nb K) s o.dst t q want K → ∃ ex d nb, Did P ops bx0 o s ex d nb ∧ K (s.next o.dst d nb) := by
          rintro q rfl hx
          rw [gx_eq, setK_iff, setC_bool hp] at hx
          have hs : GuardSays ops o s (p == want) := by
            simp only [GuardSays, hg]
            exact ⟨t, hj, .inl ⟨p, hp, rfl⟩⟩
          cases p <;> cases want <;> simp only at hx <;> first | exact yes hs hx | exact no hs hx
        cases p with
        | true => exact key true rfl h
        | false => exact key false rfl h
      · rename_i vs hp
        refine no ?_ h
        simp only [GuardSays, hg]
        exact ⟨t, hj, .inr ⟨vs, hp, by first | trivial | rfl⟩⟩
      · exact h.elim
/-- The text's own way through the first operations. -/
structure Way (P : Program) (G : Tab) (ops l : List Oper) (rs : List Bool) (stn : List Nat) (bx0 : Bxs) (i0 : Nat) (used : List Nat) (s s' : St) where
  st : Nat → St
  ex : Nat → Bool
  d : Nat → C
  nb : Nat → Bxs
  up : Nat → Option (Nat × Bx × Bx)
  first : st 0 = s
  last : st l.length = s'
  did : ∀ i o, l[i]? = some o → isStore o = false → up i = none ∧ Did P ops (bxOf rs stn bx0 (i0 + i)) o (st i) (ex i) (d i) (nb i)
  put : ∀ i o, l[i]? = some o → isStore o = true → nb i = [] ∧ ∃ m B B', up i = some (m, B, B') ∧ Stored G stn o (st i) m B B'
  next : ∀ i o, l[i]? = some o → st (i + 1) = ((st i).next o.dst (d i) (nb i)).up (up i)
  once : ∀ i j m B B' C C', i < l.length → j < l.length → up i = some (m, B, B') → up j = some (m, C, C') → i = j
  unused : ∀ i m B B', i < l.length → up i = some (m, B, B') → m ∉ used
theorem apre_way {P : Program} {G : Tab} (hG : TabOk P G) {ops : List Oper} {rs : List Bool} {stn : List Nat} {bx0 : Bxs} {K : St → Prop} : ∀ (l : List Oper) (i0 : Nat) (used : List Nat) (s : St),
    apre P G ops rs stn bx0 i0 used l s K → ∃ s', K s' ∧ Nonempty (Way P G ops l rs stn bx0 i0 used s s')
  | [], i0, used, s, h => ⟨s, h, ⟨⟨fun _ => s, fun _ => true, fun _ => .any, fun _ => [], fun _ => none, rfl, rfl, (fun i o ho => by simp at ho), (fun i o ho => by simp at ho), (fun i o ho => by simp at ho),
      (fun i j m B B' C C' h => by simp at h), (fun i m B B' h => by simp at h)⟩⟩⟩
  | o :: l, i0, used, s, h => by
    simp only [apre] at h
    cases hst : isStore o with
    | true =>
      rw [hst] at h
      obtain ⟨m, B, B', hput, hnu, h⟩ := apst_did h
      obtain ⟨s', hK, ⟨W⟩⟩ := apre_way hG l _ _ _ h
      refine ⟨s', hK, ⟨⟨fun i => match i with | 0 => s | i + 1 => W.st i, fun i => match i with | 0 => true | i + 1 => W.ex i, fun i => match i with | 0 => .any | i + 1 => W.d i,
        fun i => match i with | 0 => [] | i + 1 => W.nb i, fun i => match i with | 0 => some (m, B, B') | i + 1 => W.up i, rfl, W.last, ?_, ?_, ?_, ?_, ?_⟩⟩⟩
      · intro i o' ho hs
        cases i with
        | zero => simp only [List.getElem?_cons_zero, Option.some.injEq] at ho; subst ho; rw [hst] at hs; cases hs
        | succ i => simp only [List.getElem?_cons_succ] at ho; rw [show i0 + (i + 1) = i0 + 1 + i by omega]; exact W.did i o' ho hs
      · intro i o' ho hs
        cases i with
        | zero => simp only [List.getElem?_cons_zero, Option.some.injEq] at ho; subst ho; exact ⟨rfl, m, B, B', rfl, hput⟩
        | succ i => simp only [List.getElem?_cons_succ] at ho; exact W.put i o' ho hs
      · intro i o' ho
        cases i with
        | zero =>
          simp only [List.getElem?_cons_zero, Option.some.injEq] at ho; subst ho
          show W.st 0 = _
          rw [W.first]
          simp [St.next, St.slot, hput.dst, St.up]
        | succ i => simp only [List.getElem?_cons_succ] at ho; exact W.next i o' ho
      · intro i j x A A' D D' hi hj h1 h2
        simp only [List.length_cons] at hi hj
        cases i with
        | zero =>
          cases j with
          | zero => rfl
          | succ j =>
            simp only [Option.some.injEq, Prod.mk.injEq] at h1
            obtain ⟨rfl, _, _⟩ := h1
            exact absurd (List.mem_cons_self ..) (W.unused j _ _ _ (by omega) h2)
        | succ i =>
          cases j with
          | zero =>
            simp only [Option.some.injEq, Prod.mk.injEq] at h2
            obtain ⟨rfl, _, _⟩ := h2
            exact absurd (List.mem_cons_self ..) (W.unused i _ _ _ (by omega) h1)
          | succ j => rw [W.once i j x A A' D D' (by omega) (by omega) h1 h2]
      · intro i x A A' hi h1
        simp only [List.length_cons] at hi
        cases i with
        | zero =>
          simp only [Option.some.injEq, Prod.mk.injEq] at h1
          obtain ⟨rfl, _, _⟩ := h1
          exact hnu
        | succ i => exact fun hh => W.unused i x A A' (by omega) h1 (List.mem_cons_of_mem _ hh)
    | false =>
      rw [hst] at h
      obtain ⟨ex, d, nb, hdid, h⟩ := apre_did hG h
      obtain ⟨s', hK, ⟨W⟩⟩ := apre_way hG l _ _ _ h
      refine ⟨s', hK, ⟨⟨fun i => match i with | 0 => s | i + 1 => W.st i, fun i => match i with | 0 => ex | i + 1 => W.ex i, fun i => match i with | 0 => d | i + 1 => W.d i,
        fun i => match i with | 0 => nb | i + 1 => W.nb i, fun i => match i with | 0 => none | i + 1 => W.up i, rfl, W.last, ?_, ?_, ?_, ?_, ?_⟩⟩⟩
      · intro i o' ho hs
        cases i with
        | zero => simp only [List.getElem?_cons_zero, Option.some.injEq] at ho; subst ho; exact ⟨rfl, hdid⟩
        | succ i => simp only [List.getElem?_cons_succ] at ho; rw [show i0 + (i + 1) = i0 + 1 + i by omega]; exact W.did i o' ho hs
      · intro i o' ho hs
        cases i with
        | zero => simp only [List.getElem?_cons_zero, Option.some.injEq] at ho; subst ho; rw [hst] at hs; cases hs
        | succ i => simp only [List.getElem?_cons_succ] at ho; exact W.put i o' ho hs
      · intro i o' ho
        cases i with
        | zero => simp only [List.getElem?_cons_zero, Option.some.injEq] at ho; subst ho; exact W.first
        | succ i => simp only [List.getElem?_cons_succ] at ho; exact W.next i o' ho
      · intro i j x A A' D D' hi hj h1 h2
        simp only [List.length_cons] at hi hj
        cases i with
        | zero => cases h1
        | succ i =>
          cases j with
          | zero => cases h2
          | succ j => rw [W.once i j x A A' D D' (by omega) (by omega) h1 h2]
      · intro i x A A' hi h1
        simp only [List.length_cons] at hi
        cases i with
        | zero => cases h1
        | succ i => exact W.unused i x A A' (by omega) h1
theorem getC_setC_ne : ∀ (l : List C) {t u : Nat} (d : C), t ≠ u → getC (setC l t d) u = getC l u
  | [], _, _, _, _ => rfl
  | _ :: _, 0, 0, _, h => absurd rfl h
  | _ :: _, 0, _ + 1, _, _ => rfl
  | _ :: _, _ + 1, 0, _, _ => rfl
  | _ :: l, t + 1, u + 1, d, h => by simp only [setC, getC]; exact getC_setC_ne l d (by omega)
theorem getC_setC_eq : ∀ (l : List C) (t : Nat) (d : C), t < l.length → getC (setC l t d) t = d
  | [], _, _, h => by simp at h
  | _ :: _, 0, _, _ => rfl
  | _ :: l, t + 1, d, h => by simp only [setC, getC]; exact getC_setC_eq l t d (by simpa using h)
theorem getC_out : ∀ (l : List C) (t : Nat), l.length ≤ t → getC l t = .v undef
  | [], _, _ => rfl
  | _ :: _, 0, h => by simp at h
  | _ :: l, t + 1, h => by simp only [getC]; exact getC_out l t (by simpa using h)
theorem setC_length (l : List C) (t : Nat) (d : C) : (setC l t d).length = l.length := by rw [setC_eq]; simp
section
variable {P : Program} {G : Tab} {ops l : List Oper} {rs : List Bool} {stn : List Nat} {bx0 : Bxs} {i0 : Nat} {used : List Nat} {s s' : St}
theorem up_sl (s : St) (u : Option (Nat × Bx × Bx)) : (s.up u).sl = s.sl := by
  cases u <;> rfl
theorem up_nm (s : St) (u : Option (Nat × Bx × Bx)) : (s.up u).nm = s.nm := by
  cases u <;> rfl
theorem Way.keep (W : Way P G ops l rs stn bx0 i0 used s s') {t i : Nat} : ∀ j, i ≤ j → j ≤ l.length → (∀ k o, i ≤ k → k < j → l[k]? = some o → o.dst ≠ some t) → getC (W.st j).sl t = getC (W.st i).sl t := by
  intro j
  induction j with
  | zero => intro hi _ _; have : i = 0 := by omega
            subst this; rfl
  | succ j ih =>
    intro hi hj hne
    rcases Nat.eq_or_lt_of_le hi with rfl | hlt
    · rfl
    · rw [← ih (by omega) (by omega) fun k o h1 h2 => hne k o h1 (by omega)]
      obtain ⟨o, ho⟩ : ∃ o, l[j]? = some o := ⟨l[j], List.getElem?_eq_getElem (by omega)⟩
      rw [W.next j o ho, up_sl]
      have := hne j o (by omega) (by omega) ho
      cases hd : o.dst with
      | none => simp [St.next, St.slot]
      | some u =>
        simp only [St.next, St.slot]
        exact getC_setC_ne _ _ (fun e => this (by rw [hd, e]))
theorem Way.length (W : Way P G ops l rs stn bx0 i0 used s s') : ∀ j, j ≤ l.length → (W.st j).sl.length = s.sl.length := by
  intro j
  induction j with
  | zero => intro _; rw [W.first]
  | succ j ih =>
    intro hj
    obtain ⟨o, ho⟩ : ∃ o, l[j]? = some o := ⟨l[j], List.getElem?_eq_getElem (by omega)⟩
    rw [← ih (by omega), W.next j o ho, up_sl]
    cases hd : o.dst <;> simp [St.next, St.slot, setC_length]
theorem Way.at_ (W : Way P G ops l rs stn bx0 i0 used s s') {i t : Nat} {o : Oper} (ho : l[i]? = some o) (hd : o.dst = some t) (hu : ∀ k o, i < k → l[k]? = some o → o.dst ≠ some t) (ht : t < s.sl.length) : getC s'.sl t = W.d i := by
  have hi : i < l.length := (List.getElem?_eq_some_iff.1 ho).1
  have he : getC s'.sl t = getC (W.st l.length).sl t := by rw [W.last]
  rw [he, W.keep (i := i + 1) l.length (by omega) (Nat.le_refl _) fun k o h1 _ h2 => hu k o (by omega) h2, W.next i o ho, up_sl]
  simp only [St.next, hd, St.slot]
  exact getC_setC_eq _ _ _ (by rw [W.length i (by omega)]; exact ht)
theorem Way.nm (W : Way P G ops l rs stn bx0 i0 used s s') (m : Nat) : ∀ j, j ≤ l.length → (m ∈ (W.st j).nm ↔ m ∈ s.nm ∨ ∃ i, i < j ∧ ∃ p, p ∈ W.nb i ∧ p.1 = m) := by
  intro j
  induction j with
  | zero => intro _; rw [W.first]; simp
  | succ j ih =>
    intro hj
    obtain ⟨o, ho⟩ : ∃ o, l[j]? = some o := ⟨l[j], List.getElem?_eq_getElem (by omega)⟩
    rw [W.next j o ho, up_nm]
    simp only [St.next, List.mem_append, List.mem_map, ih (by omega)]
    constructor
    · rintro (⟨p, hp, rfl⟩ | h | ⟨i, hi, h⟩)
      · exact .inr ⟨j, by omega, p, hp, rfl⟩
      · exact .inl h
      · exact .inr ⟨i, by omega, h⟩
    · rintro (h | ⟨i, hi, p, hp, rfl⟩)
      · exact .inr (.inl h)
      · rcases Nat.lt_succ_iff_lt_or_eq.1 hi with h | rfl
        · exact .inr (.inr ⟨i, h, p, hp, rfl⟩)
        · exact .inl ⟨p, hp, rfl⟩
/-- What was there at the start of the text, or is new by then. -/
def Way.Orig (W : Way P G ops l rs stn bx0 i0 used s s') (j : Nat) (p : Nat × Bx) : Prop := p ∈ s.bx ∨ ∃ i, i < j ∧ p ∈ W.nb i
/-- The new names of two operations differ. -/
theorem Way.fresh (W : Way P G ops l rs stn bx0 i0 used s s') {i : Nat} {o : Oper} (ho : l[i]? = some o) : ∀ p, p ∈ W.nb i → p.1 ∉ (W.st i).nm := by
  cases hs : isStore o with
  | true => intro p hp; rw [(W.put i o ho hs).1] at hp; simp at hp
  | false => exact (W.did i o ho hs).2.fresh
theorem Way.one (W : Way P G ops l rs stn bx0 i0 used s s') {i : Nat} {o : Oper} (ho : l[i]? = some o) : (W.nb i).length ≤ 1 := by
  cases hs : isStore o with
  | true => rw [(W.put i o ho hs).1]; simp
  | false => exact (W.did i o ho hs).2.one
theorem Way.apart (W : Way P G ops l rs stn bx0 i0 used s s') {i j : Nat} (hi : i < l.length) (hj : j < l.length) (hij : i ≠ j) {p q : Nat × Bx} (hp : p ∈ W.nb i) (hq : q ∈ W.nb j) : p.1 ≠ q.1 := by
  have key : ∀ {i j : Nat}, i < j → j < l.length → ∀ {p q : Nat × Bx}, p ∈ W.nb i → q ∈ W.nb j → p.1 ≠ q.1 := by
    intro i j hij hj p q hp hq e
    obtain ⟨o, ho⟩ : ∃ o, l[j]? = some o := ⟨l[j], List.getElem?_eq_getElem hj⟩
    exact W.fresh ho q hq ((W.nm q.1 j (by omega)).2 (.inr ⟨i, hij, p, hp, e⟩))
  rcases Nat.lt_or_gt_of_ne hij with h | h
  · exact key h hj hp hq
  · exact fun e => key h hi hq hp e.symm
theorem Way.new (W : Way P G ops l rs stn bx0 i0 used s s') {i : Nat} (hi : i < l.length) {p : Nat × Bx} (hp : p ∈ W.nb i) : p.1 ∉ s.nm := by
  obtain ⟨o, ho⟩ : ∃ o, l[i]? = some o := ⟨l[i], List.getElem?_eq_getElem hi⟩
  exact fun h => W.fresh ho p hp ((W.nm p.1 i (by omega)).2 (.inl h))
theorem setB_get {bx : Bxs} {l : Nat} {B : Bx} (h : ∃ X, (l, X) ∈ bx) : (l, B) ∈ setB bx l B := by
  induction bx with
  | nil => obtain ⟨X, h⟩ := h; simp at h
  | cons p r ih =>
    obtain ⟨m, Y⟩ := p
    obtain ⟨X, h⟩ := h
    simp only [setB]
    split
    · rename_i e; rw [Nat.eq_of_beq_eq_true e]; exact List.mem_cons_self ..
    · rename_i e
      rcases List.mem_cons.1 h with h | h
      · cases h; simp at e
      · exact List.mem_cons_of_mem _ (ih ⟨X, h⟩)
theorem setB_ne {bx : Bxs} {l : Nat} {B : Bx} {m : Nat} {X : Bx} (h : m ≠ l) (hm : (m, X) ∈ bx) : (m, X) ∈ setB bx l B := by
  induction bx with
  | nil => simp at hm
  | cons p r ih =>
    obtain ⟨k, Y⟩ := p
    simp only [setB]
    rcases List.mem_cons.1 hm with e | hm
    · cases e
      split
      · rename_i e; exact absurd (Nat.eq_of_beq_eq_true e) h
      · exact List.mem_cons_self ..
    · split
      · exact List.mem_cons_of_mem _ hm
      · exact List.mem_cons_of_mem _ (ih hm)
theorem Way.pairs (W : Way P G ops l rs stn bx0 i0 used s s') (hs : s.bx.Pairwise fun p q => p.1 ≠ q.1) (hn : ∀ p, p ∈ s.bx → p.1 ∈ s.nm) : ∀ j, j ≤ l.length → (W.st j).bx.Pairwise (fun p q => p.1 ≠ q.1) ∧ ∀ p, p ∈ (W.st j).bx → p.1 ∈ (W.st j).nm := by
  intro j
  induction j with
  | zero => intro _; rw [W.first]; exact ⟨hs, hn⟩
  | succ j ih =>
    intro hj
    obtain ⟨o, ho⟩ : ∃ o, l[j]? = some o := ⟨l[j], List.getElem?_eq_getElem (by omega)⟩
    obtain ⟨h1, h2⟩ := ih (by omega)
    rw [W.next j o ho]
    have base : ((W.st j).next o.dst (W.d j) (W.nb j)).bx.Pairwise (fun p q => p.1 ≠ q.1) ∧ ∀ p, p ∈ ((W.st j).next o.dst (W.d j) (W.nb j)).bx → p.1 ∈ ((W.st j).next o.dst (W.d j) (W.nb j)).nm := by
      simp only [St.next]
      refine ⟨?_, fun p hp => ?_⟩
      · rw [List.pairwise_append]
        refine ⟨?_, h1, fun p hp q hq e => W.fresh ho p hp (e ▸ h2 q hq)⟩
        match hnb : W.nb j, W.one ho with
        | [], _ => exact List.Pairwise.nil
        | [_], _ => exact List.pairwise_singleton _ _
        | _ :: _ :: _, h => simp at h
      · rcases List.mem_append.1 hp with hp | hp
        · exact List.mem_append.2 (.inl (List.mem_map.2 ⟨p, hp, rfl⟩))
        · exact List.mem_append.2 (.inr (h2 p hp))
    generalize (W.st j).next o.dst (W.d j) (W.nb j) = s1 at base
    cases hu : W.up j with
    | none => exact base
    | some q =>
      obtain ⟨m, B, B'⟩ := q
      simp only [St.up]
      have hnames : (setB s1.bx m B').map (·.1) = s1.bx.map (·.1) := setB_names _ _ _
      refine ⟨?_, fun p hp => ?_⟩
      · have : ((setB s1.bx m B').map (·.1)).Pairwise (· ≠ ·) := by rw [hnames, List.pairwise_map]; exact base.1
        rwa [List.pairwise_map] at this
      · have : p.1 ∈ (setB s1.bx m B').map (·.1) := List.mem_map.2 ⟨p, hp, rfl⟩
        rw [hnames] at this
        obtain ⟨q, hq, e⟩ := List.mem_map.1 this
        rw [← e]; exact base.2 q hq
theorem Way.up_store (W : Way P G ops l rs stn bx0 i0 used s s') {i : Nat} {o : Oper} (ho : l[i]? = some o) {m : Nat} {B B' : Bx} (hu : W.up i = some (m, B, B')) : isStore o = true ∧ W.nb i = [] ∧ Stored G stn o (W.st i) m B B' := by
  cases hs : isStore o with
  | true =>
    obtain ⟨h1, m', C, C', h2, h3⟩ := W.put i o ho hs
    rw [hu] at h2; cases h2
    exact ⟨rfl, h1, h3⟩
  | false => rw [(W.did i o ho hs).1] at hu; cases hu
/-- What the text's boxes hold. -/
theorem Way.bx (W : Way P G ops l rs stn bx0 i0 used s s') (hs : s.bx.Pairwise fun p q => p.1 ≠ q.1) (hn : ∀ p, p ∈ s.bx → p.1 ∈ s.nm) (m : Nat) (B : Bx) : ∀ j, j ≤ l.length →
    ((m, B) ∈ (W.st j).bx ↔ (W.Orig j (m, B) ∧ ∀ k B1 B2, k < j → W.up k ≠ some (m, B1, B2)) ∨ ∃ k B1, k < j ∧ W.up k = some (m, B1, B)) := by
  intro j
  induction j with
  | zero =>
    intro _
    rw [W.first]
    unfold Way.Orig
    constructor
    · intro h; exact .inl ⟨.inl h, fun k _ _ hk => by omega⟩
    · rintro (⟨h | ⟨i, hi, _⟩, _⟩ | ⟨k, _, hk, _⟩)
      · exact h
      · omega
      · omega
  | succ j ih =>
    intro hj
    obtain ⟨o, ho⟩ : ∃ o, l[j]? = some o := ⟨l[j], List.getElem?_eq_getElem (by omega)⟩
    have ih := ih (by omega)
    have hpr := W.pairs hs hn j (by omega)
    rw [W.next j o ho]
    cases hu : W.up j with
    | none =>
      simp only [St.up, St.next, List.mem_append, ih]
      unfold Way.Orig
      constructor
      · rintro (h | ⟨h | ⟨i, hi, h⟩, h2⟩ | ⟨k, B1, hk, h⟩)
        · refine .inl ⟨.inr ⟨j, by omega, h⟩, fun k B1 B2 hk e => ?_⟩
          rcases Nat.lt_succ_iff_lt_or_eq.1 hk with hk | rfl
          · obtain ⟨ok, hok⟩ : ∃ o, l[k]? = some o := ⟨l[k], List.getElem?_eq_getElem (by omega)⟩
            have h3 := (W.up_store hok e).2.2.mem
            have h4 := (W.pairs hs hn k (by omega)).2 _ (getB_mem h3)
            have h5 := (W.nm m k (by omega)).1 h4
            refine W.fresh ho _ h ((W.nm m j (by omega)).2 ?_)
            rcases h5 with h5 | ⟨i, hi, h5⟩
            · exact .inl h5
            · exact .inr ⟨i, by omega, h5⟩
          · rw [hu] at e; cases e
        · exact .inl ⟨.inl h, fun k B1 B2 hk e => by
            rcases Nat.lt_succ_iff_lt_or_eq.1 hk with hk | rfl
            · exact h2 k B1 B2 hk e
            · rw [hu] at e; cases e⟩
        · exact .inl ⟨.inr ⟨i, by omega, h⟩, fun k B1 B2 hk e => by
            rcases Nat.lt_succ_iff_lt_or_eq.1 hk with hk | rfl
            · exact h2 k B1 B2 hk e
            · rw [hu] at e; cases e⟩
        · exact .inr ⟨k, B1, by omega, h⟩
      · rintro (⟨h | ⟨i, hi, h⟩, h2⟩ | ⟨k, B1, hk, h⟩)
        · exact .inr (.inl ⟨.inl h, fun k B1 B2 hk => h2 k B1 B2 (by omega)⟩)
        · rcases Nat.lt_succ_iff_lt_or_eq.1 hi with hi | rfl
          · exact .inr (.inl ⟨.inr ⟨i, hi, h⟩, fun k B1 B2 hk => h2 k B1 B2 (by omega)⟩)
          · exact .inl h
        · rcases Nat.lt_succ_iff_lt_or_eq.1 hk with hk | rfl
          · exact .inr (.inr ⟨k, B1, hk, h⟩)
          · rw [hu] at h; cases h
    | some q =>
      obtain ⟨x, C, C'⟩ := q
      obtain ⟨_, hnb, hst⟩ := W.up_store ho hu
      simp only [St.up, St.next, hnb, List.nil_append]
      have hxm := getB_mem hst.mem
      by_cases hx : m = x
      · subst hx
        constructor
        · intro h
          rcases mem_setB hpr.1 hxm m B h with ⟨_, rfl⟩ | ⟨hne, _⟩
          · exact .inr ⟨j, C, by omega, hu⟩
          · exact absurd rfl hne
        · rintro (⟨_, h2⟩ | ⟨k, B1, hk, h⟩)
          · exact absurd hu (h2 j C C' (by omega))
          · have := W.once k j m B1 B C C' (by omega) (by omega) h hu
            subst this
            rw [hu] at h; cases h
            exact setB_get ⟨_, hxm⟩
      · have horig : W.Orig (j + 1) (m, B) ↔ W.Orig j (m, B) := by
          unfold Way.Orig
          constructor
          · rintro (h | ⟨i, hi, h⟩)
            · exact .inl h
            · rcases Nat.lt_succ_iff_lt_or_eq.1 hi with hi | rfl
              · exact .inr ⟨i, hi, h⟩
              · rw [hnb] at h; simp at h
          · rintro (h | ⟨i, hi, h⟩)
            · exact .inl h
            · exact .inr ⟨i, by omega, h⟩
        rw [horig]
        have hmem : (m, B) ∈ setB (W.st j).bx x C' ↔ (m, B) ∈ (W.st j).bx := by
          constructor
          · intro h
            rcases mem_setB hpr.1 hxm m B h with ⟨e, _⟩ | ⟨_, h⟩
            · exact absurd e hx
            · exact h
          · exact setB_ne hx
        rw [hmem, ih]
        constructor
        · rintro (⟨h, h2⟩ | ⟨k, B1, hk, h⟩)
          · refine .inl ⟨h, fun k B1 B2 hk e => ?_⟩
            rcases Nat.lt_succ_iff_lt_or_eq.1 hk with hk | rfl
            · exact h2 k B1 B2 hk e
            · rw [hu] at e; cases e; exact hx rfl
          · exact .inr ⟨k, B1, by omega, h⟩
        · rintro (⟨h, h2⟩ | ⟨k, B1, hk, h⟩)
          · exact .inl ⟨h, fun k B1 B2 hk => h2 k B1 B2 (by omega)⟩
          · rcases Nat.lt_succ_iff_lt_or_eq.1 hk with hk | rfl
            · exact .inr ⟨k, B1, hk, h⟩
            · rw [hu] at h; cases h; exact absurd rfl hx
end
end El
namespace El
open Go Go.RowKit
def tmpsOf (o : Oper) : List Nat := o.op.operands.toList.filterMap fun
  | .tmp t => some t
  | _ => none
def usesOf (l : List Oper) (o : Oper) : List Nat := (match o.guard with
  | some (j, _) => (gslot l j).toList
  | none => []) ++ tmpsOf o
def preB (l : List Oper) (n : Nat) : Bool :=
  (List.range n).all fun i => match l[i]? with
    | none => false
    | some o => o.after.all (fun e => !Region.binds .any e || decide (e.on < i)) &&
        (usesOf l o).all (fun t => (List.range n).all fun j => match l[j]? with
          | some oj => oj.dst != some t || (decide (j < i) && Region.waitsFor .any l.toArray i j) || (decide (i < j) && Region.waitsFor .any l.toArray j i)
          | none => true) &&
        (List.range n).all fun j => j == i || match l[j]? with
          | some oj => oj.dst != o.dst || o.dst.isNone
          | none => true
structure PreOk (l : List Oper) (n : Nat) : Prop where
  le : n ≤ l.length
  back : ∀ i o, i < n → l[i]? = some o → ∀ e, e ∈ o.after → Region.binds .any e = true → e.on < i
  use : ∀ i o, i < n → l[i]? = some o → ∀ t, t ∈ usesOf l o → ∀ j oj, j < n → l[j]? = some oj → oj.dst = some t → (j < i ∧ Region.waitsFor .any l.toArray i j = true) ∨ (i < j ∧ Region.waitsFor .any l.toArray j i = true)
  uniq : ∀ i o, i < n → l[i]? = some o → ∀ j oj, j < n → l[j]? = some oj → oj.dst = o.dst → j = i ∨ o.dst = none
theorem PreOk.of {l : List Oper} {n : Nat} (h : preB l n = true) : PreOk l n := by
  unfold preB at h
  rw [List.all_eq_true] at h
  have hle : n ≤ l.length := by
    rcases Nat.lt_or_ge l.length n with hlt | hge
    · have := h l.length (List.mem_range.2 hlt)
      simp at this
    · exact hge
  have key : ∀ i o, i < n → l[i]? = some o → (o.after.all (fun e => !Region.binds .any e || decide (e.on < i)) = true) ∧
      ((usesOf l o).all (fun t => (List.range n).all fun j => match l[j]? with
          | some oj => oj.dst != some t || (decide (j < i) && Region.waitsFor .any l.toArray i j) || (decide (i < j) && Region.waitsFor .any l.toArray j i)
          | none => true) = true) ∧
      ((List.range n).all fun j => j == i || match l[j]? with
          | some oj => oj.dst != o.dst || o.dst.isNone
          | none => true) = true := by
    intro i o hi ho
    have := h i (List.mem_range.2 hi)
    simp only [ho, Bool.and_eq_true] at this
    exact ⟨this.1.1, this.1.2, this.2⟩
  refine ⟨hle, ?_, ?_, ?_⟩
  · intro i o hi ho e he hb
    have h1 := Array.all_eq_true'.1 (key i o hi ho).1 e he
    simpa [hb] using h1
  · intro i o hi ho t ht j oj hj hoj hd
    have h1 := List.all_eq_true.1 (key i o hi ho).2.1 t ht
    have h2 := List.all_eq_true.1 h1 j (List.mem_range.2 hj)
    simpa [hoj, hd] using h2
  · intro i o hi ho j oj hj hoj hd
    have h1 := List.all_eq_true.1 (key i o hi ho).2.2 j (List.mem_range.2 hj)
    simpa [hoj, hd] using h1
/-- Those that may read what the region stores: the stores wait for them. -/
def chkB (l : List Oper) (n : Nat) (rs : List Bool) : Bool :=
  (List.range n).all fun i => match rs[i]? with
    | some true => (List.range n).all fun k => match l[k]? with
      | some o => !isStore o || Region.waitsFor .any l.toArray k i
      | none => true
    | _ => true
theorem chkB_of {l : List Oper} {n : Nat} {rs : List Bool} (h : chkB l n rs = true) {i k : Nat} {o : Oper} (hi : i < n) (hr : rs[i]? = some true) (hk : k < n) (ho : l[k]? = some o) (hs : isStore o = true) : Region.waitsFor .any l.toArray k i = true := by
  unfold chkB at h
  have h1 := List.all_eq_true.1 h i (List.mem_range.2 hi)
  simp only [hr] at h1
  have h2 := List.all_eq_true.1 h1 k (List.mem_range.2 hk)
  simpa [ho, hs] using h2
/-- Where the region stands when some of the first operations have been carried out. -/
structure AInv {P : Program} {G : Tab} {l : List Oper} {n : Nat} {rs : List Bool} {stn : List Nat} {s s' : St} (W : Way P G l (l.take n) rs stn s.bx 0 [] s s') (g : Ghost) (listed : Array Bool) (b : Names) (bxc : Bxs) (a : Act) (w : World) : Prop where
  head : HeadInv .any l.toArray n listed
  df : a.defers = []
  len : a.tmps.size = s.sl.length
  slots : ∀ t, (∀ i o, i < n → l[i]? = some o → o.dst = some t → listed.getD i false = true) → Rd w (Mut g.S0 b bxc) b (getC s'.sl t) (a.tmps.getD t undef)
  slots0 : ∀ t, (∀ i o, i < n → l[i]? = some o → o.dst = some t → listed.getD i false = false) → Rd w (Mut g.S0 b bxc) b (getC s.sl t) (a.tmps.getD t undef)
  mem : Mem g b bxc w
  bxs : ∀ m B, (m, B) ∈ bxc ↔ (((m, B) ∈ s.bx ∨ ∃ i, i < n ∧ listed.getD i false = true ∧ (m, B) ∈ W.nb i) ∧ ∀ k B1 B2, k < n → listed.getD k false = true → W.up k ≠ some (m, B1, B2)) ∨
    ∃ k B1, k < n ∧ listed.getD k false = true ∧ W.up k = some (m, B1, B)
  nm : ∀ m, b m ≠ none → m ∈ s.nm ∨ ∃ i, i < n ∧ listed.getD i false = true ∧ ∃ p, p ∈ W.nb i ∧ p.1 = m
theorem take_at {l : List Oper} {n i : Nat} (hi : i < n) : (l.take n)[i]? = l[i]? := by rw [List.getElem?_take, if_pos hi]
theorem RdL_of {w : World} {S : Nat → Prop} {b : Names} : ∀ {ds : List C} {us : List Value}, ds.length = us.length → (∀ t, Rd w S b (getC ds t) (us.getD t undef)) → RdL w S b ds us
  | [], [], _, _ => by simp [RdL]
  | _ :: _, [], h, _ => by simp at h
  | [], _ :: _, h, _ => by simp at h
  | d :: ds, u :: us, h, hr => by
    simp only [RdL]
    refine ⟨by simpa [getC] using hr 0, RdL_of (by simpa using h) fun t => ?_⟩
    simpa [getC] using hr (t + 1)
theorem AInv.step {P : Program} {G : Tab} (hG : TabOk P G) {l : List Oper} {n : Nat} {rs : List Bool} {stn : List Nat} {s s' : St} {W : Way P G l (l.take n) rs stn s.bx 0 [] s s'} {g : Ghost} {listed : Array Bool} {b : Names} {bxc : Bxs} {a : Act} {w : World}
    (hp : PreOk l n) (hrs : chkB l n rs = true) (hs0 : s.bx.Pairwise fun p q => p.1 ≠ q.1) (hn0 : ∀ p, p ∈ s.bx → p.1 ∈ s.nm) (h : AInv W g listed b bxc a w) {i : Nat} (hi : i ∈ Region.ready .any l.toArray listed) (hin : i < n) {Q : Exit → Act → World → Prop} {K : Act → World → Prop}
    (hK : ∀ a' w' b' bxc', AInv W g (listed.setIfInBounds i true) b' bxc' a' w' → K a' w') : wpOp P l.toArray Q i K a w := by
  obtain ⟨hun, o, ho', hall⟩ := mem_ready.1 hi
  have ho : l[i]? = some o := by simpa using ho'
  have hlen : (l.take n).length = n := by rw [List.length_take]; exact Nat.min_eq_left hp.le
  have hot : (l.take n)[i]? = some o := by rw [take_at hin]; exact ho
  have hil : i < listed.size := by
    rw [h.head.size]; simp only [List.size_toArray]
    exact (List.getElem?_eq_some_iff.1 ho).1
  have hns : s'.sl.length = s.sl.length := by
    have := W.length (l.take n).length (Nat.le_refl _)
    rwa [W.last] at this
  -- what the operation reads
  have hread : ∀ t, t ∈ usesOf l o → Rd w (Mut g.S0 b bxc) b (getC (W.st i).sl t) (a.tmps.getD t undef) := by
    intro t ht
    by_cases hlate : ∃ j oj, j < n ∧ l[j]? = some oj ∧ oj.dst = some t ∧ i < j
    · obtain ⟨j, oj, hj, hoj, hd, hij⟩ := hlate
      have hwj : Region.waitsFor .any l.toArray j i = true := by
        rcases hp.use i o hin ho t ht j oj hj hoj hd with ⟨h1, _⟩ | ⟨_, h1⟩
        · omega
        · exact h1
      have hjun : listed.getD j false = false := by
        cases hl : listed.getD j false with
        | false => rfl
        | true =>
          exfalso
          obtain ⟨o2, ho2, e, he, hb, hon⟩ := Region.waitsFor_spec hwj
          have := h.head.closed j o2 ho2 hl e he hb
          rw [hon, getD_both hun] at this; cases this
      have honly : ∀ k ok, k < n → l[k]? = some ok → ok.dst = some t → k = j := by
        intro k ok hk hok hdk
        rcases hp.uniq j oj hj hoj k ok hk hok (by rw [hdk, hd]) with h1 | h1
        · exact h1
        · rw [hd] at h1; cases h1
      have h1 := h.slots0 t fun k ok hk hok hdk => by rw [honly k ok hk hok hdk]; exact hjun
      have h2 : getC (W.st i).sl t = getC s.sl t := by
        have := W.keep (t := t) (i := 0) i (Nat.zero_le _) (by omega) fun k ok _ hk2 hok hdk => by
          have hkn : k < n := by omega
          rw [take_at hkn] at hok
          have := honly k ok hkn hok hdk
          omega
        rw [W.first] at this
        exact this
      rwa [h2]
    · have hearly : ∀ j oj, j < n → l[j]? = some oj → oj.dst = some t → j < i ∧ Region.waitsFor .any l.toArray i j = true := by
        intro j oj hj hoj hd
        rcases hp.use i o hin ho t ht j oj hj hoj hd with h1 | ⟨h1, _⟩
        · exact h1
        · exact absurd ⟨j, oj, hj, hoj, hd, h1⟩ hlate
      have h1 := h.slots t fun j oj hj hoj hd => by
        obtain ⟨hlt, hw⟩ := hearly j oj hj hoj hd
        obtain ⟨o2, ho2, e, he, hb, hon⟩ := Region.waitsFor_spec hw
        rw [ho'] at ho2; cases ho2
        have := hall e he hb
        rwa [hon] at this
      have h2 : getC s'.sl t = getC (W.st i).sl t := by
        have := W.keep (t := t) (i := i) (l.take n).length (by omega) (Nat.le_refl _) fun k ok hk1 hk2 hok hd => by
          have hkn : k < n := by omega
          rw [take_at hkn] at hok
          have := (hearly k ok hkn hok hd).1
          omega
        rw [W.last] at this
        exact this
      rwa [h2] at h1
  have hset : ∀ j, (listed.setIfInBounds i true).getD j false = true ↔ j = i ∨ listed.getD j false = true := by
    intro j
    by_cases hij : i = j
    · subst hij; simp [hil]
    · rw [getD_set_ne false hij]
      simp [Ne.symm hij]
  cases hs : isStore o
  · -- one that turns nothing
    have hdid := (W.did i o hot hs).2
    have hup := (W.did i o hot hs).1
    have hsub : Sub (bxOf rs stn s.bx (0 + i)) bxc := by
      rw [Nat.zero_add]
      rintro ⟨m, B⟩ hp'
      have key : (m, B) ∈ s.bx ∧ ∀ k B1 B2, k < n → listed.getD k false = true → W.up k ≠ some (m, B1, B2) := by
        have hst : ∀ k B1 B2, k < n → W.up k = some (m, B1, B2) → m ∈ stn ∧ ∃ ok, l[k]? = some ok ∧ isStore ok = true := by
          intro k B1 B2 hk hu
          have hkl : k < (l.take n).length := by omega
          have hok := List.getElem?_eq_getElem hkl
          have h1 := W.up_store hok hu
          refine ⟨h1.2.2.st, _, ?_, h1.1⟩
          rw [← take_at hk]; exact hok
        unfold bxOf at hp'
        split at hp'
        · rename_i hr
          refine ⟨hp', fun k B1 B2 hk hkl hu => ?_⟩
          obtain ⟨_, ok, hok, hsk⟩ := hst k B1 B2 hk hu
          have h1 := chkB_of hrs hin hr hk hok hsk
          obtain ⟨o2, ho2, e, he, hb, hon⟩ := Region.waitsFor_spec h1
          have h2 := h.head.closed k o2 ho2 hkl e he hb
          rw [hon, getD_both hun] at h2; cases h2
        · have hdrop : ∀ (bx : Bxs), (m, B) ∈ dropN stn bx → (m, B) ∈ bx ∧ m ∉ stn := by
            intro bx
            induction bx with
            | nil => intro h; simp [dropN] at h
            | cons q r ih =>
              obtain ⟨z, C⟩ := q
              intro h
              simp only [dropN] at h
              split at h
              · exact ⟨List.mem_cons_of_mem _ (ih h).1, (ih h).2⟩
              · rename_i e
                rcases List.mem_cons.1 h with e2 | h
                · cases e2; exact ⟨List.mem_cons_self .., elemN_mem e⟩
                · exact ⟨List.mem_cons_of_mem _ (ih h).1, (ih h).2⟩
          obtain ⟨h1, h2⟩ := hdrop _ hp'
          exact ⟨h1, fun k B1 B2 hk _ hu => h2 (hst k B1 B2 hk hu).1⟩
      exact (h.bxs m B).2 (.inl ⟨.inl key.1, key.2⟩)
    -- its guard
    have hw : Region.wanted o (yielded l.toArray a.tmps) = W.ex i := by
      have hs := hdid.says
      unfold GuardSays at hs
      cases hg : o.guard with
      | none => rw [hg] at hs; simp only at hs; rw [hs]; simp [Region.wanted, hg]
      | some p =>
        obtain ⟨j, want⟩ := p
        rw [hg] at hs
        simp only at hs
        obtain ⟨t, hj, hs⟩ := hs
        have hr := hread t (by simp [usesOf, hg, hj])
        have hb : ((l.toArray[j]?).bind (·.dst)) = some t := by
          unfold gslot at hj
          split at hj
          · rename_i o ho; simp [ho, hj]
          · cases hj
        rcases hs with ⟨p, h1, h2⟩ | ⟨vs, h1, h2⟩
        · rw [h1] at hr
          simp only [Rd, Array.getD_eq_getD_getElem?] at hr
          have hy : yielded l.toArray a.tmps j = some p := by
            unfold yielded
            rw [hb]
            cases hx : a.tmps[t]? with
            | none => rw [hx] at hr; simp [undef] at hr
            | some v => rw [hx] at hr; simp only [Option.getD_some] at hr; subst hr; simp [hx]
          rw [h2]
          simp only [Region.wanted, hg, hy]
          cases p <;> cases want <;> rfl
        · rw [h1] at hr
          simp only [Rd, Array.getD_eq_getD_getElem?] at hr
          have hy : yielded l.toArray a.tmps j = none := by
            unfold yielded
            rw [hb]
            cases hx : a.tmps[t]? with
            | none => simp [hx]
            | some v => rw [hx] at hr; simp only [Option.getD_some] at hr; subst hr; simp [hx]
          rw [h2]
          simp only [Region.wanted, hg, hy]
          rfl
    -- what holds behind it
    have hnext : ∀ v w', YPost g b bxc (W.nb i) w (W.d i) v w' → K (a.put o.dst v) w' := by
      rintro v w' ⟨b', h1, h2, h3, h4, h5, h6⟩
      have hkeep : ∀ x, x < w.heap.size → ¬ Mut g.S0 b bxc x → w'.heap[x]? = w.heap[x]? ∧ ¬ Mut g.S0 b' (W.nb i ++ bxc) x := fun x hx hn => ⟨h3.block x hx, h5 x hx hn⟩
      refine hK _ _ b' (W.nb i ++ bxc) ⟨h.head.set hi hin, ?_, ?_, ?_, ?_, h4, ?_, ?_⟩
      · have := h.df; cases o.dst <;> simpa [Act.put] using this
      · have := h.len; cases o.dst <;> simpa [Act.put] using this
      · intro t ht
        by_cases hd : o.dst = some t
        · by_cases hlt : t < s.sl.length
          · have hd' : getC s'.sl t = W.d i := W.at_ hot hd (fun k ok hk hok hdk => by
              have hkn : k < n := by
                have := (List.getElem?_eq_some_iff.1 hok).1
                rw [hlen] at this; exact this
              rw [take_at hkn] at hok
              rcases hp.uniq i o hin ho k ok hkn hok (by rw [hdk, hd]) with h | h
              · omega
              · rw [hd] at h; cases h) hlt
            rw [hd', hd]
            have : (a.put (some t) v).tmps.getD t undef = v := by
              simp only [Act.put, Array.getD_eq_getD_getElem?, Array.getElem?_setIfInBounds]
              simp [h.len, hlt]
            rw [this]
            exact h6
          · rw [getC_out s'.sl t (by rw [hns]; exact Nat.le_of_not_lt hlt), hd]
            have : (a.put (some t) v).tmps.getD t undef = undef := by
              simp only [Act.put, Array.getD_eq_getD_getElem?, Array.getElem?_setIfInBounds]
              simp [h.len, hlt]
            rw [this]
            simp only [Rd]
        · have h7 := (h.slots t fun j oj hj hoj hdj => by
            have := (hset j).1 (ht j oj hj hoj hdj)
            rcases this with rfl | h
            · rw [ho] at hoj; cases hoj; exact absurd hdj hd
            · exact h).keep hkeep h1
          have : (a.put o.dst v).tmps.getD t undef = a.tmps.getD t undef := by
            cases hdd : o.dst with
            | none => rfl
            | some u =>
              have hne : u ≠ t := fun e => hd (by rw [hdd, e])
              simp only [Act.put, Array.getD_eq_getD_getElem?, Array.getElem?_setIfInBounds, if_neg hne]
          rw [this]
          exact h7
      · intro t ht
        have hd : o.dst ≠ some t := by
          intro hd
          have := ht i o hin ho hd
          rw [(hset i).2 (.inl rfl)] at this; cases this
        have h7 := (h.slots0 t fun j oj hj hoj hdj => by
          cases hl : listed.getD j false with
          | false => rfl
          | true => have := ht j oj hj hoj hdj; rw [(hset j).2 (.inr hl)] at this; cases this).keep hkeep h1
        have : (a.put o.dst v).tmps.getD t undef = a.tmps.getD t undef := by
          cases hdd : o.dst with
          | none => rfl
          | some u =>
            have hne : u ≠ t := fun e => hd (by rw [hdd, e])
            simp only [Act.put, Array.getD_eq_getD_getElem?, Array.getElem?_setIfInBounds, if_neg hne]
        rw [this]
        exact h7
      · intro m B
        have hup' : ∀ k B1 B2, (listed.setIfInBounds i true).getD k false = true → W.up k = some (m, B1, B2) → listed.getD k false = true := by
          intro k B1 B2 hk hu
          rcases (hset k).1 hk with rfl | hk
          · rw [hup] at hu; cases hu
          · exact hk
        simp only [List.mem_append, h.bxs m B]
        constructor
        · rintro (h7 | ⟨h7, h8⟩ | ⟨k, B1, hk, h8, h9⟩)
          · refine .inl ⟨.inr ⟨i, hin, (hset i).2 (.inl rfl), h7⟩, fun k B1 B2 hk hkl hu => ?_⟩
            have hkl := hup' k B1 B2 hkl hu
            have hmem : (m, B2) ∈ bxc := (h.bxs m B2).2 (.inr ⟨k, B1, hk, hkl, hu⟩)
            obtain ⟨xx, cc, h10, _⟩ := (h.mem.boxes m B2 hmem).name
            rcases h.nm m (by rw [h10]; simp) with h11 | ⟨j, hj, h12, q, h13, h14⟩
            · exact W.new (by omega) h7 h11
            · have hji : j ≠ i := by rintro rfl; rw [getD_both hun] at h12; cases h12
              exact W.apart (by omega) (by omega) hji h13 h7 h14
          · refine .inl ⟨?_, fun k B1 B2 hk hkl hu => h8 k B1 B2 hk (hup' k B1 B2 hkl hu) hu⟩
            rcases h7 with h7 | ⟨j, hj, h9, h10⟩
            · exact .inl h7
            · exact .inr ⟨j, hj, (hset j).2 (.inr h9), h10⟩
          · exact .inr ⟨k, B1, hk, (hset k).2 (.inr h8), h9⟩
        · rintro (⟨h7, h8⟩ | ⟨k, B1, hk, h8, h9⟩)
          · have h8' : ∀ k B1 B2, k < n → listed.getD k false = true → W.up k ≠ some (m, B1, B2) := fun k B1 B2 hk hkl => h8 k B1 B2 hk ((hset k).2 (.inr hkl))
            rcases h7 with h7 | ⟨j, hj, h9, h10⟩
            · exact .inr (.inl ⟨.inl h7, h8'⟩)
            · rcases (hset j).1 h9 with rfl | h9
              · exact .inl h10
              · exact .inr (.inl ⟨.inr ⟨j, hj, h9, h10⟩, h8'⟩)
          · exact .inr (.inr ⟨k, B1, hk, hup' k B1 B h8 h9, h9⟩)
      · intro m hm
        by_cases hnb : ∃ p, p ∈ W.nb i ∧ p.1 = m
        · obtain ⟨p, h7, h8⟩ := hnb
          exact .inr ⟨i, hin, (hset i).2 (.inl rfl), p, h7, h8⟩
        · have hbm : b m ≠ none := fun e => hm (h2 m e fun B hB => hnb ⟨_, hB, rfl⟩)
          rcases h.nm m hbm with h7 | ⟨j, hj, h8, h9⟩
          · exact .inl h7
          · exact .inr ⟨j, hj, (hset j).2 (.inr h8), h9⟩
    unfold wpOp
    simp only [ho']
    cases hex : W.ex i with
    | true =>
      rw [hw, hex, if_pos rfl]
      refine .inl (Runs.wp (hdid.yes hex g b bxc w a.eval hsub h.mem ?_ ?_) hnext)
      · intro p hp'
        cases hbp : b p.1 with
        | none => rfl
        | some z =>
          exfalso
          rcases h.nm p.1 (by rw [hbp]; simp) with h7 | ⟨j, hj, h8, q, h9, h10⟩
          · exact W.new (by omega) hp' h7
          · have hji : j ≠ i := by rintro rfl; rw [getD_both hun] at h8; cases h8
            exact W.apart (by omega) (by omega) hji h9 hp' h10
      · intro x hx
        cases x with
        | tmp t =>
          have := hread t (by simp only [usesOf, tmpsOf, List.mem_append, List.mem_filterMap]; exact .inr ⟨.tmp t, by simpa using hx, rfl⟩)
          simpa [St.ev, Act.eval] using this
        | const v => exact constC_rd v
        | global m => simp [St.ev, Act.eval, Rd]
        | func f =>
          simp only [St.ev, Act.eval, Rd]
          exact ⟨[], rfl, by simp [RdL]⟩
    | false =>
      rw [hw, hex]
      simp only [Bool.false_eq_true, if_false]
      refine hnext undef w ?_
      obtain ⟨h7, h8⟩ := hdid.no hex
      rw [h7, h8]
      exact YPost.plain h.mem (Below.refl _ _) (by simp only [Rd])
  · -- a store
    obtain ⟨hnb, m, B, B', hup, hst⟩ := W.put i o hot hs
    obtain ⟨T, ad, x, off, hop, had, hso⟩ := hst.op
    have hops : ∀ y, y ∈ o.op.operands → Rd w (Mut g.S0 b bxc) b ((W.st i).ev y) (a.eval y) := by
      intro y hy
      cases y with
      | tmp t =>
        have := hread t (by simp only [usesOf, tmpsOf, List.mem_append, List.mem_filterMap]; exact .inr ⟨.tmp t, by simpa using hy, rfl⟩)
        simpa [St.ev, Act.eval] using this
      | const v => exact constC_rd v
      | global m => simp [St.ev, Act.eval, Rd]
      | func f =>
        simp only [St.ev, Act.eval, Rd]
        exact ⟨[], rfl, by simp [RdL]⟩
    have ha := hops ad (by rw [hop]; simp [Op.operands])
    have hx := hops x (by rw [hop]; simp [Op.operands])
    rw [had] at ha
    have hbm : b m ≠ none := by
      simp only [Rd] at ha
      obtain ⟨gg, c, h1, _⟩ := ha
      rw [h1]; simp
    have hnol : ∀ k B1 B2, k < n → listed.getD k false = true → W.up k ≠ some (m, B1, B2) := by
      intro k B1 B2 hk hkl hu
      have := W.once k i m B1 B2 B B' (by omega) (by omega) hu hup
      subst this
      rw [getD_both hun] at hkl; cases hkl
    have hmB : (m, B) ∈ bxc := by
      refine (h.bxs m B).2 (.inl ⟨?_, hnol⟩)
      have h1 := (W.bx hs0 hn0 m B i (by omega)).1 (getB_mem hst.mem)
      rcases h1 with ⟨h1 | ⟨i', hi', h1⟩, _⟩ | ⟨k, B1, hk, hu⟩
      · exact .inl h1
      · rcases h.nm m hbm with h2 | ⟨j, hj, h3, q, h4, h5⟩
        · exact absurd h2 (W.new (by omega) h1)
        · by_cases hji : j = i'
          · subst hji; exact .inr ⟨j, hj, h3, h1⟩
          · exact absurd h5 (W.apart (by omega) (by omega) hji h4 h1)
      · have := W.once k i m B1 B B B' (by omega) (by omega) hu hup
        omega
    classical
    obtain ⟨sl2, hsl2, hslen⟩ : ∃ sl2 : List C, (∀ t, getC sl2 t = if (∀ i o, i < n → l[i]? = some o → o.dst = some t → listed.getD i false = true) then getC s'.sl t else if (∀ i o, i < n → l[i]? = some o → o.dst = some t → listed.getD i false = false) then getC s.sl t else if t < s.sl.length then .any else .v undef) ∧ sl2.length = s.sl.length := by
      refine ⟨(List.range s.sl.length).map fun t => if (∀ i o, i < n → l[i]? = some o → o.dst = some t → listed.getD i false = true) then getC s'.sl t else if (∀ i o, i < n → l[i]? = some o → o.dst = some t → listed.getD i false = false) then getC s.sl t else .any, fun t => ?_, by simp⟩
      have hget : ∀ (L : List C) t, getC L t = (L[t]?).getD (.v undef) := by
        intro L
        induction L with
        | nil => intro t; rfl
        | cons d L ih => intro t; cases t with | zero => rfl | succ t => simp only [getC, ih]; rfl
      by_cases ht : t < s.sl.length
      · rw [hget]
        simp only [List.getElem?_map, List.getElem?_range ht, Option.map_some, Option.getD_some, ht, if_true]
      · rw [getC_out _ _ (by simp; omega), getC_out s'.sl t (by omega), getC_out s.sl t (by omega)]
        simp [ht]
    obtain ⟨nmL, hnmL⟩ : ∃ nmL : List Nat, ∀ x, x ∈ nmL ↔ x ∈ s.nm ∨ ∃ i, i < n ∧ listed.getD i false = true ∧ ∃ p, p ∈ W.nb i ∧ p.1 = x := by
      refine ⟨s.nm ++ (List.range n).flatMap fun i => if listed.getD i false = true then (W.nb i).map (·.1) else [], fun x => ?_⟩
      simp only [List.mem_append, List.mem_flatMap, List.mem_range]
      constructor
      · rintro (h1 | ⟨i, hi, h1⟩)
        · exact .inl h1
        · split at h1
          · rename_i hl
            obtain ⟨p, hp, e⟩ := List.mem_map.1 h1
            exact .inr ⟨i, hi, hl, p, hp, e⟩
          · simp at h1
      · rintro (h1 | ⟨i, hi, hl, p, hp, e⟩)
        · exact .inl h1
        · exact .inr ⟨i, hi, by rw [if_pos hl]; exact List.mem_map.2 ⟨p, hp, e⟩⟩
    have hrel : Rel g ⟨sl2, bxc, nmL⟩ b a w := by
      refine ⟨h.df, RdL_of (by simp [hslen, h.len]) fun t => ?_, h.mem, fun x hx => ?_⟩
      · rw [hsl2 t]
        split
        · rename_i hc
          have := h.slots t hc
          simpa [Array.getD_eq_getD_getElem?, List.getD_eq_getElem?_getD] using this
        · split
          · rename_i hc
            have := h.slots0 t hc
            simpa [Array.getD_eq_getD_getElem?, List.getD_eq_getElem?_getD] using this
          split
          · simp only [Rd]
          · rename_i ht
            simp only [Rd]
            rw [List.getD_eq_getElem?_getD, List.getElem?_eq_none (by simp [h.len]; omega)]; rfl
      · apply Classical.byContradiction
        intro hne
        exact hx ((hnmL x).2 (h.nm x hne))
    obtain ⟨w', hrun, s2, b', hr', hs2⟩ := astore_sound (P := P) hG (hso sl2 bxc nmL (getB_of h.mem.uniq hmB)) hrel ha hx
    subst hs2
    have hKK : K (a.put o.dst undef) w' := by
      rw [hst.dst]
      refine hK a w' b' (setB bxc m B') ⟨h.head.set hi hin, h.df, h.len, ?_, ?_, hr'.mem, ?_, ?_⟩
      · intro t ht
        have hc : ∀ i o, i < n → l[i]? = some o → o.dst = some t → listed.getD i false = true := by
          intro j oj hj hoj hd
          rcases (hset j).1 (ht j oj hj hoj hd) with rfl | h1
          · rw [ho] at hoj; cases hoj; rw [hst.dst] at hd; cases hd
          · exact h1
        have h1 := getC_rd hr'.sl t
        simp only [hsl2 t, if_pos hc] at h1
        simpa [Array.getD_eq_getD_getElem?, List.getD_eq_getElem?_getD] using h1
      · intro t ht
        have hc : ∀ i o, i < n → l[i]? = some o → o.dst = some t → listed.getD i false = false := by
          intro j oj hj hoj hd
          cases hl : listed.getD j false with
          | false => rfl
          | true => have := ht j oj hj hoj hd; rw [(hset j).2 (.inr hl)] at this; cases this
        by_cases hc2 : ∀ i o, i < n → l[i]? = some o → o.dst = some t → listed.getD i false = true
        · have hno : ∀ k ok, k < n → l[k]? = some ok → ok.dst ≠ some t := by
            intro k ok hk hok hd
            have h1 := hc k ok hk hok hd
            rw [hc2 k ok hk hok hd] at h1; cases h1
          have h2 : getC s'.sl t = getC s.sl t := by
            have := W.keep (t := t) (i := 0) (l.take n).length (Nat.zero_le _) (Nat.le_refl _) fun k ok _ hk2 hok hdk => by
              have hkn : k < n := by omega
              rw [take_at hkn] at hok
              exact hno k ok hkn hok hdk
            rw [W.last, W.first] at this
            exact this
          have h1 := getC_rd hr'.sl t
          simp only [hsl2 t, if_pos hc2, h2] at h1
          simpa [Array.getD_eq_getD_getElem?, List.getD_eq_getElem?_getD] using h1
        · have h1 := getC_rd hr'.sl t
          simp only [hsl2 t, if_neg hc2, if_pos hc] at h1
          simpa [Array.getD_eq_getD_getElem?, List.getD_eq_getElem?_getD] using h1
      · intro z C
        by_cases hz : z = m
        · subst hz
          constructor
          · intro h1
            rcases mem_setB h.mem.uniq hmB z C h1 with ⟨_, rfl⟩ | ⟨hne, _⟩
            · exact .inr ⟨i, B, hin, (hset i).2 (.inl rfl), hup⟩
            · exact absurd rfl hne
          · rintro (⟨_, h2⟩ | ⟨k, B1, hk, hkl, hu⟩)
            · exact absurd hup (h2 i B B' hin ((hset i).2 (.inl rfl)))
            · have := W.once k i z B1 C B B' (by omega) (by omega) hu hup
              subst this
              rw [hup] at hu; cases hu
              exact setB_get ⟨_, hmB⟩
        · have h1 : (z, C) ∈ setB bxc m B' ↔ (z, C) ∈ bxc := by
            constructor
            · intro h1
              rcases mem_setB h.mem.uniq hmB z C h1 with ⟨e, _⟩ | ⟨_, h1⟩
              · exact absurd e hz
              · exact h1
            · exact setB_ne hz
          rw [h1, h.bxs z C]
          constructor
          · rintro (⟨h2, h3⟩ | ⟨k, B1, hk, hkl, hu⟩)
            · refine .inl ⟨?_, fun k B1 B2 hk hkl hu => ?_⟩
              · rcases h2 with h2 | ⟨j, hj, hjl, h2⟩
                · exact .inl h2
                · exact .inr ⟨j, hj, (hset j).2 (.inr hjl), h2⟩
              · rcases (hset k).1 hkl with rfl | hkl
                · rw [hup] at hu; cases hu; exact hz rfl
                · exact h3 k B1 B2 hk hkl hu
            · exact .inr ⟨k, B1, hk, (hset k).2 (.inr hkl), hu⟩
          · rintro (⟨h2, h3⟩ | ⟨k, B1, hk, hkl, hu⟩)
            · refine .inl ⟨?_, fun k B1 B2 hk hkl hu => h3 k B1 B2 hk ((hset k).2 (.inr hkl)) hu⟩
              rcases h2 with h2 | ⟨j, hj, hjl, h2⟩
              · exact .inl h2
              · rcases (hset j).1 hjl with rfl | hjl
                · rw [hnb] at h2; simp at h2
                · exact .inr ⟨j, hj, hjl, h2⟩
            · rcases (hset k).1 hkl with rfl | hkl
              · rw [hup] at hu; cases hu; exact absurd rfl hz
              · exact .inr ⟨k, B1, hk, hkl, hu⟩
      · intro z hz
        have h1 : z ∈ nmL := by
          apply Classical.byContradiction
          intro hn
          exact hz (hr'.nm z hn)
        rcases (hnmL z).1 h1 with h2 | ⟨j, hj, hjl, h2⟩
        · exact .inl h2
        · exact .inr ⟨j, hj, (hset j).2 (.inr hjl), h2⟩
    unfold wpOp
    simp only [ho']
    have hw : Region.wanted o (yielded l.toArray a.tmps) = true := by simp [Region.wanted, hst.guard]
    rw [hw, if_pos rfl]
    refine .inl (Runs.wp (R := fun _ w'' => w'' = w') ?_ fun v w'' e => ?_)
    · have : (execOp a.eval o).run P w = .ok .skip w' := by
        unfold execOp; rw [hop]
        simp only [Sem.run_bind, hrun, Result.andThen_ok, Sem.run_pure]
      rw [this]
      exact rfl
    · subst e
      rw [hst.dst] at hKK ⊢
      exact hKK
theorem Mem.congr {g : Ghost} {b : Names} {bx bx' : Bxs} {w : World} (h : Mem g b bx w) (he : ∀ p, p ∈ bx' ↔ p ∈ bx) (hu : bx'.Pairwise fun p q => p.1 ≠ q.1) : Mem g b bx' w := by
  have hS : ∀ x, Mut g.S0 b bx' x ↔ Mut g.S0 b bx x := fun x => by
    constructor
    · rintro (h | ⟨m, B, c, h1, h2⟩)
      · exact .inl h
      · exact .inr ⟨m, B, c, (he _).1 h1, h2⟩
    · rintro (h | ⟨m, B, c, h1, h2⟩)
      · exact .inl h
      · exact .inr ⟨m, B, c, (he _).2 h1, h2⟩
  refine ⟨h.s0, h.size, h.os, h.tape, h.output, h.drawn, h.old, fun m B hm => ?_, fun m B x c hm hb => h.new m B x c ((he _).1 hm) hb, h.kp, ?_⟩
  · exact (h.boxes m B ((he _).1 hm)).keep (fun x hx hn => ⟨rfl, fun hh => hn ((hS x).1 hh)⟩) (fun _ _ h => h) fun _ _ _ => rfl
  · refine List.pairwise_iff_forall_sublist.2 fun {p q} hpq => ?_
    have hne := List.pairwise_iff_forall_sublist.1 hu hpq
    have hp := (he p).1 (hpq.subset (List.mem_cons_self ..))
    have hq := (he q).1 (hpq.subset (List.mem_cons_of_mem _ (List.mem_cons_self ..)))
    exact ⟨fun x c c' h1 h2 => hne (h.same hp hq h1 h2), hne⟩
/-- All first operations are done: the state is the text's. -/
theorem AInv.done {P : Program} {G : Tab} {l : List Oper} {n : Nat} {rs : List Bool} {stn : List Nat} {s s' : St} {W : Way P G l (l.take n) rs stn s.bx 0 [] s s'} {g : Ghost} {listed : Array Bool} {b : Names} {bxc : Bxs} {a : Act} {w : World}
    (hp : PreOk l n) (h : AInv W g listed b bxc a w) (hs : s.bx.Pairwise fun p q => p.1 ≠ q.1) (hn : ∀ p, p ∈ s.bx → p.1 ∈ s.nm) (hall : ∀ i, i < n → listed.getD i false = true) : Rel g s' b a w := by
  have hlen : (l.take n).length = n := by rw [List.length_take]; exact Nat.min_eq_left hp.le
  have hns : s'.sl.length = s.sl.length := by
    have := W.length (l.take n).length (Nat.le_refl _)
    rwa [W.last] at this
  have hbx : ∀ p, p ∈ s'.bx ↔ p ∈ bxc := fun ⟨m, B⟩ => by
    have := W.bx hs hn m B (l.take n).length (Nat.le_refl _)
    rw [W.last, hlen] at this
    rw [this, h.bxs m B]
    unfold Way.Orig
    constructor
    · rintro (⟨h1, h2⟩ | ⟨k, B1, hk, h1⟩)
      · refine .inl ⟨?_, fun k B1 B2 hk _ => h2 k B1 B2 hk⟩
        rcases h1 with h1 | ⟨i, hi, h1⟩
        · exact .inl h1
        · exact .inr ⟨i, hi, hall i hi, h1⟩
      · exact .inr ⟨k, B1, hk, hall k hk, h1⟩
    · rintro (⟨h1, h2⟩ | ⟨k, B1, hk, _, h1⟩)
      · refine .inl ⟨?_, fun k B1 B2 hk => h2 k B1 B2 hk (hall k hk)⟩
        rcases h1 with h1 | ⟨i, hi, _, h1⟩
        · exact .inl h1
        · exact .inr ⟨i, hi, h1⟩
      · exact .inr ⟨k, B1, hk, h1⟩
  have hu := (W.pairs hs hn (l.take n).length (Nat.le_refl _)).1
  rw [W.last] at hu
  have hmem := h.mem.congr hbx hu
  refine ⟨h.df, ?_, hmem, ?_⟩
  · refine RdL_of (by simp [hns, h.len]) fun t => ?_
    have h1 := (h.slots t fun i o hi _ _ => hall i hi).keep (w' := w) (S' := Mut g.S0 b s'.bx) (b' := b) (fun x hx hn => ⟨rfl, fun hm => hn (by
      rcases hm with hm | ⟨m, B, c, h1, h2⟩
      · exact .inl hm
      · exact .inr ⟨m, B, c, (hbx _).1 h1, h2⟩)⟩) (fun _ _ h => h)
    simpa [Array.getD_eq_getD_getElem?, List.getD_eq_getElem?_getD] using h1
  · intro m hm
    cases hb : b m with
    | none => rfl
    | some z =>
      exfalso
      have := (W.nm m (l.take n).length (Nat.le_refl _))
      rw [W.last, hlen] at this
      refine hm (this.2 ?_)
      rcases h.nm m (by rw [hb]; simp) with h1 | ⟨i, hi, _, h2⟩
      · exact .inl h1
      · exact .inr ⟨i, hi, h2⟩
/-- How many of the first operations are still to come. -/
def left (n : Nat) (listed : Array Bool) : Nat := (List.range n).countP fun i => !listed.getD i false
theorem countP_mono {p q : Nat → Bool} : ∀ (l : List Nat), (∀ x, x ∈ l → q x = true → p x = true) → l.countP q ≤ l.countP p
  | [], _ => by simp
  | x :: l, h => by
    have ih := countP_mono l fun y hy => h y (List.mem_cons_of_mem _ hy)
    simp only [List.countP_cons]
    have := h x (List.mem_cons_self ..)
    cases hq : q x <;> cases hpx : p x <;> simp_all <;> omega
theorem left_set {n i : Nat} {listed : Array Bool} (hi : i < n) (hs : i < listed.size) (hu : listed.getD i false = false) : left n (listed.setIfInBounds i true) + 1 = left n listed := by
  unfold left
  have : ∀ m, (List.range m).countP (fun j => !listed.getD j false) = (List.range m).countP (fun j => !(listed.setIfInBounds i true).getD j false) + (if i < m then 1 else 0) := by
    intro m
    induction m with
    | zero => simp
    | succ m ih =>
      rw [List.range_succ, List.countP_append, List.countP_append, ih]
      simp only [List.countP_cons, List.countP_nil, Nat.zero_add]
      by_cases hmi : m = i
      · subst hmi
        simp [hs, hu]
      · rw [getD_set_ne false (Ne.symm hmi)]
        by_cases h1 : i < m
        · have h2 : i < m + 1 := by omega
          simp only [if_pos h1, if_pos h2]; omega
        · have h2 : ¬ i < m + 1 := by omega
          simp only [if_neg h1, if_neg h2]; omega
  rw [this n, if_pos hi]
theorem left_zero {n : Nat} {listed : Array Bool} (h : left n listed = 0) : ∀ i, i < n → listed.getD i false = true := by
  intro i hi
  unfold left at h
  rw [List.countP_eq_zero] at h
  simpa using h i (List.mem_range.2 hi)
theorem left_pos {n : Nat} {listed : Array Bool} (h : left n listed ≠ 0) : ∃ i, i < n ∧ listed.getD i false = false ∧ ∀ j, j < i → listed.getD j false = true := by
  have hex : ∃ i, i < n ∧ listed.getD i false = false := by
    apply Classical.byContradiction
    intro hn
    apply h
    unfold left
    rw [List.countP_eq_zero]
    intro i hi
    have := List.mem_range.1 hi
    cases hl : listed.getD i false with
    | true => simp
    | false => exact absurd ⟨i, this, hl⟩ hn
  have : ∀ k i, i < k → i < n → listed.getD i false = false → ∃ i, i < n ∧ listed.getD i false = false ∧ ∀ j, j < i → listed.getD j false = true := by
    intro k
    induction k with
    | zero => intro i hi; omega
    | succ k ih =>
      intro i hik hin hl
      by_cases hex : ∃ j, j < i ∧ listed.getD j false = false
      · obtain ⟨j, hj, hlj⟩ := hex
        exact ih j (by omega) (by omega) hlj
      · refine ⟨i, hin, hl, fun j hj => ?_⟩
        cases hlj : listed.getD j false with
        | true => rfl
        | false => exact absurd ⟨j, hj, hlj⟩ hex
  obtain ⟨i, hi, hl⟩ := hex
  exact this (i + 1) i (by omega) hi hl
/-- The operations behind the first ones come in the text's order, when all first ones are done. -/
def tailB (l : List Oper) (n : Nat) : Bool :=
  Nat.beq n l.length || (Nat.blt n l.length && Region.sinkB .any l.toArray n && Region.chainB .any l.toArray n &&
    Region.seqB .any l.toArray (l.length - n) n (List.replicate n true ++ List.replicate (l.length - n) false).toArray)
theorem wpAny_pre {P : Program} {G : Tab} (hG : TabOk P G) {lend : Option (List Nat)} {l : List Oper} {n : Nat} {rs : List Bool} {stn : List Nat} {s s' : St} (W : Way P G l (l.take n) rs stn s.bx 0 [] s s') {g : Ghost} (hp : PreOk l n) (hrs : chkB l n rs = true) (ht : tailB l n = true)
    (hs : s.bx.Pairwise fun p q => p.1 ≠ q.1) (hn : ∀ p, p ∈ s.bx → p.1 ∈ s.nm) {K : St → Prop} {Q : Exit → Act → World → Prop} (hQ : ∀ a w, Nxt g K a w → Q .normal a w) (hK : aops P G lend l (l.drop n) s' K) :
    ∀ (f : Nat) (listed : Array Bool) (b : Names) (bxc : Bxs) (a : Act) (w : World), left n listed = f → AInv W g listed b bxc a w → wpAny P .any l.toArray Q (f + (l.length - n)) listed a w := by
  have htail : n = l.length ∨ (n < l.length ∧ Region.sinkB .any l.toArray n = true ∧ Region.chainB .any l.toArray n = true ∧
      Region.seqB .any l.toArray (l.length - n) n (List.replicate n true ++ List.replicate (l.length - n) false).toArray = true) := by
    unfold tailB at ht
    simp only [Bool.or_eq_true, Bool.and_eq_true] at ht
    rcases ht with ht | ⟨⟨⟨h1, h2⟩, h3⟩, h4⟩
    · exact .inl (Nat.eq_of_beq_eq_true ht)
    · exact .inr ⟨by have := Nat.le_of_ble_eq_true h1; omega, h2, h3, h4⟩
  intro f
  induction f with
  | zero =>
    intro listed b bxc a w hf h
    have hall := left_zero hf
    have hrel := h.done hp hs hn hall
    have hlist : listed = (List.replicate n true ++ List.replicate (l.length - n) false).toArray := by
      apply Array.ext
      · rw [h.head.size]; simp; have := hp.le; omega
      · intro i h1 h2
        have hsz := h.head.size
        simp only [List.size_toArray] at hsz
        by_cases hi : i < n
        · have := hall i hi
          simp only [Array.getD_eq_getD_getElem?, Array.getElem?_eq_getElem h1, Option.getD_some] at this
          rw [this]
          simp [hi]
        · have := h.head.tail i (by omega) (by simp; omega)
          simp only [Array.getD_eq_getD_getElem?, Array.getElem?_eq_getElem h1, Option.getD_some] at this
          rw [this]
          simp [List.getElem_append, hi]
    have hwl := aops_sound hG hQ (l.drop n) s' b a w hK hrel
    have hseq : Region.seqB .any l.toArray (l.drop n).length n listed = true := by
      rcases htail with rfl | ⟨h1, _, _, h4⟩
      · simp only [List.drop_length, List.length_nil, Region.seqB, List.isEmpty_iff]
        apply List.eq_nil_iff_forall_not_mem.2
        intro i hi
        obtain ⟨hun, o, ho, _⟩ := mem_ready.1 hi
        have hil : i < l.length := by simpa using (Array.getElem?_eq_some_iff.1 ho).1
        have := hall i hil
        rw [getD_both hun] at this; cases this
      · rw [hlist, List.length_drop]; exact h4
    have := wpAny_of_seq (md := .any) (Q' := Q) (l.drop n) n listed a w (fun j => by simp [List.getElem?_drop]) hseq hwl
    rw [List.length_drop] at this
    rw [Nat.zero_add]
    exact this
  | succ f ih =>
    intro listed b bxc a w hf h
    rw [show f + 1 + (l.length - n) = (f + (l.length - n)) + 1 by omega]
    obtain ⟨i0, hi0, hl0, hbelow⟩ := left_pos (n := n) (listed := listed) (by omega)
    have hsz := h.head.size
    simp only [List.size_toArray] at hsz
    have hi0l : i0 < l.length := Nat.lt_of_lt_of_le hi0 hp.le
    have hready : i0 ∈ Region.ready .any l.toArray listed := by
      refine mem_ready.2 ⟨getD_in (by omega) hl0, l[i0], by simp [hi0l], fun e he hb => ?_⟩
      exact hbelow _ (hp.back i0 _ hi0 (List.getElem?_eq_getElem hi0l) e he hb)
    refine ⟨fun h0 => (by rw [h0] at hready; cases hready), fun i hi => ?_⟩
    have hin : i < n := by
      rcases Nat.lt_or_ge i n with h1 | h1
      · exact h1
      · exfalso
        rcases htail with rfl | ⟨h2, h3, h4, _⟩
        · obtain ⟨_, o, ho, _⟩ := mem_ready.1 hi
          have : i < l.length := by simpa using (Array.getElem?_eq_some_iff.1 ho).1
          omega
        · exact tail_waits h3 h4 (by simpa using h2) h.head _ i0 rfl hi0 (getD_in (by omega) hl0) i h1 hi
    refine h.step hG hp hrs hs hn hi hin fun a' w' b' bxc' h' => ?_
    have hun := (mem_ready.1 hi).1
    have := left_set (n := n) (listed := listed) hin (by have := hp.le; omega) (getD_both hun)
    exact ih _ b' bxc' a' w' (by omega) h'
end El
namespace El
open Go Go.RowKit
/-- An operation of the chain: a call, or a move. -/
def ahv (P : Program) (o : Oper) (s : St) (K : St → Prop) : Prop :=
  match s, o.op with
  | ⟨sl, bx, nm⟩, .call c => ∃ ls, acallG P ⟨sl, bx, nm⟩ c o.dst ls K
  | ⟨sl, bx, nm⟩, .assign x => slotK sl o.dst (St.ev ⟨sl, bx, nm⟩ x) fun l => K ⟨l, bx, nm⟩
  | ⟨sl, bx, nm⟩, .move x => slotK sl o.dst (St.ev ⟨sl, bx, nm⟩ x) fun l => K ⟨l, bx, nm⟩
  | _, _ => False
theorem ahv_eq (P : Program) (o : Oper) (s : St) (K : St → Prop) : ahv P o s K = match o.op with
    | .call c => ∃ ls, acallG P s c o.dst ls K
    | .assign x => slotK s.sl o.dst (s.ev x) fun l => K ⟨l, s.bx, s.nm⟩
    | .move x => slotK s.sl o.dst (s.ev x) fun l => K ⟨l, s.bx, s.nm⟩
    | _ => False := by
  obtain ⟨sl, bx, nm⟩ := s
  cases h : o.op <;> simp [ahv, h]
def ahvs (P : Program) : List Oper → St → (St → Prop) → Prop
  | [], s, K => K s
  | o :: l, s, K => ahv P o s fun s' => ahvs P l s' K
def pickO (l : List Oper) : List Nat → List Oper
  | [] => []
  | i :: r => match l[i]? with
    | some o => o :: pickO l r
    | none => []
/-- What is light, in the text's order. -/
def alight (P : Program) (G : Tab) (hv : List Nat) : Nat → List Oper → List C → (List C → Prop) → Prop
  | _, [], sl, K => K sl
  | i, o :: l, sl, K => match elemN hv i with
    | true => alight P G hv (i + 1) l sl K
    | false => match o.dst with
      | none => False
      | some t => ares' P G o (St.ev ⟨sl, [], []⟩) [] fun d nb => match nb with
        | [] => forceC d fun d => setK sl t d fun sl' => alight P G hv (i + 1) l sl' K
        | _ => False
structure Lw (P : Program) (hv : List Nat) (l : List Oper) (i0 : Nat) (sl sL : List C) where
  st : Nat → List C
  first : st 0 = sl
  last : st l.length = sL
  hvy : ∀ j o, l[j]? = some o → elemN hv (i0 + j) = true → st (j + 1) = st j
  lgt : ∀ j o, l[j]? = some o → elemN hv (i0 + j) = false → ∃ t d, o.dst = some t ∧ OpY P o (St.ev ⟨st j, [], []⟩) [] d [] ∧ st (j + 1) = setC (st j) t d
theorem alight_way {P : Program} {G : Tab} (hG : TabOk P G) {hv : List Nat} {K : List C → Prop} : ∀ (l : List Oper) (i0 : Nat) (sl : List C), alight P G hv i0 l sl K → ∃ sL, K sL ∧ Nonempty (Lw P hv l i0 sl sL)
  | [], i0, sl, h => ⟨sl, h, ⟨⟨fun _ => sl, rfl, rfl, fun j o ho => by simp at ho, fun j o ho => by simp at ho⟩⟩⟩
  | o :: l, i0, sl, h => by
    simp only [alight] at h
    cases e : elemN hv i0 with
    | true =>
      rw [e] at h
      obtain ⟨sL, hK, ⟨W⟩⟩ := alight_way hG l (i0 + 1) sl h
      refine ⟨sL, hK, ⟨⟨fun | 0 => sl | j + 1 => W.st j, rfl, W.last, fun j o' ho' he' => ?_, fun j o' ho' he' => ?_⟩⟩⟩
      · cases j with
        | zero => exact W.first
        | succ j => exact W.hvy j o' (by simpa using ho') (by rw [show i0 + 1 + j = i0 + (j + 1) by omega]; exact he')
      · cases j with
        | zero => rw [Nat.add_zero, e] at he'; cases he'
        | succ j => exact W.lgt j o' (by simpa using ho') (by rw [show i0 + 1 + j = i0 + (j + 1) by omega]; exact he')
    | false =>
      rw [e] at h
      simp only at h
      cases ht : o.dst with
      | none => rw [ht] at h; exact h.elim
      | some t =>
        rw [ht] at h
        simp only at h
        obtain ⟨d, nb, h1, h2⟩ := ares'_sound hG h
        cases nb with
        | cons _ _ => exact h1.elim
        | nil =>
          simp only at h1
          rw [forceC_iff, setK_iff] at h1
          obtain ⟨sL, hK, ⟨W⟩⟩ := alight_way hG l (i0 + 1) _ h1
          refine ⟨sL, hK, ⟨⟨fun | 0 => sl | j + 1 => W.st j, rfl, W.last, fun j o' ho' he' => ?_, fun j o' ho' he' => ?_⟩⟩⟩
          · cases j with
            | zero => rw [Nat.add_zero, e] at he'; cases he'
            | succ j => exact W.hvy j o' (by simpa using ho') (by rw [show i0 + 1 + j = i0 + (j + 1) by omega]; exact he')
          · cases j with
            | zero =>
              have : o' = o := by simpa using ho'.symm
              subst this
              exact ⟨t, d, ht, h2, W.first⟩
            | succ j => exact W.lgt j o' (by simpa using ho') (by rw [show i0 + 1 + j = i0 + (j + 1) by omega]; exact he')
/-- The order's test. -/
def chainH (l : List Oper) : List Nat → Bool
  | [] => true
  | [_] => true
  | i :: j :: r => decide (i < j) && Region.waitsFor .any l.toArray j i && chainH l (j :: r)
def hvB (l : List Oper) (hv : List Nat) : Bool :=
  chainH l hv && (hv.all fun i => decide (i < l.length)) && (List.range l.length).all fun i => match l[i]? with
    | none => false
    | some o => o.guard.isNone && o.after.all (fun e => !Region.binds .any e || decide (e.on < i)) &&
        (match elemN hv i with
        | true => (tmpsOf o).all fun t => (List.range l.length).all fun j => match l[j]? with
          | some oj => elemN hv j || oj.dst != some t || Region.waitsFor .any l.toArray i j
          | none => true
        | false => ((tmpsOf o).all fun t => (List.range l.length).all fun j => match l[j]? with
          | some oj => oj.dst != some t || (!elemN hv j && decide (j < i) && Region.waitsFor .any l.toArray i j)
          | none => true) && (List.range l.length).all fun j => j == i || match l[j]? with
            | some oj => oj.dst != o.dst
            | none => true)
structure HvOk (l : List Oper) (hv : List Nat) : Prop where
  chain : ∀ k i j, hv[k]? = some i → hv[k + 1]? = some j → i < j ∧ Region.waitsFor .any l.toArray j i = true
  rng : ∀ i, i ∈ hv → i < l.length
  guard : ∀ (i : Nat) (o : Oper), l[i]? = some o → o.guard = none
  back : ∀ (i : Nat) (o : Oper), l[i]? = some o → ∀ e, e ∈ o.after → Region.binds .any e = true → e.on < i
  useH : ∀ (i : Nat) (o : Oper), l[i]? = some o → elemN hv i = true → ∀ t, t ∈ tmpsOf o → ∀ (j : Nat) (oj : Oper), l[j]? = some oj → elemN hv j = false → oj.dst = some t → Region.waitsFor .any l.toArray i j = true
  useL : ∀ (i : Nat) (o : Oper), l[i]? = some o → elemN hv i = false → ∀ t, t ∈ tmpsOf o → ∀ (j : Nat) (oj : Oper), l[j]? = some oj → oj.dst = some t → elemN hv j = false ∧ j < i ∧ Region.waitsFor .any l.toArray i j = true
  uniq : ∀ (i : Nat) (o : Oper), l[i]? = some o → elemN hv i = false → ∀ (j : Nat) (oj : Oper), l[j]? = some oj → oj.dst = o.dst → j = i
theorem chainH_of {l : List Oper} : ∀ {hv : List Nat}, chainH l hv = true → ∀ k i j, hv[k]? = some i → hv[k + 1]? = some j → i < j ∧ Region.waitsFor .any l.toArray j i = true
  | [], _, k, i, j, h, _ => by simp at h
  | [x], _, k, i, j, _, h => by simp at h
  | x :: y :: r, hc, k, i, j, h1, h2 => by
    simp only [chainH, Bool.and_eq_true, decide_eq_true_eq] at hc
    cases k with
    | zero =>
      simp only [List.getElem?_cons_zero, Option.some.injEq, Nat.zero_add, List.getElem?_cons_succ] at h1 h2
      subst h1; subst h2
      exact hc.1
    | succ k => exact chainH_of hc.2 k i j (by simpa using h1) (by simpa using h2)
theorem HvOk.of {l : List Oper} {hv : List Nat} (h : hvB l hv = true) : HvOk l hv := by
  simp only [hvB, Bool.and_eq_true, List.all_eq_true] at h
  obtain ⟨⟨h1, h2⟩, h3⟩ := h
  have key : ∀ i o, l[i]? = some o → (o.guard.isNone = true ∧ (o.after.all fun e => !Region.binds .any e || decide (e.on < i)) = true) ∧
      (match elemN hv i with
        | true => (tmpsOf o).all fun t => (List.range l.length).all fun j => match l[j]? with
          | some oj => elemN hv j || oj.dst != some t || Region.waitsFor .any l.toArray i j
          | none => true
        | false => ((tmpsOf o).all fun t => (List.range l.length).all fun j => match l[j]? with
          | some oj => oj.dst != some t || (!elemN hv j && decide (j < i) && Region.waitsFor .any l.toArray i j)
          | none => true) && (List.range l.length).all fun j => j == i || match l[j]? with
            | some oj => oj.dst != o.dst
            | none => true) = true := by
    intro i o ho
    have hi := (List.getElem?_eq_some_iff.1 ho).1
    have := h3 i (List.mem_range.2 hi)
    simp only [ho, Bool.and_eq_true] at this
    exact this
  have rg : ∀ j oj, l[j]? = some oj → j ∈ List.range l.length := fun j oj hj => List.mem_range.2 (List.getElem?_eq_some_iff.1 hj).1
  refine ⟨chainH_of h1, fun i hi => by simpa using h2 i hi, ?_, ?_, ?_, ?_, ?_⟩
  · intro i o ho
    have := (key i o ho).1.1
    simpa using this
  · intro i o ho e he hb
    have h4 := Array.all_eq_true'.1 (key i o ho).1.2 e he
    simpa [hb] using h4
  · intro i o ho hh t ht j oj hj hjl hd
    have h4 := (key i o ho).2
    rw [hh] at h4
    simp only [List.all_eq_true] at h4
    have h5 := h4 t ht j (rg j oj hj)
    simpa [hj, hjl, hd] using h5
  · intro i o ho hh t ht j oj hj hd
    have h4 := (key i o ho).2
    rw [hh] at h4
    simp only [Bool.and_eq_true, List.all_eq_true] at h4
    have h5 := h4.1 t ht j (rg j oj hj)
    simp only [hj, hd, bne_self_eq_false, Bool.false_or, Bool.and_eq_true, Bool.not_eq_true', decide_eq_true_eq] at h5
    exact ⟨h5.1.1, h5.1.2, h5.2⟩
  · intro i o ho hh j oj hj hd
    have h4 := (key i o ho).2
    rw [hh] at h4
    simp only [Bool.and_eq_true, List.all_eq_true] at h4
    have h5 := h4.2 j (rg j oj hj)
    simpa [hj, hd] using h5
/-! ### The state on the way -/
theorem ev_slots {sl sl' : List C} {bx bx' : Bxs} {nm nm' : List Nat} (x : Operand) (h : ∀ t, x = .tmp t → getC sl t = getC sl' t) : St.ev ⟨sl, bx, nm⟩ x = St.ev ⟨sl', bx', nm'⟩ x := by
  cases x with
  | tmp t => exact h t rfl
  | const v => rfl
  | global g => rfl
  | func f => rfl
theorem pickK_mono {K K' : Bxs → Prop} : ∀ {ls : List Nat} {bx : Bxs}, (∀ r, K r → K' r) → pickK bx ls K → pickK bx ls K'
  | [], _, h, hk => h _ hk
  | l :: ls, bx, h, hk => by
    simp only [pickK] at hk ⊢
    cases hB : getB bx l with
    | none => rw [hB] at hk; exact hk.elim
    | some B => rw [hB] at hk; exact pickK_mono (fun r hr => h _ hr) hk
theorem cargs_mono {args caps : List C} {K K' : List C → Prop} (h : ∀ L, K L → K' L) (hk : cargs args caps K) : cargs args caps K' := by
  unfold cargs at hk ⊢
  split at hk
  · exact h _ hk
  · obtain ⟨h0, hk⟩ := bchk_iff.1 hk
    exact bchk_iff.2 ⟨h0, h _ hk⟩
theorem acallG_slots {P : Program} {sl sl' : List C} {bx : Bxs} {nm : List Nat} {c : Call} {dst : Option Nat} {ls : List Nat} {K : St → Prop} (hc : ∀ f, c.callee = .value f → ∀ t, f = .tmp t → getC sl t = getC sl' t)
    (ha : ∀ x, x ∈ c.args.toList → ∀ t, x = .tmp t → getC sl t = getC sl' t) (h : acallG P ⟨sl, bx, nm⟩ c dst ls K) :
    acallG P ⟨sl', bx, nm⟩ c dst ls fun s' => ∃ r, s'.sl = St.slot ⟨sl', bx, nm⟩ dst r ∧ K ⟨St.slot ⟨sl, bx, nm⟩ dst r, s'.bx, s'.nm⟩ := by
  unfold acallG at h ⊢
  cases hcl : c.callee with
  | invoke _ _ => rw [hcl] at h; exact h.elim
  | builtin _ => rw [hcl] at h; exact h.elim
  | value f =>
    rw [hcl] at h
    simp only at h ⊢
    have hf : St.ev ⟨sl', bx, nm⟩ f = St.ev ⟨sl, bx, nm⟩ f := (ev_slots f (hc f hcl)).symm
    have hm : c.args.toList.map (St.ev ⟨sl', bx, nm⟩) = c.args.toList.map (St.ev ⟨sl, bx, nm⟩) := List.map_congr_left fun x hx => (ev_slots x (ha x hx)).symm
    rw [hf, hm]
    split at h <;> try (exact h.elim)
    rename_i ff caps hev
    refine cargs_mono (fun L hL => ?_) h
    refine pickK_mono (fun bx1 h1 => ?_) hL
    rw [delsK_iff] at h1 ⊢
    obtain ⟨args', bx1', r, bxo, ns, g1, g2, g3, g4⟩ := h1
    refine ⟨args', bx1', r, bxo, ns, g1, g2, g3, ?_⟩
    obtain ⟨g5, g6⟩ := bchk_iff.1 g4
    refine bchk_iff.2 ⟨g5, ?_⟩
    have g6 := (slotK_iff (s := ⟨sl, bx, nm⟩)).1 g6
    refine (slotK_iff (s := ⟨sl', bx, nm⟩)).2 ?_
    rw [appK_iff, appK_iff] at g6 ⊢
    exact ⟨r, rfl, g6⟩
/-- The slot of something light that is still to come. -/
def Und (l : List Oper) (hv : List Nat) (listed : Array Bool) (t : Nat) : Prop := ∃ i o, l[i]? = some o ∧ elemN hv i = false ∧ o.dst = some t ∧ listed.getD i false = false
structure HInv (l : List Oper) (hv : List Nat) (sL : List C) (g : Ghost) (listed : Array Bool) (k : Nat) (st : St) (b : Names) (a : Act) (w : World) : Prop where
  head : HeadInv .any l.toArray l.length listed
  df : a.defers = []
  len : a.tmps.size = st.sl.length
  slots : ∀ t, ¬ Und l hv listed t → Rd w (Mut g.S0 b st.bx) b (getC st.sl t) (a.tmps.getD t undef)
  mem : Mem g b st.bx w
  nm : ∀ m, m ∉ st.nm → b m = none
  prog : ∀ j i, hv[j]? = some i → (listed.getD i false = true ↔ j < k)
  same : ∀ t, (∀ i o, l[i]? = some o → elemN hv i = true → o.dst ≠ some t) → getC st.sl t = getC sL t
  slen : st.sl.length = sL.length
theorem Lw.keep {P : Program} {hv : List Nat} {l : List Oper} {sl sL : List C} (W : Lw P hv l 0 sl sL) {t i : Nat} : ∀ j, i ≤ j → j ≤ l.length → (∀ k o, i ≤ k → k < j → l[k]? = some o → elemN hv k = false → o.dst ≠ some t) → getC (W.st j) t = getC (W.st i) t := by
  intro j
  induction j with
  | zero => intro h1 _ _; rw [show i = 0 by omega]
  | succ j ih =>
    intro h1 h2 h3
    rcases Nat.lt_or_ge j i with h4 | h4
    · rw [show i = j + 1 by omega]
    · have ih := ih h4 (by omega) (fun k o h5 h6 => h3 k o h5 (by omega))
      have ho := List.getElem?_eq_getElem (show j < l.length by omega)
      cases e : elemN hv j with
      | true => rw [W.hvy j _ ho (by rw [Nat.zero_add]; exact e), ih]
      | false =>
        obtain ⟨u, d, h5, _, h6⟩ := W.lgt j _ ho (by rw [Nat.zero_add]; exact e)
        have hne : u ≠ t := fun e2 => h3 j _ h4 (by omega) ho e (by rw [h5, e2])
        rw [h6, getC_setC_ne _ _ hne, ih]
theorem Lw.length {P : Program} {hv : List Nat} {l : List Oper} {sl sL : List C} (W : Lw P hv l 0 sl sL) : ∀ j, j ≤ l.length → (W.st j).length = sl.length := by
  intro j
  induction j with
  | zero => intro _; rw [W.first]
  | succ j ih =>
    intro h
    have ho := List.getElem?_eq_getElem (show j < l.length by omega)
    cases e : elemN hv j with
    | true => rw [W.hvy j _ ho (by rw [Nat.zero_add]; exact e), ih (by omega)]
    | false =>
      obtain ⟨u, d, h5, _, h6⟩ := W.lgt j _ ho (by rw [Nat.zero_add]; exact e)
      rw [h6, setC_length, ih (by omega)]
theorem put_get {a : Act} {u t : Nat} {v : Value} (h : u ≠ t) : (a.put (some u) v).tmps.getD t undef = a.tmps.getD t undef := by
  simp only [Act.put, Array.getD_eq_getD_getElem?, Array.getElem?_setIfInBounds, if_neg h]
theorem HInv.light {P : Program} {l : List Oper} {hv : List Nat} {sl sL : List C} (W : Lw P hv l 0 sl sL) (hk : HvOk l hv) {g : Ghost} {listed : Array Bool} {k : Nat} {st : St} {b : Names} {a : Act} {w : World} (h : HInv l hv sL g listed k st b a w)
    {i : Nat} (hi : i ∈ Region.ready .any l.toArray listed) (hl : elemN hv i = false) {Q : Exit → Act → World → Prop} {K : Act → World → Prop} (hK : ∀ a' w' b', HInv l hv sL g (listed.setIfInBounds i true) k st b' a' w' → K a' w') : wpOp P l.toArray Q i K a w := by
  obtain ⟨hun, o, ho', hall⟩ := mem_ready.1 hi
  have ho : l[i]? = some o := by simpa using ho'
  have hil : i < l.length := (List.getElem?_eq_some_iff.1 ho).1
  have hils : i < listed.size := by rw [h.head.size]; simpa using hil
  obtain ⟨t, d, hd, hY, hst⟩ := W.lgt i o ho (by rw [Nat.zero_add]; exact hl)
  have hset : ∀ j, (listed.setIfInBounds i true).getD j false = true ↔ j = i ∨ listed.getD j false = true := by
    intro j
    by_cases hij : i = j
    · subst hij; simp [hils]
    · rw [getD_set_ne false hij]
      simp [Ne.symm hij]
  -- its operands
  have hread : ∀ x, x ∈ o.op.operands → Rd w (Mut g.S0 b st.bx) b (St.ev ⟨W.st i, [], []⟩ x) (a.eval x) := by
    intro x hx
    cases x with
    | tmp u =>
      have hu : u ∈ tmpsOf o := by simp only [tmpsOf, List.mem_filterMap]; exact ⟨.tmp u, by simpa using hx, rfl⟩
      have huse := fun j oj (hj : l[j]? = some oj) (hdj : oj.dst = some u) => hk.useL i o ho hl u hu j oj hj hdj
      have h1 : getC (W.st i) u = getC sL u := by
        have := W.keep (t := u) (i := i) l.length (by omega) (Nat.le_refl _) (fun k' o' h1 _ h3 _ h5 => by
          have := (huse k' o' h3 h5).2.1
          omega)
        rw [W.last] at this
        exact this.symm
      have h2 := h.same u (fun j oj hj hh hdj => by
        have := (huse j oj hj hdj).1
        rw [hh] at this; cases this)
      have h3 := h.slots u (by
        rintro ⟨j, oj, hj, _, hdj, hlj⟩
        obtain ⟨o2, ho2, e, he, hb, hon⟩ := Region.waitsFor_spec (huse j oj hj hdj).2.2
        rw [ho'] at ho2; cases ho2
        have := hall e he hb
        rw [hon, hlj] at this; cases this)
      rw [h2, ← h1] at h3
      simpa [St.ev, Act.eval] using h3
    | const v => exact constC_rd v
    | global m => simp [St.ev, Act.eval, Rd]
    | func f =>
      simp only [St.ev, Act.eval, Rd]
      exact ⟨[], rfl, by simp [RdL]⟩
  unfold wpOp
  simp only [ho']
  rw [show Region.wanted o (yielded l.toArray a.tmps) = true by simp [Region.wanted, hk.guard i o ho], if_pos rfl]
  refine .inl (Runs.wp (hY g b st.bx w a.eval (fun p hp => by simp at hp) h.mem (fun p hp => by simp at hp) hread) ?_)
  rintro v w' ⟨b', h1, h2, h3, h4, h5, h6⟩
  have hkeep : ∀ x, x < w.heap.size → ¬ Mut g.S0 b st.bx x → w'.heap[x]? = w.heap[x]? ∧ ¬ Mut g.S0 b' st.bx x := fun x hx hn => ⟨h3.block x hx, h5 x hx hn⟩
  refine hK _ _ b' ⟨h.head.set hi hil, ?_, ?_, ?_, h4, ?_, ?_, h.same, h.slen⟩
  · have := h.df; rw [hd]; simpa [Act.put] using this
  · have := h.len; rw [hd]; simpa [Act.put] using this
  · intro u hu
    rw [hd]
    by_cases hut : t = u
    · subst hut
      have h7 : getC st.sl t = getC sL t := h.same t (fun j oj hj hh hdj => by
        have := hk.uniq i o ho hl j oj hj (by rw [hdj, hd])
        subst this
        rw [hl] at hh; cases hh)
      rw [h7]
      by_cases hlt : t < sL.length
      · have h8 : getC sL t = d := by
          have := W.keep (t := t) (i := i + 1) l.length (by omega) (Nat.le_refl _) (fun k' o' h1 _ h3 _ h5 => by
            have := hk.uniq i o ho hl k' o' h3 (by rw [h5, hd])
            omega)
          rw [W.last] at this
          rw [this, hst]
          have hlen := W.length i (by omega)
          have hlen2 := W.length l.length (Nat.le_refl _)
          rw [W.last] at hlen2
          exact getC_setC_eq _ _ _ (by omega)
        rw [h8]
        have : (a.put (some t) v).tmps.getD t undef = v := by
          simp only [Act.put, Array.getD_eq_getD_getElem?, Array.getElem?_setIfInBounds]
          simp [h.len, h.slen, hlt]
        rw [this]
        exact h6
      · rw [getC_out sL t (Nat.le_of_not_lt hlt)]
        have : (a.put (some t) v).tmps.getD t undef = undef := by
          simp only [Act.put, Array.getD_eq_getD_getElem?, Array.getElem?_setIfInBounds]
          simp [h.len, h.slen, hlt]
        rw [this]
        simp only [Rd]
    · rw [put_get hut]
      refine (h.slots u ?_).keep hkeep h1
      rintro ⟨j, oj, hj, hlj, hdj, hjl⟩
      refine hu ⟨j, oj, hj, hlj, hdj, ?_⟩
      have hji : j ≠ i := by
        rintro rfl
        rw [ho] at hj; cases hj
        rw [hd] at hdj
        exact hut (by simpa using hdj)
      cases e : (listed.setIfInBounds i true).getD j false with
      | false => rfl
      | true =>
        rcases (hset j).1 e with h9 | h9
        · exact absurd h9 hji
        · rw [hjl] at h9; cases h9
  · intro m hm
    exact h2 m (h.nm m hm) (fun B hB => by simp at hB)
  · intro j i' hj
    rw [hset]
    have : i' ≠ i := by
      rintro rfl
      exact elemN_mem hl (List.mem_of_getElem? hj)
    simp only [this, false_or]
    exact h.prog j i' hj
theorem getC_opt : ∀ (l : List C) (t : Nat), getC l t = (l[t]?).getD (.v undef)
  | [], t => by simp [getC]
  | d :: l, 0 => by simp [getC]
  | d :: l, t + 1 => by simp only [getC, List.getElem?_cons_succ]; exact getC_opt l t
open Classical in
/-- The slots, without those of what is still to come. -/
noncomputable def msk (l : List Oper) (hv : List Nat) (listed : Array Bool) (sl : List C) : List C := (List.range sl.length).map fun t => if Und l hv listed t then .any else getC sl t
theorem msk_length (l : List Oper) (hv : List Nat) (listed : Array Bool) (sl : List C) : (msk l hv listed sl).length = sl.length := by simp [msk]
theorem msk_get {l : List Oper} {hv : List Nat} {listed : Array Bool} {sl : List C} {t : Nat} (h : ¬ Und l hv listed t) : getC (msk l hv listed sl) t = getC sl t := by
  classical
  rcases Nat.lt_or_ge t sl.length with hlt | hge
  · rw [getC_opt (msk l hv listed sl)]
    unfold msk
    rw [List.getElem?_map, List.getElem?_range hlt]
    simp [h]
  · rw [getC_out sl t hge, getC_out _ t (by rw [msk_length]; exact hge)]
theorem HInv.rel {l : List Oper} {hv : List Nat} {sL : List C} {g : Ghost} {listed : Array Bool} {k : Nat} {st : St} {b : Names} {a : Act} {w : World} (h : HInv l hv sL g listed k st b a w) : Rel g ⟨msk l hv listed st.sl, st.bx, st.nm⟩ b a w := by
  classical
  refine ⟨h.df, ?_, h.mem, h.nm⟩
  refine RdL_of (by rw [msk_length]; simp [h.len]) fun t => ?_
  rw [show a.tmps.toList.getD t undef = a.tmps.getD t undef by simp [List.getD_eq_getElem?_getD, Array.getD_eq_getD_getElem?]]
  by_cases hu : Und l hv listed t
  · rcases Nat.lt_or_ge t st.sl.length with hlt | hge
    · have : getC (msk l hv listed st.sl) t = .any := by
        rw [getC_opt]
        unfold msk
        rw [List.getElem?_map, List.getElem?_range hlt]
        simp [hu]
      rw [this]
      simp only [Rd]
    · rw [getC_out _ t (by rw [msk_length]; exact hge)]
      have : a.tmps.getD t undef = undef := by
        simp only [Array.getD_eq_getD_getElem?]
        rw [Array.getElem?_eq_none (by rw [h.len]; exact hge)]
        rfl
      rw [this]
      simp only [Rd]
  · rw [msk_get hu]
    exact h.slots t hu
theorem pickO_cons {l : List Oper} {hv : List Nat} {k i : Nat} {o : Oper} (hk : hv[k]? = some i) (ho : l[i]? = some o) : pickO l (hv.drop k) = o :: pickO l (hv.drop (k + 1)) := by
  obtain ⟨hlt, he⟩ := List.getElem?_eq_some_iff.1 hk
  rw [List.drop_eq_getElem_cons hlt, he]
  simp only [pickO, ho]
/-- After one operation of the chain. -/
theorem HInv.after {l : List Oper} {hv : List Nat} {sL : List C} {g : Ghost} {listed : Array Bool} {k : Nat} {st : St} {b : Names} {a : Act} {w : World} (h : HInv l hv sL g listed k st b a w) {i : Nat} {o : Oper}
    (hi : i ∈ Region.ready .any l.toArray listed) (ho : l[i]? = some o) (hh : elemN hv i = true) (hki : hv[k]? = some i) (honly : ∀ j, hv[j]? = some i → j = k) {r : C} {bx' : Bxs} {nm' : List Nat} {b' : Names} {a' : Act} {w' : World}
    (hr : Rel g ⟨St.slot ⟨msk l hv listed st.sl, st.bx, st.nm⟩ o.dst r, bx', nm'⟩ b' a' w') :
    HInv l hv sL g (listed.setIfInBounds i true) (k + 1) ⟨St.slot st o.dst r, bx', nm'⟩ b' a' w' := by
  have hil : i < l.length := (List.getElem?_eq_some_iff.1 ho).1
  have hils : i < listed.size := by rw [h.head.size]; simpa using hil
  have hset : ∀ j, (listed.setIfInBounds i true).getD j false = true ↔ j = i ∨ listed.getD j false = true := by
    intro j
    by_cases hij : i = j
    · subst hij; simp [hils]
    · rw [getD_set_ne false hij]
      simp [Ne.symm hij]
  have hlen : ∀ sl : List C, (St.slot ⟨sl, st.bx, st.nm⟩ o.dst r).length = sl.length := by
    intro sl
    cases hd : o.dst with
    | none => rfl
    | some t => exact setC_length _ _ _
  have hlen2 : (St.slot st o.dst r).length = st.sl.length := hlen st.sl
  refine ⟨h.head.set hi hil, hr.df, ?_, ?_, hr.mem, hr.nm, ?_, ?_, ?_⟩
  · have := hr.sl.length
    simp only at this
    rw [hlen, msk_length] at this
    simp only [hlen2]
    simpa using this.symm
  · intro u hu
    have hu0 : ¬ Und l hv listed u := by
      rintro ⟨j, oj, hj, hlj, hdj, hjl⟩
      refine hu ⟨j, oj, hj, hlj, hdj, ?_⟩
      have hji : j ≠ i := by
        rintro rfl
        rw [hlj] at hh; cases hh
      cases e : (listed.setIfInBounds i true).getD j false with
      | false => rfl
      | true =>
        rcases (hset j).1 e with h9 | h9
        · exact absurd h9 hji
        · rw [hjl] at h9; cases h9
    have h1 := getC_rd hr.sl u
    have h2 : getC (St.slot ⟨msk l hv listed st.sl, st.bx, st.nm⟩ o.dst r) u = getC (St.slot st o.dst r) u := by
      cases hd : o.dst with
      | none => exact msk_get hu0
      | some t =>
        show getC (setC (msk l hv listed st.sl) t r) u = getC (setC st.sl t r) u
        by_cases htu : t = u
        · subst htu
          rcases Nat.lt_or_ge t st.sl.length with hlt | hge
          · rw [getC_setC_eq _ _ _ (by rw [msk_length]; exact hlt), getC_setC_eq _ _ _ hlt]
          · rw [getC_out _ _ (by rw [setC_length, msk_length]; exact hge), getC_out _ _ (by rw [setC_length]; exact hge)]
        · rw [getC_setC_ne _ _ htu, getC_setC_ne _ _ htu, msk_get hu0]
    simp only at h1
    rw [h2] at h1
    simpa [List.getD_eq_getElem?_getD, Array.getD_eq_getD_getElem?] using h1
  · intro j i' hj
    rw [hset]
    constructor
    · rintro (rfl | h1)
      · have := honly j hj; omega
      · have := (h.prog j i' hj).1 h1; omega
    · intro h1
      rcases Nat.lt_or_ge j k with h2 | h2
      · exact .inr ((h.prog j i' hj).2 h2)
      · have : j = k := by omega
        subst this
        rw [hki] at hj
        exact .inl (by simpa using hj.symm)
  · intro t ht
    have hd := ht i o ho hh
    have : getC (St.slot st o.dst r) t = getC st.sl t := by
      cases hdd : o.dst with
      | none => rfl
      | some u => exact getC_setC_ne _ _ (fun e => hd (by rw [hdd, e]))
    simp only [this]
    exact h.same t ht
  · simp only [hlen2]
    exact h.slen
theorem HInv.heavy {P : Program} {l : List Oper} {hv : List Nat} {sL : List C} (hk : HvOk l hv) {g : Ghost} {listed : Array Bool} {k : Nat} {st : St} {b : Names} {a : Act} {w : World} (h : HInv l hv sL g listed k st b a w)
    {i : Nat} (hi : i ∈ Region.ready .any l.toArray listed) (hh : elemN hv i = true) {Q : Exit → Act → World → Prop} {K : Act → World → Prop} {Kf : St → Prop} (hc : ahvs P (pickO l (hv.drop k)) st Kf)
    (hK : ∀ a' w' b' st', HInv l hv sL g (listed.setIfInBounds i true) (k + 1) st' b' a' w' → ahvs P (pickO l (hv.drop (k + 1))) st' Kf → K a' w') : wpOp P l.toArray Q i K a w := by
  obtain ⟨hun, o, ho', hall⟩ := mem_ready.1 hi
  have ho : l[i]? = some o := by simpa using ho'
  have honly : ∀ j, hv[j]? = some i → j = k := by
    intro j hj
    have h1 : ¬ j < k := fun h1 => by
      have := (h.prog j i hj).2 h1
      rw [getD_both hun] at this; cases this
    rcases Nat.lt_or_ge k j with h2 | h2
    · exfalso
      have hjl := (List.getElem?_eq_some_iff.1 hj).1
      have hp := List.getElem?_eq_getElem (show j - 1 < hv.length by omega)
      have hw := (hk.chain (j - 1) _ i hp (by rw [show j - 1 + 1 = j by omega]; exact hj)).2
      obtain ⟨o2, ho2, e, he, hb, hon⟩ := Region.waitsFor_spec hw
      rw [ho'] at ho2; cases ho2
      have h3 := hall e he hb
      rw [hon] at h3
      have := (h.prog (j - 1) _ hp).1 h3
      omega
    · omega
  obtain ⟨j, hj⟩ := List.getElem?_of_mem (elemN_true hh)
  have := honly j hj
  subst this
  rw [pickO_cons hj ho] at hc
  simp only [ahvs] at hc
  have hrel := h.rel
  have hop : ∀ x, x ∈ o.op.operands → ∀ t, x = .tmp t → getC st.sl t = getC (msk l hv listed st.sl) t := by
    rintro x hx t rfl
    refine (msk_get ?_).symm
    rintro ⟨j', oj, hj', hlj, hdj, hjl⟩
    have hw := hk.useH i o ho hh t (by simp only [tmpsOf, List.mem_filterMap]; exact ⟨.tmp t, by simpa using hx, rfl⟩) j' oj hj' hlj hdj
    obtain ⟨o2, ho2, e, he, hb, hon⟩ := Region.waitsFor_spec hw
    rw [ho'] at ho2; cases ho2
    have := hall e he hb
    rw [hon, hjl] at this; cases this
  unfold wpOp
  simp only [ho']
  rw [show Region.wanted o (yielded l.toArray a.tmps) = true by simp [Region.wanted, hk.guard i o ho], if_pos rfl]
  left
  have hmove : ∀ x, x ∈ o.op.operands → (∀ ρ : Operand → Value, execOp ρ o = (pure (.value (ρ x)) : Sem Next)) → ahvs P (pickO l (hv.drop (j + 1))) ⟨St.slot st o.dst (St.ev st x), st.bx, st.nm⟩ Kf → o.wp P a w K Q := by
    intro x hx he hc
    refine Runs.wp (R := fun v w' => v = a.eval x ∧ w' = w) (by rw [he]; exact ⟨rfl, rfl⟩) ?_
    rintro v w' ⟨rfl, rfl⟩
    have e1 : St.ev ⟨msk l hv listed st.sl, st.bx, st.nm⟩ x = St.ev st x := (ev_slots x (hop x hx)).symm
    have hd := hrel.ev x
    rw [e1] at hd
    have hr2 := putV hrel o.dst hd
    exact hK _ _ b _ (h.after hi ho hh hj honly hr2) hc
  rw [ahv_eq] at hc
  cases hoo : o.op <;> simp only [hoo] at hc <;> try (exact hc.elim)
  case call c =>
    obtain ⟨ls, hc⟩ := hc
    have hxa : ∀ x, x ∈ c.args.toList → x ∈ o.op.operands := by
      intro x hx
      have hx' : x ∈ c.args := by simpa using hx
      rw [hoo]
      simp only [Op.operands, Call.operands]
      cases c.callee <;> simp [hx']
    have h1 := acallG_slots (sl' := msk l hv listed st.sl) (fun f hf t ht => hop f (by rw [hoo]; simp [Op.operands, Call.operands, hf]) t ht) (fun x hx t ht => hop x (hxa x hx) t ht) hc
    refine Oper.wp_mono ?_ (acallG_sound hoo h1 hrel Q)
    rintro a' w' ⟨s', b', hr', r, hsl, hc'⟩
    refine hK a' w' b' _ (h.after hi ho hh hj honly (r := r) (bx' := s'.bx) (nm' := s'.nm) ?_) hc'
    rw [← hsl]
    exact hr'
  case assign x =>
    exact hmove x (by rw [hoo]; simp [Op.operands]) (fun ρ => by unfold execOp; rw [hoo]) ((slotK_iff (s := st)).1 hc)
  case move x =>
    exact hmove x (by rw [hoo]; simp [Op.operands]) (fun ρ => by unfold execOp; rw [hoo]) ((slotK_iff (s := st)).1 hc)
theorem wpAny_hv {P : Program} {l : List Oper} {hv : List Nat} {sl sL : List C} (W : Lw P hv l 0 sl sL) (hk : HvOk l hv) {g : Ghost} {K : St → Prop} {Q : Exit → Act → World → Prop} (hQ : ∀ a w, Nxt g K a w → Q .normal a w) :
    ∀ (f : Nat) (listed : Array Bool) (k : Nat) (st : St) (b : Names) (a : Act) (w : World), left l.length listed = f → HInv l hv sL g listed k st b a w → ahvs P (pickO l (hv.drop k)) st K → wpAny P .any l.toArray Q f listed a w := by
  intro f
  induction f with
  | zero =>
    intro listed k st b a w hf h hc
    have hall := left_zero hf
    refine ⟨List.eq_nil_iff_forall_not_mem.2 fun i hi => ?_, ?_⟩
    · obtain ⟨hun, o, ho, _⟩ := mem_ready.1 hi
      have hil : i < l.length := by simpa using (Array.getElem?_eq_some_iff.1 ho).1
      have := hall i hil
      rw [getD_both hun] at this; cases this
    · have hno : ∀ t, ¬ Und l hv listed t := by
        rintro t ⟨i, o, ho, _, _, hl⟩
        have := hall i (List.getElem?_eq_some_iff.1 ho).1
        rw [hl] at this; cases this
      have hkl : hv.length ≤ k := by
        rcases Nat.lt_or_ge k hv.length with h1 | h1
        · exfalso
          have hp := List.getElem?_eq_getElem h1
          have := (h.prog k _ hp).1 (hall _ (hk.rng _ (List.mem_of_getElem? hp)))
          omega
        · exact h1
      rw [List.drop_of_length_le hkl] at hc
      refine hQ a w ⟨st, b, ⟨h.df, ?_, h.mem, h.nm⟩, hc⟩
      refine RdL_of (by simp [h.len]) fun t => ?_
      have := h.slots t (hno t)
      simpa [List.getD_eq_getElem?_getD, Array.getD_eq_getD_getElem?] using this
  | succ f ih =>
    intro listed k st b a w hf h hc
    obtain ⟨i0, hi0, hl0, hbelow⟩ := left_pos (n := l.length) (listed := listed) (by omega)
    have hsz := h.head.size
    simp only [List.size_toArray] at hsz
    have hready : i0 ∈ Region.ready .any l.toArray listed := by
      refine mem_ready.2 ⟨getD_in (by omega) hl0, l[i0], by simp [hi0], fun e he hb => ?_⟩
      exact hbelow _ (hk.back i0 _ (List.getElem?_eq_getElem hi0) e he hb)
    refine ⟨fun h0 => (by rw [h0] at hready; cases hready), fun i hi => ?_⟩
    have hun := (mem_ready.1 hi).1
    have hil : i < l.length := by
      obtain ⟨_, o, ho, _⟩ := mem_ready.1 hi
      simpa using (Array.getElem?_eq_some_iff.1 ho).1
    have hleft := left_set (n := l.length) (listed := listed) hil (by omega) (getD_both hun)
    cases e : elemN hv i with
    | false => exact h.light W hk hi e fun a' w' b' h' => ih _ k st b' a' w' (by omega) h' hc
    | true => exact h.heavy hk hi e hc fun a' w' b' st' h' hc' => ih _ (k + 1) st' b' a' w' (by omega) h' hc'
theorem hv_region {P : Program} {G : Tab} (hG : TabOk P G) {l : List Oper} {hv : List Nat} (hB : hvB l hv = true) {s : St} {K : St → Prop} (h : alight P G hv 0 l s.sl fun sl => ahvs P (pickO l hv) ⟨sl, s.bx, s.nm⟩ K) {g : Ghost} {b : Names} {a : Act} {w : World}
    (hr : Rel g s b a w) {Q : Exit → Act → World → Prop} (hQ : ∀ a w, Nxt g K a w → Q .normal a w) : wpAny P .any l.toArray Q l.length (Array.replicate l.length false) a w := by
  have hk := HvOk.of hB
  obtain ⟨sL, hc, ⟨W⟩⟩ := alight_way hG _ _ _ h
  have hl0 : left l.length (Array.replicate l.length false) = l.length := by
    unfold left
    rw [List.countP_eq_length.2 (fun i _ => by rw [getD_replicate_false]; rfl), List.length_range]
  have hlen : s.sl.length = a.tmps.size := by rw [hr.sl.length]; simp
  have hns : sL.length = s.sl.length := by
    have := W.length l.length (Nat.le_refl _)
    rwa [W.last] at this
  refine wpAny_hv W hk hQ _ _ 0 ⟨sL, s.bx, s.nm⟩ b a w hl0 ⟨⟨by simp, fun j oj _ hl => (by rw [getD_replicate_false] at hl; cases hl), fun t _ ht => getD_in (by simpa using ht) (getD_replicate_false _ _)⟩, hr.df, by simp only; omega, ?_, hr.mem, hr.nm, ?_, fun t _ => rfl, rfl⟩ (by simpa using hc)
  · intro t ht
    have h1 := W.keep (t := t) (i := 0) l.length (Nat.zero_le _) (Nat.le_refl _) (fun k o _ hk2 ho he hd => ht ⟨k, o, ho, he, hd, getD_replicate_false _ _⟩)
    rw [W.last, W.first] at h1
    simp only
    rw [h1]
    have := getC_rd hr.sl t
    simpa [List.getD_eq_getElem?_getD, Array.getD_eq_getD_getElem?] using this
  · intro j i hj
    rw [getD_replicate_false]
    simp
end El
namespace El
open Go Go.RowKit
structure Ok (P : Program) (G : Tab) : Prop where
  tab : TabOk P G
  mixed : P.follows .mixedOrders = true
def quietOp (o : Oper) : Bool :=
  match o.op with
  | .store .. | .assign _ | .mapUpdate .. | .insert .. | .next .. => false
  | .call c => (match c.callee with
    | .builtin .len | .builtin .max | .builtin .min => true
    | .builtin _ => false
    | _ => true)
  | _ => true
/-- The same, writes of slots among them. -/
def quietA (o : Oper) : Bool :=
  match o.op with
  | .assign _ => true
  | _ => quietOp o
def nOfA : List Oper → Nat
  | [] => 0
  | o :: l => match quietA o with
    | true => nOfA l + 1
    | false => 0
/-- How many of the first operations turn nothing. -/
def nOf : List Oper → Nat
  | [] => 0
  | o :: l => match quietOp o with
    | true => nOf l + 1
    | false => 0
/-- What a text says of a region: the blocks that turn no more from here on; the blocks that its calls are lent. -/
abbrev Hints := List (Nat × (List Nat × Option (List Nat)))
def getH : Hints → Nat → List Nat × Option (List Nat)
  | [], _ => ([], none)
  | (i, x) :: r, id => match Nat.beq i id with
    | true => x
    | false => getH r id
def aregion1 (P : Program) (G : Tab) (lend : Option (List Nat)) (l : List Oper) (draw : Bool) (s : St) (K : St → Prop) : Prop :=
  match draw with
  | false => aops P G lend l l s K
  | true => (∃ n rs stn, (preB l n && tailB l n && chkB l n rs) = true ∧ apre P G l rs stn s.bx 0 [] (l.take n) s fun s' => aops P G lend l (l.drop n) s' K) ∨
      ∃ hv, hvB l hv = true ∧ match s with
        | ⟨sl, bx, nm⟩ => alight P G hv 0 l sl fun sl' => ahvs P (pickO l hv) ⟨sl', bx, nm⟩ K
def aregion (P : Program) (G : Tab) (h : List Nat × Option (List Nat)) (l : List Oper) (draw : Bool) (s : St) (K : St → Prop) : Prop :=
  match h with
  | ([], lend) => aregion1 P G lend l draw s K
  | (fz, lend) => frzK fz s fun s => aregion1 P G lend l draw s K
theorem aregion1_sound {P : Program} {G : Tab} (hG : Ok P G) {lend : Option (List Nat)} {id : Nat} {ops : Array Oper} {draw : Bool} {s : St} {K : St → Prop} (h : aregion1 P G lend ops.toList draw s K) {g : Ghost} {b : Names} {a : Act} {w : World}
    (hr : Rel g s b a w) {Q : Exit → Act → World → Prop} (hQ : ∀ a w, Nxt g K a w → Q .normal a w) : (Code.region id ops draw).wp P Q a w := by
  cases draw with
  | false => exact wp_region_list (by have := aops_sound hG.tab hQ ops.toList s b a w h hr; simpa using this)
  | true =>
    rcases h with h | ⟨hv, hB, h⟩
    case inr =>
      refine wp_region_any hG.mixed ?_
      have hr' : Rel g s b a { w with drawn := w.drawn + 1 } := by
        have hb : Below w.heap.size w { w with drawn := w.drawn + 1 } := ⟨rfl, rfl, rfl, Nat.le_refl _, fun _ _ => rfl, Nat.le_succ _⟩
        exact ⟨hr.df, RdL.keep (w := w) (w' := { w with drawn := w.drawn + 1 }) (S := Mut g.S0 b s.bx) (b := b) (fun _ _ hn => ⟨rfl, hn⟩) (fun _ _ h => h) hr.sl, hr.mem.below hb, hr.nm⟩
      have := hv_region hG.tab hB (s := s) (K := K) h hr' hQ
      simpa using this
    obtain ⟨n, rs, stn, hB, h⟩ := h
    simp only [Bool.and_eq_true] at hB
    obtain ⟨⟨hB1, hB2⟩, hB3⟩ := hB
    have hp := PreOk.of hB1
    obtain ⟨s', hK, ⟨W⟩⟩ := apre_way hG.tab _ _ _ _ h
    refine wp_region_any hG.mixed ?_
    have hr' : Rel g s b a { w with drawn := w.drawn + 1 } := by
      have hb : Below w.heap.size w { w with drawn := w.drawn + 1 } := ⟨rfl, rfl, rfl, Nat.le_refl _, fun _ _ => rfl, Nat.le_succ _⟩
      exact ⟨hr.df, RdL.keep (w := w) (w' := { w with drawn := w.drawn + 1 }) (S := Mut g.S0 b s.bx) (b := b) (fun _ _ hn => ⟨rfl, hn⟩) (fun _ _ h => h) hr.sl, hr.mem.below hb, hr.nm⟩
    have hns : ∀ p, p ∈ s.bx → p.1 ∈ s.nm := fun p hp => by
      apply Classical.byContradiction
      intro hn
      obtain ⟨x, c, h1, _⟩ := (hr.mem.boxes p.1 p.2 hp).name
      rw [hr.nm p.1 hn] at h1; cases h1
    have hlen : s.sl.length = a.tmps.size := by rw [hr.sl.length]; simp
    have hns' : s'.sl.length = s.sl.length := by
      have := W.length (ops.toList.take n).length (Nat.le_refl _)
      rwa [W.last] at this
    have hl0 : left n (Array.replicate ops.size false) = n := by
      unfold left
      rw [List.countP_eq_length.2 (fun i _ => by rw [getD_replicate_false]; rfl), List.length_range]
    have hinv : AInv W g (Array.replicate ops.size false) b s.bx a { w with drawn := w.drawn + 1 } := by
      refine ⟨⟨by simp, fun j oj _ hl => (by rw [getD_replicate_false] at hl; cases hl), fun t _ ht => getD_in (by simpa using ht) (getD_replicate_false _ _)⟩, hr'.df, hlen.symm, ?_, ?_, hr'.mem, ?_, ?_⟩
      · intro t ht
        have hno : ∀ k o, 0 ≤ k → k < (ops.toList.take n).length → (ops.toList.take n)[k]? = some o → o.dst ≠ some t := by
          intro k o _ hk hok hd
          have hkn : k < n := by rw [List.length_take] at hk; omega
          rw [take_at hkn] at hok
          have := ht k o hkn hok hd
          rw [getD_replicate_false] at this; cases this
        have h1 := W.keep (t := t) (i := 0) (ops.toList.take n).length (Nat.zero_le _) (Nat.le_refl _) hno
        rw [W.last, W.first] at h1
        rw [h1]
        have := getC_rd hr'.sl t
        simpa [List.getD_eq_getElem?_getD, Array.getD_eq_getD_getElem?] using this
      · intro t _
        have := getC_rd hr'.sl t
        simpa [List.getD_eq_getElem?_getD, Array.getD_eq_getD_getElem?] using this
      · intro m B
        constructor
        · intro h1
          exact .inl ⟨.inl h1, fun k _ _ _ hk => by rw [getD_replicate_false] at hk; cases hk⟩
        · rintro (⟨h1 | ⟨i, _, h1, _⟩, _⟩ | ⟨k, _, _, hk, _⟩)
          · exact h1
          · rw [getD_replicate_false] at h1; cases h1
          · rw [getD_replicate_false] at hk; cases hk
      · intro m hm
        refine .inl (Classical.byContradiction fun hn => hm (hr'.nm m hn))
    have := wpAny_pre hG.tab W hp hB3 hB2 hr'.mem.uniq hns hQ hK _ _ b s.bx a _ hl0 hinv
    have hle : n ≤ ops.size := by have := hp.le; simpa using this
    rw [show n + (ops.toList.length - n) = ops.size by simp; omega] at this
    simpa using this
/-- The same, stores among them. -/
def nOfS : List Oper → Nat
  | [] => 0
  | o :: l => match quietA o || isStore o with
    | true => nOfS l + 1
    | false => 0
theorem anyN {l : List Oper} {K : Nat → List Bool → List Nat → Prop} {R : Prop} (n : Nat) (h : (preB l n && tailB l n && chkB l n []) = true) (hK : K n [] []) : (∃ n rs stn, (preB l n && tailB l n && chkB l n rs) = true ∧ K n rs stn) ∨ R := .inl ⟨_, _, _, h, hK⟩
theorem anyH {l : List Oper} {K : List Nat → Prop} {R : Prop} (hv : List Nat) (h : hvB l hv = true) (hK : K hv) : R ∨ ∃ hv, hvB l hv = true ∧ K hv := .inr ⟨_, h, hK⟩
theorem anyA {l : List Oper} {K : Nat → List Bool → List Nat → Prop} {R : Prop} (h : (preB l (nOfA l) && tailB l (nOfA l) && chkB l (nOfA l) []) = true) (hK : K (nOfA l) [] []) : (∃ n rs stn, (preB l n && tailB l n && chkB l n rs) = true ∧ K n rs stn) ∨ R := .inl ⟨_, _, _, h, hK⟩
theorem anyB {l : List Oper} {K : Nat → List Bool → List Nat → Prop} {R : Prop} (h : (preB l (nOf l) && tailB l (nOf l) && chkB l (nOf l) []) = true) (hK : K (nOf l) [] []) : (∃ n rs stn, (preB l n && tailB l n && chkB l n rs) = true ∧ K n rs stn) ∨ R := .inl ⟨_, _, _, h, hK⟩
theorem anyC {l : List Oper} {K : Nat → List Bool → List Nat → Prop} {R : Prop} (rs : List Bool) (stn : List Nat) (h : (preB l (nOfS l) && tailB l (nOfS l) && chkB l (nOfS l) rs) = true) (hK : K (nOfS l) rs stn) : (∃ n rs stn, (preB l n && tailB l n && chkB l n rs) = true ∧ K n rs stn) ∨ R := .inl ⟨_, _, _, h, hK⟩
theorem aregion_sound {P : Program} {G : Tab} (hG : Ok P G) {hi : List Nat × Option (List Nat)} {id : Nat} {ops : Array Oper} {draw : Bool} {s : St} {K : St → Prop} (h : aregion P G hi ops.toList draw s K) {g : Ghost} {b : Names} {a : Act} {w : World}
    (hr : Rel g s b a w) {Q : Exit → Act → World → Prop} (hQ : ∀ a w, Nxt g K a w → Q .normal a w) : (Code.region id ops draw).wp P Q a w := by
  obtain ⟨fz, lend⟩ := hi
  cases fz with
  | nil => exact aregion1_sound hG h hr hQ
  | cons l fz =>
    obtain ⟨s', hr', h'⟩ := frzK_sound (ls := l :: fz) h hr
    exact aregion1_sound hG h' hr' hQ
/-! ### Code -/
/-- Slots that a loop's head forgets. -/
def fgK : List C → List Bool → (List C → Prop) → Prop
  | [], _, K => K []
  | d :: l, [], K => fgK l [] fun l' => K (d :: l')
  | _ :: l, true :: m, K => fgK l m fun l' => K (.any :: l')
  | d :: l, false :: m, K => fgK l m fun l' => K (d :: l')
def fg : List C → List Bool → List C
  | [], _ => []
  | d :: l, [] => d :: fg l []
  | _ :: l, true :: m => .any :: fg l m
  | d :: l, false :: m => d :: fg l m
theorem fgK_iff : ∀ {l : List C} {m : List Bool} {K : List C → Prop}, fgK l m K ↔ K (fg l m)
  | [], _, _ => by simp [fgK, fg]
  | d :: l, [], K => by simp only [fgK, fg]; exact fgK_iff
  | _ :: l, true :: m, K => by simp only [fgK, fg]; exact fgK_iff
  | d :: l, false :: m, K => by simp only [fgK, fg]; exact fgK_iff
def updK : List C → List (Nat × C) → (List C → Prop) → Prop
  | l, [], K => K l
  | l, (t, d) :: us, K => setK l t d fun l' => updK l' us K
def upd : List C → List (Nat × C) → List C
  | l, [] => l
  | l, (t, d) :: us => upd (setC l t d) us
theorem updK_iff : ∀ {us : List (Nat × C)} {l : List C} {K : List C → Prop}, updK l us K ↔ K (upd l us)
  | [], _, _ => Iff.rfl
  | (t, d) :: us, l, K => by simp only [updK, upd]; rw [setK_iff]; exact updK_iff
/-- What a loop's head says: the slots of the frame, the boxes that turn. -/
structure Head where
  us : List (Nat × C)
  bs : Bxs
/-- What is the same for every round: which slots are forgotten, which boxes stay, which names are new. -/
structure Lp where
  mask : List Bool
  keep : List Nat
  ns : List Nat
def headSt (p : Lp) (s : St) (h : Head) : St := ⟨upd (fg s.sl p.mask) h.us, h.bs ++ pick s.bx p.keep, p.ns ++ s.nm⟩
def headK (p : Lp) (s : St) (h : Head) (K : St → Prop) : Prop :=
  match s, h with
  | ⟨sl, bx, nm⟩, ⟨us, bs⟩ => fgK sl p.mask fun l => updK l us fun l => pickK bx p.keep fun r => appK bs r fun bx' => appK p.ns nm fun nm' => K ⟨l, bx', nm'⟩
theorem headK_of {p : Lp} {s : St} {h : Head} {K : St → Prop} (hk : headK p s h K) : K (headSt p s h) := by
  obtain ⟨sl, bx, nm⟩ := s
  obtain ⟨us, bs⟩ := h
  simp only [headK] at hk
  rw [fgK_iff, updK_iff] at hk
  have hk := pickK_of hk
  rw [appK_iff, appK_iff] at hk
  exact hk
def thenQ (N : St → Prop) (Q : Exit → St → Prop) : Exit → St → Prop
  | .normal, s => N s
  | e, s => Q e s
def blockQ (id : Nat) (Q : Exit → St → Prop) : Exit → St → Prop
  | .exit id', s => (match Nat.beq id' id with
    | true => Q .normal s
    | false => Q (.exit id') s)
  | e, s => Q e s
def ac (P : Program) (G : Tab) (H : Hints) : Code → (Exit → St → Prop) → St → Prop
  | .skip, Q, s => Q .normal s
  | .region id ops draw, Q, s => aregion P G (getH H id) ops.toList draw s (Q .normal)
  | .seq x y, Q, s => ac P G H x (thenQ (ac P G H y Q) Q) s
  | .cond c x y, Q, s => (match s.ev c with
    | .v (.bool p) => bcase p (ac P G H x Q s) (ac P G H y Q s)
    | _ => False)
  | .block id x, Q, s => ac P G H x (blockQ id Q) s
  | .loop x, Q, s => ∃ (ι : Type) (h : ι → Head) (p : Lp) (μ : ι → Nat), (∃ (i : ι) (r : Ren), headK p s (h i) fun s₁ => LeS (r ++ idR s.nm) s s₁) ∧
      ∀ i, headK p s (h i) fun s₁ => ac P G H x (thenQ (fun s' => ∃ (j : ι) (r : Ren), μ j < μ i ∧ headK p s (h j) fun s₂ => LeS (r ++ idR s₁.nm) s' s₂) Q) s₁
  | .exit id, Q, s => Q (.exit id) s
  | .ret, Q, s => Q .ret s
  | _, _, _ => False
theorem ac_sound {P : Program} {G : Tab} (hG : Ok P G) {H : Hints} {g : Ghost} : ∀ (c : Code) (Q : Exit → St → Prop) (s : St) (b : Names) (a : Act) (w : World), ac P G H c Q s → Rel g s b a w →
    c.wp P (fun e a' w' => ∃ s' b', Rel g s' b' a' w' ∧ Q e s') a w
  | .skip, Q, s, b, a, w, h, hr => wp_skip ⟨s, b, hr, h⟩
  | .region id ops draw, Q, s, b, a, w, h, hr => aregion_sound hG h hr fun a' w' hn => hn
  | .seq x y, Q, s, b, a, w, h, hr => by
    simp only [ac] at h
    refine wp_seq (wp_mono (ac_sound hG x _ s b a w h hr) fun e a' w' ⟨s', b', hr', hq⟩ => ?_)
    cases e with
    | normal => exact ac_sound hG y Q s' b' a' w' hq hr'
    | _ => exact ⟨s', b', hr', hq⟩
  | .cond c x y, Q, s, b, a, w, h, hr => by
    simp only [ac] at h
    split at h
    · rename_i p hp
      have hv := hr.ev c
      rw [hp] at hv
      simp only [Rd] at hv
      refine wp_cond hv ?_
      cases p with
      | true => exact ac_sound hG x Q s b a w h hr
      | false => exact ac_sound hG y Q s b a w h hr
    · exact h.elim
  | .block id x, Q, s, b, a, w, h, hr => by
    simp only [ac] at h
    refine wp_block (wp_mono (ac_sound hG x _ s b a w h hr) fun e a' w' ⟨s', b', hr', hq⟩ => ?_)
    cases e with
    | exit id' =>
      simp only [blockQ] at hq
      simp only [Exit.inBlock]
      split at hq
      · rename_i e; rw [if_pos (Nat.eq_of_beq_eq_true e)]; exact ⟨s', b', hr', hq⟩
      · rename_i e
        have : id' ≠ id := fun e' => by subst e'; simp at e
        rw [if_neg this]; exact ⟨s', b', hr', hq⟩
    | _ => exact ⟨s', b', hr', hq⟩
  | .loop x, Q, s, b, a, w, h, hr => by
    simp only [ac] at h
    obtain ⟨ι, hd, p, μ, ⟨i, r, hle⟩, hround⟩ := h
    intro bf k cs
    have main : ∀ n i b a w, μ i = n → Rel g (headSt p s (hd i)) b a w →
        ∃ e a' w', (∃ s' b', Rel g s' b' a' w' ∧ Q e s') ∧ Arrives P (lone (bf.at a (.code x :: .inLoop x :: k)) cs w) bf k cs e a' w' := by
      intro n
      induction n using Nat.strongRecOn with
      | _ n ih =>
        intro i b a w hn hI
        obtain ⟨e, a₁, w₁, ⟨s₁, b₁, hr₁, hq⟩, harr⟩ := ac_sound hG x _ _ b a w (headK_of (K := fun s₁ => ac P G H x (thenQ (fun s' => ∃ (j : ι) (r : Ren), μ j < μ i ∧ headK p s (hd j) fun s₂ => LeS (r ++ idR s₁.nm) s' s₂) Q) s₁) (hround i)) hI bf (.inLoop x :: k) cs
        cases e with
        | normal =>
          obtain ⟨j, r, hlt, hle⟩ := hq
          obtain ⟨e₂, a₂, w₂, hq₂, harr₂⟩ := ih (μ j) (hn ▸ hlt) j _ a₁ w₁ rfl (hr₁.le (headK_of hle))
          exact ⟨e₂, a₂, w₂, hq₂, .of_steps (Steps.trans harr (.one step_inLoop)) harr₂⟩
        | exit id => exact ⟨_, a₁, w₁, ⟨s₁, b₁, hr₁, hq⟩, .pass (x := .inLoop x) rfl (fun _ _ => .inl (by simp)) harr⟩
        | goto l => exact ⟨_, a₁, w₁, ⟨s₁, b₁, hr₁, hq⟩, .pass (x := .inLoop x) rfl (fun _ _ => .inl (by simp)) harr⟩
        | ret => exact ⟨_, a₁, w₁, ⟨s₁, b₁, hr₁, hq⟩, .pass (x := .inLoop x) rfl (fun _ _ => .inl (by simp)) harr⟩
        | panic ch => exact ⟨_, a₁, w₁, ⟨s₁, b₁, hr₁, hq⟩, .pass (x := .inLoop x) rfl (fun _ _ => .inl (by simp)) harr⟩
        | outgrown => exact ⟨_, a₁, w₁, ⟨s₁, b₁, hr₁, hq⟩, .pass (x := .inLoop x) rfl (fun _ _ => .inl (by simp)) harr⟩
    obtain ⟨e, a', w', hq, harr⟩ := main _ i _ a w rfl (hr.le (headK_of hle))
    exact ⟨e, a', w', hq, .of_steps (.one step_loop) harr⟩
  | .exit id, Q, s, b, a, w, h, hr => wp_exit ⟨s, b, hr, h⟩
  | .ret, Q, s, b, a, w, h, hr => wp_ret ⟨s, b, hr, h⟩
  | .rangeFunc .., _, _, _, _, _, h, _ => by simp [ac] at h
  | .scope _, _, _, _, _, _, h, _ => by simp [ac] at h
  | .label _, _, _, _, _, _, h, _ => by simp [ac] at h
  | .goto _, _, _, _, _, _, h, _ => by simp [ac] at h
  | .refuse _, _, _, _, _, _, h, _ => by simp [ac] at h
/-! ### Functions -/
def ares1 (G : Tab) (s : St) (r : ResultVar) (R : C → Prop) : Prop :=
  match r with
  | .tmp t => forceC (getC s.sl t) R
  | .cell a T => aload G T s.bx (getC s.sl a) R
def aresL (G : Tab) (s : St) : List ResultVar → (List C → Prop) → Prop
  | [], R => R []
  | r :: rs, R => ares1 G s r fun d => aresL G s rs fun ds => R (d :: ds)
def aresults (G : Tab) (s : St) (rs : List ResultVar) (R : C → Prop) : Prop :=
  aresL G s rs fun ds => match ds with
    | [d] => R d
    | ds => R (.tup ds)
def resOne (tmps : Array Value) : ResultVar → Sem Value
  | .tmp t => pure (tmps.getD t undef)
  | .cell a T => do loadVar T (← asAddr (tmps.getD a undef))
theorem results_eq (fn : Func) (tmps : Array Value) : results fn tmps = (do let vs ← fn.results.mapM (resOne tmps); pure (if h : vs.size = 1 then vs[0] else .tuple vs)) := rfl
theorem ares1_sound {P : Program} {G : Tab} (hG : TabOk P G) {s : St} {r : ResultVar} {R : C → Prop} (h : ares1 G s r R) {g : Ghost} {b : Names} {a : Act} {w : World} (hr : Rel g s b a w) :
    ∃ d, R d ∧ ∃ v, (resOne a.tmps r).run P w = .ok v w ∧ Rd w (Mut g.S0 b s.bx) b d v := by
  have hg := fun t => (show Rd w (Mut g.S0 b s.bx) b (getC s.sl t) (a.tmps.getD t undef) from by
    have := getC_rd hr.sl t
    simpa [List.getD_eq_getElem?_getD, Array.getD_eq_getD_getElem?] using this)
  cases r with
  | tmp t => exact ⟨_, forceC_iff.1 h, _, by simp only [resOne, Sem.run_pure], hg t⟩
  | cell x T =>
    simp only [ares1] at h
    obtain ⟨d, hR, hs⟩ := aload_sound (P := P) hG h
    obtain ⟨u, h1, h2⟩ := hs g b s.bx w _ (fun _ h => h) hr.mem (hg x)
    refine ⟨d, hR, u, ?_, h2⟩
    simp only [resOne, Sem.run_bind]
    generalize a.tmps.getD x undef = v at h1
    cases v
    case pointer q =>
      cases q with
      | none => simp [Instr.loadAt, Instr.sureAddr, stuck] at h1
      | some ad => simpa [asAddr, Instr.loadAt, Instr.sureAddr] using h1
    all_goals simp [Instr.loadAt, Instr.sureAddr, stuck] at h1
theorem aresL_sound {P : Program} {G : Tab} (hG : TabOk P G) {s : St} {g : Ghost} {b : Names} {a : Act} {w : World} (hr : Rel g s b a w) : ∀ {rs : List ResultVar} {R : List C → Prop}, aresL G s rs R →
    ∃ ds, R ds ∧ ∃ vs : List Value, (rs.mapM (resOne a.tmps)).run P w = .ok vs w ∧ RdL w (Mut g.S0 b s.bx) b ds vs
  | [], R, h => ⟨[], h, [], by simp, by simp [RdL]⟩
  | r :: rs, R, h => by
    simp only [aresL] at h
    obtain ⟨d, h1, v, h2, h3⟩ := ares1_sound hG h hr
    obtain ⟨ds, h4, vs, h5, h6⟩ := aresL_sound hG hr h1
    refine ⟨d :: ds, h4, v :: vs, ?_, by simp only [RdL]; exact ⟨h3, h6⟩⟩
    simp only [List.mapM_cons, Sem.run_bind, h2, Result.andThen_ok, h5, Sem.run_pure]
theorem aresults_sound {P : Program} {G : Tab} (hG : TabOk P G) {s : St} {fn : Func} {R : C → Prop} (h : aresults G s fn.results.toList R) {g : Ghost} {b : Names} {a : Act} {w : World} (hr : Rel g s b a w) :
    ∃ d, R d ∧ ∃ v, (results fn a.tmps).run P w = .ok v w ∧ Rd w (Mut g.S0 b s.bx) b d v := by
  unfold aresults at h
  obtain ⟨ds, hR, vs, h1, h2⟩ := aresL_sound hG hr h
  have h3 : (fn.results.mapM (resOne a.tmps)).run P w = .ok vs.toArray w := by
    rw [Array.mapM_eq_mapM_toList]
    simp [h1]
  have hlen := h2.length
  rw [results_eq]
  simp only [Sem.run_bind, h3, Result.andThen_ok, Sem.run_pure]
  match ds, vs, hR, h2, hlen with
  | [d], [v], hR, h2, _ =>
    simp only [RdL] at h2
    exact ⟨d, hR, v, by simp, h2.1⟩
  | [], vs, hR, h2, hl =>
    refine ⟨_, hR, .tuple vs.toArray, ?_, by simp only [Rd]; exact ⟨vs, rfl, h2⟩⟩
    rw [dif_neg (by simp; simp at hl; omega)]
  | d :: d2 :: ds, vs, hR, h2, hl =>
    refine ⟨_, hR, .tuple vs.toArray, ?_, by simp only [Rd]; exact ⟨vs, rfl, h2⟩⟩
    rw [dif_neg (by simp; simp at hl; omega)]
def pad : Nat → List C
  | 0 => []
  | n + 1 => .v undef :: pad n
theorem pad_rd {w : World} {S : Nat → Prop} {b : Names} : ∀ n, RdL w S b (pad n) (List.replicate n undef)
  | 0 => by simp [pad, RdL]
  | n + 1 => by simp only [pad, List.replicate_succ, RdL, Rd]; exact ⟨trivial, pad_rd n⟩
/-- The result, when all that the call made turns no more. -/
def retR (s : St) (d r : C) : Prop :=
  match noName d with
  | true => leC [] r d
  | false => ∃ fz, frzK fz ⟨[d], s.bx, s.nm⟩ fun s' => leL [] [r] s'.sl
def retQ (G : Tab) (rs : List ResultVar) (r : C) : Exit → St → Prop
  | .normal, s => aresults G s rs fun d => retR s d r
  | .ret, s => aresults G s rs fun d => retR s d r
  | _, _ => False
/-- A function's own code shows its word. -/
theorem FSpec.intro {P : Program} {G : Tab} (hG : Ok P G) {f : Nat} {fn : Func} {c : Code} (H : Hints) (hf : P.funcs[f]? = some fn) (hb : fn.body = some c) (hname : (fn.name == "runtime.NumGoroutine") = false)
    {args : List C} {r : C} {m : Nat} (hm : fn.ntmps - args.length = m) (h : ac P G H c (retQ G fn.results.toList r) ⟨args ++ pad m, [], []⟩) : FSpec P f args r := by
  refine ⟨⟨fn, hf, hname, by rw [hb]; rfl⟩, fun w S vs hS hargs => ?_⟩
  have hlen := hargs.length
  refine calls_of_wp hf hb ?_
  let g : Ghost := ⟨w, S, fun _ => False, noN⟩
  have hmut : ∀ x, Mut S noN [] x ↔ S x := fun x => ⟨fun h => by rcases h with h | ⟨_, _, _, h, _⟩; exact h; simp at h, .inl⟩
  have hrel : Rel g ⟨args ++ pad m, [], []⟩ noN { tmps := vs.toArray ++ Array.replicate (fn.ntmps - vs.toArray.size) undef, defers := [] } w := by
    refine ⟨rfl, ?_, ⟨hS, Nat.le_refl _, rfl, rfl, rfl, Nat.le_refl _, fun _ _ _ => rfl, fun _ _ h => by simp at h, fun _ _ _ _ h => by simp at h, (fun _ _ _ hh => by cases hh), List.Pairwise.nil⟩, fun _ _ => rfl⟩
    have h1 : (vs.toArray ++ Array.replicate (fn.ntmps - vs.toArray.size) undef).toList = vs ++ List.replicate m undef := by
      simp [← hm, hlen]
    rw [h1]
    exact (hargs.keep (w' := w) (S' := Mut S noN []) (b' := noN) (fun x _ hn => ⟨rfl, fun hh => hn ((hmut x).1 hh)⟩) fun _ _ h => h).append (pad_rd m)
  refine wp_mono (ac_sound hG c _ _ noN _ w h hrel) fun e a w' ⟨s', b', hr', hq⟩ => ?_
  have fin : aresults G s' fn.results.toList (fun d => retR s' d r) → a.defers = [] ∧ ∃ v, (results fn a.tmps).run P w' = .ok v w' ∧
      (∃ v', Ending.returned v = .returned v' ∧ Below w.heap.size w w' ∧ Rd w' S noN r v') := by
    intro hq
    obtain ⟨d, hret, v, h1, h2⟩ := aresults_sound hG.tab hq hr'
    have h3 : Rd w' S noN r v := by
      unfold retR at hret
      cases hn : noName d with
      | true =>
        rw [hn] at hret
        simp only at hret
        exact (leC_rd (S' := S) (fun x _ hn hh => hn (.inl hh)) hret h2).keep (fun x _ hn => ⟨rfl, hn⟩) fun _ _ hh => by cases hh
      | false =>
        rw [hn] at hret
        simp only at hret
        obtain ⟨fz, hret⟩ := hret
        have hr2 : Rel g ⟨[d], s'.bx, s'.nm⟩ b' { tmps := #[v], defers := [] } w' := ⟨rfl, by simp only [RdL]; exact ⟨h2, trivial⟩, hr'.mem, hr'.nm⟩
        obtain ⟨s2, hr3, hs2⟩ := frzK_sound hret hr2
        have h4 := leL_rd (S' := S) (fun x _ hn hh => hn (.inl hh)) hs2 hr3.sl
        simp only [RdL] at h4
        exact h4.1.keep (fun x _ hn => ⟨rfl, hn⟩) fun _ _ hh => by cases hh
    exact ⟨hr'.df, v, h1, v, rfl, ⟨hr'.mem.os, hr'.mem.tape, hr'.mem.output, hr'.mem.size, fun k hk => hr'.mem.old k hk (fun h => h), hr'.mem.drawn⟩, h3⟩
  cases e with
  | normal => exact fin hq
  | ret => exact fin hq
  | exit id => exact hq.elim
  | goto l => exact hq.elim
  | panic ch => exact hq.elim
  | outgrown => exact hq.elim
/-! ### Functions that turn blocks of their callers -/
def gleR (nm0 : List Nat) (r : C) (bx' : Bxs) (ns : List Nat) (s : St) (d : C) : Prop := ∃ q : Ren, LeS (q ++ idR nm0) ⟨[d], s.bx, s.nm⟩ ⟨[r], bx', ns ++ nm0⟩
def retG (G : Tab) (rs : List ResultVar) (nm0 : List Nat) (r : C) (bx' : Bxs) (ns : List Nat) : Exit → St → Prop
  | .normal, s => aresults G s rs (gleR nm0 r bx' ns s)
  | .ret, s => aresults G s rs (gleR nm0 r bx' ns s)
  | _, _ => False
def givenL : List Nat → Bool
  | [] => true
  | l :: ls => given l && givenL ls
theorem givenL_mem : ∀ {ls : List Nat}, givenL ls = true → ∀ l, l ∈ ls → given l = true
  | [], _, l, hl => by simp at hl
  | m :: ls, h, l, hl => by
    simp only [givenL, Bool.and_eq_true] at h
    rcases List.mem_cons.1 hl with rfl | hl
    · exact h.1
    · exact givenL_mem h.2 l hl
/-- A function's own code shows its word. The lent blocks' names are given ones. -/
theorem GSpec.intro {P : Program} {G : Tab} (hG : Ok P G) {f : Nat} {fn : Func} {c : Code} (H : Hints) (hf : P.funcs[f]? = some fn) (hb : fn.body = some c) (hname : (fn.name == "runtime.NumGoroutine") = false)
    {args : List C} {r : C} {bx bx' : Bxs} {ns : List Nat} {m : Nat} (hm : fn.ntmps - args.length = m) (hgv : givenL (namesB bx) = true)
    (h : ac P G H c (retG G fn.results.toList (namesB bx) r bx' ns) ⟨args ++ pad m, bx, namesB bx⟩) : GSpec P f args bx r bx' ns := by
  refine ⟨⟨fn, hf, hname, by rw [hb]; rfl⟩, fun w S b vs hbn hmem hargs => ?_⟩
  have hlen := hargs.length
  refine calls_of_wp hf hb ?_
  have hmem' : Mem ⟨w, S, Hof b bx, b⟩ b bx w := ⟨hmem.s0, hmem.size, hmem.os, hmem.tape, hmem.output, hmem.drawn, hmem.old, hmem.boxes, hmem.new, fun _ _ _ hp => hp, hmem.apart⟩
  have hrel : Rel ⟨w, S, Hof b bx, b⟩ ⟨args ++ pad m, bx, namesB bx⟩ b { tmps := vs.toArray ++ Array.replicate (fn.ntmps - vs.toArray.size) undef, defers := [] } w := by
    refine ⟨rfl, ?_, hmem', fun l hl => hbn l (by rwa [namesB_eq] at hl)⟩
    have h1 : (vs.toArray ++ Array.replicate (fn.ntmps - vs.toArray.size) undef).toList = vs ++ List.replicate m undef := by
      simp [← hm, hlen]
    rw [h1]
    exact hargs.append (pad_rd m)
  refine wp_mono (ac_sound hG c _ _ b _ w h hrel) fun e a w' ⟨s', b', hr', hq⟩ => ?_
  have fin : aresults G s' fn.results.toList (gleR (namesB bx) r bx' ns s') → a.defers = [] ∧ ∃ v, (results fn a.tmps).run P w' = .ok v w' ∧
      (∃ v' b'', Ending.returned v = .returned v' ∧ (∀ l p, b l = some p → b'' l = some p) ∧ (∀ l, l ∉ ns → b l = none → b'' l = none) ∧ Mem ⟨w, S, Hof b bx, noN⟩ b'' bx' w' ∧ Rd w' (Mut S b'' bx') b'' r v') := by
    intro hq
    obtain ⟨d, ⟨q, hle⟩, v, h1, h2⟩ := aresults_sound hG.tab hq hr'
    have hr2 : Rel ⟨w, S, Hof b bx, b⟩ ⟨[d], s'.bx, s'.nm⟩ b' { tmps := #[v], defers := [] } w' := ⟨rfl, by simp only [RdL]; exact ⟨h2, trivial⟩, hr'.mem, hr'.nm⟩
    have hr3 := hr2.le hle
    generalize Names.ren (q ++ idR (namesB bx)) b' = b2 at hr3
    have h4 := hr3.sl
    simp only [RdL] at h4
    have hm3 := hr3.mem
    refine ⟨hr'.df, v, h1, v, b2, rfl, ?_, ?_, ⟨hm3.s0, hm3.size, hm3.os, hm3.tape, hm3.output, hm3.drawn, hm3.old, hm3.boxes, hm3.new, (fun _ _ _ hh => by cases hh), hm3.apart⟩, h4.1⟩
    · intro l p hp
      refine hm3.kp l p (givenL_mem hgv l ?_) hp
      apply Classical.byContradiction
      intro hn
      rw [namesB_eq] at hn
      rw [hbn l hn] at hp; cases hp
    · intro l hl hp
      refine hr3.nm l ?_
      simp only [List.mem_append, not_or]
      refine ⟨hl, fun hin => ?_⟩
      rw [namesB_eq] at hin
      obtain ⟨p, hpm, rfl⟩ := List.mem_map.1 hin
      obtain ⟨x, cc, h5, _⟩ := (hmem.boxes p.1 p.2 hpm).name
      rw [hp] at h5; cases h5
  cases e with
  | normal => exact fin hq
  | ret => exact fin hq
  | exit id => exact hq.elim
  | goto l => exact hq.elim
  | panic ch => exact hq.elim
  | outgrown => exact hq.elim
end El
namespace El
open Go
inductive Tree where
  | nil
  | nd (k : Nat) (t : TI) (l r : Tree)
def Tree.get : Tree → Nat → Option TI
  | .nil, _ => none
  | .nd k t l r, x => match Nat.blt x k with
    | true => l.get x
    | false => match Nat.beq x k with
      | true => some t
      | false => r.get x
def Tree.all (P : Program) : Tree → Prop
  | .nil => True
  | .nd k t l r => TOk P k t ∧ l.all P ∧ r.all P
theorem Tree.get_all {P : Program} : ∀ (d : Tree), d.all P → ∀ T t, d.get T = some t → TOk P T t
  | .nil, _, T, t, h => by simp [Tree.get] at h
  | .nd k u l r, ha, T, t, h => by
    simp only [Tree.all] at ha
    simp only [Tree.get] at h
    split at h
    · exact l.get_all ha.2.1 T t h
    · split at h
      · rename_i e; have := Nat.eq_of_beq_eq_true e; subst this; cases h; exact ha.1
      · exact r.get_all ha.2.2 T t h
theorem TOk.of {P : Program} {T : Nat} {t : TI} {z : Value} (hi : (P.info? T).map (fun i => (i.zero, i.size, i.bytes)) = some (some z, t.size, t.bytes)) (hz : z.cells.toList = t.zero)
    (hs : shOk P T t.sh) (hl : t.zero.length = t.size) (ho : ∀ u ∈ t.zero, Value.oneCell' u = true) (hv : z = zvalOf t) : TOk P T t := by
  cases h : P.info? T with
  | none => rw [h] at hi; simp at hi
  | some i =>
    rw [h] at hi
    simp only [Option.map_some, Option.some.injEq, Prod.mk.injEq] at hi
    exact ⟨⟨i, z, h, hi.2.1, hi.2.2, hi.1, hz⟩, hs, hl, ho, by rw [h]; simp only [Option.bind_some]; rw [hi.1, hv]⟩
theorem oneAll_iff {l : List Value} (h : l.all Value.oneCell' = true) : ∀ u, u ∈ l → Value.oneCell' u = true := List.all_eq_true.1 h
end El
