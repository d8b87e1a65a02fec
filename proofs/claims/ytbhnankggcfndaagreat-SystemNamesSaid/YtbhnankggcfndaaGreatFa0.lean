/- Words of my own, joined: part 0. -/
import Derived.WalkKit
import Derived.Lib.Hide
import Derived.Laws.MakeOwn
import Derived.Maps.AppendAt
import Derived.Laws.BytesString
import Derived.Laws.IdiomRangeMap
import Derived.Maps.Keyed
namespace El
open Go
theorem setCell_drawn (w : World) (a : Addr) (v : Value) : (w.setCell a v).drawn = w.drawn := by
  unfold World.setCell; split <;> rfl
theorem viewStore_drawn {w w' : World} {p : Program} {at_ : Addr} {u : TypeId} {k : Addr} {v : Value} {b : Bool} {t : List Addr} (h : w.viewStore p at_ u k v b = .ok (w', t)) : w'.drawn = w.drawn := by
  unfold World.viewStore at h
  simp only [bind, Except.bind, pure, Except.pure, MonadExcept.throw, throwThe, MonadExceptOf.throw] at h
  repeat' (split at h)
  all_goals (cases h <;> rfl)
theorem farStore_drawn {w w' : World} {p : Program} {a : Addr} {v : Value} {b : Bool} {t : List Addr} (h : w.farStore p a v b = .ok (w', t)) : w'.drawn = w.drawn := by
  unfold World.farStore at h
  split at h
  · split at h
    · rename_i hv
      cases h
      exact viewStore_drawn hv
    · cases h
  · cases h
theorem ask_drawn {α : Type} : ∀ (m : Ask α) (w : World), w.drawn ≤ (w.ask m).2.drawn
  | .done a, w => Nat.le_refl _
  | .ask what range k, w => by
    simp only [World.ask]
    split
    · exact ask_drawn (k _) w
    · exact Nat.le_trans (Nat.le_succ _) (ask_drawn (k _) { w with drawn := w.drawn + 1 })
theorem sys_drawn (w : World) (c : Sys) : w.drawn ≤ (w.sys c).2.drawn := by
  have := ask_drawn (Kernel.perform c w.os) w
  unfold World.sys
  split
  · exact Nat.le_refl _
  · rename_i r os w' he
    rw [he] at this
    exact this
theorem freeze_drawn (w : World) (a : Addr) (n : Nat) : (w.freeze a n).drawn = w.drawn := by
  unfold World.freeze; split <;> rfl
theorem run_drawn {α : Type} {P : Program} : ∀ (m : Sem α) (w : World) {v : α} {w' : World}, m.run P w = .ok v w' → w.drawn ≤ w'.drawn
  | .pure a, w, v, w', h => by simp only [Sem.run, Result.ok.injEq] at h; rw [h.2]; exact Nat.le_refl _
  | .load m a k, w, v, w', h => by
    simp only [Sem.run] at h
    split at h
    · exact run_drawn (k _) w h
    · split at h
      · exact run_drawn (k _) w h
      · cases h
  | .store m a x k, w, v, w', h => by
    cases x <;> simp only [Sem.run] at h <;> try (cases h; done)
    all_goals
      split at h
      · split at h
        · cases h
        · have := run_drawn k _ h
          rwa [setCell_drawn] at this
      · split at h
        · rename_i hf
          have := run_drawn k _ h
          rwa [farStore_drawn hf] at this
        · cases h
  | .new o k, w, v, w', h => by
    simp only [Sem.run] at h
    have := run_drawn (k _) { w with heap := w.heap.push o } h
    exact this
  | .shape r k, w, v, w', h => by simp only [Sem.run] at h; exact run_drawn (k _) _ h
  | .freeze a n k, w, v, w', h => by
    simp only [Sem.run] at h
    have := run_drawn k _ h
    rwa [freeze_drawn] at this
  | .frozen a k, w, v, w', h => by simp only [Sem.run] at h; exact run_drawn (k _) _ h
  | .getObj r k, w, v, w', h => by
    simp only [Sem.run] at h
    split at h
    · cases h
    · exact run_drawn (k _) _ h
    · cases h
  | .setObj r o k, w, v, w', h => by
    simp only [Sem.run] at h
    split at h
    · cases h
    · have := run_drawn k { w with heap := w.heap.setIfInBounds r o } h
      exact this
    · cases h
  | .choose q k, w, v, w', h => by
    simp only [Sem.run] at h
    split at h
    · exact run_drawn (k _) _ h
    · have := run_drawn (k _) { w with drawn := w.drawn + 1 } h
      exact Nat.le_trans (Nat.le_succ _) this
  | .sys c k, w, v, w', h => by
    simp only [Sem.run] at h
    have := run_drawn (k _) _ h
    exact Nat.le_trans (sys_drawn w c) this
  | .program k, w, v, w', h => by simp only [Sem.run] at h; exact run_drawn (k _) _ h
  | .mark _ k, w, v, w', h => by simp only [Sem.run] at h; exact run_drawn k _ h
  | .halt _, w, v, w', h => by simp only [Sem.run] at h; cases h
/-- A world that has grown: what was there stands; draws are not taken back. -/
structure Below (B : Nat) (w w' : World) : Prop where
  os : w'.os = w.os
  tape : w'.tape = w.tape
  output : w'.output = w.output
  size : w.heap.size ≤ w'.heap.size
  block : ∀ k, k < B → w'.heap[k]? = w.heap[k]?
  drawn : w.drawn ≤ w'.drawn
theorem Below.refl (B : Nat) (w : World) : Below B w w := ⟨rfl, rfl, rfl, Nat.le_refl _, fun _ _ => rfl, Nat.le_refl _⟩
theorem Below.trans {B : Nat} {a b c : World} (h : Below B a b) (k : Below B b c) : Below B a c :=
  ⟨k.os.trans h.os, k.tape.trans h.tape, k.output.trans h.output, Nat.le_trans h.size k.size, fun i hi => (k.block i hi).trans (h.block i hi), Nat.le_trans h.drawn k.drawn⟩
theorem Below.kit {B : Nat} {w w' : World} (h : Below B w w') : RowKit.Below B w w' := ⟨h.os, h.tape, h.output, h.size, h.block⟩
theorem Below.of {B : Nat} {w w' : World} (h : RowKit.Below B w w') (hd : w.drawn ≤ w'.drawn) : Below B w w' := ⟨h.os, h.tape, h.output, h.size, h.block, hd⟩
theorem Below.alloc {B : Nat} {a w : World} (h : Below B a w) (hB : B ≤ w.heap.size) (o : Obj) : Below B a (w.alloc o) := .of (h.kit.alloc hB o) h.drawn
theorem Below.drew {B : Nat} {a w : World} (h : Below B a w) : Below B a w.drew := .of h.kit.drew (Nat.le_trans h.drawn (Nat.le_succ _))
/-- What a slot or a cell holds, as data. -/
inductive C where
  | any
  | v (x : Value)
  | sl (E k n : Nat) (full : Bool) (cs : List C)
  | own (l E k n : Nat)
  | ptr (l off : Nat)
  | mp (l : Nat)
  | win (l E k n : Nat)
  | wptr (l off : Nat)
  | sub (l E k i n : Nat)
  | cel (E : Nat) (cs : List C)
  | fn (f : Nat) (caps : List C)
  | agg (cs : List C)
  | tup (cs : List C)
/-- Of each name: the block (none: a slice that is nil), and the capacity. -/
abbrev Names := Nat → Option (Option Nat × Nat)
def noN : Names := fun _ => none
/-- A function's value: what it has captured, or (one tuple) what is bound to it. -/
def fnV (f : Nat) (vs : List Value) : Value :=
  match vs with
  | [.tuple bs] => .func (.func f) bs #[]
  | vs => .func (.func f) #[] vs.toArray
mutual
def Rd (w : World) (S : Nat → Prop) (b : Names) : C → Value → Prop
  | .any, _ => True
  | .v x, u => u = x
  | .sl E k n full cs, u => ∃ A c, u = .slice A n c ∧ n ≤ c ∧ c ≤ maxLen ∧ (full = true → c = n) ∧ cs.length = n * k ∧
      (n = 0 ∨ ∃ g off arr, ∃ fr : Nat × Nat × Nat, A = some ⟨g, off, none⟩ ∧ ¬ S g ∧ w.heap[g]? = some (.cells arr fr.1 fr.2) ∧ RdL w S noN cs ((arr.toList.drop off).take (n * k)))
  | .own l _ _ n, u => ∃ a c, b l = some (a, c) ∧ (a = none → c = 0) ∧ u = .slice (a.map fun g => ⟨g, 0, none⟩) n c ∧ n ≤ c ∧ c ≤ maxLen
  | .ptr l off, u => ∃ g c, b l = some (some g, c) ∧ u = .pointer (some ⟨g, off, none⟩)
  | .mp l, u => ∃ g c, b l = some (some g, c) ∧ u = .map (some g)
  | .win l _ _ n, u => ∃ g o c, b l = some (some g, o) ∧ u = .slice (some ⟨g, o, none⟩) n c ∧ n ≤ c ∧ c ≤ maxLen
  | .sub l _ k i n, u => ∃ a c A c', b l = some (a, c) ∧ u = .slice A n c' ∧ n ≤ c' ∧ c' ≤ maxLen ∧ (0 < n → ∃ g, a = some g ∧ A = some ⟨g, i * k, none⟩)
  | .wptr l off, u => ∃ g o, b l = some (some g, o) ∧ u = .pointer (some ⟨g, o + off, none⟩)
  | .cel E cs, u => ∃ g off arr, ∃ fr : Nat × Nat × Nat, u = .pointer (some ⟨g, off, none⟩) ∧ ¬ S g ∧ w.heap[g]? = some (.cells arr fr.1 fr.2) ∧ RdL w S noN cs ((arr.toList.drop off).take cs.length)
  | .fn f caps, u => ∃ vs, u = fnV f vs ∧ RdL w S b caps vs
  | .agg cs, u => ∃ vs, u = .agg vs.toArray ∧ RdL w S b cs vs
  | .tup cs, u => ∃ vs, u = .tuple vs.toArray ∧ RdL w S b cs vs
def RdL (w : World) (S : Nat → Prop) (b : Names) : List C → List Value → Prop
  | [], [] => True
  | d :: ds, u :: us => Rd w S b d u ∧ RdL w S b ds us
  | _, _ => False
end
theorem RdL.length {w : World} {S : Nat → Prop} {b : Names} : ∀ {ds : List C} {us : List Value}, RdL w S b ds us → ds.length = us.length
  | [], [], _ => rfl
  | _ :: ds, _ :: us, h => by
    simp only [RdL] at h
    simp [RdL.length h.2]
  | [], _ :: _, h => by simp [RdL] at h
  | _ :: _, [], h => by simp [RdL] at h
theorem RdL.get {w : World} {S : Nat → Prop} {b : Names} : ∀ {ds : List C} {us : List Value}, RdL w S b ds us → ∀ i, i < ds.length → Rd w S b (ds.getD i .any) (us.getD i undef)
  | [], _, _, i, hi => by simp at hi
  | _ :: ds, [], h, _, _ => by simp [RdL] at h
  | d :: ds, u :: us, h, 0, _ => by simp only [RdL] at h; simpa using h.1
  | d :: ds, u :: us, h, i + 1, hi => by
    simp only [RdL] at h
    simpa using RdL.get h.2 i (by simpa using hi)
theorem RdL.set {w : World} {S : Nat → Prop} {b : Names} {d : C} {u : Value} (hd : Rd w S b d u) : ∀ {ds : List C} {us : List Value}, RdL w S b ds us → ∀ i, RdL w S b (ds.set i d) (us.set i u)
  | [], [], _, _ => by simp [RdL]
  | _ :: _, [], h, _ => by simp [RdL] at h
  | [], _ :: _, h, _ => by simp [RdL] at h
  | _ :: ds, _ :: us, h, 0 => by simp only [RdL] at h; simp only [List.set_cons_zero, RdL]; exact ⟨hd, h.2⟩
  | _ :: ds, _ :: us, h, i + 1 => by simp only [RdL] at h; simp only [List.set_cons_succ, RdL]; exact ⟨h.1, RdL.set hd h.2 i⟩
theorem RdL.append {w : World} {S : Nat → Prop} {b : Names} : ∀ {ds : List C} {us : List Value}, RdL w S b ds us → ∀ {es : List C} {vs : List Value}, RdL w S b es vs → RdL w S b (ds ++ es) (us ++ vs)
  | [], [], _, _, _, h => by simpa using h
  | _ :: _, [], h, _, _, _ => by simp [RdL] at h
  | [], _ :: _, h, _, _, _ => by simp [RdL] at h
  | _ :: ds, _ :: us, h, _, _, h2 => by simp only [RdL] at h; simp only [List.cons_append, RdL]; exact ⟨h.1, RdL.append h.2 h2⟩
theorem RdL.take {w : World} {S : Nat → Prop} {b : Names} : ∀ {ds : List C} {us : List Value}, RdL w S b ds us → ∀ i, RdL w S b (ds.take i) (us.take i)
  | [], [], _, i => by simp [RdL]
  | _ :: _, [], h, _ => by simp [RdL] at h
  | [], _ :: _, h, _ => by simp [RdL] at h
  | _ :: ds, _ :: us, h, 0 => by simp [RdL]
  | _ :: ds, _ :: us, h, i + 1 => by simp only [RdL] at h; simp only [List.take_succ_cons, RdL]; exact ⟨h.1, RdL.take h.2 i⟩
theorem RdL.drop {w : World} {S : Nat → Prop} {b : Names} : ∀ {ds : List C} {us : List Value}, RdL w S b ds us → ∀ i, RdL w S b (ds.drop i) (us.drop i)
  | [], [], _, i => by simp [RdL]
  | _ :: _, [], h, _ => by simp [RdL] at h
  | [], _ :: _, h, _ => by simp [RdL] at h
  | _ :: ds, _ :: us, h, 0 => by simpa using h
  | _ :: ds, _ :: us, h, i + 1 => by simp only [RdL] at h; simpa using RdL.drop h.2 i
mutual
/-- What a value reads as it reads in a later world, if what it does not share with the mutable blocks stands. -/
theorem Rd.keep {w w' : World} {S S' : Nat → Prop} {b b' : Names} (hk : ∀ g, g < w.heap.size → ¬ S g → w'.heap[g]? = w.heap[g]? ∧ ¬ S' g) (hb : ∀ l p, b l = some p → b' l = some p) :
    ∀ {d : C} {u : Value}, Rd w S b d u → Rd w' S' b' d u
  | .any, _, _ => by simp [Rd]
  | .v x, u, h => by simpa [Rd] using h
  | .sl E k n full cs, u, h => by
    simp only [Rd] at h ⊢
    obtain ⟨A, c, h1, h2, h3, h4, h5, h6⟩ := h
    refine ⟨A, c, h1, h2, h3, h4, h5, ?_⟩
    rcases h6 with h6 | ⟨g, off, arr, fr, hA, hS, hg, hL⟩
    · exact .inl h6
    · have hlt : g < w.heap.size := (Array.getElem?_eq_some_iff.1 hg).1
      exact .inr ⟨g, off, arr, fr, hA, (hk g hlt hS).2, (hk g hlt hS).1.trans hg, RdL.keep hk (fun _ _ h => h) hL⟩
  | .own l _ _ n, u, h => by
    simp only [Rd] at h ⊢
    obtain ⟨g, c, h1, h2⟩ := h
    exact ⟨g, c, hb _ _ h1, h2⟩
  | .ptr l off, u, h => by
    simp only [Rd] at h ⊢
    obtain ⟨g, c, h1, h2⟩ := h
    exact ⟨g, c, hb _ _ h1, h2⟩
  | .mp l, u, h => by
    simp only [Rd] at h ⊢
    obtain ⟨g, c, h1, h2⟩ := h
    exact ⟨g, c, hb _ _ h1, h2⟩
  | .win l _ _ n, u, h => by
    simp only [Rd] at h ⊢
    obtain ⟨g, o, c, h1, h2⟩ := h
    exact ⟨g, o, c, hb _ _ h1, h2⟩
  | .sub l _ _ _ n, u, h => by
    simp only [Rd] at h ⊢
    obtain ⟨a, c, A, c', h1, h2⟩ := h
    exact ⟨a, c, A, c', hb _ _ h1, h2⟩
  | .wptr l off, u, h => by
    simp only [Rd] at h ⊢
    obtain ⟨g, o, h1, h2⟩ := h
    exact ⟨g, o, hb _ _ h1, h2⟩
  | .cel E cs, u, h => by
    simp only [Rd] at h ⊢
    obtain ⟨g, off, arr, fr, hA, hS, hg, hL⟩ := h
    have hlt : g < w.heap.size := (Array.getElem?_eq_some_iff.1 hg).1
    exact ⟨g, off, arr, fr, hA, (hk g hlt hS).2, (hk g hlt hS).1.trans hg, RdL.keep hk (fun _ _ h => h) hL⟩
  | .fn f caps, u, h => by
    simp only [Rd] at h ⊢
    obtain ⟨vs, h1, h2⟩ := h
    exact ⟨vs, h1, RdL.keep hk hb h2⟩
  | .agg cs, u, h => by
    simp only [Rd] at h ⊢
    obtain ⟨vs, h1, h2⟩ := h
    exact ⟨vs, h1, RdL.keep hk hb h2⟩
  | .tup cs, u, h => by
    simp only [Rd] at h ⊢
    obtain ⟨vs, h1, h2⟩ := h
    exact ⟨vs, h1, RdL.keep hk hb h2⟩
theorem RdL.keep {w w' : World} {S S' : Nat → Prop} {b b' : Names} (hk : ∀ g, g < w.heap.size → ¬ S g → w'.heap[g]? = w.heap[g]? ∧ ¬ S' g) (hb : ∀ l p, b l = some p → b' l = some p) :
    ∀ {ds : List C} {us : List Value}, RdL w S b ds us → RdL w' S' b' ds us
  | [], [], _ => by simp [RdL]
  | _ :: _, [], h => by simp [RdL] at h
  | [], _ :: _, h => by simp [RdL] at h
  | _ :: _, _ :: _, h => by simp only [RdL] at h ⊢; exact ⟨Rd.keep hk hb h.1, RdL.keep hk hb h.2⟩
end
end El
namespace El
open Go Go.RowKit
inductive Sh where
  | int (k : IntKind) | bool | string | slice (E : Nat) | arr (n E : Nat) | struct (fs : List (Nat × Nat)) | map (K V : Nat) | other
structure TI where
  size : Nat
  bytes : Nat
  zero : List Value
  sh : Sh
abbrev Tab := Nat → Option TI
def Sh.agg : Sh → Bool
  | .arr _ _ | .struct _ => true
  | _ => false
def shOk (P : Program) (T : Nat) : Sh → Prop
  | .int k => P.underlying T = some (.int k)
  | .bool => P.underlying T = some .bool
  | .string => P.underlying T = some .string
  | .slice E => P.underlying T = some (.slice E)
  | .arr n E => P.underlying T = some (.array n E)
  | .struct fs => ∃ fields : Array Field, P.underlying T = some (.struct fields) ∧ fields.toList.map (fun f => (f.offset, f.type)) = fs
  | .map K V => P.underlying T = some (.map K V)
  | .other => ∃ d, P.underlying T = some d ∧ (∀ f, d ≠ .struct f) ∧ ∀ n e, d ≠ .array n e
/-- The zero value. -/
def zvalOf (t : TI) : Value := if t.sh.agg then .agg t.zero.toArray else t.zero.headD undef
structure TOk (P : Program) (T : Nat) (t : TI) : Prop where
  info : ∃ i z, P.info? T = some i ∧ i.size = t.size ∧ i.bytes = t.bytes ∧ i.zero = some z ∧ z.cells.toList = t.zero
  sh : shOk P T t.sh
  zlen : t.zero.length = t.size
  zone : ∀ u ∈ t.zero, Value.oneCell' u = true
  zval : (P.info? T).bind (·.zero) = some (zvalOf t)
structure TabOk (P : Program) (G : Tab) : Prop where
  ok : ∀ T t, G T = some t → TOk P T t
/-- The ending of one operation, as a value and a world. -/
def Runs (P : Program) (R : Value → World → Prop) : Result Next → Prop
  | .ok (.value v) w => R v w
  | .ok .skip w => R undef w
  | .ok (.enter f args) w => Calls P f args w fun e w' => ∃ v, e = .returned v ∧ R v w'
  | _ => False
theorem Runs.wp {P : Program} {R : Value → World → Prop} {o : Oper} {a : Act} {w : World} {next : Act → World → Prop} {Q : Exit → Act → World → Prop}
    (h : Runs P R ((execOp a.eval o).run P w)) (hn : ∀ v w', R v w' → next (a.put o.dst v) w') : o.wp P a w next Q := by
  unfold Oper.wp
  generalize (execOp a.eval o).run P w = r at h
  cases r with
  | ok n w' =>
    cases n <;> simp only [Runs] at h <;> simp only [Oper.upon]
    · exact hn _ _ h
    · exact hn _ _ h
    · refine h.mono ?_
      rintro e w'' ⟨v, rfl, hv⟩
      exact hn _ _ hv
  | halt x w' => simp [Runs] at h
theorem Runs.mono {P : Program} {R R' : Value → World → Prop} {r : Result Next} (h : Runs P R r) (hn : ∀ v w', R v w' → R' v w') : Runs P R' r := by
  cases r with
  | ok n w' =>
    cases n <;> simp only [Runs] at h ⊢
    · exact hn _ _ h
    · exact hn _ _ h
    · exact h.mono fun e w'' ⟨v, he, hv⟩ => ⟨v, he, hn _ _ hv⟩
  | halt x w' => simp [Runs] at h
theorem isAgg_run {P : Program} {T : Nat} {t : TI} (h : TOk P T t) (w : World) : (isAgg T).run P w = .ok t.sh.agg w := by
  have := h.sh
  cases hs : t.sh <;> rw [hs] at this <;> simp only [shOk] at this
  · simp [isAgg, run_underlying this, Sh.agg]
  · simp [isAgg, run_underlying this, Sh.agg]
  · simp [isAgg, run_underlying this, Sh.agg]
  · simp [isAgg, run_underlying this, Sh.agg]
  · simp [isAgg, run_underlying this, Sh.agg]
  · obtain ⟨f, hf, _⟩ := this
    simp [isAgg, run_underlying hf, Sh.agg]
  · simp [isAgg, run_underlying this, Sh.agg]
  · obtain ⟨d, hd, h1, h2⟩ := this
    simp only [isAgg, Sem.run_bind, run_underlying hd, Result.andThen_ok]
    cases d <;> simp [Sh.agg] at h1 h2 ⊢
theorem sizeOf_run {P : Program} {T : Nat} {t : TI} (h : TOk P T t) (w : World) : (Go.sizeOf T).run P w = .ok t.size w := by
  obtain ⟨i, z, hi, h1, _⟩ := h.info
  simp [Go.sizeOf, typeInfo, hi, h1]
theorem zeroValue_zval {P : Program} {T : Nat} {t : TI} (h : TOk P T t) (w : World) : (zeroValue T).run P w = .ok (zvalOf t) w := by
  obtain ⟨i, z, hi, _⟩ := h.info
  have h2 := h.zval
  rw [hi] at h2
  simp only [Option.bind_some] at h2
  simp [zeroValue, typeInfo, hi, h2]
theorem zeroValue_run {P : Program} {T : Nat} {t : TI} (h : TOk P T t) (w : World) : ∃ z, (zeroValue T).run P w = .ok z w ∧ z.cells.toList = t.zero := by
  obtain ⟨i, z, hi, _, _, hz, hc⟩ := h.info
  exact ⟨z, by simp [zeroValue, typeInfo, hi, hz], hc⟩
/-! ### Private blocks -/
inductive Bx where
  | cells (E c : Nat) (cs : List C)
  | row (E k n : Nat) (cs : List C)
  | map (es : List (Value × C))
  | iter (m n : Nat) (seen : List Nat)
  | str (s : ByteArray) (pos : Nat)
  | win (E k n : Nat) (cs : List C) (pre post : List Value)
abbrev Bxs := List (Nat × Bx)
structure Ghost where
  w0 : World
  S0 : Nat → Prop
  H : Nat → Prop
  b0 : Names
/-- The blocks that may turn: the callers' own, and those of this call. -/
def Mut (S0 : Nat → Prop) (b : Names) (bx : Bxs) (g : Nat) : Prop := S0 g ∨ ∃ l B c, (l, B) ∈ bx ∧ b l = some (some g, c)
def One (us : List Value) : Prop := ∀ u ∈ us, Value.oneCell' u = true
def BxAt (w : World) (S : Nat → Prop) (b : Names) (l : Nat) : Bx → Prop
  | .cells E c cs => ∃ g arr, b l = some (some g, c) ∧ w.heap[g]? = some (.cells arr E (0, 0)) ∧ One arr.toList ∧ RdL w S b cs arr.toList
  | .row E k n cs => ∃ a c, b l = some (a, c) ∧ n ≤ c ∧ c ≤ maxLen ∧ cs.length = n * k ∧ match a with
      | none => c = 0
      | some g => ∃ arr, w.heap[g]? = some (.cells arr E (0, 0)) ∧ arr.size = c * k ∧ One (arr.toList.take (n * k)) ∧ RdL w S noN cs (arr.toList.take (n * k))
  | .map es => ∃ g c, b l = some (some g, c) ∧ ∃ arr : Array MapEntry, w.heap[g]? = some (.map arr es.length) ∧ arr.toList.map (·.born) = List.range es.length ∧ arr.toList.map (·.key) = es.map (·.1) ∧
      (es.map (·.1)).Nodup ∧ RdL w S noN (es.map (·.2)) (arr.toList.map (·.val))
  | .iter m n seen => ∃ g c, b l = some (some g, c) ∧ ∃ gm, w.heap[g]? = some (.mapIter (some gm) n seen.toArray n) ∧ ∃ c', b m = some (some gm, c')
  | .str s pos => ∃ g c, b l = some (some g, c) ∧ w.heap[g]? = some (.stringIter s pos)
  | .win E k n cs pre post => ∃ g c, b l = some (some g, c) ∧ ∃ mid : List Value, w.heap[g]? = some (.cells (pre ++ (mid ++ post)).toArray E (0, 0)) ∧ pre.length = c ∧ cs.length = n * k ∧ One (pre ++ (mid ++ post)) ∧ RdL w S noN cs mid
theorem BxAt.name {w : World} {S : Nat → Prop} {b : Names} {l : Nat} {B : Bx} (h : BxAt w S b l B) : ∃ a c, b l = some (a, c) ∧ ∀ g, a = some g → g < w.heap.size := by
  cases B <;> simp only [BxAt] at h
  case cells =>
    obtain ⟨g, arr, h1, h2, _⟩ := h
    refine ⟨_, _, h1, fun g' e => ?_⟩
    cases e
    exact (Array.getElem?_eq_some_iff.1 h2).1
  case row =>
    obtain ⟨a, c, h1, _, _, _, h2⟩ := h
    refine ⟨_, _, h1, fun g' e => ?_⟩
    subst e
    obtain ⟨arr, h2, _⟩ := h2
    exact (Array.getElem?_eq_some_iff.1 h2).1
  all_goals
    obtain ⟨g, c, h1, h⟩ := h
    refine ⟨_, _, h1, fun g' e => ?_⟩
    cases e
    first
      | (obtain ⟨arr, h2, _⟩ := h; exact (Array.getElem?_eq_some_iff.1 h2).1)
      | exact (Array.getElem?_eq_some_iff.1 h).1
theorem BxAt.keep {w w' : World} {S S' : Nat → Prop} {b b' : Names} {l : Nat} {B : Bx} (h : BxAt w S b l B) (hk : ∀ g, g < w.heap.size → ¬ S g → w'.heap[g]? = w.heap[g]? ∧ ¬ S' g)
    (hb : ∀ l p, b l = some p → b' l = some p) (hown : ∀ g c, b l = some (some g, c) → w'.heap[g]? = w.heap[g]?) : BxAt w' S' b' l B := by
  cases B <;> simp only [BxAt] at h ⊢
  case cells =>
    obtain ⟨g, arr, h1, h2, h3, h4⟩ := h
    exact ⟨g, arr, hb _ _ h1, (hown g _ h1).trans h2, h3, h4.keep hk hb⟩
  case row =>
    obtain ⟨a, c, h1, h3, h4, h5, h6⟩ := h
    refine ⟨a, c, hb _ _ h1, h3, h4, h5, ?_⟩
    cases a with
    | none => exact h6
    | some g =>
      obtain ⟨arr, h2, h7, h8, h9⟩ := h6
      exact ⟨arr, (hown g c h1).trans h2, h7, h8, h9.keep hk fun _ _ h => h⟩
  case map =>
    obtain ⟨g, c, h1, arr, h2, h3, h4, h0, h5⟩ := h
    exact ⟨g, c, hb _ _ h1, arr, (hown g c h1).trans h2, h3, h4, h0, h5.keep hk fun _ _ h => h⟩
  case iter =>
    obtain ⟨g, c, h1, gm, h2, c', h3⟩ := h
    exact ⟨g, c, hb _ _ h1, gm, (hown g c h1).trans h2, c', hb _ _ h3⟩
  case str =>
    obtain ⟨g, c, h1, h2⟩ := h
    exact ⟨g, c, hb _ _ h1, (hown g c h1).trans h2⟩
  case win =>
    obtain ⟨g, c, h1, mid, h2, h3, h4, h5, h6⟩ := h
    exact ⟨g, c, hb _ _ h1, mid, (hown g c h1).trans h2, h3, h4, h5, h6.keep hk fun _ _ h => h⟩
/-- The names of blocks that a caller lent: they stay what they are. -/
def given (l : Nat) : Bool := Nat.ble 1000 l
/-- What holds of memory while a call runs. -/
structure Mem (G : Ghost) (b : Names) (bx : Bxs) (w : World) : Prop where
  s0 : ∀ g, G.S0 g → g < G.w0.heap.size
  size : G.w0.heap.size ≤ w.heap.size
  os : w.os = G.w0.os
  tape : w.tape = G.w0.tape
  output : w.output = G.w0.output
  drawn : G.w0.drawn ≤ w.drawn
  old : ∀ g, g < G.w0.heap.size → ¬ G.H g → w.heap[g]? = G.w0.heap[g]?
  boxes : ∀ l B, (l, B) ∈ bx → BxAt w (Mut G.S0 b bx) b l B
  new : ∀ l B g c, (l, B) ∈ bx → b l = some (some g, c) → (G.H g ∨ G.w0.heap.size ≤ g) ∧ ¬ G.S0 g
  kp : ∀ l p, given l = true → G.b0 l = some p → b l = some p
  apart : bx.Pairwise fun p q => (∀ g c c', b p.1 = some (some g, c) → b q.1 ≠ some (some g, c')) ∧ p.1 ≠ q.1
theorem Mem.mut_lt {G : Ghost} {b : Names} {bx : Bxs} {w : World} (h : Mem G b bx w) {g : Nat} (hm : Mut G.S0 b bx g) : g < w.heap.size := by
  rcases hm with hm | ⟨l, B, c, hl, hb⟩
  · exact Nat.lt_of_lt_of_le (h.s0 g hm) h.size
  · obtain ⟨g', c', h1, h2⟩ := (h.boxes l B hl).name
    rw [hb] at h1
    cases h1
    exact h2 g rfl
/-- A step that leaves all that was there as it was. -/
theorem Mem.below {G : Ghost} {b : Names} {bx : Bxs} {w w' : World} (h : Mem G b bx w) (hb : Below w.heap.size w w') : Mem G b bx w' where
  s0 := h.s0
  size := Nat.le_trans h.size hb.size
  os := hb.os.trans h.os
  tape := hb.tape.trans h.tape
  output := hb.output.trans h.output
  drawn := Nat.le_trans h.drawn hb.drawn
  old := fun g hg hH => (hb.block g (Nat.lt_of_lt_of_le hg h.size)).trans (h.old g hg hH)
  boxes := fun l B hl => (h.boxes l B hl).keep (fun g hg hS => ⟨hb.block g hg, hS⟩) (fun _ _ h => h) fun g c hc => by
    obtain ⟨g', c', h1, h2⟩ := (h.boxes l B hl).name
    rw [hc] at h1
    cases h1
    exact hb.block g (h2 g rfl)
  new := h.new
  kp := h.kp
  apart := h.apart
/-- After one operation: the value reads as d, the new private blocks are nb, all else is as it was. -/
def YPost (G : Ghost) (b : Names) (bx nb : Bxs) (w : World) (d : C) (v : Value) (w' : World) : Prop :=
  ∃ b', (∀ l p, b l = some p → b' l = some p) ∧ (∀ l, b l = none → (∀ B, (l, B) ∉ nb) → b' l = none) ∧ Below w.heap.size w w' ∧ Mem G b' (nb ++ bx) w' ∧
    (∀ g, g < w.heap.size → ¬ Mut G.S0 b bx g → ¬ Mut G.S0 b' (nb ++ bx) g) ∧ Rd w' (Mut G.S0 b' (nb ++ bx)) b' d v
/-- No new private block. -/
theorem YPost.plain {G : Ghost} {b : Names} {bx : Bxs} {w w' : World} {d : C} {v : Value} (h : Mem G b bx w) (hb : Below w.heap.size w w') (hd : Rd w' (Mut G.S0 b bx) b d v) :
    YPost G b bx [] w d v w' :=
  ⟨b, fun _ _ h => h, fun _ h _ => h, hb, h.below hb, fun _ _ h => h, hd⟩
def Names.put (b : Names) (l : Nat) (p : Option Nat × Nat) : Names := fun m => if m = l then some p else b m
theorem Names.put_same (b : Names) (l : Nat) (p : Option Nat × Nat) : b.put l p l = some p := by simp [Names.put]
theorem Names.put_keep {b : Names} {l : Nat} {p : Option Nat × Nat} (h : b l = none) : ∀ m q, b m = some q → b.put l p m = some q := by
  intro m q hq
  unfold Names.put
  split
  · rename_i e; subst e; rw [h] at hq; cases hq
  · exact hq
/-- One new private block, of cells. -/
theorem YPost.alloc {G : Ghost} {b : Names} {bx : Bxs} {w : World} {l c : Nat} {B : Bx} {ob : Obj} {d : C} {v : Value} (h : Mem G b bx w) (hl : b l = none)
    (hB : ∀ b' S', (∀ m q, b m = some q → b' m = some q) → b' l = some (some w.heap.size, c) → (∀ g, g < w.heap.size → ¬ Mut G.S0 b bx g → ¬ S' g) → BxAt (w.alloc ob) S' b' l B)
    (hd : ∀ b' S', (∀ m q, b m = some q → b' m = some q) → b' l = some (some w.heap.size, c) → (∀ g, g < w.heap.size → ¬ Mut G.S0 b bx g → ¬ S' g) → Rd (w.alloc ob) S' b' d v) :
    YPost G b bx [(l, B)] w d v (w.alloc ob) := by
  have hk := Names.put_keep (p := (some w.heap.size, c)) hl
  have hs := Names.put_same b l (some w.heap.size, c)
  have hbel : Below w.heap.size w (w.alloc ob) := (Below.refl _ _).alloc (Nat.le_refl _) _
  have hbl : ∀ m B', (m, B') ∈ bx → m ≠ l := fun m B' hm e => by
    subst e
    obtain ⟨g, c', h1, _⟩ := (h.boxes m B' hm).name
    rw [hl] at h1; cases h1
  have hput : ∀ m B' g c', (m, B') ∈ bx → b.put l (some w.heap.size, c) m = some (g, c') → b m = some (g, c') := fun m B' g c' hm he => by
    simpa [Names.put, hbl m B' hm] using he
  have hS : ∀ g, g < w.heap.size → ¬ Mut G.S0 b bx g → ¬ Mut G.S0 (b.put l (some w.heap.size, c)) ([(l, B)] ++ bx) g := by
    rintro g hg hn (h0 | ⟨m, B', c', hm, hb'⟩)
    · exact hn (.inl h0)
    · simp only [List.cons_append, List.nil_append, List.mem_cons, Prod.mk.injEq] at hm
      rcases hm with ⟨rfl, rfl⟩ | hm
      · rw [hs] at hb'; cases hb'; omega
      · exact hn (.inr ⟨m, B', c', hm, hput m B' g c' hm hb'⟩)
  refine ⟨b.put l (some w.heap.size, c), hk, ?_, hbel, ?_, hS, hd _ _ hk hs hS⟩
  · intro m hm hnb
    unfold Names.put
    split
    · rename_i e; subst e; exact absurd (List.mem_singleton.2 rfl) (hnb B)
    · exact hm
  · have h' := h.below hbel
    refine ⟨h.s0, h'.size, h'.os, h'.tape, h'.output, h'.drawn, h'.old, ?_, ?_, fun l p hg hp => hk _ _ (h.kp l p hg hp), ?_⟩
    · intro m B' hm
      simp only [List.cons_append, List.nil_append, List.mem_cons, Prod.mk.injEq] at hm
      rcases hm with ⟨rfl, rfl⟩ | hm
      · exact hB _ _ hk hs hS
      · refine (h.boxes m B' hm).keep (fun g hg hn => ⟨hbel.block g hg, hS g hg hn⟩) hk fun g c' hc => ?_
        obtain ⟨g', c'', h1, h2⟩ := (h.boxes m B' hm).name
        rw [hc] at h1; cases h1
        exact hbel.block g (h2 g rfl)
    · intro m B' g c' hm hb'
      simp only [List.cons_append, List.nil_append, List.mem_cons, Prod.mk.injEq] at hm
      rcases hm with ⟨rfl, rfl⟩ | hm
      · rw [hs] at hb'; cases hb'
        exact ⟨.inr h.size, fun h0 => by have := h.s0 _ h0; have := h.size; omega⟩
      · exact h.new m B' g c' hm (hput m B' g c' hm hb')
    · simp only [List.cons_append, List.nil_append, List.pairwise_cons]
      refine ⟨?_, ?_⟩
      · rintro ⟨m, B'⟩ hm
        refine ⟨fun g c1 c2 h1 h2 => ?_, fun e => hbl m B' hm e.symm⟩
        rw [hs] at h1; cases h1
        have h3 := hput m B' _ _ hm h2
        obtain ⟨g', c'', h4, h5⟩ := (h.boxes m B' hm).name
        rw [h3] at h4; cases h4
        have := h5 _ rfl
        omega
      · refine (List.pairwise_iff_forall_sublist.2 fun {p q} hpq => ?_)
        have hp := hpq.subset (List.mem_cons_self ..)
        have hq := hpq.subset (List.mem_cons_of_mem _ (List.mem_cons_self ..))
        have ha := List.pairwise_iff_forall_sublist.1 h.apart hpq
        exact ⟨fun g c1 c2 h1 h2 => ha.1 g c1 c2 (hput _ p.2 _ _ hp h1) (hput _ q.2 _ _ hq h2), ha.2⟩
end El
namespace El
open Go Go.RowKit
mutual
def noName : C → Bool
  | .own .. | .ptr .. | .mp .. | .win .. | .wptr .. | .sub .. => false
  | .fn _ cs | .agg cs | .tup cs => noNameL cs
  | _ => true
def noNameL : List C → Bool
  | [] => true
  | d :: ds => noName d && noNameL ds
end
mutual
theorem Rd.anyNames {w : World} {S : Nat → Prop} {b b' : Names} : ∀ {d : C} {u : Value}, noName d = true → Rd w S b d u → Rd w S b' d u
  | .any, _, _, _ => by simp [Rd]
  | .v x, u, _, h => by simpa [Rd] using h
  | .sl E k n full cs, u, _, h => by simpa [Rd] using h
  | .own .., _, h, _ => by simp [noName] at h
  | .ptr .., _, h, _ => by simp [noName] at h
  | .mp .., _, h, _ => by simp [noName] at h
  | .win .., _, h, _ => by simp [noName] at h
  | .wptr .., _, h, _ => by simp [noName] at h
  | .sub .., _, h, _ => by simp [noName] at h
  | .cel E cs, u, _, h => by simpa [Rd] using h
  | .fn f cs, u, hn, h => by
    simp only [noName] at hn
    simp only [Rd] at h ⊢
    obtain ⟨vs, h1, h2⟩ := h
    exact ⟨vs, h1, RdL.anyNames hn h2⟩
  | .agg cs, u, hn, h => by
    simp only [noName] at hn
    simp only [Rd] at h ⊢
    obtain ⟨vs, h1, h2⟩ := h
    exact ⟨vs, h1, RdL.anyNames hn h2⟩
  | .tup cs, u, hn, h => by
    simp only [noName] at hn
    simp only [Rd] at h ⊢
    obtain ⟨vs, h1, h2⟩ := h
    exact ⟨vs, h1, RdL.anyNames hn h2⟩
theorem RdL.anyNames {w : World} {S : Nat → Prop} {b b' : Names} : ∀ {ds : List C} {us : List Value}, noNameL ds = true → RdL w S b ds us → RdL w S b' ds us
  | [], [], _, _ => by simp [RdL]
  | _ :: _, [], _, h => by simp [RdL] at h
  | [], _ :: _, _, h => by simp [RdL] at h
  | _ :: _, _ :: _, hn, h => by
    simp only [noNameL, Bool.and_eq_true] at hn
    simp only [RdL] at h ⊢
    exact ⟨Rd.anyNames hn.1 h.1, RdL.anyNames hn.2 h.2⟩
end
/-- A closed test, reckoned on the way. -/
def bchk (p : Bool) (A : Prop) : Prop :=
  match p with
  | true => A
  | false => False
theorem bchk_iff {p : Bool} {A : Prop} : bchk p A ↔ p = true ∧ A := by cases p <;> simp [bchk]
def forceC (d : C) (K : C → Prop) : Prop :=
  match d with
  | .any => K .any
  | .v x => K (.v x)
  | .sl E k n f cs => K (.sl E k n f cs)
  | .own l E k n => K (.own l E k n)
  | .ptr l o => K (.ptr l o)
  | .mp l => K (.mp l)
  | .win l E k n => K (.win l E k n)
  | .wptr l o => K (.wptr l o)
  | .sub l E k i n => K (.sub l E k i n)
  | .cel E cs => K (.cel E cs)
  | .fn f cs => K (.fn f cs)
  | .agg cs => K (.agg cs)
  | .tup cs => K (.tup cs)
theorem forceC_iff {d : C} {K : C → Prop} : forceC d K ↔ K d := by cases d <;> rfl
/-- The spine of a list that is written out. -/
def normL : List C → (List C → Prop) → Prop
  | [], K => K []
  | d :: l, K => normL l fun l' => K (d :: l')
theorem normL_iff : ∀ {l : List C} {K : List C → Prop}, normL l K ↔ K l
  | [], _ => Iff.rfl
  | d :: l, K => by simp only [normL]; exact normL_iff
def cellsC : C → List C
  | .agg cs => cs
  | d => [d]
/-- Cells that are surely one cell each. -/
def one1 : C → Bool
  | .v x => Value.oneCell' x
  | .sl .. | .own .. | .ptr .. | .mp .. | .win .. | .wptr .. | .sub .. | .cel .. | .fn .. => true
  | _ => false
def oneL : List C → Bool
  | [] => true
  | d :: ds => one1 d && oneL ds
theorem Rd.one {w : World} {S : Nat → Prop} {b : Names} {d : C} {u : Value} (hd : one1 d = true) (h : Rd w S b d u) : Value.oneCell' u = true := by
  cases d <;> simp only [one1, Rd] at hd h
  case v => subst h; exact hd
  case sl => obtain ⟨A, c, rfl, _⟩ := h; rfl
  case own => obtain ⟨g, c, _, _, rfl, _⟩ := h; rfl
  case ptr => obtain ⟨g, c, _, rfl⟩ := h; rfl
  case mp => obtain ⟨g, c, _, rfl⟩ := h; rfl
  case win => obtain ⟨g, o, c, _, rfl, _⟩ := h; rfl
  case wptr => obtain ⟨g, c, _, rfl⟩ := h; rfl
  case sub => obtain ⟨a, c, A, c', _, rfl, _⟩ := h; rfl
  case cel => obtain ⟨g, off, arr, fr, rfl, _⟩ := h; rfl
  case fn => obtain ⟨vs, rfl, _⟩ := h; unfold fnV; split <;> rfl
  all_goals simp at hd
theorem RdL.one {w : World} {S : Nat → Prop} {b : Names} : ∀ {ds : List C} {us : List Value}, oneL ds = true → RdL w S b ds us → One us
  | [], [], _, _ => by intro u hu; simp at hu
  | _ :: _, [], _, h => by simp [RdL] at h
  | [], _ :: _, _, h => by simp [RdL] at h
  | _ :: _, _ :: _, hn, h => by
    simp only [oneL, Bool.and_eq_true] at hn
    simp only [RdL] at h
    intro u hu
    simp only [List.mem_cons] at hu
    rcases hu with rfl | hu
    · exact h.1.one hn.1
    · exact RdL.one hn.2 h.2 u hu
/-- The cells of a value. -/
theorem Rd.cells {w : World} {S : Nat → Prop} {b : Names} {d : C} {u : Value} (hd : oneL (cellsC d) = true) (h : Rd w S b d u) : RdL w S b (cellsC d) u.cells.toList := by
  cases d
  case agg cs =>
    simp only [Rd] at h
    obtain ⟨vs, rfl, h2⟩ := h
    simpa [cellsC, Value.cells] using h2
  all_goals
    have h1 := h.one (by simpa [cellsC, oneL] using hd)
    simp only [cellsC]
    cases u <;> simp [Value.oneCell'] at h1 <;> simpa [Value.cells, RdL] using h
theorem fnV_one {f : Nat} {vs : List Value} (h : One vs) : fnV f vs = .func (.func f) #[] vs.toArray := by
  unfold fnV
  split
  · rename_i bs
    have := h _ (List.mem_singleton.2 rfl)
    simp [Value.oneCell'] at this
  · rfl
/-- What a call hands on: what is captured behind the arguments, or what is bound ahead of them. -/
def cargs (args : List C) (caps : List C) (K : List C → Prop) : Prop :=
  match caps with
  | [.tup bs] => K (bs ++ args)
  | caps => bchk (oneL caps) (K (args ++ caps))
theorem cargs_sound {args caps : List C} {K : List C → Prop} (h : cargs args caps K) : ∃ l, K l ∧ ∀ (P : Program) (w : World) (S : Nat → Prop) (b : Names) (ff : Nat) (us vs : List Value), RdL w S b args us → RdL w S b caps vs →
    ∃ ws, RdL w S b l ws ∧ (do let d ← Deferred.ofValue (fnV ff vs) us.toArray; invoke d.target d.args : Sem Next).run P w = (callFunc ff ws.toArray).run P w := by
  unfold cargs at h
  split at h
  · rename_i bs
    refine ⟨_, h, fun P w S b ff us vs h1 h2 => ?_⟩
    cases vs with
    | nil => simp [RdL] at h2
    | cons v vs =>
      cases vs with
      | cons _ _ => simp [RdL] at h2
      | nil =>
        simp only [RdL, Rd, and_true] at h2
        obtain ⟨ts, rfl, h3⟩ := h2
        refine ⟨_, h3.append h1, ?_⟩
        simp [fnV, Deferred.ofValue, invoke]
  · obtain ⟨h0, h⟩ := bchk_iff.1 h
    refine ⟨_, h, fun P w S b ff us vs h1 h2 => ⟨_, h1.append h2, ?_⟩⟩
    rw [fnV_one (RdL.one h0 h2)]
    simp [Deferred.ofValue, invoke]
/-! ### Numbers, truths, strings -/
def abinI (op : BinOp) (k : IntKind) (m n : Int) (R : Value → Prop) : Prop :=
  match op with
  | .add => ∃ r, k.wrap (m + n) = r ∧ R (.int k r)
  | .sub => ∃ r, k.wrap (m - n) = r ∧ R (.int k r)
  | .mul => ∃ r, k.wrap (m * n) = r ∧ R (.int k r)
  | .quo => n ≠ 0 ∧ ∃ r, k.wrap (m.tdiv n) = r ∧ R (.int k r)
  | .rem => n ≠ 0 ∧ ∃ r, m.tmod n = r ∧ R (.int k r)
  | .and => ∃ r, k.wrap (BitVec.ofInt k.bits m &&& BitVec.ofInt k.bits n).toNat = r ∧ R (.int k r)
  | .or => ∃ r, k.wrap (BitVec.ofInt k.bits m ||| BitVec.ofInt k.bits n).toNat = r ∧ R (.int k r)
  | .xor => ∃ r, k.wrap (BitVec.ofInt k.bits m ^^^ BitVec.ofInt k.bits n).toNat = r ∧ R (.int k r)
  | .eql => R (.bool (m == n))
  | .neq => R (.bool (m != n))
  | .lss => R (.bool (decide (m < n)))
  | .leq => R (.bool (decide (m ≤ n)))
  | .gtr => R (.bool (decide (m > n)))
  | .geq => R (.bool (decide (m ≥ n)))
  | _ => False
theorem abinI_sound {P : Program} {op : BinOp} {k : IntKind} {m n : Int} {R : Value → Prop} (h : abinI op k m n R) (T : Nat) :
    ∃ r, R r ∧ ∀ w, (binOp op T (.int k m) (.int k n)).run P w = .ok r w := by
  cases op <;> simp only [abinI] at h
  case add => obtain ⟨r, h1, h2⟩ := h; exact ⟨_, h2, fun w => by simp [Go.binOp, Op.intArith, ← h1]⟩
  case sub => obtain ⟨r, h1, h2⟩ := h; exact ⟨_, h2, fun w => by simp [Go.binOp, Op.intArith, ← h1]⟩
  case mul => obtain ⟨r, h1, h2⟩ := h; exact ⟨_, h2, fun w => by simp [Go.binOp, Op.intArith, ← h1]⟩
  case quo => obtain ⟨h0, r, h1, h2⟩ := h; exact ⟨_, h2, fun w => by simp [Go.binOp, Op.intDiv, h0, ← h1]⟩
  case rem => obtain ⟨h0, r, h1, h2⟩ := h; exact ⟨_, h2, fun w => by simp [Go.binOp, Op.intDiv, h0, ← h1]⟩
  case and => obtain ⟨r, h1, h2⟩ := h; exact ⟨_, h2, fun w => by simp only [Go.binOp, Op.intBits, ← h1]; simp⟩
  case or => obtain ⟨r, h1, h2⟩ := h; exact ⟨_, h2, fun w => by simp only [Go.binOp, Op.intBits, ← h1]; simp⟩
  case xor => obtain ⟨r, h1, h2⟩ := h; exact ⟨_, h2, fun w => by simp only [Go.binOp, Op.intBits, ← h1]; simp⟩
  case eql => exact ⟨_, h, fun w => by simp [Go.binOp, Op.intCmp]⟩
  case neq => exact ⟨_, h, fun w => by simp [Go.binOp, Op.intCmp]⟩
  case lss => exact ⟨_, h, fun w => by simp [Go.binOp, Op.intCmp]⟩
  case leq => exact ⟨_, h, fun w => by simp [Go.binOp, Op.intCmp]⟩
  case gtr => exact ⟨_, h, fun w => by simp [Go.binOp, Op.intCmp]⟩
  case geq => exact ⟨_, h, fun w => by simp [Go.binOp, Op.intCmp]⟩
def ashift (op : BinOp) (k : IntKind) (m n : Int) (R : Value → Prop) : Prop :=
  match op with
  | .shl => 0 ≤ n ∧ ∃ r, k.wrap (m * 2 ^ (min n.toNat k.bits)) = r ∧ R (.int k r)
  | .shr => 0 ≤ n ∧ ∃ r, m.fdiv (2 ^ (min n.toNat k.bits)) = r ∧ R (.int k r)
  | _ => False
theorem ashift_sound {P : Program} {op : BinOp} {k j : IntKind} {m n : Int} {R : Value → Prop} (h : ashift op k m n R) (T : Nat) :
    ∃ r, R r ∧ ∀ w, (binOp op T (.int k m) (.int j n)).run P w = .ok r w := by
  cases op <;> simp only [ashift] at h
  case shl => obtain ⟨h0, r, h1, h2⟩ := h; exact ⟨_, h2, fun w => by simp [Go.binOp, Op.shift, show ¬ n < 0 by omega, ← h1]⟩
  case shr => obtain ⟨h0, r, h1, h2⟩ := h; exact ⟨_, h2, fun w => by simp [Go.binOp, Op.shift, show ¬ n < 0 by omega, ← h1]⟩
def abinS (op : BinOp) (s t : ByteArray) (R : Value → Prop) : Prop :=
  match op with
  | .add => s.size + t.size ≤ 9223372036854775807 ∧ R (.string (s ++ t))
  | .eql => R (.bool (s.toList == t.toList))
  | .neq => R (.bool !(s.toList == t.toList))
  | .lss => R (.bool (Op.bytesLess s.toList t.toList))
  | _ => False
theorem abinS_sound {P : Program} {op : BinOp} {s t : ByteArray} {R : Value → Prop} (h : abinS op s t R) (T : Nat) :
    ∃ r, R r ∧ ∀ w, (binOp op T (.string s) (.string t)).run P w = .ok r w := by
  cases op <;> simp only [abinS] at h
  case add =>
    refine ⟨_, h.2, fun w => ?_⟩
    have h1 := h.1
    simp [Go.binOp, Op.stringOp]
    omega
  case eql => exact ⟨_, h, fun w => by simp [Go.binOp, Op.stringOp]⟩
  case neq => exact ⟨_, h, fun w => by simp [Go.binOp, Op.stringOp]⟩
  case lss => exact ⟨_, h, fun w => by simp [Go.binOp, Op.stringOp]⟩
end El
namespace El
open Go Go.RowKit
theorem load_run {P : Program} {w : World} {a : Addr} {v : Value} (h : w.cell? a = some v) : (load a).run P w = .ok v w := by simp [h]
theorem run_loadFrom {P : Program} {w : World} {a : Addr} : ∀ (vs : List Value) (i : Nat) (acc : Array Value), (∀ j v, vs[j]? = some v → w.cell? (a.add (i + j)) = some v) →
    (loadCellsFrom a i vs.length acc).run P w = .ok (acc ++ vs.toArray) w
  | [], i, acc, _ => by simp [loadCellsFrom]
  | v :: vs, i, acc, h => by
    have h0 := h 0 v rfl
    simp only [Nat.add_zero] at h0
    simp only [List.length_cons, loadCellsFrom, Sem.run_bind, load_run h0, Result.andThen_ok]
    rw [run_loadFrom vs (i + 1) (acc.push v) (fun j u hu => by rw [show i + 1 + j = i + (j + 1) by omega]; exact h (j + 1) u hu)]
    simp
theorem cell_block {w : World} {g off : Nat} {arr : Array Value} {E : Nat} {fr : Nat × Nat} (hg : w.heap[g]? = some (.cells arr E fr)) (i : Nat) : w.cell? ((⟨g, off, none⟩ : Addr).add i) = arr[off + i]? := by
  rw [show ((⟨g, off, none⟩ : Addr).add i) = ⟨g, off + i, none⟩ by unfold Addr.add; split <;> simp_all]
  simp [World.cell?, hg]
/-- A variable is read out of cells that lie in one block. -/
theorem run_loadVar {P : Program} {w : World} {T : Nat} {t : TI} (hT : TOk P T t) {g off : Nat} {arr : Array Value} {E : Nat} {fr : Nat × Nat} (hg : w.heap[g]? = some (.cells arr E fr))
    {vs : List Value} (hv : (arr.toList.drop off).take t.size = vs) (hl : vs.length = t.size) (h1 : t.sh.agg = true ∨ t.size = 1) :
    (loadVar T ⟨g, off, none⟩).run P w = .ok (if t.sh.agg then .agg vs.toArray else vs.headD undef) w := by
  have hc : ∀ j v, vs[j]? = some v → w.cell? ((⟨g, off, none⟩ : Addr).add j) = some v := by
    intro j v hj
    rw [cell_block hg]
    have hj' : j < vs.length := (List.getElem?_eq_some_iff.1 hj).1
    rw [← hv, List.getElem?_take, if_pos (by omega), List.getElem?_drop] at hj
    simpa using hj
  simp only [loadVar, Sem.run_bind, isAgg_run hT, Result.andThen_ok]
  cases ha : t.sh.agg with
  | true =>
    have := run_loadFrom (P := P) (w := w) (a := ⟨g, off, none⟩) vs 0 #[] (by simpa using hc)
    rw [hl] at this
    simp [sizeOf_run hT, loadCells, this]
  | false =>
    have hs : t.size = 1 := by rcases h1 with h | h <;> simp_all
    match vs, hl.trans hs with
    | [v], _ =>
      have h0 := hc 0 v rfl
      have h0' : w.cell? ⟨g, off, none⟩ = some v := by simpa [Addr.add] using h0
      simp [load_run h0']
/-- What is read at an offset of a list of cells. -/
def apart1 (t : TI) (cs : List C) (off : Nat) (R : C → Prop) : Prop :=
  match t.sh.agg with
  | true => ∃ ds, (cs.drop off).take t.size = ds ∧ ds.length = t.size ∧ R (.agg ds)
  | false => bchk (Nat.beq t.size 1) (∃ d, cs[off]? = some d ∧ R d)
theorem apart1_sound {t : TI} {cs : List C} {off : Nat} {R : C → Prop} (h : apart1 t cs off R) :
    ∃ r, R r ∧ ∀ (w : World) (S : Nat → Prop) (b : Names) (us : List Value), RdL w S b cs us → ∃ vs, (us.drop off).take t.size = vs ∧ vs.length = t.size ∧ (t.sh.agg = true ∨ t.size = 1) ∧
      Rd w S b r (if t.sh.agg then .agg vs.toArray else vs.headD undef) := by
  unfold apart1 at h
  cases ha : t.sh.agg with
  | true =>
    simp only [ha] at h
    obtain ⟨ds, h1, h2, h3⟩ := h
    refine ⟨_, h3, fun w S b us hu => ⟨_, rfl, ?_, .inl rfl, ?_⟩⟩
    · have := (hu.drop off).take t.size
      rw [h1] at this
      rw [← this.length]; exact h2
    · have := (hu.drop off).take t.size
      rw [h1] at this
      simp only [Rd, if_true]
      exact ⟨_, rfl, this⟩
  | false =>
    simp only [ha] at h
    obtain ⟨h0, d, h1, h2⟩ := bchk_iff.1 h
    have h0 := Nat.eq_of_beq_eq_true h0
    refine ⟨_, h2, fun w S b us hu => ?_⟩
    have hlt : off < cs.length := (List.getElem?_eq_some_iff.1 h1).1
    have hg := hu.get off hlt
    have hlt' : off < us.length := by rw [← hu.length]; exact hlt
    refine ⟨_, rfl, ?_, .inr h0, ?_⟩
    · rw [h0]; simp; omega
    · rw [h0]
      rw [List.getD_eq_getElem?_getD, h1] at hg
      have : List.take 1 (List.drop off us) = [us[off]] := by
        rw [List.drop_eq_getElem_cons hlt']; rfl
      rw [this]
      simpa [List.getD_eq_getElem?_getD, hlt'] using hg
def getB : Bxs → Nat → Option Bx
  | [], _ => none
  | (m, B) :: r, l => match Nat.beq m l with
    | true => some B
    | false => getB r l
theorem getB_mem {bx : Bxs} {l : Nat} {B : Bx} (h : getB bx l = some B) : (l, B) ∈ bx := by
  induction bx with
  | nil => simp [getB] at h
  | cons p r ih =>
    obtain ⟨m, B'⟩ := p
    simp only [getB] at h
    split at h
    · rename_i e; have := Nat.eq_of_beq_eq_true e; subst this; cases h; exact List.mem_cons_self ..
    · exact List.mem_cons_of_mem _ (ih h)
/-- The loaded block that a pointer leads to. -/
def aload (G : Tab) (T : Nat) (bx : Bxs) (d : C) (R : C → Prop) : Prop :=
  match G T with
  | none => False
  | some t =>
    match d with
    | .cel _ cs => apart1 t cs 0 R
    | .ptr l off =>
      match getB bx l with
      | some (.cells _ _ cs) => apart1 t cs off R
      | some (.row _ _ _ cs) => apart1 t cs off R
      | _ => False
    | .wptr l off =>
      match getB bx l with
      | some (.win _ _ _ cs _ _) => apart1 t cs off R
      | _ => False
    | _ => False
def Sub (bx bx' : Bxs) : Prop := ∀ p, p ∈ bx → p ∈ bx'
theorem aload_sound {P : Program} {G : Tab} (hG : TabOk P G) {T : Nat} {bx : Bxs} {d : C} {R : C → Prop} (h : aload G T bx d R) :
    ∃ r, R r ∧ ∀ (g : Ghost) (b : Names) (bx' : Bxs) (w : World) (v : Value), Sub bx bx' → Mem g b bx' w → Rd w (Mut g.S0 b bx') b d v →
      ∃ u, (Instr.loadAt T v).run P w = .ok u w ∧ Rd w (Mut g.S0 b bx') b r u := by
  unfold aload at h
  cases hT : G T with
  | none => simp [hT] at h
  | some t =>
    have hok := hG.ok T t hT
    simp only [hT] at h
    cases d
    case cel E cs =>
      simp only at h
      obtain ⟨r, hr, hs⟩ := apart1_sound h
      refine ⟨r, hr, fun g b bx' w v _ _ hd => ?_⟩
      simp only [Rd] at hd
      obtain ⟨gg, off, arr, fr, rfl, hS, hg, hL⟩ := hd
      obtain ⟨vs, h1, h2, h3, h4⟩ := hs w _ noN _ hL
      have h1' : (arr.toList.drop off).take t.size = vs := by
        rw [← h1]
        simp only [List.drop_zero, List.take_take]
        by_cases hle : t.size ≤ cs.length
        · rw [Nat.min_eq_left hle]
        · exfalso
          have hlen := hL.length
          rw [← h1] at h2
          simp only [List.drop_zero, List.length_take, ← hlen] at h2
          omega
      refine ⟨_, (by simp only [Instr.loadAt, Instr.sureAddr, Sem.run_bind, Sem.run_pure, Result.andThen_ok]; exact run_loadVar hok hg h1' h2 h3), ?_⟩
      refine Rd.keep (fun g' _ hS' => ⟨rfl, hS'⟩) (fun _ _ hh => by cases hh) h4
    case ptr l off =>
      simp only at h
      cases hl : getB bx l with
      | none => simp [hl] at h
      | some B =>
        simp only [hl] at h
        cases B with
        | cells E c cs =>
          simp only at h
          obtain ⟨r, hr, hs⟩ := apart1_sound h
          refine ⟨r, hr, fun g b bx' w v hsub hm hd => ?_⟩
          obtain ⟨gg, arr, h5, h6, h7, h8⟩ := hm.boxes l _ (hsub _ (getB_mem hl))
          simp only [Rd] at hd
          obtain ⟨gg', c', h9, rfl⟩ := hd
          rw [h5] at h9; cases h9
          obtain ⟨vs, h1, h2, h3, h4⟩ := hs w _ b _ h8
          exact ⟨_, (by simp only [Instr.loadAt, Instr.sureAddr, Sem.run_bind, Sem.run_pure, Result.andThen_ok]; exact run_loadVar hok h6 h1 h2 h3), h4⟩
        | row E k n cs =>
          simp only at h
          obtain ⟨r, hr, hs⟩ := apart1_sound h
          refine ⟨r, hr, fun g b bx' w v hsub hm hd => ?_⟩
          obtain ⟨aa, c, h5, hnc, hcm, hlen, h6⟩ := hm.boxes l _ (hsub _ (getB_mem hl))
          simp only [Rd] at hd
          obtain ⟨gg, c', h9, rfl⟩ := hd
          rw [h5] at h9; cases h9
          obtain ⟨arr, h6, hsz, h7, h8⟩ := h6
          obtain ⟨vs, h1, h2, h3, h4⟩ := hs w _ noN _ h8
          have h1' : (arr.toList.drop off).take t.size = vs := by
            have hls : vs.length = (((arr.toList.take (n * k)).drop off).take t.size).length := by rw [h1]
            rw [← h1, List.drop_take, List.take_take]
            congr 1
            simp only [List.length_take, List.length_drop, Array.length_toList] at hls
            omega
          exact ⟨_, (by simp only [Instr.loadAt, Instr.sureAddr, Sem.run_bind, Sem.run_pure, Result.andThen_ok]; exact run_loadVar hok h6 h1' h2 h3), h4.keep (fun _ _ hh => ⟨rfl, hh⟩) fun _ _ hh => by cases hh⟩
        | _ => exact h.elim
    case wptr l off =>
      simp only at h
      cases hl : getB bx l with
      | none => simp [hl] at h
      | some B =>
        simp only [hl] at h
        cases B with
        | win E k n cs pre post =>
          simp only at h
          obtain ⟨r, hr, hs⟩ := apart1_sound h
          refine ⟨r, hr, fun g b bx' w v hsub hm hd => ?_⟩
          obtain ⟨gg, o, h5, mid, h6, h7, h8, h9, h10⟩ := hm.boxes l _ (hsub _ (getB_mem hl))
          simp only [Rd] at hd
          obtain ⟨gg', o', h11, rfl⟩ := hd
          rw [h5] at h11; cases h11
          obtain ⟨vs, h1, h2, h3, h4⟩ := hs w _ noN _ h10
          have h1' : ((pre ++ (mid ++ post)).toArray.toList.drop (o + off)).take t.size = vs := by
            have hls : vs.length = ((mid.drop off).take t.size).length := by rw [h1]
            simp only [List.length_take, List.length_drop] at hls
            simp only [List.drop_append, h7]
            rw [List.drop_of_length_le (by omega : pre.length ≤ o + off), List.nil_append, show o + off - o = off by omega]
            rw [List.take_append_of_le_length (by simp; omega)]
            exact h1
          exact ⟨_, (by simp only [Instr.loadAt, Instr.sureAddr, Sem.run_bind, Sem.run_pure, Result.andThen_ok]; exact run_loadVar hok h6 h1' h2 h3), h4.keep (fun _ _ hh => ⟨rfl, hh⟩) fun _ _ hh => by cases hh⟩
        | _ => exact h.elim
    all_goals simp at h
end El
namespace El
open Go Go.RowKit
/-- An operation that reads: no world turns. -/
def PureY (P : Program) (bx : Bxs) (d : C) (f : Value → Sem Value) (r : C) : Prop :=
  ∀ (g : Ghost) (b : Names) (bx' : Bxs) (w : World) (v : Value), Sub bx bx' → Mem g b bx' w → Rd w (Mut g.S0 b bx') b d v → ∃ u, (f v).run P w = .ok u w ∧ Rd w (Mut g.S0 b bx') b r u
theorem add_zero_addr (g off o : Nat) : ((⟨g, off, none⟩ : Addr).add o) = ⟨g, off + o, none⟩ := by unfold Addr.add; split <;> simp_all
theorem RdL.cel_drop {w : World} {S : Nat → Prop} {cs : List C} {arr : Array Value} {off o : Nat} (hL : RdL w S noN cs ((arr.toList.drop off).take cs.length)) :
    RdL w S noN (cs.drop o) ((arr.toList.drop (off + o)).take (cs.drop o).length) := by
  have := hL.drop o
  rw [List.drop_take, List.drop_drop] at this
  simpa using this
def aFieldAddr (G : Tab) (S f : Nat) (d : C) (R : C → Prop) : Prop :=
  match G S with
  | some t =>
    match t.sh with
    | .struct fs =>
      match fs[f]? with
      | some (o, T) =>
        match G T with
        | some t' =>
          t'.size ≠ 0 ∧ match d with
          | .ptr l off => R (.ptr l (off + o))
          | .cel E cs => R (.cel E (cs.drop o))
          | _ => False
        | none => False
      | none => False
    | _ => False
  | none => False
theorem aFieldAddr_sound {P : Program} {G : Tab} (hG : TabOk P G) {S f : Nat} {d : C} {R : C → Prop} (h : aFieldAddr G S f d R) (bx : Bxs) :
    ∃ r, R r ∧ PureY P bx d (fun v => Instr.fieldAt S v f) r := by
  unfold aFieldAddr at h
  cases hS : G S with
  | none => simp [hS] at h
  | some t =>
    have hok := hG.ok S t hS
    simp only [hS] at h
    cases hsh : t.sh <;> simp only [hsh] at h
    case struct fs =>
      cases hf : fs[f]? with
      | none => simp [hf] at h
      | some p =>
        obtain ⟨o, T⟩ := p
        simp only [hf] at h
        cases hT : G T with
        | none => simp [hT] at h
        | some t' =>
          simp only [hT] at h
          obtain ⟨hne, h⟩ := h
          have hsh' := hok.sh
          rw [hsh] at hsh'
          obtain ⟨fields, hu, hm⟩ := hsh'
          have hff : ∃ fld : Field, fields[f]? = some fld ∧ fld.offset = o ∧ fld.type = T := by
            rw [← hm, List.getElem?_map] at hf
            cases hx : fields.toList[f]? with
            | none => simp [hx] at hf
            | some fld =>
              simp only [hx, Option.map_some, Option.some.injEq, Prod.mk.injEq] at hf
              exact ⟨fld, by simpa using hx, hf.1, hf.2⟩
          obtain ⟨fld, hfl, rfl, rfl⟩ := hff
          have hrun : ∀ (w : World) (g off : Nat), (Instr.fieldAt S (.pointer (some ⟨g, off, none⟩)) f).run P w = .ok (.pointer (some ⟨g, off + fld.offset, none⟩)) w := by
            intro w g off
            simp only [Instr.fieldAt, Sem.run_bind, run_underlying hu, Result.andThen_ok, hfl, Instr.sureAddr, Sem.run_pure, fieldPlace, sizeOf_run (hG.ok _ _ hT), if_neg hne, add_zero_addr]
          cases d
          case ptr l off =>
            refine ⟨_, h, fun g b bx' w v _ _ hd => ?_⟩
            simp only [Rd] at hd
            obtain ⟨gg, c, h1, rfl⟩ := hd
            exact ⟨_, hrun w gg off, by simp only [Rd]; exact ⟨gg, c, h1, rfl⟩⟩
          case cel E cs =>
            refine ⟨_, h, fun g b bx' w v _ _ hd => ?_⟩
            simp only [Rd] at hd
            obtain ⟨gg, off, arr, fr, rfl, h1, h2, h3⟩ := hd
            exact ⟨_, hrun w gg off, by simp only [Rd]; exact ⟨gg, _, arr, fr, rfl, h1, h2, h3.cel_drop⟩⟩
          all_goals simp at h
def aIndexAddr (G : Tab) (T : Nat) (d : C) (j : Int) (R : C → Prop) : Prop :=
  match G T with
  | some t =>
    match t.sh, d with
    | .slice E, .sl E' k n _ cs => (match G E with
      | some t' => bchk (Nat.beq t'.size k) (∃ i : Nat, (j = (i : Int) ∧ i < n) ∧ R (.cel E' (cs.drop (i * k))))
      | none => False)
    | .slice E, .own l _ k n => (match G E with
      | some t' => bchk (Nat.beq t'.size k) (∃ i : Nat, (j = (i : Int) ∧ i < n) ∧ R (.ptr l (i * k)))
      | none => False)
    | .slice E, .win l _ k n => (match G E with
      | some t' => bchk (Nat.beq t'.size k) (∃ i : Nat, (j = (i : Int) ∧ i < n) ∧ R (.wptr l (i * k)))
      | none => False)
    | .slice E, .sub l _ k o n => (match G E with
      | some t' => bchk (Nat.beq t'.size k) (∃ i : Nat, (j = (i : Int) ∧ i < n) ∧ R (.ptr l ((o + i) * k)))
      | none => False)
    | .arr n E, .ptr l off => (match G E with
      | some t' => ∃ i : Nat, (j = (i : Int) ∧ i < n) ∧ R (.ptr l (off + i * t'.size))
      | none => False)
    | .arr n E, .cel E' cs => (match G E with
      | some t' => ∃ i : Nat, (j = (i : Int) ∧ i < n) ∧ R (.cel E' (cs.drop (i * t'.size)))
      | none => False)
    | _, _ => False
  | none => False
theorem aIndexAddr_sound {P : Program} {G : Tab} (hG : TabOk P G) {T : Nat} {d : C} {j : Int} {R : C → Prop} (h : aIndexAddr G T d j R) (bx : Bxs) (k : IntKind) :
    ∃ r, R r ∧ PureY P bx d (fun v => Instr.indexAt T v (.int k j)) r := by
  unfold aIndexAddr at h
  cases hT : G T with
  | none => simp [hT] at h
  | some t =>
    have hok := (hG.ok T t hT).sh
    simp only [hT] at h
    cases hsh : t.sh <;> rw [hsh] at hok <;> simp only [hsh] at h
    case slice E =>
      simp only [shOk] at hok
      cases d <;> simp only at h
      case sl E' kk n full cs =>
        cases ht' : G E with
        | none => simp [ht'] at h
        | some t' =>
        simp only [ht'] at h
        obtain ⟨hk, i, ⟨rfl, hi⟩, hr⟩ := bchk_iff.1 h
        have hk := Nat.eq_of_beq_eq_true hk
        subst hk
        have h0 : (0 : Int) ≤ (i : Int) := by omega
        have h1 : (i : Int) < (n : Int) := by omega
        refine ⟨_, hr, fun g b bx' w v _ _ hd => ?_⟩
        simp only [Rd] at hd
        obtain ⟨A, c, rfl, h2, h3, h4, h5, h6⟩ := hd
        rcases h6 with h6 | ⟨gg, off, arr, fr, rfl, hS, hg, hL⟩
        · omega
        · have hidx : (0 : Int) ≤ (i : Int) ∧ (i : Int) < (n : Int) := ⟨h0, h1⟩
          refine ⟨.pointer (some ⟨gg, off + i * t'.size, none⟩), ?_, ?_⟩
          · simp only [Instr.indexAt, asIntOf, Sem.run_bind, Sem.run_pure, Result.andThen_ok, run_underlying hok, if_pos hidx, sizeOf_run (hG.ok _ _ ht'), Int.toNat_natCast, add_zero_addr]
          · simp only [Rd]
            refine ⟨gg, _, arr, fr, rfl, hS, hg, ?_⟩
            rw [← h5] at hL
            exact hL.cel_drop
      case own l E' kk n =>
        cases ht' : G E with
        | none => simp [ht'] at h
        | some t' =>
        simp only [ht'] at h
        obtain ⟨hk, i, ⟨rfl, hi⟩, hr⟩ := bchk_iff.1 h
        have hk := Nat.eq_of_beq_eq_true hk
        subst hk
        have h0 : (0 : Int) ≤ (i : Int) := by omega
        have h1 : (i : Int) < (n : Int) := by omega
        refine ⟨_, hr, fun g b bx' w v _ _ hd => ?_⟩
        simp only [Rd] at hd
        obtain ⟨aa, c, hb, h4, rfl, h2, h3⟩ := hd
        have hidx : (0 : Int) ≤ (i : Int) ∧ (i : Int) < (n : Int) := ⟨h0, h1⟩
        obtain ⟨gg, rfl⟩ : ∃ gg, aa = some gg := by
          cases aa with
          | none => have := h4 rfl; omega
          | some gg => exact ⟨gg, rfl⟩
        refine ⟨.pointer (some ⟨gg, i * t'.size, none⟩), ?_, ?_⟩
        · simp only [Instr.indexAt, asIntOf, Sem.run_bind, Sem.run_pure, Result.andThen_ok, run_underlying hok, if_pos hidx, sizeOf_run (hG.ok _ _ ht'), Int.toNat_natCast, add_zero_addr, Nat.zero_add, Option.map_some]
        · simp only [Rd]
          exact ⟨gg, c, hb, rfl⟩
      case win l E' kk n =>
        cases ht' : G E with
        | none => simp [ht'] at h
        | some t' =>
        simp only [ht'] at h
        obtain ⟨hk, i, ⟨rfl, hi⟩, hr⟩ := bchk_iff.1 h
        have hk := Nat.eq_of_beq_eq_true hk
        subst hk
        have h0 : (0 : Int) ≤ (i : Int) := by omega
        have h1 : (i : Int) < (n : Int) := by omega
        refine ⟨_, hr, fun g b bx' w v _ _ hd => ?_⟩
        simp only [Rd] at hd
        obtain ⟨gg, o, c, hb, rfl, h2, h3⟩ := hd
        have hidx : (0 : Int) ≤ (i : Int) ∧ (i : Int) < (n : Int) := ⟨h0, h1⟩
        refine ⟨.pointer (some ⟨gg, o + i * t'.size, none⟩), ?_, ?_⟩
        · simp only [Instr.indexAt, asIntOf, Sem.run_bind, Sem.run_pure, Result.andThen_ok, run_underlying hok, if_pos hidx, sizeOf_run (hG.ok _ _ ht'), Int.toNat_natCast, add_zero_addr]
        · simp only [Rd]
          exact ⟨gg, o, hb, rfl⟩
      case sub l E' kk o n =>
        cases ht' : G E with
        | none => simp [ht'] at h
        | some t' =>
        simp only [ht'] at h
        obtain ⟨hk, i, ⟨rfl, hi⟩, hr⟩ := bchk_iff.1 h
        have hk := Nat.eq_of_beq_eq_true hk
        subst hk
        have h0 : (0 : Int) ≤ (i : Int) := by omega
        have h1 : (i : Int) < (n : Int) := by omega
        refine ⟨_, hr, fun g b bx' w v _ _ hd => ?_⟩
        simp only [Rd] at hd
        obtain ⟨a, c, A, c', hb, rfl, h2, h3, h4⟩ := hd
        obtain ⟨gg, rfl, rfl⟩ := h4 (by omega)
        have hidx : (0 : Int) ≤ (i : Int) ∧ (i : Int) < (n : Int) := ⟨h0, h1⟩
        refine ⟨.pointer (some ⟨gg, o * t'.size + i * t'.size, none⟩), ?_, ?_⟩
        · simp only [Instr.indexAt, asIntOf, Sem.run_bind, Sem.run_pure, Result.andThen_ok, run_underlying hok, if_pos hidx, sizeOf_run (hG.ok _ _ ht'), Int.toNat_natCast, add_zero_addr]
        · simp only [Rd]
          exact ⟨gg, c, hb, by rw [Nat.add_mul]⟩
    case arr n E =>
      simp only [shOk] at hok
      cases d <;> simp only at h
      case ptr l off =>
        cases ht' : G E with
        | none => simp [ht'] at h
        | some t' =>
        simp only [ht'] at h
        obtain ⟨i, ⟨rfl, hi⟩, hr⟩ := h
        have h0 : (0 : Int) ≤ (i : Int) := by omega
        have h1 : (i : Int) < (n : Int) := by omega
        refine ⟨_, hr, fun g b bx' w v _ _ hd => ?_⟩
        simp only [Rd] at hd
        obtain ⟨gg, c, hb, rfl⟩ := hd
        have hidx : (0 : Int) ≤ (i : Int) ∧ (i : Int) < (n : Int) := ⟨h0, h1⟩
        refine ⟨.pointer (some ⟨gg, off + i * t'.size, none⟩), ?_, ?_⟩
        · simp only [Instr.indexAt, asIntOf, Sem.run_bind, Sem.run_pure, Result.andThen_ok, run_underlying hok, Instr.sureAddr, if_pos hidx, sizeOf_run (hG.ok _ _ ht'), Int.toNat_natCast, add_zero_addr]
        · simp only [Rd]
          exact ⟨gg, c, hb, rfl⟩
      case cel E' cs =>
        cases ht' : G E with
        | none => simp [ht'] at h
        | some t' =>
        simp only [ht'] at h
        obtain ⟨i, ⟨rfl, hi⟩, hr⟩ := h
        have h0 : (0 : Int) ≤ (i : Int) := by omega
        have h1 : (i : Int) < (n : Int) := by omega
        refine ⟨_, hr, fun g b bx' w v _ _ hd => ?_⟩
        simp only [Rd] at hd
        obtain ⟨gg, off, arr, fr, rfl, hS, hg, hL⟩ := hd
        have hidx : (0 : Int) ≤ (i : Int) ∧ (i : Int) < (n : Int) := ⟨h0, h1⟩
        refine ⟨.pointer (some ⟨gg, off + i * t'.size, none⟩), ?_, ?_⟩
        · simp only [Instr.indexAt, asIntOf, Sem.run_bind, Sem.run_pure, Result.andThen_ok, run_underlying hok, Instr.sureAddr, if_pos hidx, sizeOf_run (hG.ok _ _ ht'), Int.toNat_natCast, add_zero_addr]
        · simp only [Rd]
          exact ⟨gg, _, arr, fr, rfl, hS, hg, hL.cel_drop⟩
    all_goals (cases d <;> simp at h)
/-! ### Parts of aggregates -/
theorem part_run {P : Program} {T : Nat} {t : TI} (hT : TOk P T t) {us vs : List Value} {off : Nat} (w : World) (h1 : (us.drop off).take t.size = vs) (h2 : vs.length = t.size) (h3 : t.sh.agg = true ∨ t.size = 1) :
    (part T us.toArray off).run P w = .ok (if t.sh.agg then .agg vs.toArray else vs.headD undef) w := by
  simp only [part, Sem.run_bind, isAgg_run hT, Result.andThen_ok]
  cases ha : t.sh.agg with
  | true =>
    simp only [if_true, Sem.run_bind, sizeOf_run hT, Result.andThen_ok, Sem.run_pure]
    congr 2
    rw [← h1]
    simp
  | false =>
    have hs : t.size = 1 := by rcases h3 with h | h <;> simp_all
    rw [hs] at h1 h2
    have hlt : off < us.length := by
      rw [← h1] at h2
      simp at h2; omega
    have : us[off]? = some us[off] := List.getElem?_eq_getElem hlt
    have hv : vs = [us[off]] := by rw [← h1, List.drop_eq_getElem_cons hlt]; rfl
    simp [this, hv]
def aField (G : Tab) (S f : Nat) (d : C) (R : C → Prop) : Prop :=
  match G S with
  | some t =>
    match t.sh, d with
    | .struct fs, .agg cs =>
      match fs[f]? with
      | some (o, T) => match G T with
        | some t' => apart1 t' cs o R
        | none => False
      | none => False
    | _, _ => False
  | none => False
theorem aField_sound {P : Program} {G : Tab} (hG : TabOk P G) {S f : Nat} {d : C} {R : C → Prop} (h : aField G S f d R) (bx : Bxs) :
    ∃ r, R r ∧ PureY P bx d (fun v => Instr.field S v f) r := by
  unfold aField at h
  cases hS : G S with
  | none => simp [hS] at h
  | some t =>
    have hok := hG.ok S t hS
    simp only [hS] at h
    cases hsh : t.sh <;> simp only [hsh] at h
    case struct fs =>
      cases d <;> simp only at h
      case agg cs =>
        cases hf : fs[f]? with
        | none => simp [hf] at h
        | some p =>
          obtain ⟨o, T⟩ := p
          simp only [hf] at h
          cases hT : G T with
          | none => simp [hT] at h
          | some t' =>
            simp only [hT] at h
            obtain ⟨r, hr, hs⟩ := apart1_sound h
            refine ⟨r, hr, fun g b bx' w v _ _ hd => ?_⟩
            simp only [Rd] at hd
            obtain ⟨us, rfl, hL⟩ := hd
            obtain ⟨vs, h1, h2, h3, h4⟩ := hs w _ b us hL
            have hsh' := hok.sh
            rw [hsh] at hsh'
            obtain ⟨fields, hu, hm⟩ := hsh'
            have hff : ∃ fld : Field, fields[f]? = some fld ∧ fld.offset = o ∧ fld.type = T := by
              rw [← hm, List.getElem?_map] at hf
              cases hx : fields.toList[f]? with
              | none => simp [hx] at hf
              | some fld =>
                simp only [hx, Option.map_some, Option.some.injEq, Prod.mk.injEq] at hf
                exact ⟨fld, by simpa using hx, hf.1, hf.2⟩
            obtain ⟨fld, hfl, rfl, rfl⟩ := hff
            refine ⟨_, ?_, h4⟩
            simp only [Instr.field, asAgg, Sem.run_bind, run_underlying hu, Result.andThen_ok, hfl, Sem.run_pure]
            exact part_run (hG.ok _ _ hT) w h1 h2 h3
    all_goals (cases d <;> simp at h)
def aIndex (G : Tab) (T : Nat) (d : C) (j : Int) (R : C → Prop) : Prop :=
  match G T with
  | some t =>
    match t.sh, d with
    | .arr n E, .agg cs => ∃ i : Nat, (j = (i : Int) ∧ i < n) ∧ match G E with
      | some t' => apart1 t' cs (i * t'.size) R
      | none => False
    | .string, .v (.string s) => ∃ i : Nat, j = (i : Int) ∧ ∃ h : i < s.size, R (.v (.int .u8 ((s[i]'h).toNat : Int)))
    | _, _ => False
  | none => False
theorem aIndex_sound {P : Program} {G : Tab} (hG : TabOk P G) {T : Nat} {d : C} {j : Int} {R : C → Prop} (h : aIndex G T d j R) (bx : Bxs) (k : IntKind) :
    ∃ r, R r ∧ PureY P bx d (fun v => Instr.index T v (.int k j)) r := by
  unfold aIndex at h
  cases hT : G T with
  | none => simp [hT] at h
  | some t =>
    have hok := (hG.ok T t hT).sh
    simp only [hT] at h
    cases hsh : t.sh <;> rw [hsh] at hok <;> simp only [hsh] at h
    case arr n E =>
      simp only [shOk] at hok
      cases d <;> simp only at h
      case agg cs =>
        obtain ⟨i, ⟨rfl, hi⟩, h⟩ := h
        have h0 : (0 : Int) ≤ (i : Int) := by omega
        have h1 : (i : Int) < (n : Int) := by omega
        cases hE : G E with
        | none => simp [hE] at h
        | some t' =>
          simp only [hE] at h
          obtain ⟨r, hr, hs⟩ := apart1_sound h
          refine ⟨r, hr, fun g b bx' w v _ _ hd => ?_⟩
          simp only [Rd] at hd
          obtain ⟨us, rfl, hL⟩ := hd
          obtain ⟨vs, h1', h2, h3, h4⟩ := hs w _ b us hL
          have hidx : (0 : Int) ≤ (i : Int) ∧ (i : Int) < (n : Int) := ⟨h0, h1⟩
          refine ⟨_, ?_, h4⟩
          simp only [Instr.index, asIntOf, Sem.run_bind, Sem.run_pure, Result.andThen_ok, run_underlying hok, if_pos hidx, sizeOf_run (hG.ok _ _ hE), Int.toNat_natCast]
          exact part_run (hG.ok _ _ hE) w h1' h2 h3
    case string =>
      simp only [shOk] at hok
      cases d
      case v x =>
        cases x
        case string s =>
          obtain ⟨i, rfl, hlt, hr⟩ := h
          refine ⟨_, hr, fun g b bx' w v _ _ hd => ?_⟩
          simp only [Rd] at hd
          subst hd
          refine ⟨.int .u8 (s[i]'hlt).toNat, ?_, by simp only [Rd]⟩
          simp [Instr.index, asIntOf, run_underlying hok, hlt]
        all_goals simp at h
      all_goals simp at h
    all_goals (cases d <;> simp at h)
end El
namespace El
open Go Go.RowKit
def boundEq (d : Option C) (dflt i : Nat) : Prop :=
  match d with
  | none => i = dflt
  | some (.v (.int _ j)) => j = (i : Int)
  | _ => False
def aSlice (G : Tab) (T : Nat) (d : C) (lo hi mx : Option C) (R : C → Prop) : Prop :=
  match d with
  | .sl E k n full cs =>
    match G T with
    | some t =>
      match t.sh with
      | .slice E' => match G E' with
       | none => False
       | some t' => bchk (Nat.beq t'.size k) <| ∃ i j : Nat, (boundEq lo 0 i ∧ boundEq hi n j ∧ i ≤ j ∧ j ≤ n) ∧
        match mx with
        | none => R (.sl E k (j - i) (full && hi.isNone) ((cs.drop (i * k)).take ((j - i) * k)))
        | some m => hi.isSome = true ∧ boundEq (some m) 0 j ∧ R (.sl E k (j - i) true ((cs.drop (i * k)).take ((j - i) * k)))
      | _ => False
    | none => False
  | .own l E k n =>
    match G T, mx with
    | some t, none =>
      match t.sh with
      | .slice E' => match G E' with
       | none => False
       | some t' => bchk (Nat.beq t'.size k) <| ∃ i j : Nat, (boundEq lo 0 i ∧ boundEq hi n j ∧ i ≤ j ∧ j ≤ n) ∧ R (.sub l E k i (j - i))
      | _ => False
    | _, _ => False
  | .ptr l o =>
    match G T, mx with
    | some t, none =>
      match t.sh with
      | .arr n E' => match G E' with
       | none => False
       | some t' => bchk (Nat.beq o 0 && Nat.ble n 1000000) <| ∃ i j : Nat, (boundEq lo 0 i ∧ boundEq hi n j ∧ i ≤ j ∧ j ≤ n) ∧ R (.sub l E' t'.size i (j - i))
      | _ => False
    | _, _ => False
  | .v (.string s) =>
    match G T, mx with
    | some t, none =>
      match t.sh with
      | .string => ∃ i j : Nat, (boundEq lo 0 i ∧ boundEq hi s.size j ∧ i ≤ j ∧ j ≤ s.size) ∧ R (.v (.string (s.extract i j)))
      | _ => False
    | _, _ => False
  | .cel E cs =>
    match G T with
    | some t =>
      match t.sh with
      | .arr n E' => match G E', lo, hi, mx with
        | some t', none, none, none => bchk (Nat.ble n 1000000) (cs.length = n * t'.size ∧ R (.sl E t'.size n true cs))
        | _, _, _, _ => False
      | _ => False
    | none => False
  | _ => False
def RdO (w : World) (S : Nat → Prop) (b : Names) : Option C → Option Value → Prop
  | none, none => True
  | some d, some v => Rd w S b d v
  | _, _ => False
theorem boundEq_run {P : Program} {w : World} {S : Nat → Prop} {b : Names} {d : Option C} {v : Option Value} {dflt i y : Nat} (h : boundEq d dflt i) (hr : RdO w S b d v) (hi : i ≤ y) (code : BoundsCode) :
    (v = none ∧ i = dflt) ∨ ∃ u, v = some u ∧ (Instr.sliceBound u y code).run P w = .ok i w := by
  cases d with
  | none =>
    cases v with
    | none => exact .inl ⟨rfl, h⟩
    | some _ => simp [RdO] at hr
  | some d =>
    cases v with
    | none => simp [RdO] at hr
    | some u =>
      refine .inr ⟨u, rfl, ?_⟩
      unfold boundEq at h
      cases d
      case v x =>
        cases x
        case int k j =>
          simp only at h
          simp only [RdO, Rd] at hr
          subst hr; subst h
          have : (0 : Int) ≤ (i : Int) ∧ (i : Int) ≤ (y : Int) := by omega
          simp only [Instr.sliceBound, asIntOf, Sem.run_bind, Sem.run_pure, Result.andThen_ok, if_pos this, Int.toNat_natCast]
        all_goals simp at h
      all_goals simp at h
theorem aSlice_sound {P : Program} {G : Tab} (hG : TabOk P G) {T : Nat} {d : C} {lo hi mx : Option C} {R : C → Prop} (h : aSlice G T d lo hi mx R) :
    ∃ r, R r ∧ ∀ (w : World) (S : Nat → Prop) (b : Names) (v : Value) (l h m : Option Value), Rd w S b d v → RdO w S b lo l → RdO w S b hi h → RdO w S b mx m →
      ∃ u, (Instr.sliceAt T v l h m).run P w = .ok u w ∧ Rd w S b r u := by
  unfold aSlice at h
  cases d
  case sl E k n full cs =>
    simp only at h
    cases hT : G T with
    | none => simp [hT] at h
    | some t =>
      have hok := (hG.ok T t hT).sh
      simp only [hT] at h
      cases hsh : t.sh <;> rw [hsh] at hok <;> simp only [hsh] at h
      case slice E' =>
        simp only [shOk] at hok
        cases ht' : G E' with
        | none => simp [ht'] at h
        | some t' =>
        simp only [ht'] at h
        obtain ⟨hk, i, j, ⟨hlo, hhi, hij, hjn⟩, h'⟩ := bchk_iff.1 h
        have hk := Nat.eq_of_beq_eq_true hk
        subst hk
        clear h
        have h := h'
        clear h'
        have hread : ∀ (w : World) (S : Nat → Prop) (b : Names) (A : Option Addr) (c m : Nat) (fl : Bool), n ≤ c → c ≤ maxLen → j ≤ m → m ≤ c → (fl = true → m = j) → cs.length = n * t'.size →
            (n = 0 ∨ ∃ g off arr, ∃ fr : Nat × Nat × Nat, A = some ⟨g, off, none⟩ ∧ ¬ S g ∧ w.heap[g]? = some (.cells arr fr.1 fr.2) ∧ RdL w S noN cs ((arr.toList.drop off).take (n * t'.size))) →
            Rd w S b (.sl E t'.size (j - i) fl ((cs.drop (i * t'.size)).take ((j - i) * t'.size))) (.slice (if m = i then A else A.map (·.add (i * t'.size))) (j - i) (m - i)) := by
          intro w S b A c m fl h1 h2 h3 h4 h5 h6 h7
          simp only [Rd]
          refine ⟨_, _, rfl, by omega, by omega, fun hf => by have := h5 hf; omega, ?_, ?_⟩
          · rw [List.length_take, List.length_drop, h6, ← Nat.sub_mul, Nat.min_eq_left]
            exact Nat.mul_le_mul_right _ (by omega)
          · rcases Nat.eq_zero_or_pos (j - i) with h0 | h0
            · exact .inl h0
            · right
              rcases h7 with h7 | ⟨g, off, arr, fr, rfl, hS, hg, hL⟩
              · omega
              · refine ⟨g, off + i * t'.size, arr, fr, ?_, hS, hg, ?_⟩
                · rw [if_neg (by omega)]
                  simp only [Option.map_some, add_zero_addr]
                · have h8 := (hL.drop (i * t'.size)).take ((j - i) * t'.size)
                  rw [List.drop_take, List.drop_drop, List.take_take, ← Nat.sub_mul] at h8
                  rwa [Nat.min_eq_left (Nat.mul_le_mul_right _ (by omega))] at h8
        cases mx with
        | none =>
          simp only at h
          refine ⟨_, h, fun w S b v l hh m hd hl hhh hm => ?_⟩
          cases m with
          | some _ => simp [RdO] at hm
          | none =>
            simp only [Rd] at hd
            obtain ⟨A, c, rfl, h2, h3, h4, h5, h6⟩ := hd
            refine ⟨_, ?_, hread w S b A c c _ h2 h3 (by omega) (Nat.le_refl _) ?_ h5 h6⟩
            · have e1 := boundEq_run (P := P) hlo hl hij .sliceB
              have e2 := boundEq_run (P := P) hhi hhh (Nat.le_trans hjn h2) .sliceAcap
              simp only [Instr.sliceAt, Sem.run_bind, run_underlying hok, Result.andThen_ok, Instr.slice, Instr.sliceBounds, Sem.run_pure, Option.isSome_none, Bool.false_eq_true, if_false]
              rcases e2 with ⟨rfl, rfl⟩ | ⟨u2, rfl, e2⟩ <;> rcases e1 with ⟨rfl, rfl⟩ | ⟨u1, rfl, e1⟩ <;>
                simp [*, sizeOf_run (hG.ok _ _ ht')]
            · intro hf
              simp only [Bool.and_eq_true] at hf
              have := h4 hf.1
              cases hi with
              | none => simp only [boundEq] at hhi; omega
              | some _ => simp at hf
        | some mm =>
          simp only at h
          obtain ⟨hsome, hmx, h⟩ := h
          refine ⟨_, h, fun w S b v l hh m hd hl hhh hm => ?_⟩
          simp only [Rd] at hd
          obtain ⟨A, c, rfl, h2, h3, h4, h5, h6⟩ := hd
          refine ⟨_, ?_, hread w S b A c j _ h2 h3 (Nat.le_refl _) (by omega) (fun _ => rfl) h5 h6⟩
          have e1 := boundEq_run (P := P) hlo hl hij .slice3C
          have e2 := boundEq_run (P := P) hhi hhh (Nat.le_refl j) .slice3B
          have e3 := boundEq_run (P := P) hmx hm (Nat.le_trans hjn h2) .slice3Acap
          simp only [Instr.sliceAt, Sem.run_bind, run_underlying hok, Result.andThen_ok, Instr.slice, Instr.sliceBounds, Sem.run_pure]
          rcases e3 with ⟨rfl, _⟩ | ⟨u3, rfl, e3⟩
          · simp [RdO] at hm
          rcases e2 with ⟨rfl, _⟩ | ⟨u2, rfl, e2⟩
          · cases hi with
            | none => simp at hsome
            | some _ => simp [RdO] at hhh
          rcases e1 with ⟨rfl, rfl⟩ | ⟨u1, rfl, e1⟩ <;> simp [*, sizeOf_run (hG.ok _ _ ht')]
  case v x =>
    cases x
    case string s =>
      simp only at h
      cases hT : G T with
      | none => simp [hT] at h
      | some t =>
        have hok := (hG.ok T t hT).sh
        simp only [hT] at h
        cases mx with
        | some _ => simp at h
        | none =>
          simp only at h
          cases hsh : t.sh <;> rw [hsh] at hok <;> simp only [hsh] at h
          case string =>
            simp only [shOk] at hok
            obtain ⟨i, j, ⟨hlo, hhi, hij, hjn⟩, h⟩ := h
            refine ⟨_, h, fun w S b v l hh m hd hl hhh hm => ?_⟩
            simp only [Rd] at hd
            subst hd
            cases m with
            | some _ => simp [RdO] at hm
            | none =>
              refine ⟨.string (s.extract i j), ?_, by simp only [Rd]⟩
              have e1 := boundEq_run (P := P) hlo hl hij .sliceB
              have e2 := boundEq_run (P := P) hhi hhh hjn .sliceAlen
              simp only [Instr.sliceAt, Sem.run_bind, run_underlying hok, Result.andThen_ok, Instr.slice, Instr.sliceBounds, Sem.run_pure, Option.isSome_none, Bool.false_eq_true, if_false]
              rcases e2 with ⟨rfl, rfl⟩ | ⟨u2, rfl, e2⟩ <;> rcases e1 with ⟨rfl, rfl⟩ | ⟨u1, rfl, e1⟩ <;> simp [*]
    all_goals simp at h
  case own l E k n =>
    simp only at h
    cases hT : G T with
    | none => simp [hT] at h
    | some t =>
      have hok := (hG.ok T t hT).sh
      simp only [hT] at h
      cases mx with
      | some _ => simp at h
      | none =>
        simp only at h
        cases hsh : t.sh <;> rw [hsh] at hok <;> simp only [hsh] at h
        case slice E' =>
          simp only [shOk] at hok
          cases ht' : G E' with
          | none => simp [ht'] at h
          | some t' =>
          simp only [ht'] at h
          obtain ⟨hk, i, j, ⟨hlo, hhi, hij, hjn⟩, hR⟩ := bchk_iff.1 h
          have hk := Nat.eq_of_beq_eq_true hk
          subst hk
          refine ⟨_, hR, fun w S b v l' hh m hd hl hhh hm => ?_⟩
          cases m with
          | some _ => simp [RdO] at hm
          | none =>
            simp only [Rd] at hd
            obtain ⟨a, c, h1, h2, rfl, h4, h5⟩ := hd
            refine ⟨.slice (if c = i then a.map (fun g => (⟨g, 0, none⟩ : Addr)) else (a.map fun g => (⟨g, 0, none⟩ : Addr)).map (·.add (i * t'.size))) (j - i) (c - i), ?_, ?_⟩
            · have e1 := boundEq_run (P := P) hlo hl hij .sliceB
              have e2 := boundEq_run (P := P) hhi hhh (Nat.le_trans hjn h4) .sliceAcap
              simp only [Instr.sliceAt, Sem.run_bind, run_underlying hok, Result.andThen_ok, Instr.slice, Instr.sliceBounds, Sem.run_pure, Option.isSome_none, Bool.false_eq_true, if_false]
              rcases e2 with ⟨rfl, rfl⟩ | ⟨u2, rfl, e2⟩ <;> rcases e1 with ⟨rfl, rfl⟩ | ⟨u1, rfl, e1⟩ <;>
                simp [*, sizeOf_run (hG.ok _ _ ht')]
            · simp only [Rd]
              refine ⟨a, c, _, _, h1, rfl, by omega, by omega, fun h0 => ?_⟩
              cases a with
              | none => have := h2 rfl; omega
              | some g => exact ⟨g, rfl, by rw [if_neg (by omega)]; simp [add_zero_addr]⟩
  case ptr l o =>
    simp only at h
    cases hT : G T with
    | none => simp [hT] at h
    | some t =>
      have hok := (hG.ok T t hT).sh
      simp only [hT] at h
      cases mx with
      | some _ => simp at h
      | none =>
        simp only at h
        cases hsh : t.sh <;> rw [hsh] at hok <;> simp only [hsh] at h
        case arr n E' =>
          simp only [shOk] at hok
          cases ht' : G E' with
          | none => simp [ht'] at h
          | some t' =>
          simp only [ht'] at h
          obtain ⟨hk, i, j, ⟨hlo, hhi, hij, hjn⟩, hR⟩ := bchk_iff.1 h
          simp only [Bool.and_eq_true] at hk
          have ho := Nat.eq_of_beq_eq_true hk.1
          have hn := Nat.le_of_ble_eq_true hk.2
          subst ho
          refine ⟨_, hR, fun w S b v l' hh m hd hl hhh hm => ?_⟩
          cases m with
          | some _ => simp [RdO] at hm
          | none =>
            simp only [Rd] at hd
            obtain ⟨g, c, h1, rfl⟩ := hd
            refine ⟨.slice (some (if n = i then ⟨g, 0, none⟩ else (⟨g, 0, none⟩ : Addr).add (i * t'.size))) (j - i) (n - i), ?_, ?_⟩
            · have e1 := boundEq_run (P := P) hlo hl hij .sliceB
              have e2 := boundEq_run (P := P) hhi hhh hjn .sliceAlen
              simp only [Instr.sliceAt, Sem.run_bind, run_underlying hok, Result.andThen_ok, Instr.sureAddr, Instr.sliceBounds, Sem.run_pure, Option.isSome_none, Bool.false_eq_true, if_false]
              rcases e2 with ⟨rfl, rfl⟩ | ⟨u2, rfl, e2⟩ <;> rcases e1 with ⟨rfl, rfl⟩ | ⟨u1, rfl, e1⟩ <;>
                simp [*, sizeOf_run (hG.ok _ _ ht')]
            · simp only [Rd]
              exact ⟨some g, c, _, _, h1, rfl, by omega, by unfold maxLen; omega, fun h0 => ⟨g, rfl, by rw [if_neg (by omega)]; simp [add_zero_addr]⟩⟩
  case cel E cs =>
    simp only at h
    cases hT : G T with
    | none => simp [hT] at h
    | some t =>
      have hok := (hG.ok T t hT).sh
      simp only [hT] at h
      cases hsh : t.sh <;> rw [hsh] at hok <;> simp only [hsh] at h
      case arr n E' =>
        simp only [shOk] at hok
        split at h <;> try (exact h.elim)
        rename_i t' ht'
        obtain ⟨hn, hlen, hR⟩ := bchk_iff.1 h
        have hn : n ≤ 1000000 := Nat.le_of_ble_eq_true hn
        refine ⟨_, hR, fun w S b v l hh m hd hl hhh hm => ?_⟩
        simp only [Rd] at hd
        obtain ⟨g, off, arr, fr, rfl, hS, hg, hL⟩ := hd
        cases l with
        | some _ => simp [RdO] at hl
        | none =>
          cases hh with
          | some _ => simp [RdO] at hhh
          | none =>
            cases m with
            | some _ => simp [RdO] at hm
            | none =>
              refine ⟨.slice (some (if n = 0 then ⟨g, off, none⟩ else (⟨g, off, none⟩ : Addr).add (0 * t'.size))) (n - 0) (n - 0), ?_, ?_⟩
              · simp [Instr.sliceAt, run_underlying hok, Instr.sureAddr, Instr.sliceBounds, sizeOf_run (hG.ok _ _ ht')]
              · simp only [Rd]
                refine ⟨_, _, rfl, Nat.le_refl _, by unfold maxLen; omega, fun _ => rfl, hlen, ?_⟩
                rcases Nat.eq_zero_or_pos n with h0 | h0
                · exact .inl (by omega)
                · right
                  rw [hlen] at hL
                  refine ⟨g, off, arr, fr, ?_, hS, hg, by simpa using hL⟩
                  rw [if_neg (by omega), Nat.zero_mul]
                  congr 1
  all_goals simp at h
def aLen (G : Tab) (T : Nat) (d : C) (R : C → Prop) : Prop :=
  match G T with
  | some t =>
    match t.sh, d with
    | .slice _, .sl _ _ n _ _ => R (.v (.int .i64 n))
    | .slice _, .own _ _ _ n => R (.v (.int .i64 n))
    | .slice _, .win _ _ _ n => R (.v (.int .i64 n))
    | .slice _, .sub _ _ _ _ n => R (.v (.int .i64 n))
    | .slice _, .v (.slice _ n _) => R (.v (.int .i64 n))
    | .string, .v (.string s) => R (.v (.int .i64 s.size))
    | .arr n _, _ => R (.v (.int .i64 n))
    | _, _ => False
  | none => False
theorem aLen_sound {P : Program} {G : Tab} (hG : TabOk P G) {T : Nat} {d : C} {R : C → Prop} (h : aLen G T d R) (ty : Nat) :
    ∃ r, R r ∧ ∀ (w : World) (S : Nat → Prop) (b : Names) (v : Value), Rd w S b d v → ∃ u, (Builtin.len_ #[T] ty #[v]).run P w = .ok u w ∧ Rd w S b r u := by
  unfold aLen at h
  cases hT : G T with
  | none => simp [hT] at h
  | some t =>
    have hok := (hG.ok T t hT).sh
    simp only [hT] at h
    cases hsh : t.sh <;> rw [hsh] at hok <;> simp only [hsh] at h
    case slice E =>
      simp only [shOk] at hok
      cases d
      case sl E' k n full cs =>
        refine ⟨_, h, fun w S b v hd => ?_⟩
        simp only [Rd] at hd
        obtain ⟨A, c, rfl, _⟩ := hd
        exact ⟨.int .i64 n, by simp [Builtin.len_, run_underlying hok, goInt], by simp only [Rd]⟩
      case own l E' k n =>
        refine ⟨_, h, fun w S b v hd => ?_⟩
        simp only [Rd] at hd
        obtain ⟨gg, c, _, _, rfl, _⟩ := hd
        exact ⟨.int .i64 n, by simp [Builtin.len_, run_underlying hok, goInt], by simp only [Rd]⟩
      case sub l E' k i n =>
        refine ⟨_, h, fun w S b v hd => ?_⟩
        simp only [Rd] at hd
        obtain ⟨a, c, A, c', _, rfl, _⟩ := hd
        exact ⟨.int .i64 n, by simp [Builtin.len_, run_underlying hok, goInt], by simp only [Rd]⟩
      case win l E' k n =>
        refine ⟨_, h, fun w S b v hd => ?_⟩
        simp only [Rd] at hd
        obtain ⟨gg, o, c, _, rfl, _⟩ := hd
        exact ⟨.int .i64 n, by simp [Builtin.len_, run_underlying hok, goInt], by simp only [Rd]⟩
      case v x =>
        cases x
        case slice A n c =>
          refine ⟨_, h, fun w S b v hd => ?_⟩
          simp only [Rd] at hd
          subst hd
          exact ⟨.int .i64 n, by simp [Builtin.len_, run_underlying hok, goInt], by simp only [Rd]⟩
        all_goals simp at h
      all_goals simp at h
    case string =>
      simp only [shOk] at hok
      cases d
      case v x =>
        cases x
        case string s =>
          refine ⟨_, h, fun w S b v hd => ?_⟩
          simp only [Rd] at hd
          subst hd
          exact ⟨.int .i64 s.size, by simp [Builtin.len_, run_underlying hok, goInt], by simp only [Rd]⟩
        all_goals simp at h
      all_goals simp at h
    case arr n E =>
      simp only [shOk] at hok
      refine ⟨_, h, fun w S b v hd => ?_⟩
      refine ⟨.int .i64 n, ?_, by simp only [Rd]⟩
      cases v <;> simp [Builtin.len_, run_underlying hok, goInt]
    all_goals (cases d <;> simp at h)
end El
namespace El
open Go Go.RowKit
def spl {α : Type} (cs : List α) (off : Nat) (ds : List α) : List α := cs.take off ++ (ds ++ cs.drop (off + ds.length))
theorem spl_length {α : Type} {cs ds : List α} {off : Nat} (h : off + ds.length ≤ cs.length) : (spl cs off ds).length = cs.length := by
  simp only [spl, List.length_append, List.length_take, List.length_drop]; omega
theorem fold_spl (us : List Value) (off : Nat) : ∀ (cs : Array Value) (j : Nat), off + j + us.length ≤ cs.size →
    ((us.zipIdx j).foldl (fun cs (x : Value × Nat) => cs.setIfInBounds (off + x.2) x.1) cs).toList = spl cs.toList (off + j) us := by
  induction us with
  | nil => intro cs j _; simp [spl]
  | cons u us ih =>
    intro cs j h
    simp only [List.length_cons] at h
    simp only [List.zipIdx_cons, List.foldl_cons]
    rw [ih (cs.setIfInBounds (off + j) u) (j + 1) (by simp; omega)]
    simp only [Array.toList_setIfInBounds, spl, List.length_cons]
    have hlt : off + j < cs.toList.length := by simp; omega
    have hl : (cs.toList.take (off + j)).length = off + j := by rw [List.length_take]; omega
    rw [List.set_eq_take_append_cons_drop, if_pos hlt, List.take_append, List.drop_append, hl, List.take_of_length_le (by omega), List.drop_eq_nil_of_le (by omega : (cs.toList.take (off + j)).length ≤ _)]
    rw [show off + (j + 1) - (off + j) = 1 by omega, show off + (j + 1) + us.length - (off + j) = us.length + 1 by omega]
    simp [List.drop_drop, show off + j + 1 + us.length = off + j + (us.length + 1) by omega]
def afill (place : Nat → Option (Nat × Nat)) (R : List C → Prop) : List C → List (Nat × C) → Prop
  | cs, [] => R cs
  | cs, (i, d) :: r => match place i with
    | none => False
    | some (off, size) => forceC d fun d => bchk (Nat.beq (cellsC d).length size && oneL (cellsC d) && Nat.ble (off + size) cs.length) (normL (spl cs off (cellsC d)) fun cs' => afill place R cs' r)
/-- Parts as they are read. -/
def RdP (w : World) (S : Nat → Prop) (b : Names) : List (Nat × C) → List (Nat × Value) → Prop
  | [], [] => True
  | (i, d) :: ds, (j, u) :: us => i = j ∧ Rd w S b d u ∧ RdP w S b ds us
  | _, _ => False
theorem RdL.spl {w : World} {S : Nat → Prop} {b : Names} {cs ds : List C} {us vs : List Value} {off : Nat} (h : RdL w S b cs us) (h2 : RdL w S b ds vs) :
    RdL w S b (El.spl cs off ds) (El.spl us off vs) := by
  unfold El.spl
  rw [h2.length]
  exact (h.take off).append (h2.append (h.drop _))
theorem afill_sound {place : Nat → Option (Nat × Nat)} {R : List C → Prop} : ∀ {parts : List (Nat × C)} {cs : List C}, afill place R cs parts →
    ∃ ds, R ds ∧ ds.length = cs.length ∧ ∀ (w : World) (S : Nat → Prop) (b : Names) (us : List Value) (ps : List (Nat × Value)), RdL w S b cs us → RdP w S b parts ps →
      ∃ us' : List Value, Instr.fill place us.toArray ps = some us'.toArray ∧ RdL w S b ds us'
  | [], cs, h => ⟨cs, h, rfl, fun w S b us ps hu hp => by
    cases ps with
    | nil => exact ⟨us, by simp [Instr.fill], hu⟩
    | cons p ps => simp [RdP] at hp⟩
  | (i, d) :: r, cs, h => by
    simp only [afill] at h
    cases hpl : place i with
    | none => simp [hpl] at h
    | some q =>
      obtain ⟨off, size⟩ := q
      simp only [hpl] at h
      rw [forceC_iff, bchk_iff, normL_iff] at h
      simp only [Bool.and_eq_true] at h
      obtain ⟨⟨⟨h1, h2⟩, h3⟩, h⟩ := h
      have h1' := Nat.eq_of_beq_eq_true h1
      have h3' := Nat.le_of_ble_eq_true h3
      obtain ⟨ds, hR, hlen, hs⟩ := afill_sound h
      refine ⟨ds, hR, hlen.trans (spl_length (by omega)), fun w S b us ps hu hp => ?_⟩
      cases ps with
      | nil => simp [RdP] at hp
      | cons p ps =>
        obtain ⟨j, u⟩ := p
        simp only [RdP] at hp
        obtain ⟨rfl, hd, hps⟩ := hp
        have hc := hd.cells h2
        have hcl := hc.length
        obtain ⟨us', hf, hr⟩ := hs w S b _ ps (hu.spl (off := off) hc) hps
        refine ⟨us', ?_, hr⟩
        have hul := hu.length
        have hsz : u.cells.size = size := by rw [← h1', hcl]; simp
        simp only [Instr.fill, hpl, hsz]
        rw [if_neg (by simp; omega)]
        rw [← hf]
        congr 1
        apply Array.toList_inj.1
        rw [← Array.foldl_toList, Array.toList_zipIdx, fold_spl u.cells.toList off us.toArray 0 (by simp; omega)]
        simp
def structPlace (G : Tab) (fs : List (Nat × Nat)) (i : Nat) : Option (Nat × Nat) :=
  match fs[i]? with
  | some (o, T) => match G T with
    | some t => some (o, t.size)
    | none => none
  | none => none
def aBuild (G : Tab) (T : Nat) (parts : List (Nat × C)) (R : C → Prop) : Prop :=
  match G T with
  | some t => match t.sh with
    | .struct fs => bchk (fs.all fun p => (G p.2).isSome) <| afill (structPlace G fs) (fun ds => R (.agg ds)) (t.zero.map .v) parts
    | .arr _ E => match G E with
      | some t' => afill (fun i => some (i * t'.size, t'.size)) (fun ds => R (.agg ds)) (t.zero.map .v) parts
      | none => False
    | _ => False
  | none => False
theorem RdL.vals {w : World} {S : Nat → Prop} {b : Names} : ∀ (us : List Value), RdL w S b (us.map .v) us
  | [] => by simp [RdL]
  | u :: us => by simp only [List.map_cons, RdL, Rd]; exact ⟨trivial, RdL.vals us⟩
theorem places_eq {P : Program} {G : Tab} (hG : TabOk P G) : ∀ (fields : List Field), (fields.all fun f => (G f.type).isSome) = true →
    fields.mapM (fun f => (P.info? f.type).map fun i => (f.offset, i.size)) = some (fields.map fun f => (f.offset, ((G f.type).map (·.size)).getD 0))
  | [], _ => rfl
  | f :: fs, h => by
    simp only [List.all_cons, Bool.and_eq_true] at h
    cases hf : G f.type with
    | none => rw [hf] at h; simp at h
    | some t =>
      obtain ⟨i, z, hi, hs, _⟩ := (hG.ok _ _ hf).info
      have ih := places_eq hG fs h.2
      simp [List.mapM_cons, ih, hi, hs, hf]
theorem aBuild_sound {P : Program} {G : Tab} (hG : TabOk P G) {T : Nat} {parts : List (Nat × C)} {R : C → Prop} (h : aBuild G T parts R) :
    ∃ r, R r ∧ ∀ (w : World) (S : Nat → Prop) (b : Names) (ps : List (Nat × Value)), RdP w S b parts ps → ∃ u, (Instr.build T ps.toArray).run P w = .ok u w ∧ Rd w S b r u := by
  unfold aBuild at h
  cases hT : G T with
  | none => simp [hT] at h
  | some t =>
    have hok := (hG.ok T t hT).sh
    obtain ⟨i, z, hi, _, _, hz, hzl⟩ := (hG.ok T t hT).info
    have hza : z.cells = t.zero.toArray := by rw [← hzl]
    simp only [hT] at h
    cases hsh : t.sh <;> rw [hsh] at hok <;> simp only [hsh] at h
    case struct fs =>
      obtain ⟨fields, hu, hm⟩ := hok
      obtain ⟨hall, h⟩ := bchk_iff.1 h
      obtain ⟨ds, hR, _, hs⟩ := afill_sound h
      refine ⟨_, hR, fun w S b ps hp => ?_⟩
      obtain ⟨us', hf, hr⟩ := hs w S b t.zero ps (RdL.vals _) hp
      refine ⟨.agg us'.toArray, ?_, by simp only [Rd]; exact ⟨us', rfl, hr⟩⟩
      refine run_build w T _ _ ?_
      have hall' : (fields.toList.all fun f => (G f.type).isSome) = true := by rw [← hm, List.all_map] at hall; exact hall
      have hpl := places_eq hG fields.toList hall'
      simp only [Program.built, hi, hu, hz, hpl, hza]
      rw [← hf]
      congr 1
      funext x
      simp only [structPlace, ← hm, List.getElem?_map, List.getElem?_toArray]
      cases hx : fields.toList[x]? with
      | none => simp
      | some f =>
        have hmem := List.mem_of_getElem? hx
        have := List.all_eq_true.1 hall' f hmem
        cases hf' : G f.type with
        | none => rw [hf'] at this; simp at this
        | some t' => simp [hf']
    case arr n E =>
      cases hE : G E with
      | none => simp [hE] at h
      | some t' =>
        simp only [hE] at h
        obtain ⟨ds, hR, _, hs⟩ := afill_sound h
        refine ⟨_, hR, fun w S b ps hp => ?_⟩
        obtain ⟨us', hf, hr⟩ := hs w S b t.zero ps (RdL.vals _) hp
        refine ⟨.agg us'.toArray, ?_, by simp only [Rd]; exact ⟨us', rfl, hr⟩⟩
        refine run_build w T _ _ ?_
        obtain ⟨i', z', hi', hs', _⟩ := (hG.ok E t' hE).info
        simp only [shOk] at hok
        simp only [Program.built, hi, hok, hz, hi', hza, hs']
        exact hf
end El
namespace El
open Go Go.RowKit
/-! ### New blocks -/
theorem Below.allocNew (w : World) (o : Obj) : Below w.heap.size w (w.alloc o) := (Below.refl _ _).alloc (Nat.le_refl _) _
theorem keep_alloc {g : Ghost} {b : Names} {bx : Bxs} {w : World} {S' : Nat → Prop} {o : Obj} (hS : ∀ x, x < w.heap.size → ¬ Mut g.S0 b bx x → ¬ S' x) :
    ∀ x, x < w.heap.size → ¬ Mut g.S0 b bx x → (w.alloc o).heap[x]? = w.heap[x]? ∧ ¬ S' x :=
  fun x hx hn => ⟨(Below.allocNew w o).block x hx, hS x hx hn⟩
/-- A value goes into a new variable. -/
theorem y_box {g : Ghost} {b : Names} {bx : Bxs} {w : World} {l c E : Nat} {d : C} {v : Value} (h : Mem g b bx w) (hl : b l = none) (hone : oneL (cellsC d) = true)
    (hd : Rd w (Mut g.S0 b bx) b d v) : YPost g b bx [(l, .cells E c (cellsC d))] w (.ptr l 0) (.pointer (some ⟨w.heap.size, 0, none⟩)) (w.alloc (.cells v.cells E)) := by
  refine YPost.alloc (c := c) h hl (fun b' S' hk hs hS => ?_) (fun b' S' hk hs hS => ?_)
  · simp only [BxAt]
    have hr := (hd.cells hone).keep (keep_alloc (o := .cells v.cells E) hS) hk
    exact ⟨w.heap.size, v.cells, hs, heap_alloc_new w _, hr.one hone, hr⟩
  · simp only [Rd]
    exact ⟨w.heap.size, c, hs, rfl⟩
def capOf : Sh → Nat
  | .arr n _ => n
  | _ => 0
theorem oneL_vals : ∀ (us : List Value), (∀ u ∈ us, Value.oneCell' u = true) → oneL (us.map C.v) = true
  | [], _ => rfl
  | u :: us, h => by simp only [List.map_cons, oneL, one1, Bool.and_eq_true]; exact ⟨h u (List.mem_cons_self ..), oneL_vals us fun x hx => h x (List.mem_cons_of_mem _ hx)⟩
theorem y_alloc {P : Program} {T : Nat} {t : TI} (hT : TOk P T t) {g : Ghost} {b : Names} {bx : Bxs} {w : World} {l c : Nat} (h : Mem g b bx w) (hl : b l = none) :
    ∃ u w', (Instr.alloc T true (.tuple #[])).run P w = .ok u w' ∧ YPost g b bx [(l, .cells T c (t.zero.map .v))] w (.ptr l 0) u w' := by
  obtain ⟨z, hz, hzl⟩ := zeroValue_run hT w
  refine ⟨.pointer (some ⟨w.heap.size, 0, none⟩), w.alloc (.cells z.cells T), ?_, ?_⟩
  · simp [Instr.alloc, hz, newVar, newRow]
  · refine YPost.alloc (c := c) h hl (fun b' S' hk hs hS => ?_) (fun b' S' hk hs hS => ?_)
    · simp only [BxAt]
      have hr : RdL (w.alloc (.cells z.cells T)) S' b' (t.zero.map .v) z.cells.toList := by rw [hzl]; exact RdL.vals _
      exact ⟨w.heap.size, z.cells, hs, heap_alloc_new w _, hr.one (oneL_vals _ hT.zone), hr⟩
    · simp only [Rd]
      exact ⟨w.heap.size, c, hs, rfl⟩
/-- A new block that nobody will turn reads as a slice. -/
theorem y_fresh {g : Ghost} {b : Names} {bx : Bxs} {w : World} {E k n : Nat} {ds : List C} {us : List Value} (h : Mem g b bx w) (hn : noNameL ds = true) (hlen : ds.length = n * k) (hm : n ≤ maxLen)
    (hd : RdL w (Mut g.S0 b bx) b ds us) : YPost g b bx [] w (.sl E k n true ds) (.slice (some ⟨w.heap.size, 0, none⟩) n n) (w.alloc (.cells us.toArray E)) := by
  have hbel := Below.allocNew w (.cells us.toArray E)
  refine YPost.plain h hbel ?_
  simp only [Rd]
  refine ⟨_, n, rfl, Nat.le_refl _, hm, fun _ => rfl, hlen, .inr ⟨w.heap.size, 0, us.toArray, (_, (0, 0)), rfl, fun hM => by have := h.mut_lt hM; omega, heap_alloc_new w _, ?_⟩⟩
  have hr := (hd.anyNames (b' := noN) hn).keep (w' := w.alloc (.cells us.toArray E)) (S' := Mut g.S0 b bx) (keep_alloc (o := .cells us.toArray E) fun _ _ h => h) (fun _ _ h => h)
  rw [List.drop_zero, List.take_of_length_le (by simp [← hd.length, hlen])]
  simpa using hr
def aBuildSlice (G : Tab) (T n : Nat) (parts : List (Nat × C)) (R : C → Prop) : Prop :=
  match G T with
  | some t => match t.sh with
    | .slice E => match G E with
      | some t' => bchk (Nat.ble (n * t'.size) 16777216 && Nat.ble n 16777216) <| afill (fun i => some (i * t'.size, t'.size)) (fun ds => bchk (noNameL ds) (R (.sl E t'.size n true ds))) (List.replicate (n * t'.size) .any) parts
      | none => False
    | _ => False
  | none => False
theorem RdL.anys {w : World} {S : Nat → Prop} {b : Names} : ∀ (us : List Value), RdL w S b (List.replicate us.length .any) us
  | [] => by simp [RdL]
  | u :: us => by simp only [List.length_cons, List.replicate_succ, RdL, Rd]; exact ⟨trivial, RdL.anys us⟩
theorem aBuildSlice_sound {P : Program} {G : Tab} (hG : TabOk P G) {T n : Nat} {parts : List (Nat × C)} {R : C → Prop} (h : aBuildSlice G T n parts R) :
    ∃ r, R r ∧ ∀ (g : Ghost) (b : Names) (bx : Bxs) (w : World) (ps : List (Nat × Value)), Mem g b bx w → RdP w (Mut g.S0 b bx) b parts ps →
      ∃ u w', (Instr.buildSlice T n ps.toArray).run P w = .ok u w' ∧ YPost g b bx [] w r u w' := by
  unfold aBuildSlice at h
  cases hT : G T with
  | none => simp [hT] at h
  | some t =>
    have hok := (hG.ok T t hT).sh
    simp only [hT] at h
    cases hsh : t.sh <;> rw [hsh] at hok <;> simp only [hsh] at h
    case slice E =>
      simp only [shOk] at hok
      cases hE : G E with
      | none => simp [hE] at h
      | some t' =>
        simp only [hE] at h
        obtain ⟨hle, h⟩ := bchk_iff.1 h
        simp only [Bool.and_eq_true] at hle
        have hle1 := Nat.le_of_ble_eq_true hle.1
        have hle2 := Nat.le_of_ble_eq_true hle.2
        obtain ⟨ds, hnR, hlen, hs⟩ := afill_sound h
        obtain ⟨hn, hR⟩ := bchk_iff.1 hnR
        simp only [List.length_replicate] at hlen
        refine ⟨_, hR, fun g b bx w ps hm hp => ?_⟩
        obtain ⟨i, z, hi, hi1, _, hz, _⟩ := (hG.ok E t' hE).info
        have hrun : ∀ (cells : Array Value), cells.size = n * t'.size → ∃ us' : List Value, Instr.fill (fun i => some (i * t'.size, t'.size)) cells ps = some us'.toArray ∧ RdL w (Mut g.S0 b bx) b ds us' := by
          intro cells hc
          refine hs w _ b cells.toList ps ?_ hp
          rw [← hc, ← Array.length_toList]
          exact RdL.anys _
        have h24 : ¬ (n * t'.size > 2 ^ 24) := by omega
        by_cases h0 : n * t'.size = 0
        · obtain ⟨us', hf, hr⟩ := hrun ((Array.range (n * t'.size)).map fun i => (#[] : Array Value)[i % (#[] : Array Value).size]!) (by simp)
          refine ⟨_, _, ?_, y_fresh hm hn hlen (by unfold maxLen; omega) hr⟩
          simp only [Instr.buildSlice, Sem.run_bind, run_underlying hok, Result.andThen_ok, sizeOf_run (hG.ok _ _ hE), if_neg h24, if_pos h0, Sem.run_pure, newRow]
          rw [hf]
          simp
        · obtain ⟨us', hf, hr⟩ := hrun ((Array.range (n * t'.size)).map fun i => z.cells[i % z.cells.size]!) (by simp)
          refine ⟨_, _, ?_, y_fresh hm hn hlen (by unfold maxLen; omega) hr⟩
          have hzr : (zeroValue E).run P w = .ok z w := by simp [zeroValue, typeInfo, hi, hz]
          simp only [Instr.buildSlice, Sem.run_bind, run_underlying hok, Result.andThen_ok, sizeOf_run (hG.ok _ _ hE), if_neg h24, if_neg h0, Sem.run_pure, newRow, hzr]
          rw [hf]
          simp
    all_goals simp at h
/-- An empty row of one's own. -/
def aBuild0 (G : Tab) (T dst : Nat) (R : C → Bxs → Prop) : Prop :=
  match G T with
  | some t => match t.sh with
    | .slice E => match G E with
      | some t' => R (.own dst E t'.size 0) [(dst, .row E t'.size 0 [])]
      | none => False
    | _ => False
  | none => False
theorem aBuild0_sound {P : Program} {G : Tab} (hG : TabOk P G) {T dst : Nat} {R : C → Bxs → Prop} (h : aBuild0 G T dst R) :
    ∃ r nb, R r nb ∧ ∀ (g : Ghost) (b : Names) (bx : Bxs) (w : World), Mem g b bx w → (∀ p, p ∈ nb → b p.1 = none) →
      ∃ u w', (Instr.buildSlice T 0 #[]).run P w = .ok u w' ∧ YPost g b bx nb w r u w' := by
  unfold aBuild0 at h
  cases hT : G T with
  | none => simp [hT] at h
  | some t =>
    have hok := (hG.ok T t hT).sh
    simp only [hT] at h
    cases hsh : t.sh <;> rw [hsh] at hok <;> simp only [hsh] at h
    case slice E =>
      simp only [shOk] at hok
      cases hE : G E with
      | none => simp [hE] at h
      | some t' =>
        simp only [hE] at h
        refine ⟨_, _, h, fun g b bx w hm hfr => ?_⟩
        refine ⟨.slice (some ⟨w.heap.size, 0, none⟩) 0 0, w.alloc (.cells #[] E), ?_, YPost.alloc (c := 0) hm (hfr _ (List.mem_singleton.2 rfl)) (fun b' S' hk hs hS => ?_) (fun b' S' hk hs hS => ?_)⟩
        · simp [Instr.buildSlice, run_underlying hok, sizeOf_run (hG.ok _ _ hE), newRow, Instr.fill]
          congr 2
          apply Array.toList_inj.1
          simp
        · simp only [BxAt]
          exact ⟨some w.heap.size, 0, hs, Nat.le_refl _, Nat.zero_le _, by simp, #[], heap_alloc_new w _, by simp, by intro u hu; simp at hu, by simp [RdL]⟩
        · simp only [Rd]
          exact ⟨some w.heap.size, 0, hs, (fun h => by cases h), rfl, Nat.le_refl _, by unfold maxLen; omega⟩
    all_goals simp at h
/-! ### make -/
/-- n zero elements. -/
def zrow (t : TI) (n : Nat) : List C := (List.replicate n (t.zero.map .v)).flatten
theorem madeCells_succ (z : Array Value) (n : Nat) : (madeCells z ((n + 1) * z.size)).toList = z.toList ++ (madeCells z (n * z.size)).toList := by
  unfold madeCells
  simp only [Array.toList_map, Array.toList_range]
  rw [Nat.succ_mul, Nat.add_comm, List.range_add, List.map_append, List.map_map]
  congr 1
  · apply List.ext_getElem
    · simp
    · intro i h1 h2
      simp only [List.length_map, List.length_range] at h1
      simp [Nat.mod_eq_of_lt h1, h1]
  · apply List.map_congr_left
    intro i _
    simp
theorem zrow_made {P : Program} {E : Nat} {t : TI} (hE : TOk P E t) {z : Value} (hz : z.cells.toList = t.zero) (hs : 0 < t.size) : ∀ n, (madeCells z.cells (n * t.size)).toList.map C.v = zrow t n
  | 0 => by simp [madeCells, zrow]
  | n + 1 => by
    have hsz : z.cells.size = t.size := by rw [← hE.zlen, ← hz]; simp
    have := madeCells_succ z.cells n
    rw [hsz] at this
    rw [this, List.map_append, zrow_made hE hz hs n, hz]
    simp [zrow, List.replicate_succ]
theorem madeCells_take (z : Array Value) (m n : Nat) (h : n ≤ m) : (madeCells z m).toList.take n = (madeCells z n).toList := by
  unfold madeCells
  simp only [Array.toList_map, Array.toList_range, ← List.map_take]
  rw [List.take_range, Nat.min_eq_left h]
theorem oneL_append : ∀ {a b : List C}, oneL a = true → oneL b = true → oneL (a ++ b) = true
  | [], _, _, h => by simpa using h
  | _ :: a, _, h1, h2 => by
    simp only [oneL, Bool.and_eq_true] at h1
    simp only [List.cons_append, oneL, Bool.and_eq_true]
    exact ⟨h1.1, oneL_append h1.2 h2⟩
theorem zrow_one {P : Program} {E : Nat} {t : TI} (hE : TOk P E t) : ∀ n, oneL (zrow t n) = true
  | 0 => rfl
  | n + 1 => by
    have := zrow_one hE n
    simp only [zrow, List.replicate_succ, List.flatten_cons] at this ⊢
    exact oneL_append (oneL_vals _ hE.zone) this
def aMake (G : Tab) (T dst : Nat) (dl dc : C) (R : C → Bxs → Prop) : Prop :=
  match G T with
  | some t => match t.sh with
    | .slice E => match G E, dl, dc with
      | some t', .v (.int _ l), .v (.int _ c) => bchk (Nat.blt 0 t'.size) <| ∃ n m : Nat, (l = (n : Int) ∧ c = (m : Int) ∧ n ≤ m ∧ t'.bytes * m ≤ 281474976710656 ∧ m ≤ 9223372036854775807) ∧
          R (.own dst E t'.size n) [(dst, .row E t'.size n (zrow t' n))]
      | _, _, _ => False
    | _ => False
  | none => False
theorem aMake_sound {P : Program} {G : Tab} (hG : TabOk P G) {T dst : Nat} {dl dc : C} {R : C → Bxs → Prop} (h : aMake G T dst dl dc R) :
    ∃ r nb, R r nb ∧ ∀ (g : Ghost) (b : Names) (bx : Bxs) (w : World) (vl vc : Value), Mem g b bx w → (∀ p, p ∈ nb → b p.1 = none) → Rd w (Mut g.S0 b bx) b dl vl → Rd w (Mut g.S0 b bx) b dc vc →
      ∃ u w', (Instr.makeSlice T vl vc).run P w = .ok u w' ∧ YPost g b bx nb w r u w' := by
  unfold aMake at h
  cases hT : G T with
  | none => simp [hT] at h
  | some t =>
    have hok := (hG.ok T t hT).sh
    simp only [hT] at h
    cases hsh : t.sh <;> rw [hsh] at hok <;> simp only [hsh] at h
    case slice E =>
      simp only [shOk] at hok
      cases hE : G E with
      | none => simp [hE] at h
      | some t' =>
        simp only [hE] at h
        have hEok := hG.ok E t' hE
        obtain ⟨i, z, hi, hi1, hi2, hz, hzl⟩ := hEok.info
        cases dl
        case v xl =>
          cases xl
          case int kl l =>
            cases dc
            case v xc =>
              cases xc
              case int kc c =>
                obtain ⟨hpos, n, m, ⟨rfl, rfl, hnm, hby, h63⟩, hR⟩ := bchk_iff.1 h
                have hpos : 0 < t'.size := Nat.le_of_ble_eq_true hpos
                refine ⟨_, _, hR, fun g b bx w vl vc hm hfr hl hc => ?_⟩
                simp only [Rd] at hl hc
                subst hl; subst hc
                have hb : ((i.bytes : Nat) : Int) * (m : Int) ≤ 281474976710656 := by
                  rw [hi2, ← Int.natCast_mul]; omega
                have hr := run_make (P := P) w T E i z hok hi hz kl kc n m (by omega) (by omega) hb (by omega)
                simp only [Int.toNat_natCast, hi1] at hr
                refine ⟨_, _, hr, YPost.alloc (c := m) hm (hfr _ (List.mem_singleton.2 rfl)) (fun b' S' hk hs hS => ?_) (fun b' S' hk hs hS => ?_)⟩
                · simp only [BxAt]
                  have hle : n * t'.size ≤ m * t'.size := Nat.mul_le_mul_right _ hnm
                  have hrd : RdL (w.alloc (.cells (madeCells z.cells (m * t'.size)) E)) S' noN (zrow t' n) ((madeCells z.cells (m * t'.size)).toList.take (n * t'.size)) := by
                    rw [madeCells_take _ _ _ hle, ← zrow_made hEok hzl hpos n]
                    exact RdL.vals _
                  refine ⟨some w.heap.size, m, hs, hnm, by unfold maxLen; omega, ?_, _, heap_alloc_new w _, size_madeCells _ _, hrd.one (zrow_one hEok n), hrd⟩
                  rw [hrd.length, List.length_take]
                  simp [size_madeCells, Nat.min_eq_left hle]
                · simp only [Rd]
                  exact ⟨some w.heap.size, m, hs, (fun h => by cases h), rfl, hnm, by unfold maxLen; omega⟩
              all_goals simp at h
            all_goals simp at h
          all_goals simp at h
        all_goals simp at h
    all_goals simp at h
/-! ### Functions -/
def FnOk (P : Program) (f : Nat) : Prop := ∃ fn, P.funcs[f]? = some fn ∧ (fn.name == "runtime.NumGoroutine") = false ∧ fn.body.isNone = false
/-- A function that turns nothing that was there: called with what reads as args it comes back with what reads as r. -/
def FSpec (P : Program) (f : Nat) (args : List C) (r : C) : Prop :=
  FnOk P f ∧ ∀ (w : World) (S : Nat → Prop) (vs : List Value), (∀ g, S g → g < w.heap.size) → RdL w S noN args vs →
    Calls P f vs.toArray w fun e w' => ∃ v, e = .returned v ∧ Below w.heap.size w w' ∧ Rd w' S noN r v
def SubL (ds ds' : List C) : Prop := ∀ (w : World) (S : Nat → Prop) (b : Names) (vs : List Value), RdL w S b ds vs → RdL w S noN ds' vs
theorem SubL.of {ds : List C} (h : noNameL ds = true) : SubL ds ds := fun _ _ _ _ hr => hr.anyNames h
theorem FnOk.run {P : Program} {f : Nat} (h : FnOk P f) (args : Array Value) (w : World) : (callFunc f args).run P w = .ok (.enter f args) w := by
  obtain ⟨fn, h1, h2, h3⟩ := h
  simp only [callFunc, Sem.run_bind, Go.run_program, Result.andThen_ok, h1, h2, h3, Bool.false_eq_true, if_false, Sem.run_pure]
theorem FSpec.runs {P : Program} {f : Nat} {args ds : List C} {r : C} (h : FSpec P f args r) (hs : SubL ds args) {g : Ghost} {b : Names} {bx : Bxs} {w : World} {vs : List Value} (hm : Mem g b bx w)
    (hr : RdL w (Mut g.S0 b bx) b ds vs) : Runs P (YPost g b bx [] w r) ((callFunc f vs.toArray).run P w) := by
  rw [h.1.run]
  simp only [Runs]
  refine (h.2 w (Mut g.S0 b bx) vs (fun _ hx => hm.mut_lt hx) (hs _ _ _ _ hr)).mono ?_
  rintro e w' ⟨v, rfl, hb, hd⟩
  exact ⟨v, rfl, YPost.plain hm hb (hd.keep (fun _ _ hx => ⟨rfl, hx⟩) fun _ _ hx => by cases hx)⟩
end El
namespace El
open Go Go.RowKit
def bcase (p : Bool) (A B : Prop) : Prop :=
  match p with
  | true => A
  | false => B
theorem bcase_intro {p : Bool} {A B : Prop} (h1 : p = true → A) (h2 : p = false → B) : bcase p A B := by
  cases p
  · exact h2 rfl
  · exact h1 rfl
def sameKind : IntKind → IntKind → Bool
  | .i8, .i8 | .i16, .i16 | .i32, .i32 | .i64, .i64 | .u8, .u8 | .u16, .u16 | .u32, .u32 | .u64, .u64 => true
  | _, _ => false
theorem sameKind_eq {k k' : IntKind} (h : sameKind k k' = true) : k = k' := by cases k <;> cases k' <;> first | rfl | (exact absurd h (by decide))
def aBin (G : Tab) (op : BinOp) (T : Nat) (x y : C) (R : C → Prop) : Prop :=
  match x, y with
  | .v (.int k m), .v (.int k' n) => (match op with
    | .shl => ashift .shl k m n (fun u => R (.v u))
    | .shr => ashift .shr k m n (fun u => R (.v u))
    | op => bchk (sameKind k k') (abinI op k m n (fun u => R (.v u))))
  | .v (.bool p), .v (.bool q) => (match op, (G T).map TI.sh with
    | .eql, some .bool => R (.v (.bool (p == q)))
    | .neq, some .bool => R (.v (.bool (!(p == q))))
    | _, _ => False)
  | .v (.string s), .v (.string t) => abinS op s t (fun u => R (.v u))
  | _, _ => False
def aUn (op : UnOp) (x : C) (R : C → Prop) : Prop :=
  match op, x with
  | .not, .v (.bool p) => R (.v (.bool !p))
  | .neg, .v (.int k n) => ∃ r, k.wrap (0 - n) = r ∧ R (.v (.int k r))
  | .xor, .v (.int k n) => ∃ r, k.wrap (BitVec.ofInt k.bits (if k.signed then -1 else k.max) ^^^ BitVec.ofInt k.bits n).toNat = r ∧ R (.v (.int k r))
  | _, _ => False
def aMaxMin (mx : Bool) (x y : C) (R : C → Prop) : Prop :=
  match x, y with
  | .v (.int k m), .v (.int _ n) => ∃ r, (if mx then (if n > m then n else m) else (if n < m then n else m)) = r ∧ R (.v (.int k r))
  | _, _ => False
def aCall (P : Program) (G : Tab) (c : Call) (ev : Operand → C) (R : C → Prop) : Prop :=
  match c.callee with
  | .value f => (match ev f with
    | .fn f caps => cargs (c.args.toList.map ev) caps fun L => ∃ args' r, FSpec P f args' r ∧ SubL L args' ∧ R r
    | _ => False)
  | .builtin .len => (match c.args.toList, c.argTypes.toList with
    | [x], [T] => aLen G T (ev x) R
    | _, _ => False)
  | .builtin .max => (match c.args.toList with
    | [x, y] => aMaxMin true (ev x) (ev y) R
    | _ => False)
  | .builtin .min => (match c.args.toList with
    | [x, y] => aMaxMin false (ev x) (ev y) R
    | _ => False)
  | _ => False
def ares (P : Program) (G : Tab) (o : Oper) (ev : Operand → C) (bx : Bxs) (R : C → Bxs → Prop) : Prop :=
  match o.op with
  | .move x => R (ev x) []
  | .assign x => R (ev x) []
  | .pick c a b => (match ev c with
    | .v (.bool p) => bcase p (R (ev a) []) (R (ev b) [])
    | _ => False)
  | .alloc T => (match o.dst, G T with
    | some l, some t => R (.ptr l 0) [(l, .cells T (capOf t.sh) (t.zero.map .v))]
    | _, _ => False)
  | .box T x => (match o.dst, G T with
    | some l, some t => forceC (ev x) fun d => bchk (oneL (cellsC d)) (R (.ptr l 0) [(l, .cells T (capOf t.sh) (cellsC d))])
    | _, _ => False)
  | .build T parts => aBuild G T (parts.toList.map fun p => (p.1, ev p.2)) (fun d => R d [])
  | .buildSlice T n parts => aBuildSlice G T n (parts.toList.map fun p => (p.1, ev p.2)) (fun d => R d [])
  | .load T a => aload G T bx (ev a) (fun d => R d [])
  | .nilCheck x => (match ev x with
    | .ptr l off => R (.ptr l off) []
    | .cel E cs => R (.cel E cs) []
    | .fn f cs => R (.fn f cs) []
    | _ => False)
  | .binOp op T x y _ => aBin G op T (ev x) (ev y) (fun d => R d [])
  | .unOp op _ x => aUn op (ev x) (fun d => R d [])
  | .convert s d x => (match ev x, (G d).map TI.sh with
    | .v (.int _ n), some (.int k) => bchk (G s).isSome (∃ r, k.wrap n = r ∧ R (.v (.int k r)) [])
    | _, _ => False)
  | .extract x i => (match ev x with
    | .tup ds => ∃ d, ds[i]? = some d ∧ R d []
    | _ => False)
  | .fieldAddr S x f => aFieldAddr G S f (ev x) (fun d => R d [])
  | .field S x f => aField G S f (ev x) (fun d => R d [])
  | .indexAddr T x i => (match ev i with
    | .v (.int _ j) => aIndexAddr G T (ev x) j (fun d => R d [])
    | _ => False)
  | .index T x i => (match ev i with
    | .v (.int _ j) => aIndex G T (ev x) j (fun d => R d [])
    | _ => False)
  | .slice T x lo hi mx => aSlice G T (ev x) (lo.map ev) (hi.map ev) (mx.map ev) (fun d => R d [])
  | .makeSlice T l c => (match o.dst with
    | some dst => aMake G T dst (ev l) (ev c) R
    | none => False)
  | .makeFunc fn first caps => (match fn, first.toList with
    | .func f, [] => bchk (oneL (caps.toList.map ev)) (R (.fn f (caps.toList.map ev)) [])
    | .func f, x :: bs => (match caps.toList with
      | [] => R (.fn f [.tup (ev x :: bs.map ev)]) []
      | _ => False)
    | _, _ => False)
  | .call c => aCall P G c ev (fun d => R d [])
  | _ => False
/-- One operation, at whatever operands read so. -/
def OpY (P : Program) (o : Oper) (ev : Operand → C) (bx : Bxs) (r : C) (nb : Bxs) : Prop :=
  ∀ (g : Ghost) (b : Names) (bx' : Bxs) (w : World) (ρ : Operand → Value), Sub bx bx' → Mem g b bx' w → (∀ p, p ∈ nb → b p.1 = none) → (∀ x, x ∈ o.op.operands → Rd w (Mut g.S0 b bx') b (ev x) (ρ x)) →
    Runs P (YPost g b bx' nb w r) ((execOp ρ o).run P w)
theorem eqGuard_int {P : Program} {op : BinOp} {T : Nat} {x y : Operand} {k : IntKind} {m : Int} {v : Value} (w : World) : (eqGuard op T x y (.int k m) v).run P w = .ok () w := by
  unfold eqGuard; split <;> simp
theorem eqGuard_bool {P : Program} {op : BinOp} {T : Nat} {x y : Operand} {m : Bool} {v : Value} (w : World) : (eqGuard op T x y (.bool m) v).run P w = .ok () w := by
  unfold eqGuard; split <;> simp
theorem eqGuard_string {P : Program} {op : BinOp} {T : Nat} {x y : Operand} {m : ByteArray} {v : Value} (w : World) : (eqGuard op T x y (.string m) v).run P w = .ok () w := by
  unfold eqGuard; split <;> simp
/-- What a pure result gives. -/
theorem OpY.ofPure {P : Program} {o : Oper} {ev : Operand → C} {bx : Bxs} {r : C}
    (h : ∀ (g : Ghost) (b : Names) (bx' : Bxs) (w : World) (ρ : Operand → Value), Sub bx bx' → Mem g b bx' w → (∀ x, x ∈ o.op.operands → Rd w (Mut g.S0 b bx') b (ev x) (ρ x)) →
      ∃ u, (execOp ρ o).run P w = .ok (.value u) w ∧ Rd w (Mut g.S0 b bx') b r u) : OpY P o ev bx r [] := by
  intro g b bx' w ρ hsub hm _ hr
  obtain ⟨u, h1, h2⟩ := h g b bx' w ρ hsub hm hr
  rw [h1]
  exact YPost.plain hm (Below.refl _ _) h2
theorem aBin_sound {P : Program} {G : Tab} (hG : TabOk P G) {op : BinOp} {T : Nat} {x y : C} {R : C → Prop} (h : aBin G op T x y R) :
    ∃ r, R r ∧ ∀ (w : World) (S : Nat → Prop) (b : Names) (u v : Value) (ox oy : Operand), Rd w S b x u → Rd w S b y v →
      ∃ t, (do eqGuard op T ox oy u v; binOp op T u v : Sem Value).run P w = .ok t w ∧ Rd w S b r t := by
  unfold aBin at h
  cases x
  case v xv =>
    cases y
    case v yv =>
      have key : (∃ t, R (.v t) ∧ (∀ w, (binOp op T xv yv).run P w = .ok t w) ∧ ∀ (w : World) ox oy, (eqGuard op T ox oy xv yv).run P w = .ok () w) →
          ∃ r, R r ∧ ∀ (w : World) (S : Nat → Prop) (b : Names) (u v : Value) (ox oy : Operand), Rd w S b (.v xv) u → Rd w S b (.v yv) v →
            ∃ t, (do eqGuard op T ox oy u v; binOp op T u v : Sem Value).run P w = .ok t w ∧ Rd w S b r t := by
        rintro ⟨t, hR, h1, h2⟩
        refine ⟨_, hR, fun w S b u v ox oy hu hv => ?_⟩
        simp only [Rd] at hu hv
        subst hu; subst hv
        exact ⟨t, by simp only [Sem.run_bind, h2 w, Result.andThen_ok, h1 w], by simp only [Rd]⟩
      apply key
      cases xv
      case int k m =>
        cases yv
        case int k' n =>
          simp only at h
          split at h
          · obtain ⟨r, h1, h2⟩ := ashift_sound (P := P) (j := k') h T
            exact ⟨r, h1, h2, fun w ox oy => eqGuard_int w⟩
          · obtain ⟨r, h1, h2⟩ := ashift_sound (P := P) (j := k') h T
            exact ⟨r, h1, h2, fun w ox oy => eqGuard_int w⟩
          · obtain ⟨hk, h'⟩ := bchk_iff.1 h
            clear h
            have := sameKind_eq hk
            subst this
            obtain ⟨r, h1, h2⟩ := abinI_sound (P := P) h' T
            exact ⟨r, h1, h2, fun w ox oy => eqGuard_int w⟩
        all_goals simp at h
      case bool p =>
        cases yv
        case bool q =>
          simp only at h
          split at h
          · rename_i hs
            cases hT : G T with
            | none => rw [hT] at hs; simp at hs
            | some t =>
              have hok := (hG.ok T t hT).sh
              rw [hT] at hs
              simp only [Option.map_some, Option.some.injEq] at hs
              rw [hs] at hok
              exact ⟨_, h, fun w => run_eql_bool w T p q hok, fun w ox oy => eqGuard_bool w⟩
          · rename_i hs
            cases hT : G T with
            | none => rw [hT] at hs; simp at hs
            | some t =>
              have hok := (hG.ok T t hT).sh
              rw [hT] at hs
              simp only [Option.map_some, Option.some.injEq] at hs
              rw [hs] at hok
              exact ⟨_, h, fun w => run_neq_bool w T p q hok, fun w ox oy => eqGuard_bool w⟩
          · exact h.elim
        all_goals simp at h
      case string s =>
        cases yv
        case string t =>
          simp only at h
          obtain ⟨r, h1, h2⟩ := abinS_sound (P := P) h T
          exact ⟨r, h1, h2, fun w ox oy => eqGuard_string w⟩
        all_goals simp at h
      all_goals simp at h
    all_goals simp at h
  all_goals simp at h
theorem OpY.one {P : Program} {o : Oper} {ev : Operand → C} {bx : Bxs} {r : C} {x : Operand} {f : Value → Sem Value} (hx : x ∈ o.op.operands)
    (hf : ∀ ρ : Operand → Value, execOp ρ o = (do pure (.value (← f (ρ x))) : Sem Next)) (h : PureY P bx (ev x) f r) : OpY P o ev bx r [] :=
  OpY.ofPure fun g b bx' w ρ hsub hm hr => by
    obtain ⟨u, h1, h2⟩ := h g b bx' w (ρ x) hsub hm (hr x hx)
    exact ⟨u, by rw [hf]; simp only [Sem.run_bind, h1, Result.andThen_ok, Sem.run_pure], h2⟩
theorem RdP.of {w : World} {S : Nat → Prop} {b : Names} {ev : Operand → C} {ρ : Operand → Value} : ∀ (l : List (Nat × Operand)), (∀ p, p ∈ l → Rd w S b (ev p.2) (ρ p.2)) →
    RdP w S b (l.map fun p => (p.1, ev p.2)) (l.map fun p => (p.1, ρ p.2))
  | [], _ => by simp [RdP]
  | p :: l, h => by
    simp only [List.map_cons, RdP]
    exact ⟨trivial, h p (List.mem_cons_self ..), RdP.of l fun q hq => h q (List.mem_cons_of_mem _ hq)⟩
theorem RdL.of {w : World} {S : Nat → Prop} {b : Names} {ev : Operand → C} {ρ : Operand → Value} : ∀ (l : List Operand), (∀ p, p ∈ l → Rd w S b (ev p) (ρ p)) → RdL w S b (l.map ev) (l.map ρ)
  | [], _ => by simp [RdL]
  | p :: l, h => by
    simp only [List.map_cons, RdL]
    exact ⟨h p (List.mem_cons_self ..), RdL.of l fun q hq => h q (List.mem_cons_of_mem _ hq)⟩
theorem RdO.of {w : World} {S : Nat → Prop} {b : Names} {ev : Operand → C} {ρ : Operand → Value} (l : Option Operand) (h : ∀ p, p ∈ l.toArray → Rd w S b (ev p) (ρ p)) : RdO w S b (l.map ev) (l.map ρ) := by
  cases l with
  | none => simp [RdO]
  | some p => simpa [RdO] using h p (by simp)
theorem aMaxMin_sound {P : Program} {mx : Bool} {x y : C} {R : C → Prop} (h : aMaxMin mx x y R) (ts : Array TypeId) (ty : Nat) :
    ∃ r, R r ∧ ∀ (w : World) (S : Nat → Prop) (b : Names) (u v : Value), Rd w S b x u → Rd w S b y v →
      ∃ t, (if mx then Builtin.max_ ts ty #[u, v] else Builtin.min_ ts ty #[u, v]).run P w = .ok t w ∧ Rd w S b r t := by
  unfold aMaxMin at h
  cases x
  case v xv =>
    cases xv
    case int k m =>
      cases y
      case v yv =>
        cases yv
        case int k' n =>
          obtain ⟨r, h1, h2⟩ := h
          refine ⟨_, h2, fun w S b u v hu hv => ?_⟩
          simp only [Rd] at hu hv
          subst hu; subst hv
          refine ⟨.int k r, ?_, by simp only [Rd]⟩
          subst h1
          cases mx <;> simp [run_max_int2, run_min_int2]
        all_goals simp at h
      all_goals simp at h
    all_goals simp at h
  all_goals simp at h
theorem aCall_sound {P : Program} {G : Tab} (hG : TabOk P G) {o : Oper} {c : Call} (ho : o.op = .call c) {ev : Operand → C} {R : C → Prop} (h : aCall P G c ev R) (bx : Bxs) : ∃ r, R r ∧ OpY P o ev bx r [] := by
  obtain ⟨callee, args, ats⟩ := c
  obtain ⟨args⟩ := args
  obtain ⟨ats⟩ := ats
  unfold aCall at h
  cases callee with
  | invoke _ _ => simp at h
  | value f =>
    simp only at h
    cases hf : ev f <;> simp only [hf] at h
    case fn ff caps =>
      obtain ⟨L, ⟨args', r, h2, h1, h3⟩, hL⟩ := cargs_sound h
      refine ⟨r, h3, fun g b bx' w ρ hsub hm _ hr => ?_⟩
      have hfv := hr f (by rw [ho]; simp [Op.operands, Call.operands])
      rw [hf] at hfv
      simp only [Rd] at hfv
      obtain ⟨cv, hcv, hcr⟩ := hfv
      obtain ⟨ws, har, hrun⟩ := hL P w _ _ ff _ _ (RdL.of (w := w) (S := Mut g.S0 b bx') (b := b) (ev := ev) (ρ := ρ) args fun p hp => hr p (by rw [ho]; simp [Op.operands, Call.operands, hp])) hcr
      have := h2.runs h1 hm har
      have he : execOp ρ o = (do let d ← resolve ρ ⟨.value f, args.toArray, ats.toArray⟩ o.type; invoke d.target d.args : Sem Next) := by unfold execOp; rw [ho]
      rw [he]
      simp only [resolve, hcv]
      rw [List.map_toArray, hrun]
      exact this
  | builtin bi =>
    have hrun : ∀ ρ : Operand → Value, execOp ρ o = builtin bi ats.toArray o.type (args.toArray.map fun | .const _ => true | _ => false) (args.toArray.map ρ) := by
      intro ρ
      unfold execOp; rw [ho]; rfl
    cases bi <;> simp only at h <;> try (exact h.elim)
    case len =>
      split at h
      · rename_i x T
        obtain ⟨r, hR, hs⟩ := aLen_sound (P := P) hG h o.type
        refine ⟨r, hR, OpY.ofPure fun g b bx' w ρ hsub hm hr => ?_⟩
        obtain ⟨u, h1, h2⟩ := hs w _ b (ρ x) (hr x (by rw [ho]; simp [Op.operands, Call.operands]))
        refine ⟨u, ?_, h2⟩
        rw [hrun]
        simp only [builtin, Sem.run_bind, List.map_toArray, List.map_cons, List.map_nil, h1, Result.andThen_ok, Sem.run_pure]
      · exact h.elim
    case max =>
      split at h
      · rename_i x y
        obtain ⟨r, hR, hs⟩ := aMaxMin_sound (P := P) h ats.toArray o.type
        refine ⟨r, hR, OpY.ofPure fun g b bx' w ρ hsub hm hr => ?_⟩
        obtain ⟨u, h1, h2⟩ := hs w _ b (ρ x) (ρ y) (hr x (by rw [ho]; simp [Op.operands, Call.operands])) (hr y (by rw [ho]; simp [Op.operands, Call.operands]))
        refine ⟨u, ?_, h2⟩
        rw [hrun]
        simp only [if_true] at h1
        simp only [builtin, Sem.run_bind, List.map_toArray, List.map_cons, List.map_nil, h1, Result.andThen_ok, Sem.run_pure]
      · exact h.elim
    case min =>
      split at h
      · rename_i x y
        obtain ⟨r, hR, hs⟩ := aMaxMin_sound (P := P) h ats.toArray o.type
        refine ⟨r, hR, OpY.ofPure fun g b bx' w ρ hsub hm hr => ?_⟩
        obtain ⟨u, h1, h2⟩ := hs w _ b (ρ x) (ρ y) (hr x (by rw [ho]; simp [Op.operands, Call.operands])) (hr y (by rw [ho]; simp [Op.operands, Call.operands]))
        refine ⟨u, ?_, h2⟩
        rw [hrun]
        simp only [Bool.false_eq_true, if_false] at h1
        simp only [builtin, Sem.run_bind, List.map_toArray, List.map_cons, List.map_nil, h1, Result.andThen_ok, Sem.run_pure]
      · exact h.elim
theorem ares_sound {P : Program} {G : Tab} (hG : TabOk P G) {o : Oper} {ev : Operand → C} {bx : Bxs} {R : C → Bxs → Prop} (h : ares P G o ev bx R) : ∃ r nb, R r nb ∧ OpY P o ev bx r nb := by
  obtain ⟨dst, op, ty, pos, after, guard⟩ := o
  cases op <;> simp only [ares] at h <;> try (exact h.elim)
  case move x =>
    exact ⟨_, _, h, OpY.ofPure fun g b bx' w ρ hsub hm hr => ⟨ρ x, by simp [execOp], hr x (by simp [Op.operands])⟩⟩
  case assign x =>
    exact ⟨_, _, h, OpY.ofPure fun g b bx' w ρ hsub hm hr => ⟨ρ x, by simp [execOp], hr x (by simp [Op.operands])⟩⟩
  case pick c x y =>
    cases hc : ev c <;> simp only [hc] at h <;> try (exact h.elim)
    case v cv =>
      cases cv <;> simp only at h <;> try (exact h.elim)
      case bool p =>
        have hcr : ∀ (g : Ghost) (b : Names) (bx' : Bxs) (w : World) (ρ : Operand → Value), (∀ z, z ∈ (Op.pick c x y).operands → Rd w (Mut g.S0 b bx') b (ev z) (ρ z)) → ρ c = .bool p := by
          intro g b bx' w ρ hr
          have := hr c (by simp [Op.operands])
          rw [hc] at this
          simpa [Rd] using this
        cases p with
        | true => exact ⟨_, _, h, OpY.ofPure fun g b bx' w ρ hsub hm hr => ⟨ρ x, by simp [execOp, hcr g b bx' w ρ hr, asBool], hr x (by simp [Op.operands])⟩⟩
        | false => exact ⟨_, _, h, OpY.ofPure fun g b bx' w ρ hsub hm hr => ⟨ρ y, by simp [execOp, hcr g b bx' w ρ hr, asBool], hr y (by simp [Op.operands])⟩⟩
  case alloc T =>
    cases dst with
    | none => simp at h
    | some l =>
      cases hT : G T with
      | none => simp [hT] at h
      | some t =>
        simp only [hT] at h
        refine ⟨_, _, h, fun g b bx' w ρ hsub hm hfr hr => ?_⟩
        obtain ⟨u, w', h1, h2⟩ := y_alloc (hG.ok T t hT) (c := capOf t.sh) hm (hfr _ (List.mem_singleton.2 rfl))
        simp only [execOp, Sem.run_bind, h1, Result.andThen_ok, Sem.run_pure, Runs]
        exact h2
  case box T x =>
    cases dst with
    | none => simp at h
    | some l =>
      cases hT : G T with
      | none => simp [hT] at h
      | some t =>
        simp only [hT] at h
        rw [forceC_iff, bchk_iff] at h
        obtain ⟨hone, h⟩ := h
        refine ⟨_, _, h, fun g b bx' w ρ hsub hm hfr hr => ?_⟩
        have := y_box (E := T) (c := capOf t.sh) hm (hfr _ (List.mem_singleton.2 rfl)) hone (hr x (by simp [Op.operands]))
        have h1 : (Instr.box T (ρ x)).run P w = .ok (.pointer (some ⟨w.heap.size, 0, none⟩)) (w.alloc (.cells (ρ x).cells T)) := by simp [Instr.box, newVar, newRow]
        simp only [execOp, Sem.run_bind, h1, Result.andThen_ok, Sem.run_pure, Runs]
        exact this
  case build T parts =>
    obtain ⟨r, hR, hs⟩ := aBuild_sound (P := P) hG h
    refine ⟨r, _, hR, OpY.ofPure fun g b bx' w ρ hsub hm hr => ?_⟩
    obtain ⟨u, h1, h2⟩ := hs w _ b _ (RdP.of (ρ := ρ) parts.toList fun p hp => hr p.2 (by simp only [Op.operands, List.mem_toArray, List.mem_map]; exact ⟨p, hp, rfl⟩))
    refine ⟨u, ?_, h2⟩
    have he : (parts.map fun p => (p.1, ρ p.2)) = (parts.toList.map fun p => (p.1, ρ p.2)).toArray := by rw [← List.map_toArray]
    simp only [execOp, Sem.run_bind]
    rw [he, h1]
    simp
  case buildSlice T n parts =>
    obtain ⟨r, hR, hs⟩ := aBuildSlice_sound (P := P) hG h
    refine ⟨r, _, hR, fun g b bx' w ρ hsub hm _ hr => ?_⟩
    obtain ⟨u, w', h1, h2⟩ := hs g b bx' w _ hm (RdP.of (ρ := ρ) parts.toList fun p hp => hr p.2 (by simp only [Op.operands, List.mem_toArray, List.mem_map]; exact ⟨p, hp, rfl⟩))
    have he : (parts.map fun p => (p.1, ρ p.2)) = (parts.toList.map fun p => (p.1, ρ p.2)).toArray := by rw [← List.map_toArray]
    simp only [execOp, Sem.run_bind]
    rw [he, h1]
    simpa [Runs] using h2
  case load T a =>
    obtain ⟨r, hR, hs⟩ := aload_sound (P := P) hG h
    exact ⟨r, _, hR, OpY.one (x := a) (f := fun v => Instr.loadAt T v) (by simp [Op.operands]) (fun ρ => rfl) hs⟩
  case nilCheck x =>
    cases hx : ev x <;> simp only [hx] at h <;> try (exact h.elim)
    case ptr l off =>
      refine ⟨_, _, h, OpY.ofPure fun g b bx' w ρ hsub hm hr => ?_⟩
      have := hr x (by simp [Op.operands])
      rw [hx] at this
      refine ⟨ρ x, ?_, this⟩
      simp only [Rd] at this
      obtain ⟨gg, c, _, he⟩ := this
      simp [execOp, he]
    case cel E cs =>
      refine ⟨_, _, h, OpY.ofPure fun g b bx' w ρ hsub hm hr => ?_⟩
      have := hr x (by simp [Op.operands])
      rw [hx] at this
      refine ⟨ρ x, ?_, this⟩
      simp only [Rd] at this
      obtain ⟨gg, off, arr, fr, he, _⟩ := this
      simp [execOp, he]
    case fn f cs =>
      refine ⟨_, _, h, OpY.ofPure fun g b bx' w ρ hsub hm hr => ?_⟩
      have := hr x (by simp [Op.operands])
      rw [hx] at this
      refine ⟨ρ x, ?_, this⟩
      simp only [Rd] at this
      obtain ⟨vs, he, _⟩ := this
      rcases (by unfold fnV; split <;> exact ⟨_, _, rfl⟩ : ∃ p q, fnV f vs = .func (.func f) p q) with ⟨p, q, hpq⟩
      simp [execOp, he, hpq]
  case binOp op T x y yT =>
    obtain ⟨r, hR, hs⟩ := aBin_sound (P := P) hG h
    refine ⟨r, _, hR, OpY.ofPure fun g b bx' w ρ hsub hm hr => ?_⟩
    obtain ⟨u, h1, h2⟩ := hs w _ b (ρ x) (ρ y) x y (hr x (by simp [Op.operands])) (hr y (by simp [Op.operands]))
    refine ⟨u, ?_, h2⟩
    simp only [execOp, Sem.run_bind] at h1 ⊢
    rw [h1]
    simp
  case unOp op T x =>
    have hx := fun (g : Ghost) (b : Names) (bx' : Bxs) (w : World) (ρ : Operand → Value) (hr : ∀ z, z ∈ (Op.unOp op T x).operands → Rd w (Mut g.S0 b bx') b (ev z) (ρ z)) => hr x (by simp [Op.operands])
    unfold aUn at h
    split at h
    · rename_i p he
      refine ⟨_, _, h, OpY.ofPure fun g b bx' w ρ hsub hm hr => ⟨.bool !p, ?_, by simp only [Rd]⟩⟩
      have := hx g b bx' w ρ hr
      rw [he] at this
      simp only [Rd] at this
      simp [execOp, this, Op.unary]
    · rename_i k n he
      obtain ⟨r, h1, h⟩ := h
      refine ⟨_, _, h, OpY.ofPure fun g b bx' w ρ hsub hm hr => ⟨.int k r, ?_, by simp only [Rd]⟩⟩
      have := hx g b bx' w ρ hr
      rw [he] at this
      simp only [Rd] at this
      subst h1
      simp [execOp, this, Op.unary, Op.intArith]
    · rename_i k n he
      obtain ⟨r, h1, h⟩ := h
      refine ⟨_, _, h, OpY.ofPure fun g b bx' w ρ hsub hm hr => ⟨.int k r, ?_, by simp only [Rd]⟩⟩
      have := hx g b bx' w ρ hr
      rw [he] at this
      simp only [Rd] at this
      subst h1
      simp only [execOp, this, Op.unary, Op.intBits]
      simp
    · exact h.elim
  case convert s d x =>
    split at h
    · rename_i kk n k he hs
      obtain ⟨h0, r, h1, h⟩ := bchk_iff.1 h
      refine ⟨_, _, h, OpY.ofPure fun g b bx' w ρ hsub hm hr => ⟨.int k r, ?_, by simp only [Rd]⟩⟩
      have := hr x (by simp [Op.operands])
      rw [he] at this
      simp only [Rd] at this
      obtain ⟨ts, hts⟩ := Option.isSome_iff_exists.1 h0
      cases hd : G d with
      | none => rw [hd] at hs; simp at hs
      | some td =>
        rw [hd] at hs
        simp only [Option.map_some, Option.some.injEq] at hs
        have hok := (hG.ok d td hd).sh
        rw [hs] at hok
        simp only [shOk] at hok
        subst h1
        have hsu : ∃ q, P.underlying s = some q := by
          have hsok := (hG.ok s ts hts).sh
          cases hsh : ts.sh <;> rw [hsh] at hsok <;> simp only [shOk] at hsok
          case struct => obtain ⟨f, hf, _⟩ := hsok; exact ⟨_, hf⟩
          case other => obtain ⟨q, hq, _⟩ := hsok; exact ⟨_, hq⟩
          all_goals exact ⟨_, hsok⟩
        obtain ⟨q, hq⟩ := hsu
        simp only [execOp, Sem.run_bind, this]
        have : (convert s d (.int kk n)).run P w = .ok (.int k (k.wrap n)) w := by
          simp only [convert, Sem.run_bind, run_underlying hq, Result.andThen_ok, run_underlying hok]
          simp [Conv.intToInt]
        rw [this]
        simp
    · exact h.elim
  case extract x i =>
    cases hx : ev x <;> simp only [hx] at h <;> try (exact h.elim)
    case tup ds =>
      obtain ⟨d, h1, h⟩ := h
      refine ⟨_, _, h, OpY.ofPure fun g b bx' w ρ hsub hm hr => ?_⟩
      have := hr x (by simp [Op.operands])
      rw [hx] at this
      simp only [Rd] at this
      obtain ⟨vs, he, hL⟩ := this
      have hi : i < ds.length := (List.getElem?_eq_some_iff.1 h1).1
      have hg := hL.get i hi
      have hi' : i < vs.length := by rw [← hL.length]; exact hi
      rw [List.getD_eq_getElem?_getD, h1, List.getD_eq_getElem?_getD, List.getElem?_eq_getElem hi'] at hg
      exact ⟨vs[i], by simp [execOp, he, Instr.extract, hi'], by simpa using hg⟩
  case fieldAddr S x f =>
    obtain ⟨r, hR, hs⟩ := aFieldAddr_sound (P := P) hG h bx
    exact ⟨r, _, hR, OpY.one (x := x) (f := fun v => Instr.fieldAt S v f) (by simp [Op.operands]) (fun ρ => rfl) hs⟩
  case field S x f =>
    obtain ⟨r, hR, hs⟩ := aField_sound (P := P) hG h bx
    exact ⟨r, _, hR, OpY.one (x := x) (f := fun v => Instr.field S v f) (by simp [Op.operands]) (fun ρ => rfl) hs⟩
  case indexAddr T x i =>
    split at h
    · rename_i k j he
      obtain ⟨r, hR, hs⟩ := aIndexAddr_sound (P := P) hG h bx k
      refine ⟨r, _, hR, OpY.ofPure fun g b bx' w ρ hsub hm hr => ?_⟩
      have hi := hr i (by simp [Op.operands])
      rw [he] at hi
      simp only [Rd] at hi
      obtain ⟨u, h1, h2⟩ := hs g b bx' w (ρ x) hsub hm (hr x (by simp [Op.operands]))
      exact ⟨u, by simp only [execOp, hi, Sem.run_bind, h1, Result.andThen_ok, Sem.run_pure], h2⟩
    · exact h.elim
  case index T x i =>
    split at h
    · rename_i k j he
      obtain ⟨r, hR, hs⟩ := aIndex_sound (P := P) hG h bx k
      refine ⟨r, _, hR, OpY.ofPure fun g b bx' w ρ hsub hm hr => ?_⟩
      have hi := hr i (by simp [Op.operands])
      rw [he] at hi
      simp only [Rd] at hi
      obtain ⟨u, h1, h2⟩ := hs g b bx' w (ρ x) hsub hm (hr x (by simp [Op.operands]))
      exact ⟨u, by simp only [execOp, hi, Sem.run_bind, h1, Result.andThen_ok, Sem.run_pure], h2⟩
    · exact h.elim
  case slice T x lo hi mx =>
    obtain ⟨r, hR, hs⟩ := aSlice_sound (P := P) hG h
    refine ⟨r, _, hR, OpY.ofPure fun g b bx' w ρ hsub hm hr => ?_⟩
    obtain ⟨u, h1, h2⟩ := hs w _ b (ρ x) (lo.map ρ) (hi.map ρ) (mx.map ρ) (hr x (by simp [Op.operands])) (RdO.of lo fun p hp => hr p (by simp [Op.operands] at hp ⊢; simp [hp]))
      (RdO.of hi fun p hp => hr p (by simp [Op.operands] at hp ⊢; simp [hp])) (RdO.of mx fun p hp => hr p (by simp [Op.operands] at hp ⊢; simp [hp]))
    exact ⟨u, by simp only [execOp, Sem.run_bind, h1, Result.andThen_ok, Sem.run_pure], h2⟩
  case makeSlice T l c =>
    cases dst with
    | none => simp at h
    | some dst =>
      simp only at h
      obtain ⟨r, nb, hR, hs⟩ := aMake_sound (P := P) hG h
      refine ⟨r, nb, hR, fun g b bx' w ρ hsub hm hfr hr => ?_⟩
      obtain ⟨u, w', h1, h2⟩ := hs g b bx' w (ρ l) (ρ c) hm hfr (hr l (by simp [Op.operands])) (hr c (by simp [Op.operands]))
      simp only [execOp, Sem.run_bind, h1, Result.andThen_ok, Sem.run_pure, Runs]
      exact h2
  case makeFunc fn first caps =>
    obtain ⟨first⟩ := first
    obtain ⟨caps⟩ := caps
    split at h
    · rename_i f hf
      simp only at hf
      subst hf
      obtain ⟨h0, h⟩ := bchk_iff.1 h
      refine ⟨_, _, h, OpY.ofPure fun g b bx' w ρ hsub hm hr => ⟨.func (.func f) #[] (caps.map ρ).toArray, by simp [execOp, Instr.makeFunc], ?_⟩⟩
      simp only [Rd]
      have hc : RdL w (Mut g.S0 b bx') b (caps.map ev) (caps.map ρ) := RdL.of caps fun p hp => hr p (by simp [Op.operands, hp])
      exact ⟨_, (fnV_one (RdL.one h0 hc)).symm, hc⟩
    · rename_i f x bs hf
      simp only at hf
      subst hf
      split at h
      · rename_i hc
        simp only at hc
        subst hc
        refine ⟨_, _, h, OpY.ofPure fun g b bx' w ρ hsub hm hr => ⟨.func (.func f) ((x :: bs).map ρ).toArray #[], by simp [execOp, Instr.makeFunc], ?_⟩⟩
        simp only [Rd]
        refine ⟨[.tuple ((x :: bs).map ρ).toArray], rfl, ?_⟩
        simp only [RdL, Rd, and_true]
        refine ⟨_, rfl, ?_⟩
        exact RdL.of (x :: bs) fun p hp => hr p (by simp only [Op.operands]; simp at hp ⊢; exact hp)
      · exact h.elim
    · exact h.elim
  case call c =>
    obtain ⟨r, hR, hs⟩ := aCall_sound (P := P) (o := ⟨dst, .call c, ty, pos, after, guard⟩) hG rfl h bx
    exact ⟨r, _, hR, hs⟩
end El
namespace El
open Go Go.RowKit
structure St where
  sl : List C
  bx : Bxs
  nm : List Nat
def getC : List C → Nat → C
  | [], _ => .v undef
  | d :: _, 0 => d
  | _ :: ds, n + 1 => getC ds n
def setC : List C → Nat → C → List C
  | [], _, _ => []
  | _ :: ds, 0, d => d :: ds
  | x :: ds, n + 1, d => x :: setC ds n d
theorem setC_eq : ∀ (l : List C) (n : Nat) (d : C), setC l n d = l.set n d
  | [], _, _ => by simp [setC]
  | _ :: _, 0, _ => by simp [setC]
  | _ :: ds, n + 1, d => by simp [setC, setC_eq ds n d]
theorem getC_rd {w : World} {S : Nat → Prop} {b : Names} : ∀ {ds : List C} {us : List Value}, RdL w S b ds us → ∀ t, Rd w S b (getC ds t) (us.getD t undef)
  | [], [], _, t => by simp [getC, Rd]
  | _ :: _, [], h, _ => by simp [RdL] at h
  | [], _ :: _, h, _ => by simp [RdL] at h
  | _ :: _, _ :: _, h, 0 => by simp only [RdL] at h; simpa [getC] using h.1
  | _ :: ds, _ :: us, h, t + 1 => by simp only [RdL] at h; simpa [getC] using getC_rd h.2 t
def constC : Value → C
  | .agg cs => .agg (cs.toList.map .v)
  | .func (.func f) ⟨[]⟩ ⟨[]⟩ => .fn f []
  | v => .v v
theorem constC_rd {w : World} {S : Nat → Prop} {b : Names} (v : Value) : Rd w S b (constC v) v := by
  unfold constC
  split
  · rename_i cs
    simp only [Rd]
    exact ⟨cs.toList, by simp, RdL.vals _⟩
  · rename_i f
    simp only [Rd]
    exact ⟨[], rfl, by simp [RdL]⟩
  · simp only [Rd]
def St.ev (s : St) : Operand → C
  | .tmp t => getC s.sl t
  | .const v => constC v
  | .global g => .v (.pointer (some ⟨g, 0, none⟩))
  | .func f => .fn f []
structure Rel (g : Ghost) (s : St) (b : Names) (a : Act) (w : World) : Prop where
  df : a.defers = []
  sl : RdL w (Mut g.S0 b s.bx) b s.sl a.tmps.toList
  mem : Mem g b s.bx w
  nm : ∀ l, l ∉ s.nm → b l = none
theorem Rel.ev {g : Ghost} {s : St} {b : Names} {a : Act} {w : World} (h : Rel g s b a w) (x : Operand) : Rd w (Mut g.S0 b s.bx) b (s.ev x) (a.eval x) := by
  cases x with
  | tmp t =>
    have := getC_rd h.sl t
    simpa [St.ev, Act.eval, List.getD_eq_getElem?_getD, Array.getD_eq_getD_getElem?] using this
  | const v => exact constC_rd v
  | global n => simp [St.ev, Act.eval, Rd]
  | func f =>
    simp only [St.ev, Act.eval, Rd]
    exact ⟨[], rfl, by simp [RdL]⟩
/-- A slot is written. -/
def St.slot (s : St) (dst : Option Nat) (d : C) : List C :=
  match dst with
  | some t => setC s.sl t d
  | none => s.sl
theorem RdL.slot {g : Ghost} {s : St} {b b' : Names} {bx' : Bxs} {a : Act} {w w' : World} (h : Rel g s b a w) (dst : Option Nat) {d : C} {v : Value}
    (hk : ∀ x, x < w.heap.size → ¬ Mut g.S0 b s.bx x → w'.heap[x]? = w.heap[x]? ∧ ¬ Mut g.S0 b' bx' x) (hb : ∀ l p, b l = some p → b' l = some p)
    (hd : Rd w' (Mut g.S0 b' bx') b' d v) : RdL w' (Mut g.S0 b' bx') b' (s.slot dst d) (a.put dst v).tmps.toList := by
  have h1 := h.sl.keep hk hb
  cases dst with
  | none => exact h1
  | some t =>
    simp only [St.slot, setC_eq, Act.put, Array.toList_setIfInBounds]
    exact RdL.set hd h1 t
theorem Rel.put {g : Ghost} {s : St} {b : Names} {a : Act} {w w' : World} (h : Rel g s b a w) {nb : Bxs} {d : C} {v : Value} (hy : YPost g b s.bx nb w d v w') (dst : Option Nat) :
    ∃ b', Rel g ⟨s.slot dst d, nb ++ s.bx, nb.map (·.1) ++ s.nm⟩ b' (a.put dst v) w' := by
  obtain ⟨b', h1, h2, h3, h4, h5, h6⟩ := hy
  refine ⟨b', ?_, RdL.slot h dst (fun x hx hn => ⟨h3.block x hx, h5 x hx hn⟩) h1 h6, h4, fun l hl => ?_⟩
  · have := h.df
    cases dst <;> simpa [Act.put] using this
  · simp only [List.mem_append, List.mem_map, not_or] at hl
    exact h2 l (h.nm l hl.2) fun B hB => hl.1 ⟨_, hB, rfl⟩
/-! ### Forms that reckon well -/
def setK : List C → Nat → C → (List C → Prop) → Prop
  | [], _, _, K => K []
  | _ :: ds, 0, d, K => K (d :: ds)
  | x :: ds, n + 1, d, K => setK ds n d fun l => K (x :: l)
theorem setK_iff : ∀ {l : List C} {n : Nat} {d : C} {K : List C → Prop}, setK l n d K ↔ K (setC l n d)
  | [], _, _, _ => by simp [setK, setC]
  | _ :: _, 0, _, _ => by simp [setK, setC]
  | _ :: ds, n + 1, d, K => by simp only [setK, setC]; exact setK_iff
def slotL (sl : List C) (dst : Option Nat) (d : C) : List C :=
  match dst with
  | some t => setC sl t d
  | none => sl
theorem slotL_eq (s : St) (dst : Option Nat) (d : C) : slotL s.sl dst d = s.slot dst d := by cases dst <;> rfl
def slotK (sl : List C) (dst : Option Nat) (d : C) (K : List C → Prop) : Prop :=
  match dst with
  | some t => forceC d fun d => setK sl t d K
  | none => K sl
theorem slotK_iff {s : St} {dst : Option Nat} {d : C} {K : List C → Prop} : slotK s.sl dst d K ↔ K (s.slot dst d) := by
  cases dst with
  | none => rfl
  | some t => simp only [slotK, St.slot]; rw [forceC_iff]; exact setK_iff
def elemN : List Nat → Nat → Bool
  | [], _ => false
  | x :: l, m => match Nat.beq x m with
    | true => true
    | false => elemN l m
theorem elemN_mem {l : List Nat} {m : Nat} (h : elemN l m = false) : m ∉ l := by
  induction l with
  | nil => simp
  | cons x l ih =>
    simp only [elemN] at h
    split at h
    · cases h
    · rename_i e
      have hne : x ≠ m := fun e' => by subst e'; simp at e
      simp only [List.mem_cons, not_or]
      exact ⟨fun e => hne e.symm, ih h⟩
def putK (s : St) (dst : Option Nat) (d : C) (nb : Bxs) (K : St → Prop) : Prop :=
  match s with
  | ⟨sl, bx, nm⟩ => match nb with
    | [] => slotK sl dst d fun l => K ⟨l, bx, nm⟩
    | [(m, B)] => bchk (!elemN nm m) (slotK sl dst d fun l => K ⟨l, (m, B) :: bx, m :: nm⟩)
    | _ => False
/-- The next step's own word: what holds of some state that the frame and the world fit. -/
def Nxt (g : Ghost) (K : St → Prop) (a : Act) (w : World) : Prop := ∃ s b, Rel g s b a w ∧ K s
theorem putK_sound {g : Ghost} {s : St} {b : Names} {a : Act} {w w' : World} (h : Rel g s b a w) {nb : Bxs} {d : C} {v : Value} {dst : Option Nat} {K : St → Prop} (hK : putK s dst d nb K) :
    (∀ p, p ∈ nb → b p.1 = none) ∧ (YPost g b s.bx nb w d v w' → Nxt g K (a.put dst v) w') := by
  match nb, hK with
  | [], hK =>
    have hK : slotK s.sl dst d fun l => K ⟨l, s.bx, s.nm⟩ := hK
    rw [slotK_iff] at hK
    refine ⟨by simp, fun hy => ?_⟩
    obtain ⟨b', hr⟩ := h.put hy dst
    exact ⟨_, b', hr, hK⟩
  | [(m, B)], hK =>
    have hK : bchk (!elemN s.nm m) (slotK s.sl dst d fun l => K ⟨l, (m, B) :: s.bx, m :: s.nm⟩) := hK
    rw [bchk_iff, slotK_iff] at hK
    refine ⟨fun p hp => ?_, fun hy => ?_⟩
    · simp only [List.mem_singleton] at hp
      subst hp
      exact h.nm m (elemN_mem (by simpa using hK.1))
    · obtain ⟨b', hr⟩ := h.put hy dst
      exact ⟨_, b', hr, hK.2⟩
  | _ :: _ :: _, hK => simp [putK] at hK
/-! ### Stores -/
def setB : Bxs → Nat → Bx → Bxs
  | [], _, _ => []
  | (m, B) :: r, l, B' => match Nat.beq m l with
    | true => (m, B') :: r
    | false => (m, B) :: setB r l B'
def delB : Bxs → Nat → Bxs
  | [], _ => []
  | (m, B) :: r, l => match Nat.beq m l with
    | true => r
    | false => (m, B) :: delB r l
/-- Names stand once each. -/
theorem Mem.uniq {g : Ghost} {b : Names} {bx : Bxs} {w : World} (h : Mem g b bx w) : bx.Pairwise fun p q => p.1 ≠ q.1 := h.apart.imp fun h => h.2
theorem mem_setB {bx : Bxs} (hu : bx.Pairwise fun p q => p.1 ≠ q.1) {l : Nat} {B B' : Bx} (hB : (l, B) ∈ bx) : ∀ m X, (m, X) ∈ setB bx l B' → (m = l ∧ X = B') ∨ (m ≠ l ∧ (m, X) ∈ bx) := by
  induction bx with
  | nil => intro m X h; simp [setB] at h
  | cons p r ih =>
    obtain ⟨m0, B0⟩ := p
    intro m X h
    simp only [setB] at h
    rw [List.pairwise_cons] at hu
    split at h
    · rename_i e
      have := Nat.eq_of_beq_eq_true e; subst this
      simp only [List.mem_cons, Prod.mk.injEq] at h
      rcases h with ⟨rfl, rfl⟩ | h
      · exact .inl ⟨rfl, rfl⟩
      · exact .inr ⟨fun e => hu.1 _ h e.symm, List.mem_cons_of_mem _ h⟩
    · rename_i e
      have hne : m0 ≠ l := fun e' => by subst e'; simp at e
      simp only [List.mem_cons, Prod.mk.injEq] at h
      rcases h with ⟨rfl, rfl⟩ | h
      · exact .inr ⟨hne, List.mem_cons_self ..⟩
      · have hB' : (l, B) ∈ r := by
          rcases List.mem_cons.1 hB with h' | h'
          · cases h'; exact absurd rfl hne
          · exact h'
        rcases ih hu.2 hB' m X h with h1 | ⟨h1, h2⟩
        · exact .inl h1
        · exact .inr ⟨h1, List.mem_cons_of_mem _ h2⟩
theorem setB_names : ∀ (bx : Bxs) (l : Nat) (B : Bx), (setB bx l B).map (·.1) = bx.map (·.1)
  | [], _, _ => rfl
  | (m, B0) :: r, l, B => by
    simp only [setB]
    split
    · simp
    · simp [setB_names r l B]
theorem setB_old {bx : Bxs} {l : Nat} {B' : Bx} {m : Nat} (h : ∃ X, (m, X) ∈ setB bx l B') : ∃ X, (m, X) ∈ bx := by
  obtain ⟨X, hX⟩ := h
  have : m ∈ (setB bx l B').map (·.1) := List.mem_map.2 ⟨_, hX, rfl⟩
  rw [setB_names] at this
  obtain ⟨p, hp, rfl⟩ := List.mem_map.1 this
  exact ⟨p.2, hp⟩
theorem Mut_setB {S0 : Nat → Prop} {b : Names} {bx : Bxs} {l : Nat} {B' : Bx} {x : Nat} : Mut S0 b (setB bx l B') x ↔ Mut S0 b bx x := by
  constructor
  · rintro (h | ⟨m, X, c, h1, h2⟩)
    · exact .inl h
    · obtain ⟨Y, hY⟩ := setB_old ⟨X, h1⟩
      exact .inr ⟨m, Y, c, hY, h2⟩
  · rintro (h | ⟨m, X, c, h1, h2⟩)
    · exact .inl h
    · have : m ∈ (setB bx l B').map (·.1) := by rw [setB_names]; exact List.mem_map.2 ⟨_, h1, rfl⟩
      obtain ⟨p, hp, rfl⟩ := List.mem_map.1 this
      exact .inr ⟨p.1, p.2, c, hp, h2⟩
/-- The cells of one private block are written. -/
theorem Rel.setRow {g : Ghost} {s : St} {b : Names} {a : Act} {w : World} (h : Rel g s b a w) {l gg c : Nat} {B B' : Bx} (hB : (l, B) ∈ s.bx) (hb : b l = some (some gg, c)) (arr : Array Value)
    (hB' : BxAt (w.setRow gg arr) (Mut g.S0 b s.bx) b l B') : Rel g ⟨s.sl, setB s.bx l B', s.nm⟩ b a (w.setRow gg arr) := by
  have hmut : Mut g.S0 b s.bx gg := .inr ⟨l, B, c, hB, hb⟩
  have hk : ∀ x, x < w.heap.size → ¬ Mut g.S0 b s.bx x → (w.setRow gg arr).heap[x]? = w.heap[x]? ∧ ¬ Mut g.S0 b (setB s.bx l B') x :=
    fun x _ hn => ⟨setRow_other w gg x arr (fun e => hn (e ▸ hmut)), fun hm => hn (Mut_setB.1 hm)⟩
  have hS : ∀ x, Mut g.S0 b (setB s.bx l B') x ↔ Mut g.S0 b s.bx x := fun x => Mut_setB
  have hm := h.mem
  refine ⟨h.df, h.sl.keep hk fun _ _ h => h, ?_, h.nm⟩
  refine ⟨hm.s0, by rw [setRow_size]; exact hm.size, hm.os, hm.tape, hm.output, hm.drawn, ?_, ?_, ?_, hm.kp, ?_⟩
  · intro x hx hH
    rw [setRow_other w gg x arr, hm.old x hx hH]
    rintro rfl
    rcases (hm.new l B _ _ hB hb).1 with h' | h'
    · exact hH h'
    · omega
  · intro m X hX
    rcases mem_setB hm.uniq hB m X hX with ⟨rfl, rfl⟩ | ⟨hne, hX'⟩
    · exact hB'.keep (fun x hx hn => ⟨rfl, fun hh => hn ((hS x).1 hh)⟩) (fun _ _ h => h) fun _ _ _ => rfl
    · refine (hm.boxes m X hX').keep hk (fun _ _ h => h) fun g' c' hc' => setRow_other w gg g' arr ?_
      rintro rfl
      rcases List.pairwise_iff_getElem.1 hm.apart with hap
      obtain ⟨i, hi, hie⟩ := List.getElem_of_mem hX'
      obtain ⟨j, hj, hje⟩ := List.getElem_of_mem hB
      rcases Nat.lt_trichotomy i j with hij | hij | hij
      · have := (hap i j hi hj hij).1
        rw [hie, hje] at this
        exact this _ _ _ hc' hb
      · subst hij
        rw [hie] at hje
        exact hne (by cases hje; rfl)
      · have := (hap j i hj hi hij).1
        rw [hie, hje] at this
        exact this _ _ _ hb hc'
  · intro m X g' c' hX hc'
    obtain ⟨Y, hY⟩ := setB_old ⟨X, hX⟩
    exact hm.new m Y g' c' hY hc'
  · have h1 : (setB s.bx l B').map (·.1) = s.bx.map (·.1) := setB_names _ _ _
    have h2 : (s.bx.map (·.1)).Pairwise fun p q => (∀ g c c', b p = some (some g, c) → b q ≠ some (some g, c')) ∧ p ≠ q := by
      rw [List.pairwise_map]; exact hm.apart
    rw [← h1, List.pairwise_map] at h2
    exact h2
end El
namespace El
open Go Go.RowKit
def setBK : Bxs → Nat → Bx → (Bxs → Prop) → Prop
  | [], _, _, K => K []
  | (m, B) :: r, l, B', K => match Nat.beq m l with
    | true => K ((m, B') :: r)
    | false => setBK r l B' fun r' => K ((m, B) :: r')
theorem setBK_iff : ∀ {bx : Bxs} {l : Nat} {B' : Bx} {K : Bxs → Prop}, setBK bx l B' K ↔ K (setB bx l B')
  | [], _, _, _ => Iff.rfl
  | (m, B) :: r, l, B', K => by
    cases hb : Nat.beq m l <;> simp only [setBK, setB, hb]
    exact setBK_iff
def astore (G : Tab) (T : Nat) (s : St) (da dx : C) (K : St → Prop) : Prop :=
  match s with
  | ⟨sl, bx, nm⟩ => forceC dx fun dx => match G T, da with
  | some t, .ptr l off => (match getB bx l with
    | some (.cells E c cs) => bchk (Nat.beq (cellsC dx).length t.size && oneL (cellsC dx)) (off + t.size ≤ cs.length ∧ ∃ cs', spl cs off (cellsC dx) = cs' ∧ setBK bx l (.cells E c cs') fun bx' => K ⟨sl, bx', nm⟩)
    | some (.row E k n cs) => bchk (Nat.beq (cellsC dx).length t.size && (oneL (cellsC dx) && noNameL (cellsC dx))) (off + t.size ≤ cs.length ∧ ∃ cs', spl cs off (cellsC dx) = cs' ∧ setBK bx l (.row E k n cs') fun bx' => K ⟨sl, bx', nm⟩)
    | _ => False)
  | some t, .wptr l off => (match getB bx l with
    | some (.win E k n cs pre post) => bchk (Nat.beq (cellsC dx).length t.size && (oneL (cellsC dx) && noNameL (cellsC dx))) (off + t.size ≤ cs.length ∧ ∃ cs', spl cs off (cellsC dx) = cs' ∧ setBK bx l (.win E k n cs' pre post) fun bx' => K ⟨sl, bx', nm⟩)
    | _ => False)
  | _, _ => False
theorem run_storeAt {P : Program} {T : Nat} {t : TI} (hT : TOk P T t) {w : World} {g off : Nat} {arr : Array Value} {E : Nat} (hg : w.heap[g]? = some (.cells arr E (0, 0))) {v : Value}
    (hs : v.cells.size = t.size) (hle : off + t.size ≤ arr.size) (h1 : One v.cells.toList) :
    (Instr.storeAt T (.pointer (some ⟨g, off, none⟩)) v).run P w = .ok () (w.setRow g (spl arr.toList off v.cells.toList).toArray) := by
  have h2 := run_storeCells_at (P := P) g off E v.cells.toList 0 arr w hg (by simp [hs]; omega) h1
  simp only [Nat.add_zero] at h2
  have hne : ¬ (v.cells.size ≠ t.size) := by simp [hs]
  simp only [Instr.storeAt, Instr.sureAddr, storeVar, Sem.run_bind, Sem.run_pure, Result.andThen_ok, sizeOf_run hT, if_neg hne]
  rw [h2]
  simp [spl]
theorem spl_take {α : Type} {cs ds : List α} {off m : Nat} (h : off + ds.length ≤ m) (hm : m ≤ cs.length) : (spl cs off ds).take m = spl (cs.take m) off ds := by
  have hl : (cs.take off).length = off := by rw [List.length_take]; omega
  simp only [spl, List.take_append, hl, List.take_take, List.drop_take]
  rw [Nat.min_eq_right (by omega : off ≤ m), Nat.min_eq_left (by omega : off ≤ m), List.take_of_length_le (by omega : ds.length ≤ m - off), Nat.sub_sub]
theorem astore_sound {P : Program} {G : Tab} (hG : TabOk P G) {T : Nat} {s : St} {da dx : C} {K : St → Prop} (h : astore G T s da dx K) {g : Ghost} {b : Names} {a : Act} {w : World} (hr : Rel g s b a w)
    {va vx : Value} (ha : Rd w (Mut g.S0 b s.bx) b da va) (hx : Rd w (Mut g.S0 b s.bx) b dx vx) : ∃ w', (Instr.storeAt T va vx).run P w = .ok () w' ∧ Nxt g K a w' := by
  obtain ⟨sl, bx, nm⟩ := s
  simp only [astore] at h
  rw [forceC_iff] at h
  cases hT : G T with
  | none => simp [hT] at h
  | some t =>
    simp only [hT] at h
    have hok := hG.ok T t hT
    cases da <;> simp only at h <;> try (exact h.elim)
    case ptr l off =>
      simp only [Rd] at ha
      obtain ⟨gg, c0, hb, rfl⟩ := ha
      cases hl : getB bx l with
      | none => simp [hl] at h
      | some B =>
        simp only [hl] at h
        have hmem := getB_mem hl
        have hbox := hr.mem.boxes l B hmem
        have hmut : Mut g.S0 b bx gg := .inr ⟨l, B, c0, hmem, hb⟩
        cases B with
        | cells E c cs =>
          obtain ⟨hb0, h3, cs', rfl, hK⟩ := bchk_iff.1 h
          rw [setBK_iff] at hK
          simp only [Bool.and_eq_true] at hb0
          obtain ⟨h1, h2⟩ := hb0
          have h1 := Nat.eq_of_beq_eq_true h1
          obtain ⟨gg', arr, h4, h5, h6, h7⟩ := hbox
          rw [hb] at h4; cases h4
          have hc := hx.cells h2
          have hvs : vx.cells.size = t.size := by rw [← h1, hc.length]; simp
          have hsz := h7.length
          have hle0 : off + t.size ≤ arr.size := by simp at hsz; omega
          have hrun := run_storeAt hok h5 hvs hle0 (hc.one h2)
          refine ⟨_, hrun, _, b, hr.setRow hmem hb _ ?_, hK⟩
          simp only [BxAt]
          have hkeep : ∀ x, x < w.heap.size → ¬ Mut g.S0 b bx x → (w.setRow gg (spl arr.toList off vx.cells.toList).toArray).heap[x]? = w.heap[x]? ∧ ¬ Mut g.S0 b bx x :=
            fun x _ hn => ⟨setRow_other w gg x _ (fun e => hn (e ▸ hmut)), hn⟩
          refine ⟨gg, _, hb, setRow_heap w gg arr _ E (0, 0) h5, ?_, ?_⟩
          · intro u hu
            simp only [spl, List.mem_append] at hu
            rcases hu with hu | hu | hu
            · exact h6 u (List.mem_of_mem_take hu)
            · exact hc.one h2 u hu
            · exact h6 u (List.mem_of_mem_drop hu)
          · exact (h7.spl hc).keep hkeep fun _ _ h => h
        | row E k n cs =>
          obtain ⟨hb0, h3, cs', rfl, hK⟩ := bchk_iff.1 h
          rw [setBK_iff] at hK
          simp only [Bool.and_eq_true] at hb0
          obtain ⟨h1, h2, h2n⟩ := hb0
          have h1 := Nat.eq_of_beq_eq_true h1
          obtain ⟨aa, c, h4, hnc, hcm, hlen, h5⟩ := hbox
          rw [hb] at h4; cases h4
          obtain ⟨arr, h5, hsz, h6, h7⟩ := h5
          have hc := hx.cells h2
          have hvs : vx.cells.size = t.size := by rw [← h1, hc.length]; simp
          have hle : n * k ≤ arr.size := by rw [hsz]; exact Nat.mul_le_mul_right _ hnc
          have hle0 : off + t.size ≤ arr.size := by omega
          have hrun := run_storeAt hok h5 hvs hle0 (hc.one h2)
          refine ⟨_, hrun, _, b, hr.setRow hmem hb _ ?_, hK⟩
          simp only [BxAt]
          have hkeep : ∀ x, x < w.heap.size → ¬ Mut g.S0 b bx x → (w.setRow gg (spl arr.toList off vx.cells.toList).toArray).heap[x]? = w.heap[x]? ∧ ¬ Mut g.S0 b bx x :=
            fun x _ hn => ⟨setRow_other w gg x _ (fun e => hn (e ▸ hmut)), hn⟩
          have hlv : vx.cells.toList.length = (cellsC dx).length := hc.length.symm
          have htk : (spl arr.toList off vx.cells.toList).take (n * k) = spl (arr.toList.take (n * k)) off vx.cells.toList := spl_take (by omega) (by simpa using hle)
          refine ⟨some gg, _, hb, hnc, hcm, by rw [spl_length (cs := cs) (ds := cellsC dx) (off := off) (by omega)]; exact hlen, _, setRow_heap w gg arr _ E (0, 0) h5, ?_, ?_, ?_⟩
          · rw [List.size_toArray, spl_length (cs := arr.toList) (ds := vx.cells.toList) (off := off) (by simp; omega)]; simpa using hsz
          · rw [htk]
            intro u hu
            simp only [spl, List.mem_append] at hu
            rcases hu with hu | hu | hu
            · exact h6 u (List.mem_of_mem_take hu)
            · exact hc.one h2 u hu
            · exact h6 u (List.mem_of_mem_drop hu)
          · rw [htk]
            exact (h7.spl (hc.anyNames h2n)).keep hkeep fun _ _ h => h
        | map _ => exact h.elim
        | iter _ _ _ => exact h.elim
        | str _ _ => exact h.elim
        | win _ _ _ _ _ _ => exact h.elim
    case wptr l off =>
      simp only [Rd] at ha
      obtain ⟨gg, c0, hb, rfl⟩ := ha
      cases hl : getB bx l with
      | none => simp [hl] at h
      | some B =>
        simp only [hl] at h
        have hmem := getB_mem hl
        have hbox := hr.mem.boxes l B hmem
        have hmut : Mut g.S0 b bx gg := .inr ⟨l, B, c0, hmem, hb⟩
        cases B with
        | win E k n cs pre post =>
          obtain ⟨hb0, h3, cs', rfl, hK⟩ := bchk_iff.1 h
          rw [setBK_iff] at hK
          simp only [Bool.and_eq_true] at hb0
          obtain ⟨h1, h2, h2n⟩ := hb0
          have h1 := Nat.eq_of_beq_eq_true h1
          obtain ⟨gg', o, h4, mid, h5, h6, h7, h8, h9⟩ := hbox
          rw [hb] at h4; cases h4
          have hc := hx.cells h2
          have hvs : vx.cells.size = t.size := by rw [← h1, hc.length]; simp
          have hml := h9.length
          have hle0 : c0 + off + t.size ≤ (pre ++ (mid ++ post)).toArray.size := by simp; omega
          have hrun := run_storeAt hok h5 hvs hle0 (hc.one h2)
          have hlv : vx.cells.toList.length = t.size := by simpa using hvs
          have hspl : spl (pre ++ (mid ++ post)).toArray.toList (c0 + off) vx.cells.toList = pre ++ (spl mid off vx.cells.toList ++ post) := by
            unfold spl
            rw [hlv]
            simp only [List.take_append, List.drop_append, h6]
            rw [List.take_of_length_le (by omega : pre.length ≤ c0 + off), List.drop_of_length_le (by omega : pre.length ≤ c0 + off + t.size), show c0 + off - c0 = off by omega, show c0 + off + t.size - c0 = off + t.size by omega,
              show off - mid.length = 0 by omega, show off + t.size - mid.length = 0 by omega]
            simp
          rw [hspl] at hrun
          refine ⟨_, hrun, _, b, hr.setRow hmem hb _ ?_, hK⟩
          simp only [BxAt]
          have hkeep : ∀ x, x < w.heap.size → ¬ Mut g.S0 b bx x → (w.setRow gg (pre ++ (spl mid off vx.cells.toList ++ post)).toArray).heap[x]? = w.heap[x]? ∧ ¬ Mut g.S0 b bx x :=
            fun x _ hn => ⟨setRow_other w gg x _ (fun e => hn (e ▸ hmut)), hn⟩
          refine ⟨gg, c0, hb, spl mid off vx.cells.toList, setRow_heap w gg _ _ E (0, 0) h5, h6, by rw [spl_length (cs := cs) (ds := cellsC dx) (off := off) (by omega)]; exact h7, ?_, (h9.spl (hc.anyNames h2n)).keep hkeep fun _ _ h => h⟩
          intro u hu
          simp only [spl, List.mem_append] at hu
          rcases hu with hu | ((hu | hu | hu) | hu)
          · exact h8 u (List.mem_append_left _ hu)
          · exact h8 u (List.mem_append_right _ (List.mem_append_left _ (List.mem_of_mem_take hu)))
          · exact hc.one h2 u hu
          · exact h8 u (List.mem_append_right _ (List.mem_append_left _ (List.mem_of_mem_drop hu)))
          · exact h8 u (List.mem_append_right _ (List.mem_append_right _ hu))
        | _ => exact h.elim
/-! ### append -/
/-- The row to which is appended: its elements. -/
def delBK : Bxs → Nat → (Bxs → Prop) → Prop
  | [], _, K => K []
  | (m, B) :: r, l, K => match Nat.beq m l with
    | true => K r
    | false => delBK r l fun r' => K ((m, B) :: r')
theorem delBK_iff : ∀ {bx : Bxs} {l : Nat} {K : Bxs → Prop}, delBK bx l K ↔ K (delB bx l)
  | [], _, _ => Iff.rfl
  | (m, B) :: r, l, K => by
    cases hb : Nat.beq m l <;> simp only [delBK, delB, hb]
    exact delBK_iff
def arow (E k : Nat) (bx : Bxs) (d : C) (m : Nat) (Z : Prop) (R : Nat → List C → Bxs → Prop) : Prop :=
  match d with
  | .own l _ _ n => (match getB bx l with
    | some (.row E2 k2 n2 cs) => bchk (Nat.beq E2 E && Nat.beq k2 k) (n2 = n ∧ delBK bx l fun bx' => R n cs bx')
    | _ => False)
  | .v x => x = .slice none 0 0 ∧ R 0 [] bx
  | .sl _ k2 n true cs => bchk (Nat.beq k2 k) (((0 < m ∧ oneL cs = true) ∧ R n cs bx) ∨ (m = 0 ∧ Z))
  | _ => False
def aappend (G : Tab) (T dst : Nat) (s : St) (dx dy : C) (K : St → Prop) : Prop :=
  match s with
  | ⟨sl, bx, nm⟩ => match G T with
  | some t => (match t.sh with
    | .slice E => (match G E with
      | some t' => (match dy with
        | .sl _ k2 m _ es => bchk (Nat.beq k2 t'.size && Nat.blt 0 t'.size && !elemN nm dst) (oneL es = true ∧ arow E t'.size bx dx m (slotK sl (some dst) dx fun l => K ⟨l, bx, nm⟩) fun n cs bx' => ((n + m) * t'.bytes ≤ 140737488355328 ∧ n + m ≤ 9223372036854775807) ∧
            ∃ cs' N, (cs ++ es = cs' ∧ n + m = N) ∧ setK sl dst (.own dst E t'.size N) fun l => K ⟨l, (dst, .row E t'.size N cs') :: bx', dst :: nm⟩)
        | _ => False)
      | none => False)
    | _ => False)
  | none => False
/-- What an append leaves. -/
structure APost (w : World) (E k : Nat) (old : Option Nat) (N : Nat) (xs : List Value) (v' : Value) (w' : World) : Prop where
  grown : w.grownBy w' old
  drawn : w.drawn ≤ w'.drawn
  len : xs.length = N * k
  row : ∃ q cap, v' = .slice (q.map fun g => ⟨g, 0, none⟩) N cap ∧ N ≤ cap ∧ cap ≤ maxLen ∧ (q = none → cap = 0) ∧ ∀ g', q = some g' → (some g' = old ∨ w.heap.size ≤ g') ∧
    ∃ cur, w'.heap[g']? = some (.cells cur E (0, 0)) ∧ cur.size = cap * k ∧ cur.toList.take (N * k) = xs
theorem delB_sub : ∀ (bx : Bxs) (l : Nat), (delB bx l).Sublist bx
  | [], _ => List.Sublist.slnil
  | (m, B) :: r, l => by
    simp only [delB]
    split
    · exact List.sublist_cons_self ..
    · exact (delB_sub r l).cons_cons _
theorem delB_ne : ∀ {bx : Bxs} {l : Nat}, (bx.Pairwise fun p q => p.1 ≠ q.1) → ∀ p, p ∈ delB bx l → p.1 ≠ l
  | [], _, _, p, hp => by simp [delB] at hp
  | (m, B) :: r, l, hu, p, hp => by
    rw [List.pairwise_cons] at hu
    simp only [delB] at hp
    split at hp
    · rename_i e
      have := Nat.eq_of_beq_eq_true e; subst this
      exact fun e' => hu.1 p hp e'.symm
    · rename_i e
      have hne : m ≠ l := fun e' => by subst e'; simp at e
      rcases List.mem_cons.1 hp with rfl | hp
      · exact hne
      · exact delB_ne hu.2 p hp
/-- Two boxes of one block are one. -/
theorem Mem.same {g : Ghost} {b : Names} {bx : Bxs} {w : World} (h : Mem g b bx w) {p q : Nat × Bx} (hp : p ∈ bx) (hq : q ∈ bx) {x c c' : Nat} (h1 : b p.1 = some (some x, c)) (h2 : b q.1 = some (some x, c')) : p.1 = q.1 := by
  have hap := List.pairwise_iff_getElem.1 h.apart
  obtain ⟨i, hi, hie⟩ := List.getElem_of_mem hp
  obtain ⟨j, hj, hje⟩ := List.getElem_of_mem hq
  rcases Nat.lt_trichotomy i j with hij | hij | hij
  · have := (hap i j hi hj hij).1
    rw [hie, hje] at this
    exact absurd h2 (this _ _ _ h1)
  · subst hij
    rw [hie] at hje
    rw [hje]
  · have := (hap j i hj hi hij).1
    rw [hie, hje] at this
    exact absurd h1 (this _ _ _ h2)
theorem Rel.appended {g : Ghost} {s : St} {b : Names} {a : Act} {w w' : World} (h : Rel g s b a w) {E k N dst : Nat} {old : Option Nat} {xs : List Value} {v' : Value} {bx' : Bxs} {cs : List C}
    (hp : APost w E k old N xs v' w') (hbx : bx'.Sublist s.bx) (hold : ∀ x, old = some x → Mut g.S0 b s.bx x ∧ ¬ g.S0 x ∧ (g.H x ∨ g.w0.heap.size ≤ x) ∧ ∀ p c, p ∈ bx' → b p.1 ≠ some (some x, c))
    (hd : s.nm.elem dst = false) (hcs : ∀ S', (∀ x, x < w.heap.size → ¬ Mut g.S0 b s.bx x → w'.heap[x]? = w.heap[x]? ∧ ¬ S' x) → RdL w' S' noN cs xs) (hone : One xs) :
    ∃ b', Rel g ⟨setC s.sl dst (.own dst E k N), (dst, .row E k N cs) :: bx', dst :: s.nm⟩ b' (a.put (some dst) v') w' := by
  obtain ⟨q, cap, hv, hNc, hcm, hq0, hq⟩ := hp.row
  have hbd : b dst = none := h.nm dst (by simpa using hd)
  have hm := h.mem
  have hkeepN := Names.put_keep (p := (q, cap)) hbd
  have hsame := Names.put_same b dst (q, cap)
  have hne : ∀ p, p ∈ s.bx → p.1 ≠ dst := fun p hp e => by
    obtain ⟨x, c, h1, _⟩ := (hm.boxes p.1 p.2 hp).name
    rw [e, hbd] at h1; cases h1
  have hput : ∀ p, p ∈ s.bx → ∀ z, b.put dst (q, cap) p.1 = some z → b p.1 = some z := fun p hp z hz => by
    simpa [Names.put, hne p hp] using hz
  have hS : ∀ x, x < w.heap.size → ¬ Mut g.S0 b s.bx x → ¬ Mut g.S0 (b.put dst (q, cap)) ((dst, Bx.row E k N cs) :: bx') x := by
    rintro x hx hn (h0 | ⟨m, X, c, hX, hb⟩)
    · exact hn (.inl h0)
    · rcases List.mem_cons.1 hX with e | hX
      · cases e
        rw [hsame] at hb; cases hb
        rcases (hq x rfl).1 with h1 | h1
        · exact hn (hold x h1.symm).1
        · omega
      · exact hn (.inr ⟨m, X, c, hbx.subset hX, hput _ (hbx.subset hX) _ hb⟩)
  have hkeep : ∀ x, x < w.heap.size → ¬ Mut g.S0 b s.bx x → w'.heap[x]? = w.heap[x]? ∧ ¬ Mut g.S0 (b.put dst (q, cap)) ((dst, Bx.row E k N cs) :: bx') x :=
    fun x hx hn => ⟨hp.grown.block x hx (fun e => hn (hold x e.symm).1), hS x hx hn⟩
  have hcs' := hcs _ hkeep
  have hrd : Rd w' (Mut g.S0 (b.put dst (q, cap)) ((dst, Bx.row E k N cs) :: bx')) (b.put dst (q, cap)) (.own dst E k N) v' := by
    simp only [Rd]
    exact ⟨q, cap, hsame, hq0, hv, hNc, hcm⟩
  refine ⟨b.put dst (q, cap), h.df, ?_, ?_, ?_⟩
  · have := RdL.slot h (some dst) hkeep hkeepN hrd
    simpa [St.slot] using this
  · refine ⟨hm.s0, Nat.le_trans hm.size hp.grown.size, hp.grown.os.trans hm.os, hp.grown.tape.trans hm.tape, hp.grown.output.trans hm.output, Nat.le_trans hm.drawn hp.drawn, ?_, ?_, ?_, fun l p hg hp => hkeepN _ _ (hm.kp l p hg hp), ?_⟩
    · intro x hx hH
      rw [hp.grown.block x (Nat.lt_of_lt_of_le hx hm.size) ?_, hm.old x hx hH]
      intro e
      rcases (hold x e.symm).2.2.1 with h1 | h1
      · exact hH h1
      · omega
    · intro m X hX
      rcases List.mem_cons.1 hX with e | hX
      · cases e
        simp only [BxAt]
        refine ⟨q, cap, hsame, hNc, hcm, ?_, ?_⟩
        · rw [hcs'.length]; exact hp.len
        · cases q with
          | none => exact hq0 rfl
          | some g' =>
            obtain ⟨_, cur, h1, h2, h3⟩ := hq g' rfl
            exact ⟨cur, h1, h2, by rw [h3]; exact hone, by rw [h3]; exact hcs'⟩
      · have hX' := hbx.subset hX
        refine (hm.boxes m X hX').keep hkeep hkeepN fun x c hc => ?_
        obtain ⟨x', c', h1, h2⟩ := (hm.boxes m X hX').name
        rw [hc] at h1; cases h1
        exact hp.grown.block x (h2 x rfl) fun e => (hold x e.symm).2.2.2 _ c hX hc
    · intro m X x c hX hc
      rcases List.mem_cons.1 hX with e | hX
      · cases e
        rw [hsame] at hc; cases hc
        rcases (hq x rfl).1 with h1 | h1
        · exact ⟨(hold x h1.symm).2.2.1, (hold x h1.symm).2.1⟩
        · have := hm.size
          exact ⟨.inr (by omega), fun h0 => by have := hm.s0 _ h0; omega⟩
      · exact hm.new m X x c (hbx.subset hX) (hput _ (hbx.subset hX) _ hc)
    · rw [List.pairwise_cons]
      refine ⟨fun p hpp => ?_, ?_⟩
      · have hpx := hbx.subset hpp
        refine ⟨fun x c c' h1 h2 => ?_, fun e => hne p hpx e.symm⟩
        rw [hsame] at h1; cases h1
        have h3 := hput p hpx _ h2
        rcases (hq x rfl).1 with h4 | h4
        · exact (hold x h4.symm).2.2.2 p c' hpp h3
        · obtain ⟨x', c'', h5, h6⟩ := (hm.boxes p.1 p.2 hpx).name
          rw [h3] at h5; cases h5
          have := h6 x rfl
          omega
      · refine List.pairwise_iff_forall_sublist.2 fun {p r} hpr => ?_
        have hp1 := hbx.subset (hpr.subset (List.mem_cons_self ..))
        have hr1 := hbx.subset (hpr.subset (List.mem_cons_of_mem _ (List.mem_cons_self ..)))
        have ha := List.pairwise_iff_forall_sublist.1 hm.apart (hpr.trans hbx)
        exact ⟨fun x c c' h1 h2 => ha.1 x c c' (hput p hp1 _ h1) (hput r hr1 _ h2), ha.2⟩
  · intro l hl
    simp only [List.mem_cons, not_or] at hl
    simp [Names.put, hl.1, h.nm l hl.2]
theorem run_append_none {P : Program} {w : World} {T E ty : Nat} {i : TypeInfo} (ht : P.underlying T = some (.slice E)) (hi : P.info? E = some i) (q : Option Nat) (n c c' : Nat) (hn : n ≤ c) :
    (Builtin.append_ #[T, T] ty #[.slice (q.map fun g => ⟨g, 0, none⟩) n c, .slice none 0 c']).run P w = .ok (.slice (q.map fun g => ⟨g, 0, none⟩) n c) w := by
  cases q <;> simp [Builtin.append_, run_underlying ht, Go.sizeOf, typeInfo, hi, Builtin.lenOf, Builtin.firstCells, hn, storeCells]
theorem One.vals {us : List Value} (h : One us) : ∀ u ∈ us, u.oneCell' = true := h
/-- The elements that are appended, as they lie in memory. -/
def Src (w : World) (k m : Nat) (x : Value) (news : List Value) : Prop :=
  news.length = m * k ∧ One news ∧ ((m = 0 ∧ ∃ A c, x = .slice A 0 c) ∨ ∃ a c, x = .slice (some a) m c ∧ ∀ j u, news[j]? = some u → w.cell? (a.add j) = some u)
/-- The cells of a row that is owned. -/
def Held (w : World) (E k n c : Nat) (xs : List Value) : Option Nat → Prop
  | none => c = 0
  | some g => ∃ arr, w.heap[g]? = some (.cells arr E (0, 0)) ∧ arr.size = c * k ∧ arr.toList.take (n * k) = xs
theorem append_own_post {P : Program} {w : World} {T E ty : Nat} {i : TypeInfo} {z : Value} {k bytes : Nat} (ht : P.underlying T = some (.slice E)) (hi : P.info? E = some i) (hz : i.zero = some z)
    (hk : i.size = k) (hby : i.bytes = bytes) (hzs : z.cells.size = k) (hk0 : 0 < k) {q : Option Nat} {n c m : Nat} {xs news : List Value} {x : Value} (hnc : n ≤ c) (hcm : c ≤ maxLen) (hxl : xs.length = n * k)
    (hq : Held w E k n c xs q)
    (hs : Src w k m x news) (h1 : (n + m) * bytes ≤ 140737488355328) (h2 : n + m ≤ 9223372036854775807) (hlt : ∀ g, q = some g → g < w.heap.size) :
    ∃ v' w', (Builtin.append_ #[T, T] ty #[.slice (q.map fun g => ⟨g, 0, none⟩) n c, x]).run P w = .ok v' w' ∧ APost w E k q (n + m) (xs ++ news) v' w' := by
  obtain ⟨hnl, hn1, hs⟩ := hs
  have hlen : (xs ++ news).length = (n + m) * k := by rw [List.length_append, hxl, hnl, Nat.add_mul]
  rcases hs with ⟨rfl, A, c', rfl⟩ | ⟨ad, c', rfl, hcells⟩
  · have hnil : news = [] := List.eq_nil_of_length_eq_zero (by simpa using hnl)
    subst hnil
    have hrun : (Builtin.append_ #[T, T] ty #[.slice (q.map fun g => ⟨g, 0, none⟩) n c, .slice A 0 c']).run P w = .ok (.slice (q.map fun g => ⟨g, 0, none⟩) n c) w := by
      cases A with
      | none => exact run_append_none ht hi q n c c' hnc
      | some ad => cases q <;> simp [Builtin.append_, run_underlying ht, Go.sizeOf, typeInfo, hi, Builtin.lenOf, Builtin.firstCells, loadCells, loadCellsFrom, hnc, storeCells]
    refine ⟨_, _, hrun, World.grownBy.refl w _, Nat.le_refl _, by simpa using hxl, q, c, rfl, hnc, hcm, fun e => by subst e; exact hq, fun g' e => ?_⟩
    subst e
    obtain ⟨arr, h3, h4, h5⟩ := hq
    exact ⟨.inl rfl, arr, h3, h4, by simpa using h5⟩
  · have hown : w.ownsRow 0 E k (.slice (q.map fun g => ⟨g, 0, none⟩) n c) n xs := by
      refine ⟨hxl, ?_⟩
      cases q with
      | none =>
        have hc0 : c = 0 := hq
        subst hc0
        have hn0 : n = 0 := by omega
        subst hn0
        exact .inl ⟨rfl, rfl⟩
      | some g =>
        obtain ⟨arr, h3, h4, h5⟩ := hq
        exact .inr ⟨g, c, arr, rfl, Nat.zero_le _, h3, hnc, hcm, h4, h5⟩
    obtain ⟨v', w', hrun, hown', hgr, hnil, hat⟩ := run_append_own_at (P := P) w 0 T ty E i z k bytes ht hi hz hk hby hzs hk0 _ n xs hown ad m c' news hnl hcells hn1 (by unfold maxLen; omega) h1 (Nat.zero_le _)
    have hob : (Value.slice (q.map fun g => (⟨g, 0, none⟩ : Addr)) n c).ownBlock = q := by cases q <;> rfl
    rw [hob] at hgr hat
    refine ⟨v', w', hrun, hgr, run_drawn _ _ hrun, hlen, ?_⟩
    rcases hown'.2 with ⟨rfl, h0⟩ | ⟨g', cap, cur, rfl, _, h3, h4, h5, h6, h7⟩
    · exact ⟨none, 0, by rw [h0]; rfl, by omega, by unfold maxLen; omega, fun _ => rfl, fun _ e => by cases e⟩
    · refine ⟨some g', cap, rfl, h4, h5, (fun e => by cases e), fun g'' e => ?_⟩
      cases e
      refine ⟨?_, cur, h3, h6, h7⟩
      rcases hat with h8 | h8
      · exact .inl h8
      · simp only [Value.ownBlock, Option.some.injEq] at h8
        exact .inr (by omega)
theorem append_full_post {P : Program} {w : World} {T E ty : Nat} {i : TypeInfo} {z : Value} {k bytes : Nat} (ht : P.underlying T = some (.slice E)) (hi : P.info? E = some i) (hz : i.zero = some z)
    (hk : i.size = k) (hby : i.bytes = bytes) (hzs : z.cells.size = k) {A : Option Addr} {n m : Nat} {olds news : List Value} {x : Value} (hol : olds.length = n * k)
    (hA : n = 0 ∨ ∃ ad, A = some ad ∧ ∀ j u, olds[j]? = some u → w.cell? (ad.add j) = some u) (hm : 0 < m)
    (hs : Src w k m x news) (h1 : (n + m) * bytes ≤ 140737488355328) (h2 : n + m ≤ 9223372036854775807) :
    ∃ v' w', (Builtin.append_ #[T, T] ty #[.slice A n n, x]).run P w = .ok v' w' ∧ APost w E k none (n + m) (olds ++ news) v' w' := by
  obtain ⟨hnl, hn1, hs⟩ := hs
  have hlen : (olds ++ news).length = (n + m) * k := by rw [List.length_append, hol, hnl, Nat.add_mul]
  rcases hs with ⟨rfl, _⟩ | ⟨a, c', rfl, hcells⟩
  · omega
  have hfit : Builtin.nextslicecap (n + m) n * i.bytes ≤ 281474976710656 := by
    have := Nat.mul_le_mul_right i.bytes (nextslicecap_le (show n < n + m by omega))
    rw [hby] at this ⊢
    rw [Nat.mul_assoc] at this
    omega
  have hrun : ∃ old, (Builtin.append_ #[T, T] ty #[.slice A n n, .slice (some a) m c']).run P w =
      .ok (.slice (some ⟨w.heap.size, 0, none⟩) (n + m) (grownCap w (n + m) n E)) (w.drew.alloc (.cells (olds.toArray ++ news.toArray ++ Builtin.zeroCells z.cells (grownCap w (n + m) n E - (n + m))) E)) ∧ old = olds := by
    refine ⟨_, ?_, rfl⟩
    rcases A with _ | ad
    · have hn0 : n = 0 := by
        rcases hA with h | ⟨_, h, _⟩
        · exact h
        · cases h
      subst hn0
      have holds : olds = [] := List.eq_nil_of_length_eq_zero (by simpa using hol)
      subst holds
      have := run_append_nil (P := P) w T ty E i z ht hi hz a m c' news (by rw [hk]; exact hnl) hcells hm (by omega) (by rw [hby]; rw [Nat.zero_add] at h1; omega)
      simpa using this
    · refine run_append_grow (P := P) w T ty E i z ht hi hz ad n n olds (by rw [hk]; exact hol) ?_ a m c' news (by rw [hk]; exact hnl) hcells (by omega) (by omega) hfit
      rcases hA with rfl | ⟨ad', h, hc⟩
      · have holds : olds = [] := List.eq_nil_of_length_eq_zero (by simpa using hol)
        subst holds
        intro j u hu; simp at hu
      · cases h; exact hc
  obtain ⟨_, hrun, _⟩ := hrun
  have hcap : n + m ≤ grownCap w (n + m) n E := grownCap_ge w _ _ _
  have hcapm : grownCap w (n + m) n E ≤ maxLen := grownCap_le_maxLen w _ _ _ (by unfold maxLen; omega)
  refine ⟨_, _, hrun, ?_, run_drawn _ _ hrun, hlen, some w.heap.size, _, rfl, hcap, hcapm, (fun e => by cases e), fun g' e => ?_⟩
  · have hb : Below w.heap.size w (w.drew.alloc (.cells (olds.toArray ++ news.toArray ++ Builtin.zeroCells z.cells (grownCap w (n + m) n E - (n + m))) E)) :=
      ((Below.refl _ w).drew).alloc (Nat.le_refl _) _
    exact ⟨hb.os, hb.tape, hb.output, hb.size, fun x hx _ => hb.block x hx⟩
  · cases e
    refine ⟨.inr (Nat.le_refl _), _, heap_alloc_new w.drew _, ?_, ?_⟩
    · have : (olds.length + news.length) = (n + m) * k := by rw [← List.length_append]; exact hlen
      simp only [Array.size_append, List.size_toArray, size_zeroCells, hzs, this]
      rw [← Nat.add_mul, Nat.add_sub_cancel' hcap]
    · rw [← hlen, Array.toList_append, Array.toList_append]
      exact List.take_left' (by simp)
theorem Src.of {w : World} {S : Nat → Prop} {b : Names} {E k m : Nat} {f : Bool} {es : List C} {x : Value} (hone : oneL es = true) (h : Rd w S b (.sl E k m f es) x) :
    ∃ news, Src w k m x news ∧ RdL w S noN es news := by
  simp only [Rd] at h
  obtain ⟨A, c, rfl, h2, h3, h4, h5, h6⟩ := h
  rcases h6 with rfl | ⟨g, off, arr, fr, rfl, hS, hg, hL⟩
  · have : es = [] := List.eq_nil_of_length_eq_zero (by simpa using h5)
    subst this
    exact ⟨[], ⟨by simp, by intro u hu; simp at hu, .inl ⟨rfl, A, c, rfl⟩⟩, by simp [RdL]⟩
  · refine ⟨_, ⟨by rw [← hL.length]; exact h5, hL.one hone, .inr ⟨_, c, rfl, fun j u hu => ?_⟩⟩, hL⟩
    rw [cell_block hg]
    rw [List.getElem?_take] at hu
    split at hu
    · rw [List.getElem?_drop] at hu; simpa using hu
    · cases hu
theorem putV0 {g : Ghost} {s : St} {b : Names} {a : Act} {w : World} (h : Rel g s b a w) (dst : Option Nat) {d : C} {v : Value} (hd : Rd w (Mut g.S0 b s.bx) b d v) :
    Rel g ⟨s.slot dst d, s.bx, s.nm⟩ b (a.put dst v) w :=
  ⟨by have := h.df; cases dst <;> simpa [Act.put] using this, RdL.slot h dst (fun _ _ hn => ⟨rfl, hn⟩) (fun _ _ h => h) hd, h.mem, h.nm⟩
theorem aappend_sound {P : Program} {G : Tab} (hG : TabOk P G) {T dst ty : Nat} {s : St} {dx dy : C} {K : St → Prop} (h : aappend G T dst s dx dy K) {g : Ghost} {b : Names} {a : Act} {w : World} (hr : Rel g s b a w)
    {vx vy : Value} (hx : Rd w (Mut g.S0 b s.bx) b dx vx) (hy : Rd w (Mut g.S0 b s.bx) b dy vy) :
    ∃ v' w', (Builtin.append_ #[T, T] ty #[vx, vy]).run P w = .ok v' w' ∧ Nxt g K (a.put (some dst) v') w' := by
  obtain ⟨sl, bx, nm⟩ := s
  simp only [aappend] at h
  cases hT : G T with
  | none => simp [hT] at h
  | some t =>
    have hok := (hG.ok T t hT).sh
    simp only [hT] at h
    cases hsh : t.sh <;> rw [hsh] at hok <;> simp only [hsh] at h
    case slice E =>
      simp only [shOk] at hok
      cases hE : G E with
      | none => simp [hE] at h
      | some t' =>
        simp only [hE] at h
        have hEok := hG.ok E t' hE
        obtain ⟨i, z, hi, hi1, hi2, hz, hzl⟩ := hEok.info
        have hzs : z.cells.size = t'.size := by rw [← hEok.zlen, ← hzl]; simp
        cases dy <;> simp only at h <;> try (exact h.elim)
        case sl E3 k3 m f3 es =>
          obtain ⟨hb0, hone, h'⟩ := bchk_iff.1 h
          clear h
          simp only [Bool.and_eq_true, Bool.not_eq_true'] at hb0
          obtain ⟨⟨hk3, hk0⟩, hnm0⟩ := hb0
          have hk3 := Nat.eq_of_beq_eq_true hk3
          subst hk3
          have hk0 : 0 < t'.size := Nat.le_of_ble_eq_true hk0
          have hnm : (nm.elem dst) = false := by simpa using elemN_mem hnm0
          obtain ⟨news, hsrc, hnews⟩ := Src.of hone hy
          have hnews' : ∀ (S' : Nat → Prop) (w' : World), (∀ x, x < w.heap.size → ¬ Mut g.S0 b bx x → w'.heap[x]? = w.heap[x]? ∧ ¬ S' x) → RdL w' S' noN es news :=
            fun S' w' hk => hnews.keep hk fun _ _ hh => hh
          have h := h'
          clear h'
          unfold arow at h
          cases dx <;> simp only at h <;> try (exact h.elim)
          case own l E4 k4 n =>
            cases hl : getB bx l with
            | none => simp [hl] at h
            | some B =>
              cases B with
              | cells _ _ _ => simp [hl] at h
              | map _ => simp [hl] at h
              | iter _ _ _ => simp [hl] at h
              | str _ _ => simp [hl] at h
              | win _ _ _ _ _ _ => simp [hl] at h
              | row E2 k2 n2 cs =>
                simp only [hl] at h
                obtain ⟨hb1, rfl, h'⟩ := bchk_iff.1 h
                clear h
                rw [delBK_iff] at h'
                simp only [Bool.and_eq_true] at hb1
                have e1 := Nat.eq_of_beq_eq_true hb1.1
                have e2 := Nat.eq_of_beq_eq_true hb1.2
                subst e1; subst e2
                obtain ⟨⟨hby, h63⟩, cs', N, ⟨rfl, rfl⟩, hK⟩ := h'
                have hmem := getB_mem hl
                obtain ⟨q, c, h1, h2, h3, h4, h5⟩ := hr.mem.boxes l _ hmem
                simp only [Rd] at hx
                obtain ⟨q', c', h6, h7, rfl, h8, h9⟩ := hx
                rw [h1] at h6; cases h6
                have hlt : ∀ g, q = some g → g < w.heap.size := by
                  intro g' e
                  obtain ⟨x, c'', h10, h11⟩ := (hr.mem.boxes l _ hmem).name
                  rw [h1] at h10; cases h10
                  exact h11 g' e
                have hold : ∀ x, q = some x → Mut g.S0 b bx x ∧ ¬ g.S0 x ∧ (g.H x ∨ g.w0.heap.size ≤ x) ∧ ∀ p c, p ∈ delB bx l → b p.1 ≠ some (some x, c) := by
                  intro x e
                  subst e
                  have hn := hr.mem.new l _ x c hmem h1
                  refine ⟨.inr ⟨l, _, c, hmem, h1⟩, hn.2, hn.1, fun p c2 hp hb => ?_⟩
                  exact delB_ne hr.mem.uniq p hp (hr.mem.same ((delB_sub _ _).subset hp) hmem hb h1)
                have hxs : ∃ xs, xs.length = n2 * t'.size ∧ One xs ∧ (∀ (S' : Nat → Prop) (w' : World), (∀ x, x < w.heap.size → ¬ Mut g.S0 b bx x → w'.heap[x]? = w.heap[x]? ∧ ¬ S' x) → RdL w' S' noN cs xs) ∧
                    Held w E2 t'.size n2 c xs q := by
                  cases q with
                  | none =>
                    have hc : c = 0 := h5
                    have hn0 : n2 = 0 := by omega
                    subst hn0
                    have : cs = [] := List.eq_nil_of_length_eq_zero (by simpa using h4)
                    subst this
                    exact ⟨[], by simp, by intro u hu; simp at hu, fun _ _ _ => by simp [RdL], hc⟩
                  | some gg =>
                    obtain ⟨arr, h10, h11, h12, h13⟩ := h5
                    exact ⟨_, by rw [← h13.length]; exact h4, h12, fun S' w' hk => h13.keep hk fun _ _ h => h, arr, h10, h11, rfl⟩
                obtain ⟨xs, hxl, hx1, hxk, hq⟩ := hxs
                obtain ⟨v', w', hrun, hp⟩ := append_own_post (P := P) (ty := ty) hok hi hz hi1 hi2 hzs hk0 h2 h3 hxl hq hsrc hby h63 hlt
                rw [setK_iff] at hK
                obtain ⟨b', hr'⟩ := hr.appended (cs := cs ++ es) hp (delB_sub bx l) hold hnm (fun S' hk => (hxk S' w' hk).append (hnews' S' w' hk))
                  (fun u hu => by rcases List.mem_append.1 hu with h | h; exact hx1 u h; exact hsrc.2.1 u h)
                exact ⟨v', w', hrun, _, b', hr', hK⟩
          case v xv =>
            obtain ⟨rfl, ⟨hby, h63⟩, cs', N, ⟨rfl, rfl⟩, hK⟩ := h
            simp only [Rd] at hx
            subst hx
            obtain ⟨v', w', hrun, hp⟩ := append_own_post (P := P) (ty := ty) (q := none) (c := 0) (n := 0) (xs := []) hok hi hz hi1 hi2 hzs hk0 (Nat.le_refl _) (by unfold maxLen; omega) (by simp) rfl hsrc hby h63 (fun _ e => by cases e)
            rw [setK_iff] at hK
            obtain ⟨b', hr'⟩ := hr.appended (cs := [] ++ es) hp (List.Sublist.refl _) (fun _ e => by cases e) hnm (fun S' hk => by simpa using hnews' S' w' hk) (by simpa using hsrc.2.1)
            exact ⟨v', w', hrun, _, b', hr', hK⟩
          case sl E4 k4 n f4 cs =>
            cases f4 <;> simp only at h <;> try (exact h.elim)
            obtain ⟨hb1, h'⟩ := bchk_iff.1 h
            clear h
            have e2 := Nat.eq_of_beq_eq_true hb1
            subst e2
            rcases h' with ⟨⟨hm0, hone2⟩, h'⟩ | ⟨rfl, hZ⟩
            case inr =>
              have hx' := hx
              simp only [Rd] at hx
              obtain ⟨A, c, rfl, h2, h3, h4, h5, h6⟩ := hx
              obtain ⟨hnl, _, hsrc⟩ := hsrc
              have hnil : news = [] := List.eq_nil_of_length_eq_zero (by simpa using hnl)
              subst hnil
              have hvy : ∃ A' c', vy = .slice A' 0 c' := by
                rcases hsrc with ⟨_, A', c', e⟩ | ⟨ad, c', e, _⟩
                · exact ⟨A', c', e⟩
                · exact ⟨some ad, c', e⟩
              obtain ⟨A', c', rfl⟩ := hvy
              refine ⟨.slice A n c, w, ?_, ?_⟩
              · cases A' <;> cases A <;> simp [Builtin.append_, run_underlying hok, Go.sizeOf, typeInfo, hi, Builtin.lenOf, Builtin.firstCells, loadCells, loadCellsFrom, h2, storeCells]
              · have hZ' := (slotK_iff (s := ⟨sl, bx, nm⟩)).1 hZ
                exact ⟨_, b, putV0 hr (some dst) hx', hZ'⟩
            obtain ⟨⟨hby, h63⟩, cs', N, ⟨rfl, rfl⟩, hK⟩ := h'
            simp only [Rd] at hx
            obtain ⟨A, c, rfl, h2, h3, h4, h5, h6⟩ := hx
            have hc := h4 (by first | trivial | rfl)
            subst hc
            have hxs : ∃ xs, xs.length = c * t'.size ∧ One xs ∧ RdL w (Mut g.S0 b bx) noN cs xs ∧ (c = 0 ∨ ∃ ad, A = some ad ∧ ∀ j u, xs[j]? = some u → w.cell? (ad.add j) = some u) := by
              rcases h6 with rfl | ⟨gg, off, arr, fr, rfl, hS, hg, hL⟩
              · have : cs = [] := List.eq_nil_of_length_eq_zero (by simpa using h5)
                subst this
                exact ⟨[], by simp, by intro u hu; simp at hu, by simp [RdL], .inl rfl⟩
              · refine ⟨_, by rw [← hL.length]; exact h5, hL.one hone2, hL, .inr ⟨_, rfl, fun j u hu => ?_⟩⟩
                rw [cell_block hg]
                rw [List.getElem?_take] at hu
                split at hu
                · rw [List.getElem?_drop] at hu; simpa using hu
                · cases hu
            obtain ⟨xs, hxl, hx1, hxr, hA⟩ := hxs
            obtain ⟨v', w', hrun, hp⟩ := append_full_post (P := P) (ty := ty) hok hi hz hi1 hi2 hzs hxl hA hm0 hsrc hby h63
            rw [setK_iff] at hK
            obtain ⟨b', hr'⟩ := hr.appended (cs := cs ++ es) hp (List.Sublist.refl _) (fun _ e => by cases e) hnm (fun S' hk => (hxr.keep hk fun _ _ hh => hh).append (hnews' S' w' hk))
              (fun u hu => by rcases List.mem_append.1 hu with h | h; exact hx1 u h; exact hsrc.2.1 u h)
            exact ⟨v', w', hrun, _, b', hr', hK⟩
    all_goals (exact h.elim)
end El
namespace El
open Go Go.RowKit
/-! ### A state that says less -/
/-- Of each name of the state that says less: the name it had (none: a slice that was nil). -/
abbrev Ren := List (Nat × Option Nat)
def getR : Ren → Nat → Option (Option Nat)
  | [], _ => none
  | (m, x) :: r, l => match Nat.beq m l with
    | true => some x
    | false => getR r l
mutual
def renC (r : Ren) : C → Option C
  | .own l E k n => (match getR r l with
    | some (some m) => some (.own m E k n)
    | _ => none)
  | .ptr l o => (match getR r l with
    | some (some m) => some (.ptr m o)
    | _ => none)
  | .mp l => (match getR r l with
    | some (some m) => some (.mp m)
    | _ => none)
  | .win l E k n => (match getR r l with
    | some (some m) => some (.win m E k n)
    | _ => none)
  | .wptr l o => (match getR r l with
    | some (some m) => some (.wptr m o)
    | _ => none)
  | .sub l E k i n => (match getR r l with
    | some (some m) => some (.sub m E k i n)
    | _ => none)
  | .fn f cs => (match renL r cs with
    | some ds => some (.fn f ds)
    | none => none)
  | .agg cs => (match renL r cs with
    | some ds => some (.agg ds)
    | none => none)
  | .tup cs => (match renL r cs with
    | some ds => some (.tup ds)
    | none => none)
  | .any => some .any
  | .v x => some (.v x)
  | .sl E k n f cs => some (.sl E k n f cs)
  | .cel E cs => some (.cel E cs)
def renL (r : Ren) : List C → Option (List C)
  | [] => some []
  | d :: ds => (match renC r d, renL r ds with
    | some e, some es => some (e :: es)
    | _, _ => none)
end
def Names.ren (r : Ren) (b : Names) : Names := fun l => match getR r l with
  | some (some m) => b m
  | some none => some (none, 0)
  | none => none
mutual
theorem renC_rd {r : Ren} {w : World} {S S' : Nat → Prop} {b : Names} (hS : ∀ x, x < w.heap.size → ¬ S x → ¬ S' x) : ∀ {d' d : C} {v : Value}, renC r d' = some d → Rd w S b d v → Rd w S' (Names.ren r b) d' v
  | .any, _, _, _, _ => by simp [Rd]
  | .v x, d, v, h, hd => by simp only [renC, Option.some.injEq] at h; subst h; simpa [Rd] using hd
  | .sl E k n f cs, d, v, h, hd => by
    simp only [renC, Option.some.injEq] at h; subst h
    exact (hd.anyNames (b' := noN) rfl).keep (fun x hx hn => ⟨rfl, hS x hx hn⟩) fun _ _ hh => by cases hh
  | .own l E k n, d, v, h, hd => by
    simp only [renC] at h
    split at h
    · rename_i m hm
      simp only [Option.some.injEq] at h; subst h
      simp only [Rd] at hd ⊢
      obtain ⟨a, c, h1, h2⟩ := hd
      exact ⟨a, c, by simp only [Names.ren, hm]; exact h1, h2⟩
    · cases h
  | .ptr l o, d, v, h, hd => by
    simp only [renC] at h
    split at h
    · rename_i m hm
      simp only [Option.some.injEq] at h; subst h
      simp only [Rd] at hd ⊢
      obtain ⟨a, c, h1, h2⟩ := hd
      exact ⟨a, c, by simp only [Names.ren, hm]; exact h1, h2⟩
    · cases h
  | .mp l, d, v, h, hd => by
    simp only [renC] at h
    split at h
    · rename_i m hm
      simp only [Option.some.injEq] at h; subst h
      simp only [Rd] at hd ⊢
      obtain ⟨a, c, h1, h2⟩ := hd
      exact ⟨a, c, by simp only [Names.ren, hm]; exact h1, h2⟩
    · cases h
  | .sub l E k i n, d, v, h, hd => by
    simp only [renC] at h
    split at h
    · rename_i m hm
      simp only [Option.some.injEq] at h; subst h
      simp only [Rd] at hd ⊢
      obtain ⟨a, c, A, c', h1, h2⟩ := hd
      exact ⟨a, c, A, c', by simp only [Names.ren, hm]; exact h1, h2⟩
    · cases h
  | .win l E k n, d, v, h, hd => by
    simp only [renC] at h
    split at h
    · rename_i m hm
      simp only [Option.some.injEq] at h; subst h
      simp only [Rd] at hd ⊢
      obtain ⟨a, o, c, h1, h2⟩ := hd
      exact ⟨a, o, c, by simp only [Names.ren, hm]; exact h1, h2⟩
    · cases h
  | .wptr l o, d, v, h, hd => by
    simp only [renC] at h
    split at h
    · rename_i m hm
      simp only [Option.some.injEq] at h; subst h
      simp only [Rd] at hd ⊢
      obtain ⟨a, c, h1, h2⟩ := hd
      exact ⟨a, c, by simp only [Names.ren, hm]; exact h1, h2⟩
    · cases h
  | .cel E cs, d, v, h, hd => by
    simp only [renC, Option.some.injEq] at h; subst h
    exact (hd.anyNames (b' := noN) rfl).keep (fun x hx hn => ⟨rfl, hS x hx hn⟩) fun _ _ hh => by cases hh
  | .fn f cs, d, v, h, hd => by
    simp only [renC] at h
    split at h
    · rename_i ds hds
      simp only [Option.some.injEq] at h; subst h
      simp only [Rd] at hd ⊢
      obtain ⟨vs, h1, h2⟩ := hd
      exact ⟨vs, h1, renL_rd hS hds h2⟩
    · cases h
  | .agg cs, d, v, h, hd => by
    simp only [renC] at h
    split at h
    · rename_i ds hds
      simp only [Option.some.injEq] at h; subst h
      simp only [Rd] at hd ⊢
      obtain ⟨vs, h1, h2⟩ := hd
      exact ⟨vs, h1, renL_rd hS hds h2⟩
    · cases h
  | .tup cs, d, v, h, hd => by
    simp only [renC] at h
    split at h
    · rename_i ds hds
      simp only [Option.some.injEq] at h; subst h
      simp only [Rd] at hd ⊢
      obtain ⟨vs, h1, h2⟩ := hd
      exact ⟨vs, h1, renL_rd hS hds h2⟩
    · cases h
theorem renL_rd {r : Ren} {w : World} {S S' : Nat → Prop} {b : Names} (hS : ∀ x, x < w.heap.size → ¬ S x → ¬ S' x) : ∀ {ds' ds : List C} {vs : List Value}, renL r ds' = some ds → RdL w S b ds vs → RdL w S' (Names.ren r b) ds' vs
  | [], ds, vs, h, hd => by
    simp only [renL, Option.some.injEq] at h; subst h
    cases vs <;> simp [RdL] at hd ⊢
  | d :: ds', ds, vs, h, hd => by
    simp only [renL] at h
    split at h
    · rename_i e es he hes
      simp only [Option.some.injEq] at h; subst h
      cases vs with
      | nil => simp [RdL] at hd
      | cons v vs =>
        simp only [RdL] at hd ⊢
        exact ⟨renC_rd hS he hd.1, renL_rd hS hes hd.2⟩
    · cases h
end
mutual
/-- d' says no more than d does. -/
def leC (r : Ren) : C → C → Prop
  | .any, _ => True
  | .v x, d => .v x = d
  | .sl E k n true cs, d => .sl E k n true cs = d
  | .sl E k n false cs, d => (match d with
    | .v x => x = .slice none 0 0 ∧ n = 0 ∧ cs = []
    | d => ∃ f, .sl E k n f cs = d)
  | .cel E cs, d => .cel E cs = d
  | .own l E k n, d => (match getR r l with
    | some (some m) => .own m E k n = d
    | some none => n = 0 ∧ d = .v (.slice none 0 0)
    | none => False)
  | .ptr l o, d => renC r (.ptr l o) = some d
  | .mp l, d => renC r (.mp l) = some d
  | .win l E k n, d => renC r (.win l E k n) = some d
  | .wptr l o, d => renC r (.wptr l o) = some d
  | .sub l E k i n, d => renC r (.sub l E k i n) = some d
  | .fn f cs, d => (match d with
    | .fn f' ds => f = f' ∧ leL r cs ds
    | _ => False)
  | .agg cs, d => (match d with
    | .agg ds => leL r cs ds
    | _ => False)
  | .tup cs, d => (match d with
    | .tup ds => leL r cs ds
    | _ => False)
def leL (r : Ren) : List C → List C → Prop
  | [], ds => (match ds with
    | [] => True
    | _ => False)
  | d' :: ds', ds => (match ds with
    | d :: ds => leC r d' d ∧ leL r ds' ds
    | [] => False)
end
theorem Rd.nilSl {w : World} {S : Nat → Prop} {b : Names} {E k : Nat} {f : Bool} : Rd w S b (.sl E k 0 f []) (.slice none 0 0) := by
  simp only [Rd]
  exact ⟨none, 0, rfl, Nat.le_refl _, by unfold maxLen; omega, fun _ => rfl, by simp, .inl (by first | trivial | rfl)⟩
mutual
theorem leC_rd {r : Ren} {w : World} {S S' : Nat → Prop} {b : Names} (hS : ∀ x, x < w.heap.size → ¬ S x → ¬ S' x) : ∀ {d' d : C} {v : Value}, leC r d' d → Rd w S b d v → Rd w S' (Names.ren r b) d' v
  | .any, _, _, _, _ => by simp [Rd]
  | .v x, d, v, h, hd => by simp only [leC] at h; subst h; simpa [Rd] using hd
  | .sl E k n true cs, d, v, h, hd => by
    simp only [leC] at h
    subst h
    exact renC_rd (d' := .sl E k n true cs) hS rfl hd
  | .sl E k n false cs, d, v, h, hd => by
    simp only [leC] at h
    split at h
    · obtain ⟨rfl, rfl, rfl⟩ := h
      simp only [Rd] at hd
      subst hd
      exact Rd.nilSl
    · obtain ⟨f, rfl⟩ := h
      have h2 := renC_rd (d' := .sl E k n f cs) (S' := S') (r := r) hS rfl hd
      simp only [Rd] at h2 ⊢
      obtain ⟨A, c, h3, h4, h5, h6, h7⟩ := h2
      exact ⟨A, c, h3, h4, h5, (fun e => by cases e), h7⟩
  | .cel E cs, d, v, h, hd => by
    simp only [leC] at h
    subst h
    exact renC_rd (d' := .cel E cs) hS rfl hd
  | .own l E k n, d, v, h, hd => by
    simp only [leC] at h
    split at h
    · rename_i m hm
      subst h
      simp only [Rd] at hd ⊢
      obtain ⟨a, c, h1, h2⟩ := hd
      exact ⟨a, c, by simp only [Names.ren, hm]; exact h1, h2⟩
    · rename_i hm
      obtain ⟨rfl, rfl⟩ := h
      simp only [Rd] at hd ⊢
      exact ⟨none, 0, by simp only [Names.ren, hm], fun _ => rfl, by rw [hd]; rfl, Nat.le_refl _, by unfold maxLen; omega⟩
    · exact h.elim
  | .ptr l o, d, v, h, hd => by simp only [leC] at h; exact renC_rd hS h hd
  | .mp l, d, v, h, hd => by simp only [leC] at h; exact renC_rd hS h hd
  | .win l E k n, d, v, h, hd => by simp only [leC] at h; exact renC_rd hS h hd
  | .wptr l o, d, v, h, hd => by simp only [leC] at h; exact renC_rd hS h hd
  | .sub l E k i n, d, v, h, hd => by simp only [leC] at h; exact renC_rd hS h hd
  | .fn f cs, d, v, h, hd => by
    simp only [leC] at h
    split at h <;> try (exact h.elim)
    obtain ⟨rfl, h⟩ := h
    simp only [Rd] at hd ⊢
    obtain ⟨vs, h1, h2⟩ := hd
    exact ⟨vs, h1, leL_rd hS h h2⟩
  | .agg cs, d, v, h, hd => by
    simp only [leC] at h
    split at h <;> try (exact h.elim)
    simp only [Rd] at hd ⊢
    obtain ⟨vs, h1, h2⟩ := hd
    exact ⟨vs, h1, leL_rd hS h h2⟩
  | .tup cs, d, v, h, hd => by
    simp only [leC] at h
    split at h <;> try (exact h.elim)
    simp only [Rd] at hd ⊢
    obtain ⟨vs, h1, h2⟩ := hd
    exact ⟨vs, h1, leL_rd hS h h2⟩
theorem leL_rd {r : Ren} {w : World} {S S' : Nat → Prop} {b : Names} (hS : ∀ x, x < w.heap.size → ¬ S x → ¬ S' x) : ∀ {ds' ds : List C} {vs : List Value}, leL r ds' ds → RdL w S b ds vs → RdL w S' (Names.ren r b) ds' vs
  | [], ds, vs, h, hd => by
    simp only [leL] at h
    split at h
    · cases vs <;> simp [RdL] at hd ⊢
    · exact h.elim
  | d' :: ds', ds, vs, h, hd => by
    simp only [leL] at h
    split at h
    · cases vs with
      | nil => simp [RdL] at hd
      | cons v vs =>
        simp only [RdL] at hd ⊢
        exact ⟨leC_rd hS h.1 hd.1, leL_rd hS h.2 hd.2⟩
    · exact h.elim
end
theorem SubL.le {ds ds' : List C} (h : leL [] ds' ds) : SubL ds ds' := fun _ _ _ _ hr => leL_rd (r := []) (fun _ _ hn => hn) h hr
def leB1 (r : Ren) (bx : Bxs) (l' : Nat) (B' : Bx) : Prop :=
  match getR r l' with
  | some (some m) => (match getB bx m, B' with
    | some (.cells E c cs), .cells E' c' cs' => (E' = E ∧ c' = c) ∧ leL r cs' cs
    | some (.row E k n cs), .row E' k' n' cs' => .row E' k' n' cs' = Bx.row E k n cs
    | some (.map es), .map es' => es' = es
    | some (.iter m2 n seen), .iter m3 n' seen' => getR r m3 = some (some m2) ∧ n' = n ∧ seen' = seen
    | some (.str s pos), .str s' pos' => s' = s ∧ pos' = pos
    | some (.win E k n cs pre post), .win E' k' n' cs' pre' post' => Bx.win E' k' n' cs' pre' post' = .win E k n cs pre post
    | _, _ => False)
  | some none => (match B' with
    | .row _ _ n' cs' => n' = 0 ∧ cs' = []
    | _ => False)
  | none => False
def leB (r : Ren) (bx : Bxs) : Bxs → Prop
  | [] => True
  | (l', B') :: rest => leB1 r bx l' B' ∧ leB r bx rest
def nodupB : List Nat → Bool
  | [] => true
  | x :: l => !l.elem x && nodupB l
def imgs (r : Ren) : Bxs → List Nat
  | [] => []
  | (l, _) :: rest => (match getR r l with
    | some (some m) => m :: imgs r rest
    | _ => imgs r rest)
def subB : List Nat → List Nat → Bool
  | [], _ => true
  | x :: l, m => m.elem x && subB l m
def chkR (r : Ren) (bx' : Bxs) (nm' : List Nat) : Bool := subB (r.map (·.1)) nm' && nodupB (bx'.map (·.1)) && nodupB (imgs r bx')
/-- The given names stay. -/
def givB (r : Ren) : List Nat → Bool
  | [] => true
  | l :: nm => (match given l with
    | true => (match getR r l with
      | some (some m) => Nat.beq m l
      | _ => false)
    | false => true) && givB r nm
theorem givB_mem {r : Ren} : ∀ {nm : List Nat}, givB r nm = true → ∀ l, l ∈ nm → given l = true → getR r l = some (some l)
  | [], _, l, hl, _ => by simp at hl
  | m :: nm, h, l, hl, hg => by
    simp only [givB, Bool.and_eq_true] at h
    rcases List.mem_cons.1 hl with rfl | hl
    · have h1 := h.1
      rw [hg] at h1
      simp only at h1
      split at h1
      · rename_i m he
        have := Nat.eq_of_beq_eq_true h1
        subst this
        exact he
      · cases h1
    · exact givB_mem h.2 l hl hg
/-- The state s' says no more than s does. -/
def LeS (r : Ren) (s s' : St) : Prop := (chkR r s'.bx s'.nm && givB r s.nm) = true ∧ leL r s'.sl s.sl ∧ leB r s.bx s'.bx
theorem nodupB_pair : ∀ {l : List Nat}, nodupB l = true → l.Pairwise (· ≠ ·)
  | [], _ => List.Pairwise.nil
  | x :: l, h => by
    simp only [nodupB, Bool.and_eq_true, Bool.not_eq_true'] at h
    refine List.pairwise_cons.2 ⟨fun y hy e => ?_, nodupB_pair h.2⟩
    subst e
    have := h.1
    simp at this
    exact this hy
theorem getR_mem : ∀ {r : Ren} {l : Nat} {x : Option Nat}, getR r l = some x → l ∈ r.map (·.1)
  | [], _, _, h => by simp [getR] at h
  | (m, y) :: r, l, x, h => by
    simp only [getR] at h
    split at h
    · rename_i e; have := Nat.eq_of_beq_eq_true e; subst this; simp
    · simp only [List.map_cons, List.mem_cons]; exact .inr (getR_mem h)
theorem subB_mem : ∀ {l m : List Nat}, subB l m = true → ∀ x, x ∈ l → x ∈ m
  | [], _, _, x, hx => by simp at hx
  | y :: l, m, h, x, hx => by
    simp only [subB, Bool.and_eq_true] at h
    rcases List.mem_cons.1 hx with rfl | hx
    · simpa using h.1
    · exact subB_mem h.2 x hx
theorem leB_mem {r : Ren} {bx : Bxs} : ∀ {bx' : Bxs}, leB r bx bx' → ∀ l' B', (l', B') ∈ bx' → leB1 r bx l' B'
  | [], _, _, _, h => by simp at h
  | (m, B) :: rest, h, l', B', hm => by
    simp only [leB] at h
    rcases List.mem_cons.1 hm with e | hm
    · cases e; exact h.1
    · exact leB_mem h.2 l' B' hm
theorem mem_imgs {r : Ren} : ∀ {bx : Bxs} {l m : Nat} {B : Bx}, (l, B) ∈ bx → getR r l = some (some m) → m ∈ imgs r bx
  | [], _, _, _, h, _ => by simp at h
  | (l0, B0) :: rest, l, m, B, h, hm => by
    simp only [imgs]
    rcases List.mem_cons.1 h with e | h
    · cases e; rw [hm]; exact List.mem_cons_self ..
    · have := mem_imgs h hm
      split
      · exact List.mem_cons_of_mem _ this
      · exact this
theorem imgs_pair {r : Ren} : ∀ {bx : Bxs}, (imgs r bx).Pairwise (· ≠ ·) → bx.Pairwise fun p q => ∀ m, getR r p.1 = some (some m) → getR r q.1 ≠ some (some m)
  | [], _ => List.Pairwise.nil
  | (l, B) :: rest, h => by
    simp only [imgs] at h
    rw [List.pairwise_cons]
    split at h
    · rename_i m hm
      rw [List.pairwise_cons] at h
      refine ⟨fun q hq m' h1 h2 => ?_, imgs_pair h.2⟩
      rw [hm] at h1; cases h1
      exact h.1 _ (mem_imgs (B := q.2) hq h2) rfl
    · rename_i hm
      exact ⟨fun q hq m' h1 => absurd h1 (hm m'), imgs_pair h⟩
theorem Rel.leK {g : Ghost} {s s' : St} {b : Names} {a : Act} {w : World} (h : Rel g s b a w) {r : Ren} (hl : chkR r s'.bx s'.nm = true ∧ leL r s'.sl s.sl ∧ leB r s.bx s'.bx)
    (hkp : ∀ l p, given l = true → g.b0 l = some p → Names.ren r b l = some p) : Rel g s' (Names.ren r b) a w := by
  obtain ⟨hc, hsl, hbx⟩ := hl
  simp only [chkR, Bool.and_eq_true] at hc
  obtain ⟨⟨hc1, hc2⟩, hc3⟩ := hc
  have hm := h.mem
  -- a box of the lesser state is one of the greater
  have hsrc : ∀ l' B', (l', B') ∈ s'.bx → ∀ x c, Names.ren r b l' = some (some x, c) → ∃ m B, getR r l' = some (some m) ∧ (m, B) ∈ s.bx ∧ b m = some (some x, c) := by
    intro l' B' hl' x c hx
    have h1 := leB_mem hbx l' B' hl'
    unfold leB1 at h1
    unfold Names.ren at hx
    cases hr : getR r l' with
    | none => rw [hr] at hx; simp at hx
    | some y =>
      rw [hr] at hx h1
      cases y with
      | none => simp at hx
      | some m =>
        simp only at hx h1
        cases hB : getB s.bx m with
        | none => rw [hB] at h1; simp at h1
        | some B => exact ⟨m, B, rfl, getB_mem hB, hx⟩
  have hS : ∀ x, Mut g.S0 (Names.ren r b) s'.bx x → Mut g.S0 b s.bx x := by
    rintro x (hx | ⟨l', B', c, hl', hx⟩)
    · exact .inl hx
    · obtain ⟨m, B, _, h2, h3⟩ := hsrc l' B' hl' x c hx
      exact .inr ⟨m, B, c, h2, h3⟩
  have hS' : ∀ x, x < w.heap.size → ¬ Mut g.S0 b s.bx x → ¬ Mut g.S0 (Names.ren r b) s'.bx x := fun x _ hn hh => hn (hS x hh)
  refine ⟨h.df, leL_rd hS' hsl h.sl, ⟨hm.s0, hm.size, hm.os, hm.tape, hm.output, hm.drawn, hm.old, ?_, ?_, ?_, ?_⟩, ?_⟩
  · intro l' B' hl'
    have h1 := leB_mem hbx l' B' hl'
    unfold leB1 at h1
    cases hr : getR r l' with
    | none => rw [hr] at h1; exact h1.elim
    | some y =>
      rw [hr] at h1
      cases y with
      | none =>
        cases B' with
        | cells _ _ _ => exact h1.elim
        | map _ => exact h1.elim
        | iter _ _ _ => exact h1.elim
        | str _ _ => exact h1.elim
        | win _ _ _ _ _ _ => exact h1.elim
        | row E' k' n' cs' =>
          obtain ⟨rfl, rfl⟩ := h1
          simp only [BxAt]
          exact ⟨none, 0, by simp only [Names.ren, hr], Nat.le_refl _, by unfold maxLen; omega, by simp, rfl⟩
      | some m =>
        simp only at h1
        cases hB : getB s.bx m with
        | none => rw [hB] at h1; simp at h1
        | some B =>
          rw [hB] at h1
          have hbox := hm.boxes m B (getB_mem hB)
          cases B with
          | cells E c cs =>
            cases B' with
            | row _ _ _ _ => simp at h1
            | map _ => simp at h1
            | iter _ _ _ => simp at h1
            | str _ _ => simp at h1
            | win _ _ _ _ _ _ => simp at h1
            | cells E' c' cs' =>
              obtain ⟨⟨rfl, rfl⟩, h1⟩ := h1
              simp only [BxAt] at hbox ⊢
              obtain ⟨gg, arr, h2, h3, h4, h5⟩ := hbox
              exact ⟨gg, arr, by simp only [Names.ren, hr]; exact h2, h3, h4, leL_rd hS' h1 h5⟩
          | row E k n cs =>
            cases B' with
            | cells _ _ _ => simp at h1
            | map _ => simp at h1
            | iter _ _ _ => simp at h1
            | str _ _ => simp at h1
            | win _ _ _ _ _ _ => simp at h1
            | row E' k' n' cs' =>
              simp only [Bx.row.injEq] at h1
              obtain ⟨rfl, rfl, rfl, rfl⟩ := h1
              simp only [BxAt] at hbox ⊢
              obtain ⟨q, c, h2, h3, h4, h5, h6⟩ := hbox
              refine ⟨q, c, by simp only [Names.ren, hr]; exact h2, h3, h4, h5, ?_⟩
              cases q with
              | none => exact h6
              | some gg =>
                obtain ⟨arr, h7, h8, h9, h10⟩ := h6
                exact ⟨arr, h7, h8, h9, h10.keep (fun x hx hn => ⟨rfl, hS' x hx hn⟩) fun _ _ hh => hh⟩
          | map es =>
            cases B' with
            | map es' =>
              simp only at h1
              subst h1
              simp only [BxAt] at hbox ⊢
              obtain ⟨gg, c, h2, arr, h3, h4, h5, h0, h6⟩ := hbox
              exact ⟨gg, c, by simp only [Names.ren, hr]; exact h2, arr, h3, h4, h5, h0, h6.keep (fun x hx hn => ⟨rfl, hS' x hx hn⟩) fun _ _ hh => hh⟩
            | _ => simp at h1
          | iter m2 n seen =>
            cases B' with
            | iter m3 n' seen' =>
              simp only at h1
              obtain ⟨h7, rfl, rfl⟩ := h1
              simp only [BxAt] at hbox ⊢
              obtain ⟨gg, c, h2, gm, h3, c', h4⟩ := hbox
              exact ⟨gg, c, by simp only [Names.ren, hr]; exact h2, gm, h3, c', by simp only [Names.ren, h7]; exact h4⟩
            | _ => simp at h1
          | str s0 pos =>
            cases B' with
            | str s' pos' =>
              simp only at h1
              obtain ⟨rfl, rfl⟩ := h1
              simp only [BxAt] at hbox ⊢
              obtain ⟨gg, c, h2, h3⟩ := hbox
              exact ⟨gg, c, by simp only [Names.ren, hr]; exact h2, h3⟩
            | _ => simp at h1
          | win E k n cs pre post =>
            cases B' with
            | win E' k' n' cs' pre' post' =>
              simp only [Bx.win.injEq] at h1
              obtain ⟨rfl, rfl, rfl, rfl, rfl, rfl⟩ := h1
              simp only [BxAt] at hbox ⊢
              obtain ⟨gg, c, h2, mid, h3, h4, h5, h6, h7⟩ := hbox
              exact ⟨gg, c, by simp only [Names.ren, hr]; exact h2, mid, h3, h4, h5, h6, h7.keep (fun x hx hn => ⟨rfl, hS' x hx hn⟩) fun _ _ hh => hh⟩
            | _ => simp at h1
  · intro l' B' x c hl' hx
    obtain ⟨m, B, _, h2, h3⟩ := hsrc l' B' hl' x c hx
    exact hm.new m B x c h2 h3
  · exact hkp
  · have h1 : s'.bx.Pairwise fun p q => p.1 ≠ q.1 := by
      have := nodupB_pair hc2
      rwa [List.pairwise_map] at this
    have h2 := imgs_pair (nodupB_pair hc3)
    refine (h1.and h2).imp_of_mem fun {p q} hp hq hpq => ⟨fun x c c' h3 h4 => ?_, hpq.1⟩
    obtain ⟨m, B, h5, h6, h7⟩ := hsrc p.1 p.2 hp x c h3
    obtain ⟨m', B', h8, h9, h10⟩ := hsrc q.1 q.2 hq x c' h4
    have := hm.same h6 h9 h7 h10
    simp only at this
    subst this
    exact hpq.2 m h5 h8
  · intro l hl
    unfold Names.ren
    cases hr : getR r l with
    | none => rfl
    | some y => exact absurd (subB_mem hc1 l (getR_mem hr)) hl
theorem Rel.le {g : Ghost} {s s' : St} {b : Names} {a : Act} {w : World} (h : Rel g s b a w) {r : Ren} (hl : LeS r s s') : Rel g s' (Names.ren r b) a w := by
  obtain ⟨hc, h1, h2⟩ := hl
  simp only [Bool.and_eq_true] at hc
  refine h.leK ⟨hc.1, h1, h2⟩ fun l p hg hp => ?_
  have h3 := h.mem.kp l p hg hp
  have h4 : l ∈ s.nm := by
    apply Classical.byContradiction
    intro hn
    rw [h.nm l hn] at h3; cases h3
  have h5 := givB_mem hc.2 l h4 hg
  unfold Names.ren
  rw [h5]; exact h3
def pickK : Bxs → List Nat → (Bxs → Prop) → Prop
  | _, [], K => K []
  | bx, l :: ls, K => match getB bx l with
    | some B => pickK bx ls fun r => K ((l, B) :: r)
    | none => False
def pick : Bxs → List Nat → Bxs
  | _, [] => []
  | bx, l :: ls => match getB bx l with
    | some B => (l, B) :: pick bx ls
    | none => pick bx ls
theorem pickK_of {bx : Bxs} : ∀ {ls : List Nat} {K : Bxs → Prop}, pickK bx ls K → K (pick bx ls)
  | [], _, h => h
  | l :: ls, K, h => by
    simp only [pickK] at h
    simp only [pick]
    cases hg : getB bx l with
    | none => rw [hg] at h; exact h.elim
    | some B => rw [hg] at h; exact pickK_of h
def appK {α : Type} : List α → List α → (List α → Prop) → Prop
  | [], r, K => K r
  | x :: l, r, K => appK l r fun q => K (x :: q)
theorem appK_iff {α : Type} : ∀ {l r : List α} {K : List α → Prop}, appK l r K ↔ K (l ++ r)
  | [], _, _ => Iff.rfl
  | x :: l, r, K => by simp only [appK, List.cons_append]; exact appK_iff
def idR (nm : List Nat) : Ren := nm.map fun l => (l, some l)
end El
namespace El
open Go Go.RowKit
/-! ### A block that turns no more -/
/-- The immutable reading of what names a block. -/
def frzHead (l : Nat) (B : Bx) (d : C) : C :=
  match d with
  | .own m E k n => (match Nat.beq m l, B with
    | true, .row E' k' n' cs => .sl E' k' n' false cs
    | _, _ => .own m E k n)
  | .sub m E k i n => (match Nat.beq m l, B with
    | true, .row E' k' _ cs => .sl E' k' n false ((cs.drop (i * k')).take (n * k'))
    | _, _ => .sub m E k i n)
  | .ptr m o => (match Nat.beq m l, B with
    | true, .row E' _ _ cs => .cel E' (cs.drop o)
    | true, .cells E' _ cs => .cel E' (cs.drop o)
    | _, _ => .ptr m o)
  | d => d
mutual
def frzC (l : Nat) (B : Bx) : C → C
  | .fn f cs => .fn f (frzL l B cs)
  | .agg cs => .agg (frzL l B cs)
  | .tup cs => .tup (frzL l B cs)
  | .own m E k n => frzHead l B (.own m E k n)
  | .ptr m o => frzHead l B (.ptr m o)
  | .sub m E k i n => frzHead l B (.sub m E k i n)
  | .any => .any
  | .v x => .v x
  | .sl E k n f cs => .sl E k n f cs
  | .mp m => .mp m
  | .win m E k n => .win m E k n
  | .wptr m o => .wptr m o
  | .cel E cs => .cel E cs
def frzL (l : Nat) (B : Bx) : List C → List C
  | [] => []
  | d :: ds => frzC l B d :: frzL l B ds
end
/-- The lengths that are said of the block. -/
def lenB (B : Bx) (n : Nat) : Prop :=
  match B with
  | .row _ _ n' _ => n = n'
  | _ => True
def subB1 (B : Bx) (k i n : Nat) : Prop :=
  match B with
  | .row _ k' n' _ => k = k' ∧ i + n ≤ n'
  | _ => True
mutual
def lenC (l : Nat) (B : Bx) : C → Prop
  | .fn _ cs => lenL l B cs
  | .agg cs => lenL l B cs
  | .tup cs => lenL l B cs
  | .own m _ _ n => (match Nat.beq m l with
    | true => lenB B n
    | false => True)
  | .sub m _ k i n => (match Nat.beq m l with
    | true => subB1 B k i n
    | false => True)
  | _ => True
def lenL (l : Nat) (B : Bx) : List C → Prop
  | [] => True
  | d :: ds => (match d with
    | .fn f cs => lenC l B (.fn f cs) ∧ lenL l B ds
    | .agg cs => lenC l B (.agg cs) ∧ lenL l B ds
    | .tup cs => lenC l B (.tup cs) ∧ lenL l B ds
    | .own m E k n => (match Nat.beq m l with
      | true => lenC l B (.own m E k n) ∧ lenL l B ds
      | false => lenL l B ds)
    | .sub m E k i n => (match Nat.beq m l with
      | true => lenC l B (.sub m E k i n) ∧ lenL l B ds
      | false => lenL l B ds)
    | _ => lenL l B ds)
end
def frzOk : Bx → Bool
  | .row .. => true
  | .cells _ _ cs => noNameL cs
  | _ => false
structure FrzAt (w : World) (S S' : Nat → Prop) (b : Names) (l : Nat) (B : Bx) : Prop where
  sub : ∀ x, S' x → S x
  ok : frzOk B = true
  box : BxAt w S b l B
  out : ∀ x c, b l = some (some x, c) → ¬ S' x
theorem RdL.weak {w : World} {S S' : Nat → Prop} {b : Names} (h : ∀ x, S' x → S x) {ds : List C} {us : List Value} (hd : RdL w S b ds us) : RdL w S' b ds us :=
  hd.keep (fun x _ hn => ⟨rfl, fun hh => hn (h x hh)⟩) fun _ _ hh => hh
theorem Rd.weak {w : World} {S S' : Nat → Prop} {b : Names} (h : ∀ x, S' x → S x) {d : C} {u : Value} (hd : Rd w S b d u) : Rd w S' b d u :=
  hd.keep (fun x _ hn => ⟨rfl, fun hh => hn (h x hh)⟩) fun _ _ hh => hh
theorem RdL.dropTake {w : World} {S : Nat → Prop} {b : Names} {cs : List C} {us : List Value} {n o : Nat} (h : RdL w S b cs (us.take n)) : RdL w S b (cs.drop o) ((us.drop o).take (cs.drop o).length) := by
  have h1 := h.drop o
  have h2 := h1.length
  rw [List.drop_take] at h1 h2
  have : (us.drop o).take (cs.drop o).length = (us.drop o).take (n - o) := by
    rw [h2, List.length_take]
    rcases Nat.le_total (n - o) (us.drop o).length with h3 | h3
    · rw [Nat.min_eq_left h3]
    · rw [Nat.min_eq_right h3, List.take_of_length_le (Nat.le_refl _), List.take_of_length_le h3]
  rw [this]; exact h1
theorem frzHead_rd {w : World} {S S' : Nat → Prop} {b : Names} {l : Nat} {B : Bx} (hf : FrzAt w S S' b l B) {d : C} {v : Value} (hn : lenC l B d) (hd : Rd w S b d v) : Rd w S' b (frzHead l B d) v := by
  have hbox := hf.box
  have hok := hf.ok
  cases d <;> simp only [frzHead] <;> try exact hd.weak hf.sub
  case own m E k n =>
    split
    · rename_i E' k' n' cs e
      have e := Nat.eq_of_beq_eq_true e
      subst e
      simp only [lenC, Nat.beq_refl, lenB] at hn
      subst hn
      simp only [BxAt] at hbox
      obtain ⟨a, c, h1, h2, h3, h4, h5⟩ := hbox
      simp only [Rd] at hd ⊢
      obtain ⟨a', c', h6, h7, rfl, h8, h9⟩ := hd
      rw [h1] at h6
      simp only [Option.some.injEq, Prod.mk.injEq] at h6
      obtain ⟨rfl, rfl⟩ := h6
      refine ⟨_, _, rfl, h8, h9, (fun h => by cases h), h4, ?_⟩
      cases a with
      | none => simp only at h5; exact .inl (by omega)
      | some g =>
        obtain ⟨arr, h10, h11, h12, h13⟩ := h5
        exact .inr ⟨g, 0, arr, (_, (0, 0)), rfl, hf.out g c h1, h10, by simpa using h13.weak hf.sub⟩
    · exact hd.weak hf.sub
  case sub m E k i n =>
    split
    · rename_i E' k' n' cs e
      have e := Nat.eq_of_beq_eq_true e
      subst e
      simp only [lenC, Nat.beq_refl, subB1] at hn
      obtain ⟨rfl, hin⟩ := hn
      simp only [BxAt] at hbox
      obtain ⟨a, c, h1, h2, h3, h4, h5⟩ := hbox
      simp only [Rd] at hd ⊢
      obtain ⟨a', c2, A, c', h6, rfl, h8, h9, h10⟩ := hd
      rw [h1] at h6
      simp only [Option.some.injEq, Prod.mk.injEq] at h6
      obtain ⟨rfl, rfl⟩ := h6
      have hlen : ((cs.drop (i * k)).take (n * k)).length = n * k := by
        rw [List.length_take, List.length_drop, h4, ← Nat.sub_mul, Nat.min_eq_left]
        exact Nat.mul_le_mul_right _ (by omega)
      refine ⟨A, c', rfl, h8, h9, (fun h => by cases h), hlen, ?_⟩
      rcases Nat.eq_zero_or_pos n with h0 | h0
      · exact .inl h0
      · right
        obtain ⟨g, rfl, rfl⟩ := h10 h0
        obtain ⟨arr, h10, h11, h12, h13⟩ := h5
        refine ⟨g, i * k, arr, (_, (0, 0)), rfl, hf.out g c h1, h10, ?_⟩
        have h14 := ((h13.weak hf.sub).drop (i * k)).take (n * k)
        rw [List.drop_take, List.take_take, ← Nat.sub_mul] at h14
        rwa [Nat.min_eq_left (Nat.mul_le_mul_right _ (by omega))] at h14
    · exact hd.weak hf.sub
  case ptr m o =>
    split
    · rename_i E' k' n' cs e
      have e := Nat.eq_of_beq_eq_true e
      subst e
      simp only [BxAt] at hbox
      obtain ⟨a, c, h1, h2, h3, h4, h5⟩ := hbox
      simp only [Rd] at hd ⊢
      obtain ⟨g, c', h6, rfl⟩ := hd
      rw [h1] at h6
      simp only [Option.some.injEq, Prod.mk.injEq] at h6
      obtain ⟨rfl, rfl⟩ := h6
      obtain ⟨arr, h10, h11, h12, h13⟩ := h5
      exact ⟨g, o, arr, (_, (0, 0)), rfl, hf.out g c h1, h10, (h13.weak hf.sub).dropTake⟩
    · rename_i E' c0 cs e
      have e := Nat.eq_of_beq_eq_true e
      subst e
      simp only [BxAt] at hbox
      obtain ⟨g, arr, h1, h2, h3, h4⟩ := hbox
      simp only [Rd] at hd ⊢
      obtain ⟨g', c', h6, rfl⟩ := hd
      rw [h1] at h6
      simp only [Option.some.injEq, Prod.mk.injEq] at h6
      obtain ⟨rfl, rfl⟩ := h6
      simp only [frzOk] at hok
      have h5 := (h4.anyNames (b' := noN) hok).weak hf.sub
      refine ⟨g, o, arr, (_, (0, 0)), rfl, hf.out g _ h1, h2, ?_⟩
      refine RdL.dropTake (n := arr.toList.length) ?_
      rwa [List.take_length]
    · exact hd.weak hf.sub
mutual
theorem frzC_rd {w : World} {S S' : Nat → Prop} {b : Names} {l : Nat} {B : Bx} (hf : FrzAt w S S' b l B) : ∀ {d : C} {v : Value}, lenC l B d → Rd w S b d v → Rd w S' b (frzC l B d) v
  | .fn f cs, v, hn, hd => by
    simp only [frzC, Rd, lenC] at hn hd ⊢
    obtain ⟨vs, h1, h2⟩ := hd
    exact ⟨vs, h1, frzL_rd hf hn h2⟩
  | .agg cs, v, hn, hd => by
    simp only [frzC, Rd, lenC] at hn hd ⊢
    obtain ⟨vs, h1, h2⟩ := hd
    exact ⟨vs, h1, frzL_rd hf hn h2⟩
  | .tup cs, v, hn, hd => by
    simp only [frzC, Rd, lenC] at hn hd ⊢
    obtain ⟨vs, h1, h2⟩ := hd
    exact ⟨vs, h1, frzL_rd hf hn h2⟩
  | .own m E k n, v, hn, hd => by simp only [frzC]; exact frzHead_rd hf hn hd
  | .ptr m o, v, hn, hd => by simp only [frzC]; exact frzHead_rd hf hn hd
  | .sub m E k i n, v, hn, hd => by simp only [frzC]; exact frzHead_rd hf hn hd
  | .any, v, hn, hd => by simp [frzC, Rd]
  | .v x, v, hn, hd => by simp only [frzC]; exact hd.weak hf.sub
  | .sl .., v, hn, hd => by simp only [frzC]; exact hd.weak hf.sub
  | .mp .., v, hn, hd => by simp only [frzC]; exact hd.weak hf.sub
  | .win .., v, hn, hd => by simp only [frzC]; exact hd.weak hf.sub
  | .wptr .., v, hn, hd => by simp only [frzC]; exact hd.weak hf.sub
  | .cel .., v, hn, hd => by simp only [frzC]; exact hd.weak hf.sub
theorem frzL_rd {w : World} {S S' : Nat → Prop} {b : Names} {l : Nat} {B : Bx} (hf : FrzAt w S S' b l B) : ∀ {ds : List C} {vs : List Value}, lenL l B ds → RdL w S b ds vs → RdL w S' b (frzL l B ds) vs
  | [], [], _, _ => by simp [frzL, RdL]
  | [], _ :: _, _, hd => by simp [RdL] at hd
  | _ :: _, [], _, hd => by simp [RdL] at hd
  | d :: ds, v :: vs, hn, hd => by
    have hn2 : lenC l B d ∧ lenL l B ds := by
      cases d
      case own m E k n =>
        simp only [lenL] at hn
        cases e : Nat.beq m l with
        | true => rw [e] at hn; exact hn
        | false => rw [e] at hn; exact ⟨by simp only [lenC, e], hn⟩
      case sub m E k i n =>
        simp only [lenL] at hn
        cases e : Nat.beq m l with
        | true => rw [e] at hn; exact hn
        | false => rw [e] at hn; exact ⟨by simp only [lenC, e], hn⟩
      all_goals (simp only [lenL] at hn; first | exact hn | exact ⟨by simp only [lenC], hn⟩)
    simp only [frzL, RdL] at hd ⊢
    exact ⟨frzC_rd hf hn2.1 hd.1, frzL_rd hf hn2.2 hd.2⟩
end
/-- The contents of the other blocks. -/
def frzB (l : Nat) (B : Bx) : Bx → Bx
  | .cells E c cs => .cells E c (frzL l B cs)
  | X => X
def lenX (l : Nat) (B : Bx) : Bx → Prop
  | .cells _ _ cs => lenL l B cs
  | _ => True
def frzBs (l : Nat) (B : Bx) : Bxs → Bxs
  | [] => []
  | (m, X) :: r => (m, frzB l B X) :: frzBs l B r
def lenBs (l : Nat) (B : Bx) : Bxs → Prop
  | [] => True
  | (_, .cells _ _ cs) :: r => lenL l B cs ∧ lenBs l B r
  | (_, _) :: r => lenBs l B r
theorem frzB_at {w : World} {S S' : Nat → Prop} {b : Names} {l m : Nat} {B X : Bx} (hf : FrzAt w S S' b l B) (hn : lenX l B X) (h : BxAt w S b m X) : BxAt w S' b m (frzB l B X) := by
  cases X
  case cells E c cs =>
    simp only [frzB, BxAt, lenX] at h hn ⊢
    obtain ⟨g, arr, h1, h2, h3, h4⟩ := h
    exact ⟨g, arr, h1, h2, h3, frzL_rd hf hn h4⟩
  all_goals exact h.keep (fun x _ hn => ⟨rfl, fun hh => hn (hf.sub x hh)⟩) (fun _ _ hh => hh) fun _ _ _ => rfl
theorem lenBs_at {l : Nat} {B : Bx} : ∀ {bx : Bxs}, lenBs l B bx → ∀ p, p ∈ bx → lenX l B p.2
  | [], _, p, hp => by simp at hp
  | (m, X) :: r, h, p, hp => by
    have h2 : lenX l B X ∧ lenBs l B r := by cases X <;> simp only [lenBs] at h <;> first | exact h | exact ⟨by simp only [lenX], h⟩
    rcases List.mem_cons.1 hp with rfl | hp
    · exact h2.1
    · exact lenBs_at h2.2 p hp
theorem frzBs_mem {l : Nat} {B : Bx} : ∀ {bx : Bxs} {m : Nat} {X : Bx}, (m, X) ∈ frzBs l B bx → ∃ Y, (m, Y) ∈ bx ∧ X = frzB l B Y
  | [], _, _, h => by simp [frzBs] at h
  | (m0, X0) :: r, m, X, h => by
    simp only [frzBs, List.mem_cons, Prod.mk.injEq] at h
    rcases h with ⟨rfl, rfl⟩ | h
    · exact ⟨_, List.mem_cons_self .., rfl⟩
    · obtain ⟨Y, h1, h2⟩ := frzBs_mem h
      exact ⟨Y, List.mem_cons_of_mem _ h1, h2⟩
theorem mem_frzBs {l : Nat} {B : Bx} : ∀ {bx : Bxs} {m : Nat} {X : Bx}, (m, X) ∈ bx → (m, frzB l B X) ∈ frzBs l B bx
  | [], _, _, h => by simp at h
  | (m0, X0) :: r, m, X, h => by
    simp only [frzBs, List.mem_cons, Prod.mk.injEq] at h ⊢
    rcases h with ⟨rfl, rfl⟩ | h
    · exact .inl ⟨rfl, rfl⟩
    · exact .inr (mem_frzBs h)
theorem frzBs_names {l : Nat} {B : Bx} : ∀ (bx : Bxs), (frzBs l B bx).map (·.1) = bx.map (·.1)
  | [] => rfl
  | (m0, X0) :: r => by simp only [frzBs, List.map_cons, frzBs_names r]
theorem mem_delB {l : Nat} : ∀ {bx : Bxs} {p : Nat × Bx}, p ∈ bx → p.1 ≠ l → p ∈ delB bx l
  | [], _, h, _ => by simp at h
  | (m, B) :: r, p, h, hne => by
    simp only [delB]
    rcases List.mem_cons.1 h with rfl | h
    · split
      · rename_i e; exact absurd (Nat.eq_of_beq_eq_true e) hne
      · exact List.mem_cons_self ..
    · split
      · exact h
      · exact List.mem_cons_of_mem _ (mem_delB h hne)
theorem Rel.freeze {g : Ghost} {s : St} {b : Names} {a : Act} {w : World} (h : Rel g s b a w) {l : Nat} {B : Bx} (hB : getB s.bx l = some B) (hok : frzOk B = true) (h1 : lenL l B s.sl) (h2 : lenBs l B (delB s.bx l)) :
    Rel g ⟨frzL l B s.sl, frzBs l B (delB s.bx l), s.nm⟩ b a w := by
  have hm := h.mem
  have hBm := getB_mem hB
  have hsub : ∀ x, Mut g.S0 b (frzBs l B (delB s.bx l)) x → Mut g.S0 b s.bx x := by
    rintro x (hx | ⟨m, X, c, hX, hb⟩)
    · exact .inl hx
    · obtain ⟨Y, hY, _⟩ := frzBs_mem hX
      exact .inr ⟨m, Y, c, (delB_sub s.bx l).subset hY, hb⟩
  have hf : FrzAt w (Mut g.S0 b s.bx) (Mut g.S0 b (frzBs l B (delB s.bx l))) b l B := by
    refine ⟨hsub, hok, hm.boxes l B hBm, ?_⟩
    rintro x c hx (hS | ⟨m, X, c', hX, hb⟩)
    · exact (hm.new l B x c hBm hx).2 hS
    · obtain ⟨Y, hY, _⟩ := frzBs_mem hX
      have := hm.same (p := (m, Y)) (q := (l, B)) ((delB_sub s.bx l).subset hY) hBm hb hx
      exact delB_ne hm.uniq _ hY this
  refine ⟨h.df, frzL_rd hf h1 h.sl, ⟨hm.s0, hm.size, hm.os, hm.tape, hm.output, hm.drawn, hm.old, ?_, ?_, hm.kp, ?_⟩, h.nm⟩
  · intro m X hX
    obtain ⟨Y, hY, rfl⟩ := frzBs_mem hX
    exact frzB_at hf (lenBs_at h2 (m, Y) hY) (hm.boxes m Y ((delB_sub s.bx l).subset hY))
  · intro m X x c hX hx
    obtain ⟨Y, hY, _⟩ := frzBs_mem hX
    exact hm.new m Y x c ((delB_sub s.bx l).subset hY) hx
  · have h3 : ((frzBs l B (delB s.bx l)).map (·.1)).Pairwise fun p q => (∀ g c c', b p = some (some g, c) → b q ≠ some (some g, c')) ∧ p ≠ q := by
      rw [frzBs_names, List.pairwise_map]
      exact hm.apart.sublist (delB_sub s.bx l)
    rwa [List.pairwise_map] at h3
/-- Some blocks turn no more, in the order of a list. -/
def frzK : List Nat → St → (St → Prop) → Prop
  | [], s, K => K s
  | l :: ls, s, K => match s with
    | ⟨sl, bx, nm⟩ => match getB bx l with
      | none => frzK ls ⟨sl, bx, nm⟩ K
      | some B => bchk (frzOk B) (lenL l B sl ∧ lenBs l B (delB bx l) ∧ frzK ls ⟨frzL l B sl, frzBs l B (delB bx l), nm⟩ K)
theorem frzK_sound {g : Ghost} {a : Act} {w : World} {b : Names} : ∀ {ls : List Nat} {s : St} {K : St → Prop}, frzK ls s K → Rel g s b a w → ∃ s', Rel g s' b a w ∧ K s'
  | [], s, K, h, hr => ⟨s, hr, h⟩
  | l :: ls, ⟨sl, bx, nm⟩, K, h, hr => by
    simp only [frzK] at h
    split at h
    · exact frzK_sound h hr
    · rename_i B hB
      obtain ⟨h0, h1, h2, h3⟩ := bchk_iff.1 h
      exact frzK_sound h3 (hr.freeze hB h0 h1 h2)
end El
namespace El
open Go Go.RowKit
def Hof (b : Names) (bx : Bxs) (x : Nat) : Prop := ∃ l B c, (l, B) ∈ bx ∧ b l = some (some x, c)
/-- A function that turns the blocks that it is lent, and no others: called with what reads as args while the blocks hold bx it comes back with what reads as r, and the blocks hold bx'. -/
def GSpec (P : Program) (f : Nat) (args : List C) (bx : Bxs) (r : C) (bx' : Bxs) (ns : List Nat) : Prop :=
  FnOk P f ∧ ∀ (w : World) (S : Nat → Prop) (b : Names) (vs : List Value), (∀ l, l ∉ bx.map (·.1) → b l = none) → Mem ⟨w, S, Hof b bx, noN⟩ b bx w → RdL w (Mut S b bx) b args vs →
    Calls P f vs.toArray w fun e w' => ∃ v b', e = .returned v ∧ (∀ l p, b l = some p → b' l = some p) ∧ (∀ l, l ∉ ns → b l = none → b' l = none) ∧ Mem ⟨w, S, Hof b bx, noN⟩ b' bx' w' ∧ Rd w' (Mut S b' bx') b' r v
theorem Names.ren_idR {nm : List Nat} {b : Names} (l : Nat) : Names.ren (idR nm) b l = if l ∈ nm then b l else none := by
  unfold Names.ren
  induction nm with
  | nil => simp [idR, getR]
  | cons m nm ih =>
    have h1 : idR (m :: nm) = (m, some m) :: idR nm := rfl
    rw [h1]
    simp only [getR]
    cases e : Nat.beq m l with
    | true =>
      have e := Nat.eq_of_beq_eq_true e
      subst e
      simp
    | false =>
      have e' : m ≠ l := fun h => by subst h; simp at e
      have e2 : ¬ l = m := fun h => e' h.symm
      simp only [ih, List.mem_cons, e2, false_or]
theorem FSpec.g {P : Program} {f : Nat} {args : List C} {r : C} (h : FSpec P f args r) : GSpec P f args [] r [] [] := by
  refine ⟨h.1, fun w S b vs hb hm ha => ?_⟩
  have hb0 : b = noN := by funext l; exact hb l (by simp)
  subst hb0
  have hS : ∀ x, Mut S noN [] x → S x := by
    rintro x (hx | ⟨_, _, _, hx, _⟩)
    · exact hx
    · simp at hx
  refine (h.2 w S vs hm.s0 (ha.weak fun x hx => .inl hx)).mono ?_
  rintro e w' ⟨v, rfl, h1, h2⟩
  exact ⟨v, noN, rfl, fun _ _ h => h, fun _ _ h => h, hm.below h1, h2.weak hS⟩
/-! ### Lent blocks -/
def delsB : Bxs → List Nat → Bxs
  | bx, [] => bx
  | bx, l :: ls => delsB (delB bx l) ls
def delsK : Bxs → List Nat → (Bxs → Prop) → Prop
  | bx, [], K => K bx
  | bx, l :: ls, K => delBK bx l fun bx => delsK bx ls K
theorem delsK_iff : ∀ {ls : List Nat} {bx : Bxs} {K : Bxs → Prop}, delsK bx ls K ↔ K (delsB bx ls)
  | [], _, _ => Iff.rfl
  | l :: ls, bx, K => by simp only [delsK, delsB]; rw [delBK_iff]; exact delsK_iff
theorem delsB_sub : ∀ (ls : List Nat) (bx : Bxs), (delsB bx ls).Sublist bx
  | [], bx => List.Sublist.refl _
  | l :: ls, bx => (delsB_sub ls _).trans (delB_sub bx l)
theorem delsB_ne : ∀ {ls : List Nat} {bx : Bxs}, (bx.Pairwise fun p q => p.1 ≠ q.1) → ∀ p, p ∈ delsB bx ls → p.1 ∉ ls
  | [], _, _, p, _ => by simp
  | l :: ls, bx, hu, p, hp => by
    have h1 := delsB_ne (hu.sublist (delB_sub bx l)) p hp
    have h2 := delB_ne hu p ((delsB_sub ls _).subset hp)
    simp only [List.mem_cons, not_or]
    exact ⟨h2, h1⟩
theorem mem_delsB : ∀ {ls : List Nat} {bx : Bxs} {p : Nat × Bx}, p ∈ bx → p.1 ∉ ls → p ∈ delsB bx ls
  | [], _, _, h, _ => h
  | l :: ls, bx, p, h, hn => by
    simp only [List.mem_cons, not_or] at hn
    simp only [delsB]
    exact mem_delsB (mem_delB h hn.1) hn.2
theorem pick_mem : ∀ {ls : List Nat} {bx : Bxs} {p : Nat × Bx}, p ∈ pick bx ls → p ∈ bx ∧ p.1 ∈ ls
  | [], _, _, h => by simp [pick] at h
  | l :: ls, bx, p, h => by
    simp only [pick] at h
    split at h
    · rename_i B hB
      rcases List.mem_cons.1 h with rfl | h
      · exact ⟨getB_mem hB, List.mem_cons_self ..⟩
      · exact ⟨(pick_mem h).1, List.mem_cons_of_mem _ (pick_mem h).2⟩
    · exact ⟨(pick_mem h).1, List.mem_cons_of_mem _ (pick_mem h).2⟩
theorem getB_of {bx : Bxs} (hu : bx.Pairwise fun p q => p.1 ≠ q.1) {l : Nat} {B : Bx} (h : (l, B) ∈ bx) : getB bx l = some B := by
  induction bx with
  | nil => simp at h
  | cons p r ih =>
    obtain ⟨m, X⟩ := p
    rw [List.pairwise_cons] at hu
    simp only [getB]
    rcases List.mem_cons.1 h with e | h
    · cases e; simp
    · have : Nat.beq m l = false := by
        cases e : Nat.beq m l with
        | false => rfl
        | true => exact absurd (Nat.eq_of_beq_eq_true e) (hu.1 _ h)
      rw [this]; exact ih hu.2 h
theorem mem_pick {bx : Bxs} (hu : bx.Pairwise fun p q => p.1 ≠ q.1) : ∀ {ls : List Nat} {p : Nat × Bx}, p ∈ bx → p.1 ∈ ls → p ∈ pick bx ls
  | [], _, _, h => by simp at h
  | l :: ls, p, h, hl => by
    simp only [pick]
    rcases List.mem_cons.1 hl with e | hl
    · rw [← e, getB_of hu (B := p.2) h]; exact List.mem_cons_self ..
    · split
      · exact List.mem_cons_of_mem _ (mem_pick hu h hl)
      · exact mem_pick hu h hl
theorem pick_pair {bx : Bxs} {R : Nat × Bx → Nat × Bx → Prop} (hR : ∀ p q, p ∈ bx → q ∈ bx → p.1 ≠ q.1 → R p q) : ∀ {ls : List Nat}, nodupB ls = true → (pick bx ls).Pairwise R
  | [], _ => by simp [pick]
  | l :: ls, hn => by
    simp only [nodupB, Bool.and_eq_true, Bool.not_eq_true'] at hn
    simp only [pick]
    split
    · rename_i B hB
      rw [List.pairwise_cons]
      refine ⟨fun q hq => hR _ _ (getB_mem hB) (pick_mem hq).1 ?_, pick_pair hR hn.2⟩
      intro e
      have := (pick_mem hq).2
      rw [← e] at this
      have h1 := hn.1
      simp at h1
      exact h1 this
    · exact pick_pair hR hn.2
def disjB : List Nat → List Nat → Bool
  | [], _ => true
  | x :: l, m => !elemN m x && disjB l m
theorem disjB_mem : ∀ {l m : List Nat}, disjB l m = true → ∀ x, x ∈ l → x ∉ m
  | [], _, _, x, hx => by simp at hx
  | y :: l, m, h, x, hx => by
    simp only [disjB, Bool.and_eq_true, Bool.not_eq_true'] at h
    rcases List.mem_cons.1 hx with rfl | hx
    · exact elemN_mem h.1
    · exact disjB_mem h.2 x hx
def namesB : Bxs → List Nat
  | [] => []
  | (l, _) :: r => l :: namesB r
theorem namesB_eq : ∀ (bx : Bxs), namesB bx = bx.map (·.1)
  | [] => rfl
  | (l, B) :: r => by simp only [namesB, List.map_cons, namesB_eq r]
/-- The call of a function that is lent blocks. -/
def acallG (P : Program) (s : St) (c : Call) (dst : Option Nat) (lend : List Nat) (K : St → Prop) : Prop :=
  match s, c.callee with
  | ⟨sl, bx, nm⟩, .value f => (match St.ev ⟨sl, bx, nm⟩ f with
    | .fn f caps => cargs (c.args.toList.map (St.ev ⟨sl, bx, nm⟩)) caps fun L => pickK bx lend fun bx1 => delsK bx lend fun rest => ∃ args' bx1' r bxo ns, GSpec P f args' bx1' r bxo ns ∧ leL (idR lend) args' L ∧ leB (idR lend) bx1 bx1' ∧
        bchk (nodupB lend && (subB lend (namesB bx1') && nodupB (namesB bx1') && nodupB (imgs (idR lend) bx1')) && disjB ns nm && disjB (namesB bxo) (namesB rest)) (slotK sl dst r fun l => appK bxo rest fun bx' => appK ns nm fun nm' => K ⟨l, bx', nm'⟩)
    | _ => False)
  | _, _ => False
theorem idR_map (nm : List Nat) : (idR nm).map (·.1) = nm := by simp [idR, List.map_map, Function.comp_def]
theorem acallG_sound {P : Program} {o : Oper} {c : Call} (ho : o.op = .call c) {s : St} {lend : List Nat} {K : St → Prop} (h : acallG P s c o.dst lend K) {g : Ghost} {b : Names} {a : Act} {w : World} (hr : Rel g s b a w)
    (Q : Exit → Act → World → Prop) : o.wp P a w (Nxt g K) Q := by
  obtain ⟨callee, ⟨args⟩, ⟨ats⟩⟩ := c
  obtain ⟨sl, bx, nm⟩ := s
  cases callee with
  | invoke _ _ => simp [acallG] at h
  | builtin _ => simp [acallG] at h
  | value f =>
  simp only [acallG] at h
  split at h
  case h_2 => exact h.elim
  rename_i ff caps hev
  obtain ⟨L, h, hL⟩ := cargs_sound h
  have h := pickK_of h
  rw [delsK_iff] at h
  obtain ⟨args', bx1', r, bxo, ns, hspec, hargs, hboxes, h⟩ := h
  obtain ⟨hchk, hK⟩ := bchk_iff.1 h
  simp only [Bool.and_eq_true] at hchk
  obtain ⟨⟨⟨hnd, ⟨hc1, hc2⟩, hc3⟩, hdj⟩, hdx⟩ := hchk
  have hdx : ∀ p q, p ∈ bxo → q ∈ delsB bx lend → p.1 ≠ q.1 := by
    intro p q hp hq e
    refine disjB_mem hdx p.1 (by rw [namesB_eq]; exact List.mem_map.2 ⟨p, hp, rfl⟩) ?_
    rw [namesB_eq, e]
    exact List.mem_map.2 ⟨q, hq, rfl⟩
  have hm := hr.mem
  have hu := hm.uniq
  -- what the callee sees
  have hMutBack : ∀ x, Mut (Mut g.S0 b (delsB bx lend)) b (pick bx lend) x → Mut g.S0 b bx x := by
    rintro x ((h0 | ⟨l, B, c, hl, hb⟩) | ⟨l, B, c, hl, hb⟩)
    · exact .inl h0
    · exact .inr ⟨l, B, c, (delsB_sub _ _).subset hl, hb⟩
    · exact .inr ⟨l, B, c, (pick_mem hl).1, hb⟩
  have hMut : ∀ x, Mut g.S0 b bx x → Mut (Mut g.S0 b (delsB bx lend)) b (pick bx lend) x := by
    rintro x (h0 | ⟨l, B, c, hl, hb⟩)
    · exact .inl (.inl h0)
    · by_cases hin : l ∈ lend
      · exact .inr ⟨l, B, c, mem_pick hu hl hin, hb⟩
      · exact .inl (.inr ⟨l, B, c, mem_delsB hl hin, hb⟩)
  have hHnew : ∀ x, Hof b (pick bx lend) x → (g.H x ∨ g.w0.heap.size ≤ x) ∧ ¬ g.S0 x ∧ ¬ Mut g.S0 b (delsB bx lend) x := by
    rintro x ⟨l, B, c, hl, hb⟩
    have h1 := hm.new l B x c (pick_mem hl).1 hb
    refine ⟨h1.1, h1.2, ?_⟩
    rintro (h0 | ⟨l', B', c', hl', hb'⟩)
    · exact h1.2 h0
    · have := hm.same (p := (l', B')) (q := (l, B)) ((delsB_sub _ _).subset hl') (pick_mem hl).1 hb' hb
      exact delsB_ne hu _ hl' (by rw [this]; exact (pick_mem hl).2)
  have hv := hr.ev f
  rw [hev] at hv
  simp only [Rd] at hv
  obtain ⟨cvs, hfv, hcv⟩ := hv
  obtain ⟨W, hvs, hrun⟩ := hL P w _ _ ff _ _ (RdL.of (w := w) (S := Mut g.S0 b bx) (b := b) (ev := St.ev ⟨sl, bx, nm⟩) (ρ := a.eval) args fun p _ => hr.ev p) hcv
  let G1 : Ghost := ⟨w, Mut g.S0 b (delsB bx lend), Hof b (pick bx lend), noN⟩
  let a1 : Act := { tmps := W.toArray, defers := [] }
  have hrel1 : Rel G1 ⟨L, pick bx lend, nm⟩ b a1 w := by
    refine ⟨rfl, by simpa using hvs.weak hMutBack, ⟨fun x hx => hm.mut_lt (hMutBack x (.inl hx)), Nat.le_refl _, rfl, rfl, rfl, Nat.le_refl _, fun _ _ _ => rfl, ?_, ?_, (fun _ _ _ hh => by cases hh), ?_⟩, hr.nm⟩
    · intro l B hl
      exact (hm.boxes l B (pick_mem hl).1).keep (fun x _ hn => ⟨rfl, fun hh => hn (hMutBack x hh)⟩) (fun _ _ hh => hh) fun _ _ _ => rfl
    · intro l B x c hl hb
      exact ⟨.inl ⟨l, B, c, hl, hb⟩, (hHnew x ⟨l, B, c, hl, hb⟩).2.2⟩
    · refine pick_pair (fun p q hp hq hpq => ⟨fun x c c' h1 h2 => hpq (hm.same hp hq h1 h2), hpq⟩) hnd
  have hnm : ∀ l, l ∈ (pick bx lend).map (·.1) → l ∈ nm := by
    intro l hl
    obtain ⟨p, hp, rfl⟩ := List.mem_map.1 hl
    apply Classical.byContradiction
    intro hn
    obtain ⟨x, c, h1, _⟩ := (hm.boxes p.1 p.2 (pick_mem hp).1).name
    rw [hr.nm _ hn] at h1; cases h1
  have hle : chkR (idR lend) bx1' lend = true ∧ leL (idR lend) args' L ∧ leB (idR lend) (pick bx lend) bx1' := by
    refine ⟨?_, hargs, hboxes⟩
    have hss : subB lend lend = true := by
      have : ∀ (l m : List Nat), (∀ x, x ∈ l → x ∈ m) → subB l m = true := by
        intro l
        induction l with
        | nil => intro m _; rfl
        | cons x l ih => intro m hx; simp only [subB, Bool.and_eq_true]; exact ⟨by simpa using hx x (List.mem_cons_self ..), ih m fun y hy => hx y (List.mem_cons_of_mem _ hy)⟩
      exact this _ _ fun _ h => h
    simp only [chkR, idR_map, Bool.and_eq_true]
    rw [namesB_eq] at hc1 hc2
    exact ⟨⟨hss, hc2⟩, hc3⟩
  have hrel2 := hrel1.leK (s' := ⟨args', bx1', lend⟩) hle (fun _ _ _ hh => by cases hh)
  have hbn : ∀ l, Names.ren (idR lend) b l = if l ∈ lend then b l else none := fun l => Names.ren_idR l
  generalize Names.ren (idR lend) b = b2 at hrel2 hbn
  have hH : ∀ x, Hof b2 bx1' x → Hof b (pick bx lend) x := by
    rintro x ⟨l, B, c, hl, hb⟩
    have h1 := leB_mem hboxes l B hl
    unfold leB1 at h1
    have h2 : l ∈ lend := by
      apply Classical.byContradiction
      intro hn
      rw [hbn, if_neg hn] at hb; cases hb
    have h3 : getR (idR lend) l = some (some l) := by
      have := Names.ren_idR (nm := lend) (b := fun m => some (some m, 0)) l
      rw [if_pos h2] at this
      unfold Names.ren at this
      cases hg : getR (idR lend) l with
      | none => rw [hg] at this; cases this
      | some y =>
        rw [hg] at this
        cases y with
        | none => cases this
        | some y => simp only [Option.some.injEq, Prod.mk.injEq, and_true] at this; rw [this]
    rw [h3] at h1
    simp only at h1
    cases hg : getB (pick bx lend) l with
    | none => rw [hg] at h1; simp at h1
    | some Y => exact ⟨l, Y, c, getB_mem hg, by rw [hbn, if_pos h2] at hb; exact hb⟩
  have hcov : ∀ l, l ∈ lend → l ∈ bx1'.map (·.1) := fun l hl => by have := subB_mem hc1 l hl; rwa [namesB_eq] at this
  have hcall := hspec.2 w (Mut g.S0 b (delsB bx lend)) b2 W (fun l hl => by rw [hbn, if_neg fun h => hl (hcov l h)])
    (by
      have h2 := hrel2.mem
      exact ⟨h2.s0, Nat.le_refl _, rfl, rfl, rfl, Nat.le_refl _, fun _ _ _ => rfl, h2.boxes, fun l B x c hl hb => ⟨.inl ⟨l, B, c, hl, hb⟩, (h2.new l B x c hl hb).2⟩, (fun _ _ _ hh => by cases hh), h2.apart⟩)
    (by simpa using hrel2.sl)
  -- the call
  refine Runs.wp (R := fun v w' => Nxt g K (a.put o.dst v) w') ?_ fun v w' h => h
  have hexec : (execOp a.eval o).run P w = .ok (.enter ff W.toArray) w := by
    have h1 := hspec.1.run W.toArray w
    have he : execOp a.eval o = (do let d ← resolve a.eval ⟨.value f, args.toArray, ats.toArray⟩ o.type; invoke d.target d.args : Sem Next) := by unfold execOp; rw [ho]
    rw [he]
    simp only [resolve, hfv]
    rw [List.map_toArray, hrun]
    exact h1
  rw [hexec]
  simp only [Runs]
  refine hcall.mono ?_
  rintro e w' ⟨v, b', rfl, hb1, hb2, hm', hd⟩
  refine ⟨v, rfl, ?_⟩
  have hnmr : ∀ l B, (l, B) ∈ delsB bx lend → l ∈ nm ∧ l ∉ lend ∧ l ∉ ns := by
    intro l B hl
    have h1 : l ∈ nm := by
      apply Classical.byContradiction
      intro hn
      obtain ⟨x, c, h1, _⟩ := (hm.boxes l B ((delsB_sub _ _).subset hl)).name
      rw [hr.nm _ hn] at h1; cases h1
    exact ⟨h1, delsB_ne hu _ hl, fun h2 => disjB_mem hdj l h2 h1⟩
  have hold' : ∀ l, l ∉ lend → l ∉ ns → b' l = none := fun l h1 h2 => hb2 l h2 (by rw [hbn, if_neg h1])
  have hbb : ∃ b3 : Names, ∀ l, b3 l = if l ∈ lend ∨ l ∈ ns then b' l else b l := ⟨_, fun _ => rfl⟩
  obtain ⟨b3, hb3⟩ := hbb
  have hin : ∀ l, l ∈ lend ∨ l ∈ ns → b3 l = b' l := fun l h => by rw [hb3, if_pos h]
  have hout : ∀ l, ¬ (l ∈ lend ∨ l ∈ ns) → b3 l = b l := fun l h => by rw [hb3, if_neg h]
  have hup : ∀ l p, b l = some p → b3 l = some p := by
    intro l p hp
    by_cases h1 : l ∈ lend
    · rw [hin l (.inl h1)]; exact hb1 l p (by rw [hbn, if_pos h1]; exact hp)
    · by_cases h2 : l ∈ ns
      · have := hr.nm l (disjB_mem hdj l h2)
        rw [hp] at this; cases this
      · rw [hout l (by simp [h1, h2])]; exact hp
  have hup' : ∀ l p, b' l = some p → b3 l = some p := by
    intro l p hp
    by_cases h1 : l ∈ lend ∨ l ∈ ns
    · rw [hin l h1]; exact hp
    · simp only [not_or] at h1
      rw [hold' l h1.1 h1.2] at hp; cases hp
  have hbox' : ∀ l B p, (l, B) ∈ bxo → b3 l = some p → b' l = some p := by
    intro l B p hl hp
    by_cases h1 : l ∈ lend ∨ l ∈ ns
    · rw [← hin l h1]; exact hp
    · obtain ⟨x, c, h2, _⟩ := (hm'.boxes l B hl).name
      simp only [not_or] at h1
      rw [hold' l h1.1 h1.2] at h2; cases h2
  have hrest : ∀ l B p, (l, B) ∈ delsB bx lend → (b3 l = some p ↔ b l = some p) := by
    intro l B p hl
    have h1 := hnmr l B hl
    rw [hout l (by simp [h1.2])]
  have hM : ∀ x, Mut (Mut g.S0 b (delsB bx lend)) b' bxo x → Mut g.S0 b3 (bxo ++ delsB bx lend) x := by
    rintro x ((h0 | ⟨l, B, c, hl, hb⟩) | ⟨l, B, c, hl, hb⟩)
    · exact .inl h0
    · exact .inr ⟨l, B, c, List.mem_append_right _ hl, (hrest l B _ hl).2 hb⟩
    · exact .inr ⟨l, B, c, List.mem_append_left _ hl, hup' _ _ hb⟩
  have hM' : ∀ x, Mut g.S0 b3 (bxo ++ delsB bx lend) x → Mut (Mut g.S0 b (delsB bx lend)) b' bxo x := by
    rintro x (h0 | ⟨l, B, c, hl, hb⟩)
    · exact .inl (.inl h0)
    · rcases List.mem_append.1 hl with hl | hl
      · exact .inr ⟨l, B, c, hl, hbox' l B _ hl hb⟩
      · exact .inl (.inr ⟨l, B, c, hl, (hrest l B _ hl).1 hb⟩)
  have hnewx : ∀ l B x c, (l, B) ∈ bxo → b' l = some (some x, c) → (g.H x ∨ g.w0.heap.size ≤ x) ∧ ¬ g.S0 x ∧ ¬ Mut g.S0 b (delsB bx lend) x ∧ (x < w.heap.size → Mut g.S0 b bx x) := by
    intro l B x c hl hb
    have h1 := hm'.new l B x c hl hb
    refine ⟨?_, fun h => h1.2 (.inl h), h1.2, ?_⟩
    · rcases h1.1 with h2 | h2
      · exact (hHnew x (hH x h2)).1
      · exact .inr (Nat.le_trans hm.size h2)
    · intro hlt
      rcases h1.1 with h2 | h2
      · obtain ⟨l2, B2, c2, h3, h4⟩ := hH x h2
        exact .inr ⟨l2, B2, c2, (pick_mem h3).1, h4⟩
      · simp only at h2; omega
  have hkeep : ∀ x, x < w.heap.size → ¬ Mut g.S0 b bx x → w'.heap[x]? = w.heap[x]? ∧ ¬ Mut g.S0 b3 (bxo ++ delsB bx lend) x := by
    intro x hx hn
    refine ⟨hm'.old x hx fun hh => hn ?_, fun hh => hn ?_⟩
    · obtain ⟨l2, B2, c2, h3, h4⟩ := hH x hh
      exact .inr ⟨l2, B2, c2, (pick_mem h3).1, h4⟩
    · rcases hM' x hh with hh | ⟨l, B, c, hl, hb⟩
      · exact hMutBack x (.inl hh)
      · exact (hnewx l B x c hl hb).2.2.2 hx
  have hK := (slotK_iff (s := ⟨sl, bx, nm⟩)).1 hK
  rw [appK_iff, appK_iff] at hK
  refine ⟨⟨St.slot ⟨sl, bx, nm⟩ o.dst r, bxo ++ delsB bx lend, ns ++ nm⟩, b3, ⟨?_, ?_, ⟨hm.s0, Nat.le_trans hm.size hm'.size, hm'.os.trans hm.os, hm'.tape.trans hm.tape, hm'.output.trans hm.output, Nat.le_trans hm.drawn hm'.drawn, ?_, ?_, ?_, (fun l p hg hp => hup _ _ (hm.kp l p hg hp)), ?_⟩, ?_⟩, hK⟩
  · have := hr.df; cases o.dst <;> simpa [Act.put] using this
  · exact RdL.slot hr o.dst hkeep hup (hd.keep (fun x _ hn => ⟨rfl, fun hh => hn (hM' x hh)⟩) hup')
  · intro x hx hH0
    have h1 := hm'.old x (Nat.lt_of_lt_of_le hx hm.size) fun hh => by
      rcases (hHnew x (hH x hh)).1 with h2 | h2
      · exact hH0 h2
      · omega
    exact h1.trans (hm.old x hx hH0)
  · intro l B hl
    rcases List.mem_append.1 hl with hl | hl
    · exact (hm'.boxes l B hl).keep (fun x _ hn => ⟨rfl, fun hh => hn (hM' x hh)⟩) hup' fun _ _ _ => rfl
    · refine (hm.boxes l B ((delsB_sub _ _).subset hl)).keep hkeep hup fun x c hb => ?_
      refine hm'.old x (Mem.mut_lt hm (.inr ⟨l, B, c, (delsB_sub _ _).subset hl, hb⟩)) fun hh => ?_
      exact (hHnew x (hH x hh)).2.2 (.inr ⟨l, B, c, hl, hb⟩)
  · intro l B x c hl hb
    rcases List.mem_append.1 hl with hl | hl
    · have := hnewx l B x c hl (hbox' l B _ hl hb)
      exact ⟨this.1, this.2.1⟩
    · exact hm.new l B x c ((delsB_sub _ _).subset hl) ((hrest l B _ hl).1 hb)
  · rw [List.pairwise_append]
    refine ⟨?_, ?_, ?_⟩
    · refine hm'.apart.imp_of_mem fun {p q} hp hq hpq => ⟨fun x c c' h1 h2 => hpq.1 x c c' (hbox' p.1 p.2 _ hp h1) (hbox' q.1 q.2 _ hq h2), hpq.2⟩
    · refine (hm.apart.sublist (delsB_sub lend bx)).imp_of_mem fun {p q} hp hq hpq => ⟨fun x c c' h1 h2 => hpq.1 x c c' ((hrest p.1 p.2 _ hp).1 h1) ((hrest q.1 q.2 _ hq).1 h2), hpq.2⟩
    · intro p hp q hq
      refine ⟨fun x c c' h1 h2 => ?_, hdx p q hp hq⟩
      have h3 := (hnewx p.1 p.2 x c hp (hbox' p.1 p.2 _ hp h1)).2.2.1
      exact h3 (.inr ⟨q.1, q.2, c', hq, (hrest q.1 q.2 _ hq).1 h2⟩)
  · intro l hl
    simp only [List.mem_append, not_or] at hl
    by_cases h1 : l ∈ lend
    · rw [hin l (.inl h1)]
      refine hb2 l hl.1 ?_
      rw [hbn, if_pos h1]
      exact hr.nm l hl.2
    · rw [hout l (by simp [h1, hl.1])]
      exact hr.nm l hl.2
end El
namespace El
open Go Go.RowKit
mutual
def mapC (σ : Nat → Nat) : C → C
  | .fn f cs => .fn f (mapL σ cs)
  | .agg cs => .agg (mapL σ cs)
  | .tup cs => .tup (mapL σ cs)
  | .own m E k n => .own (σ m) E k n
  | .ptr m o => .ptr (σ m) o
  | .mp m => .mp (σ m)
  | .win m E k n => .win (σ m) E k n
  | .wptr m o => .wptr (σ m) o
  | .sub m E k i n => .sub (σ m) E k i n
  | .any => .any
  | .v x => .v x
  | .sl E k n f cs => .sl E k n f cs
  | .cel E cs => .cel E cs
def mapL (σ : Nat → Nat) : List C → List C
  | [] => []
  | d :: ds => mapC σ d :: mapL σ ds
end
mutual
theorem mapC_rd {w : World} {S : Nat → Prop} {b : Names} {σ : Nat → Nat} : ∀ {d : C} {v : Value}, Rd w S b (mapC σ d) v ↔ Rd w S (fun l => b (σ l)) d v
  | .fn f cs, v => by
    simp only [mapC, Rd]
    exact ⟨fun ⟨vs, h1, h2⟩ => ⟨vs, h1, mapL_rd.1 h2⟩, fun ⟨vs, h1, h2⟩ => ⟨vs, h1, mapL_rd.2 h2⟩⟩
  | .agg cs, v => by
    simp only [mapC, Rd]
    exact ⟨fun ⟨vs, h1, h2⟩ => ⟨vs, h1, mapL_rd.1 h2⟩, fun ⟨vs, h1, h2⟩ => ⟨vs, h1, mapL_rd.2 h2⟩⟩
  | .tup cs, v => by
    simp only [mapC, Rd]
    exact ⟨fun ⟨vs, h1, h2⟩ => ⟨vs, h1, mapL_rd.1 h2⟩, fun ⟨vs, h1, h2⟩ => ⟨vs, h1, mapL_rd.2 h2⟩⟩
  | .own m E k n, v => by simp only [mapC, Rd]
  | .ptr m o, v => by simp only [mapC, Rd]
  | .mp m, v => by simp only [mapC, Rd]
  | .win m E k n, v => by simp only [mapC, Rd]
  | .wptr m o, v => by simp only [mapC, Rd]
  | .sub m E k i n, v => by simp only [mapC, Rd]
  | .any, v => by simp only [mapC, Rd]
  | .v x, v => by simp only [mapC, Rd]
  | .sl .., v => by simp only [mapC, Rd]
  | .cel .., v => by simp only [mapC, Rd]
theorem mapL_rd {w : World} {S : Nat → Prop} {b : Names} {σ : Nat → Nat} : ∀ {ds : List C} {vs : List Value}, RdL w S b (mapL σ ds) vs ↔ RdL w S (fun l => b (σ l)) ds vs
  | [], [] => by simp only [mapL, RdL]
  | [], _ :: _ => by simp only [mapL, RdL]
  | _ :: _, [] => by simp only [mapL, RdL]
  | d :: ds, v :: vs => by simp only [mapL, RdL]; rw [mapC_rd, mapL_rd]
end
def mapX (σ : Nat → Nat) : Bx → Bx
  | .cells E c cs => .cells E c (mapL σ cs)
  | .row E k n cs => .row E k n cs
  | .map es => .map es
  | .iter m n seen => .iter (σ m) n seen
  | .str s pos => .str s pos
  | .win E k n cs pre post => .win E k n cs pre post
def mapB (σ : Nat → Nat) : Bxs → Bxs
  | [] => []
  | (l, B) :: r => (σ l, mapX σ B) :: mapB σ r
theorem mapB_eq (σ : Nat → Nat) : ∀ bx : Bxs, mapB σ bx = bx.map fun p => (σ p.1, mapX σ p.2)
  | [] => rfl
  | (l, B) :: r => by simp only [mapB, List.map_cons, mapB_eq σ r]
theorem mapX_at {w : World} {S : Nat → Prop} {b : Names} {σ : Nat → Nat} {l : Nat} {B : Bx} : BxAt w S b (σ l) (mapX σ B) ↔ BxAt w S (fun l => b (σ l)) l B := by
  cases B <;> simp only [mapX, BxAt]
  simp only [mapL_rd]
theorem mapB_mem {σ : Nat → Nat} (hσ : Function.Injective σ) {bx : Bxs} {l : Nat} {X : Bx} (h : (σ l, X) ∈ mapB σ bx) : ∃ B, (l, B) ∈ bx ∧ X = mapX σ B := by
  rw [mapB_eq, List.mem_map] at h
  obtain ⟨⟨m, B⟩, hp, he⟩ := h
  simp only [Prod.mk.injEq] at he
  have := hσ he.1
  subst this
  exact ⟨B, hp, he.2.symm⟩
theorem mapB_mem' {σ : Nat → Nat} {bx : Bxs} {p : Nat × Bx} (h : p ∈ mapB σ bx) : ∃ l B, (l, B) ∈ bx ∧ p = (σ l, mapX σ B) := by
  rw [mapB_eq, List.mem_map] at h
  obtain ⟨⟨m, B⟩, hp, he⟩ := h
  exact ⟨m, B, hp, he.symm⟩
theorem mem_mapB {σ : Nat → Nat} {bx : Bxs} {l : Nat} {B : Bx} (h : (l, B) ∈ bx) : (σ l, mapX σ B) ∈ mapB σ bx := by
  rw [mapB_eq]; exact List.mem_map.2 ⟨_, h, rfl⟩
theorem mapB_mut {S : Nat → Prop} {b : Names} {σ : Nat → Nat} {bx : Bxs} {x : Nat} : Mut S b (mapB σ bx) x ↔ Mut S (fun l => b (σ l)) bx x := by
  constructor
  · rintro (h | ⟨l, B, c, hl, hb⟩)
    · exact .inl h
    · obtain ⟨m, X, hm, he⟩ := mapB_mem' hl
      cases he
      exact .inr ⟨m, X, c, hm, hb⟩
  · rintro (h | ⟨l, B, c, hl, hb⟩)
    · exact .inl h
    · exact .inr ⟨σ l, _, c, mem_mapB hl, hb⟩
theorem mapB_hof {b : Names} {σ : Nat → Nat} {bx : Bxs} : Hof b (mapB σ bx) = Hof (fun l => b (σ l)) bx := by
  funext x
  apply propext
  constructor
  · rintro ⟨l, B, c, hl, hb⟩
    obtain ⟨m, X, hm, he⟩ := mapB_mem' hl
    cases he
    exact ⟨m, X, c, hm, hb⟩
  · rintro ⟨l, B, c, hl, hb⟩
    exact ⟨σ l, _, c, mem_mapB hl, hb⟩
theorem mapB_memory {G : Ghost} (hb0 : G.b0 = noN) {b : Names} {σ : Nat → Nat} (hσ : Function.Injective σ) {bx : Bxs} {w : World} : Mem G b (mapB σ bx) w ↔ Mem G (fun l => b (σ l)) bx w := by
  constructor
  · intro h
    refine ⟨h.s0, h.size, h.os, h.tape, h.output, h.drawn, h.old, ?_, ?_, (fun l p hg hp => by rw [hb0] at hp; cases hp), ?_⟩
    · intro l B hl
      exact (mapX_at.1 (h.boxes _ _ (mem_mapB hl))).keep (fun x _ hn => ⟨rfl, fun hh => hn (mapB_mut.2 hh)⟩) (fun _ _ hh => hh) fun _ _ _ => rfl
    · intro l B x c hl hb
      exact h.new _ _ x c (mem_mapB hl) hb
    · have := h.apart
      rw [mapB_eq, List.pairwise_map] at this
      exact this.imp fun hpq => ⟨hpq.1, fun e => hpq.2 (by simp only; rw [e])⟩
  · intro h
    refine ⟨h.s0, h.size, h.os, h.tape, h.output, h.drawn, h.old, ?_, ?_, (fun l p hg hp => by rw [hb0] at hp; cases hp), ?_⟩
    · intro l B hl
      obtain ⟨m, X, hm, he⟩ := mapB_mem' hl
      cases he
      exact mapX_at.2 ((h.boxes m X hm).keep (fun x _ hn => ⟨rfl, fun hh => hn (mapB_mut.1 hh)⟩) (fun _ _ hh => hh) fun _ _ _ => rfl)
    · intro l B x c hl hb
      obtain ⟨m, X, hm, he⟩ := mapB_mem' hl
      cases he
      exact h.new m X x c hm hb
    · rw [mapB_eq, List.pairwise_map]
      exact h.apart.imp fun hpq => ⟨hpq.1, fun e => hpq.2 (hσ e)⟩
theorem GSpec.ren {P : Program} {f : Nat} {args : List C} {bx : Bxs} {r : C} {bx' : Bxs} {ns : List Nat} (h : GSpec P f args bx r bx' ns) {σ : Nat → Nat} (hσ : Function.Injective σ) :
    GSpec P f (mapL σ args) (mapB σ bx) (mapC σ r) (mapB σ bx') (ns.map σ) := by
  refine ⟨h.1, fun w S b vs hb hm ha => ?_⟩
  have hb0 : ∀ l, l ∉ bx.map (·.1) → b (σ l) = none := by
    intro l hl
    refine hb _ fun hh => hl ?_
    obtain ⟨⟨m, X⟩, hp, he⟩ := List.mem_map.1 hh
    simp only at he
    subst he
    obtain ⟨B, hB, _⟩ := mapB_mem hσ hp
    exact List.mem_map.2 ⟨_, hB, rfl⟩
  rw [mapB_memory rfl hσ, mapB_hof] at hm
  refine (h.2 w S (fun l => b (σ l)) vs hb0 hm ((mapL_rd.1 ha).weak fun x hx => mapB_mut.2 hx)).mono ?_
  rintro e w' ⟨v, b', rfl, h1, h2, h3, h4⟩
  have hbb : ∃ b3 : Names, (∀ l, b3 (σ l) = b' l) ∧ ∀ m, (∀ l, σ l ≠ m) → b3 m = b m := by
    classical
    refine ⟨fun m => if h : ∃ l, σ l = m then b' (Classical.choose h) else b m, fun l => ?_, fun m hm => ?_⟩
    · have hx : ∃ l', σ l' = σ l := ⟨l, rfl⟩
      simp only [dif_pos hx]
      exact congrArg b' (hσ (Classical.choose_spec hx))
    · have hx : ¬ ∃ l, σ l = m := by rintro ⟨l, hl⟩; exact hm l hl
      simp only [dif_neg hx]
  obtain ⟨b3, hb3, hb4⟩ := hbb
  have he : (fun l => b3 (σ l)) = b' := funext hb3
  refine ⟨v, b3, rfl, ?_, ?_, ?_, ?_⟩
  · intro m p hp
    by_cases hx : ∃ l, σ l = m
    · obtain ⟨l, rfl⟩ := hx
      rw [hb3]; exact h1 l p hp
    · rw [hb4 m fun l hl => hx ⟨l, hl⟩]; exact hp
  · intro m hm hn
    by_cases hx : ∃ l, σ l = m
    · obtain ⟨l, rfl⟩ := hx
      rw [hb3]
      exact h2 l (fun hh => hm (List.mem_map.2 ⟨l, hh, rfl⟩)) hn
    · rw [hb4 m fun l hl => hx ⟨l, hl⟩]; exact hn
  · rw [mapB_memory rfl hσ, he, mapB_hof]; exact h3
  · rw [mapC_rd, he]
    exact h4.weak fun x hx => by have := mapB_mut.1 hx; rwa [he] at this
/-- Any different names will do. -/
theorem names_ex (ks : List Nat) (h : ks.Nodup) : ∃ σ : Nat → Nat, Function.Injective σ ∧ ∀ i k, ks[i]? = some k → σ i = k := by
  obtain ⟨M, hM⟩ : ∃ M, ∀ k, k ∈ ks → k < M := by
    clear h
    induction ks with
    | nil => exact ⟨0, by simp⟩
    | cons k ks ih =>
      obtain ⟨M, hM⟩ := ih
      refine ⟨max M (k + 1), fun x hx => ?_⟩
      rcases List.mem_cons.1 hx with rfl | hx
      · omega
      · have := hM x hx; omega
  refine ⟨fun i => match ks[i]? with | some k => k | none => M + i, fun i j e => ?_, fun i k hk => by simp only [hk]⟩
  simp only at e
  cases hi : ks[i]? with
  | some k =>
    have hk := hM k (List.mem_of_getElem? hi)
    cases hj : ks[j]? with
    | some k' =>
      rw [hi, hj] at e
      simp only at e
      subst e
      obtain ⟨h1, h2⟩ := List.getElem?_eq_some_iff.1 hi
      obtain ⟨h3, h4⟩ := List.getElem?_eq_some_iff.1 hj
      have h5 := List.pairwise_iff_getElem.1 h
      rcases Nat.lt_trichotomy i j with hij | hij | hij
      · exact absurd (h2.trans h4.symm) (h5 i j h1 h3 hij)
      · exact hij
      · exact absurd (h4.trans h2.symm) (h5 j i h3 h1 hij)
    | none => rw [hi, hj] at e; simp only at e; omega
  | none =>
    cases hj : ks[j]? with
    | some k' =>
      have hk := hM k' (List.mem_of_getElem? hj)
      rw [hi, hj] at e; simp only at e; omega
    | none => rw [hi, hj] at e; simp only at e; omega
end El
namespace El
open Go Go.RowKit
/-- What is needed of a type of keys. -/
structure KL (P : Program) (k : Nat) (Kv : Value → Prop) : Prop where
  check : ∀ (w : World) (em : Bool) {v : Value}, Kv v → (Instr.checkKey em 10000 k v).run P w = .ok () w
  find : ∀ (w : World) {x : Value}, Kv x → ∀ es : List MapEntry, (∀ e ∈ es, Kv e.key) →
    ((Instr.findKey k x es).run P w = .ok none w ∧ ∀ e ∈ es, e.key ≠ x) ∨ ∃ j e, (Instr.findKey k x es).run P w = .ok (some (j, e.val)) w ∧ es[j]? = some e ∧ e.key = x
  stays : ∀ (w : World) {v : Value}, Kv v → (Instr.keyThatStays v v).run P w = .ok v w
theorem KL.of {P : Program} {k : Nat} (K : Maps.Keyed P k) : KL P k fun v => ∃ l, keyOf P k v = some l where
  check w em _ h := by obtain ⟨l, h⟩ := h; exact K.check w em h
  find w _ h es hes := by obtain ⟨l, h⟩ := h; exact K.find w h es hes
  stays w _ h := by obtain ⟨l, h⟩ := h; exact K.stays w h
/-- Two values of a type are held against each other. -/
structure EqLaw (P : Program) (T : Nat) (Kv : Value → Prop) : Prop where
  guard : ∀ (w : World) (op : BinOp) (a b : Operand) {x y : Value}, Kv x → Kv y → (eqGuard op T a b x y).run P w = .ok () w
  eq : ∀ (w : World) {x y : Value}, Kv x → Kv y → ∃ r : Bool, (Op.equal T x y).run P w = .ok r w ∧ (r = true ↔ x = y)
def valsC : List C → Option (List Value)
  | [] => some []
  | .v x :: ds => (match valsC ds with
    | some l => some (x :: l)
    | none => none)
  | _ :: _ => none
/-- The value itself, where the cells say it. -/
def valC : C → Option Value
  | .v x => some x
  | .agg cs => (match valsC cs with
    | some l => some (.agg l.toArray)
    | none => none)
  | _ => none
theorem valsC_rd {w : World} {S : Nat → Prop} {b : Names} : ∀ {ds : List C} {l us : List Value}, valsC ds = some l → RdL w S b ds us → us = l
  | [], l, us, h, hr => by
    simp only [valsC, Option.some.injEq] at h
    cases us with
    | nil => exact h
    | cons _ _ => simp [RdL] at hr
  | d :: ds, l, us, h, hr => by
    cases us with
    | nil => simp [RdL] at hr
    | cons u us =>
      simp only [RdL] at hr
      cases d <;> simp only [valsC] at h <;> try (cases h)
      case v x =>
        cases hv : valsC ds with
        | none => rw [hv] at h; cases h
        | some l' =>
          rw [hv] at h
          simp only [Option.some.injEq] at h
          have h1 := hr.1
          simp only [Rd] at h1
          rw [← h, h1, valsC_rd hv hr.2]
theorem valC_rd {w : World} {S : Nat → Prop} {b : Names} {d : C} {x u : Value} (h : valC d = some x) (hr : Rd w S b d u) : u = x := by
  cases d <;> simp only [valC] at h <;> try (cases h)
  case v => simpa [Rd] using hr
  case agg cs =>
    cases hv : valsC cs with
    | none => rw [hv] at h; cases h
    | some l =>
      rw [hv] at h
      simp only [Option.some.injEq] at h
      simp only [Rd] at hr
      obtain ⟨vs, rfl, h2⟩ := hr
      rw [← h, valsC_rd hv h2]
/-- A value as cells. -/
def cOf : Value → C
  | .agg cs => .agg (cs.toList.map .v)
  | v => .v v
theorem cOf_rd {w : World} {S : Nat → Prop} {b : Names} (v : Value) : Rd w S b (cOf v) v := by
  unfold cOf
  split
  · rename_i cs
    simp only [Rd]
    exact ⟨cs.toList, by simp, RdL.vals _⟩
  · simp [Rd]
def zeroC (t : TI) : C :=
  match t.sh.agg with
  | true => .agg (t.zero.map .v)
  | false => .v (t.zero.headD undef)
theorem zeroC_rd {w : World} {S : Nat → Prop} {b : Names} (t : TI) : Rd w S b (zeroC t) (zvalOf t) := by
  unfold zeroC zvalOf
  cases t.sh.agg with
  | true => simp only [Rd, if_true]; exact ⟨t.zero, rfl, RdL.vals _⟩
  | false => simp [Rd]
/-- What a map has at a key. -/
def At (es : List (Value × C)) (key : Value) : Option C → Prop
  | some d => ∃ i : Nat, es[i]? = some (key, d)
  | none => ∀ p, p ∈ es → p.1 ≠ key
def alookup (P : Program) (G : Tab) (T : Nat) (bx : Bxs) (dx di : C) (commaOk : Bool) (R : C → Prop) : Prop :=
  match dx, G T with
  | .mp l, some t => (match t.sh with
    | .map K V => (match getB bx l, G V with
      | some (.map es), some tv => ∃ (key : Value) (Kv : Value → Prop), (valC di = some key ∧ KL P K Kv ∧ Kv key ∧ ∀ p, p ∈ es → Kv p.1) ∧ ∃ o : Option C, At es key o ∧
          match o, commaOk with
          | some d, true => R (.tup [d, .v (.bool true)])
          | some d, false => R d
          | none, true => R (.tup [zeroC tv, .v (.bool false)])
          | none, false => R (zeroC tv)
      | _, _ => False)
    | _ => False)
  | _, _ => False
theorem RdL.at_ {w : World} {S : Nat → Prop} {b : Names} {ds : List C} {us : List Value} (h : RdL w S b ds us) {i : Nat} {d : C} (hd : ds[i]? = some d) : ∃ u, us[i]? = some u ∧ Rd w S b d u := by
  have hlt : i < ds.length := (List.getElem?_eq_some_iff.1 hd).1
  have h1 := h.get i hlt
  have hlt' : i < us.length := by rw [← h.length]; exact hlt
  rw [List.getD_eq_getElem?_getD, hd, List.getD_eq_getElem?_getD, List.getElem?_eq_getElem hlt'] at h1
  exact ⟨_, List.getElem?_eq_getElem hlt', h1⟩
/-- What 'findKey' finds. -/
theorem found {P : Program} {K : Nat} {Kv : Value → Prop} (hK : KL P K Kv) {w : World} {S : Nat → Prop} {es : List (Value × C)} {arr : Array MapEntry} (hk : arr.toList.map (·.key) = es.map (·.1)) (hnd : (es.map (·.1)).Nodup)
    (hv : RdL w S noN (es.map (·.2)) (arr.toList.map (·.val))) {key : Value} (hkey : Kv key) (hall : ∀ p, p ∈ es → Kv p.1) {o : Option C} (ho : At es key o) :
    match o with
    | some d => ∃ i e, (Instr.findKey K key arr.toList).run P w = .ok (some (i, e.val)) w ∧ arr.toList[i]? = some e ∧ e.key = key ∧ es[i]? = some (key, d) ∧ Rd w S noN d e.val
    | none => (Instr.findKey K key arr.toList).run P w = .ok none w := by
  have hall' : ∀ e, e ∈ arr.toList → Kv e.key := by
    intro e he
    have : e.key ∈ arr.toList.map (·.key) := List.mem_map.2 ⟨e, he, rfl⟩
    rw [hk] at this
    obtain ⟨p, hp, h1⟩ := List.mem_map.1 this
    rw [← h1]; exact hall p hp
  cases o with
  | none =>
    simp only [At] at ho
    rcases hK.find w hkey arr.toList hall' with ⟨h1, _⟩ | ⟨j, e, _, h2, h3⟩
    · exact h1
    · exfalso
      have : e.key ∈ arr.toList.map (·.key) := List.mem_map.2 ⟨e, List.mem_of_getElem? h2, rfl⟩
      rw [hk] at this
      obtain ⟨p, hp, h4⟩ := List.mem_map.1 this
      exact ho p hp (h4.trans h3)
  | some d =>
    simp only [At] at ho
    obtain ⟨i, hi⟩ := ho
    have hki : (arr.toList.map (·.key))[i]? = some key := by rw [hk, List.getElem?_map, hi]; rfl
    rw [List.getElem?_map, Option.map_eq_some_iff] at hki
    obtain ⟨e0, he0, hk0⟩ := hki
    rcases hK.find w hkey arr.toList hall' with ⟨_, h1⟩ | ⟨j, e, h1, h2, h3⟩
    · exact absurd hk0 (h1 e0 (List.mem_of_getElem? he0))
    · have hij : i = j := by
        have a1 : (es.map (·.1))[i]? = some key := by rw [List.getElem?_map, hi]; rfl
        have a2 : (es.map (·.1))[j]? = some key := by rw [← hk, List.getElem?_map, h2]; simp [h3]
        obtain ⟨b1, b2⟩ := List.getElem?_eq_some_iff.1 a1
        obtain ⟨b3, b4⟩ := List.getElem?_eq_some_iff.1 a2
        have h5 := List.pairwise_iff_getElem.1 hnd
        rcases Nat.lt_trichotomy i j with hij | hij | hij
        · exact absurd (b2.trans b4.symm) (h5 i j b1 b3 hij)
        · exact hij
        · exact absurd (b4.trans b2.symm) (h5 j i b3 b1 hij)
      subst hij
      rw [he0] at h2; cases h2
      refine ⟨i, e0, h1, he0, hk0, hi, ?_⟩
      obtain ⟨u, hu, hd⟩ := hv.at_ (i := i) (d := d) (by rw [List.getElem?_map, hi]; rfl)
      rw [List.getElem?_map, he0] at hu
      simp only [Option.map_some, Option.some.injEq] at hu
      rw [hu]; exact hd
theorem run_getObj_at {P : Program} {w : World} {g : Nat} {o : Obj} (h : w.heap[g]? = some o) (hv : ∀ c e f, o ≠ .cells c e f) : (getObj g).run P w = .ok o w := by
  cases o <;> first
    | exact absurd rfl (hv _ _ _)
    | simp only [getObj, Sem.run, h]
theorem alookup_sound {P : Program} {G : Tab} (hG : TabOk P G) {T : Nat} {bx : Bxs} {dx di : C} {commaOk : Bool} {R : C → Prop} (h : alookup P G T bx dx di commaOk R) :
    ∃ r, R r ∧ ∀ (g : Ghost) (b : Names) (bx' : Bxs) (w : World) (v i : Value), Sub bx bx' → Mem g b bx' w → Rd w (Mut g.S0 b bx') b dx v → Rd w (Mut g.S0 b bx') b di i →
      ∃ u, (Instr.lookup T v i commaOk).run P w = .ok u w ∧ Rd w (Mut g.S0 b bx') b r u := by
  unfold alookup at h
  split at h <;> try (exact h.elim)
  rename_i l t hT
  have hok := hG.ok T t hT
  split at h <;> try (exact h.elim)
  rename_i K V hsh
  have hu := hok.sh
  rw [hsh] at hu
  simp only [shOk] at hu
  split at h <;> try (exact h.elim)
  rename_i es tv hl hV
  obtain ⟨key, Kv, ⟨hkey, hKL, hKk, hall⟩, o, ho, h⟩ := h
  have common : ∀ (g : Ghost) (b : Names) (bx' : Bxs) (w : World) (v i : Value), Sub bx bx' → Mem g b bx' w → Rd w (Mut g.S0 b bx') b (.mp l) v → Rd w (Mut g.S0 b bx') b di i →
      ∃ x, (Instr.lookup T v i commaOk).run P w = .ok (if commaOk then .tuple #[x, .bool o.isSome] else x) w ∧ match o with
        | some d => Rd w (Mut g.S0 b bx') b d x
        | none => x = zvalOf tv := by
    intro g b bx' w v i hsub hm hv hi
    have hi := valC_rd hkey hi
    subst hi
    obtain ⟨gg, c, h1, arr, h2, _, h3, h4, h5⟩ := hm.boxes l _ (hsub _ (getB_mem hl))
    simp only [Rd] at hv
    obtain ⟨gg', c', h6, rfl⟩ := hv
    rw [h1] at h6; cases h6
    have hf := found hKL h3 h4 h5 hKk hall ho
    cases o with
    | none =>
      refine ⟨zvalOf tv, ?_, rfl⟩
      simp [Instr.lookup, run_underlying hu, MapKept.run_getObj_map h2, hKL.check w _ hKk, hf, zeroValue_zval (hG.ok V tv hV), Result.andThen]
    | some d =>
      obtain ⟨j, e, h7, _, _, _, h8⟩ := hf
      refine ⟨e.val, ?_, h8.keep (fun _ _ hn => ⟨rfl, hn⟩) fun _ _ hh => by cases hh⟩
      simp [Instr.lookup, run_underlying hu, MapKept.run_getObj_map h2, hKL.check w _ hKk, h7, Result.andThen]
  cases o with
  | some d =>
    cases commaOk with
    | true =>
      refine ⟨_, h, fun g b bx' w v i hsub hm hv hi => ?_⟩
      obtain ⟨x, h1, h2⟩ := common g b bx' w v i hsub hm hv hi
      exact ⟨_, h1, by simp only [Rd, RdL, if_true]; exact ⟨[x, .bool true], rfl, h2, rfl, trivial⟩⟩
    | false =>
      refine ⟨_, h, fun g b bx' w v i hsub hm hv hi => ?_⟩
      obtain ⟨x, h1, h2⟩ := common g b bx' w v i hsub hm hv hi
      exact ⟨_, h1, by simpa using h2⟩
  | none =>
    cases commaOk with
    | true =>
      refine ⟨_, h, fun g b bx' w v i hsub hm hv hi => ?_⟩
      obtain ⟨x, h1, rfl⟩ := common g b bx' w v i hsub hm hv hi
      exact ⟨_, h1, by simp only [Rd, RdL, if_true]; exact ⟨[zvalOf tv, .bool false], rfl, zeroC_rd tv, rfl, trivial⟩⟩
    | false =>
      refine ⟨_, h, fun g b bx' w v i hsub hm hv hi => ?_⟩
      obtain ⟨x, h1, rfl⟩ := common g b bx' w v i hsub hm hv hi
      exact ⟨_, h1, by simpa using zeroC_rd tv⟩
/-! ### Bytes -/
def bytesC (l : List UInt8) : List C := l.map fun b => .v (.int .u8 (b.toNat : Int))
theorem bytesC_rd {w : World} {S : Nat → Prop} {b : Names} : ∀ {l : List UInt8} {us : List Value}, RdL w S b (bytesC l) us → us = l.map fun b => .int .u8 (b.toNat : Int)
  | [], us, h => by
    cases us with
    | nil => rfl
    | cons _ _ => simp [bytesC, RdL] at h
  | x :: l, us, h => by
    cases us with
    | nil => simp [bytesC, RdL] at h
    | cons u us =>
      simp only [bytesC, List.map_cons, RdL, Rd] at h
      rw [List.map_cons, h.1, bytesC_rd (l := l) h.2]
theorem fold_bytes : ∀ (l : List UInt8) (s : ByteArray), ((l.map fun b => (b.toNat : Int)).foldl (fun r n => r.push (UInt8.ofNat n.toNat)) s) = ⟨s.data ++ l.toArray⟩
  | [], s => by cases s; simp
  | x :: l, s => by
    simp only [List.map_cons, List.foldl_cons]
    rw [fold_bytes l]
    have : UInt8.ofNat ((x.toNat : Int).toNat) = x := by simp
    rw [this]
    show ByteArray.mk ((s.push x).data ++ l.toArray) = _
    congr 1
    apply Array.toList_inj.1
    show ((s.data.push x) ++ l.toArray).toList = _
    simp
def aconv (G : Tab) (src dst : Nat) (dx : C) (R : C → Prop) : Prop :=
  match dx, G src, G dst with
  | .sl _ k n _ cs, some ts, some td => (match ts.sh, td.sh with
    | .slice e, .string => (match G e with
      | some te => (match te.sh with
        | .int .u8 => bchk (Nat.beq k 1) (∃ l : List UInt8, cs = bytesC l ∧ R (.v (.string ⟨l.toArray⟩)))
        | _ => False)
      | none => False)
    | _, _ => False)
  | _, _, _ => False
theorem aconv_sound {P : Program} {G : Tab} (hG : TabOk P G) {src dst : Nat} {dx : C} {R : C → Prop} (h : aconv G src dst dx R) :
    ∃ r, R r ∧ ∀ (w : World) (S : Nat → Prop) (b : Names) (v : Value), Rd w S b dx v → ∃ u, (convert src dst v).run P w = .ok u w ∧ Rd w S b r u := by
  unfold aconv at h
  split at h <;> try (exact h.elim)
  rename_i E k n f cs ts td hs hd
  split at h <;> try (exact h.elim)
  rename_i e hse hsd
  split at h <;> try (exact h.elim)
  rename_i te he
  split at h <;> try (exact h.elim)
  rename_i hste
  obtain ⟨hk, l, rfl, hR⟩ := bchk_iff.1 h
  have hk := Nat.eq_of_beq_eq_true hk
  subst hk
  have h1 := (hG.ok _ _ hs).sh; rw [hse] at h1
  have h2 := (hG.ok _ _ hd).sh; rw [hsd] at h2
  have h3 := (hG.ok _ _ he).sh; rw [hste] at h3
  simp only [shOk] at h1 h2 h3
  refine ⟨_, hR, fun w S b v hv => ?_⟩
  simp only [Rd] at hv
  obtain ⟨A, c, rfl, h4, h5, h6, h7, h8⟩ := hv
  rw [run_convert_bytes_string w src dst e A n c h1 h3 h2]
  have hln : l.length = n := by simpa [bytesC] using h7
  rcases h8 with h8 | ⟨g, off, arr, fr, rfl, _, hg, hL⟩
  · subst h8
    have : l = [] := List.eq_nil_of_length_eq_zero hln
    subst this
    cases A with
    | none => exact ⟨_, rfl, by simp only [Rd]; rfl⟩
    | some ad =>
      have := run_bytesToString (P := P) w ad 0 c [] (by simp [loadCells, loadCellsFrom])
      exact ⟨_, this, by simp only [Rd]; rfl⟩
  · have hL := bytesC_rd hL
    have hrun : (loadCells ⟨g, off, none⟩ n).run P w = .ok ((l.map fun b => (b.toNat : Int)).map (Value.int .u8)).toArray w := by
      have h9 : ∀ j u, (l.map fun b => Value.int .u8 (b.toNat : Int))[j]? = some u → w.cell? ((⟨g, off, none⟩ : Addr).add (0 + j)) = some u := by
        intro j u hj
        rw [cell_block hg]
        have hj' : j < l.length := by simpa using (List.getElem?_eq_some_iff.1 hj).1
        rw [← hL, List.getElem?_take, if_pos (by omega), List.getElem?_drop] at hj
        simpa using hj
      have := run_loadFrom (P := P) (w := w) (a := ⟨g, off, none⟩) (l.map fun b => Value.int .u8 (b.toNat : Int)) 0 #[] h9
      rw [List.length_map, hln] at this
      simp only [loadCells]
      rw [this, List.map_map]
      simp [Function.comp_def]
    have := run_bytesToString (P := P) w _ n c _ hrun
    refine ⟨_, this, ?_⟩
    simp only [Rd]
    rw [fold_bytes]
    congr 2
    apply Array.toList_inj.1
    simp
/-! ### New maps and ranges -/
theorem y_map {g : Ghost} {b : Names} {bx : Bxs} {w : World} {l : Nat} (h : Mem g b bx w) (hl : b l = none) :
    YPost g b bx [(l, .map [])] w (.mp l) (.map (some w.heap.size)) (w.alloc (.map #[] 0)) := by
  refine YPost.alloc (c := 0) h hl (fun b' S' hk hs hS => ?_) (fun b' S' hk hs hS => ?_)
  · simp only [BxAt]
    exact ⟨_, _, hs, #[], heap_alloc_new w _, rfl, rfl, List.nodup_nil, by simp [RdL]⟩
  · simp only [Rd]
    exact ⟨_, _, hs, rfl⟩
def arange (G : Tab) (T dst : Nat) (bx : Bxs) (dx : C) (R : C → Bxs → Prop) : Prop :=
  match G T with
  | some t => (match t.sh, dx with
    | .map _ _, .mp m => (match getB bx m with
      | some (.map es) => ∃ n, es.length = n ∧ R (.ptr dst 0) [(dst, .iter m n [])]
      | _ => False)
    | .string, .v (.string s) => R (.ptr dst 0) [(dst, .str s 0)]
    | _, _ => False)
  | none => False
theorem arange_sound {P : Program} {G : Tab} (hG : TabOk P G) {T dst : Nat} {bx : Bxs} {dx : C} {R : C → Bxs → Prop} (h : arange G T dst bx dx R) :
    ∃ r nb, R r nb ∧ ∀ (g : Ghost) (b : Names) (bx' : Bxs) (w : World) (v : Value), Sub bx bx' → Mem g b bx' w → (∀ p, p ∈ nb → b p.1 = none) → Rd w (Mut g.S0 b bx') b dx v →
      ∃ u w', (Instr.range T v).run P w = .ok u w' ∧ YPost g b bx' nb w r u w' := by
  unfold arange at h
  split at h <;> try (exact h.elim)
  rename_i t hT
  have hok := (hG.ok T t hT).sh
  split at h <;> try (exact h.elim)
  · rename_i K V m hsh
    rw [hsh] at hok
    simp only [shOk] at hok
    split at h <;> try (exact h.elim)
    rename_i es hm
    obtain ⟨n, rfl, hR⟩ := h
    refine ⟨_, _, hR, fun g b bx' w v hsub hmem hfr hv => ?_⟩
    obtain ⟨gg, c, h1, arr, h2, h3, h4, h5, h6⟩ := hmem.boxes m _ (hsub _ (getB_mem hm))
    simp only [Rd] at hv
    obtain ⟨gg', c', h7, rfl⟩ := hv
    rw [h1] at h7; cases h7
    refine ⟨_, _, run_range_map w T K V gg arr _ hok h2, YPost.alloc (c := 0) hmem (hfr _ (List.mem_singleton.2 rfl)) (fun b' S' hk hs hS => ?_) (fun b' S' hk hs hS => ?_)⟩
    · simp only [BxAt]
      exact ⟨_, _, hs, gg, heap_alloc_new w _, _, hk _ _ h1⟩
    · simp only [Rd]; exact ⟨_, _, hs, rfl⟩
  · rename_i s hsh
    rw [hsh] at hok
    simp only [shOk] at hok
    refine ⟨_, _, h, fun g b bx' w v hsub hmem hfr hv => ?_⟩
    simp only [Rd] at hv
    subst hv
    refine ⟨.pointer (some ⟨w.heap.size, 0, none⟩), w.alloc (.stringIter s 0), (by simp [Instr.range, run_underlying hok]), YPost.alloc (ob := .stringIter s 0) (c := 0) hmem (hfr _ (List.mem_singleton.2 rfl)) (fun b' S' hk hs hS => ?_) (fun b' S' hk hs hS => ?_)⟩
    · simp only [BxAt]
      exact ⟨_, _, hs, heap_alloc_new w _⟩
    · simp only [Rd]; exact ⟨_, _, hs, rfl⟩
def aentry (bx : Bxs) (dx : C) (R : C → Prop) : Prop :=
  match dx with
  | .ptr l 0 => (match getB bx l with
    | some (.iter m n seen) => (match getB bx m with
      | some (.map es) => es.length = n ∧ ∃ i, seen.getLast? = some i ∧ ∃ k d, es[i]? = some (k, d) ∧ R (.tup [cOf k, d])
      | _ => False)
    | _ => False)
  | _ => False
theorem born_at {arr : Array MapEntry} {n i : Nat} (h : arr.toList.map (·.born) = List.range n) {e : MapEntry} (he : arr.toList[i]? = some e) : e.born = i := by
  have h1 : (arr.toList.map (·.born))[i]? = some e.born := by rw [List.getElem?_map, he]; rfl
  rw [h] at h1
  obtain ⟨h2, h3⟩ := List.getElem?_eq_some_iff.1 h1
  rw [List.getElem_range] at h3
  exact h3.symm
theorem entry_at {arr : Array MapEntry} {es : List (Value × C)} (hk : arr.toList.map (·.key) = es.map (·.1)) {i : Nat} {k : Value} {d : C} (hi : es[i]? = some (k, d)) : ∃ e, arr.toList[i]? = some e ∧ e.key = k := by
  have hki : (arr.toList.map (·.key))[i]? = some k := by rw [hk, List.getElem?_map, hi]; rfl
  rw [List.getElem?_map, Option.map_eq_some_iff] at hki
  exact hki
theorem val_at {w : World} {S : Nat → Prop} {b : Names} {arr : Array MapEntry} {es : List (Value × C)} (hv : RdL w S b (es.map (·.2)) (arr.toList.map (·.val))) {i : Nat} {k : Value} {d : C} (hi : es[i]? = some (k, d)) {e : MapEntry} (he : arr.toList[i]? = some e) :
    Rd w S b d e.val := by
  obtain ⟨u, hu, hd⟩ := hv.at_ (i := i) (d := d) (by rw [List.getElem?_map, hi]; rfl)
  rw [List.getElem?_map, he] at hu
  simp only [Option.map_some, Option.some.injEq] at hu
  rw [hu]; exact hd
theorem aentry_sound {P : Program} {bx : Bxs} {dx : C} {R : C → Prop} (h : aentry bx dx R) : ∃ r, R r ∧ PureY P bx dx (fun v => Instr.entry v) r := by
  unfold aentry at h
  split at h <;> try (exact h.elim)
  rename_i l
  split at h <;> try (exact h.elim)
  rename_i m n seen hl
  split at h <;> try (exact h.elim)
  rename_i es hm
  obtain ⟨rfl, i, hlast, k, d, hi, hR⟩ := h
  refine ⟨_, hR, fun g b bx' w v hsub hmem hv => ?_⟩
  obtain ⟨gg, c, h1, gm, h2, c', h3⟩ := hmem.boxes l _ (hsub _ (getB_mem hl))
  obtain ⟨gm', c2, h4, arr, h5, h6, h7, _, h8⟩ := hmem.boxes m _ (hsub _ (getB_mem hm))
  rw [h3] at h4; cases h4
  simp only [Rd] at hv
  obtain ⟨gg', c3, h9, rfl⟩ := hv
  rw [h1] at h9; cases h9
  obtain ⟨e, he, hek⟩ := entry_at h7 hi
  have hb : e.born = i := born_at h6 he
  have hnd : (arr.toList.map (·.born)).Nodup := by rw [h6]; exact List.nodup_range
  have hf : arr.find? (·.born == i) = some e := by rw [← Array.find?_toList, ← hb]; exact find_born e arr.toList hnd (List.mem_of_getElem? he)
  have hback : seen.toArray.back? = some i := by simpa using hlast
  refine ⟨.tuple #[e.key, e.val], ?_, ?_⟩
  · simp only [Instr.entry, Sem.run_bind, run_getObj_at h2 (by intro _ _ _ h; cases h), run_getObj_at h5 (by intro _ _ _ h; cases h), Result.andThen_ok, hback, bne_self_eq_false, Bool.false_eq_true, if_false, hf]
    rfl
  · simp only [Rd]
    refine ⟨[e.key, e.val], rfl, ?_⟩
    simp only [RdL]
    refine ⟨by rw [hek]; exact cOf_rd k, (val_at h8 hi he).keep (fun _ _ hn => ⟨rfl, hn⟩) (fun _ _ hh => by cases hh), trivial⟩
/-! ### Values held against each other -/
def aeq (P : Program) (op : BinOp) (T : Nat) (x y : C) (R : C → Prop) : Prop :=
  ∃ (u v : Value) (Kv : Value → Prop), (valC x = some u ∧ valC y = some v ∧ EqLaw P T Kv ∧ Kv u ∧ Kv v ∧ ∃ p q, u = .agg p ∧ v = .agg q) ∧ ∀ r : Bool, (r = true ↔ u = v) → match op with
    | .eql => R (.v (.bool r))
    | .neq => R (.v (.bool !r))
    | _ => False
theorem aeq_sound {P : Program} {op : BinOp} {T : Nat} {x y : C} {R : C → Prop} (h : aeq P op T x y R) :
    ∃ r, R r ∧ ∀ (w : World) (S : Nat → Prop) (b : Names) (u v : Value) (ox oy : Operand), Rd w S b x u → Rd w S b y v →
      ∃ t, (do eqGuard op T ox oy u v; binOp op T u v : Sem Value).run P w = .ok t w ∧ Rd w S b r t := by
  obtain ⟨u, v, Kv, ⟨hu, hv, hE, hku, hkv, p, q, rfl, rfl⟩, h⟩ := h
  classical
  have h := h (decide (Value.agg p = Value.agg q)) (by simp)
  have key : ∀ (w : World) (S : Nat → Prop) (b : Names) (u v : Value) (ox oy : Operand), Rd w S b x u → Rd w S b y v → u = .agg p ∧ v = .agg q ∧ (eqGuard op T ox oy (.agg p) (.agg q)).run P w = .ok () w ∧
      (Op.equal T (.agg p) (.agg q)).run P w = .ok (decide (Value.agg p = Value.agg q)) w := by
    intro w S b u v ox oy hx hy
    obtain ⟨r, h1, h2⟩ := hE.eq w hku hkv
    refine ⟨valC_rd hu hx, valC_rd hv hy, hE.guard w op ox oy hku hkv, ?_⟩
    rw [h1]
    congr 1
    rw [Bool.eq_iff_iff, h2]; simp
  cases op <;> simp only at h <;> try (exact h.elim)
  · refine ⟨_, h, fun w S b u v ox oy hx hy => ?_⟩
    obtain ⟨rfl, rfl, h1, h2⟩ := key w S b u v ox oy hx hy
    exact ⟨.bool (decide (Value.agg p = Value.agg q)), by simp only [Sem.run_bind, h1, Result.andThen_ok, Go.binOp, h2, Sem.run_pure], by simp only [Rd]⟩
  · refine ⟨_, h, fun w S b u v ox oy hx hy => ?_⟩
    obtain ⟨rfl, rfl, h1, h2⟩ := key w S b u v ox oy hx hy
    exact ⟨.bool (!decide (Value.agg p = Value.agg q)), by simp only [Sem.run_bind, h1, Result.andThen_ok, Go.binOp, h2, Sem.run_pure], by simp only [Rd]⟩
/-! ### All that turns nothing -/
def isAgg : C → Bool
  | .agg _ => true
  | _ => false
def ares' (P : Program) (G : Tab) (o : Oper) (ev : Operand → C) (bx : Bxs) (R : C → Bxs → Prop) : Prop :=
  match o.op with
  | .makeMap T none => (match o.dst, G T with
    | some l, some _ => R (.mp l) [(l, .map [])]
    | _, _ => False)
  | .buildSlice T n parts => (match n, parts.toList, o.dst with
    | 0, [], some l => ares P G o ev bx R ∨ aBuild0 G T l R
    | _, _, _ => ares P G o ev bx R)
  | .lookup T x i ok => alookup P G T bx (ev x) (ev i) ok (fun d => R d [])
  | .range T x => (match o.dst with
    | some l => arange G T l bx (ev x) R
    | none => False)
  | .entry x => aentry bx (ev x) (fun d => R d [])
  | .convert s d x => (match ev x with
    | .sl E k n f cs => aconv G s d (.sl E k n f cs) (fun d => R d [])
    | _ => ares P G o ev bx R)
  | .binOp op T x y _ => (match isAgg (ev x) with
    | true => aeq P op T (ev x) (ev y) (fun d => R d [])
    | false => ares P G o ev bx R)
  | _ => ares P G o ev bx R
theorem ares'_sound {P : Program} {G : Tab} (hG : TabOk P G) {o : Oper} {ev : Operand → C} {bx : Bxs} {R : C → Bxs → Prop} (h : ares' P G o ev bx R) : ∃ r nb, R r nb ∧ OpY P o ev bx r nb := by
  unfold ares' at h
  split at h
  · rename_i T ho
    split at h <;> try (exact h.elim)
    rename_i l t hd hT
    refine ⟨_, _, h, fun g b bx' w ρ hsub hm hfr hr => ?_⟩
    have he : (execOp ρ o).run P w = .ok (.value (.map (some w.heap.size))) (w.alloc (.map #[] 0)) := by
      unfold execOp; rw [ho]
      simp [Instr.makeMap]
    rw [he]
    exact y_map hm (hfr _ (List.mem_singleton.2 rfl))
  · rename_i T n parts ho
    split at h
    · rename_i l hp hd
      rcases h with h | h
      · exact ares_sound hG h
      · obtain ⟨r, nb, hR, hs⟩ := aBuild0_sound (P := P) hG h
        refine ⟨r, nb, hR, fun g b bx' w ρ hsub hm hfr hr => ?_⟩
        obtain ⟨u, w', h1, h2⟩ := hs g b bx' w hm hfr
        have hpa : parts = #[] := by apply Array.toList_inj.1; simpa using hp
        have he : (execOp ρ o).run P w = .ok (.value u) w' := by
          unfold execOp; rw [ho, hpa]
          simp only [Sem.run_bind]
          simp [h1]
        rw [he]
        exact h2
    · exact ares_sound hG h
  · rename_i T x i ok ho
    obtain ⟨r, hR, hs⟩ := alookup_sound (P := P) hG h
    refine ⟨r, _, hR, OpY.ofPure fun g b bx' w ρ hsub hm hr => ?_⟩
    obtain ⟨u, h1, h2⟩ := hs g b bx' w (ρ x) (ρ i) hsub hm (hr x (by rw [ho]; simp [Op.operands])) (hr i (by rw [ho]; simp [Op.operands]))
    refine ⟨u, ?_, h2⟩
    unfold execOp; rw [ho]
    simp only [Sem.run_bind, h1, Result.andThen_ok, Sem.run_pure]
  · rename_i T x ho
    split at h <;> try (exact h.elim)
    rename_i l hd
    obtain ⟨r, nb, hR, hs⟩ := arange_sound (P := P) hG h
    refine ⟨r, nb, hR, fun g b bx' w ρ hsub hm hfr hr => ?_⟩
    obtain ⟨u, w', h1, h2⟩ := hs g b bx' w (ρ x) hsub hm hfr (hr x (by rw [ho]; simp [Op.operands]))
    have he : (execOp ρ o).run P w = .ok (.value u) w' := by
      unfold execOp; rw [ho]
      simp only [Sem.run_bind, h1, Result.andThen_ok, Sem.run_pure]
    rw [he]
    exact h2
  · rename_i x ho
    obtain ⟨r, hR, hs⟩ := aentry_sound (P := P) h
    exact ⟨r, _, hR, OpY.one (x := x) (by rw [ho]; simp [Op.operands]) (fun ρ => by unfold execOp; rw [ho]) hs⟩
  · rename_i s d x ho
    split at h
    · rename_i E k n f cs hx
      obtain ⟨r, hR, hs⟩ := aconv_sound (P := P) hG h
      refine ⟨r, _, hR, OpY.ofPure fun g b bx' w ρ hsub hm hr => ?_⟩
      obtain ⟨u, h1, h2⟩ := hs w _ b (ρ x) (by rw [← hx]; exact hr x (by rw [ho]; simp [Op.operands]))
      refine ⟨u, ?_, h2⟩
      unfold execOp; rw [ho]
      simp only [Sem.run_bind, h1, Result.andThen_ok, Sem.run_pure]
    · exact ares_sound hG h
  · rename_i op T x y yT ho
    split at h
    · obtain ⟨r, hR, hs⟩ := aeq_sound (P := P) h
      refine ⟨r, _, hR, OpY.ofPure fun g b bx' w ρ hsub hm hr => ?_⟩
      obtain ⟨u, h1, h2⟩ := hs w _ b (ρ x) (ρ y) x y (hr x (by rw [ho]; simp [Op.operands])) (hr y (by rw [ho]; simp [Op.operands]))
      refine ⟨u, ?_, h2⟩
      unfold execOp; rw [ho]
      simp only [Sem.run_bind] at h1 ⊢
      rw [h1]
      simp
    · exact ares_sound hG h
  · exact ares_sound hG h
end El
