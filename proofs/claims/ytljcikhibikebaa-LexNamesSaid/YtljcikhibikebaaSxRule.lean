/- The rules of use: contracts, calls, loops. Nothing of a program. -/
import Derived.Test.YtljcikhibikebaaSxRun
import Derived.Deep.LoopGhost
namespace Go.Sx
open Go Go.RowKit

variable {rd : Rd} {mp : Mp} {st : List (Nat × SO)} {nx : Nat} {w : World} {s : ASt} {a : Act} {c : Ctx}

def MemR (rd : Rd) (w : World) : Prop := (∀ g o v, rd g o = some v → w.cell? ⟨g, o, none⟩ = some v) ∧ (∀ g o v, rd g o = some v → v.oneCell' = true)

/-- A FUNCTION's CONTRACT: called with values that the abstract arguments tell of, it returns what the abstract result tells of; nothing that was there has turned. -/
def Con (P : Program) (f : FuncId) (args : List AV) (res : AV) : Prop :=
  ∀ rd w vs, MemR rd w → RelL rd Mp.none args vs → Invokes P f vs w fun v w' =>
    ∃ rd', Rel rd' Mp.none res v ∧ Rd.le rd rd' ∧ MemR rd' w' ∧ (∀ g o v, rd' g o = some v → rd g o = some v ∨ w.heap.size ≤ g) ∧ Below w.heap.size w w'

/-- One abstract value says no more than another. -/
def Le (x y : AV) : Prop := ∀ rd mp v, Rel rd mp x v → Rel rd mp y v

theorem Le.refl (x : AV) : Le x x := fun _ _ _ h => h
theorem Le.trans {x y z : AV} (h : Le x y) (k : Le y z) : Le x z := fun rd mp v r => k rd mp v (h rd mp v r)
theorem Le.any (x : AV) : Le x .any := fun _ _ _ _ => .any _ _
theorem Le.of_eq {x y : AV} (h : x = y) : Le x y := h ▸ Le.refl x
theorem Le.nils (sz : Nat) (f : Nat → List AV) : Le .nils (.slc sz 0 f) := fun _ _ _ h => by cases h; exact .slc0 _ _ _ _ _
theorem Le.cnd {b : Bool} {x : AV} (h : b = true) : Le (.cnd b x) x := fun _ _ _ r => by cases r with | cnd _ _ _ _ k _ => exact k h
theorem Le.slc {sz n m : Nat} {f g : Nat → List AV} (hn : n = m) (h : ∀ i, i < n → f i = g i) : Le (.slc sz n f) (.slc sz m g) := by
  subst hn
  intro rd mp v r
  cases r with
  | slc0 => exact .slc0 _ _ _ _ _
  | slc _ _ _ _ blk off cap val h0 hc hs hr he => exact .slc _ _ _ _ _ _ _ val h0 hc (fun i hi => h i hi ▸ hs i hi) hr (fun i j x hi hx => he i j x hi (by rw [h i hi]; exact hx))

def LeL : List AV → List AV → Prop
  | [], [] => True
  | x :: xs, y :: ys => Le x y ∧ LeL xs ys
  | _, _ => False

theorem LeL.refl : ∀ xs : List AV, LeL xs xs
  | [] => trivial
  | x :: xs => ⟨Le.refl x, LeL.refl xs⟩

theorem LeL.get : ∀ {xs ys : List AV}, LeL xs ys → xs.length = ys.length ∧ ∀ (j : Nat) x y, xs[j]? = some x → ys[j]? = some y → Le x y
  | [], [], _ => ⟨rfl, fun j x y hx => by simp at hx⟩
  | x :: xs, y :: ys, h => by
    obtain ⟨h1, h2⟩ := LeL.get h.2
    refine ⟨by simp [h1], fun j u v hu hv => ?_⟩
    cases j with
    | zero => simp at hu hv; subst hu; subst hv; exact h.1
    | succ j => simp at hu hv; exact h2 j u v hu hv
  | [], _ :: _, h => absurd h id
  | _ :: _, [], h => absurd h id

theorem Le.agg {xs ys : List AV} (h : LeL xs ys) : Le (.agg xs) (.agg ys) := by
  intro rd mp v r
  cases r with
  | agg _ _ vs hs he =>
    refine .agg _ _ _ (by rw [hs, h.get.1]) (fun j y v hy hv => ?_)
    have hj : j < xs.length := by rw [h.get.1]; exact (List.getElem?_eq_some_iff.1 hy).1
    exact h.get.2 j xs[j] y (List.getElem?_eq_getElem hj) hy _ _ _ (he j xs[j] v (List.getElem?_eq_getElem hj) hv)

theorem Le.tup {xs ys : List AV} (h : LeL xs ys) : Le (.tup xs) (.tup ys) := by
  intro rd mp v r
  cases r with
  | tup _ _ vs hs he =>
    refine .tup _ _ _ (by rw [hs, h.get.1]) (fun j y v hy hv => ?_)
    have hj : j < xs.length := by rw [h.get.1]; exact (List.getElem?_eq_some_iff.1 hy).1
    exact h.get.2 j xs[j] y (List.getElem?_eq_getElem hj) hy _ _ _ (he j xs[j] v (List.getElem?_eq_getElem hj) hv)

theorem RelL.le {xs ys : List AV} {vs : Array Value} (h : RelL rd mp xs vs) (hl : LeL xs ys) : RelL rd mp ys vs := by
  refine ⟨by rw [h.1, hl.get.1], fun j y v hy hv => ?_⟩
  have hj : j < xs.length := by rw [hl.get.1]; exact (List.getElem?_eq_some_iff.1 hy).1
  exact hl.get.2 j xs[j] y (List.getElem?_eq_getElem hj) hy _ _ _ (h.2 j xs[j] v (List.getElem?_eq_getElem hj) hv)

theorem RelL.pure {xs : List AV} {vs : Array Value} (h : RelL rd mp xs vs) (hp : xs.all AV.pure = true) (mp' : Mp) : RelL rd mp' xs vs :=
  ⟨h.1, fun j x v hx hv => (h.2 j x v hx hv).pure (List.all_eq_true.1 hp x (List.mem_of_getElem? hx))⟩

/-- More is read-only: in blocks that were not there. -/
theorem Mem.more {rd' : Rd} {w' : World} (hm : Mem c rd mp st nx w) (hb : Below w.heap.size w w') (hr : Rd.le rd rd') (hm' : MemR rd' w') (hn : ∀ g o v, rd' g o = some v → rd g o = some v ∨ w.heap.size ≤ g) : Mem c rd' mp st nx w' := by
  have h1 := hm.below hb
  refine ⟨hm'.1, hm'.2, fun g o v h => ?_, h1.fr, fun id x hx => ?_, h1.inj, h1.fresh, h1.ids⟩
  · rcases hn g o v h with h | h
    · exact hm.rdn g o v h
    · exact .inr (Nat.le_trans hm.fr.size h)
  · refine (h1.so id x hx).keep hr (Mp.le.refl _) (fun _ _ => rfl) rfl (fun g hg o => ?_)
    have hlt := home_lt (hm.so id x hx) hg
    cases hro : rd' g o with
    | none => rfl
    | some v =>
      rcases hn g o v hro with h | h
      · have := home_rd (hm.so id x hx) hg o
        rw [this] at h; cases h
      · omega

theorem call_rule {E : Env} {B : Nat → ASt → Prop} {f : FuncId} {args : List AV} {dst : Option Nat} {full : Array Oper} {rest : List Oper} {k : List Itm} (hT : ∀ t, E.T t = tab E.P t) (n : Nat) {args' : List AV} {res : AV} (hc : Con E.P f args' res)
    (hp : args'.all AV.pure = true) (hl : LeL args args') (hd : dstOk E dst = true) (h : exec E B n (.ops full rest :: k) (s.put dst res)) : CallG E B f args dst full rest k s := by
  unfold CallG
  intro rd mp a w vs hs hrd hsz hargs
  have hcon := hc rd w vs ⟨hs.mem.rdw, hs.mem.rd1⟩ ((hargs.le hl).pure hp _)
  have step : ∀ v w', (∃ rd', Rel rd' Mp.none res v ∧ Rd.le rd rd' ∧ MemR rd' w' ∧ (∀ g o v, rd' g o = some v → rd g o = some v ∨ w.heap.size ≤ g) ∧ Below w.heap.size w w') → wpList E.P full (QK E B k) rest (a.put dst v) w' := by
    rintro v w' ⟨rd', h1, h2, h3, h4, h5⟩
    have hm' := hs.mem.more h5 h2 h3 h4
    refine exec_sound hT n _ _ h rd' mp _ w' ?_ (hrd.trans h2) (by rw [put_size]; exact hsz)
    exact hs.put h2 (Mp.le.refl _) hm' (h1.mono (Rd.le.refl _) (Mp.none_le _)) (fun d hd' => by
      rw [hd'] at hd
      simp only [dstOk, Nat.blt_eq] at hd
      rw [hsz]; exact hd)
  rcases hcon with ⟨h1, h2⟩ | ⟨v, w', h1, h2⟩
  · exact .inl ⟨h1, h2.mono fun e w' ⟨v, he, hv⟩ => ⟨v, he, step v w' hv⟩⟩
  · exact .inr ⟨v, w', h1, step v w' h2⟩

/-- A guarded call, the two ways apart. -/
theorem gcall_split {E : Env} {B : Nat → ASt → Prop} {g : Bool} {f : FuncId} {args : List AV} {dst : Option Nat} {full : Array Oper} {rest : List Oper} {k : List Itm} (hT : ∀ t, E.T t = tab E.P t) (n : Nat) (hd : dstOk E dst = true)
    (h1 : g = true → CallG E B f args dst full rest k s) (h2 : g = false → exec E B n (.ops full rest :: k) (s.put dst .any)) : GCallG E B g f args dst full rest k s := by
  unfold GCallG
  refine ⟨h1, fun hg rd mp a w hs hrd hsz => ?_⟩
  refine exec_sound hT n _ _ (h2 hg) rd mp _ w ?_ hrd (by rw [put_size]; exact hsz)
  exact hs.put (Rd.le.refl _) (Mp.le.refl _) hs.mem (.any _ _) (fun d hd' => by
    rw [hd'] at hd
    simp only [dstOk, Nat.blt_eq] at hd
    rw [hsz]; exact hd)

/-- A guarded call, both ways in one. -/
theorem gcall_join {E : Env} {B : Nat → ASt → Prop} {g : Bool} {f : FuncId} {args : List AV} {dst : Option Nat} {full : Array Oper} {rest : List Oper} {k : List Itm} (hT : ∀ t, E.T t = tab E.P t) (n : Nat) {args' : List AV} {res : AV} (hc : g = true → Con E.P f args' res)
    (hp : args'.all AV.pure = true) (hl : g = true → LeL args args') (hd : dstOk E dst = true) (h : exec E B n (.ops full rest :: k) (s.put dst (.cnd g res))) : GCallG E B g f args dst full rest k s := by
  have hdst : ∀ {a : Act}, a.tmps.size = E.fn.ntmps → ∀ d, dst = some d → d < a.tmps.size := by
    intro a hsz d hd'
    rw [hd'] at hd
    simp only [dstOk, Nat.blt_eq] at hd
    rw [hsz]; exact hd
  unfold GCallG
  refine ⟨fun hg => ?_, fun hg rd mp a w hs hrd hsz => ?_⟩
  · unfold CallG
    intro rd mp a w vs hs hrd hsz hargs
    have hcon := hc hg rd w vs ⟨hs.mem.rdw, hs.mem.rd1⟩ ((hargs.le (hl hg)).pure hp _)
    have step : ∀ v w', (∃ rd', Rel rd' Mp.none res v ∧ Rd.le rd rd' ∧ MemR rd' w' ∧ (∀ g o v, rd' g o = some v → rd g o = some v ∨ w.heap.size ≤ g) ∧ Below w.heap.size w w') → wpList E.P full (QK E B k) rest (a.put dst v) w' := by
      rintro v w' ⟨rd', h1, h2, h3, h4, h5⟩
      have hm' := hs.mem.more h5 h2 h3 h4
      refine exec_sound hT n _ _ h rd' mp _ w' ?_ (hrd.trans h2) (by rw [put_size]; exact hsz)
      exact hs.put h2 (Mp.le.refl _) hm' (.cnd _ _ _ _ (fun _ => h1.mono (Rd.le.refl _) (Mp.none_le _)) (fun hf => by rw [hg] at hf; cases hf)) (hdst hsz)
    rcases hcon with ⟨h1, h2⟩ | ⟨v, w', h1, h2⟩
    · exact .inl ⟨h1, h2.mono fun e w' ⟨v, he, hv⟩ => ⟨v, he, step v w' hv⟩⟩
    · exact .inr ⟨v, w', h1, step v w' h2⟩
  · refine exec_sound hT n _ _ h rd mp _ w ?_ hrd (by rw [put_size]; exact hsz)
    exact hs.put (Rd.le.refl _) (Mp.le.refl _) hs.mem (.cnd _ _ _ _ (fun ht => by rw [hg] at ht; cases ht) (fun _ => rfl)) (hdst hsz)

def slotsFrom : Nat → List AV → List (Nat × AV)
  | _, [] => []
  | i, x :: xs => (i, x) :: slotsFrom (i + 1) xs

theorem look_slotsFrom (xs : List AV) : ∀ (i t : Nat), look (slotsFrom i xs) t = if i ≤ t then xs[t - i]? else none := by
  induction xs with
  | nil => intro i t; simp [slotsFrom, look]
  | cons x xs ih =>
    intro i t
    simp only [slotsFrom, look_cons, ih]
    by_cases h1 : i = t
    · subst h1; simp
    · by_cases h2 : i ≤ t
      · rw [if_neg h1, if_pos (by omega), if_pos h2, show t - i = (t - (i + 1)) + 1 by omega, List.getElem?_cons_succ]
      · rw [if_neg h1, if_neg (by omega), if_neg h2]

theorem con_of_exec {P : Program} {T : Nat → TI} {C : Cfg} {f : FuncId} {fn : Func} {body : Code} {args : List AV} {res : AV} (n : Nat) (hT : ∀ t, T t = tab P t) (hf : P.funcs[f]? = some fn) (hb : fn.body = some body)
    (hname : (fn.name == "runtime.NumGoroutine") = false) (hn : Nat.ble args.length fn.ntmps = true)
    (h : ∀ c : Ctx, exec { P := P, T := T, C := C, fn := fn, c := c, Q := fun x => Le x res } (fun _ _ => False) n [.code body] ⟨slotsFrom 0 args, [], 0⟩) : Con P f args res := by
  intro rd w vs hm hargs
  have hn' : args.length ≤ fn.ntmps := Nat.le_of_ble_eq_true hn
  have hname' : fn.name ≠ "runtime.NumGoroutine" := by simpa using hname
  refine .inl ⟨by simp [callFunc, hf, hname', hb, mark], ?_⟩
  let c : Ctx := ⟨w, rd, fun _ => False⟩
  have hok := exec_sound (E := { P := P, T := T, C := C, fn := fn, c := c, Q := fun x => Le x res }) (B := fun _ _ => False) hT n _ _ (h c)
  have hsr : SR c rd Mp.none ⟨slotsFrom 0 args, [], 0⟩ ⟨vs ++ Array.replicate (fn.ntmps - vs.size) undef, []⟩ w := by
    refine ⟨fun t => ?_, rfl, ⟨hm.1, hm.2, fun g o v h => .inl h, ⟨rfl, rfl, rfl, Nat.le_refl _, fun _ _ _ => rfl⟩, fun id x hx => by simp [look] at hx, fun i j x y g hi => by simp [look] at hi, fun _ _ => ⟨rfl, rfl⟩, fun i x hx => by simp [look] at hx⟩⟩
    simp only [ASt.get, look_slotsFrom, Nat.zero_le, if_true, Nat.sub_zero]
    by_cases ht : t < args.length
    · have hv : t < vs.size := by rw [hargs.1]; exact ht
      have : (vs ++ Array.replicate (fn.ntmps - vs.size) undef).getD t undef = vs[t] := by
        rw [Array.getD_eq_getD_getElem?, Array.getElem?_append_left hv]; simp [hv]
      rw [List.getElem?_eq_getElem ht, this]
      exact hargs.2 t _ _ (List.getElem?_eq_getElem ht) (by simp [hv])
    · rw [List.getElem?_eq_none (by omega)]
      exact .any _ _
  have hwp := hok rd Mp.none _ w hsr (Rd.le.refl _) (by simp [hargs.1]; omega)
  refine (calls_of_wp hf hb hwp).mono fun e w' he => ?_
  cases e with
  | returned v =>
    obtain ⟨x, rd', h1, h2, h3, h4, h5, h6, h7⟩ := he
    exact ⟨v, rfl, rd', h1 _ _ _ h2, h3, ⟨h4, h5⟩, h6, ⟨h7.os, h7.tape, h7.output, h7.size, fun k hk => h7.block k hk (fun h => h)⟩⟩
  | panicked ch => exact absurd he id
  | outgrown => exact absurd he id

/-- One abstract state says no more than another: slot by slot, and of the store what the other names. -/
def SubSl (s : ASt) : List (Nat × AV) → Prop
  | [] => True
  | (t, x) :: r => Le (s.get t) x ∧ SubSl s r

def SoLe : SO → SO → Prop
  | .box t cs, .box t' cs' => t = t' ∧ LeL cs cs'
  | .row e sz n f, .row e' sz' n' f' => e = e' ∧ sz = sz' ∧ n = n' ∧ ∀ i, i < n → f i = f' i
  | _, _ => False

def SubSt (st : List (Nat × SO)) : List (Nat × SO) → Prop
  | [] => True
  | (i, x) :: r => (match look st i with | some y => SoLe y x | none => False) ∧ SubSt st r

def Sub (s s' : ASt) : Prop := SubSl s s'.sl ∧ SubSt s.st s'.st

/-- All names of a state lie below its next one. -/
def ASt.closed (s : ASt) : Bool := (s.sl.all fun p => p.2.lt s.nx) && stLt s.nx s.st

theorem SubSl.get : ∀ {l : List (Nat × AV)}, SubSl s l → ∀ t, Le (s.get t) ((look l t).getD .any)
  | [], _, t => Le.any _
  | (k, x) :: r, h, t => by
    rw [look_cons]
    by_cases hk : k = t
    · subst hk; rw [if_pos rfl]; exact h.1
    · rw [if_neg hk]; exact SubSl.get h.2 t

theorem SubSt.get : ∀ {l : List (Nat × SO)}, SubSt st l → ∀ i x, look l i = some x → ∃ y, look st i = some y ∧ SoLe y x
  | [], _, i, x, h => by simp [look] at h
  | (k, z) :: r, h, i, x, hl => by
    rw [look_cons] at hl
    by_cases hk : k = i
    · subst hk
      rw [if_pos rfl] at hl
      cases hl
      have h1 := h.1
      split at h1
      · rename_i y hy; exact ⟨y, hy, h1⟩
      · exact absurd h1 id
    · rw [if_neg hk] at hl; exact SubSt.get h.2 i x hl

theorem SoLe.ok {c : Ctx} {id : Nat} {y x : SO} (h : SoLe y x) (hs : SOk c rd mp w id y) : SOk c rd mp w id x := by
  cases y with
  | box t cs =>
    cases x with
    | box t' cs' =>
      obtain ⟨rfl, hl⟩ := h
      obtain ⟨b, vs, h1, h2, h3, h4, h5, h6⟩ := hs
      refine ⟨b, vs, h1, h2, by rw [h3, hl.get.1], fun j z v hz hv => ?_, h5, h6⟩
      have hj : j < cs.length := by rw [hl.get.1]; exact (List.getElem?_eq_some_iff.1 hz).1
      exact hl.get.2 j cs[j] z (List.getElem?_eq_getElem hj) hz _ _ _ (h4 j cs[j] v (List.getElem?_eq_getElem hj) hv)
    | row => exact False.elim h
  | row e sz n f =>
    cases x with
    | box => exact False.elim h
    | row e' sz' n' f' =>
      obtain ⟨rfl, rfl, rfl, hf⟩ := h
      obtain ⟨v, xs, h1, h2, h3, h4, h5⟩ := hs
      exact ⟨v, xs, h1, h2, fun i hi => hf i hi ▸ h3 i hi, fun i j z hi hz => h4 i j z hi (by rw [hf i hi]; exact hz), h5⟩

theorem SoLe.home {y x : SO} (h : SoLe y x) (mp : Mp) (id : Nat) : home mp id x = home mp id y := by
  cases y <;> cases x <;> first | rfl | exact False.elim h

theorem SR.sub {s' : ASt} (h : SR c rd mp s a w) (hs : Sub s s') (hc : s'.closed = true) : SR c rd (mp.restrict s'.nx) s' a w := by
  simp only [ASt.closed, Bool.and_eq_true] at hc
  obtain ⟨hc1, hc2⟩ := hc
  refine ⟨fun t => ?_, h.defers, ?_⟩
  · have hr := hs.1.get t rd mp _ (h.slots t)
    simp only [ASt.get]
    cases hl : look s'.sl t with
    | none => exact .any _ _
    | some x =>
      rw [hl] at hr
      exact hr.lt (List.all_eq_true.1 hc1 _ (mem_of_look hl))
  · have hm := h.mem
    have hbig : Mem c rd mp s'.st (max s.nx s'.nx) w := by
      refine ⟨hm.rdw, hm.rd1, hm.rdn, hm.fr, fun i x hx => ?_, fun i j x y g hi hj hgi hgj => ?_, fun i hi => hm.fresh i (by omega), fun i x hx => ?_⟩
      · obtain ⟨y, hy, hle⟩ := hs.2.get i x hx
        exact hle.ok (hm.so i y hy)
      · obtain ⟨x', hx', hlx⟩ := hs.2.get i x hi
        obtain ⟨y', hy', hly⟩ := hs.2.get j y hj
        rw [hlx.home] at hgi
        rw [hly.home] at hgj
        exact hm.inj i j x' y' g hx' hy' hgi hgj
      · obtain ⟨y, hy, _⟩ := hs.2.get i x hx
        have := hm.ids i y hy
        omega
    exact hbig.restrict hc2

theorem upon_mono {P : Program} {o : Oper} {a : Act} {K K' : Act → World → Prop} {Q Q' : Exit → Act → World → Prop} (hk : ∀ a w, K a w → K' a w) (hq : ∀ e a w, Q e a w → Q' e a w) (r : Result Next) (h : o.upon P a K Q r) : o.upon P a K' Q' r := by
  unfold Oper.upon at h ⊢
  split at h
  · exact hk _ _ h
  · exact hk _ _ h
  · exact hk _ _ h
  · refine Calls.mono h fun e w' he => ?_
    cases e with
    | returned v => exact hk _ _ he
    | panicked ch => exact hq _ _ _ he
    | outgrown => obtain ⟨a, w, h⟩ := he; exact ⟨a, w, hq _ _ _ h⟩
  · exact Rows.mono h fun v w' hv => hk _ _ hv
  · exact hq _ _ _ h
  · exact False.elim h

theorem wpList_mono {P : Program} {full : Array Oper} {Q Q' : Exit → Act → World → Prop} (hq : ∀ e a w, Q e a w → Q' e a w) : ∀ (l : List Oper) (a : Act) (w : World), wpList P full Q l a w → wpList P full Q' l a w := by
  intro l
  induction l with
  | nil => intro a w h; exact hq _ _ _ h
  | cons o l ih =>
    intro a w h
    unfold wpList at h ⊢
    split at h
    · rename_i hw
      rw [if_pos hw]
      rcases h with h | ⟨h1, a', w', h2⟩
      · exact .inl (upon_mono ih hq _ h)
      · exact .inr ⟨h1, a', w', hq _ _ _ h2⟩
    · rename_i hw
      rw [if_neg hw]
      exact ih _ _ h

def noMark (m : Nat) : List Itm → Bool
  | [] => true
  | .mark n :: k => !Nat.beq n m && noMark m k
  | _ :: k => noMark m k

theorem QK_mark {E : Env} {B B' : Nat → ASt → Prop} (lvl : Nat) (hB : ∀ n s, n ≠ lvl → B' n s → B n s) : ∀ (k : List Itm), noMark lvl k = true → ∀ e a w, QK E B' k e a w → QK E B k e a w := by
  intro k
  induction k with
  | nil => intro _ e a w h; exact h
  | cons i k ih =>
    intro hm e a w h
    cases i with
    | code x =>
      have ih' := ih hm
      cases e with
      | normal => simp only [QK] at h ⊢; exact wp_mono h ih'
      | _ => exact ih' _ _ _ h
    | blk id =>
      have ih' := ih hm
      cases e with
      | exit id' =>
        simp only [QK] at h ⊢
        split at h
        · rename_i he; rw [if_pos he]; exact ih' _ _ _ h
        · rename_i he; rw [if_neg he]; exact ih' _ _ _ h
      | _ => exact ih' _ _ _ h
    | mark n =>
      simp only [noMark, Bool.and_eq_true, Bool.not_eq_true'] at hm
      have ih' := ih hm.2
      cases e with
      | normal =>
        simp only [QK] at h ⊢
        obtain ⟨h1, rd, mp, s, h2, h3, h4⟩ := h
        exact ⟨h1, rd, mp, s, h2, h3, hB n s (fun e => by rw [e] at hm; simp at hm) h4⟩
      | _ => exact ih' _ _ _ h
    | ops full l =>
      have ih' := ih hm
      cases e with
      | normal => simp only [QK] at h ⊢; exact wpList_mono ih' _ _ _ h
      | _ => exact ih' _ _ _ h

theorem loop_rule {E : Env} {B : Nat → ASt → Prop} {body : Code} {k : List Itm} (hT : ∀ t, E.T t = tab E.P t) (n lvl : Nat) {G : Type} (I : G → ASt) (φ : G → Prop) (μ : G → Nat) (g0 : G) (h0 : φ g0) (hsub : Sub s (I g0)) (hcl : ∀ g, (I g).closed = true)
    (hmk : noMark lvl k = true)
    (round : ∀ g, φ g → exec E (fun m s' => bif Nat.beq m lvl then ∃ g', φ g' ∧ Sub s' (I g') ∧ μ g' < μ g else B m s') n (.code body :: .mark lvl :: k) (I g)) : LoopG E B body k s := by
  unfold LoopG
  intro rd mp a w hs hrd hsz
  show (Code.loop body).wp E.P (QK E B k) a w
  refine wp_loop_ghost (fun m a w => a.tmps.size = E.fn.ntmps ∧ ∃ rd mp g, SR E.c rd mp (I g) a w ∧ Rd.le E.c.rd0 rd ∧ φ g ∧ μ g = m) (μ g0) ⟨hsz, rd, _, g0, hs.sub hsub (hcl g0), hrd, h0, rfl⟩ ?_
  rintro m a w ⟨hsz, rd, mp, g, hs, hrd, hφ, rfl⟩
  have hok := exec_sound (E := E) (B := (fun m s' => bif Nat.beq m lvl then ∃ g', φ g' ∧ Sub s' (I g') ∧ μ g' < μ g else B m s')) hT n _ _ (round g hφ) rd mp a w hs hrd hsz
  refine wp_mono hok fun e a' w' hq => ?_
  have pass : QK E (fun m s' => bif Nat.beq m lvl then ∃ g', φ g' ∧ Sub s' (I g') ∧ μ g' < μ g else B m s') k e a' w' → QK E B k e a' w' :=
    QK_mark (E := E) (B := B) (B' := (fun m s' => bif Nat.beq m lvl then ∃ g', φ g' ∧ Sub s' (I g') ∧ μ g' < μ g else B m s')) lvl (fun n s hn hb => by
      have : Nat.beq n lvl = false := by
        cases hb' : Nat.beq n lvl with
        | false => rfl
        | true => exact absurd (Nat.eq_of_beq_eq_true hb') hn
      simpa [this] using hb) k hmk e a' w'
  cases e with
  | normal =>
    obtain ⟨h1, rd', mp', s', h2, h3, h4⟩ := hq
    simp only [Nat.beq_refl, cond_true] at h4
    obtain ⟨g', hg1, hg2, hg3⟩ := h4
    exact ⟨μ g', hg3, h1, rd', _, g', h2.sub hg2 (hcl g'), h3, hg1, rfl⟩
  | _ => exact pass hq

attribute [irreducible] Le

end Go.Sx
