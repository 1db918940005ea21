/- Soundness of the abstract operations, first part: values, numbers, texts. Nothing of a program. -/
import Derived.Test.YtljcikhibikebaaSxExec
namespace Go.Sx
open Go Go.RowKit

variable {P : Program} {T : Nat → TI} {C : Cfg} {c : Ctx} {rd : Rd} {mp : Mp} {s : ASt} {a : Act} {w : World}

theorem tab_none {t : TypeId} (h : P.info? t = none) : tab P t = ⟨.other, 0, 0, [], false⟩ := by simp [tab, h]

theorem underlying_some {t : TypeId} {d : TypeDesc} (h : P.underlying t = some d) : ∃ i, P.info? t = some i := by
  unfold Program.underlying at h
  cases hi : P.info? t with
  | none => rw [hi] at h; cases h
  | some i => exact ⟨i, rfl⟩

theorem tab_some {t : TypeId} {i : TypeInfo} {d : TypeDesc} (h : P.info? t = some i) (hd : P.underlying t = some d) :
    tab P t = ⟨kdOf d, i.size, i.bytes, zeroOf i, cmpOf P t d⟩ := by simp [tab, h, hd]

/-- A type whose kind is told has its row in the table. -/
theorem tab_kd (hT : ∀ t, T t = tab P t) {t : TypeId} (h : (T t).kd ≠ .other) : ∃ i d, P.info? t = some i ∧ P.underlying t = some d ∧ (T t).kd = kdOf d ∧ (T t).size = i.size ∧ (T t).bytes = i.bytes ∧
    (T t).zero = zeroOf i ∧ (T t).cmp = cmpOf P t d := by
  rw [hT] at h ⊢
  cases hi : P.info? t with
  | none => rw [tab_none hi] at h; exact absurd rfl h
  | some i =>
    cases hd : P.underlying t with
    | none => simp [tab, hi, hd] at h
    | some d => rw [tab_some hi hd]; exact ⟨i, d, rfl, rfl, rfl, rfl, rfl, rfl, rfl⟩

theorem tab_slice (hT : ∀ t, T t = tab P t) {t e : TypeId} (h : (T t).kd = .slice e) : P.underlying t = some (.slice e) := by
  obtain ⟨i, d, _, hd, hk, _⟩ := tab_kd hT (t := t) (by rw [h]; simp)
  rw [h] at hk
  cases d <;> simp [kdOf] at hk
  subst hk; exact hd

theorem tab_str (hT : ∀ t, T t = tab P t) {t : TypeId} (h : (T t).kd = .str) : P.underlying t = some .string := by
  obtain ⟨i, d, _, hd, hk, _⟩ := tab_kd hT (t := t) (by rw [h]; simp)
  rw [h] at hk
  cases d <;> simp [kdOf] at hk
  exact hd

theorem tab_int (hT : ∀ t, T t = tab P t) {t : TypeId} {k : IntKind} (h : (T t).kd = .int k) : P.underlying t = some (.int k) := by
  obtain ⟨i, d, _, hd, hk, _⟩ := tab_kd hT (t := t) (by rw [h]; simp)
  rw [h] at hk
  cases d <;> simp [kdOf] at hk
  subst hk; exact hd

theorem tab_bool (hT : ∀ t, T t = tab P t) {t : TypeId} (h : (T t).kd = .bool) : P.underlying t = some .bool := by
  obtain ⟨i, d, _, hd, hk, _⟩ := tab_kd hT (t := t) (by rw [h]; simp)
  rw [h] at hk
  cases d <;> simp [kdOf] at hk
  exact hd

theorem tab_array (hT : ∀ t, T t = tab P t) {t : TypeId} {n : Nat} {e : TypeId} (h : (T t).kd = .array n e) : P.underlying t = some (.array n e) := by
  obtain ⟨i, d, _, hd, hk, _⟩ := tab_kd hT (t := t) (by rw [h]; simp)
  rw [h] at hk
  cases d <;> simp [kdOf] at hk
  obtain ⟨rfl, rfl⟩ := hk; exact hd

theorem tab_struct (hT : ∀ t, T t = tab P t) {t : TypeId} {fs : List (Nat × TypeId)} (h : (T t).kd = .struct fs) :
    ∃ fields : Array Field, P.underlying t = some (.struct fields) ∧ fs = fields.toList.map fun f => (f.offset, f.type) := by
  obtain ⟨i, d, _, hd, hk, _⟩ := tab_kd hT (t := t) (by rw [h]; simp)
  rw [h] at hk
  cases d <;> simp [kdOf] at hk
  exact ⟨_, hd, hk⟩

/-- A type that has a size has its row in the table. -/
theorem tab_size (hT : ∀ t, T t = tab P t) {t : TypeId} (h : 1 ≤ (T t).size) : ∃ i, P.info? t = some i ∧ (T t).size = i.size ∧ (T t).bytes = i.bytes ∧
    (T t).zero = zeroOf i := by
  rw [hT] at h ⊢
  unfold tab at h ⊢
  split at h
  · rename_i i d h1 h2
    exact ⟨i, h1, rfl, rfl, rfl⟩
  · simp at h

theorem isAgg_run (hT : ∀ t, T t = tab P t) {t : TypeId} (h : 1 ≤ (T t).size) (w : World) : (isAgg t).run P w = .ok (isAggK (T t).kd) w := by
  rw [hT] at h ⊢
  unfold tab at h ⊢
  split at h
  · rename_i i d h1 h2
    simp only [isAgg, Sem.run_bind, run_underlying h2, Result.andThen]
    cases d <;> simp [kdOf, isAggK]
  · simp at h

theorem rel_ofVal1 (rd : Rd) (mp : Mp) (v : Value) : Rel rd mp (ofVal1 v) v := by
  unfold ofVal1
  split <;> first | exact .int _ _ _ | exact .bool _ _ | exact .any _ _ | exact .nils _ | exact .nilp _ | skip
  rename_i s
  have : s = ⟨s.data.toList.toArray⟩ := by cases s; simp
  conv => arg 4; rw [this]
  exact .str _ _

theorem rel_ofVal (rd : Rd) (mp : Mp) (v : Value) : Rel rd mp (ofVal v) v := by
  cases v with
  | agg cs =>
    simp only [ofVal]
    refine .agg _ _ _ (by simp) (fun j x u hx hu => ?_)
    simp [hu] at hx
    subst hx
    exact rel_ofVal1 rd mp u
  | _ => simp only [ofVal]; apply rel_ofVal1

/-- What an operand is. -/
theorem rel_ev (h : SR c rd mp s a w) (x : Operand) : Rel rd mp (ev s x) (a.eval x) := by
  cases x with
  | tmp t => exact h.slots t
  | const v => exact rel_ofVal rd mp v
  | global g => exact .any _ _
  | func f => exact .fn _ _ _ _ rfl (fun j x v hx _ => by simp at hx)

theorem rel_strip {x : AV} {v : Value} (h : Rel rd mp x v) (hc : obT (scond x)) : Rel rd mp (strip x) v := by
  cases x with
  | cnd q y =>
    cases h with
    | cnd _ _ _ _ h _ => exact h hc
  | _ => exact h

theorem rel_int {k : IntKind} {n : Int} {v : Value} (h : Rel rd mp (.int k n) v) : v = .int k n := by cases h; rfl
theorem rel_bool {b : Bool} {v : Value} (h : Rel rd mp (.bool b) v) : v = .bool b := by cases h; rfl
theorem rel_str {l : List UInt8} {v : Value} (h : Rel rd mp (.str l) v) : v = .string ⟨l.toArray⟩ := by cases h; rfl

theorem wrap_in {k : IntKind} {n : Int} (h : inR k n) : k.wrap n = n := by
  unfold inR at h
  cases k <;> simp [IntKind.min, IntKind.max, IntKind.wrap, IntKind.signed, IntKind.bits] at h ⊢ <;> (try split) <;> omega

theorem rowAt_mem {st : List (Nat × SO)} {r i : Nat} {ob : Option Prop} {R : RowV} (h : rowAt st r i = some (ob, R)) (hob : obT ob) : IsMem st r i R := by
  unfold rowAt at h
  split at h
  · rename_i ids e sz ep n f hl
    cases hi : Nat.beq i 0 with
    | false => simp [hi] at h
    | true =>
      simp only [hi, cond_true, Option.some.injEq, Prod.mk.injEq] at h
      obtain ⟨rfl, rfl⟩ := h
      obtain rfl : i = 0 := Nat.eq_of_beq_eq_true hi
      exact .row hl
  · rename_i e sz cnt ep len f hl
    simp only [Option.some.injEq, Prod.mk.injEq] at h
    obtain ⟨rfl, rfl⟩ := h
    exact .fam hl hob
  · cases h

theorem rel_own {r i e n : Nat} {v : Value} (hr : Rel rd mp (.own r i e n) v) : ∃ vr er nr, mp.row r i = some (vr, er, nr) ∧ e ≤ er ∧ (e = er → n ≤ nr) ∧ (e = er → n = nr → v = vr) := by
  cases hr with
  | own _ _ _ _ _ _ vr er nr h1 h2 h3 h4 => exact ⟨vr, er, nr, h1, h2, h3, h4⟩

theorem rel_eptr {r i e n sz k o : Nat} {v : Value} (hr : Rel rd mp (.eptr r i e n sz k o) v) : ∃ vr er nr, mp.row r i = some (vr, er, nr) ∧ e ≤ er ∧ (e = er → n ≤ nr) ∧
    (e = er → n = nr → ∃ g lo cap, vr = .slice (some ⟨g, lo, none⟩) n cap ∧ v = .pointer (some ⟨g, lo + (k * sz + o), none⟩)) := by
  cases hr with
  | eptr _ _ _ _ _ _ _ _ _ vr er nr h1 h2 h3 h4 => exact ⟨vr, er, nr, h1, h2, h3, h4⟩

/-- A row that is as it was told: its value, its cells. -/
theorem own_now {st : List (Nat × SO)} {nx : Nat} (hm : Mem c rd mp st nx w) {r i e n : Nat} {ob : Option Prop} {R : RowV} {v : Value} (hr : rowAt st r i = some (ob, R)) (hob : obT ob) (hx : Rel rd mp (.own r i e n) v) (hn : e = R.ep ∧ n = R.n) :
    ∃ xs, mp.row r i = some (v, R.ep, R.n) ∧ Owns w R.e R.sz v R.n xs ∧ (∀ k, k < R.n → (R.f k).length = R.sz) ∧
      (∀ (k j : Nat) x, k < R.n → (R.f k)[j]? = some x → ∃ u, xs[k * R.sz + j]? = some u ∧ u.oneCell' = true ∧ Rel rd (mp.sel R.ids) x u) ∧
      (∀ g, v.ownBlock = some g → (∀ o, rd g o = none) ∧ (c.w0.heap.size ≤ g ∨ c.fx g)) := by
  obtain ⟨v', xs, h1, h2⟩ := hm.mb r i R (rowAt_mem hr hob)
  obtain ⟨vr, er, nr, g1, _, _, g4⟩ := rel_own hx
  rw [h1] at g1; cases g1
  cases g4 hn.1 hn.2
  exact ⟨xs, h1, h2⟩

/-- What a quiet operation leaves. -/
def Quiet (P : Program) (c : Ctx) (rd : Rd) (mp : Mp) (st : List (Nat × SO)) (nx : Nat) (w : World) (v : AV) (m : Sem Value) : Prop :=
  ∃ x w' rd', m.run P w = .ok x w' ∧ Rd.le rd rd' ∧ Mem c rd' mp st nx w' ∧ Rel rd' mp v x

/-- What an operation that turns the store leaves. -/
def Turns (P : Program) (c : Ctx) (rd : Rd) (mp : Mp) (st' : List (Nat × SO)) (nx' : Nat) (w : World) (v : AV) (m : Sem Value) : Prop :=
  ∃ x w' rd' mp', m.run P w = .ok x w' ∧ Rd.le rd rd' ∧ Mp.le mp mp' ∧ Mem c rd' mp' st' nx' w' ∧ Rel rd' mp' v x

/-- What is to be shown of an operation. -/
def Fits (P : Program) (c : Ctx) (rd : Rd) (mp : Mp) (st : List (Nat × SO)) (nx : Nat) (w : World) (r : OR) (m : Sem Value) : Prop :=
  match r with
  | .ok ob v => obT ob → Quiet P c rd mp st nx w v m
  | .mem ob v st' nx' => obT ob → Turns P c rd mp st' nx' w v m
  | .call _ _ => False
  | .bad => True

theorem Quiet.here {st : List (Nat × SO)} {nx : Nat} {v : AV} {m : Sem Value} {x : Value} (hm : Mem c rd mp st nx w) (hr : m.run P w = .ok x w) (h : Rel rd mp v x) : Quiet P c rd mp st nx w v m :=
  ⟨x, w, rd, hr, Rd.le.refl _, hm, h⟩

theorem Fits.also {st : List (Nat × SO)} {nx : Nat} {r : OR} {m : Sem Value} {p : Option Prop} (h : obT p → Fits P c rd mp st nx w r m) : Fits P c rd mp st nx w (also p r) m := by
  cases r with
  | ok ob v => exact fun hob => h ((obT_andO _ _).1 hob).1 ((obT_andO _ _).1 hob).2
  | mem ob v st' nx' => exact fun hob => h ((obT_andO _ _).1 hob).1 ((obT_andO _ _).1 hob).2
  | call f args => trivial
  | bad => trivial

theorem fits_arith {st : List (Nat × SO)} {nx : Nat} (hm : Mem c rd mp st nx w) (wr : Bool) (k : IntKind) (n : Int) (m : Sem Value) (hr : m.run P w = .ok (.int k (k.wrap n)) w) : Fits P c rd mp st nx w (arith wr k n) m := by
  cases wr with
  | true => exact fun _ => .here hm hr (.int _ _ _)
  | false => exact fun h => .here hm hr (by rw [wrap_in h]; exact .int _ _ _)

theorem fits_int {st : List (Nat × SO)} {nx : Nat} (hm : Mem c rd mp st nx w) (wr : Bool) (op : BinOp) (t : TypeId) (k : IntKind) (x y : Int) : Fits P c rd mp st nx w (intO wr op k x y) (binOp op t (.int k x) (.int k y)) := by
  cases op with
  | add => exact fits_arith hm _ _ _ _ (by simp [binOp, Op.intArith])
  | sub => exact fits_arith hm _ _ _ _ (by simp [binOp, Op.intArith])
  | mul => exact fits_arith hm _ _ _ _ (by simp [binOp, Op.intArith])
  | quo => exact fun h => .here hm (by simp [binOp, Op.intDiv, h.1]; rfl) (by rw [wrap_in h.2]; exact .int _ _ _)
  | rem => exact fun h => .here hm (x := .int k (x.tmod y)) (by have h' : y ≠ 0 := h; simp [binOp, Op.intDiv, h']) (.int _ _ _)
  | and => exact fun _ => .here hm (x := .int k (bitI .and k x y)) (by simp [binOp, Op.intBits, bitI]) (.int _ _ _)
  | or => exact fun _ => .here hm (x := .int k (bitI .or k x y)) (by simp [binOp, Op.intBits, bitI]) (.int _ _ _)
  | xor => exact fun _ => .here hm (x := .int k (bitI .xor k x y)) (by simp [binOp, Op.intBits, bitI]) (.int _ _ _)
  | eql => exact fun _ => .here hm (x := .bool (x == y)) (by simp [binOp, Op.intCmp]) (.bool _ _)
  | neq => exact fun _ => .here hm (x := .bool (x != y)) (by simp [binOp, Op.intCmp]) (.bool _ _)
  | lss => exact fun _ => .here hm (x := .bool (decide (x < y))) (by simp [binOp, Op.intCmp]) (.bool _ _)
  | leq => exact fun _ => .here hm (x := .bool (decide (x ≤ y))) (by simp [binOp, Op.intCmp]) (.bool _ _)
  | gtr => exact fun _ => .here hm (x := .bool (decide (y < x))) (by simp [binOp, Op.intCmp]) (.bool _ _)
  | geq => exact fun _ => .here hm (x := .bool (decide (y ≤ x))) (by simp [binOp, Op.intCmp]) (.bool _ _)
  | _ => trivial

end Go.Sx
