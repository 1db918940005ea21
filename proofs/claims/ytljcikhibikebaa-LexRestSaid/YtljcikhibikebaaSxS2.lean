/- Soundness of the abstract operations, second part: texts, structs, picks, indexes, slices, fields. Nothing of a program. -/
import Derived.Test.YtljcikhibikebaaSxS1
namespace Go.Sx
open Go Go.RowKit

variable {P : Program} {T : Nat → TI} {C : Cfg} {c : Ctx} {rd : Rd} {mp : Mp} {st : List (Nat × SO)} {nx : Nat} {w : World}

theorem toList_bytes (l : List UInt8) : (⟨l.toArray⟩ : ByteArray).toList = l := by rw [ByteArray.toList_eq]
theorem size_bytes (l : List UInt8) : (⟨l.toArray⟩ : ByteArray).size = l.length := by simp [ByteArray.size]

theorem fits_str (hm : Mem c rd mp st nx w) (op : BinOp) (t : TypeId) (x y : List UInt8) : Fits P c rd mp st nx w (strO op x y) (binOp op t (.string ⟨x.toArray⟩) (.string ⟨y.toArray⟩)) := by
  cases op with
  | add =>
    intro h
    have h' : x.length + y.length ≤ 9223372036854775807 := h
    have hx : (⟨x.toArray⟩ : ByteArray) ++ ⟨y.toArray⟩ = ⟨(x ++ y).toArray⟩ := by
      apply ByteArray.ext
      simp
    refine .here hm (x := .string ⟨(x ++ y).toArray⟩) ?_ (.str _ _)
    have hn : ¬ (((⟨x.toArray⟩ : ByteArray).size + (⟨y.toArray⟩ : ByteArray).size : Nat) : Int) > IntKind.i64.max := by
      rw [size_bytes, size_bytes]; simp [IntKind.max, IntKind.signed, IntKind.bits]; omega
    simp only [binOp, Op.stringOp, hn, if_false, hx]
    rfl
  | eql => exact fun _ => .here hm (x := .bool (x == y)) (by simp [binOp, Op.stringOp]) (.bool _ _)
  | neq => exact fun _ => .here hm (x := .bool (!(x == y))) (by simp [binOp, Op.stringOp]) (.bool _ _)
  | lss => exact fun _ => .here hm (x := .bool (Op.bytesLess x y)) (by simp [binOp, Op.stringOp]) (.bool _ _)
  | _ => trivial

theorem rel_agg {cs : List AV} {v : Value} (h : Rel rd mp (.agg cs) v) : ∃ vs : Array Value, v = .agg vs ∧ vs.size = cs.length ∧ ∀ (j : Nat) x u, cs[j]? = some x → vs[j]? = some u → Rel rd mp x u := by
  cases h with
  | agg _ _ vs hs he => exact ⟨vs, rfl, hs, he⟩

theorem rel_tup {cs : List AV} {v : Value} (h : Rel rd mp (.tup cs) v) : ∃ vs : Array Value, v = .tuple vs ∧ vs.size = cs.length ∧ ∀ (j : Nat) x u, cs[j]? = some x → vs[j]? = some u → Rel rd mp x u := by
  cases h with
  | tup _ _ vs hs he => exact ⟨vs, rfl, hs, he⟩

theorem part_plain (hT : ∀ t, T t = tab P t) {t : TypeId} (hk : (T t).kd ≠ .other) (ha : isAggK (T t).kd = false) (vs : Array Value) (o : Nat) (v : Value) (h : vs[o]? = some v) (w : World) : (part t vs o).run P w = .ok v w := by
  obtain ⟨i, d, h1, h2, h3, _⟩ := tab_kd hT hk
  have hg : (isAgg t).run P w = .ok false w := by
    simp only [isAgg, Sem.run_bind, run_underlying h2, Result.andThen]
    rw [h3] at ha
    cases d <;> simp [kdOf, isAggK] at ha ⊢
  simp [part, hg, h]

/-- The fields' loop over plain cells. -/
theorem eqFields_run (hT : ∀ t, T t = tab P t) (d : Nat) (vs us : Array Value) : ∀ (fs : List Field) (i : Nat) (xs ys : List AV) (b : Bool),
    (fs.all fun f => f.name != "_") = true →
    (∀ (j : Nat) x, xs[j]? = some x → ∃ u, vs[i + j]? = some u ∧ Rel rd mp x u) → (∀ (j : Nat) x, ys[j]? = some x → ∃ u, us[i + j]? = some u ∧ Rel rd mp x u) →
    eqCells T i (fs.map fun f => (f.offset, f.type)) xs ys = some b → (Op.eqFields (d + 1) vs us fs).run P w = .ok b w := by
  intro fs
  induction fs with
  | nil =>
    intro i xs ys b _ _ _ hb
    cases xs <;> cases ys <;> simp [eqCells] at hb
    subst hb
    simp [Op.eqFields]
  | cons f fs ih =>
    intro i xs ys b hn hvs hus hb
    cases xs with
    | nil => simp [eqCells] at hb
    | cons x xs =>
      cases ys with
      | nil => simp [eqCells] at hb
      | cons y ys =>
        simp only [List.map_cons, eqCells] at hb
        cases ho : Nat.beq f.offset i with
        | false => simp [ho] at hb
        | true =>
          simp only [ho, cond_true] at hb
          have ho' : f.offset = i := Nat.eq_of_beq_eq_true ho
          simp only [List.all_cons, Bool.and_eq_true] at hn
          have hnm : f.name ≠ "_" := by simpa using hn.1
          obtain ⟨u, hu, hru⟩ := hvs 0 x rfl
          obtain ⟨u', hu', hru'⟩ := hus 0 y rfl
          simp only [Nat.add_zero] at hu hu'
          have hvs' : ∀ (j : Nat) z, xs[j]? = some z → ∃ u, vs[(i + 1) + j]? = some u ∧ Rel rd mp z u := fun j z hz => by
            have := hvs (j + 1) z (by simpa using hz)
            rwa [show i + (j + 1) = i + 1 + j by omega] at this
          have hus' : ∀ (j : Nat) z, ys[j]? = some z → ∃ u, us[(i + 1) + j]? = some u ∧ Rel rd mp z u := fun j z hz => by
            have := hus (j + 1) z (by simpa using hz)
            rwa [show i + (j + 1) = i + 1 + j by omega] at this
          have step : ∀ q : Bool, (Op.equalIn (d + 1) f.type u u').run P w = .ok q w → (isAggK (T f.type).kd = false ∧ (T f.type).kd ≠ .other) →
              ∀ b', eqCells T (i + 1) (fs.map fun f => (f.offset, f.type)) xs ys = some b' → b = (q && b') → (Op.eqFields (d + 1) vs us (f :: fs)).run P w = .ok b w := by
            intro q hq hagg b' hb' hbb
            have p1 := part_plain hT hagg.2 hagg.1 vs f.offset u (by rw [ho']; exact hu) w
            have p2 := part_plain hT hagg.2 hagg.1 us f.offset u' (by rw [ho']; exact hu') w
            have hrest := ih (i + 1) xs ys b' hn.2 hvs' hus' hb'
            cases q with
            | true => simp [Op.eqFields, hnm, p1, p2, hq, hrest, hbb]
            | false => simp [Op.eqFields, hnm, p1, p2, hq, hbb]
          split at hb
          · rename_i k2 k n k' n' hkt
            by_cases hkk : k = k'
            · subst hkk
              simp only [decide_true, cond_true, Option.map_eq_some_iff] at hb
              obtain ⟨b', hb', rfl⟩ := hb
              rw [rel_int hru, rel_int hru'] at step
              exact step _ (run_equalIn_int w d f.type k k2 n n' (tab_int hT hkt)) (by rw [hkt]; simp [isAggK]) b' hb' rfl
            · simp [hkk] at hb
          · rename_i p q hkt
            simp only [Option.map_eq_some_iff] at hb
            obtain ⟨b', hb', rfl⟩ := hb
            rw [rel_bool hru, rel_bool hru'] at step
            exact step _ (run_equalIn_bool' w d f.type p q (tab_bool hT hkt)) (by rw [hkt]; simp [isAggK]) b' hb' rfl
          · rename_i p q hkt
            simp only [Option.map_eq_some_iff] at hb
            obtain ⟨b', hb', rfl⟩ := hb
            rw [rel_str hru, rel_str hru'] at step
            refine step _ ?_ (by rw [hkt]; simp [isAggK]) b' hb' rfl
            rw [run_equalIn_string w d f.type _ _ (tab_str hT hkt), toList_bytes, toList_bytes]
          · cases hb

theorem fits_agg (hT : ∀ t, T t = tab P t) (hm : Mem c rd mp st nx w) (neg : Bool) (t : TypeId) (xs ys : List AV) (u v : Value) (hu : Rel rd mp (.agg xs) u) (hv : Rel rd mp (.agg ys) v) (xo yo : Operand) :
    Fits P c rd mp st nx w (aggO T neg t xs ys) (do eqGuard (if neg then .neq else .eql) t xo yo u v; binOp (if neg then .neq else .eql) t u v) := by
  unfold aggO
  split
  · rename_i fs hk
    · cases he : eqCells T 0 fs xs ys with
      | none => trivial
      | some b =>
        intro hc
        simp only [obT] at hc
        obtain ⟨us, rfl, hus, hue⟩ := rel_agg hu
        obtain ⟨vs, rfl, hvs, hve⟩ := rel_agg hv
        obtain ⟨fields, hd, rfl⟩ := tab_struct hT hk
        obtain ⟨i, d, h1, h2, _, _, _, _, h3⟩ := tab_kd hT (t := t) (by rw [hk]; simp)
        rw [hd] at h2; cases h2
        rw [h3] at hc
        simp only [cmpOf, Bool.and_eq_true, Bool.not_eq_true'] at hc
        have hf : P.fieldsOf t = fields := by simp [Program.fieldsOf, hd]
        have hrun := run_equalIn_struct w 9999 t us vs (by rw [hf]; exact hd) hc.1.1
        rw [hf] at hrun
        have heq := eqFields_run (rd := rd) (mp := mp) (w := w) hT 9998 us vs fields.toList 0 xs ys b hc.2
          (fun j x hx => by
            have hj : j < us.size := by rw [hus]; exact (List.getElem?_eq_some_iff.1 hx).1
            exact ⟨us[j], by simp [hj], hue j x _ hx (by simp [hj])⟩)
          (fun j x hx => by
            have hj : j < vs.size := by rw [hvs]; exact (List.getElem?_eq_some_iff.1 hx).1
            exact ⟨vs[j], by simp [hj], hve j x _ hx (by simp [hj])⟩) he
        rw [heq] at hrun
        cases neg with
        | false => exact .here hm (x := .bool b) (by simp [eqGuard, binOp, Op.equal, Op.maxDepth, hrun, hc.1.2]) (.bool _ _)
        | true => exact .here hm (x := .bool (!b)) (by simp [eqGuard, binOp, Op.equal, Op.maxDepth, hrun, hc.1.2]) (.bool _ _)
  · trivial

end Go.Sx
