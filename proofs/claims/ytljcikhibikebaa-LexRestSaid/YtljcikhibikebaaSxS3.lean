/- Soundness of the abstract operations, third part: indexes, slices, addresses, loads and stores. Nothing of a program. -/
import Derived.Test.YtljcikhibikebaaSxS2
namespace Go.Sx
open Go Go.RowKit

variable {P : Program} {T : Nat → TI} {C : Cfg} {c : Ctx} {rd : Rd} {mp : Mp} {st : List (Nat × SO)} {nx : Nat} {w : World}

theorem fits_pick (hm : Mem c rd mp st nx w) (x y z : AV) (vx vy vz : Value) (hx : Rel rd mp x vx) (hy : Rel rd mp y vy) (hz : Rel rd mp z vz) :
    Fits P c rd mp st nx w (pickO x y z) (do pure (if ← asBool vx then vy else vz)) := by
  unfold pickO
  split
  · rename_i p b1 b2
    intro _
    cases rel_bool hx; cases rel_bool hy; cases rel_bool hz
    exact .here hm (x := .bool (bif p then b1 else b2)) (by cases p <;> simp [asBool]) (.bool _ _)
  · rename_i p q b1 b2
    intro h
    cases rel_bool hx; cases rel_bool hz
    cases p with
    | false => exact .here hm (x := .bool b2) (by simp [asBool]) (.bool _ _)
    | true =>
      cases hy with
      | cnd _ _ _ _ hy _ =>
        cases rel_bool (hy (h rfl))
        exact .here hm (x := .bool b1) (by simp [asBool]) (.bool _ _)
  · rename_i p b1 q b2
    intro h
    cases rel_bool hx; cases rel_bool hy
    cases p with
    | true => exact .here hm (x := .bool b1) (by simp [asBool]) (.bool _ _)
    | false =>
      cases hz with
      | cnd _ _ _ _ hz _ =>
        cases rel_bool (hz (h rfl))
        exact .here hm (x := .bool b2) (by simp [asBool]) (.bool _ _)
  · trivial

theorem fits_and (hm : Mem c rd mp st nx w) (x y : AV) (vx vy : Value) (hx : Rel rd mp x vx) (hy : Rel rd mp y vy) :
    Fits P c rd mp st nx w (andP x y) (do pure (if ← asBool vx then vy else .bool false)) := by
  unfold andP
  split
  · rename_i p b1
    intro _
    cases rel_bool hx; cases rel_bool hy
    exact .here hm (x := .bool (p && b1)) (by cases p <;> simp [asBool]) (.bool _ _)
  · rename_i p q b1
    intro h
    cases rel_bool hx
    cases p with
    | false => exact .here hm (x := .bool false) (by simp [asBool]) (.bool _ _)
    | true =>
      cases hy with
      | cnd _ _ _ _ hy _ =>
        cases rel_bool (hy (h rfl))
        exact .here hm (x := .bool b1) (by simp [asBool]) (by rw [Bool.true_and]; exact .bool _ _)
  · trivial

theorem fits_or (hm : Mem c rd mp st nx w) (x y : AV) (vx vy : Value) (hx : Rel rd mp x vx) (hy : Rel rd mp y vy) :
    Fits P c rd mp st nx w (orP x y) (do pure (if ← asBool vx then .bool true else vy)) := by
  unfold orP
  split
  · rename_i p b1
    intro _
    cases rel_bool hx; cases rel_bool hy
    exact .here hm (x := .bool (p || b1)) (by cases p <;> simp [asBool]) (.bool _ _)
  · rename_i p q b1
    intro h
    cases rel_bool hx
    cases p with
    | true => exact .here hm (x := .bool true) (by simp [asBool]) (.bool _ _)
    | false =>
      cases hy with
      | cnd _ _ _ _ hy _ =>
        cases rel_bool (hy (h rfl))
        exact .here hm (x := .bool b1) (by simp [asBool]) (by rw [Bool.false_or]; exact .bool _ _)
  · trivial

theorem fits_un (hm : Mem c rd mp st nx w) (dst : Option Nat) (op : UnOp) (x : AV) (v : Value) (hx : Rel rd mp x v) : Fits P c rd mp st nx w (unO C dst op x) (Op.unary op v) := by
  unfold unO
  split
  · rename_i b
    cases rel_bool hx
    exact fun _ => .here hm (x := .bool (!b)) (by simp [Op.unary]) (.bool _ _)
  · rename_i k n
    cases rel_int hx
    exact fits_arith hm _ _ _ _ (by simp [Op.unary, Op.intArith])
  · trivial

theorem getElem_bytes (l : List UInt8) (i : Nat) : (⟨l.toArray⟩ : ByteArray)[i]? = l[i]? := by
  by_cases h : i < l.length
  · rw [getElem?_pos _ _ (by rw [size_bytes]; exact h), List.getElem?_eq_getElem h]
    rfl
  · rw [getElem?_neg _ _ (by rw [size_bytes]; exact h), List.getElem?_eq_none (by omega)]

theorem fits_index (hT : ∀ t, T t = tab P t) (hm : Mem c rd mp st nx w) (t : TypeId) (x y : AV) (vx vy : Value) (hx : Rel rd mp x vx) (hy : Rel rd mp y vy) :
    Fits P c rd mp st nx w (indexO T t x y) (Instr.index t vx vy) := by
  unfold indexO
  split
  · rename_i l k i
    split
    · rename_i hk
      intro h
      obtain ⟨h0, h1⟩ := h
      cases rel_str hx; cases rel_int hy
      have hi : i.toNat < l.length := by omega
      have hb : (⟨l.toArray⟩ : ByteArray)[i.toNat]? = some (l.getD i.toNat 0) := by rw [getElem_bytes]; simp [List.getD, hi]
      exact .here hm (x := .int .u8 (byteAt l i)) (by simp [Instr.index, asIntOf, run_underlying (tab_str hT hk), h0, hb, byteAt]) (.int _ _ _)
    · trivial
  · rename_i cs k i
    split
    · rename_i n e hk
      cases hc : (Nat.beq (T e).size 1 && !isAggK (T e).kd && Nat.beq cs.length n) with
      | false => trivial
      | true =>
        simp only [Bool.and_eq_true, Nat.beq_eq, Bool.not_eq_true'] at hc
        obtain ⟨⟨h1, h2⟩, h3⟩ := hc
        intro h
        obtain ⟨h0, hl⟩ := h
        obtain ⟨vs, rfl, hs, he⟩ := rel_agg hx
        cases rel_int hy
        obtain ⟨inf, hinf, hsz, _⟩ := tab_size hT (t := e) (by omega)
        have hi : i.toNat < vs.size := by omega
        have hag := isAgg_run hT (t := e) (by omega) w
        rw [h2] at hag
        refine .here hm (x := vs[i.toNat]) ?_ (he i.toNat _ _ (by simp [List.getD, show i.toNat < cs.length by omega]) (by simp [hi]))
        simp [Instr.index, asIntOf, run_underlying (tab_array hT hk), h0, hl, part, hag, sizeOf, typeInfo, hinf, ← hsz, h1, hi]
    · trivial
  · trivial

theorem drop_bytes (l : List UInt8) (i j : Nat) : (⟨l.toArray⟩ : ByteArray).extract i j = ⟨((l.take j).drop i).toArray⟩ := by
  apply ByteArray.ext
  rw [ByteArray.data_extract]
  simp [List.drop_take]

/-- A read-only slice, cut. -/
theorem rel_cut {sz n : Nat} {f : Nat → List AV} {ad : Option Addr} {cap l h : Nat} (hr : Rel rd mp (.slc sz n f) (.slice ad n cap)) (hl : l ≤ h) (hh : h ≤ n) (hc : n ≤ cap) :
    Rel rd mp (.slc sz (h - l) (fun i => f (l + i))) (.slice (if cap = l then ad else ad.map (·.add (l * sz))) (h - l) (cap - l)) := by
  by_cases h0 : h - l = 0
  · rw [h0]; exact .slc0 _ _ _ _ _
  · cases hr with
    | slc0 => omega
    | slc _ _ _ _ blk off _ val hn hcap hs hrd he =>
      rw [if_neg (by omega)]
      simp only [Option.map_some, Addr.add_lit]
      refine .slc _ _ _ _ _ _ _ (fun i j => val (l + i) j) (by omega) (by omega) (fun i hi => hs _ (by omega)) (fun i j hi hj => ?_) (fun i j x hi hx => he _ _ _ (by omega) hx)
      have := hrd (l + i) j (by omega) hj
      rw [Nat.add_mul] at this
      rwa [show off + l * sz + (i * sz + j) = off + (l * sz + i * sz + j) by omega]

theorem rel_slc {sz n : Nat} {f : Nat → List AV} {v : Value} (hr : Rel rd mp (.slc sz n f) v) : ∃ ad cap, v = .slice ad n cap ∧ (0 < n → n ≤ cap) := by
  cases hr with
  | slc0 _ _ _ a cap => exact ⟨a, cap, rfl, fun h => absurd h (by omega)⟩
  | slc _ _ _ _ blk off cap val hn hcap => exact ⟨_, cap, rfl, fun _ => hcap⟩

theorem fits_slice (hT : ∀ t, T t = tab P t) (hm : Mem c rd mp st nx w) (t : TypeId) (x : AV) (lo hi mx : Option AV) (vx : Value) (vlo vhi vmx : Option Value) (hx : Rel rd mp x vx)
    (hlo : ∀ y, lo = some y → ∃ u, vlo = some u ∧ Rel rd mp y u) (hlo' : lo = none → vlo = none) (hhi : ∀ y, hi = some y → ∃ u, vhi = some u ∧ Rel rd mp y u) (hhi' : hi = none → vhi = none)
    (hmx' : mx = none → vmx = none) : Fits P c rd mp st nx w (sliceO T t x lo hi mx) (Instr.sliceAt t vx vlo vhi vmx) := by
  have strs : ∀ {t}, (T t).kd = .str → ∀ v lo hi mx, (Instr.sliceAt t v lo hi mx).run P w = (Instr.slice t v lo hi mx).run P w := by
    intro t hk v lo hi mx
    simp [Instr.sliceAt, run_underlying (tab_str hT hk)]
  have slcs : ∀ {t e}, (T t).kd = .slice e → ∀ v lo hi mx, (Instr.sliceAt t v lo hi mx).run P w = (Instr.slice t v lo hi mx).run P w := by
    intro t e hk v lo hi mx
    simp [Instr.sliceAt, run_underlying (tab_slice hT hk)]
  unfold sliceO
  split
  · rename_i l
    split
    · rename_i hk
      intro _
      cases rel_str hx
      cases hlo' rfl; cases hhi' rfl; cases hmx' rfl
      refine .here hm (x := .string ⟨l.toArray⟩) ?_ (.str _ _)
      rw [strs hk]
      simp [Instr.slice, run_underlying (tab_str hT hk), Instr.sliceBounds]
    · trivial
  · rename_i l k n
    split
    · rename_i hk
      intro h
      obtain ⟨h0, h1⟩ := h
      cases rel_str hx
      obtain ⟨u, rfl, hu⟩ := hlo _ rfl
      cases rel_int hu
      cases hhi' rfl; cases hmx' rfl
      refine .here hm (x := .string ⟨(l.drop n.toNat).toArray⟩) ?_ (.str _ _)
      rw [strs hk]
      simp [Instr.slice, run_underlying (tab_str hT hk), Instr.sliceBounds, Instr.sliceBound, asIntOf, h0, h1, drop_bytes, size_bytes]
    · trivial
  · rename_i l k n
    split
    · rename_i hk
      intro h
      obtain ⟨h0, h1⟩ := h
      cases rel_str hx
      obtain ⟨u, rfl, hu⟩ := hhi _ rfl
      cases rel_int hu
      cases hlo' rfl; cases hmx' rfl
      refine .here hm (x := .string ⟨(l.take n.toNat).toArray⟩) ?_ (.str _ _)
      rw [strs hk]
      simp [Instr.slice, run_underlying (tab_str hT hk), Instr.sliceBounds, Instr.sliceBound, asIntOf, h0, h1, drop_bytes, size_bytes]
    · trivial
  · rename_i l k n k' m
    split
    · rename_i hk
      intro h
      obtain ⟨h0, h1, h2⟩ := h
      cases rel_str hx
      obtain ⟨u, rfl, hu⟩ := hlo _ rfl
      cases rel_int hu
      obtain ⟨u, rfl, hu⟩ := hhi _ rfl
      cases rel_int hu
      cases hmx' rfl
      refine .here hm (x := .string ⟨((l.take m.toNat).drop n.toNat).toArray⟩) ?_ (.str _ _)
      rw [strs hk]
      have h3 : 0 ≤ m := by omega
      simp [Instr.slice, run_underlying (tab_str hT hk), Instr.sliceBounds, Instr.sliceBound, asIntOf, h0, h2, h3, drop_bytes, size_bytes]
      intro hlt; omega
    · trivial
  · rename_i sz n f k a
    split
    · rename_i e hk
      cases hc : (Nat.beq (T e).size sz && Nat.ble 1 sz) with
      | false => trivial
      | true =>
        simp only [Bool.and_eq_true, Nat.beq_eq, Nat.ble_eq] at hc
        intro h
        obtain ⟨h0, h1⟩ := h
        obtain ⟨ad, cap, rfl, hcap⟩ := rel_slc hx
        obtain ⟨u, rfl, hu⟩ := hlo _ rfl
        cases rel_int hu
        cases hhi' rfl; cases hmx' rfl
        obtain ⟨inf, hinf, hsz, _⟩ := tab_size hT (t := e) (by omega)
        refine .here hm (x := .slice (if cap = a.toNat then ad else ad.map (·.add (a.toNat * sz))) (n - a.toNat) (cap - a.toNat)) ?_ ?_
        · rw [slcs hk]
          simp [Instr.slice, run_underlying (tab_slice hT hk), Instr.sliceBounds, Instr.sliceBound, asIntOf, h0, h1, sizeOf, typeInfo, hinf, ← hsz, hc.1]
        · by_cases hn : n = 0
          · subst hn; rw [Nat.zero_sub]; exact .slc0 _ _ _ _ _
          · exact rel_cut hx (by omega) (Nat.le_refl _) (hcap (by omega))
    · trivial
  · rename_i sz n f k a
    split
    · rename_i e hk
      cases hc : (Nat.beq (T e).size sz && Nat.ble 1 sz) with
      | false => trivial
      | true =>
        simp only [Bool.and_eq_true, Nat.beq_eq, Nat.ble_eq] at hc
        intro h
        obtain ⟨h0, h1⟩ := h
        obtain ⟨ad, cap, rfl, hcap⟩ := rel_slc hx
        obtain ⟨u, rfl, hu⟩ := hhi _ rfl
        cases rel_int hu
        cases hlo' rfl; cases hmx' rfl
        obtain ⟨inf, hinf, hsz, _⟩ := tab_size hT (t := e) (by omega)
        have hac : a ≤ (cap : Int) := by
          by_cases hn : n = 0
          · omega
          · have := hcap (by omega); omega
        refine .here hm (x := .slice (if cap = 0 then ad else ad.map (·.add (0 * sz))) (a.toNat - 0) (cap - 0)) ?_ ?_
        · rw [slcs hk]
          simp [Instr.slice, run_underlying (tab_slice hT hk), Instr.sliceBounds, Instr.sliceBound, asIntOf, h0, hac, sizeOf, typeInfo, hinf]
        · by_cases hn : n = 0
          · rw [show a.toNat - 0 = 0 by omega, show a.toNat = 0 by omega]; exact .slc0 _ _ _ _ _
          · have := rel_cut hx (l := 0) (h := a.toNat) (by omega) (by omega) (hcap (by omega))
            simpa using this
    · trivial
  · rename_i sz n f k a k' b
    split
    · rename_i e hk
      cases hc : (Nat.beq (T e).size sz && Nat.ble 1 sz) with
      | false => trivial
      | true =>
        simp only [Bool.and_eq_true, Nat.beq_eq, Nat.ble_eq] at hc
        intro h
        obtain ⟨h0, h1, h2⟩ := h
        obtain ⟨ad, cap, rfl, hcap⟩ := rel_slc hx
        obtain ⟨u, rfl, hu⟩ := hlo _ rfl
        cases rel_int hu
        obtain ⟨u, rfl, hu⟩ := hhi _ rfl
        cases rel_int hu
        cases hmx' rfl
        obtain ⟨inf, hinf, hsz, _⟩ := tab_size hT (t := e) (by omega)
        have hac : b ≤ (cap : Int) := by
          by_cases hn : n = 0
          · omega
          · have := hcap (by omega); omega
        have hb0 : 0 ≤ b := by omega
        refine .here hm (x := .slice (if cap = a.toNat then ad else ad.map (·.add (a.toNat * sz))) (b.toNat - a.toNat) (cap - a.toNat)) ?_ ?_
        · rw [slcs hk]
          simp [Instr.slice, run_underlying (tab_slice hT hk), Instr.sliceBounds, Instr.sliceBound, asIntOf, h0, hac, hb0, sizeOf, typeInfo, hinf, ← hsz, hc.1]
          intro hlt; omega
        · by_cases hn : n = 0
          · rw [show b.toNat - a.toNat = 0 by omega]; exact .slc0 _ _ _ _ _
          · exact rel_cut hx (by omega) (by omega) (hcap (by omega))
    · trivial
  · trivial

theorem fits_indexAddr (hT : ∀ t, T t = tab P t) (hm : Mem c rd mp st nx w) (t : TypeId) (x y : AV) (vx vy : Value) (hx : Rel rd mp x vx) (hy : Rel rd mp y vy) :
    Fits P c rd mp st nx w (indexAddrO T st t x y) (Instr.indexAt t vx vy) := by
  unfold indexAddrO
  split
  · rename_i sz n f k i
    split
    · rename_i e hk
      cases hc : (Nat.beq (T e).size sz && Nat.ble 1 sz) with
      | false => trivial
      | true =>
        simp only [Bool.and_eq_true, Nat.beq_eq, Nat.ble_eq] at hc
        intro h
        obtain ⟨h0, h1⟩ := h
        cases rel_int hy
        obtain ⟨inf, hinf, hsz, _⟩ := tab_size hT (t := e) (by omega)
        cases hx with
        | slc0 => omega
        | slc _ _ _ _ blk off cap val hn hcap hs hrd he =>
          refine .here hm (x := .pointer (some ⟨blk, off + i.toNat * sz, none⟩)) ?_ ?_
          · simp [Instr.indexAt, asIntOf, run_underlying (tab_slice hT hk), h0, h1, sizeOf, typeInfo, hinf, ← hsz, hc.1, Addr.add_lit]
          · have hi : i.toNat < n := by omega
            refine .rptr _ _ _ _ (fun j => val i.toNat j) (fun j x hx => ?_) (fun j x hx => he _ _ _ hi hx)
            have hj : j < sz := by rw [← hs _ hi]; exact (List.getElem?_eq_some_iff.1 hx).1
            rw [Nat.add_assoc]
            exact hrd _ _ hi hj
    · trivial
  · rename_i r i ep n k j
    split
    · rename_i e ob R hk hl
      cases hc : (Nat.beq (T e).size R.sz && Nat.ble 1 R.sz) with
      | false => trivial
      | true =>
        simp only [Bool.and_eq_true, Nat.beq_eq, Nat.ble_eq] at hc
        intro h
        obtain ⟨hob, hn, h0, h1⟩ := (obT_andO _ _).1 h
        cases rel_int hy
        obtain ⟨inf, hinf, hsz, _⟩ := tab_size hT (t := e) (by omega)
        obtain ⟨xs, hv, hown, _⟩ := own_now hm hl hob hx hn
        rcases hown.2 with ⟨_, h5⟩ | ⟨g, lo, cap, cur, rfl, _⟩
        · have := hn.2; omega
        · have hn2 := hn.2
          refine .here hm (x := .pointer (some ⟨g, lo + j.toNat * R.sz, none⟩)) ?_ ?_
          · have h1' : j < (R.n : Int) := by omega
            simp [Instr.indexAt, asIntOf, run_underlying (tab_slice hT hk), h0, h1', sizeOf, typeInfo, hinf, ← hsz, hc.1, Addr.add_lit]
          · exact .eptr _ _ _ _ _ _ _ _ _ _ _ _ hv (by omega) (fun _ => by omega) (fun _ _ => ⟨g, lo, cap, by rw [hn2], by simp⟩)
    · trivial
  · trivial

end Go.Sx
