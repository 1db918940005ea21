/- Soundness of the abstract operations, eighth part: fields, extracts, conversions, append, make, len. Nothing of a program. -/
import Derived.Test.YtljcikhibikebaaSxS7
namespace Go.Sx
open Go Go.RowKit

variable {P : Program} {T : Nat → TI} {C : Cfg} {c : Ctx} {rd : Rd} {mp : Mp} {st : List (Nat × SO)} {nx : Nat} {w : World} {s : ASt}

theorem fits_field (hT : ∀ t, T t = tab P t) (hm : Mem c rd mp st nx w) (t : TypeId) (fi : Nat) (x : AV) (v : Value) (hx : Rel rd mp x v) : Fits P c rd mp st nx w (fieldO T t fi x) (Instr.field t v fi) := by
  unfold fieldO
  split
  · rename_i cs
    split
    · rename_i fs hk
      split
      · rename_i off ft hf
        obtain ⟨vs, rfl, hs, he⟩ := rel_agg hx
        obtain ⟨fields, hd, rfl⟩ := tab_struct hT hk
        simp only [List.getElem?_map, Option.map_eq_some_iff] at hf
        obtain ⟨fd, hfd, heq⟩ := hf
        simp only [Prod.mk.injEq] at heq
        obtain ⟨rfl, rfl⟩ := heq
        have hfd' : fields[fi]? = some fd := by simpa using hfd
        have hrun : (Instr.field t (.agg vs) fi).run P w = (part fd.type vs fd.offset).run P w := by simp [Instr.field, run_underlying hd, hfd', asAgg]
        unfold cellsO
        cases hag : isAggK (T fd.type).kd with
        | true =>
          cases hl : Nat.ble (T fd.type).size (cs.drop fd.offset).length with
          | false => trivial
          | true =>
            intro _
            have hle : (T fd.type).size ≤ (cs.drop fd.offset).length := Nat.le_of_ble_eq_true hl
            rw [List.length_drop] at hle
            obtain ⟨inf, d, h1, h2, h3, h4, _⟩ := tab_kd hT (t := fd.type) (by intro e; rw [e] at hag; simp [isAggK] at hag)
            have hg : (isAgg fd.type).run P w = .ok true w := by
              simp only [isAgg, Sem.run_bind, run_underlying h2, Result.andThen]
              rw [h3] at hag
              cases d <;> simp [kdOf, isAggK] at hag ⊢
            refine .here hm (x := .agg (vs.extract fd.offset (fd.offset + inf.size))) ?_ ?_
            · rw [hrun]; simp [part, hg, sizeOf, typeInfo, h1]
            · by_cases h0 : inf.size = 0
              · refine .agg _ _ _ (by simp [h4, h0]; omega) (fun j x v hx _ => by simp [h4, h0] at hx)
              refine .agg _ _ _ (by simp; omega) (fun j x v hx hv => ?_)
              rw [List.getElem?_take] at hx
              split at hx
              · rw [List.getElem?_drop] at hx
                rw [Array.getElem?_extract] at hv
                split at hv
                · exact he _ _ _ hx hv
                · cases hv
              · cases hx
        | false =>
          cases hs1 : Nat.beq (T fd.type).size 1 with
          | false => trivial
          | true =>
            have hs' : (T fd.type).size = 1 := Nat.eq_of_beq_eq_true hs1
            cases hc : cs.drop fd.offset with
            | nil => trivial
            | cons x r =>
              intro _
              have hx0 : cs[fd.offset]? = some x := by
                have : (cs.drop fd.offset)[0]? = some x := by rw [hc]; rfl
                rwa [List.getElem?_drop, Nat.add_zero] at this
              have hlt : fd.offset < vs.size := by rw [hs]; exact (List.getElem?_eq_some_iff.1 hx0).1
              have hg := isAgg_run hT (t := fd.type) (by omega) w
              rw [hag] at hg
              exact .here hm (x := vs[fd.offset]) (by rw [hrun]; simp [part, hg, hlt]) (he _ _ _ hx0 (by simp [hlt]))
      · trivial
    · trivial
  · trivial

theorem fits_extract (hm : Mem c rd mp st nx w) (i : Nat) (x : AV) (v : Value) (hx : Rel rd mp x v) : Fits P c rd mp st nx w (extractO i x) (Instr.extract v i) := by
  unfold extractO
  split
  · rename_i vs
    split
    · rename_i y hy
      intro _
      obtain ⟨us, rfl, hs, he⟩ := rel_tup hx
      have hlt : i < us.size := by rw [hs]; exact (List.getElem?_eq_some_iff.1 hy).1
      exact .here hm (x := us[i]) (by simp [Instr.extract, hlt]) (he _ _ _ hy (by simp [hlt]))
    · trivial
  · trivial

theorem tab_und (hT : ∀ t, T t = tab P t) {t : TypeId} (h : 1 ≤ (T t).size) : ∃ d, P.underlying t = some d := by
  rw [hT] at h
  unfold tab at h
  split at h
  · rename_i i d h1 h2
    exact ⟨d, h2⟩
  · simp at h

theorem fits_convert (hT : ∀ t, T t = tab P t) (hm : Mem c rd mp st nx w) (dst : Option Nat) (src to : TypeId) (x : AV) (v : Value) (hx : Rel rd mp x v) :
    Fits P c rd mp st nx w (convertO T C dst src to x) (convert src to v) := by
  unfold convertO
  cases hc : Nat.ble 1 (T src).size with
  | false => trivial
  | true =>
    obtain ⟨d, hd⟩ := tab_und hT (t := src) (Nat.le_of_ble_eq_true hc)
    simp only [cond_true]
    split
    · rename_i k n
      split
      · rename_i k' hk
        cases rel_int hx
        refine fits_arith hm _ _ _ _ ?_
        simp only [convert, Sem.run_bind, run_underlying hd, run_underlying (tab_int hT hk), Result.andThen_ok]
        cases d <;> simp [Conv.intToInt]
      · trivial
    · rename_i l
      split
      · rename_i hk
        cases rel_str hx
        intro _
        refine .here hm (x := .string ⟨l.toArray⟩) ?_ (.str _ _)
        simp only [convert, Sem.run_bind, run_underlying hd, run_underlying (tab_str hT hk), Result.andThen_ok]
        cases d <;> simp
      · trivial
    · trivial

theorem fits_len (hT : ∀ t, T t = tab P t) (hm : Mem c rd mp st nx w) (t ty : TypeId) (x : AV) (v : Value) (hx : Rel rd mp x v) :
    Fits P c rd mp st nx w (lenO st (T t).kd x) (Builtin.len_ #[t] ty #[v]) := by
  unfold lenO
  split
  · rename_i l hk
    cases rel_str hx
    exact fun _ => .here hm (x := .int .i64 l.length) (by simp [Builtin.len_, run_underlying (tab_str hT hk), goInt, size_bytes]) (.int _ _ _)
  · rename_i e sz n f he
    obtain ⟨ad, cap, rfl, _⟩ := rel_slc hx
    exact fun _ => .here hm (x := .int .i64 n) (by simp [Builtin.len_, run_underlying (tab_slice hT he), goInt]) (.int _ _ _)
  · rename_i e r n he
    split
    · rename_i e' sz n' f hl
      intro hn
      obtain rfl : n = n' := hn
      obtain ⟨v', xs, h1, h2, _⟩ := hm.so r _ hl
      obtain ⟨vr, nr, g1, g2, g3⟩ := rel_own hx
      rw [h1] at g1; cases g1
      cases g3 rfl
      refine .here hm (x := .int .i64 n) ?_ (.int _ _ _)
      rcases h2.2 with ⟨rfl, h0⟩ | ⟨g, cap, cur, rfl, _⟩
      · simp [Builtin.len_, run_underlying (tab_slice hT he), goInt, h0]
      · simp [Builtin.len_, run_underlying (tab_slice hT he), goInt]
    · trivial
  · rename_i e he
    cases hx
    exact fun _ => .here hm (x := .int .i64 0) (by simp [Builtin.len_, run_underlying (tab_slice hT he), goInt]) (.int _ _ _)
  · trivial

theorem run_append_of_nil (w : World) (base : Nat) (t ty e : TypeId) (i : TypeInfo) (size : Nat) (ht : P.underlying t = some (.slice e)) (hi : P.info? e = some i)
    (v : Value) (n : Nat) (xs : List Value) (hown : w.ownsRow base e size v n xs) (cp : Nat) : (Builtin.append_ #[t, t] ty #[v, .slice none 0 cp]).run P w = .ok v w := by
  rcases hown.2 with ⟨rfl, rfl⟩ | ⟨g, cap, cur, rfl, _, _, hnc, _⟩
  · simp [Builtin.append_, run_underlying ht, sizeOf, typeInfo, hi, Builtin.lenOf, Builtin.firstCells]
  · simp [Builtin.append_, run_underlying ht, sizeOf, typeInfo, hi, Builtin.lenOf, Builtin.firstCells, hnc, storeCells]

/-- append of a slice that reads to an own row: the machine's step, and what lies there behind it. -/
theorem append_run (hT : ∀ t, T t = tab P t) (hm : Mem c rd mp st nx w) (t ty e : TypeId) (hk : (T t).kd = .slice e) (sz n m : Nat) (f g : Nat → List AV) (h1 : (T e).size = sz) (h2 : 1 ≤ sz) (h3 : (T e).zero.length = sz)
    (v y : Value) (xs : List Value) (hown : w.ownsRow c.w0.heap.size e sz v n xs) (hf : ∀ i, i < n → (f i).length = sz)
    (hx : ∀ (i j : Nat) x, i < n → (f i)[j]? = some x → ∃ u, xs[i * sz + j]? = some u ∧ u.oneCell' = true ∧ Rel rd Mp.none x u)
    (hy : Rel rd mp (.slc sz m g) y) (hb1 : n + m ≤ 9223372036854775807) (hb2 : (n + m) * (T e).bytes ≤ 140737488355328) :
    ∃ v' w' xs', (Builtin.append_ #[t, t] ty #[v, y]).run P w = .ok v' w' ∧ w'.ownsRow c.w0.heap.size e sz v' (n + m) xs' ∧ w.grownBy w' v.ownBlock ∧ (v'.ownBlock = v.ownBlock ∨ v'.ownBlock = some w.heap.size) ∧
      (∀ i, i < n + m → (appF n f m g i).length = sz) ∧ (∀ (i j : Nat) x, i < n + m → (appF n f m g i)[j]? = some x → ∃ u, xs'[i * sz + j]? = some u ∧ u.oneCell' = true ∧ Rel rd Mp.none x u) ∧ (m = 0 → v' = v) := by
  obtain ⟨i0, z, hi, hz, his, hib, hzs, _⟩ := zero_parts hT (e := e) (by omega) (by omega)
  have ht := tab_slice hT hk
  have hsz0 : 0 < sz := by omega
  cases hy with
  | slc0 _ _ _ a cap =>
    have hxs : ∀ (i j : Nat) x, i < n + 0 → (appF n f 0 g i)[j]? = some x → ∃ u, xs[i * sz + j]? = some u ∧ u.oneCell' = true ∧ Rel rd Mp.none x u := by
      intro i j x hi hx'
      simp only [appF] at hx'
      rw [if_pos (by omega)] at hx'
      exact hx i j x (by omega) hx'
    have hfl : ∀ i, i < n + 0 → (appF n f 0 g i).length = sz := by
      intro i hi
      simp only [appF]
      rw [if_pos (by omega)]
      exact hf i (by omega)
    cases a with
    | none =>
      exact ⟨v, w, xs, run_append_of_nil w _ t ty e i0 sz ht hi v n xs hown cap, by simpa using hown, World.grownBy.refl w _, .inl rfl, hfl, hxs, fun _ => rfl⟩
    | some ad =>
      obtain ⟨v', w', hrun, hown', hg, hnil, hat⟩ := run_append_own_at (P := P) w c.w0.heap.size t ty e i0 z sz (T e).bytes ht hi hz (by omega) hib (by omega) hsz0 v n xs hown ad 0 cap [] (by simp) (by simp) (by simp)
        (by simp only [maxLen]; omega) (by simpa using hb2) hm.fr.size
      have hsame : (Builtin.append_ #[t, t] ty #[v, .slice (some ad) 0 cap]).run P w = .ok v w := by
        rcases hown.2 with ⟨rfl, rfl⟩ | ⟨g, cap', cur, rfl, _, _, hnc, _⟩
        · simp [Builtin.append_, run_underlying ht, sizeOf, typeInfo, hi, Builtin.lenOf, Builtin.firstCells, loadCells, loadCellsFrom]
        · simp [Builtin.append_, run_underlying ht, sizeOf, typeInfo, hi, Builtin.lenOf, Builtin.firstCells, hnc, storeCells, loadCells, loadCellsFrom]
      exact ⟨v, w, xs, hsame, by simpa using hown, World.grownBy.refl w _, .inl rfl, hfl, hxs, fun _ => rfl⟩
  | slc _ _ _ _ blk off cap val h0 hc hs hr he =>
    let news : List Value := (List.range (m * sz)).map fun q => val (q / sz) (q % sz)
    have hnl : news.length = m * sz := by simp [news]
    have hnget : ∀ q, q < m * sz → news[q]? = some (val (q / sz) (q % sz)) := by
      intro q hq
      simp [news, hq]
    have hrd : ∀ q, q < m * sz → rd blk (off + q) = some (val (q / sz) (q % sz)) := by
      intro q hq
      have h1' : q / sz < m := Nat.div_lt_of_lt_mul (by rwa [Nat.mul_comm] at hq)
      have h2' : q % sz < sz := Nat.mod_lt _ hsz0
      have := hr _ _ h1' h2'
      rwa [show q / sz * sz + q % sz = q from Nat.div_add_mod' q sz] at this
    obtain ⟨v', w', hrun, hown', hg, hnil, hat⟩ := run_append_own_at (P := P) w c.w0.heap.size t ty e i0 z sz (T e).bytes ht hi hz (by omega) hib (by omega) hsz0 v n xs hown ⟨blk, off, none⟩ m cap news hnl
      (fun j u hu => by
        have hj : j < m * sz := by rw [← hnl]; exact (List.getElem?_eq_some_iff.1 hu).1
        rw [hnget j hj] at hu
        rw [Addr.add_lit, hm.rdw _ _ _ (hrd j hj)]
        exact hu)
      (fun u hu => by
        obtain ⟨j, hj⟩ := List.mem_iff_getElem?.1 hu
        have hj' : j < m * sz := by rw [← hnl]; exact (List.getElem?_eq_some_iff.1 hj).1
        rw [hnget j hj'] at hj
        cases hj
        exact hm.rd1 _ _ _ (hrd j hj'))
      (by simp only [maxLen]; omega) hb2 hm.fr.size
    refine ⟨v', w', xs ++ news, hrun, hown', hg, hat, fun i hi' => ?_, fun i j x hi' hx' => ?_, fun h => by omega⟩
    · simp only [appF]
      by_cases h : i < n
      · rw [if_pos h]; exact hf i h
      · rw [if_neg h, if_pos hi']; exact hs _ (by omega)
    · simp only [appF] at hx'
      by_cases h : i < n
      · rw [if_pos h] at hx'
        obtain ⟨u, hu, r⟩ := hx i j x h hx'
        exact ⟨u, by rw [List.getElem?_append_left (List.getElem?_eq_some_iff.1 hu).1]; exact hu, r⟩
      · rw [if_neg h, if_pos hi'] at hx'
        have hj : j < sz := by rw [← hs (i - n) (by omega)]; exact (List.getElem?_eq_some_iff.1 hx').1
        have hq : (i - n) * sz + j < m * sz := by
          have : (i - n + 1) * sz ≤ m * sz := Nat.mul_le_mul_right sz (by omega)
          rw [Nat.succ_mul] at this
          omega
        have hidx : i * sz + j = n * sz + ((i - n) * sz + j) := by
          rw [← Nat.add_assoc, ← Nat.add_mul, show n + (i - n) = i by omega]
        have hdiv : ((i - n) * sz + j) / sz = i - n := by rw [Nat.add_comm, Nat.add_mul_div_right _ _ hsz0, Nat.div_eq_of_lt hj, Nat.zero_add]
        have hmod : ((i - n) * sz + j) % sz = j := by rw [Nat.add_comm, Nat.add_mul_mod_self_right, Nat.mod_eq_of_lt hj]
        have hg' := hnget _ hq
        rw [hdiv, hmod] at hg'
        refine ⟨val (i - n) j, ?_, hm.rd1 _ _ _ (hr _ _ (by omega) hj), he _ _ _ (by omega) hx'⟩
        rw [hidx, List.getElem?_append_right (by rw [hown.1]; omega), hown.1, show n * sz + ((i - n) * sz + j) - n * sz = (i - n) * sz + j by omega]
        exact hg'

end Go.Sx
