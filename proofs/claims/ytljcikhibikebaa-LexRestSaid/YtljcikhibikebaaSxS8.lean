/- Soundness of the abstract operations, eighth part: fields, extracts, conversions, append, make, len. Nothing of a program. -/
import Derived.Test.YtljcikhibikebaaSxS7
import Derived.Laws.IdiomStrings
namespace Go.Sx
open Go Go.RowKit

variable {P : Program} {T : Nat → TI} {C : Cfg} {c : Ctx} {rd : Rd} {mp : Mp} {st : List (Nat × SO)} {nx : Nat} {w : World} {s : ASt}

theorem fits_field (hT : ∀ t, T t = tab P t) (hm : Mem c rd mp st nx w) (t : TypeId) (fi : Nat) (x : AV) (v : Value) (hx : Rel rd mp x v) : Fits P c rd mp st nx w (fieldO T t fi x) (Instr.field t v fi) := by
  unfold fieldO
  split
  · rename_i cs
    split
    · rename_i fs hk
      split
      · rename_i off ft hf
        obtain ⟨vs, rfl, hs, he⟩ := rel_agg hx
        obtain ⟨fields, hd, rfl⟩ := tab_struct hT hk
        simp only [List.getElem?_map, Option.map_eq_some_iff] at hf
        obtain ⟨fd, hfd, heq⟩ := hf
        simp only [Prod.mk.injEq] at heq
        obtain ⟨rfl, rfl⟩ := heq
        have hfd' : fields[fi]? = some fd := by simpa using hfd
        have hrun : (Instr.field t (.agg vs) fi).run P w = (part fd.type vs fd.offset).run P w := by simp [Instr.field, run_underlying hd, hfd', asAgg]
        unfold cellsO
        cases hag : isAggK (T fd.type).kd with
        | true =>
          cases hl : Nat.ble (T fd.type).size (cs.drop fd.offset).length with
          | false => trivial
          | true =>
            intro _
            have hle : (T fd.type).size ≤ (cs.drop fd.offset).length := Nat.le_of_ble_eq_true hl
            rw [List.length_drop] at hle
            obtain ⟨inf, d, h1, h2, h3, h4, _⟩ := tab_kd hT (t := fd.type) (by intro e; rw [e] at hag; simp [isAggK] at hag)
            have hg : (isAgg fd.type).run P w = .ok true w := by
              simp only [isAgg, Sem.run_bind, run_underlying h2, Result.andThen]
              rw [h3] at hag
              cases d <;> simp [kdOf, isAggK] at hag ⊢
            refine .here hm (x := .agg (vs.extract fd.offset (fd.offset + inf.size))) ?_ ?_
            · rw [hrun]; simp [part, hg, sizeOf, typeInfo, h1]
            · by_cases h0 : inf.size = 0
              · refine .agg _ _ _ (by simp [h4, h0]; omega) (fun j x v hx _ => by simp [h4, h0] at hx)
              refine .agg _ _ _ (by simp; omega) (fun j x v hx hv => ?_)
              rw [List.getElem?_take] at hx
              split at hx
              · rw [List.getElem?_drop] at hx
                rw [Array.getElem?_extract] at hv
                split at hv
                · exact he _ _ _ hx hv
                · cases hv
              · cases hx
        | false =>
          cases hs1 : Nat.beq (T fd.type).size 1 with
          | false => trivial
          | true =>
            have hs' : (T fd.type).size = 1 := Nat.eq_of_beq_eq_true hs1
            cases hc : cs.drop fd.offset with
            | nil => trivial
            | cons x r =>
              intro _
              have hx0 : cs[fd.offset]? = some x := by
                have : (cs.drop fd.offset)[0]? = some x := by rw [hc]; rfl
                rwa [List.getElem?_drop, Nat.add_zero] at this
              have hlt : fd.offset < vs.size := by rw [hs]; exact (List.getElem?_eq_some_iff.1 hx0).1
              have hg := isAgg_run hT (t := fd.type) (by omega) w
              rw [hag] at hg
              exact .here hm (x := vs[fd.offset]) (by rw [hrun]; simp [part, hg, hlt]) (he _ _ _ hx0 (by simp [hlt]))
      · trivial
    · trivial
  · trivial

theorem fits_extract (hm : Mem c rd mp st nx w) (i : Nat) (x : AV) (v : Value) (hx : Rel rd mp x v) : Fits P c rd mp st nx w (extractO i x) (Instr.extract v i) := by
  unfold extractO
  split
  · rename_i vs
    split
    · rename_i y hy
      intro _
      obtain ⟨us, rfl, hs, he⟩ := rel_tup hx
      have hlt : i < us.size := by rw [hs]; exact (List.getElem?_eq_some_iff.1 hy).1
      exact .here hm (x := us[i]) (by simp [Instr.extract, hlt]) (he _ _ _ hy (by simp [hlt]))
    · trivial
  · trivial

theorem tab_und (hT : ∀ t, T t = tab P t) {t : TypeId} (h : 1 ≤ (T t).size) : ∃ d, P.underlying t = some d := by
  rw [hT] at h
  unfold tab at h
  split at h
  · rename_i i d h1 h2
    exact ⟨d, h2⟩
  · simp at h

theorem byteSl_kd (hT : ∀ t, T t = tab P t) {src to : TypeId} (h : byteSl T src to = true) : ∃ e, P.underlying src = some (.slice e) ∧ P.underlying to = some .string ∧ P.underlying e = some (.int .u8) := by
  unfold byteSl at h
  split at h
  · rename_i e h1 h2
    simp only [Bool.and_eq_true] at h
    refine ⟨e, tab_slice hT h1, tab_str hT h2, ?_⟩
    have h3 := h.2
    split at h3
    · rename_i hk; exact tab_int hT hk
    · cases h3
  · cases h

theorem bytesV_get {n : Nat} {f : Nat → List AV} (h : isBytes n f) {j : Nat} (hj : j < (bytesV n f).length) : f j = [.int .u8 ((bytesV n f)[j].toNat : Int)] := by
  have hn : j < n := by simpa [bytesV] using hj
  obtain ⟨b, hb⟩ := h j hn
  have : (bytesV n f)[j] = b := by simp [bytesV, hb, byteV]
  rw [this, hb]

/-- string(b) of known bytes. -/
theorem bytes_run (hT : ∀ t, T t = tab P t) {src to : TypeId} (hk : byteSl T src to = true) (a : Option Addr) (n cap : Nat) (f : Nat → List AV) (h : isBytes n f)
    (hc : 0 < n → ∃ blk off, a = some ⟨blk, off, none⟩ ∧ ∀ i x, i < n → f i = [x] → ∃ u, w.cell? ⟨blk, off + i, none⟩ = some u ∧ Rel rd mp x u) :
    (convert src to (.slice a n cap)).run P w = .ok (.string ⟨(bytesV n f).toArray⟩) w := by
  obtain ⟨e, h1, h2, h3⟩ := byteSl_kd hT hk
  by_cases hn : n = 0
  · subst hn
    rw [run_convert_bytes_string w src to e a 0 cap h1 h3 h2]
    cases a with
    | none => simp [Conv.bytesToString, bytesV]; rfl
    | some ad => simp [Conv.bytesToString, loadCells, loadCellsFrom, bytesV]; rfl
  · obtain ⟨blk, off, rfl, hcell⟩ := hc (by omega)
    have hlen : (bytesV n f).length = n := by simp [bytesV]
    have := run_convert_bytes_back (P := P) w src to e ⟨blk, off, none⟩ cap (bytesV n f) h1 h3 h2 (fun j hj => by
      obtain ⟨u, hu, hr⟩ := hcell j _ (by omega) (bytesV_get h hj)
      rw [Addr.add_lit, hu, rel_int hr])
    rwa [hlen] at this

theorem fits_convert (hT : ∀ t, T t = tab P t) (hm : Mem c rd mp st nx w) (dst : Option Nat) (src to : TypeId) (x : AV) (v : Value) (hx : Rel rd mp x v) :
    Fits P c rd mp st nx w (convertO T C st dst src to x) (convert src to v) := by
  unfold convertO
  cases hc : Nat.ble 1 (T src).size with
  | false => trivial
  | true =>
    obtain ⟨d, hd⟩ := tab_und hT (t := src) (Nat.le_of_ble_eq_true hc)
    simp only [cond_true]
    split
    · rename_i sz n f
      cases hk : (byteSl T src to && Nat.beq sz 1) with
      | false => trivial
      | true =>
        simp only [Bool.and_eq_true] at hk
        obtain rfl : sz = 1 := Nat.eq_of_beq_eq_true hk.2
        intro h
        cases hx with
        | slc0 _ _ _ a cap => exact .here hm (bytes_run (rd := rd) (mp := mp) hT hk.1 a 0 cap f h (fun h => by omega)) (.str _ _)
        | slc _ _ _ _ blk off cap val h0 hc' hs hr he =>
          refine .here hm (bytes_run (rd := rd) (mp := mp) hT hk.1 _ n cap f h (fun _ => ⟨blk, off, rfl, fun i x hi hf => ?_⟩)) (.str _ _)
          have h1 := hr i 0 hi (by omega)
          rw [Nat.mul_one, Nat.add_zero] at h1
          exact ⟨_, hm.rdw _ _ _ h1, (he i 0 x hi (by rw [hf]; rfl)).mono (Rd.le.refl _) (Mp.none_le _)⟩
    · rename_i r i e n
      split
      · rename_i ob R hl
        cases hk : (byteSl T src to && Nat.beq R.sz 1) with
        | false => trivial
        | true =>
          simp only [Bool.and_eq_true] at hk
          have hsz : R.sz = 1 := Nat.eq_of_beq_eq_true hk.2
          intro hob
          obtain ⟨hob1, hn, h⟩ := (obT_andO _ _).1 hob
          obtain ⟨xs, hv, hown, hlen, hcells, _⟩ := own_now hm hl hob1 hx hn
          have hn2 := hn.2
          subst hn2
          rcases hown.2 with ⟨rfl, h0⟩ | ⟨g, lo, cap, cur, rfl, hrest⟩
          · rw [h0] at h ⊢
            exact .here hm (bytes_run (rd := rd) (mp := mp) hT hk.1 none 0 0 R.f h (fun h => by omega)) (.str _ _)
          · refine .here hm (bytes_run (rd := rd) (mp := mp) hT hk.1 _ R.n cap R.f h (fun _ => ⟨g, lo, rfl, fun i x hi hf => ?_⟩)) (.str _ _)
            obtain ⟨u, hu, _, hr⟩ := hcells i 0 x hi (by rw [hf]; rfl)
            rw [hsz, Nat.mul_one, Nat.add_zero] at hu
            exact ⟨u, hown.cells hu, hr.mono (Rd.le.refl _) (Mp.sel_le _ _)⟩
      · trivial
    · cases hk : byteSl T src to with
      | false => trivial
      | true =>
        intro _
        cases hx
        have := bytes_run (w := w) (rd := rd) (mp := mp) hT hk none 0 0 (fun _ => []) (fun i hi => by omega) (fun h => by omega)
        exact .here hm this (.str _ _)
    · rename_i k n
      split
      · rename_i k' hk
        cases rel_int hx
        refine fits_arith hm _ _ _ _ ?_
        simp only [convert, Sem.run_bind, run_underlying hd, run_underlying (tab_int hT hk), Result.andThen_ok]
        cases d <;> simp [Conv.intToInt]
      · trivial
    · rename_i l
      split
      · rename_i hk
        cases rel_str hx
        intro _
        refine .here hm (x := .string ⟨l.toArray⟩) ?_ (.str _ _)
        simp only [convert, Sem.run_bind, run_underlying hd, run_underlying (tab_str hT hk), Result.andThen_ok]
        cases d <;> simp
      · trivial
    · trivial

theorem fits_len (hT : ∀ t, T t = tab P t) (hm : Mem c rd mp st nx w) (t ty : TypeId) (x : AV) (v : Value) (hx : Rel rd mp x v) :
    Fits P c rd mp st nx w (lenO st (T t).kd x) (Builtin.len_ #[t] ty #[v]) := by
  unfold lenO
  split
  · rename_i l hk
    cases rel_str hx
    exact fun _ => .here hm (x := .int .i64 l.length) (by simp [Builtin.len_, run_underlying (tab_str hT hk), goInt, size_bytes]) (.int _ _ _)
  · rename_i e sz n f he
    obtain ⟨ad, cap, rfl, _⟩ := rel_slc hx
    exact fun _ => .here hm (x := .int .i64 n) (by simp [Builtin.len_, run_underlying (tab_slice hT he), goInt]) (.int _ _ _)
  · rename_i el r i e n he
    split
    · rename_i ob R hl
      intro hob
      obtain ⟨hob1, hn⟩ := (obT_andO _ _).1 hob
      obtain ⟨xs, h1, h2, _⟩ := own_now hm hl hob1 hx hn
      refine .here hm (x := .int .i64 n) ?_ (.int _ _ _)
      have hn2 := hn.2
      rcases h2.2 with ⟨rfl, h0⟩ | ⟨g, lo, cap, cur, rfl, _⟩
      · simp [Builtin.len_, run_underlying (tab_slice hT he), goInt, hn2, h0]
      · simp [Builtin.len_, run_underlying (tab_slice hT he), goInt, hn2]
    · trivial
  · rename_i e he
    cases hx
    exact fun _ => .here hm (x := .int .i64 0) (by simp [Builtin.len_, run_underlying (tab_slice hT he), goInt]) (.int _ _ _)
  · trivial

/-- What is appended: so many things, and their cells. -/
def Src (w : World) (sz m : Nat) (y : Value) (news : List Value) : Prop :=
  news.length = m * sz ∧ ∃ a c, y = .slice a m c ∧ (m ≠ 0 → ∃ ad, a = some ad ∧ (∀ j u, news[j]? = some u → w.cell? (ad.add j) = some u) ∧ ∀ u ∈ news, u.oneCell' = true)

theorem append_none (w : World) (t ty e : TypeId) (i : TypeInfo) (ht : P.underlying t = some (.slice e)) (hi : P.info? e = some i) {size : Nat}
    (v : Value) (n : Nat) (xs : List Value) (hown : Owns w e size v n xs) (a : Option Addr) (c : Nat) : (Builtin.append_ #[t, t] ty #[v, .slice a 0 c]).run P w = .ok v w := by
  rcases hown.2 with ⟨rfl, rfl⟩ | ⟨g, lo, cap, cur, rfl, _, hnc, _⟩ <;> cases a <;>
    simp [Builtin.append_, run_underlying ht, sizeOf, typeInfo, hi, Builtin.lenOf, Builtin.firstCells, loadCells, loadCellsFrom, storeCells, *]

/-- append to a row of the call's own. -/
theorem append_src (w : World) (t ty e : TypeId) (i : TypeInfo) (z : Value) (size bytes : Nat) (ht : P.underlying t = some (.slice e)) (hi : P.info? e = some i) (hz : i.zero = some z)
    (hsize : i.size = size) (hby : i.bytes = bytes) (hzs : z.cells.size = size) (hsz : 0 < size) (v : Value) (n : Nat) (xs : List Value) (hown : Owns w e size v n xs) (y : Value) (m : Nat) (news : List Value) (hy : Src w size m y news)
    (h63 : n + m ≤ maxLen) (hbytes : (n + m) * bytes ≤ 140737488355328) :
    ∃ v' w', (Builtin.append_ #[t, t] ty #[v, y]).run P w = .ok v' w' ∧ Owns w' e size v' (n + m) (xs ++ news) ∧ w.grownBy w' v.ownBlock ∧ (v'.ownBlock = v.ownBlock ∨ v'.ownBlock = some w.heap.size) ∧ (m = 0 → v' = v) := by
  obtain ⟨hl, a, c, rfl, hsrc⟩ := hy
  by_cases hm : m = 0
  · subst hm
    have hn : news = [] := List.eq_nil_of_length_eq_zero (by simpa using hl)
    subst hn
    exact ⟨v, w, append_none w t ty e i ht hi v n xs hown a c, by simpa using hown, World.grownBy.refl w _, .inl rfl, fun _ => rfl⟩
  · obtain ⟨ad, rfl, hnews, h1⟩ := hsrc hm
    rcases hown.2 with ⟨rfl, rfl⟩ | ⟨g, lo, cap, cur, rfl, hg, hnc, hcm, hcs, htake⟩
    · have hx : xs = [] := List.eq_nil_of_length_eq_zero (by simpa using hown.1)
      subst hx
      obtain ⟨v', w', hrun, hown', hgr, _, hat⟩ := run_append_own_at (P := P) w 0 t ty e i z size bytes ht hi hz hsize hby hzs hsz (.slice none 0 0) 0 [] (World.ownsRow_nil w _ _ _) ad m c news hl hnews h1 h63 hbytes (Nat.zero_le _)
      exact ⟨v', w', hrun, .of_row hown', hgr, hat, fun h => absurd h hm⟩
    · subst hsize
      subst hby
      have hlen : (xs ++ news).length = (n + m) * i.size := by rw [List.length_append, hown.1, hl, Nat.add_mul]
      have hsmall : n + m ≤ 9223372036854775807 := by simp only [maxLen] at h63; omega
      by_cases hroom : n + m ≤ cap
      · have hrs : (n + m) * i.size ≤ cap * i.size := Nat.mul_le_mul_right _ hroom
        rw [Nat.add_mul] at hrs
        have hfit : lo + n * i.size + news.length ≤ cur.size := by rw [hl]; omega
        have hf := run_firstCells_some (P := P) w i.size m ad m c news hl hnews
        have hst := run_storeCells_at P g (lo + n * i.size) e news 0 cur w hg (by simpa using hfit) h1
        simp only [Nat.add_zero] at hst
        have hr : (Builtin.append_ #[t, t] ty #[.slice (some ⟨g, lo, none⟩) n cap, .slice (some ad) m c]).run P w =
            .ok (.slice (some ⟨g, lo, none⟩) (n + m) cap) (w.setRow g (cur.toList.take (lo + n * i.size) ++ news ++ cur.toList.drop (lo + n * i.size + news.length)).toArray) := by
          simp [Builtin.append_, run_underlying ht, sizeOf, typeInfo, hi, Builtin.lenOf, hroom, hf, Addr.add_lit, hst]
        have hcl : cur.toList.length = cur.size := by simp
        refine ⟨_, _, hr, ⟨hlen, .inr ⟨g, lo, cap, _, rfl, setRow_heap w g cur _ e _ hg, hroom, hcm, ?_, ?_⟩⟩, ⟨rfl, rfl, rfl, by simp, fun k _ hk => setRow_other w g k _ (fun e => hk (by simp [Value.ownBlock, e]))⟩, .inl rfl, fun h => absurd h hm⟩
        · simp only [List.size_toArray, List.length_append, List.length_take, List.length_drop]
          omega
        · simp only [List.append_assoc]
          have htk : (cur.toList.take (lo + n * i.size)).drop lo = xs := by rw [← htake, List.drop_take, Nat.add_sub_cancel_left]
          rw [List.drop_append_of_le_length (by rw [List.length_take, hcl]; omega), htk, ← List.append_assoc, ← hlen]
          exact List.take_left
      · have holds : ∀ j u, xs[j]? = some u → w.cell? ((⟨g, lo, none⟩ : Addr).add j) = some u := fun j u hu => by rw [Addr.add_lit]; exact hown.cells hu
        have hr := run_append_grow (P := P) w t ty e i z ht hi hz ⟨g, lo, none⟩ n cap xs hown.1 holds ad m c news hl hnews (by omega) (by omega) (growslice_fits (by omega) hbytes)
        have hge := grownCap_ge w (n + m) cap e
        have hcm' : grownCap w (n + m) cap e ≤ maxLen := grownCap_le_maxLen w (n + m) cap e h63
        refine ⟨_, _, hr, ⟨hlen, .inr ⟨w.heap.size, 0, _, _, rfl, heap_alloc_new w.drew _, hge, hcm', ?_, ?_⟩⟩, ⟨rfl, rfl, rfl, by simp, fun k hk _ => heap_alloc_old w.drew _ hk⟩, .inr rfl, fun h => absurd h hm⟩
        · simp only [Array.size_append, List.size_toArray, size_zeroCells, hzs, hown.1, hl, ← Nat.add_mul, Nat.zero_add]
          exact Nat.le_of_eq (congrArg (· * i.size) (by omega))
        · simp only [Array.toList_append, List.append_assoc, List.drop_zero]
          rw [← List.append_assoc, ← hlen]
          exact List.take_left

theorem src_slc (hm : Mem c rd mp st nx w) {sz m : Nat} (hsz0 : 0 < sz) {g : Nat → List AV} {y : Value} (hy : Rel rd mp (.slc sz m g) y) :
    ∃ news, Src w sz m y news ∧ (∀ i, i < m → (g i).length = sz) ∧ ∀ (i j : Nat) x, i < m → (g i)[j]? = some x → ∃ u, news[i * sz + j]? = some u ∧ u.oneCell' = true ∧ Rel rd Mp.none x u := by
  cases hy with
  | slc0 _ _ _ a cap => exact ⟨[], ⟨by simp, a, cap, rfl, fun h => absurd rfl h⟩, fun i hi => by omega, fun i j x hi => by omega⟩
  | slc _ _ _ _ blk off cap val h0 hc hs hr he =>
    let news : List Value := (List.range (m * sz)).map fun q => val (q / sz) (q % sz)
    have hnl : news.length = m * sz := by simp [news]
    have hnget : ∀ q, q < m * sz → news[q]? = some (val (q / sz) (q % sz)) := by
      intro q hq
      simp [news, hq]
    have hrd : ∀ q, q < m * sz → rd blk (off + q) = some (val (q / sz) (q % sz)) := by
      intro q hq
      have h1' : q / sz < m := Nat.div_lt_of_lt_mul (by rwa [Nat.mul_comm] at hq)
      have h2' : q % sz < sz := Nat.mod_lt _ hsz0
      have := hr _ _ h1' h2'
      rwa [show q / sz * sz + q % sz = q from Nat.div_add_mod' q sz] at this
    refine ⟨news, ⟨hnl, some ⟨blk, off, none⟩, cap, rfl, fun _ => ⟨_, rfl, fun j u hu => ?_, fun u hu => ?_⟩⟩, hs, fun i j x hi hx => ?_⟩
    · have hj : j < m * sz := by rw [← hnl]; exact (List.getElem?_eq_some_iff.1 hu).1
      rw [hnget j hj] at hu
      rw [Addr.add_lit, hm.rdw _ _ _ (hrd j hj)]
      exact hu
    · obtain ⟨j, hj⟩ := List.mem_iff_getElem?.1 hu
      have hj' : j < m * sz := by rw [← hnl]; exact (List.getElem?_eq_some_iff.1 hj).1
      rw [hnget j hj'] at hj
      cases hj
      exact hm.rd1 _ _ _ (hrd j hj')
    · have hj : j < sz := by rw [← hs i hi]; exact (List.getElem?_eq_some_iff.1 hx).1
      have hq : i * sz + j < m * sz := by
        have : (i + 1) * sz ≤ m * sz := Nat.mul_le_mul_right sz hi
        rw [Nat.succ_mul] at this
        omega
      have hdiv : (i * sz + j) / sz = i := by rw [Nat.add_comm, Nat.add_mul_div_right _ _ hsz0, Nat.div_eq_of_lt hj, Nat.zero_add]
      have hmod : (i * sz + j) % sz = j := by rw [Nat.add_comm, Nat.add_mul_mod_self_right, Nat.mod_eq_of_lt hj]
      have hg' := hnget _ hq
      rw [hdiv, hmod] at hg'
      exact ⟨val i j, hg', hm.rd1 _ _ _ (hr _ _ hi hj), he _ _ _ hi hx⟩

theorem src_own {e : TypeId} {sz m : Nat} {y : Value} {xs : List Value} (h : Owns w e sz y m xs) (h1 : ∀ u ∈ xs, u.oneCell' = true) : Src w sz m y xs := by
  refine ⟨h.1, ?_⟩
  rcases h.2 with ⟨rfl, h0⟩ | ⟨g, lo, cap, cur, rfl, rest⟩
  · exact ⟨none, 0, by rw [h0], fun hm => absurd h0 hm⟩
  · exact ⟨_, cap, rfl, fun _ => ⟨_, rfl, fun j u hu => by rw [Addr.add_lit]; exact h.cells hu, h1⟩⟩

/-- The cells of two rows, one behind the other. -/
theorem app_cells {mp1 : Mp} {sz n m : Nat} {f g : Nat → List AV} {xs news : List Value} (hxl : xs.length = n * sz) (hf : ∀ i, i < n → (f i).length = sz) (hg : ∀ i, i < m → (g i).length = sz)
    (hx : ∀ (i j : Nat) x, i < n → (f i)[j]? = some x → ∃ u, xs[i * sz + j]? = some u ∧ u.oneCell' = true ∧ Rel rd mp1 x u) (hy : ∀ (i j : Nat) x, i < m → (g i)[j]? = some x → ∃ u, news[i * sz + j]? = some u ∧ u.oneCell' = true ∧ Rel rd mp1 x u) :
    (∀ i, i < n + m → (appF n f m g i).length = sz) ∧ ∀ (i j : Nat) x, i < n + m → (appF n f m g i)[j]? = some x → ∃ u, (xs ++ news)[i * sz + j]? = some u ∧ u.oneCell' = true ∧ Rel rd mp1 x u := by
  refine ⟨fun i hi' => ?_, fun i j x hi' hx' => ?_⟩
  · simp only [appF]
    by_cases h : i < n
    · rw [if_pos h]; exact hf i h
    · rw [if_neg h, if_pos hi']; exact hg _ (by omega)
  · simp only [appF] at hx'
    by_cases h : i < n
    · rw [if_pos h] at hx'
      obtain ⟨u, hu, r⟩ := hx i j x h hx'
      exact ⟨u, by rw [List.getElem?_append_left (List.getElem?_eq_some_iff.1 hu).1]; exact hu, r⟩
    · rw [if_neg h, if_pos hi'] at hx'
      obtain ⟨u, hu, r⟩ := hy (i - n) j x (by omega) hx'
      have hidx : i * sz + j = n * sz + ((i - n) * sz + j) := by
        rw [← Nat.add_assoc, ← Nat.add_mul, show n + (i - n) = i by omega]
      refine ⟨u, ?_, r⟩
      rw [hidx, List.getElem?_append_right (by rw [hxl]; omega), hxl, show n * sz + ((i - n) * sz + j) - n * sz = (i - n) * sz + j by omega]
      exact hu

end Go.Sx
