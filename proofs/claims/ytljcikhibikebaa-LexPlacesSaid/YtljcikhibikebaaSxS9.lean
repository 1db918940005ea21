/- Soundness of the abstract operations, last part: the whole of an operation. Nothing of a program. -/
import Derived.Test.YtljcikhibikebaaSxS8
namespace Go.Sx
open Go Go.RowKit

variable {P : Program} {T : Nat → TI} {C : Cfg} {c : Ctx} {rd : Rd} {mp : Mp} {st : List (Nat × SO)} {nx : Nat} {w : World} {s : ASt} {a : Act}

theorem fits_append (hT : ∀ t, T t = tab P t) (hm : Mem c rd mp s.st s.nx w) (t ty : TypeId) (x y : AV) (vx vy : Value) (hx : Rel rd mp x vx) (hy : Rel rd mp y vy) :
    Fits P c rd mp s.st s.nx w (appendO T s t x y) (Builtin.append_ #[t, t] ty #[vx, vy]) := by
  unfold appendO
  split
  · rename_i r n sz m g
    split
    · rename_i e e' sz' n' f hk hl
      cases hc : (Nat.beq (T e).size sz && Nat.beq e e' && Nat.beq sz sz' && Nat.ble 1 sz && Nat.beq (T e).zero.length sz) with
      | false => trivial
      | true =>
        simp only [Bool.and_eq_true, Nat.beq_eq, Nat.ble_eq] at hc
        obtain ⟨⟨⟨⟨h1, h2⟩, h3⟩, h4⟩, h5⟩ := hc
        have h2' : e = e' := h2
        subst h2' h3
        rintro ⟨rfl, hb1, hb2⟩
        obtain ⟨v, xs, hv, hown, hf, hxs, hrd⟩ := hm.so r _ hl
        obtain ⟨vr, nr, g1, g2, g3⟩ := rel_own hx
        rw [hv] at g1; cases g1
        cases g3 rfl
        obtain ⟨v', w', xs', hrun, hown', hg, hat, hf', hxs', hm0⟩ := append_run hT hm t ty e hk sz n m f g h1 h4 h5 vx vy xs hown hf hxs hy hb1 hb2
        have hmono : ∀ v0 n0, mp.row r = some (v0, n0) → n0 < n + m ∨ (n0 = n + m ∧ v0 = v') := by
          intro v0 n0 h
          rw [hv] at h; cases h
          by_cases hm' : m = 0
          · exact .inr ⟨by omega, (hm0 hm').symm⟩
          · exact .inl (by omega)
        refine ⟨v', w', rd, mp.setRow r v' (n + m), hrun, Rd.le.refl _, Mp.le_setRow hmono, ?_, .own _ _ _ _ v' (n + m) (by simp [Mp.setRow]) (Nat.le_refl _) (fun _ => rfl)⟩
        refine hm.setRow r e sz (n + m) _ v' xs' vx.ownBlock (hm.row_alone hl hv) (fun g' hg' => ⟨(hown.lt g' hg').1, hrd g' hg'⟩) hmono hg hown' ?_ hf' hxs' _ s.nx (fun i z hz => ?_) (Nat.le_refl _) (hm.ids r _ hl)
        · rcases hat with h | h
          · exact .inl h
          · exact .inr ⟨_, h, Nat.le_refl _⟩
        · rw [look_setSt] at hz
          by_cases hi : i = r
          · subst hi; rw [if_pos rfl, hl] at hz; cases hz; exact .inl ⟨rfl, rfl⟩
          · rw [if_neg hi] at hz; exact .inr ⟨hi, hz⟩
    · trivial
  · rename_i sz m g
    split
    · rename_i e hk
      cases hc : (Nat.beq (T e).size sz && Nat.ble 1 sz && Nat.beq (T e).zero.length sz) with
      | false => trivial
      | true =>
        simp only [Bool.and_eq_true, Nat.beq_eq, Nat.ble_eq] at hc
        obtain ⟨⟨h1, h4⟩, h5⟩ := hc
        rintro ⟨hb1, hb2⟩
        cases hx
        have hown : w.ownsRow c.w0.heap.size e sz (.slice none 0 0) 0 [] := World.ownsRow_nil w _ _ _
        obtain ⟨v', w', xs', hrun, hown', hg, hat, hf', hxs', hm0⟩ := append_run hT hm t ty e hk sz 0 m g g h1 h4 h5 _ vy [] hown (fun i hi => by omega) (fun i j x hi => by omega) hy (by omega) (by simpa using hb2)
        have hap : ∀ i, i < m → appF 0 g m g i = g i := by
          intro i hi
          simp only [appF]
          rw [if_neg (by omega), if_pos (by omega)]
          rfl
        rw [Nat.zero_add] at hown' hf' hxs'
        have hfr := hm.fresh s.nx (Nat.le_refl _)
        have hmono : ∀ v0 n0, mp.row s.nx = some (v0, n0) → n0 < m ∨ (n0 = m ∧ v0 = v') := fun v0 n0 h => by rw [hfr.2] at h; cases h
        refine ⟨v', w', rd, mp.setRow s.nx v' m, hrun, Rd.le.refl _, Mp.le_setRow hmono, ?_, .own _ _ _ _ v' m (by simp [Mp.setRow]) (Nat.le_refl _) (fun _ => rfl)⟩
        refine hm.setRow s.nx e sz m g v' xs' none (fun i z hz hne g' hg' h => by cases h) (fun g' hg' => by cases hg') hmono hg hown' ?_ (fun i hi => by rw [← hap i hi]; exact hf' i hi)
          (fun i j x hi hx' => hxs' i j x hi (by rw [hap i hi]; exact hx')) _ (s.nx + 1) (fun i z hz => ?_) (by omega) (by omega)
        · rcases hat with h | h
          · exact .inl h
          · exact .inr ⟨_, h, Nat.le_refl _⟩
        · rw [look_cons] at hz
          by_cases hi : s.nx = i
          · subst hi; rw [if_pos rfl] at hz; cases hz; exact .inl ⟨rfl, rfl⟩
          · rw [if_neg hi] at hz; exact .inr ⟨Ne.symm hi, hz⟩
    · trivial
  · trivial

theorem fits_make (hT : ∀ t, T t = tab P t) (hm : Mem c rd mp s.st s.nx w) (t : TypeId) (x y : AV) (vx vy : Value) (hx : Rel rd mp x vx) (hy : Rel rd mp y vy) :
    Fits P c rd mp s.st s.nx w (makeO T s t x y) (Instr.makeSlice t vx vy) := by
  unfold makeO
  split
  · rename_i kl l kc cp
    split
    · rename_i e hk
      cases hc : (Nat.beq (T e).zero.length (T e).size && Nat.ble 1 (T e).size && (T e).zero.all (fun y => y.one && y.pure1)) with
      | false => trivial
      | true =>
        simp only [Bool.and_eq_true, Nat.beq_eq, Nat.ble_eq] at hc
        obtain ⟨⟨h1, h2⟩, h3⟩ := hc
        rintro ⟨h0, hlc, hb1, hb2⟩
        cases rel_int hx; cases rel_int hy
        obtain ⟨i, z, hi, hz, his, hib, hzs, hzz⟩ := zero_parts hT h2 h1
        have hrun := run_make (P := P) w t e i z (tab_slice hT hk) hi hz kl kc l cp h0 hlc (by rw [hib, Int.mul_comm]; omega) hb1
        rw [his] at hrun
        have hcp : l.toNat ≤ cp.toNat := by omega
        have hfr := hm.fresh s.nx (Nat.le_refl _)
        have hmono : ∀ v0 n0, mp.row s.nx = some (v0, n0) → n0 < l.toNat ∨ (n0 = l.toNat ∧ v0 = .slice (some ⟨w.heap.size, 0, none⟩) l.toNat cp.toNat) := fun v0 n0 h => by rw [hfr.2] at h; cases h
        have hms : (madeCells z.cells (cp.toNat * (T e).size)).size = cp.toNat * (T e).size := size_madeCells _ _
        have hle : l.toNat * (T e).size ≤ cp.toNat * (T e).size := Nat.mul_le_mul_right _ hcp
        refine ⟨_, _, rd, mp.setRow s.nx (.slice (some ⟨w.heap.size, 0, none⟩) l.toNat cp.toNat) l.toNat, hrun, Rd.le.refl _, Mp.le_setRow hmono, ?_, .own _ _ _ _ _ _ (by simp [Mp.setRow]) (Nat.le_refl _) (fun _ => rfl)⟩
        refine hm.setRow s.nx e (T e).size l.toNat (fun _ => (T e).zero) (.slice (some ⟨w.heap.size, 0, none⟩) l.toNat cp.toNat) ((madeCells z.cells (cp.toNat * (T e).size)).toList.take (l.toNat * (T e).size)) none
          (fun i z hz hne g' hg' h => by cases h) (fun g' hg' => by cases hg') hmono (World.grownBy_alloc w _ none)
          ⟨by rw [List.length_take, Array.length_toList, hms, Nat.min_eq_left hle], .inr ⟨w.heap.size, cp.toNat, _, rfl, hm.fr.size, heap_alloc_new w _, hcp, by simp only [maxLen]; omega, hms, rfl⟩⟩ (.inr ⟨_, rfl, Nat.le_refl _⟩)
          (fun _ _ => h1) (fun q j x hq hx' => ?_) _ (s.nx + 1) (fun i z hz => ?_) (by omega) (by omega)
        · have hj : j < (T e).size := by rw [← h1]; exact (List.getElem?_eq_some_iff.1 hx').1
          have hqj : q * (T e).size + j < l.toNat * (T e).size := by
            have : (q + 1) * (T e).size ≤ l.toNat * (T e).size := Nat.mul_le_mul_right _ hq
            rw [Nat.succ_mul] at this
            omega
          have hmem := List.all_eq_true.1 h3 x (List.mem_of_getElem? hx')
          simp only [Bool.and_eq_true] at hmem
          have hmod : (q * (T e).size + j) % z.cells.size = j := by rw [hzs, Nat.add_comm, Nat.add_mul_mod_self_right, Nat.mod_eq_of_lt hj]
          have hjz : j < z.cells.size := by omega
          have hget : ((madeCells z.cells (cp.toNat * (T e).size)).toList.take (l.toNat * (T e).size))[q * (T e).size + j]? = some z.cells[j] := by
            rw [List.getElem?_take, if_pos hqj]
            simp only [madeCells, Array.getElem?_toList, Array.getElem?_map, Array.getElem?_range]
            rw [if_pos (by omega)]
            simp only [Option.map_some, hmod]
            rw [getElem!_pos z.cells j hjz]
          have hr : Rel rd mp x z.cells[j] := rel_zero hzz j x _ hx' (by simp [hjz])
          exact ⟨z.cells[j], hget, rel_one hr hmem.1, hr.pure1 hmem.2⟩
        · rw [look_cons] at hz
          by_cases hi : s.nx = i
          · subst hi; rw [if_pos rfl] at hz; cases hz; exact .inl ⟨rfl, rfl⟩
          · rw [if_neg hi] at hz; exact .inr ⟨Ne.symm hi, hz⟩
    · trivial
  · trivial

theorem fits_min (hm : Mem c rd mp st nx w) (ts : Array TypeId) (ty : TypeId) (mx : Bool) (x y : AV) (vx vy : Value) (hx : Rel rd mp x vx) (hy : Rel rd mp y vy) :
    Fits P c rd mp st nx w (minO mx x y) (if mx then Builtin.max_ ts ty #[vx, vy] else Builtin.min_ ts ty #[vx, vy]) := by
  unfold minO
  split
  · rename_i p q
    cases rel_int hx; cases rel_int hy
    intro _
    cases mx with
    | true =>
      refine .here hm (x := .int .i64 (if q > p then q else p)) (by simp [Builtin.max_, Builtin.max2]) ?_
      have : (if q > p then q else p) = max p q := by rw [Int.max_def]; split <;> split <;> omega
      rw [this]; exact .int _ _ _
    | false =>
      refine .here hm (x := .int .i64 (if q < p then q else p)) (by simp [Builtin.min_, Builtin.min2]) ?_
      have : (if q < p then q else p) = min p q := by rw [Int.min_def]; split <;> split <;> omega
      rw [this]; exact .int _ _ _
  · trivial

theorem fits_assign (hm : Mem c rd mp s.st s.nx w) (dst : Option Nat) (x : AV) (v : Value) (hx : Rel rd mp x v) : Fits P c rd mp s.st s.nx w (assignO C s dst x) (pure v) := by
  unfold assignO
  split
  · rename_i e sz ho
    intro _
    cases hx
    have hfr := hm.fresh s.nx (Nat.le_refl _)
    have hmono : ∀ v0 n0, mp.row s.nx = some (v0, n0) → n0 < 0 ∨ (n0 = 0 ∧ v0 = .slice none 0 0) := fun v0 n0 h => by rw [hfr.2] at h; cases h
    refine ⟨.slice none 0 0, w, rd, mp.setRow s.nx (.slice none 0 0) 0, by simp, Rd.le.refl _, Mp.le_setRow hmono, ?_, .own _ _ _ _ (.slice none 0 0) 0 (by simp [Mp.setRow]) (Nat.le_refl _) (fun _ => rfl)⟩
    refine hm.setRow s.nx e sz 0 (fun _ => []) (.slice none 0 0) [] none (fun i z hz hne g' hg' h => by cases h) (fun g' hg' => by cases hg') hmono (World.grownBy.refl w _) (World.ownsRow_nil w _ _ _) (.inl rfl)
      (fun i hi => by omega) (fun i j x hi => by omega) _ (s.nx + 1) (fun i z hz => ?_) (by omega) (by omega)
    rw [look_cons] at hz
    by_cases hi : s.nx = i
    · subst hi; rw [if_pos rfl] at hz; cases hz; exact .inl ⟨rfl, rfl⟩
    · rw [if_neg hi] at hz; exact .inr ⟨Ne.symm hi, hz⟩
  · exact fun _ => .here hm (by simp) hx

theorem fits_nilCheck (hm : Mem c rd mp st nx w) (o : Oper) (y : Operand) (ho : o.op = .nilCheck y) (x : AV) (hx : Rel rd mp x (a.eval y)) (ob : Option Prop) (v : AV) (h : nilCheckO x = .ok ob v) :
    (execOp a.eval o).run P w = .ok (.value (a.eval y)) w ∧ Rel rd mp v (a.eval y) ∧ Mem c rd mp st nx w := by
  unfold nilCheckO at h
  split at h
  · cases h
    refine ⟨?_, hx, hm⟩
    obtain ⟨g, _, hv⟩ := rel_ptr hx
    simp [execOp, ho, hv]
  · cases h
    refine ⟨?_, hx, hm⟩
    obtain ⟨g, o', hv, _⟩ := rel_rptr hx
    simp [execOp, ho, hv]
  · cases h
    refine ⟨?_, hx, hm⟩
    generalize hv : a.eval y = v at hx
    cases hx
    simp [execOp, ho, hv]
  · cases h

/-- What is to be shown of a whole operation. -/
def Good (P : Program) (c : Ctx) (rd : Rd) (mp : Mp) (st : List (Nat × SO)) (nx : Nat) (w : World) (r : OR) (m : Sem Next) : Prop :=
  match r with
  | .ok ob v => obT ob → ∃ x w' rd', m.run P w = .ok (.value x) w' ∧ Rd.le rd rd' ∧ Mem c rd' mp st nx w' ∧ Rel rd' mp v x
  | .mem ob v st' nx' => obT ob → ∃ n x w' rd' mp', m.run P w = .ok n w' ∧ (n = .value x ∨ (n = .skip ∧ x = undef)) ∧ Rd.le rd rd' ∧ Mp.le mp mp' ∧ Mem c rd' mp' st' nx' w' ∧ Rel rd' mp' v x
  | .call f args => ∃ vs, m.run P w = (callFunc f vs).run P w ∧ RelL rd mp args vs
  | .bad => True

theorem Good.of_fits {r : OR} {m : Sem Value} (h : Fits P c rd mp st nx w r m) {m' : Sem Next} (hm : m' = (do pure (.value (← m)))) : Good P c rd mp st nx w r m' := by
  subst hm
  cases r with
  | ok ob v =>
    intro hob
    obtain ⟨x, w', rd', h1, h2, h3, h4⟩ := h hob
    exact ⟨x, w', rd', by simp [h1], h2, h3, h4⟩
  | mem ob v st' nx' =>
    intro hob
    obtain ⟨x, w', rd', mp', h1, h2, h3, h4, h5⟩ := h hob
    exact ⟨.value x, x, w', rd', mp', by simp [h1], .inl rfl, h2, h3, h4, h5⟩
  | call f args => exact absurd h id
  | bad => trivial

theorem eqGuard_plain (op : BinOp) (t : TypeId) (x y : Operand) (u v : Value) (hu : ∀ cs, u ≠ .agg cs) (hn : u ≠ .nilIface) : (eqGuard op t x y u v).run P w = .ok () w := by
  cases op <;> simp [eqGuard] <;> cases u <;> first | rfl | exact absurd rfl (hu _) | exact absurd rfl hn

theorem fits_bin (hT : ∀ t, T t = tab P t) (hm : Mem c rd mp st nx w) (dst : Option Nat) (op : BinOp) (t : TypeId) (xo yo : Operand) (x y : AV) (u v : Value) (hx : Rel rd mp x u) (hy : Rel rd mp y v) :
    Fits P c rd mp st nx w (binO T C dst op t x y) (do eqGuard op t xo yo u v; binOp op t u v) := by
  have plain : ∀ {r : OR}, (∀ cs, u ≠ .agg cs) → u ≠ .nilIface → Fits P c rd mp st nx w r (binOp op t u v) → Fits P c rd mp st nx w r (do eqGuard op t xo yo u v; binOp op t u v) := by
    intro r h1 h2 h
    have he : (do eqGuard op t xo yo u v; binOp op t u v : Sem Value).run P w = (binOp op t u v).run P w := by
      simp [eqGuard_plain op t xo yo u v h1 h2]
    cases r with
    | ok ob z =>
      intro hob
      obtain ⟨x', w', rd', g1, g2⟩ := h hob
      exact ⟨x', w', rd', by rw [he]; exact g1, g2⟩
    | mem ob z st' nx' =>
      intro hob
      obtain ⟨x', w', rd', mp', g1, g2⟩ := h hob
      exact ⟨x', w', rd', mp', by rw [he]; exact g1, g2⟩
    | call f args => exact h
    | bad => trivial
  unfold binO
  split
  · rename_i k p k' q
    by_cases hk : k = k'
    · subst hk
      simp only [decide_true, cond_true]
      cases rel_int hx; cases rel_int hy
      exact plain (by simp) (by simp) (fits_int hm _ op t k p q)
    · simp [hk]; trivial
  · rename_i p q
    cases rel_str hx; cases rel_str hy
    exact plain (by simp) (by simp) (fits_str hm op t p q)
  · rename_i p q
    cases rel_bool hx; cases rel_bool hy
    split
    · rename_i hk
      exact plain (by simp) (by simp) (fun _ => .here hm (x := .bool (p == q)) (by
        simp [binOp, Op.equal, Op.maxDepth, run_equalIn_bool' w 9999 t p q (tab_bool hT hk)]) (.bool _ _))
    · rename_i hk
      exact plain (by simp) (by simp) (fun _ => .here hm (x := .bool (!(p == q))) (by
        simp [binOp, Op.equal, Op.maxDepth, run_equalIn_bool' w 9999 t p q (tab_bool hT hk)]) (.bool _ _))
    · trivial
  · rename_i xs ys
    split
    · exact fits_agg hT hm false t xs ys u v hx hy xo yo
    · exact fits_agg hT hm true t xs ys u v hx hy xo yo
    · trivial
  · trivial

theorem scondL_mem : ∀ {l : List AV}, obT (scondL l) → ∀ x ∈ l, obT (scond x)
  | [], _, x, h => by simp at h
  | y :: l, h, x, hx => by
    obtain ⟨h1, h2⟩ := (obT_andO _ _).1 h
    rcases List.mem_cons.1 hx with rfl | hx
    · exact h1
    · exact scondL_mem h2 x hx

theorem parts_rel (hs : SR c rd mp s a w) (ps : Array (Nat × Operand)) (hc : obT (scondL (ps.toList.map fun p => ev s p.2))) : (ps.map fun (i, x) => (i, a.eval x)).size = (ps.toList.map fun p => (p.1, strip (ev s p.2))).length ∧
    ∀ (j : Nat) p q, (ps.toList.map fun p => (p.1, strip (ev s p.2)))[j]? = some p → (ps.map fun (i, x) => (i, a.eval x))[j]? = some q → p.1 = q.1 ∧ Rel rd mp p.2 q.2 := by
  refine ⟨by simp, fun j p q hp hq => ?_⟩
  rw [List.getElem?_map] at hp
  rw [Array.getElem?_map] at hq
  obtain ⟨p', hp', rfl⟩ := Option.map_eq_some_iff.1 hp
  obtain ⟨q', hq', rfl⟩ := Option.map_eq_some_iff.1 hq
  have hmem : p' ∈ ps.toList := List.mem_of_getElem? hp'
  rw [Array.getElem?_toList] at hp'
  rw [hp'] at hq'; cases hq'
  exact ⟨rfl, rel_strip (rel_ev hs _) (scondL_mem hc _ (List.mem_map.2 ⟨p', hmem, rfl⟩))⟩

theorem args_rel (hs : SR c rd mp s a w) (xs : Array Operand) : RelL rd mp (xs.toList.map (ev s)) (xs.map a.eval) := by
  refine ⟨by simp, fun j p q hp hq => ?_⟩
  rw [List.getElem?_map] at hp
  rw [Array.getElem?_map] at hq
  obtain ⟨p', hp', rfl⟩ := Option.map_eq_some_iff.1 hp
  obtain ⟨q', hq', rfl⟩ := Option.map_eq_some_iff.1 hq
  rw [Array.getElem?_toList] at hp'
  rw [hp'] at hq'; cases hq'
  exact rel_ev hs _

theorem RelL.append {xs ys : List AV} {us vs : Array Value} (h : RelL rd mp xs us) (k : RelL rd mp ys vs) : RelL rd mp (xs ++ ys) (us ++ vs) := by
  refine ⟨by simp [h.1, k.1], fun j x v hx hv => ?_⟩
  by_cases hj : j < xs.length
  · rw [List.getElem?_append_left hj] at hx
    rw [Array.getElem?_append_left (by rw [h.1]; exact hj)] at hv
    exact h.2 j x v hx hv
  · rw [List.getElem?_append_right (by omega)] at hx
    rw [Array.getElem?_append_right (by rw [h.1]; omega), h.1] at hv
    exact k.2 _ x v hx hv

theorem aop_sound (hT : ∀ t, T t = tab P t) (hs : SR c rd mp s a w) (o : Oper) : Good P c rd mp s.st s.nx w (aop T C s o.dst o.op) (execOp a.eval o) := by
  have hm := hs.mem
  have one : ∀ {r : OR} {x : Operand} {m : Sem Value}, (Rel rd mp (strip (ev s x)) (a.eval x) → Fits P c rd mp s.st s.nx w r m) → Fits P c rd mp s.st s.nx w (also (scond (ev s x)) r) m :=
    fun h => Fits.also fun hc => h (rel_strip (rel_ev hs _) hc)
  cases ho : o.op with
  | move x =>
    have hf : Fits P c rd mp s.st s.nx w (.ok none (ev s x)) (pure (a.eval x)) := fun _ => .here hm (by simp) (rel_ev hs x)
    exact Good.of_fits hf (by simp [execOp, ho])
  | assign x => exact Good.of_fits (m := pure (a.eval x)) (fits_assign hm _ _ _ (rel_ev hs x)) (by simp [execOp, ho])
  | pick x y z =>
    simp only [aop]
    split
    · exact Good.of_fits (one fun hr => fits_and hm _ _ _ _ hr (rel_ev hs y)) (by simp [execOp, ho, Act.eval])
    · exact Good.of_fits (one fun hr => fits_or hm _ _ _ _ hr (rel_ev hs z)) (by simp [execOp, ho, Act.eval])
    · exact Good.of_fits (one fun hr => fits_pick hm _ _ _ _ _ _ hr (rel_ev hs y) (rel_ev hs z)) (by simp [execOp, ho])
  | alloc e =>
    simp only [aop]
    cases hc : (Nat.ble 1 (T e).size && Nat.beq (T e).zero.length (T e).size) with
    | false => trivial
    | true =>
      simp only [Bool.and_eq_true, Nat.beq_eq, Nat.ble_eq] at hc
      exact Good.of_fits (fits_alloc hT hm e hc.1 hc.2) (by simp [execOp, ho])
  | box e x =>
    simp only [aop]
    cases hc : partOk (strip (ev s x)) with
    | false => trivial
    | true => exact Good.of_fits (one fun hr => fits_box hm e _ _ hr hc) (by simp [execOp, ho])
  | build t ps => exact Good.of_fits (Fits.also fun hc => fits_build hT hm t _ _ (parts_rel hs ps hc).1 (parts_rel hs ps hc).2) (by simp [execOp, ho])
  | buildSlice t n ps => exact Good.of_fits (Fits.also fun hc => fits_buildSlice hT hm t n _ _ (parts_rel hs ps hc).1 (parts_rel hs ps hc).2) (by simp [execOp, ho])
  | load t x => exact Good.of_fits (one fun hr => fits_load hT hm t _ _ hr) (by simp [execOp, ho])
  | store t x y =>
    simp only [aop]
    have hex : execOp a.eval o = (do Instr.storeAt t (a.eval x) (a.eval y); pure .skip) := by simp [execOp, ho]
    rw [hex]
    have galso : ∀ {p : Option Prop} {r : OR} {m : Sem Next}, (obT p → Good P c rd mp s.st s.nx w r m) → Good P c rd mp s.st s.nx w (also p r) m := by
      intro p r m h
      cases r with
      | ok ob v => exact fun hob => h ((obT_andO _ _).1 hob).1 ((obT_andO _ _).1 hob).2
      | mem ob v st' nx' => exact fun hob => h ((obT_andO _ _).1 hob).1 ((obT_andO _ _).1 hob).2
      | call f args => trivial
      | bad => trivial
    refine galso fun hcx => galso fun hcy => ?_
    have hx := rel_strip (rel_ev hs x) hcx
    have hy := rel_strip (rel_ev hs y) hcy
    generalize strip (ev s x) = sx at hx ⊢
    generalize strip (ev s y) = sy at hy ⊢
    unfold storeO
    split
    · rename_i b off
      split
      · rename_i ty cs hl
        cases hc : (Nat.ble 1 (T t).size && Nat.beq (cellsOf sy).length (T t).size && (cellsOf sy).all AV.oneOwn && Nat.ble (off + (cellsOf sy).length) cs.length) with
        | false => trivial
        | true =>
          simp only [Bool.and_eq_true, Nat.beq_eq, Nat.ble_eq] at hc
          obtain ⟨⟨⟨h1, h2⟩, h3⟩, h4⟩ := hc
          intro hob
          obtain ⟨w', hw', hm'⟩ := fits_store_box hT hm t b off ty cs hl _ _ _ hx hy h2 h3 h4 h1 hob
          exact ⟨.skip, undef, w', rd, mp, by simp [hw'], .inr ⟨rfl, rfl⟩, Rd.le.refl _, Mp.le.refl _, hm', .any _ _⟩
      · trivial
    · rename_i r n sz' i off
      split
      · rename_i e sz n' f hl
        cases hc : (Nat.ble 1 (T t).size && Nat.beq sz' sz && Nat.beq (cellsOf sy).length (T t).size && (cellsOf sy).all (fun y => y.one && y.pure1) && Nat.ble (off + (cellsOf sy).length) sz) with
        | false => trivial
        | true =>
          simp only [Bool.and_eq_true, Nat.beq_eq, Nat.ble_eq] at hc
          obtain ⟨⟨⟨⟨h1, h0⟩, h2⟩, h3⟩, h4⟩ := hc
          subst h0
          rintro ⟨rfl, hi⟩
          obtain ⟨w', mp', hw', hle, hm'⟩ := fits_store_row hT hm t r n sz' i off e f hl _ _ _ hx hy h2 h3 h4 h1 hi
          exact ⟨.skip, undef, w', rd, mp', by simp [hw'], .inr ⟨rfl, rfl⟩, Rd.le.refl _, hle, hm', .any _ _⟩
      · trivial
    · trivial
  | nilCheck x =>
    simp only [aop]
    cases hn : nilCheckO (strip (ev s x)) with
    | ok ob v =>
      intro hob
      obtain ⟨hc, _⟩ := (obT_andO _ _).1 hob
      obtain ⟨g1, g2, g3⟩ := fits_nilCheck (P := P) (w := w) hm o x ho _ (rel_strip (rel_ev hs x) hc) ob v hn
      exact ⟨_, w, rd, g1, Rd.le.refl _, g3, g2⟩
    | mem ob v st nx => unfold nilCheckO at hn; split at hn <;> cases hn
    | call f args => trivial
    | bad => trivial
  | binOp op t x y yt =>
    refine Good.of_fits (m := do eqGuard op t x y (a.eval x) (a.eval y); binOp op t (a.eval x) (a.eval y)) (one fun hx => one fun hy => fits_bin hT hm o.dst op t x y _ _ _ _ hx hy) (by simp [execOp, ho])
  | unOp op t x => exact Good.of_fits (one fun hr => fits_un hm o.dst op _ _ hr) (by simp [execOp, ho])
  | convert src t x => exact Good.of_fits (one fun hr => fits_convert hT hm o.dst src t _ _ hr) (by simp [execOp, ho])
  | makeFunc fn first captured =>
    simp only [aop]
    cases fn with
    | func f =>
      obtain ⟨first⟩ := first
      cases first with
      | nil =>
        have hf : Fits P c rd mp s.st s.nx w (.ok none (.fn f (captured.toList.map (ev s)))) (pure (.func (.func f) #[] (captured.map a.eval))) :=
          fun _ => .here hm (by simp) (.fn _ _ _ _ (args_rel hs captured).1 (args_rel hs captured).2)
        exact Good.of_fits hf (by simp [execOp, ho, Instr.makeFunc])
      | cons x l => trivial
    | _ => trivial
  | makeSlice t x y => exact Good.of_fits (one fun hx => one fun hy => fits_make hT hm t _ _ _ _ hx hy) (by simp [execOp, ho])
  | slice t x lo hi mx =>
    refine Good.of_fits (one fun hx => Fits.also fun hcl => Fits.also fun hch => fits_slice hT hm t _ _ _ _ _ (lo.map a.eval) (hi.map a.eval) (mx.map a.eval) hx ?_ ?_ ?_ ?_ ?_) (by simp [execOp, ho])
    · intro y hy
      obtain ⟨z, rfl, rfl⟩ := Option.map_eq_some_iff.1 hy
      exact ⟨_, rfl, rel_strip (rel_ev hs z) hcl⟩
    · intro h; cases lo <;> simp at h ⊢
    · intro y hy
      obtain ⟨z, rfl, rfl⟩ := Option.map_eq_some_iff.1 hy
      exact ⟨_, rfl, rel_strip (rel_ev hs z) hch⟩
    · intro h; cases hi <;> simp at h ⊢
    · intro h; cases mx <;> simp at h ⊢
  | fieldAddr t x i => exact Good.of_fits (one fun hr => fits_fieldAddr hT hm t i _ _ hr) (by simp [execOp, ho])
  | field t x i => exact Good.of_fits (one fun hr => fits_field hT hm t i _ _ hr) (by simp [execOp, ho])
  | indexAddr t x i => exact Good.of_fits (one fun hx => one fun hy => fits_indexAddr hT hm t _ _ _ _ hx hy) (by simp [execOp, ho])
  | index t x i => exact Good.of_fits (one fun hx => one fun hy => fits_index hT hm t _ _ _ _ hx hy) (by simp [execOp, ho])
  | extract x i => exact Good.of_fits (one fun hr => fits_extract hm i _ _ hr) (by simp [execOp, ho])
  | call cl =>
    obtain ⟨callee, args, ats⟩ := cl
    simp only [aop]
    cases callee with
    | builtin b =>
      obtain ⟨args⟩ := args
      obtain ⟨ats⟩ := ats
      obtain ⟨cs, hex⟩ : ∃ cs, execOp a.eval o = builtin b ⟨ats⟩ o.type cs ((⟨args⟩ : Array Operand).map a.eval) := by
        simp only [execOp, ho, resolve, invoke]
        exact ⟨_, rfl⟩
      rw [hex]
      have fits : obT (scondL (args.map (ev s))) → ∃ m : Sem Value, builtin b ⟨ats⟩ o.type cs ((⟨args⟩ : Array Operand).map a.eval) = (do pure (.value (← m))) ∧ Fits P c rd mp s.st s.nx w (builtinO T s b ats (args.map fun x => strip (ev s x))) m ∨
          builtinO T s b ats (args.map fun x => strip (ev s x)) = .bad := by
        intro hc
        have hr : ∀ x ∈ args, Rel rd mp (strip (ev s x)) (a.eval x) := fun x hx => rel_strip (rel_ev hs x) (scondL_mem hc _ (List.mem_map.2 ⟨x, hx, rfl⟩))
        unfold builtinO
        split
        · rename_i t y hb
          match args, hb, hr with
          | [x], hb, hr =>
            simp only [List.map_cons, List.map_nil, List.cons.injEq, and_true] at hb
            subst hb
            exact ⟨Builtin.len_ #[t] o.type #[a.eval x], .inl ⟨by simp [builtin], fits_len hT hm t o.type _ _ (hr x (by simp))⟩⟩
        · rename_i t t' x' y' hb
          match args, hb, hr with
          | [x, y], hb, hr =>
            simp only [List.map_cons, List.map_nil, List.cons.injEq, and_true] at hb
            obtain ⟨rfl, rfl⟩ := hb
            cases ht : Nat.beq t t' with
            | false => exact ⟨pure (.bool true), .inr rfl⟩
            | true =>
              obtain rfl : t = t' := Nat.eq_of_beq_eq_true ht
              exact ⟨Builtin.append_ #[t, t] o.type #[a.eval x, a.eval y], .inl ⟨by simp [builtin], fits_append hT hm t o.type _ _ _ _ (hr x (by simp)) (hr y (by simp))⟩⟩
        · rename_i t t' x' y' hb
          match args, hb, hr with
          | [x, y], hb, hr =>
            simp only [List.map_cons, List.map_nil, List.cons.injEq, and_true] at hb
            obtain ⟨rfl, rfl⟩ := hb
            exact ⟨Builtin.min_ ⟨[t, t']⟩ o.type #[a.eval x, a.eval y], .inl ⟨by simp [builtin], fits_min hm ⟨[t, t']⟩ o.type false _ _ _ _ (hr x (by simp)) (hr y (by simp))⟩⟩
        · rename_i t t' x' y' hb
          match args, hb, hr with
          | [x, y], hb, hr =>
            simp only [List.map_cons, List.map_nil, List.cons.injEq, and_true] at hb
            obtain ⟨rfl, rfl⟩ := hb
            exact ⟨Builtin.max_ ⟨[t, t']⟩ o.type #[a.eval x, a.eval y], .inl ⟨by simp [builtin], fits_min hm ⟨[t, t']⟩ o.type true _ _ _ _ (hr x (by simp)) (hr y (by simp))⟩⟩
        · exact ⟨pure (.bool true), .inr rfl⟩
      have galso : ∀ {p : Option Prop} {r : OR} {m : Sem Next}, (obT p → Good P c rd mp s.st s.nx w r m) → Good P c rd mp s.st s.nx w (also p r) m := by
        intro p r m h
        cases r with
        | ok ob v => exact fun hob => h ((obT_andO _ _).1 hob).1 ((obT_andO _ _).1 hob).2
        | mem ob v st' nx' => exact fun hob => h ((obT_andO _ _).1 hob).1 ((obT_andO _ _).1 hob).2
        | call f args => trivial
        | bad => trivial
      refine galso fun hc => ?_
      obtain ⟨m, ⟨h1, h2⟩ | h⟩ := fits hc
      · exact Good.of_fits h2 h1
      · simp only [h]; trivial
    | value f =>
      simp only [callO]
      have hf := rel_ev hs f
      split
      · rename_i g caps hg
        rw [hg] at hf
        generalize hv : a.eval f = v at hf
        cases hf with
        | fn _ _ _ vs h1 h2 =>
          refine ⟨args.map a.eval ++ vs, ?_, (args_rel hs args).append ⟨h1, h2⟩⟩
          simp [execOp, ho, resolve, Deferred.ofValue, hv, invoke]
      · trivial
    | invoke r m => trivial
  | _ => trivial

end Go.Sx
