/- The rules of use: contracts, calls, loops. Nothing of a program. -/
import Derived.Test.YtljcikhibikebaaSxRun
import Derived.Deep.LoopGhost
namespace Go.Sx
open Go Go.RowKit

variable {rd : Rd} {mp : Mp} {st : List (Nat × SO)} {nx : Nat} {w : World} {s : ASt} {a : Act} {c : Ctx}

def MemR (rd : Rd) (w : World) : Prop := (∀ g o v, rd g o = some v → w.cell? ⟨g, o, none⟩ = some v) ∧ (∀ g o v, rd g o = some v → v.oneCell' = true)

/-- A FUNCTION's CONTRACT: called with values that the abstract arguments tell of, it returns what the abstract result tells of; nothing that was there has turned. -/
def Con (P : Program) (f : FuncId) (args : List AV) (res : AV) : Prop :=
  ∀ rd w vs, MemR rd w → RelL rd Mp.none args vs → Invokes P f vs w (fun v w' =>
    ∃ rd', Rel rd' Mp.none res v ∧ Rd.le rd rd' ∧ MemR rd' w' ∧ (∀ g o v, rd' g o = some v → rd g o = some v ∨ w.heap.size ≤ g) ∧ Below w.heap.size w w') (fun _ _ => False)

open Classical in
/-- All rows and boxes of the call's own are read-only from here on. -/
noncomputable def frzRd (rd : Rd) (mp : Mp) (st : List (Nat × SO)) (w : World) : Rd := fun g o =>
  if rd g o ≠ none then rd g o
  else if ∃ p, There st p ∧ blkOf mp p = some g then (match w.cell? ⟨g, o, none⟩ with | some v => if v.oneCell' = true then some v else none | none => none) else none

theorem frz_le : Rd.le rd (frzRd rd mp st w) := by
  intro g o v h
  simp only [frzRd]
  rw [if_pos (by rw [h]; simp)]
  exact h

theorem frz_home (hm : Mem c rd mp st nx w) {p : Pl} (hp : There st p) {g o : Nat} {v : Value} (hg : blkOf mp p = some g) (hc : w.cell? ⟨g, o, none⟩ = some v) (h1 : v.oneCell' = true) : frzRd rd mp st w g o = some v := by
  have := (hm.home hp hg).2.1 o
  simp only [frzRd]
  rw [if_neg (by rw [this]; simp), if_pos ⟨p, hp, hg⟩, hc]
  simp [h1]

theorem frz_some {g o : Nat} {u : Value} (h : frzRd rd mp st w g o = some u) : rd g o = some u ∨ (w.cell? ⟨g, o, none⟩ = some u ∧ u.oneCell' = true ∧ ∃ p, There st p ∧ blkOf mp p = some g) := by
  simp only [frzRd] at h
  split at h
  · exact .inl h
  · split at h
    · rename_i hex
      split at h
      · rename_i v hv
        split at h
        · rename_i h1
          cases h
          exact .inr ⟨hv, h1, hex⟩
        · cases h
      · cases h
    · cases h

theorem frz_memR (hm : Mem c rd mp st nx w) : MemR (frzRd rd mp st w) w := by
  refine ⟨fun g o v h => ?_, fun g o v h => ?_⟩
  · rcases frz_some h with h | ⟨h, _⟩
    · exact hm.rdw _ _ _ h
    · exact h
  · rcases frz_some h with h | ⟨_, h, _⟩
    · exact hm.rd1 _ _ _ h
    · exact h

theorem rel_plain {x : AV} {v : Value} (h : Rel rd mp x v) : Rel (frzRd rd mp st w) Mp.none (bif x.pure1 then x else .any) v := by
  cases hp : x.pure1 with
  | true => exact (h.pure1 hp).mono frz_le (Mp.le.refl _)
  | false => exact .any _ _

theorem rel_frzC (hm : Mem c rd mp st nx w) : ∀ (n : Nat) (x : AV) (v : Value), frzOkC st n x → Rel rd mp x v → Rel (frzRd rd mp st w) Mp.none (frzC st n x) v := by
  intro n
  induction n with
  | zero =>
    intro x v _ h
    have : frzC st 0 x = bif x.pure1 then x else .any := by cases x <;> rfl
    rw [this]
    exact rel_plain h
  | succ n ih =>
    intro x v hok h
    cases x with
    | own r i e m =>
      simp only [frzC]
      split
      · rename_i ob R hl
        simp only [frzOkC, hl] at hok
        obtain ⟨hob, hn, hdeep⟩ := hok
        obtain ⟨xs, hv, hown, hf, hxs, hsep⟩ := own_now hm hl hob h hn
        obtain ⟨_, hn2⟩ := hn
        subst hn2
        have hth : There st (.rw r i) := ⟨R, rowAt_mem hl hob⟩
        rcases hown.2 with ⟨rfl, h0⟩ | ⟨g, lo, cap, cur, rfl, hh, hnc, _⟩
        · rw [h0]; exact .slc0 _ _ _ _ _
        · by_cases h0 : R.n = 0
          · rw [h0]; exact .slc0 _ _ _ _ _
          · have hg : blkOf mp (.rw r i) = some g := by simp [blkOf, hv, Value.ownBlock]
            have hcell : ∀ k j, k < R.n → j < R.sz → ∃ u, w.cell? ⟨g, lo + (k * R.sz + j), none⟩ = some u ∧ u.oneCell' = true := by
              intro k j hk hj
              obtain ⟨u, hu, h1, _⟩ := hxs k j _ hk (List.getElem?_eq_getElem (by rw [hf k hk]; exact hj))
              exact ⟨u, hown.cells hu, h1⟩
            have mk : ∀ F : Nat → List AV, (∀ k, k < R.n → (F k).length = R.sz) → (∀ (k j : Nat) y, k < R.n → (F k)[j]? = some y → Rel (frzRd rd mp st w) Mp.none y ((w.cell? ⟨g, lo + (k * R.sz + j), none⟩).getD undef)) →
                Rel (frzRd rd mp st w) Mp.none (.slc R.sz R.n F) (.slice (some ⟨g, lo, none⟩) R.n cap) := by
              intro F h1 h2
              refine .slc _ _ _ _ _ _ _ (fun k j => (w.cell? ⟨g, lo + (k * R.sz + j), none⟩).getD undef) (by omega) hnc h1 (fun k j hk hj => ?_) h2
              obtain ⟨u, hu, h1⟩ := hcell k j hk hj
              rw [hu]
              exact frz_home hm hth hg hu h1
            cases hids : R.ids with
            | nil =>
              refine mk _ hf (fun k j y hk hy => ?_)
              obtain ⟨u, hu, h1, hr⟩ := hxs k j y hk hy
              rw [hown.cells hu, Option.getD_some]
              rw [hids, Mp.sel_nil] at hr
              exact hr.mono frz_le (Mp.le.refl _)
            | cons q qs =>
              simp only [hids] at hdeep
              refine mk _ (fun k hk => by rw [List.length_map]; exact hf k hk) (fun k j y hk hy => ?_)
              rw [List.getElem?_map] at hy
              obtain ⟨y', hy', rfl⟩ := Option.map_eq_some_iff.1 hy
              obtain ⟨u, hu, h1, hr⟩ := hxs k j y' hk hy'
              rw [hown.cells hu, Option.getD_some]
              exact ih y' u (allP_get (hdeep k hk) j y' hy') (hr.mono (Rd.le.refl _) (Mp.sel_le _ _))
      · exact .any _ _
    | ptr b o =>
      simp only [frzC]
      split
      · rename_i ty cs hl
        simp only [frzOkC, hl] at hok
        obtain ⟨⟨hone, hob⟩, hdeep⟩ := hok
        obtain ⟨g, hg, rfl⟩ := rel_ptr h
        obtain ⟨g', vs, h1, h2, h3, h4, h5, h6⟩ := hm.bx b ty cs hl
        rw [hg] at h1; cases h1
        have key : ∀ (j : Nat) y, (cs.drop o)[j]? = some y → ∃ u, vs[o + j]? = some u ∧ Rel rd mp y u ∧ w.cell? ⟨g, o + j, none⟩ = some u ∧ u.oneCell' = true := by
          intro j y hy
          have hy' := hy
          rw [List.getElem?_drop] at hy'
          have hlt : o + j < vs.size := by rw [h3]; exact (List.getElem?_eq_some_iff.1 hy').1
          have hr := h4 _ y vs[o + j] hy' (by simp [hlt])
          refine ⟨vs[o + j], by simp [hlt], hr, ?_, ?_⟩
          · rw [cell_of_row w g (o + j) vs ty (0, 0) h2]; simp [hlt]
          · have hmem := List.mem_of_getElem? hy
            exact rel_oneOwn hm hr (List.all_eq_true.1 hone y hmem) (ownOb_mem hob y hmem)
        refine .rptr _ _ _ _ (fun j => (vs[o + j]?).getD undef) (fun j x hx => ?_) (fun j x hx => ?_)
        · rw [List.getElem?_map] at hx
          obtain ⟨y, hy, rfl⟩ := Option.map_eq_some_iff.1 hx
          obtain ⟨u, hu, _, hc, ho⟩ := key j y hy
          rw [hu]
          exact frz_home hm (p := .bx b) ⟨ty, cs, hl⟩ hg hc ho
        · rw [List.getElem?_map] at hx
          obtain ⟨y, hy, rfl⟩ := Option.map_eq_some_iff.1 hx
          obtain ⟨u, hu, hr, _, _⟩ := key j y hy
          rw [hu]
          exact ih y u (allP_get hdeep j y hy) hr
      · exact .any _ _
    | _ => exact rel_plain h

theorem rel_frzB (hm : Mem c rd mp st nx w) (x : AV) (v : Value) (hok : frzOkB st x) (h : Rel rd mp x v) : Rel (frzRd rd mp st w) Mp.none (frzB st x) v := by
  by_cases hag : ∃ cs, x = .agg cs
  · obtain ⟨cs, rfl⟩ := hag
    obtain ⟨vs, rfl, hs, he⟩ := rel_agg h
    simp only [frzB]
    refine .agg _ _ _ (by simpa using hs) (fun j x v hx hv => ?_)
    rw [List.getElem?_map] at hx
    obtain ⟨y, hy, rfl⟩ := Option.map_eq_some_iff.1 hx
    exact rel_frzC hm 4 y v (allP_get hok j y hy) (he j y v hy hv)
  · by_cases hfn : ∃ f, x = .fn f []
    · obtain ⟨f, rfl⟩ := hfn
      cases h with
      | fn _ _ _ vs hs he => exact .fn _ _ _ _ hs (fun j x v hx _ => by simp at hx)
    · by_cases hcn : ∃ b y, x = .cnd b y
      · obtain ⟨b, y, rfl⟩ := hcn
        cases h with
        | cnd _ _ _ _ h1 h0 => exact .cnd _ _ _ _ (fun hb => rel_frzC hm 4 y v (hok hb) (h1 hb)) h0
      · have h1 : frzB st x = frzC st 4 x := by
          cases x with
          | agg cs => exact absurd ⟨cs, rfl⟩ hag
          | cnd b y => exact absurd ⟨b, y, rfl⟩ hcn
          | fn f cs => cases cs with
            | nil => exact absurd ⟨f, rfl⟩ hfn
            | cons => rfl
          | _ => rfl
        have h2 : frzOkC st 4 x := by
          cases x with
          | agg cs => exact absurd ⟨cs, rfl⟩ hag
          | cnd b y => exact absurd ⟨b, y, rfl⟩ hcn
          | fn f cs => trivial
          | _ => exact hok
        rw [h1]
        exact rel_frzC hm 4 x v h2 h

theorem rel_frzV (hm : Mem c rd mp st nx w) (x : AV) (v : Value) (hok : frzOkV st x) (h : Rel rd mp x v) : Rel (frzRd rd mp st w) Mp.none (frzV st x) v := by
  by_cases ht : ∃ vs, x = .tup vs
  · obtain ⟨xs, rfl⟩ := ht
    obtain ⟨vs, rfl, hs, he⟩ := rel_tup h
    simp only [frzV]
    refine .tup _ _ _ (by simpa using hs) (fun j x v hx hv => ?_)
    rw [List.getElem?_map] at hx
    obtain ⟨y, hy, rfl⟩ := Option.map_eq_some_iff.1 hx
    exact rel_frzB hm y v (allP_get hok j y hy) (he j y v hy hv)
  · have h1 : frzV st x = frzB st x := by
      cases x with
      | tup vs => exact absurd ⟨vs, rfl⟩ ht
      | _ => rfl
    have h2 : frzOkB st x := by
      cases x with
      | tup vs => exact absurd ⟨vs, rfl⟩ ht
      | _ => exact hok
    rw [h1]
    exact rel_frzB hm x v h2 h

/-- One abstract value says no more than another. -/
def Le (x y : AV) : Prop := ∀ rd mp v, Rel rd mp x v → Rel rd mp y v

theorem Le.refl (x : AV) : Le x x := fun _ _ _ h => h
theorem Le.trans {x y z : AV} (h : Le x y) (k : Le y z) : Le x z := fun rd mp v r => k rd mp v (h rd mp v r)
theorem Le.any (x : AV) : Le x .any := fun _ _ _ _ => .any _ _
theorem Le.of_eq {x y : AV} (h : x = y) : Le x y := h ▸ Le.refl x
theorem Le.nils (sz : Nat) (f : Nat → List AV) : Le .nils (.slc sz 0 f) := fun _ _ _ h => by cases h; exact .slc0 _ _ _ _ _
theorem Le.cnd {b : Bool} {x : AV} (h : b = true) : Le (.cnd b x) x := fun _ _ _ r => by cases r with | cnd _ _ _ _ k _ => exact k h
theorem Le.slc {sz n m : Nat} {f g : Nat → List AV} (hn : n = m) (h : ∀ i, i < n → f i = g i) : Le (.slc sz n f) (.slc sz m g) := by
  subst hn
  intro rd mp v r
  cases r with
  | slc0 => exact .slc0 _ _ _ _ _
  | slc _ _ _ _ blk off cap val h0 hc hs hr he => exact .slc _ _ _ _ _ _ _ val h0 hc (fun i hi => h i hi ▸ hs i hi) hr (fun i j x hi hx => he i j x hi (by rw [h i hi]; exact hx))

theorem Le.ifc {t : TypeId} {x y : AV} (h : Le x y) : Le (.ifc t x) (.ifc t y) := fun rd mp v r => by cases r with | ifc _ _ _ v hv => exact .ifc _ _ _ _ (h _ _ _ hv)

def LeL : List AV → List AV → Prop
  | [], [] => True
  | x :: xs, y :: ys => Le x y ∧ LeL xs ys
  | _, _ => False

theorem LeL.refl : ∀ xs : List AV, LeL xs xs
  | [] => trivial
  | x :: xs => ⟨Le.refl x, LeL.refl xs⟩

theorem LeL.of_eq {xs ys : List AV} (h : xs = ys) : LeL xs ys := h ▸ LeL.refl xs

theorem LeL.get : ∀ {xs ys : List AV}, LeL xs ys → xs.length = ys.length ∧ ∀ (j : Nat) x y, xs[j]? = some x → ys[j]? = some y → Le x y
  | [], [], _ => ⟨rfl, fun j x y hx => by simp at hx⟩
  | x :: xs, y :: ys, h => by
    obtain ⟨h1, h2⟩ := LeL.get h.2
    refine ⟨by simp [h1], fun j u v hu hv => ?_⟩
    cases j with
    | zero => simp at hu hv; subst hu; subst hv; exact h.1
    | succ j => simp at hu hv; exact h2 j u v hu hv
  | [], _ :: _, h => absurd h id
  | _ :: _, [], h => absurd h id

theorem Le.agg {xs ys : List AV} (h : LeL xs ys) : Le (.agg xs) (.agg ys) := by
  intro rd mp v r
  cases r with
  | agg _ _ vs hs he =>
    refine .agg _ _ _ (by rw [hs, h.get.1]) (fun j y v hy hv => ?_)
    have hj : j < xs.length := by rw [h.get.1]; exact (List.getElem?_eq_some_iff.1 hy).1
    exact h.get.2 j xs[j] y (List.getElem?_eq_getElem hj) hy _ _ _ (he j xs[j] v (List.getElem?_eq_getElem hj) hv)

theorem Le.tup {xs ys : List AV} (h : LeL xs ys) : Le (.tup xs) (.tup ys) := by
  intro rd mp v r
  cases r with
  | tup _ _ vs hs he =>
    refine .tup _ _ _ (by rw [hs, h.get.1]) (fun j y v hy hv => ?_)
    have hj : j < xs.length := by rw [h.get.1]; exact (List.getElem?_eq_some_iff.1 hy).1
    exact h.get.2 j xs[j] y (List.getElem?_eq_getElem hj) hy _ _ _ (he j xs[j] v (List.getElem?_eq_getElem hj) hv)

theorem RelL.le {xs ys : List AV} {vs : Array Value} (h : RelL rd mp xs vs) (hl : LeL xs ys) : RelL rd mp ys vs := by
  refine ⟨by rw [h.1, hl.get.1], fun j y v hy hv => ?_⟩
  have hj : j < xs.length := by rw [hl.get.1]; exact (List.getElem?_eq_some_iff.1 hy).1
  exact hl.get.2 j xs[j] y (List.getElem?_eq_getElem hj) hy _ _ _ (h.2 j xs[j] v (List.getElem?_eq_getElem hj) hv)

theorem RelL.pure {xs : List AV} {vs : Array Value} (h : RelL rd mp xs vs) (hp : xs.all AV.pure = true) (mp' : Mp) : RelL rd mp' xs vs :=
  ⟨h.1, fun j x v hx hv => (h.2 j x v hx hv).pure (List.all_eq_true.1 hp x (List.mem_of_getElem? hx))⟩

theorem dst_lt {E : Env} {dst : Option Nat} (hd : dstOk E dst = true) {a : Act} (hsz : a.tmps.size = E.fn.ntmps) : ∀ d, dst = some d → d < a.tmps.size := by
  intro d hd'
  rw [hd'] at hd
  simp only [dstOk, Nat.blt_eq] at hd
  rw [hsz]; exact hd

theorem putSl_mk (sl : List (Nat × AV)) (dst : Option Nat) (v : AV) (st : List (Nat × SO)) (nx : Nat) : (ASt.mk (putSl sl dst v) st nx) = (ASt.mk sl st nx).put dst v := by cases dst <;> rfl

theorem call_rule {sl : List (Nat × AV)} {E : Env} {B : Nat → ASt → Prop} {f : FuncId} {args : List AV} {dst : Option Nat} {full : Array Oper} {rest : List Oper} {k : List Itm} (hT : ∀ t, E.T t = tab E.P t) (n : Nat) {args' : List AV} {res : AV} (hc : Con E.P f args' res)
    (hp : args'.all AV.pure = true) (hl : LeL args args') (hd : dstOk E dst = true) (h : frcSl sl dst (fun sl' => exec E B n (.ops full rest :: k) ⟨sl', st, nx⟩) res) : CallG E B f args dst full rest k ⟨sl, st, nx⟩ := by
  rw [frcSl_eq, putSl_mk] at h
  unfold CallG
  intro rd mp a w vs hs hrd hsz hargs
  refine (hc rd w vs ⟨hs.mem.rdw, hs.mem.rd1⟩ ((hargs.le hl).pure hp _)).mono ?_ (fun _ _ h => False.elim h)
  rintro v w' ⟨rd', h1, h2, h3, h4, h5⟩
  have hm' := hs.mem.more h5 h2 h3.1 h3.2 h4
  exact exec_sound hT n _ _ h rd' mp _ w' (hs.put h2 (Mp.le.refl _) hm' (h1.mono (Rd.le.refl _) (Mp.none_le _)) (dst_lt hd hsz)) (hrd.step h2 (Mp.le.refl _)) (by rw [put_size]; exact hsz)

/-- A guarded call, the two ways apart. -/
theorem gcall_split {sl : List (Nat × AV)} {E : Env} {B : Nat → ASt → Prop} {g : Bool} {f : FuncId} {args : List AV} {dst : Option Nat} {full : Array Oper} {rest : List Oper} {k : List Itm} (hT : ∀ t, E.T t = tab E.P t) (n : Nat) (hd : dstOk E dst = true)
    (h1 : g = true → CallG E B f args dst full rest k ⟨sl, st, nx⟩) (h2 : g = false → frcSl sl dst (fun sl' => exec E B n (.ops full rest :: k) ⟨sl', st, nx⟩) .any) : GCallG E B g f args dst full rest k ⟨sl, st, nx⟩ := by
  simp only [frcSl_eq, putSl_mk] at h2
  unfold GCallG
  refine ⟨h1, fun hg rd mp a w hs hrd hsz => ?_⟩
  exact exec_sound hT n _ _ (h2 hg) rd mp _ w (hs.put (Rd.le.refl _) (Mp.le.refl _) hs.mem (.any _ _) (dst_lt hd hsz)) hrd (by rw [put_size]; exact hsz)

/-- A guarded call, both ways in one. -/
theorem gcall_join {sl : List (Nat × AV)} {E : Env} {B : Nat → ASt → Prop} {g : Bool} {f : FuncId} {args : List AV} {dst : Option Nat} {full : Array Oper} {rest : List Oper} {k : List Itm} (hT : ∀ t, E.T t = tab E.P t) (n : Nat) {args' : List AV} {res : AV} (hc : g = true → Con E.P f args' res)
    (hp : args'.all AV.pure = true) (hl : g = true → LeL args args') (hd : dstOk E dst = true) (h : frcSl sl dst (fun sl' => exec E B n (.ops full rest :: k) ⟨sl', st, nx⟩) (.cnd g res)) : GCallG E B g f args dst full rest k ⟨sl, st, nx⟩ := by
  rw [frcSl_eq, putSl_mk] at h
  unfold GCallG
  refine ⟨fun hg => ?_, fun hg rd mp a w hs hrd hsz => ?_⟩
  · unfold CallG
    intro rd mp a w vs hs hrd hsz hargs
    refine (hc hg rd w vs ⟨hs.mem.rdw, hs.mem.rd1⟩ ((hargs.le (hl hg)).pure hp _)).mono ?_ (fun _ _ h => False.elim h)
    rintro v w' ⟨rd', h1, h2, h3, h4, h5⟩
    have hm' := hs.mem.more h5 h2 h3.1 h3.2 h4
    exact exec_sound hT n _ _ h rd' mp _ w' (hs.put h2 (Mp.le.refl _) hm' (.cnd _ _ _ _ (fun _ => h1.mono (Rd.le.refl _) (Mp.none_le _)) (fun hf => by rw [hg] at hf; cases hf)) (dst_lt hd hsz)) (hrd.step h2 (Mp.le.refl _)) (by rw [put_size]; exact hsz)
  · exact exec_sound hT n _ _ h rd mp _ w (hs.put (Rd.le.refl _) (Mp.le.refl _) hs.mem (.cnd _ _ _ _ (fun ht => by rw [hg] at ht; cases ht) (fun _ => rfl)) (dst_lt hd hsz)) hrd (by rw [put_size]; exact hsz)

/-- A value that says nothing of memory. -/
def AV.flat1 : AV → Bool
  | .int .. | .bool .. | .str .. | .any | .nils | .nilp => true
  | _ => false
def AV.flat : AV → Bool
  | .tup vs => vs.all AV.flat1
  | x => x.flat1

theorem Rel.flat1 {rd' : Rd} {mp' : Mp} {x : AV} {v : Value} (h : Rel rd mp x v) (hf : x.flat1 = true) : Rel rd' mp' x v := by
  cases h <;> first
    | (simp [AV.flat1] at hf; done)
    | constructor

theorem Rel.flat {rd' : Rd} {mp' : Mp} {x : AV} {v : Value} (h : Rel rd mp x v) (hf : x.flat = true) : Rel rd' mp' x v := by
  have h' := h
  cases h with
  | tup _ cs vs hs he =>
    refine .tup _ _ _ hs (fun j x v hx hv => (he j x v hx hv).flat1 ?_)
    simp only [AV.flat, List.all_eq_true] at hf
    exact hf x (List.mem_of_getElem? hx)
  | _ => exact h'.flat1 hf

/-- A call to which rows and boxes of the call's own are lent, to be read: its result says nothing of memory. -/
theorem call_lend {sl : List (Nat × AV)} {E : Env} {B : Nat → ASt → Prop} {f : FuncId} {args : List AV} {dst : Option Nat} {full : Array Oper} {rest : List Oper} {k : List Itm} (hT : ∀ t, E.T t = tab E.P t) (n : Nat) {args' : List AV} {res : AV} (hc : Con E.P f args' res)
    (hok : allP (frzOkB st) args) (hl : LeL (args.map (frzB st)) args') (hf : res.flat = true) (hd : dstOk E dst = true) (h : frcSl sl dst (fun sl' => exec E B n (.ops full rest :: k) ⟨sl', st, nx⟩) res) : CallG E B f args dst full rest k ⟨sl, st, nx⟩ := by
  rw [frcSl_eq, putSl_mk] at h
  unfold CallG
  intro rd mp a w vs hs hrd hsz hargs
  have hargs' : RelL (frzRd rd mp st w) Mp.none (args.map (frzB st)) vs := by
    refine ⟨by rw [hargs.1, List.length_map], fun j x v hx hv => ?_⟩
    rw [List.getElem?_map] at hx
    obtain ⟨y, hy, rfl⟩ := Option.map_eq_some_iff.1 hx
    exact rel_frzB hs.mem y v (allP_get hok j y hy) (hargs.2 j y v hy hv)
  refine (hc _ w vs (frz_memR hs.mem) (hargs'.le hl)).mono ?_ (fun _ _ h => False.elim h)
  rintro v w' ⟨rd', h1, h2, h3, h4, h5⟩
  exact exec_sound hT n _ _ h rd mp _ w' (hs.put (Rd.le.refl _) (Mp.le.refl _) (hs.mem.below h5) (h1.flat hf) (dst_lt hd hsz)) hrd (by rw [put_size]; exact hsz)

/-- A guarded call to which rows and boxes are lent. -/
theorem gcall_lend {sl : List (Nat × AV)} {E : Env} {B : Nat → ASt → Prop} {g : Bool} {f : FuncId} {args : List AV} {dst : Option Nat} {full : Array Oper} {rest : List Oper} {k : List Itm} (hT : ∀ t, E.T t = tab E.P t) (n : Nat) {args' : List AV} {res : AV} (hc : g = true → Con E.P f args' res)
    (hok : g = true → allP (frzOkB st) args) (hl : g = true → LeL (args.map (frzB st)) args') (hf : res.flat = true) (hd : dstOk E dst = true) (h : frcSl sl dst (fun sl' => exec E B n (.ops full rest :: k) ⟨sl', st, nx⟩) (.cnd g res)) : GCallG E B g f args dst full rest k ⟨sl, st, nx⟩ := by
  rw [frcSl_eq, putSl_mk] at h
  unfold GCallG
  refine ⟨fun hg => ?_, fun hg rd mp a w hs hrd hsz => ?_⟩
  · unfold CallG
    intro rd mp a w vs hs hrd hsz hargs
    have hargs' : RelL (frzRd rd mp st w) Mp.none (args.map (frzB st)) vs := by
      refine ⟨by rw [hargs.1, List.length_map], fun j x v hx hv => ?_⟩
      rw [List.getElem?_map] at hx
      obtain ⟨y, hy, rfl⟩ := Option.map_eq_some_iff.1 hx
      exact rel_frzB hs.mem y v (allP_get (hok hg) j y hy) (hargs.2 j y v hy hv)
    refine (hc hg _ w vs (frz_memR hs.mem) (hargs'.le (hl hg))).mono ?_ (fun _ _ h => False.elim h)
    rintro v w' ⟨rd', h1, h2, h3, h4, h5⟩
    exact exec_sound hT n _ _ h rd mp _ w' (hs.put (Rd.le.refl _) (Mp.le.refl _) (hs.mem.below h5) (.cnd _ _ _ _ (fun _ => h1.flat hf) (fun hf => by rw [hg] at hf; cases hf)) (dst_lt hd hsz)) hrd (by rw [put_size]; exact hsz)
  · exact exec_sound hT n _ _ h rd mp _ w (hs.put (Rd.le.refl _) (Mp.le.refl _) hs.mem (.cnd _ _ _ _ (fun ht => by rw [hg] at ht; cases ht) (fun _ => rfl)) (dst_lt hd hsz)) hrd (by rw [put_size]; exact hsz)

def slotsFrom : Nat → List AV → List (Nat × AV)
  | _, [] => []
  | i, x :: xs => (i, x) :: slotsFrom (i + 1) xs

theorem look_slotsFrom (xs : List AV) : ∀ (i t : Nat), look (slotsFrom i xs) t = if i ≤ t then xs[t - i]? else none := by
  induction xs with
  | nil => intro i t; simp [slotsFrom, look]
  | cons x xs ih =>
    intro i t
    simp only [slotsFrom, look_cons, ih]
    by_cases h1 : i = t
    · subst h1; simp
    · by_cases h2 : i ≤ t
      · rw [if_neg h1, if_pos (by omega), if_pos h2, show t - i = (t - (i + 1)) + 1 by omega, List.getElem?_cons_succ]
      · rw [if_neg h1, if_neg (by omega), if_neg h2]

def conR (res : AV) : List (Nat × SO) → Nat → AV → Prop := fun st _ v => Ob (frzOkV st v) (frc (frzV st v) fun v => Le v res)

/-- How a call begins. -/
theorem enter_slots {fn : Func} {args : List AV} {vs : Array Value} (hn : args.length ≤ fn.ntmps) (hargs : RelL rd mp args vs) :
    (∀ t, Rel rd mp ((look (slotsFrom 0 args) t).getD .any) ((vs ++ Array.replicate (fn.ntmps - vs.size) undef).getD t undef)) ∧ (vs ++ Array.replicate (fn.ntmps - vs.size) undef).size = fn.ntmps := by
  refine ⟨fun t => ?_, by simp [hargs.1]; omega⟩
  simp only [look_slotsFrom, Nat.zero_le, if_true, Nat.sub_zero]
  by_cases ht : t < args.length
  · have hv : t < vs.size := by rw [hargs.1]; exact ht
    have : (vs ++ Array.replicate (fn.ntmps - vs.size) undef).getD t undef = vs[t] := by
      rw [Array.getD_eq_getD_getElem?, Array.getElem?_append_left hv]; simp [hv]
    rw [List.getElem?_eq_getElem ht, this]
    exact hargs.2 t _ _ (List.getElem?_eq_getElem ht) (by simp [hv])
  · rw [List.getElem?_eq_none (by omega)]
    exact .any _ _

theorem con_of_exec {P : Program} {T : Nat → TI} {C : Cfg} {f : FuncId} {fn : Func} {body : Code} {args : List AV} {res : AV} (n : Nat) (hT : ∀ t, T t = tab P t) (hf : P.funcs[f]? = some fn) (hb : fn.body = some body)
    (hname : (fn.name == "runtime.NumGoroutine") = false) (hn : Nat.ble args.length fn.ntmps = true)
    (h : ∀ (c : Ctx) (rdb : Rd), exec { P := P, T := T, C := C, fn := fn, c := c, rdb := rdb, mpb := Mp.none, nxb := 0, R := conR res, X := fun _ _ _ => False } (fun _ _ => False) n [.code body] ⟨slotsFrom 0 args, [], 0⟩) : Con P f args res := by
  intro rd w vs hm hargs
  have hn' : args.length ≤ fn.ntmps := Nat.le_of_ble_eq_true hn
  have hname' : fn.name ≠ "runtime.NumGoroutine" := by simpa using hname
  refine .inl ⟨by simp [callFunc, hf, hname', hb, mark], ?_⟩
  let c : Ctx := ⟨w, rd, fun _ => False⟩
  have hok := exec_sound (E := { P := P, T := T, C := C, fn := fn, c := c, rdb := rd, mpb := Mp.none, nxb := 0, R := conR res, X := fun _ _ _ => False }) (B := fun _ _ => False) hT n _ _ (h c rd)
  obtain ⟨hsl, hsz⟩ := enter_slots (fn := fn) hn' hargs
  have hsr : SR c rd Mp.none ⟨slotsFrom 0 args, [], 0⟩ ⟨vs ++ Array.replicate (fn.ntmps - vs.size) undef, []⟩ w :=
    ⟨hsl, rfl, ⟨hm.1, hm.2, fun g o v h => .inl h, ⟨rfl, rfl, rfl, Nat.le_refl _, fun _ _ _ => rfl⟩, fun b ty cs hx => by simp [look] at hx, fun r i R hR => by cases hR <;> simp_all [look],
      fun p q g hp => by cases p <;> (obtain ⟨_, hx⟩ := hp; first | (obtain ⟨_, hx⟩ := hx; simp [look] at hx; done) | (cases hx <;> simp_all [look])), fun _ _ => ⟨rfl, fun _ => rfl⟩, fun i x hx => by simp [look] at hx, fun r e sz cnt ep len f hx => by simp [look] at hx⟩⟩
  have hwp := hok rd Mp.none _ w hsr ⟨Rd.le.refl _, Mp.le.refl _, fun _ _ => ⟨rfl, fun _ => rfl⟩⟩ hsz
  refine (calls_of_wp hf hb hwp).mono fun e w' he => ?_
  match e, he with
  | .returned v, he =>
    obtain ⟨x, rd', mp', st, nx, h1, h2, h3, h4⟩ := he
    have hfin := Ob.right h1
    rw [frc_eq] at hfin
    refine .inl ⟨v, rfl, frzRd rd' mp' st w', hfin _ _ _ (rel_frzV h3 x v (Ob.left h1) h2), h4.rd.trans frz_le, frz_memR h3, fun g o v hv => ?_, ⟨h3.fr.os, h3.fr.tape, h3.fr.output, h3.fr.size, fun k hk => h3.fr.block k hk (fun h => h)⟩⟩
    rcases frz_some hv with hv | ⟨_, _, p, hp, hg⟩
    · exact h3.rdn g o v hv
    · rcases (h3.home hp hg).2.2 with h | h
      · exact .inr h
      · exact False.elim h
  | .panicked [⟨v, false, false⟩], he => obtain ⟨x, rd', mp', st, nx, h1, _⟩ := he; exact False.elim h1

/-- One abstract state says no more than another: slot by slot, and of the store what the other names. -/
def SubSl (s : ASt) : List (Nat × AV) → Prop
  | [] => True
  | (t, x) :: r => Le (s.get t) x ∧ SubSl s r

def SoLe : SO → SO → Prop
  | .box t cs, .box t' cs' => t = t' ∧ LeL cs cs'
  | .row ids e sz ep n f, .row ids' e' sz' ep' n' f' => (ids = ids' ∧ e = e' ∧ sz = sz') ∧ ep = ep' ∧ n = n' ∧ ∀ i, i < n → LeL (f i) (f' i)
  | .fam e sz cnt ep len f, .fam e' sz' cnt' ep' len' f' => (e = e' ∧ sz = sz') ∧ cnt = cnt' ∧ (∀ i, i < cnt → ep i = ep' i ∧ len i = len' i) ∧ ∀ i k, i < cnt → k < len i → LeL (f i k) (f' i k)
  | _, _ => False

def SubSt (st : List (Nat × SO)) : List (Nat × SO) → Prop
  | [] => True
  | (i, x) :: r => (match look st i with | some y => SoLe y x | none => False) ∧ SubSt st r

def Sub (s s' : ASt) : Prop := SubSl s s'.sl ∧ SubSt s.st s'.st

/-- All names of a state lie below its next one. -/
def ASt.closed (nxb : Nat) (s : ASt) : Bool := Nat.ble nxb s.nx && (s.sl.all fun p => p.2.lt s.nx) && stLt s.nx s.st

theorem SubSl.get : ∀ {l : List (Nat × AV)}, SubSl s l → ∀ t, Le (s.get t) ((look l t).getD .any)
  | [], _, t => Le.any _
  | (k, x) :: r, h, t => by
    rw [look_cons]
    by_cases hk : k = t
    · subst hk; rw [if_pos rfl]; exact h.1
    · rw [if_neg hk]; exact SubSl.get h.2 t

theorem SubSt.get : ∀ {l : List (Nat × SO)}, SubSt st l → ∀ i x, look l i = some x → ∃ y, look st i = some y ∧ SoLe y x
  | [], _, i, x, h => by simp [look] at h
  | (k, z) :: r, h, i, x, hl => by
    rw [look_cons] at hl
    by_cases hk : k = i
    · subst hk
      rw [if_pos rfl] at hl
      cases hl
      have h1 := h.1
      split at h1
      · rename_i y hy; exact ⟨y, hy, h1⟩
      · exact absurd h1 id
    · rw [if_neg hk] at hl; exact SubSt.get h.2 i x hl

theorem MOk.le {r i : Nat} {R R' : RowV} (h : MOk c rd mp w r i R) (hids : R.ids = R'.ids) (he : R.e = R'.e) (hsz : R.sz = R'.sz) (hep : R.ep = R'.ep) (hn : R.n = R'.n) (hf : ∀ k, k < R.n → LeL (R.f k) (R'.f k)) : MOk c rd mp w r i R' := by
  obtain ⟨ids, e, sz, ep, n, f⟩ := R
  obtain ⟨ids', e', sz', ep', n', f'⟩ := R'
  simp only at hids he hsz hep hn hf
  subst hids he hsz hep hn
  obtain ⟨v, xs, h1, h2, h3, h4, h5⟩ := h
  refine ⟨v, xs, h1, h2, fun k hk => by rw [← (hf k hk).get.1]; exact h3 k hk, fun k j y hk hy => ?_, h5⟩
  have hj : j < (f k).length := by rw [(hf k hk).get.1]; exact (List.getElem?_eq_some_iff.1 hy).1
  obtain ⟨u, hu, h1', h2'⟩ := h4 k j _ hk (List.getElem?_eq_getElem hj)
  exact ⟨u, hu, h1', (hf k hk).get.2 j _ y (List.getElem?_eq_getElem hj) hy _ _ _ h2'⟩

theorem SubSt.box {l : List (Nat × SO)} (h : SubSt st l) {b : Nat} {ty : TypeId} {cs : List AV} (hl : look l b = some (.box ty cs)) : ∃ cs', look st b = some (.box ty cs') ∧ LeL cs' cs := by
  obtain ⟨y, hy, hle⟩ := h.get b _ hl
  cases y with
  | box t c => obtain ⟨rfl, hc⟩ := hle; exact ⟨c, hy, hc⟩
  | row => exact False.elim hle
  | fam => exact False.elim hle

theorem SubSt.mem {l : List (Nat × SO)} (h : SubSt st l) {r i : Nat} {R : RowV} (hR : IsMem l r i R) : ∃ R', IsMem st r i R' ∧ R'.ids = R.ids ∧ R'.e = R.e ∧ R'.sz = R.sz ∧ R'.ep = R.ep ∧ R'.n = R.n ∧ ∀ k, k < R'.n → LeL (R'.f k) (R.f k) := by
  cases hR with
  | row hl =>
    obtain ⟨y, hy, hle⟩ := h.get _ _ hl
    cases y with
    | box => exact False.elim hle
    | row ids e sz ep n f => obtain ⟨⟨rfl, rfl, rfl⟩, rfl, rfl, hf⟩ := hle; exact ⟨_, .row hy, rfl, rfl, rfl, rfl, rfl, hf⟩
    | fam => exact False.elim hle
  | fam hl hi =>
    obtain ⟨y, hy, hle⟩ := h.get _ _ hl
    cases y with
    | box => exact False.elim hle
    | row => exact False.elim hle
    | fam e sz cnt ep len f =>
      obtain ⟨⟨rfl, rfl⟩, rfl, h1, hf⟩ := hle
      exact ⟨_, .fam hy hi, rfl, rfl, rfl, (h1 _ hi).1, (h1 _ hi).2, fun k hk => hf _ k hi hk⟩

theorem Mem.sub (hm : Mem c rd mp st nx w) {st' : List (Nat × SO)} {nx' : Nat} (hs : SubSt st st') (hn : stLt nx' st' = true) : Mem c rd (mp.restrict nx') st' nx' w := by
  have old : ∀ p, There st' p → There st p := by
    intro p hp
    cases p with
    | bx b => obtain ⟨ty, cs, hl⟩ := hp; obtain ⟨cs', h, _⟩ := hs.box hl; exact ⟨ty, cs', h⟩
    | rw r i => obtain ⟨R, hR⟩ := hp; obtain ⟨R', h, _⟩ := hs.mem hR; exact ⟨R', h⟩
  have hbig : Mem c rd mp st' (max nx nx') w := by
    refine ⟨hm.rdw, hm.rd1, hm.rdn, hm.fr, fun b ty cs hl => ?_, fun r i R hR => ?_, fun p q g hp hq => hm.inj p q g (old p hp) (old q hq), fun i hi => hm.fresh i (by omega), fun i x hx => ?_, fun r e sz cnt ep len f hl i hi => ?_⟩
    · obtain ⟨cs', hl', hle⟩ := hs.box hl
      obtain ⟨g, vs, h1, h2, h3, h4, h5, h6⟩ := hm.bx b ty cs' hl'
      refine ⟨g, vs, h1, h2, by rw [h3, hle.get.1], fun j z v hz hv => ?_, h5, h6⟩
      have hj : j < cs'.length := by rw [hle.get.1]; exact (List.getElem?_eq_some_iff.1 hz).1
      exact hle.get.2 j cs'[j] z (List.getElem?_eq_getElem hj) hz _ _ _ (h4 j cs'[j] v (List.getElem?_eq_getElem hj) hv)
    · obtain ⟨R', hR', h1, h2, h3, h4, h5, h6⟩ := hs.mem hR
      exact (hm.mb r i R' hR').le h1 h2 h3 h4 h5 h6
    · obtain ⟨y, hy, _⟩ := hs.get i x hx
      have := hm.ids i y hy
      omega
    · obtain ⟨y, hy, hle⟩ := hs.get _ _ hl
      cases y with
      | box => exact False.elim hle
      | row => exact False.elim hle
      | fam e0 sz0 cnt0 ep0 len0 f0 =>
        obtain ⟨_, rfl, _⟩ := hle
        exact hm.out _ _ _ _ _ _ _ hy i hi
  exact hbig.restrict hn

theorem SR.sub {nxb : Nat} {s' : ASt} (h : SR c rd mp s a w) (hs : Sub s s') (hc : s'.closed nxb = true) : SR c rd (mp.restrict s'.nx) s' a w := by
  simp only [ASt.closed, Bool.and_eq_true] at hc
  obtain ⟨⟨_, hc1⟩, hc2⟩ := hc
  refine ⟨fun t => ?_, h.defers, h.mem.sub hs.2 hc2⟩
  have hr := hs.1.get t rd mp _ (h.slots t)
  simp only [ASt.get]
  cases hl : look s'.sl t with
  | none => exact .any _ _
  | some x =>
    rw [hl] at hr
    exact hr.lt (List.all_eq_true.1 hc1 _ (mem_of_look hl))

theorem Base.sub {E : Env} {s' : ASt} (h : Base E rd mp) (hc : s'.closed E.nxb = true) : Base E rd (mp.restrict s'.nx) := by
  simp only [ASt.closed, Bool.and_eq_true, Nat.ble_eq] at hc
  exact ⟨h.rd, Mp.le_restrict h.mp (fun i hi => h.low i (by omega)), h.low⟩

theorem upon_mono {P : Program} {o : Oper} {a : Act} {K K' : Act → World → Prop} {Q Q' : Exit → Act → World → Prop} (hk : ∀ a w, K a w → K' a w) (hq : ∀ e a w, Q e a w → Q' e a w) (r : Result Next) (h : o.upon P a K Q r) : o.upon P a K' Q' r := by
  unfold Oper.upon at h ⊢
  split at h
  · exact hk _ _ h
  · exact hk _ _ h
  · exact hk _ _ h
  · refine Calls.mono h fun e w' he => ?_
    cases e with
    | returned v => exact hk _ _ he
    | panicked ch => exact hq _ _ _ he
    | outgrown => obtain ⟨a, w, h⟩ := he; exact ⟨a, w, hq _ _ _ h⟩
  · exact Rows.mono h fun v w' hv => hk _ _ hv
  · exact hq _ _ _ h
  · exact False.elim h

theorem wpList_mono {P : Program} {full : Array Oper} {Q Q' : Exit → Act → World → Prop} (hq : ∀ e a w, Q e a w → Q' e a w) : ∀ (l : List Oper) (a : Act) (w : World), wpList P full Q l a w → wpList P full Q' l a w := by
  intro l
  induction l with
  | nil => intro a w h; exact hq _ _ _ h
  | cons o l ih =>
    intro a w h
    unfold wpList at h ⊢
    split at h
    · rename_i hw
      rw [if_pos hw]
      rcases h with h | ⟨h1, a', w', h2⟩
      · exact .inl (upon_mono ih hq _ h)
      · exact .inr ⟨h1, a', w', hq _ _ _ h2⟩
    · rename_i hw
      rw [if_neg hw]
      exact ih _ _ h

def noMark (m : Nat) : List Itm → Bool
  | [] => true
  | .mark n :: k => !Nat.beq n m && noMark m k
  | _ :: k => noMark m k

theorem QK_mark {E : Env} {B B' : Nat → ASt → Prop} (lvl : Nat) (hB : ∀ n s, n ≠ lvl → B' n s → B n s) : ∀ (k : List Itm), noMark lvl k = true → ∀ e a w, QK E B' k e a w → QK E B k e a w := by
  intro k
  induction k with
  | nil => intro _ e a w h; exact h
  | cons i k ih =>
    intro hm e a w h
    cases i with
    | code x =>
      have ih' := ih hm
      cases e with
      | normal => simp only [QK] at h ⊢; exact wp_mono h ih'
      | _ => exact ih' _ _ _ h
    | blk id =>
      have ih' := ih hm
      cases e with
      | exit id' =>
        simp only [QK] at h ⊢
        split at h
        · rename_i he; rw [if_pos he]; exact ih' _ _ _ h
        · rename_i he; rw [if_neg he]; exact ih' _ _ _ h
      | _ => exact ih' _ _ _ h
    | mark n =>
      simp only [noMark, Bool.and_eq_true, Bool.not_eq_true'] at hm
      have ih' := ih hm.2
      cases e with
      | normal =>
        simp only [QK] at h ⊢
        obtain ⟨h1, rd, mp, s, h2, h3, h4⟩ := h
        exact ⟨h1, rd, mp, s, h2, h3, hB n s (fun e => by rw [e] at hm; simp at hm) h4⟩
      | _ => exact ih' _ _ _ h
    | ops full l =>
      have ih' := ih hm
      cases e with
      | normal => simp only [QK] at h ⊢; exact wpList_mono ih' _ _ _ h
      | _ => exact ih' _ _ _ h

theorem loop_rule {E : Env} {B : Nat → ASt → Prop} {body : Code} {k : List Itm} (hT : ∀ t, E.T t = tab E.P t) (n lvl : Nat) {G : Type} (I : G → ASt) (φ : G → Prop) (μ : G → Nat) (g0 : G) (h0 : φ g0) (hsub : Sub s (I g0)) (hcl : ∀ g, (I g).closed E.nxb = true)
    (hmk : noMark lvl k = true)
    (round : ∀ g, φ g → exec E (fun m s' => bif Nat.beq m lvl then ∃ g', φ g' ∧ Sub s' (I g') ∧ μ g' < μ g else B m s') n (.code body :: .mark lvl :: k) (I g)) : LoopG E B body k s := by
  unfold LoopG
  intro rd mp a w hs hrd hsz
  show (Code.loop body).wp E.P (QK E B k) a w
  refine wp_loop_ghost (fun m a w => a.tmps.size = E.fn.ntmps ∧ ∃ rd mp g, SR E.c rd mp (I g) a w ∧ Base E rd mp ∧ φ g ∧ μ g = m) (μ g0) ⟨hsz, rd, _, g0, hs.sub hsub (hcl g0), hrd.sub (hcl g0), h0, rfl⟩ ?_
  rintro m a w ⟨hsz, rd, mp, g, hs, hrd, hφ, rfl⟩
  have hok := exec_sound (E := E) (B := (fun m s' => bif Nat.beq m lvl then ∃ g', φ g' ∧ Sub s' (I g') ∧ μ g' < μ g else B m s')) hT n _ _ (round g hφ) rd mp a w hs hrd hsz
  refine wp_mono hok fun e a' w' hq => ?_
  have pass : QK E (fun m s' => bif Nat.beq m lvl then ∃ g', φ g' ∧ Sub s' (I g') ∧ μ g' < μ g else B m s') k e a' w' → QK E B k e a' w' :=
    QK_mark (E := E) (B := B) (B' := (fun m s' => bif Nat.beq m lvl then ∃ g', φ g' ∧ Sub s' (I g') ∧ μ g' < μ g else B m s')) lvl (fun n s hn hb => by
      have : Nat.beq n lvl = false := by
        cases hb' : Nat.beq n lvl with
        | false => rfl
        | true => exact absurd (Nat.eq_of_beq_eq_true hb') hn
      simpa [this] using hb) k hmk e a' w'
  cases e with
  | normal =>
    obtain ⟨h1, rd', mp', s', h2, h3, h4⟩ := hq
    simp only [Nat.beq_refl, cond_true] at h4
    obtain ⟨g', hg1, hg2, hg3⟩ := h4
    exact ⟨μ g', hg3, h1, rd', _, g', h2.sub hg2 (hcl g'), h3.sub (hcl g'), hg1, rfl⟩
  | _ => exact pass hq

attribute [irreducible] Le

end Go.Sx
