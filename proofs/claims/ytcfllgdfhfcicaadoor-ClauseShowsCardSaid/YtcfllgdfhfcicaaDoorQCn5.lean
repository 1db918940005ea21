/- Contracts: the text of clauses, by a builder. -/
import Derived.Test.YtcfllgdfhfcicaaDoorQCn2
import Derived.Test.YtcfllgdfhfcicaaDoorQCn4
import Derived.Test.YtcfllgdfhfcicaaDoorQ3
import Derived.Test.YtcfllgdfhfcicaaDoorQBldW
import Derived.Test.YtcfllgdfhfcicaaDoorQItoa
import Derived.Lib.ItoaLen
set_option linter.unusedSimpArgs false
set_option linter.unusedVariables false
namespace Go.Proofs.YtcfllgdfhfcicaaDoor
open Go Go.Sx Go.RowKit Go.St Go.Cl
set_option maxRecDepth 100000
set_option maxHeartbeats 4000000

theorem write_trip (ep n : Nat) (F : Nat → List AV) (used : Bool) (s : List UInt8) (hs : 0 < s.length) (hl : n + s.length ≤ 140737488355328) :
    Trip Tryd.prog 42 [.ptr 0 0, .str s] [.box 54 [bif used then .ptr 0 0 else .nilp, .own 1 0 ep n], .row [] 5 1 ep n F] (.tup [.int .i64 s.length, .nili])
      [(0, .box 54 [.ptr 0 0, .own 1 0 ep (n + s.length)]), (1, .row [] 5 1 ep (n + s.length) (appF n F s.length (bytF s)))] 2 :=
  trip_write Tryd.func42 rfl (by kernel_rfl) ep n F used s hs fun w b v xs h1 h2 h3 => by
    have h := bld_write b used v n xs ⟨s.toArray⟩ w h1 h2 h3 (by simpa [ByteArray.size] using hl)
    have e : (⟨s.toArray⟩ : ByteArray).size = s.length := by simp [ByteArray.size]
    rw [e] at h
    exact h

theorem string_trip (ep : Nat) (p : AV) (l : List UInt8) :
    Trip Tryd.prog 44 [.ptr 0 0] [.box 54 [p, .own 1 0 ep l.length], .row [] 5 1 ep l.length (bytF l)] (.str l) [] 2 :=
  trip_string Tryd.func44 rfl (by kernel_rfl) ep p l
    (fun w b g lo cap p cur h0 h1 h2 h3 h4 h5 h6 => AnySb.string_some Tryd.lays169 Tryd.Builder_Extra_169 b g lo cap p cur l h0 w h1 h2 h3 h4 h5 h6)
    (fun w b p h => AnySb.string_nil Tryd.lays169 Tryd.Builder_Extra_169 b p w h)
    (fun w b g lo cap p cur h1 h2 => by
      by_cases hc : cap = 0
      · subst hc; exact AnySb.string_noroom Tryd.lays169 Tryd.Builder_Extra_169 b g lo p cur w h1 h2
      · exact AnySb.string_room Tryd.lays169 Tryd.Builder_Extra_169 b g lo cap p w hc h1)

theorem great_con (cs : List (List Int)) (hl : cs.length ≤ 1000000) (hm : ∀ c ∈ cs, c.length ≤ 1000000) : Con Tryd.prog 23 [listsV cs] (iv (greatL cs)) := by
  refine con_of_exec (T := tab Tryd.prog) (C := {}) 300 (fun _ => rfl) Tryd.func23 rfl (by kernel_rfl) (by kernel_rfl) (fun c0 rdb => ?_)
  (repeat' ((conv => whnf); first | (refine AltG.none (by kernel_rfl) (EndG.go ?_)) | (refine Ob.intro (OrdG.intro (by kernel_rfl)) ?_) | (refine Ob.auto ?_) | (refine draw3n (fun _ => rfl) (by kernel_rfl) 300 (by rfl) ?_) | (refine Br.intro (fun hb => ?_) (fun hb => ?_) <;> (try simp [-List.getD_eq_getElem?_getD] at hb) <;> (try (exfalso; omega))) | (refine Ob.intro ?_ ?_)))
  ((conv => whnf); refine loop_auto (fun _ => rfl) 300 1 (fun i : Nat => [(10, iv i), (3, iv (greatL (cs.take i)))]) (fun _ => []) (fun i => i ≤ cs.length) (fun i => cs.length - i) (0) (Nat.zero_le _) subtA subtA (fun _ => rfl) (by kernel_rfl) ?_; (conv => whnf))
  intro i hi
  by_cases hil : i < cs.length
  · have hcl := hm _ (getD_mem cs i [] hil)
    have hnx := greatL_next cs i hil
    have hg := greatL_le (cs.take i)
    generalize greatL (cs.take i) = G at hnx hg ⊢
    obtain ⟨c, hcc⟩ : ∃ c, c = cs.getD i [] := ⟨_, rfl⟩
    rw [← hcc] at hcl hnx
    (repeat' ((conv => whnf); first | (refine AltG.none (by kernel_rfl) (EndG.go ?_)) | (refine Ob.intro (OrdG.intro (by kernel_rfl)) ?_) | (refine Ob.auto ?_) | (refine Ob.intro (by (exact ⟨by omega, by omega⟩)) ?_) | (refine draw3n (fun _ => rfl) (by kernel_rfl) 300 (by rfl) ?_) | (refine Br.intro (fun hb => ?_) (fun hb => ?_) <;> (try simp [-List.getD_eq_getElem?_getD] at hb) <;> (try (exfalso; omega))) | (refine Ob.intro ?_ ?_)))
    ((conv => whnf); refine loop_auto (fun _ => rfl) 300 2 (fun k : Nat => [(16, iv k), (3, iv (great1 G (c.take k))), (9, iv cs.length), (8, listsV cs)]) (fun _ => []) (fun k => k ≤ c.length) (fun k => c.length - k) (0) (Nat.zero_le _) subtA subtA (fun _ => rfl) (by kernel_rfl) ?_; (conv => whnf))
    intro k hk
    by_cases hkl : k < c.length
    · have hgn := great_next G c k hkl
      have hg1 := great1_le G hg (c.take k)
      have hlc := literal_con (c.getD k 0)
      by_cases hli : litB (c.getD k 0) = true
      · have hv := variable_con (c.getD k 0) hli
        rw [hli] at hlc
        rw [hcc] at hv hlc
        have em : max (great1 G (c.take k)) (absI ((cs.getD i []).getD k 0)) = great1 G (c.take (k + 1)) := by
          rw [hgn, ← hcc]
          by_cases hlt : great1 G (c.take k) < absI (c.getD k 0)
          · rw [if_pos ⟨hli, hlt⟩]; omega
          · rw [if_neg (fun h => hlt h.2)]; omega
        (repeat' ((conv => whnf); first | (refine AltG.none (by kernel_rfl) (EndG.go ?_)) | (refine Ob.intro (OrdG.intro (by kernel_rfl)) ?_) | (refine Ob.auto ?_) | (refine Ob.intro (by (first | exact ⟨by omega, by omega⟩ | exact fun _ => ⟨by omega, by omega⟩)) ?_) | (refine call_eq (fun _ => rfl) 300 (hlc) (by rfl) (by kernel_rfl) ?_) | (refine gcall_eq (fun _ => rfl) 300 (fun hg => hlc) (by rfl) rflsA (by kernel_rfl) ?_) | (refine CallY.con (hlc) (by rfl) leA ?_) | (refine CallZ.con (fun hg => hlc) rflsA (by rfl) ?_) | (refine call_eq (fun _ => rfl) 300 (hv) (by rfl) (by kernel_rfl) ?_) | (refine gcall_eq (fun _ => rfl) 300 (fun hg => hv) (by rfl) rflsA (by kernel_rfl) ?_) | (refine CallY.con (hv) (by rfl) leA ?_) | (refine CallZ.con (fun hg => hv) rflsA (by rfl) ?_) | (refine call_lend (fun _ => rfl) 300 (hlc) holdA (by repeat' (first | exact trivial | exact Le.refl _ | (refine And.intro ?_ ?_))) (by rfl) (by kernel_rfl) ?_) | (refine gcall_lend (fun _ => rfl) 300 (fun hg => hlc) (fun hg => holdA) (fun hg => (by repeat' (first | exact trivial | exact Le.refl _ | exact Le.cnd hg | (refine And.intro ?_ ?_)))) (by rfl) (by kernel_rfl) ?_) | (refine call_lend (fun _ => rfl) 300 (hv) holdA (by repeat' (first | exact trivial | exact Le.refl _ | (refine And.intro ?_ ?_))) (by rfl) (by kernel_rfl) ?_) | (refine gcall_lend (fun _ => rfl) 300 (fun hg => hv) (fun hg => holdA) (fun hg => (by repeat' (first | exact trivial | exact Le.refl _ | exact Le.cnd hg | (refine And.intro ?_ ?_)))) (by rfl) (by kernel_rfl) ?_) | (refine draw3n (fun _ => rfl) (by kernel_rfl) 300 (by rfl) ?_) | (refine Br.intro (fun hb => ?_) (fun hb => ?_) <;> (try simp [-List.getD_eq_getElem?_getD] at hb) <;> (try (exfalso; omega))) | (refine Ob.intro ?_ ?_)))
        · ((conv => whnf); refine ⟨k + 1, by omega, ⟨⟨Le.of_eq (congrArg (AV.int _) (by omega)), Le.of_eq (congrArg (AV.int _) em), Le.refl _, Le.refl _, trivial⟩, subtA⟩, ⟨subtA, subtA⟩, ?_⟩; (first | omega | (dsimp only; omega) | skip))
        · exfalso; rw [← hcc] at hb; omega
      · have hlf := Bool.not_eq_true _ ▸ hli
        rw [hlf] at hlc
        rw [hcc] at hlc
        (repeat' ((conv => whnf); first | (refine AltG.none (by kernel_rfl) (EndG.go ?_)) | (refine Ob.intro (OrdG.intro (by kernel_rfl)) ?_) | (refine Ob.auto ?_) | (refine Ob.intro (by (first | exact ⟨by omega, by omega⟩ | exact fun _ => ⟨by omega, by omega⟩)) ?_) | (refine call_eq (fun _ => rfl) 300 (hlc) (by rfl) (by kernel_rfl) ?_) | (refine gcall_eq (fun _ => rfl) 300 (fun hg => hlc) (by rfl) rflsA (by kernel_rfl) ?_) | (refine CallY.con (hlc) (by rfl) leA ?_) | (refine CallZ.con (fun hg => hlc) rflsA (by rfl) ?_) | (refine call_lend (fun _ => rfl) 300 (hlc) holdA (by repeat' (first | exact trivial | exact Le.refl _ | (refine And.intro ?_ ?_))) (by rfl) (by kernel_rfl) ?_) | (refine gcall_lend (fun _ => rfl) 300 (fun hg => hlc) (fun hg => holdA) (fun hg => (by repeat' (first | exact trivial | exact Le.refl _ | exact Le.cnd hg | (refine And.intro ?_ ?_)))) (by rfl) (by kernel_rfl) ?_) | (refine draw3n (fun _ => rfl) (by kernel_rfl) 300 (by rfl) ?_) | (refine Br.intro (fun hb => ?_) (fun hb => ?_) <;> (try simp [-List.getD_eq_getElem?_getD] at hb) <;> (try (exfalso; omega))) | (refine Ob.intro ?_ ?_)))
        · have e : great1 G (c.take k) = great1 G (c.take (k + 1)) := by rw [hgn]; exact (if_neg fun h => hli h.1).symm
          rw [e]
          ((conv => whnf); refine ⟨k + 1, by omega, ⟨subtA, subtA⟩, ⟨subtA, subtA⟩, ?_⟩; (first | omega | (dsimp only; omega) | skip))
        · exfalso; rw [← hcc] at hb; omega
    · obtain rfl : k = c.length := by omega
      rw [List.take_length, ← hnx]
      (repeat' ((conv => whnf); first | (refine AltG.none (by kernel_rfl) (EndG.go ?_)) | (refine Ob.intro (OrdG.intro (by kernel_rfl)) ?_) | (refine Ob.auto ?_) | (refine Ob.intro (by (exact ⟨by omega, by omega⟩)) ?_) | (refine draw3n (fun _ => rfl) (by kernel_rfl) 300 (by rfl) ?_) | (refine Br.intro (fun hb => ?_) (fun hb => ?_) <;> (try simp [-List.getD_eq_getElem?_getD] at hb) <;> (try (exfalso; omega))) | (refine Ob.intro ?_ ?_)))
      · exfalso; rw [← hcc] at hb; omega
      · ((conv => whnf); refine ⟨i + 1, by omega, ⟨subtA, subtA⟩, ⟨subtA, subtA⟩, ?_⟩; (first | omega | (dsimp only; omega) | skip))
  · obtain rfl : i = cs.length := by omega
    rw [List.take_length]
    (repeat' ((conv => whnf); first | (refine AltG.none (by kernel_rfl) (EndG.go ?_)) | (refine Ob.intro (OrdG.intro (by kernel_rfl)) ?_) | (refine Ob.auto ?_) | (refine Ob.intro (by (exact ⟨by omega, by omega⟩)) ?_) | (refine draw3n (fun _ => rfl) (by kernel_rfl) 300 (by rfl) ?_) | (refine Br.intro (fun hb => ?_) (fun hb => ?_) <;> (try simp [-List.getD_eq_getElem?_getD] at hb) <;> (try (exfalso; omega))) | (refine Ob.intro ?_ ?_)))
    exact Le.refl _

theorem bytF_app (a b : List UInt8) (k : Nat) (hk : k < a.length + b.length) : appF a.length (bytF a) b.length (bytF b) k = bytF (a ++ b) k := by
  unfold appF bytF
  by_cases h : k < a.length
  · rw [if_pos h, List.getD_eq_getElem?_getD (l := a ++ b), List.getElem?_append_left h, ← List.getD_eq_getElem?_getD]
  · rw [if_neg h, if_pos hk, List.getD_eq_getElem?_getD (l := a ++ b), List.getElem?_append_right (by omega), ← List.getD_eq_getElem?_getD]

theorem writeT_trip (used : Bool) (t s : List UInt8) (hs : 0 < s.length) (hl : t.length + s.length ≤ 140737488355328) :
    Trip Tryd.prog 42 [.ptr 0 0, .str s] [.box 54 [bif used then .ptr 0 0 else .nilp, .own 1 0 0 t.length], .row [] 5 1 0 t.length (bytF t)] (.tup [.int .i64 s.length, .nili])
      [(0, .box 54 [.ptr 0 0, .own 1 0 0 (t ++ s).length]), (1, .row [] 5 1 0 (t ++ s).length (bytF (t ++ s)))] 2 := by
  have h := write_trip 0 t.length (bytF t) used s hs hl
  intro c rd mp w vs h1 h2 h3 h4 h5
  refine (h c rd mp w vs h1 h2 h3 h4 h5).mono (fun v w' ⟨rd', mp', a1, a2, a3, a4⟩ => ⟨rd', mp', a1, a2, a3, a4.weak ?_⟩) (fun _ _ h => h)
  intro i x hx
  match i, hx with
  | 0, hx =>
    cases hx
    exact ⟨_, rfl, rfl, Le.refl _, Le.of_eq (congrArg (AV.own 1 0 0) (by simp)), trivial⟩
  | 1, hx =>
    cases hx
    exact ⟨_, rfl, ⟨rfl, rfl, rfl⟩, rfl, by simp, fun k hk => LeL.of_eq (bytF_app t s k hk)⟩
  | i + 2, hx => cases hx

/-- A line's literals. -/
def lineT (c : List Int) : List UInt8 := c.flatMap fun l => Lib.itoa l ++ [32]
def headT (cs : List (List Int)) : List UInt8 := [112, 32, 99, 110, 102, 32] ++ Lib.itoa (greatL cs) ++ [32] ++ Lib.itoa cs.length ++ [10]
def bodyC (cs : List (List Int)) : List UInt8 := cs.flatMap fun c => lineT c ++ [48, 10]
def showT (cs : List (List Int)) : List UInt8 := bif cs.all rightB then headT cs ++ bodyC cs else []

/-- The text behind i lines. -/
def txtI (cs : List (List Int)) (i : Nat) : List UInt8 := headT cs ++ bodyC (cs.take i)

theorem lineT_le (c : List Int) (hr : rightB c = true) (k : Nat) : (lineT (c.take k)).length ≤ 22 * k := by
  have key : ∀ (m : List Int) (k : Nat), (∀ x ∈ m, litB x = true) → (lineT (m.take k)).length ≤ 22 * k := by
    intro m
    induction m with
    | nil => intro k _; simp [lineT]
    | cons x m ih =>
      intro k h
      cases k with
      | zero => simp [lineT]
      | succ k =>
        have h1 := ih k (fun y hy => h y (List.mem_cons_of_mem _ hy))
        have h2 := (lit_iff x).1 (h x (List.mem_cons_self ..))
        have h3 := Lib.itoa_length_le x (by omega) (by omega)
        unfold lineT at h1 ⊢
        rw [List.take_succ_cons, List.flatMap_cons, List.length_append, List.length_append, List.length_singleton]
        omega
  exact key c k (List.all_eq_true.1 hr)

theorem lineT_next (c : List Int) (k : Nat) (hk : k < c.length) : lineT (c.take (k + 1)) = lineT (c.take k) ++ (Lib.itoa (c.getD k 0) ++ [32]) := by
  have h : c.take (k + 1) = c.take k ++ [c.getD k 0] := by
    rw [List.take_add_one, List.getD_eq_getElem?_getD, List.getElem?_eq_getElem hk]; rfl
  unfold lineT
  rw [h, List.flatMap_append]
  simp

theorem bodyC_next (cs : List (List Int)) (i : Nat) (hi : i < cs.length) : bodyC (cs.take (i + 1)) = bodyC (cs.take i) ++ (lineT (cs.getD i []) ++ [48, 10]) := by
  have h : cs.take (i + 1) = cs.take i ++ [cs.getD i []] := by
    rw [List.take_add_one, List.getD_eq_getElem?_getD, List.getElem?_eq_getElem hi]; rfl
  unfold bodyC
  rw [h, List.flatMap_append]
  simp

theorem bodyC_le (cs : List (List Int)) (hr : cs.all rightB = true) (hm : ∀ c ∈ cs, c.length ≤ 1000) (i : Nat) (hi : i ≤ cs.length) : (bodyC (cs.take i)).length ≤ 22002 * i := by
  induction i with
  | zero => simp [bodyC]
  | succ i ih =>
    have h1 := ih (by omega)
    have hmem := getD_mem cs i [] (by omega)
    have h2 := lineT_le (cs.getD i []) (List.all_eq_true.1 hr _ hmem) (cs.getD i []).length
    have h3 := hm _ hmem
    rw [List.take_length] at h2
    rw [bodyC_next cs i (by omega), List.length_append, List.length_append]
    simp only [List.length_cons, List.length_nil]
    omega

theorem show_con (cs : List (List Int)) (hl : cs.length ≤ 1000) (hm : ∀ c ∈ cs, c.length ≤ 1000) : Con Tryd.prog 21 [listsV cs] (.str (showT cs)) := by
  have hc := hasS_con cs (by omega) (fun c h => by have := hm c h; omega)
  cases hr : cs.all rightB with
  | false =>
    rw [show (cs.any fun x => !rightB x) = true by rw [all_any] at hr; simpa using hr] at hc
    refine con_of_exec (T := tab Tryd.prog) (C := {}) 300 (fun _ => rfl) Tryd.func21 rfl (by kernel_rfl) (by kernel_rfl) (fun c0 rdb => ?_)
    (repeat' ((conv => whnf); first | (refine AltG.none (by kernel_rfl) (EndG.go ?_)) | (refine Ob.intro (OrdG.intro (by kernel_rfl)) ?_) | (refine Ob.auto ?_) | (refine call_eq (fun _ => rfl) 300 (hc) (by rfl) (by kernel_rfl) ?_) | (refine gcall_eq (fun _ => rfl) 300 (fun hg => hc) (by rfl) rflsA (by kernel_rfl) ?_) | (refine CallY.con (hc) (by rfl) leA ?_) | (refine CallZ.con (fun hg => hc) rflsA (by rfl) ?_) | (refine call_lend (fun _ => rfl) 300 (hc) holdA (by repeat' (first | exact trivial | exact Le.refl _ | (refine And.intro ?_ ?_))) (by rfl) (by kernel_rfl) ?_) | (refine gcall_lend (fun _ => rfl) 300 (fun hg => hc) (fun hg => holdA) (fun hg => (by repeat' (first | exact trivial | exact Le.refl _ | exact Le.cnd hg | (refine And.intro ?_ ?_)))) (by rfl) (by kernel_rfl) ?_) | (refine draw3n (fun _ => rfl) (by kernel_rfl) 300 (by rfl) ?_) | (refine Br.intro (fun hb => ?_) (fun hb => ?_) <;> (try simp [-List.getD_eq_getElem?_getD] at hb) <;> (try (exfalso; omega))) | (refine Ob.intro ?_ ?_)))
    unfold showT
    rw [hr]
    exact Le.refl _
  | true =>
    rw [show (cs.any fun x => !rightB x) = false by rw [all_any] at hr; simpa using hr] at hc
    have hg := greatL_le cs
    have hgc := great_con cs (by omega) (fun c h => by have := hm c h; omega)
    refine con_of_exec (T := tab Tryd.prog) (C := {}) 300 (fun _ => rfl) Tryd.func21 rfl (by kernel_rfl) (by kernel_rfl) (fun c0 rdb => ?_)
    have hi1 := Lib.itoa_length_le (greatL cs) (by omega) (by omega)
    have hi2 := Lib.itoa_length_le (cs.length : Int) (by omega) (by omega)
    (repeat' ((conv => whnf); first | (refine AltG.none (by kernel_rfl) (EndG.go ?_)) | (refine Ob.intro (OrdG.intro (by kernel_rfl)) ?_) | (refine Ob.auto ?_) | (refine Ob.intro (by ((show _ ≤ (9223372036854775807 : Nat); simp; omega))) ?_) | (refine call_eq (fun _ => rfl) 300 (hc) (by rfl) (by kernel_rfl) ?_) | (refine gcall_eq (fun _ => rfl) 300 (fun hg => hc) (by rfl) rflsA (by kernel_rfl) ?_) | (refine CallY.con (hc) (by rfl) leA ?_) | (refine CallZ.con (fun hg => hc) rflsA (by rfl) ?_) | (refine call_eq (fun _ => rfl) 300 (hgc) (by rfl) (by kernel_rfl) ?_) | (refine gcall_eq (fun _ => rfl) 300 (fun hg => hgc) (by rfl) rflsA (by kernel_rfl) ?_) | (refine CallY.con (hgc) (by rfl) leA ?_) | (refine CallZ.con (fun hg => hgc) rflsA (by rfl) ?_) | (refine call_eq (fun _ => rfl) 300 (itoa_con (greatL cs) (by omega) (by omega)) (by rfl) (by kernel_rfl) ?_) | (refine gcall_eq (fun _ => rfl) 300 (fun hg => itoa_con (greatL cs) (by omega) (by omega)) (by rfl) rflsA (by kernel_rfl) ?_) | (refine CallY.con (itoa_con (greatL cs) (by omega) (by omega)) (by rfl) leA ?_) | (refine CallZ.con (fun hg => itoa_con (greatL cs) (by omega) (by omega)) rflsA (by rfl) ?_) | (refine call_eq (fun _ => rfl) 300 (itoa_con (cs.length : Int) (by omega) (by omega)) (by rfl) (by kernel_rfl) ?_) | (refine gcall_eq (fun _ => rfl) 300 (fun hg => itoa_con (cs.length : Int) (by omega) (by omega)) (by rfl) rflsA (by kernel_rfl) ?_) | (refine CallY.con (itoa_con (cs.length : Int) (by omega) (by omega)) (by rfl) leA ?_) | (refine CallZ.con (fun hg => itoa_con (cs.length : Int) (by omega) (by omega)) rflsA (by rfl) ?_) | (refine call_lend (fun _ => rfl) 300 (hc) holdA (by repeat' (first | exact trivial | exact Le.refl _ | (refine And.intro ?_ ?_))) (by rfl) (by kernel_rfl) ?_) | (refine gcall_lend (fun _ => rfl) 300 (fun hg => hc) (fun hg => holdA) (fun hg => (by repeat' (first | exact trivial | exact Le.refl _ | exact Le.cnd hg | (refine And.intro ?_ ?_)))) (by rfl) (by kernel_rfl) ?_) | (refine call_lend (fun _ => rfl) 300 (hgc) holdA (by repeat' (first | exact trivial | exact Le.refl _ | (refine And.intro ?_ ?_))) (by rfl) (by kernel_rfl) ?_) | (refine gcall_lend (fun _ => rfl) 300 (fun hg => hgc) (fun hg => holdA) (fun hg => (by repeat' (first | exact trivial | exact Le.refl _ | exact Le.cnd hg | (refine And.intro ?_ ?_)))) (by rfl) (by kernel_rfl) ?_) | (refine call_lend (fun _ => rfl) 300 (itoa_con (greatL cs) (by omega) (by omega)) holdA (by repeat' (first | exact trivial | exact Le.refl _ | (refine And.intro ?_ ?_))) (by rfl) (by kernel_rfl) ?_) | (refine gcall_lend (fun _ => rfl) 300 (fun hg => itoa_con (greatL cs) (by omega) (by omega)) (fun hg => holdA) (fun hg => (by repeat' (first | exact trivial | exact Le.refl _ | exact Le.cnd hg | (refine And.intro ?_ ?_)))) (by rfl) (by kernel_rfl) ?_) | (refine call_lend (fun _ => rfl) 300 (itoa_con (cs.length : Int) (by omega) (by omega)) holdA (by repeat' (first | exact trivial | exact Le.refl _ | (refine And.intro ?_ ?_))) (by rfl) (by kernel_rfl) ?_) | (refine gcall_lend (fun _ => rfl) 300 (fun hg => itoa_con (cs.length : Int) (by omega) (by omega)) (fun hg => holdA) (fun hg => (by repeat' (first | exact trivial | exact Le.refl _ | exact Le.cnd hg | (refine And.intro ?_ ?_)))) (by rfl) (by kernel_rfl) ?_) | (refine draw3n (fun _ => rfl) (by kernel_rfl) 300 (by rfl) ?_) | (refine Br.intro (fun hb => ?_) (fun hb => ?_) <;> (try simp [-List.getD_eq_getElem?_getD] at hb) <;> (try (exfalso; omega))) | (refine Ob.intro ?_ ?_)))
    refine call_nil 0 1 5 1 rfl rfl ?_
    ((conv => whnf); refine call_trip (fun _ => rfl) 300 [0, 1] (writeT_trip false [] (headT cs) (by simp [headT]) (by simp [headT]; omega)) (by kernel_rfl) ⟨Le.refl _, Le.refl _, trivial⟩ ⟨⟨rfl, Le.refl _, Le.refl _, trivial⟩, ⟨⟨rfl, rfl, rfl⟩, rfl, rfl, fun k hk => absurd hk (Nat.not_lt_zero k)⟩, trivial⟩ (by exact rowsLt_nil rfl) (by exact rowsLt_nil rfl) (by kernel_rfl) ?_)
    (repeat' ((conv => whnf); first | (refine AltG.none (by kernel_rfl) (EndG.go ?_)) | (refine Ob.intro (OrdG.intro (by kernel_rfl)) ?_) | (refine Ob.auto ?_) | (refine draw3n (fun _ => rfl) (by kernel_rfl) 300 (by rfl) ?_) | (refine Br.intro (fun hb => ?_) (fun hb => ?_) <;> (try simp [-List.getD_eq_getElem?_getD] at hb) <;> (try (exfalso; omega))) | (refine Ob.intro ?_ ?_)))
    have hh : (headT cs).length ≤ 60 := by simp [headT]; omega
    ((conv => whnf); refine loop_auto (fun _ => rfl) 300 1 (fun i : Nat => [(23, iv i)]) (fun i => [(0, .box 54 [.ptr 0 0, .own 1 0 0 (txtI cs i).length]), (1, .row [] 5 1 0 (txtI cs i).length (bytF (txtI cs i)))]) (fun i => i ≤ cs.length) (fun i => cs.length - i) (0) (Nat.zero_le _) subtA ⟨⟨rfl, Le.refl _, Le.of_eq (congrArg (AV.own 1 0 0) (by simp [txtI, bodyC])), trivial⟩, ⟨⟨rfl, rfl, rfl⟩, rfl, by simp [txtI, bodyC], fun k hk => LeL.of_eq (by show bytF ([] ++ headT cs) k = bytF (txtI cs 0) k; simp [txtI, bodyC])⟩, trivial⟩ (fun _ => rfl) (by kernel_rfl) ?_; (conv => whnf))
    intro i hi
    have hbl := bodyC_le cs hr hm i hi
    have htl : (txtI cs i).length ≤ 60 + 22002 * i := by unfold txtI; rw [List.length_append]; omega
    by_cases hil : i < cs.length
    · have hmem := getD_mem cs i [] hil
      have hcr := List.all_eq_true.1 hr _ hmem
      have hcl := hm _ hmem
      (repeat' ((conv => whnf); first | (refine AltG.none (by kernel_rfl) (EndG.go ?_)) | (refine Ob.intro (OrdG.intro (by kernel_rfl)) ?_) | (refine Ob.auto ?_) | (refine Ob.intro (by (exact ⟨by omega, by omega⟩)) ?_) | (refine draw3n (fun _ => rfl) (by kernel_rfl) 300 (by rfl) ?_) | (refine Br.intro (fun hb => ?_) (fun hb => ?_) <;> (try simp [-List.getD_eq_getElem?_getD] at hb) <;> (try (exfalso; omega))) | (refine Ob.intro ?_ ?_)))
      ((conv => whnf); refine loop_auto (fun _ => rfl) 300 2 (fun k : Nat => [(29, iv k), (22, iv cs.length), (21, listsV cs)]) (fun k => [(0, .box 54 [.ptr 0 0, .own 1 0 0 (txtI cs i ++ lineT ((cs.getD i []).take k)).length]), (1, .row [] 5 1 0 (txtI cs i ++ lineT ((cs.getD i []).take k)).length (bytF (txtI cs i ++ lineT ((cs.getD i []).take k))))]) (fun k => k ≤ (cs.getD i []).length) (fun k => (cs.getD i []).length - k) (0) (Nat.zero_le _) subtA ⟨⟨rfl, Le.refl _, Le.of_eq (congrArg (AV.own 1 0 0) (by simp [lineT])), trivial⟩, ⟨⟨rfl, rfl, rfl⟩, rfl, by simp [lineT], fun k hk => LeL.of_eq (by simp [lineT])⟩, trivial⟩ (fun _ => rfl) (by kernel_rfl) ?_; (conv => whnf))
      intro k hk
      have hkl := lineT_le _ hcr k
      have hlen : (txtI cs i ++ lineT ((cs.getD i []).take k)).length ≤ 60 + 22002 * i + 22 * k := by rw [List.length_append]; omega
      by_cases hkc : k < (cs.getD i []).length
      · have hnx := lineT_next _ k hkc
        have hx := (lit_iff _).1 (List.all_eq_true.1 hcr _ (getD_mem _ k 0 hkc))
        have hi3 := Lib.itoa_length_le ((cs.getD i []).getD k 0) (by omega) (by omega)
        have hic := itoa_con ((cs.getD i []).getD k 0) (by omega) (by omega)
        have e : (txtI cs i ++ lineT ((cs.getD i []).take k)) ++ (Lib.itoa ((cs.getD i []).getD k 0) ++ [32]) = txtI cs i ++ lineT ((cs.getD i []).take (k + 1)) := by rw [hnx]; simp
        generalize (txtI cs i ++ lineT ((cs.getD i []).take k)) = T at hlen e ⊢
        (repeat' ((conv => whnf); first | (refine AltG.none (by kernel_rfl) (EndG.go ?_)) | (refine Ob.intro (OrdG.intro (by kernel_rfl)) ?_) | (refine Ob.auto ?_) | (refine Ob.intro (by (first | exact ⟨by omega, by omega⟩ | (show _ ≤ (9223372036854775807 : Nat); simp [-List.getD_eq_getElem?_getD]; omega))) ?_) | (refine call_eq (fun _ => rfl) 300 (hic) (by rfl) (by kernel_rfl) ?_) | (refine gcall_eq (fun _ => rfl) 300 (fun hg => hic) (by rfl) rflsA (by kernel_rfl) ?_) | (refine CallY.con (hic) (by rfl) leA ?_) | (refine CallZ.con (fun hg => hic) rflsA (by rfl) ?_) | (refine call_lend (fun _ => rfl) 300 (hic) holdA (by repeat' (first | exact trivial | exact Le.refl _ | (refine And.intro ?_ ?_))) (by rfl) (by kernel_rfl) ?_) | (refine gcall_lend (fun _ => rfl) 300 (fun hg => hic) (fun hg => holdA) (fun hg => (by repeat' (first | exact trivial | exact Le.refl _ | exact Le.cnd hg | (refine And.intro ?_ ?_)))) (by rfl) (by kernel_rfl) ?_) | (refine draw3n (fun _ => rfl) (by kernel_rfl) 300 (by rfl) ?_) | (refine Br.intro (fun hb => ?_) (fun hb => ?_) <;> (try simp [-List.getD_eq_getElem?_getD] at hb) <;> (try (exfalso; omega))) | (refine Ob.intro ?_ ?_)))
        ((conv => whnf); refine call_trip (fun _ => rfl) 300 [0, 1] (writeT_trip true T (Lib.itoa ((cs.getD i []).getD k 0) ++ [32]) (by simp) (by rw [List.length_append, List.length_singleton]; omega)) (by kernel_rfl) ⟨Le.refl _, Le.refl _, trivial⟩ ⟨⟨rfl, Le.refl _, Le.refl _, trivial⟩, ⟨⟨rfl, rfl, rfl⟩, rfl, rfl, fun k hk => LeL.refl _⟩, trivial⟩ (by exact rowsLt_nil rfl) (by exact rowsLt_nil rfl) (by kernel_rfl) ?_)
        (repeat' ((conv => whnf); first | (refine AltG.none (by kernel_rfl) (EndG.go ?_)) | (refine Ob.intro (OrdG.intro (by kernel_rfl)) ?_) | (refine Ob.auto ?_) | (refine draw3n (fun _ => rfl) (by kernel_rfl) 300 (by rfl) ?_) | (refine Br.intro (fun hb => ?_) (fun hb => ?_) <;> (try simp [-List.getD_eq_getElem?_getD] at hb) <;> (try (exfalso; omega))) | (refine Ob.intro ?_ ?_)))
        ((conv => whnf); refine ⟨k + 1, by omega, ⟨⟨Le.of_eq (congrArg (AV.int _) (by omega)), Le.refl _, Le.refl _, trivial⟩, ⟨⟨rfl, Le.refl _, Le.of_eq (congrArg (AV.own 1 0 0) (congrArg List.length e)), trivial⟩, ⟨⟨rfl, rfl, rfl⟩, rfl, congrArg List.length e, fun k hk => LeL.of_eq (congrFun (congrArg bytF e) k)⟩, trivial⟩⟩, ⟨subtA, subtA⟩, ?_⟩; (first | omega | (dsimp only; omega) | skip))
      · obtain rfl : k = (cs.getD i []).length := by omega
        have e : (txtI cs i ++ lineT ((cs.getD i []).take (cs.getD i []).length)) ++ [48, 10] = txtI cs (i + 1) := by
          unfold txtI
          rw [bodyC_next cs i hil, List.take_length]
          simp
        generalize (txtI cs i ++ lineT ((cs.getD i []).take (cs.getD i []).length)) = T at hlen e ⊢
        (repeat' ((conv => whnf); first | (refine AltG.none (by kernel_rfl) (EndG.go ?_)) | (refine Ob.intro (OrdG.intro (by kernel_rfl)) ?_) | (refine Ob.auto ?_) | (refine Ob.intro (by (exact ⟨by omega, by omega⟩)) ?_) | (refine draw3n (fun _ => rfl) (by kernel_rfl) 300 (by rfl) ?_) | (refine Br.intro (fun hb => ?_) (fun hb => ?_) <;> (try simp [-List.getD_eq_getElem?_getD] at hb) <;> (try (exfalso; omega))) | (refine Ob.intro ?_ ?_)))
        ((conv => whnf); refine call_trip (fun _ => rfl) 300 [0, 1] (writeT_trip true T [48, 10] (by simp) (by simp only [List.length_cons, List.length_nil]; omega)) (by kernel_rfl) ⟨Le.refl _, Le.refl _, trivial⟩ ⟨⟨rfl, Le.refl _, Le.refl _, trivial⟩, ⟨⟨rfl, rfl, rfl⟩, rfl, rfl, fun k hk => LeL.refl _⟩, trivial⟩ (by exact rowsLt_nil rfl) (by exact rowsLt_nil rfl) (by kernel_rfl) ?_)
        (repeat' ((conv => whnf); first | (refine AltG.none (by kernel_rfl) (EndG.go ?_)) | (refine Ob.intro (OrdG.intro (by kernel_rfl)) ?_) | (refine Ob.auto ?_) | (refine draw3n (fun _ => rfl) (by kernel_rfl) 300 (by rfl) ?_) | (refine Br.intro (fun hb => ?_) (fun hb => ?_) <;> (try simp [-List.getD_eq_getElem?_getD] at hb) <;> (try (exfalso; omega))) | (refine Ob.intro ?_ ?_)))
        ((conv => whnf); refine ⟨i + 1, by omega, ⟨⟨Le.of_eq (congrArg (AV.int _) (by omega)), trivial⟩, ⟨⟨rfl, Le.refl _, Le.of_eq (congrArg (AV.own 1 0 0) (congrArg List.length e)), trivial⟩, ⟨⟨rfl, rfl, rfl⟩, rfl, congrArg List.length e, fun k hk => LeL.of_eq (congrFun (congrArg bytF e) k)⟩, trivial⟩⟩, ⟨subtA, subtA⟩, ?_⟩; (first | omega | (dsimp only; omega) | skip))
    · obtain rfl : i = cs.length := by omega
      have e : txtI cs cs.length = showT cs := by
        unfold txtI showT
        rw [List.take_length, hr]
        rfl
      (repeat' ((conv => whnf); first | (refine AltG.none (by kernel_rfl) (EndG.go ?_)) | (refine Ob.intro (OrdG.intro (by kernel_rfl)) ?_) | (refine Ob.auto ?_) | (refine Ob.intro (by (exact ⟨by omega, by omega⟩)) ?_) | (refine draw3n (fun _ => rfl) (by kernel_rfl) 300 (by rfl) ?_) | (refine Br.intro (fun hb => ?_) (fun hb => ?_) <;> (try simp [-List.getD_eq_getElem?_getD] at hb) <;> (try (exfalso; omega))) | (refine Ob.intro ?_ ?_)))
      ((conv => whnf); refine call_trip (fun _ => rfl) 300 [0, 1] (string_trip 0 (.ptr 0 0) (txtI cs cs.length)) (by kernel_rfl) ⟨Le.refl _, trivial⟩ ⟨⟨rfl, Le.refl _, Le.refl _, trivial⟩, ⟨⟨rfl, rfl, rfl⟩, rfl, rfl, fun k hk => LeL.refl _⟩, trivial⟩ (by exact rowsLt_nil rfl) (by exact rowsLt_nil rfl) (by kernel_rfl) ?_)
      (repeat' ((conv => whnf); first | (refine AltG.none (by kernel_rfl) (EndG.go ?_)) | (refine Ob.intro (OrdG.intro (by kernel_rfl)) ?_) | (refine Ob.auto ?_) | (refine draw3n (fun _ => rfl) (by kernel_rfl) 300 (by rfl) ?_) | (refine Br.intro (fun hb => ?_) (fun hb => ?_) <;> (try simp [-List.getD_eq_getElem?_getD] at hb) <;> (try (exfalso; omega))) | (refine Ob.intro ?_ ?_)))
      exact Le.of_eq (congrArg AV.str e)

end Go.Proofs.YtcfllgdfhfcicaaDoor
