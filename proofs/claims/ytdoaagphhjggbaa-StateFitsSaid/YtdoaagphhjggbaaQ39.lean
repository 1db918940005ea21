/- Some texts of the library, one behind the other. -/
import Derived.Test.YtdoaagphhjggbaaQSt7
import Derived.Test.YtdoaagphhjggbaaQ36
import Derived.Test.YtdoaagphhjggbaaQ4
import Derived.Test.YtdoaagphhjggbaaQ22
import Derived.Test.YtdoaagphhjggbaaQ37
import Derived.Test.YtdoaagphhjggbaaQ19
import Derived.Test.YtdoaagphhjggbaaQ2
section
/- Contracts: the program's expressions, and what is safe. -/
namespace Go.Proofs.Ytdoaagphhjggbaa
open Go Go.Sx Go.RowKit Go.St
set_option maxRecDepth 100000
set_option maxHeartbeats 2000000

theorem sok_of_fits {m : Md} {s : Stt} (hm : MOk m) (h : fitsB m s = true) : SOk m s := by
  obtain ⟨h0, hA, hV, hC⟩ := (fitsB_iff m s).1 h
  refine ⟨h0.2.1, h0.2.2.1, fun v hv => ?_, fun c hc => ?_⟩
  · obtain ⟨i, hi, rfl⟩ := List.mem_iff_getElem.1 hv
    have h1 := hV i hi
    have h2 := trim_small (s.vars.getD i 0) (m.vars.getD i Vr.none).width
    unfold fitsV at h1
    rw [h1] at h2
    rw [List.getD_eq_getElem?_getD, List.getElem?_eq_getElem hi] at h2
    simp only [Option.getD_some] at h2
    omega
  · obtain ⟨i, hi, rfl⟩ := List.mem_iff_getElem.1 hc
    have h1 := (hC i hi).1
    have h2 := hm.chan _ (getD_mem m.chans i Ch.none (by omega))
    unfold fitsL at h1
    rw [List.getD_eq_getElem?_getD, List.getElem?_eq_getElem hi] at h1
    simp only [Option.getD_some] at h1
    omega

def sval (m : Md) (p : Int) (s : Stt) (k : Int) : Int × Bool := if 0 ≤ k ∧ k < m.tree.length ∧ fitsB m s = true then val m p s k else (0, false)

theorem svalue_con (m : Md) (hm : MOk m) (p : Int) (s : Stt) (hs : SSz s) (k : Int) : Con Try.prog 12 [m.av, iv p, s.av, iv k] (pairV (sval m p s k)) := by
  have hsz := hm.sz
  by_cases hf : 0 ≤ k ∧ k < m.tree.length ∧ fitsB m s = true
  · have hso := sok_of_fits hm hf.2.2
    refine con_of_exec (T := tab Try.prog) (C := {}) 300 (fun _ => rfl) Try.func12 rfl (by kernel_rfl) (by kernel_rfl) (fun c0 rdb => ?_)
    (repeat' ((conv => whnf); first | refine zO ?_ | refine Ob.auto ?_ | refine zC 300 (fits_con m s hs) ?_ | refine zG 300 (fun hg => fits_con m s hs) ?_ | refine zX (fits_con m s hs) ?_ | refine zY (fun hg => fits_con m s hs) ?_ | refine zC 300 (look_con m p s) ?_ | refine zG 300 (fun hg => look_con m p s) ?_ | refine zX (look_con m p s) ?_ | refine zY (fun hg => look_con m p s) ?_ | refine zC 300 (value_con m hm p s hso m.tree.length k (by omega) (by omega) (by omega)) ?_ | refine zG 300 (fun hg => value_con m hm p s hso m.tree.length k (by omega) (by omega) (by omega)) ?_ | refine zX (value_con m hm p s hso m.tree.length k (by omega) (by omega) (by omega)) ?_ | refine zY (fun hg => value_con m hm p s hso m.tree.length k (by omega) (by omega) (by omega)) ?_ | refine zE 300 (fits_con m s hs) ?_ | refine zF 300 (fun hg => fits_con m s hs) ?_ | refine zE 300 (look_con m p s) ?_ | refine zF 300 (fun hg => look_con m p s) ?_ | refine zE 300 (value_con m hm p s hso m.tree.length k (by omega) (by omega) (by omega)) ?_ | refine zF 300 (fun hg => value_con m hm p s hso m.tree.length k (by omega) (by omega) (by omega)) ?_ | (refine draw_x (fun _ => rfl) (by kernel_rfl) 300 ?_) | (refine Br.intro (fun hb => ?_) (fun hb => ?_) <;> (try simp [-List.getD_eq_getElem?_getD] at hb) <;> (try (exfalso; omega))) | refine Ob.intro ?_ ?_))
    · exfalso; rcases hb with hb | hb
      · omega
      · rw [hf.2.2] at hb; cases hb
    · refine Le.of_eq ?_
      rw [sval, if_pos hf]; rfl
  · refine con_of_exec (T := tab Try.prog) (C := {}) 300 (fun _ => rfl) Try.func12 rfl (by kernel_rfl) (by kernel_rfl) (fun c0 rdb => ?_)
    (repeat' ((conv => whnf); first | refine zO ?_ | refine Ob.auto ?_ | refine zC 300 (fits_con m s hs) ?_ | refine zG 300 (fun hg => fits_con m s hs) ?_ | refine zX (fits_con m s hs) ?_ | refine zY (fun hg => fits_con m s hs) ?_ | refine zE 300 (fits_con m s hs) ?_ | refine zF 300 (fun hg => fits_con m s hs) ?_ | (refine draw_x (fun _ => rfl) (by kernel_rfl) 300 ?_) | (refine Br.intro (fun hb => ?_) (fun hb => ?_) <;> (try simp [-List.getD_eq_getElem?_getD] at hb) <;> (try (exfalso; omega))) | refine Ob.intro ?_ ?_))
    · refine Le.of_eq ?_
      rw [sval, if_neg hf]; rfl
    · exact absurd ⟨hb.1.1, hb.1.2, hb.2⟩ hf

theorem ssafe_con (m : Md) (hm : MOk m) (s : Stt) (hs : SSz s) : Con Try.prog 13 [m.av, s.av] (.bool (m.safe.isEmpty || fitsB m s && safeB m s)) := by
  have hsz := hm.sz
  have hsf := hm.safe
  by_cases hf : fitsB m s = true
  · have hso := sok_of_fits hm hf
    refine con_of_exec (T := tab Try.prog) (C := {}) 300 (fun _ => rfl) Try.func13 rfl (by kernel_rfl) (by kernel_rfl) (fun c0 rdb => ?_)
    (repeat' ((conv => whnf); first | refine zO ?_ | refine Ob.auto ?_ | refine zC 300 (fits_con m s hs) ?_ | refine zG 300 (fun hg => fits_con m s hs) ?_ | refine zX (fits_con m s hs) ?_ | refine zY (fun hg => fits_con m s hs) ?_ | refine zC 300 (look_con m (-1) s) ?_ | refine zG 300 (fun hg => look_con m (-1) s) ?_ | refine zX (look_con m (-1) s) ?_ | refine zY (fun hg => look_con m (-1) s) ?_ | refine zE 300 (fits_con m s hs) ?_ | refine zF 300 (fun hg => fits_con m s hs) ?_ | refine zE 300 (look_con m (-1) s) ?_ | refine zF 300 (fun hg => look_con m (-1) s) ?_ | (refine draw_x (fun _ => rfl) (by kernel_rfl) 300 ?_) | (refine Br.intro (fun hb => ?_) (fun hb => ?_) <;> (try simp [-List.getD_eq_getElem?_getD] at hb) <;> (try (exfalso; omega))) | refine Ob.intro ?_ ?_))
    · refine Le.of_eq (congrArg AV.bool ?_)
      simp [hb]
    · rw [hf] at hb; cases hb
    · rename_i hne
      have hemp : m.safe.isEmpty = false := by simp [hne]
      ((conv => whnf); refine loop_auto (fun _ => rfl) 300 1 (fun i : Nat => [(24, iv i)]) (fun _ => []) (fun i => i ≤ m.safe.length ∧ ∀ j, j < i → safe1 m s (m.safe.getD j 0) = true) (fun i => m.safe.length - i) (0) (⟨by omega, fun j hj => absurd hj (Nat.not_lt_zero j)⟩) subtA subtA (fun _ => rfl) (by kernel_rfl) ?_; (conv => whnf))
      intro i hi
      have hki : i < m.safe.length → _ := fun h => hsf _ (getD_mem m.safe i 0 h)
      (repeat' ((conv => whnf); first | refine zO ?_ | refine Ob.auto ?_ | refine zC 300 (value_con m hm (-1) s hso m.tree.length (m.safe.getD i 0) (hki (by omega)).1 (hki (by omega)).2 (by omega)) ?_ | refine zG 300 (fun hg => value_con m hm (-1) s hso m.tree.length (m.safe.getD i 0) (hki (by omega)).1 (hki (by omega)).2 (by omega)) ?_ | refine zX (value_con m hm (-1) s hso m.tree.length (m.safe.getD i 0) (hki (by omega)).1 (hki (by omega)).2 (by omega)) ?_ | refine zY (fun hg => value_con m hm (-1) s hso m.tree.length (m.safe.getD i 0) (hki (by omega)).1 (hki (by omega)).2 (by omega)) ?_ | refine zE 300 (value_con m hm (-1) s hso m.tree.length (m.safe.getD i 0) (hki (by omega)).1 (hki (by omega)).2 (by omega)) ?_ | refine zF 300 (fun hg => value_con m hm (-1) s hso m.tree.length (m.safe.getD i 0) (hki (by omega)).1 (hki (by omega)).2 (by omega)) ?_ | (refine draw_x (fun _ => rfl) (by kernel_rfl) 300 ?_) | (refine Br.intro (fun hb => ?_) (fun hb => ?_) <;> (try simp [-List.getD_eq_getElem?_getD] at hb) <;> (try (exfalso; omega))) | refine Ob.intro ?_ ?_))
      · refine Le.of_eq (congrArg AV.bool ?_)
        rw [hf, hemp, Bool.false_or, Bool.true_and]
        refine (all_no 0 (j := i) (by omega) ?_).symm
        simp only [safe1, val]
        rcases hb with hb | hb <;> simp [-List.getD_eq_getElem?_getD, hb]
      · ((conv => whnf); refine ⟨i + 1, ⟨by omega, upto_succ hi.2 (by simp only [safe1, val]; simp [-List.getD_eq_getElem?_getD, hb])⟩, ⟨subtA, subtA⟩, ⟨subtA, subtA⟩, ?_⟩; (first | omega | (dsimp only; omega) | skip))
      · refine Le.of_eq (congrArg AV.bool ?_)
        rw [hf, hemp, Bool.false_or, Bool.true_and]
        exact (all_upto 0 (fun j hj => hi.2 j (by omega))).symm
  · refine con_of_exec (T := tab Try.prog) (C := {}) 300 (fun _ => rfl) Try.func13 rfl (by kernel_rfl) (by kernel_rfl) (fun c0 rdb => ?_)
    (repeat' ((conv => whnf); first | refine zO ?_ | refine Ob.auto ?_ | refine zC 300 (fits_con m s hs) ?_ | refine zG 300 (fun hg => fits_con m s hs) ?_ | refine zX (fits_con m s hs) ?_ | refine zY (fun hg => fits_con m s hs) ?_ | refine zE 300 (fits_con m s hs) ?_ | refine zF 300 (fun hg => fits_con m s hs) ?_ | (refine draw_x (fun _ => rfl) (by kernel_rfl) 300 ?_) | (refine Br.intro (fun hb => ?_) (fun hb => ?_) <;> (try simp [-List.getD_eq_getElem?_getD] at hb) <;> (try (exfalso; omega))) | refine Ob.intro ?_ ?_))
    · refine Le.of_eq (congrArg AV.bool ?_)
      simp [hb]
    · rename_i hne
      refine Le.of_eq (congrArg AV.bool ?_)
      simp [hb, hne]
    · exact absurd hb hf

end Go.Proofs.Ytdoaagphhjggbaa
end
section
/- The examples of layer 14. -/
namespace Go.Proofs.Ytdoaagphhjggbaa
open Go Go.Sx Go.RowKit Go.St
set_option maxRecDepth 100000
set_option maxHeartbeats 2000000

theorem mok14 : Go.St.MOk model14 := mod_14.ok

theorem ssz14 : SSz (firstF model14) := ⟨by decide, by decide, by decide, fun c hc => by cases hc⟩

theorem val14 : sval model14 (-1) (firstF model14) 2 = (-56, true) := by decide +kernel
theorem fits14 : fitsB model14 (firstF model14) = true := by decide +kernel
theorem safe14 : (model14.safe.isEmpty || fitsB model14 (firstF model14) && safeB model14 (firstF model14)) = true := by decide +kernel

theorem awake14 : Con Try.prog 8 [] (.bool true) := by
  have h1 := sfirst_con model14 mok14
  have h2 := svalue_con model14 mok14 (-1) (firstF model14) ssz14 2
  have h3 := fits_con model14 (firstF model14) ssz14
  have h4 := ssafe_con model14 mok14 (firstF model14) ssz14
  rw [val14] at h2
  rw [fits14] at h3
  rw [safe14] at h4
  refine con_of_exec (T := tab Try.prog) (C := {}) 300 (fun _ => rfl) Try.func8 rfl (by kernel_rfl) (by kernel_rfl) (fun c0 rdb => ?_)
  (repeat' ((conv => whnf); first | refine zO ?_ | refine Ob.auto ?_ | refine zC 300 (parse14) ?_ | refine zG 300 (fun hg => parse14) ?_ | refine zX (parse14) ?_ | refine zY (fun hg => parse14) ?_ | refine zC 300 (make14) ?_ | refine zG 300 (fun hg => make14) ?_ | refine zX (make14) ?_ | refine zY (fun hg => make14) ?_ | refine zC 300 (h1) ?_ | refine zG 300 (fun hg => h1) ?_ | refine zX (h1) ?_ | refine zY (fun hg => h1) ?_ | refine zC 300 (h2) ?_ | refine zG 300 (fun hg => h2) ?_ | refine zX (h2) ?_ | refine zY (fun hg => h2) ?_ | refine zC 300 (h3) ?_ | refine zG 300 (fun hg => h3) ?_ | refine zX (h3) ?_ | refine zY (fun hg => h3) ?_ | refine zC 300 (h4) ?_ | refine zG 300 (fun hg => h4) ?_ | refine zX (h4) ?_ | refine zY (fun hg => h4) ?_ | refine zE 300 (parse14) ?_ | refine zF 300 (fun hg => parse14) ?_ | refine zE 300 (make14) ?_ | refine zF 300 (fun hg => make14) ?_ | refine zE 300 (h1) ?_ | refine zF 300 (fun hg => h1) ?_ | refine zE 300 (h2) ?_ | refine zF 300 (fun hg => h2) ?_ | refine zE 300 (h3) ?_ | refine zF 300 (fun hg => h3) ?_ | refine zE 300 (h4) ?_ | refine zF 300 (fun hg => h4) ?_ | (refine draw_x (fun _ => rfl) (by kernel_rfl) 300 ?_) | (refine Br.intro (fun hb => ?_) (fun hb => ?_) <;> (try simp [-List.getD_eq_getElem?_getD] at hb) <;> (try (exfalso; omega))) | refine Ob.intro ?_ ?_))
  exact Le.refl _

end Go.Proofs.Ytdoaagphhjggbaa
end
section
/- States in plain Lean, more of them. -/
namespace Go.St
open Go Go.Sx

theorem trim_congr {n n' w : Int} (h : n % 2 ^ wid w = n' % 2 ^ wid w) : trim n w = trim n' w := by
  unfold trim; rw [h]

theorem trim_trim (n w : Int) : trim (trim n w) w = trim n w := by
  refine trim_congr ?_
  have h2 := pow_le (wid w) (wid_pos w).2
  have h3 := Int.emod_nonneg n (b := 2 ^ wid w) (by omega)
  have h4 := Int.emod_lt_of_pos n (b := 2 ^ wid w) (by omega)
  unfold trim
  split
  · rw [Int.sub_emod_right]; exact Int.emod_eq_of_lt h3 h4
  · exact Int.emod_eq_of_lt h3 h4

theorem held_fits {m : Md} (hm : MOk m) (l : List Int) : fitsB m (heldF m l) = true := by
  refine (fitsB_iff m _).2 ⟨⟨by simp [heldF], by simp [heldF], by simp [heldF], by simp [heldF], by simp only [heldF]; omega⟩, fun i hi => ?_, fun i hi => ?_, fun i hi => ?_⟩
  · have hi' : i < m.procs.length := by simpa [heldF] using hi
    have hp := hm.place _ (getD_mem m.procs i Pr.none hi')
    unfold fitsA
    rw [heldF, getD_range _ _ _ _ hi']
    exact partN_bound _ _ _ (by omega)
  · have hi' : i < m.vars.length := by simpa [heldF] using hi
    unfold fitsV
    rw [heldF, getD_range _ _ _ _ hi']
    exact trim_trim _ _
  · have hi' : i < m.chans.length := by simpa [heldF] using hi
    have hc := hm.chan _ (getD_mem m.chans i Ch.none hi')
    have hb := partN_bound l (kAt m l i) ((m.chans.getD i Ch.none).room + 1) (by omega)
    have hg : (heldF m l).chans.getD i [] = (List.range (nAt m l i)).map fun q => msgAt m l i q := by rw [heldF, getD_range _ _ _ _ hi']
    have hlen : ((heldF m l).chans.getD i []).length = nAt m l i := by rw [hg]; simp
    refine ⟨?_, fun k hk => ?_⟩
    · unfold fitsL
      rw [hlen]; unfold nAt; omega
    · rw [hlen] at hk
      unfold fitsC
      rw [hg, getD_range _ _ _ _ hk]
      exact trim_trim _ _

theorem held_ssz {m : Md} (hm : MOk m) (l : List Int) : SSz (heldF m l) := by
  have h := hm.sz
  refine ⟨by simp [heldF]; omega, by simp [heldF]; omega, by simp [heldF]; omega, fun c hc => ?_⟩
  obtain ⟨i, hi, rfl⟩ := List.mem_iff_getElem.1 hc
  have hi' : i < m.chans.length := by simpa [heldF] using hi
  have hc := hm.chan _ (getD_mem m.chans i Ch.none hi')
  have hb := partN_bound l (kAt m l i) ((m.chans.getD i Ch.none).room + 1) (by omega)
  simp only [heldF, List.getElem_map, List.getElem_range, List.length_map, List.length_range]
  unfold nAt; omega

end Go.St
end
section
/- The law StateValues: what any expression comes to. -/
namespace Go.Proofs.Ytdoaagphhjggbaa
open Go Go.Sx Go.RowKit Go.St
set_option maxRecDepth 100000
set_option maxHeartbeats 8000000

theorem made_tree {l : List Nd} (h : (madeF l).2 = true) : (madeF l).1.tree = l := by
  obtain ⟨_, h1, ht, hc⟩ := made_ok h
  rw [h1]
  exact (model0_inv ht (check_ok hc).2).tree.1

end Go.Proofs.Ytdoaagphhjggbaa
end
section
/- The first values of a model's variables fit; so does its first state. Plain Lean. -/
namespace Go.St
open Go Go.Sx

def VFit (vs : List Vr) : Prop := ∀ v ∈ vs, trim v.value v.width = v.value

theorem VFit.snoc {vs : List Vr} {v : Vr} (h : VFit vs) (hv : trim v.value v.width = v.value) : VFit (vs ++ [v]) := fun u hu => by
  rcases List.mem_append.1 hu with hu | hu
  · exact h u hu
  · rw [List.mem_singleton] at hu
    rw [hu]; exact hv

theorem foldl_keep {α β : Type} {f : β → α → β} {P : β → Prop} : ∀ (l : List α) (b : β), (∀ a ∈ l, ∀ b, P b → P (f b a)) → P b → P (l.foldl f b)
  | [], _, _, h => h
  | a :: r, b, hf, h => foldl_keep r (f b a) (fun a' ha' => hf a' (List.mem_cons_of_mem _ ha')) (hf a (List.mem_cons_self ..) b h)

section
variable {l : List Nd} (ht : Tree l) (hw : ∀ i, i < l.length → wrongF l i = 0)
include hw

theorem node_fit {k : Int} (h0 : 0 ≤ k) (h1 : k < l.length) (h2 : (l.getD k.toNat Nd.none).kind = 2) : trim ((l.getD k.toNat Nd.none).nums.getD 1 0) ((l.getD k.toNat Nd.none).nums.getD 0 0) = (l.getD k.toNat Nd.none).nums.getD 1 0 := by
  have := hw k.toNat (by omega)
  unfold wrongF at this
  rw [if_neg (by omega), if_pos h2] at this
  split at this
  · omega
  · rename_i hn
    exact Classical.byContradiction fun hc => hn (.inr (.inl hc))

include ht

theorem item_fit (k : Int) (hk : k ∈ (l.getD 0 Nd.none).kids) (m : Md) (h : VFit m.vars) : VFit (addItem l m k).vars := by
  have hb := ht.kids 0 (by have := ht.len; omega) k hk
  unfold addItem
  simp only
  split
  · exact h
  split
  · exact h.snoc (node_fit hw (by omega) hb.2 (by assumption))
  split
  · exact h
  split <;> exact h

theorem local_fit {n : Nat} (hn : n < l.length) (k : Int) (hk : k ∈ (l.getD n Nd.none).kids.take (varsN l (l.getD n Nd.none))) (x : Pr × List Vr) (h : VFit x.2) : VFit (addLocal l x k).2 := by
  have hb := ht.kids n hn k (List.mem_of_mem_take hk)
  obtain ⟨i, hi, rfl⟩ := List.mem_iff_getElem.1 hk
  have hi' : i < varsN l (l.getD n Nd.none) := by rw [List.length_take] at hi; omega
  have h2 := (varsN_low l (l.getD n Nd.none)).2 i hi'
  unfold addLocal
  simp only
  refine h.snoc (node_fit hw (by omega) hb.2 ?_)
  unfold kidK at h2
  rw [List.getElem_take]
  rw [List.getElem_take] at hb
  rw [List.getD_eq_getElem?_getD (l := (l.getD n Nd.none).kids), List.getElem?_eq_getElem (by rw [List.length_take] at hi; omega)] at h2
  exact h2

theorem copy_fit (cs : List Ch) {k : Int} (h0 : 0 ≤ k) (h1 : k < l.length) (seen : Nat) (c : Nat) (x : List Vr × List Pr) (h : VFit x.1) : VFit (addCopy l cs k seen x c).1 := by
  unfold addCopy
  simp only
  exact foldl_keep (P := fun y : Pr × List Vr => VFit y.2) _ _ (fun a ha b hb => local_fit ht hw (n := k.toNat) (by omega) a ha b hb) h

theorem procs_fit (cs : List Ch) (k : Int) (hk : k ∈ (l.getD 0 Nd.none).kids) (x : Nat × List Vr × List Pr) (h : VFit x.2.1) : VFit (addProcs l cs x k).2.1 := by
  have hb := ht.kids 0 (by have := ht.len; omega) k hk
  unfold addProcs
  simp only
  split
  · exact foldl_keep (P := fun y : List Vr × List Pr => VFit y.1) _ _ (fun c _ b hb' => copy_fit ht hw cs (by omega) hb.2 _ c b hb') h
  · exact h

theorem makeF_fit : VFit (makeF l).vars := by
  have h1 : VFit (model0 l).vars := foldl_keep (P := fun m : Md => VFit m.vars) _ _ (fun k hk m hm => item_fit ht hw k hk m hm) (fun v hv => by cases hv)
  unfold makeF
  simp only
  exact foldl_keep (P := fun x : Nat × List Vr × List Pr => VFit x.2.1) _ _ (fun k hk x hx => procs_fit ht hw _ k hk x hx) h1
end

theorem first_fits {m : Md} (hm : MOk m) (hv : VFit m.vars) : fitsB m (firstF m) = true := by
  refine (fitsB_iff m _).2 ⟨⟨by simp [firstF], by simp [firstF], by simp [firstF], by simp [firstF], by simp only [firstF]; omega⟩, fun i hi => ?_, fun i hi => ?_, fun i hi => ?_⟩
  · have hi' : i < m.procs.length := by simpa [firstF] using hi
    have hp := hm.place _ (getD_mem m.procs i Pr.none hi')
    unfold fitsA
    rw [firstF, getD_rep _ _ _ _ hi']
    omega
  · have hi' : i < m.vars.length := by simpa [firstF] using hi
    unfold fitsV
    rw [firstF, getD_map _ _ _ _ Vr.none hi']
    exact hv _ (getD_mem m.vars i Vr.none hi')
  · have hi' : i < m.chans.length := by simpa [firstF] using hi
    have hc := hm.chan _ (getD_mem m.chans i Ch.none hi')
    have hg : (firstF m).chans.getD i [] = [] := by rw [firstF, getD_rep _ _ _ _ hi']
    refine ⟨?_, fun k hk => ?_⟩
    · unfold fitsL
      rw [hg]; exact hc.1
    · rw [hg] at hk; simp at hk

theorem first_ssz {m : Md} (hm : MOk m) : SSz (firstF m) := by
  have h := hm.sz
  refine ⟨by simp [firstF]; omega, by simp [firstF]; omega, by simp [firstF]; omega, fun c hc => ?_⟩
  have : c = [] := by simp only [firstF] at hc; exact (List.mem_replicate.1 hc).2
  rw [this]; simp

end Go.St
end
