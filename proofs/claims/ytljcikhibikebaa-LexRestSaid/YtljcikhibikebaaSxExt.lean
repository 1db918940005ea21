/- Contracts of the model's own byte functions. Nothing of a program. -/
import Derived.Test.YtljcikhibikebaaSxDraw
import Derived.Lib.Bytealg
import Derived.Laws.Externs
namespace Go.Sx
open Go Go.RowKit

theorem inR_i64 {n : Int} (h1 : -9223372036854775808 ≤ n) (h2 : n ≤ 9223372036854775807) : inR .i64 n := by
  simp [inR, IntKind.min, IntKind.max, IntKind.signed, IntKind.bits]; omega
theorem inR_u8 {n : Int} (h1 : 0 ≤ n) (h2 : n ≤ 255) : inR .u8 n := by
  simp [inR, IntKind.min, IntKind.max, IntKind.signed, IntKind.bits]; omega

/-- A list, each of its things as cells. -/
def encL {α : Type} (enc : α → List AV) (d : α) (l : List α) : Nat → List AV := fun i => enc (l.getD i d)
def slcL {α : Type} (enc : α → List AV) (d : α) (sz : Nat) (l : List α) : AV := .slc sz l.length (encL enc d l)

theorem appF_append {α : Type} (enc : α → List AV) (d : α) (l m : List α) : appF l.length (encL enc d l) m.length (encL enc d m) = encL enc d (l ++ m) := by
  funext i
  simp only [appF, encL, List.getD_eq_getElem?_getD]
  by_cases h : i < l.length
  · rw [if_pos h, List.getElem?_append_left h]
  · rw [if_neg h]
    by_cases h2 : i < l.length + m.length
    · rw [if_pos h2, List.getElem?_append_right (by omega)]
    · rw [if_neg h2, List.getElem?_eq_none (by omega), List.getElem?_eq_none (by simp; omega)]

theorem appF_snoc {α : Type} (enc : α → List AV) (d : α) (l : List α) (x : α) (g : Nat → List AV) (h : g 0 = enc x) : appF l.length (encL enc d l) 1 g = encL enc d (l ++ [x]) := by
  rw [← appF_append]
  funext i
  simp only [appF, List.length_cons, List.length_nil]
  by_cases h1 : i < l.length
  · simp [h1]
  · by_cases h2 : i < l.length + (0 + 1)
    · obtain rfl : i = l.length := by omega
      simp [h, encL]
    · have h2' : ¬ i < l.length + 1 := by omega
      simp [h1, h2']

theorem rell_two {rd : Rd} {mp : Mp} {x y : AV} {vs : Array Value} (h : RelL rd mp [x, y] vs) : ∃ u v, vs = #[u, v] ∧ Rel rd mp x u ∧ Rel rd mp y v := by
  obtain ⟨l⟩ := vs
  obtain ⟨h1, h2⟩ := h
  match l, h1 with
  | [u, v], _ => exact ⟨u, v, rfl, h2 0 x u rfl rfl, h2 1 y v rfl rfl⟩

theorem con_indexByte {P : Program} {f : FuncId} {fn : Func} (hf : P.funcs[f]? = some fn) (hname : (fn.name == "runtime.NumGoroutine") = false) (hb : fn.body.isNone = true) (hn : Extern.findNext fn = none)
    (he : Extern.find fn = some Extern.BytealgIndexByte.indexByte) (l : List UInt8) (c : Int) : Con P f [.str l, .int .u8 c] (.int .i64 (Lib.indexByte l c.toNat.toUInt8)) := by
  intro rd w vs hm hargs
  obtain ⟨u, v, rfl, hu, hv⟩ := rell_two hargs
  cases rel_str hu
  cases rel_int hv
  refine .inr ⟨_, w, by rw [run_callFunc_extern hf hname hb hn he, Lib.run_indexByteString]; rfl, rd, .int _ _ _, Rd.le.refl _, hm, fun g o v h => .inl h, Below.refl _ _⟩

end Go.Sx
