/- More contracts of the model's own byte functions. Nothing of a program. -/
import Derived.Test.YtljcikhibikebaaSxExt
namespace Go.Sx
open Go Go.RowKit

theorem con_countByte {P : Program} {f : FuncId} {fn : Func} (hf : P.funcs[f]? = some fn) (hname : (fn.name == "runtime.NumGoroutine") = false) (hb : fn.body.isNone = true) (hn : Extern.findNext fn = none)
    (he : Extern.find fn = some Extern.BytealgCount.count) (l : List UInt8) (c : Int) : Con P f [.str l, .int .u8 c] (.int .i64 (Lib.countByte l c.toNat.toUInt8)) := by
  intro rd w vs hm hargs
  obtain ⟨u, v, rfl, hu, hv⟩ := rell_two hargs
  cases rel_str hu
  cases rel_int hv
  refine .inr ⟨_, w, by rw [run_callFunc_extern hf hname hb hn he, Lib.run_countString]; rfl, rd, .int _ _ _, Rd.le.refl _, hm, fun g o v h => .inl h, Below.refl _ _⟩

end Go.Sx
