/- The data of the program in plain Lean, and how the abstract values tell of them: nodes, channels, variables, edges, processes, models, states, moves, events. -/
import Derived.Test.YtcfllgdfhfcicaaDoorQ2
import Derived.Test.YtcfllgdfhfcicaaDoorQ3
set_option linter.unusedSimpArgs false
set_option linter.unusedVariables false
namespace Go.Sx
open Go Go.RowKit

abbrev iv (n : Int) : AV := .int .i64 n
def ints (l : List Int) : AV := slcL (fun n => [iv n]) 0 1 l
def strs (l : List (List UInt8)) : AV := slcL (fun s => [.str s]) [] 1 l
def bools (l : List Bool) : AV := slcL (fun b => [.bool b]) false 1 l

structure Nd where
  kind : Int
  words : List (List UInt8) := []
  nums : List Int := []
  kids : List Int := []
  at_ : Int
def Nd.cells (n : Nd) : List AV := [iv n.kind, strs n.words, ints n.nums, ints n.kids, iv n.at_]
def Nd.none : Nd := ⟨0, [], [], [], 0⟩
def treeV (l : List Nd) : AV := slcL Nd.cells Nd.none 5 l

structure Ch where
  name : List UInt8
  room : Int
  width : Int
  lossy : Bool
  copying : Bool
def Ch.cells (c : Ch) : List AV := [.str c.name, iv c.room, iv c.width, .bool c.lossy, .bool c.copying]

def Ch.none : Ch := ⟨[], 0, 0, false, false⟩

structure Vr where
  name : List UInt8
  width : Int
  value : Int
def Vr.cells (v : Vr) : List AV := [.str v.name, iv v.width, iv v.value]

def Vr.none : Vr := ⟨[], 0, 0⟩

structure Ed where
  frm : Int
  to : Int
  act : Int
  expr : Int := -1
  var : Int := -1
  chn : Int := -1
  keep : Bool := false
  node : Int
def Ed.cells (e : Ed) : List AV := [iv e.frm, iv e.to, iv e.act, iv e.expr, iv e.var, iv e.chn, .bool e.keep, iv e.node]

def Ed.none : Ed := ⟨0, 0, 0, 0, 0, 0, false, 0⟩

structure Pr where
  name : List UInt8
  copy : Int
  locals : List Int := []
  places : Int
  rest : List Bool
  edges : List Ed
  names : List (List UInt8) := []
  vars : List Int := []
def Pr.cells (p : Pr) : List AV := [.str p.name, iv p.copy, ints p.locals, iv p.places, bools p.rest, slcL Ed.cells Ed.none 8 p.edges, strs p.names, ints p.vars]

def Pr.none : Pr := ⟨[], 0, [], 0, [], [], [], []⟩

structure Md where
  tree : List Nd
  globals : Int := 0
  chans : List Ch := []
  vars : List Vr := []
  procs : List Pr := []
  safe : List Int := []
  dead : Bool := false
def Md.cells (m : Md) : List AV := [treeV m.tree, iv m.globals, slcL Ch.cells Ch.none 5 m.chans, slcL Vr.cells Vr.none 3 m.vars, slcL Pr.cells Pr.none 8 m.procs, ints m.safe, .bool m.dead]
def Md.av (m : Md) : AV := .agg m.cells

structure Stt where
  at_ : List Int
  vars : List Int
  chans : List (List Int)
  holder : Int
def Stt.cells (s : Stt) : List AV := [ints s.at_, ints s.vars, slcL (fun l => [ints l]) [] 1 s.chans, iv s.holder]
def Stt.av (s : Stt) : AV := .agg s.cells

def flt (e at_ : Int) : AV := .agg [iv e, iv at_]

end Go.Sx
