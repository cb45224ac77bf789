/-
  The table with the document's examples known; the law's states.
-/
import Derived.Test.YtodphkcmkjnfoaaGreatDoorWu
namespace Go.Ev
noncomputable section
/-- The examples hold, wherever they are asked for. -/
def hkLives (l : AV) (h : H) (k : AV → H → Res) : Res := consK l (fun _ _ => .fail 125) (k (.b true) h) (.fail 125)
def T2 : Tb := tset T1b 13 (.hk hkLives)
/-- The law's state: its number, the world. -/
def eI (x : AV) : Env := .mk (.mk (.mk x .u .u .u .u .u .u .u) (n8 .u) (n8 .u) (n8 .u) (n8 .u) (n8 .u) (n8 .u) (n8 .u)) (n8 (n8 (n8 .u)))
def eA (x : AV) : Env := .mk (.mk (.mk x .u .u wv .u .u .u .u) (n8 .u) (n8 .u) (n8 .u) (n8 .u) (n8 .u) (n8 .u) (n8 .u)) (n8 (n8 (n8 .u)))
def eA1 : Env := eA (.p 1)
def eA2 : Env := eA (.p 2)
def eA3 : Env := eA (.p 3)
def eA4 : Env := eA (.p 4)
def eA5 : Env := eA (.p 5)
def eA6 : Env := eA (.p 6)
def eA7 : Env := eA (.p 7)
def eA8 : Env := eA (.p 8)
def eA9 : Env := eA (.p 9)
def eA10 : Env := eA (.p 10)
end
end Go.Ev
