/-
  States of a run of the program's code.
-/
import Derived.Test.YtodphkcmkjnfoaaGreatDoorWu
import Derived.Test.YtodphkcmkjnfoaaGreatDoorEvV
namespace Go.Ev
noncomputable section
set_option maxRecDepth 100000
def vze : Env := (.mk (n8 (n8 .u)) (n8 (n8 (n8 .u))))
def vzh : H := ⟨.nil, 0⟩
def vzl0 : List Ix := [x0]
def vyz : PT AO := n1 .nil
def vy10 : PT AO := n1 vyz
def vy11 : PT AO := n1 vy10
def vy12 : PT AO := n1 vy11
def vy13 : PT AO := n1 vy12
def vy14 : PT AO := n1 vy13
def vze0 : Env := (.mk (.mk (.mk (.b true) .u .u .u .u .u .u .u) (n8 .u) (n8 .u) (n8 .u) (n8 .u) (n8 .u) (n8 .u) (n8 .u)) (n8 (n8 (n8 .u))))
def vzh0 : H := (.mk vy14 26878)
end
end Go.Ev
