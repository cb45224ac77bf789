/-
  States of a run of the program's code.
-/
import Derived.Test.YtceplogmemkblaaGreatWu
import Derived.Test.YtceplogmemkblaaGreatEvV
namespace Go.Ev
noncomputable section
set_option maxRecDepth 100000
def vze : Env := (.mk (n8 (n8 .u)) (n8 (n8 (n8 .u))))
def vzh : H := ⟨.nil, 0⟩
def vzl0 : List Ix := [x0]
def vy13 : PT AO := n1 .nil
def vy14 : PT AO := n1 vy13
def vy15 : PT AO := n1 vy14
def vy16 : PT AO := n1 vy15
def vy17 : PT AO := n1 vy16
def vy18 : PT AO := n1 vy17
def vze0 : Env := (.mk (.mk (.mk (.b true) .u .u .u .u .u .u .u) (n8 .u) (n8 .u) (n8 .u) (n8 .u) (n8 .u) (n8 .u) (n8 .u)) (n8 (n8 (n8 .u))))
def vzh0 : H := (.mk vy18 26850)
end
end Go.Ev
