/-
  States of a run of the program's code.
-/
import Derived.Test.YtceplogmemkblaaGreatWt
import Derived.Test.YtceplogmemkblaaGreatEvV
namespace Go.Ev
noncomputable section
set_option maxRecDepth 100000
def wze : Env := (.mk (n8 (n8 .u)) (n8 (n8 (n8 .u))))
def wzh : H := ⟨.nil, 0⟩
def wzl0 : List Ix := [x0]
def wy0 : PT AV := q8 8570 22 204 584 80 111 105 110
def wy1 : PT AV := q8 116 8 168 585 8642 8370 6 204
def wy2 : PT AV := q8 586 120 8 168 587 8668 8658 6
def wy3 : PT AV := q8 204 588 121 8 168 589 8686 8676
def wy4 : PT AV := .nd zy5xb zy5xc zy5xd zy5xe wy0 wy1 wy2 wy3
def wy5 : PT AV := q8 8 168 590 8668 8686 24 24 591
def wy6 : PT AV := q8 8642 6 5 8704 0 1 8 168
def wy7 : PT AV := .nd (vp 592) (vp 8714) (vp 1096) .nil .nil .nil .nil .nil
def wy8 : PT AV := .nd wy5 wy6 wy7 .nil .nil .nil .nil .nil
def wy9 : PT AV := .nd zy5g2 zy5gb zy5um wy4 wy8 .nil .nil .nil
def wya : PT AV := n1 wy9
def wyb : PT AV := .nd zy5xa wya .nil .nil .nil .nil .nil .nil
def wyc : PT AV := n1 wyb
def wyd : PT AV := .nd .nil (.lf (.tu (.cons (.b true) (.cons (.p 583) .nil)))) .nil .nil .nil .nil .nil .nil
def wye : PT AV := .nd .nil (.lf (.tu (.cons (.b true) (.cons (.p 584) .nil)))) .nil .nil .nil .nil (.lf (.tu (.cons (.b true) (.cons (.p 585) .nil)))) .nil
def wyf : PT AV := .nd .nil .nil (.lf (.tu (.cons (.b true) (.cons (.p 586) .nil)))) .nil .nil .nil .nil (.lf (.tu (.cons (.b true) (.cons (.p 587) .nil))))
def wyg : PT AV := .nd .nil .nil .nil (.lf (.tu (.cons (.b true) (.cons (.p 588) .nil)))) .nil .nil .nil .nil
def wyh : PT AV := .nd zy5xl zy5xm zy5xn zy5xo wyd wye wyf wyg
def wyi : PT AV := .nd (.lf (.tu (.cons (.b true) (.cons (.p 589) .nil)))) .nil .nil .nil .nil (.lf (.tu (.cons (.b true) (.cons (.p 590) .nil)))) .nil .nil
def wyj : PT AV := .nd .nil .nil .nil .nil .nil .nil (.lf (.tu (.cons (.b true) (.cons (.p 591) .nil)))) .nil
def wyk : PT AV := .nd wyi wyj .nil .nil .nil .nil .nil .nil
def wyl : PT AV := .nd zy5hg zy5hn zy5ux wyh wyk .nil .nil .nil
def wym : PT AV := n1 wyl
def wyn : PT AV := .nd zy5h7 wym .nil .nil .nil .nil .nil .nil
def wyo : PT AV := n1 wyn
def wyp : PT AV := q8 8694 8732 6 24 42 60 78 96
def wyq : PT AV := .nd wyp zy1g zy1h .nil .nil .nil .nil .nil
def wyr : PT AV := n1 wyq
def wys : PT AV := n1 wyr
def wyt : PT AV := n1 wys
def wyu : PT AV := n1 wyt
def wyv : AV := (me 6 127970252055119 294 0 (me 5 495857003587 338 1 (me 15 604322429109476151299865450658426453 380 2 (me 7 31069335677005634 442 3 (me 4 1702195796 488 4 (me 5 435728179526 528 5 (me 7 32199642103180873 570 6 (me 12 35403880902673026285253520723 616 7 (me 12 35403880902673026255105974604 672 8 (me 5 521325933121 728 9 (me 6 113723913172051 770 10 (me 6 119225648511315 814 11 (me 5 461229747266 858 12 (me 7 32783474438860611 900 13 (me 6 110429656606029 946 14 (me 7 28542640894207309 990 15 (me 8 8245937412990854515 1020 16 (me 9 2129765323153231802977 1052 17 (me 1 61 1106 18 (me 2 15677 1124 19 (me 5 495857003619 1282 20 (me 5 465623217001 1370 21 (me 6 119199543619438 1472 22 (me 2 15742 1588 23 (me 8 7380385435869343609 1698 24 (me 10 276041794257773489516137 1792 25 (me 14 1185606569285334236219073528819305 1890 26 (me 7 16437069343843682 1996 27 (me 8 4210147049446991216 2088 28 (me 13 4627560600291680157690823337328 2182 29 (me 4 2003789939 2286 30 (me 6 64263170454117 2372 31 (me 18 5086687541828425927054456548345411799445348 2462 32 (me 13 8745240536100714508228995806573 2576 33 (me 3 7824750 2680 34 (me 4 980903278 2764 35 (me 4 1701667182 2850 36 (me 10 545200541193747941062003 2936 37 (me 7 16437103752930921 3034 38 (me 5 435761734006 3064 39 (me 8 4207896336173262441 3160 40 (me 15 303210885945657281578478040526382697 3254 41 (me 15 303211046243327501073329368905180777 3370 42 (me 4 979660385 3486 43 (me 3 3830383 3580 44 (me 3 7630702 3664 45 (me 1 43 4214 46 (me 6 125779768604014 4232 47 (me 1 45 4338 48 (me 1 42 4434 49 (me 2 12079 4530 50 (me 1 37 4628 51 (me 1 60 4724 52 (me 1 62 4882 53 (me 2 15676 4976 54 (me 2 15678 5080 55 (me 7 28259048195843438 5184 56 (me 3 7561825 5292 57 (me 4 980967789 5448 58 (me 12 18090825905482270931025750388 5596 59 (me 6 64250097332084 5816 60 (me 6 64207436145014 5844 61 (me 3 3830881 6056 62 (me 5 517097156201 6078 63 (me 7 16453596392092769 6182 64 (me 4 1702521203 6290 65 (me 3 3829604 6376 66 (me 1 44 6766 67 (me 6 113723913172083 6784 68 (me 12 18072786593568812118171214198 7184 69 (me 10 275768840077328456968311 7302 70 (me 7 16437090920394341 7456 71 (me 12 18071502110456085179971888745 7610 72 (me 6 125779802219891 7756 73 (me 8 8243124888016217458 7846 74 (me 2 25456 8002 75 (me 7 16453373057131892 8084 76 (me 11 70667658405621900300346740 8192 77 (me 7 16446986525107570 8308 78 (me 13 4629415149115117439977853444451 8338 79 (me 5 500068609872 8642 80 (me 1 120 8668 81 (me 1 121 8686 82 .nil)))))))))))))))))))))))))))))))))))))))))))))))))))))))))))))))))))))))))))))))))))
def wyw : AV := (me 6 127970252055119 6 0 (me 5 495857003587 24 1 (me 15 604322429109476151299865450658426453 42 2 (me 7 31069335677005634 60 3 (me 4 1702195796 78 4 (me 5 435728179526 96 5 (me 7 32199642103180873 114 6 (me 12 35403880902673026285253520723 132 7 (me 12 35403880902673026255105974604 150 8 (me 5 521325933121 168 9 (me 6 113723913172051 186 10 (me 6 119225648511315 204 11 (me 5 461229747266 222 12 (me 7 32783474438860611 240 13 (me 6 110429656606029 258 14 (me 7 28542640894207309 276 15 (me 5 500068609872 8714 16 .nil)))))))))))))))))
def wyx : PT AO := .nd (.lf (.row 30000 wyc (.p 0))) (.lf (.im wyo 592 0)) (.lf (.row 4 (.s1 (.lf (.sl 0 0 30000 30000 0)) (vp 4371) (vp 592) (.lf (.mp 1)) .nil .nil .nil .nil) .u)) (.lf (.row 18 wyu (.p 0))) (.lf (.sm wyv 83)) (.lf (.sm wyw 17)) (.lf (.row 4 zy1 .u)) .nil
def wy1c : PT AO := n1 wyx
def wy1d : PT AO := n1 wy1c
def wy1e : PT AO := n1 wy1d
def wy1f : PT AO := n1 wy1e
def wy1g : PT AO := n1 wy1f
def wze0 : Env := (.mk (.mk (.mk (.pt 6 0) .u .u .u .u .u .u .u) (n8 .u) (n8 .u) (n8 .u) (n8 .u) (n8 .u) (n8 .u) (n8 .u)) (n8 (n8 (n8 .u))))
def wzh0 : H := (.mk wy1g 26813)
end
end Go.Ev
