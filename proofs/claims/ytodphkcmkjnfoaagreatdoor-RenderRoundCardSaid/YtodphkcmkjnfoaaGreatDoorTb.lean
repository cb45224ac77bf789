/-
  The program's functions, as the evaluator runs them.
-/
import Derived.Test.YtodphkcmkjnfoaaGreatDoorXs
namespace Go.Ev
noncomputable section
set_option maxRecDepth 100000
def b193 : ACode := (.seq (.ops (.cons .no (.ye x2) (.W (.bx (.t x0)))
 (.cons .no (.ye x3) (.W (.bx (.t x1)))
 (.p x4 (.mv (.c (.b false)))
 .nil))))
 (.seq (.ops (.p x5 (.mv (.f 215))
 (.p x6 (.mv (.f 216))
 .nil)))
 (.seq (.ops (.p x12 (.mf 217 [] [(.t x2), (.t x3)])
 (.m x7 x12
 .nil)))
 (.seq (.ops (.p x13 (.mf 219 [] [(.t x2)])
 (.m x8 x13
 .nil)))
 (.seq (.ops (.p x9 (.mv (.c (.p 2)))
 .nil))
 (.seq (.seq (.ops (.p x14 (.fa (.t x3) 1)
 (.l x15 (.t x14)
 .nil)))
 (.blk 0 (.seq (.ops (.p x17 (.bin .eql (.t x15) (.c (.s 7 16437103752930921)))
 (.m x16 x17
 .nil)))
 (.cond (.t x16) (.ops (.m x18 x7
 (.cons .no (.ye x19) (.V (.t x18) [(.c (.p 1))])
 (.m x20 x8
 (.cons .no (.ye x21) (.V (.t x20) [(.c (.p 2))])
 (.m x5 x19
 (.m x6 x21
 .nil)))))))
 (.seq (.ops (.p x23 (.bin .eql (.t x15) (.c (.s 8 4207896336173262441)))
 (.m x22 x23
 .nil)))
 (.cond (.t x22) (.ops (.m x24 x8
 (.cons .no (.ye x25) (.V (.t x24) [(.c (.p 2))])
 (.m x26 x7
 (.cons .no (.ye x27) (.V (.t x26) [(.c (.p 1))])
 (.m x5 x25
 (.m x6 x27
 .nil)))))))
 (.seq (.ops (.p x29 (.bin .eql (.t x15) (.c (.s 4 979660385)))
 (.m x28 x29
 .nil)))
 (.cond (.t x28) (.ops (.m x30 x7
 (.cons .no (.ye x31) (.V (.t x30) [(.c (.p 1))])
 (.m x32 x8
 (.cons .no (.ye x33) (.V (.t x32) [(.c (.p 4))])
 (.m x5 x31
 (.m x6 x33
 .nil)))))))
 (.seq (.ops (.p x35 (.bin .eql (.t x15) (.c (.s 3 3830383)))
 (.m x34 x35
 .nil)))
 (.cond (.t x34) (.ops (.m x36 x8
 (.cons .no (.ye x37) (.V (.t x36) [(.c (.p 3))])
 (.m x38 x7
 (.cons .no (.ye x39) (.V (.t x38) [(.c (.p 1))])
 (.m x5 x37
 (.m x6 x39
 .nil)))))))
 (.seq (.ops (.p x41 (.bin .eql (.t x15) (.c (.s 15 303210885945657281578478040526382697)))
 (.m x40 x41
 .nil)))
 (.cond (.t x40) (.ops (.m x42 x7
 (.cons .no (.ye x43) (.V (.t x42) [(.c (.p 1))])
 (.m x44 x7
 (.cons .no (.ye x45) (.V (.t x44) [(.c (.p 2))])
 (.m x5 x43
 (.m x6 x45
 (.p x9 (.mv (.c (.p 3)))
 .nil))))))))
 (.seq (.ops (.p x47 (.bin .eql (.t x15) (.c (.s 15 303211046243327501073329368905180777)))
 (.m x46 x47
 .nil)))
 (.cond (.t x46) (.ops (.m x48 x7
 (.cons .no (.ye x49) (.V (.t x48) [(.c (.p 2))])
 (.m x50 x7
 (.cons .no (.ye x51) (.V (.t x50) [(.c (.p 1))])
 (.m x5 x49
 (.m x6 x51
 (.p x9 (.mv (.c (.p 3)))
 .nil))))))))
 (.seq (.ops (.p x4 (.mv (.c (.b false)))
 .nil))
 .ret)))))))))))))))
 (.seq (.seq (.ops (.p x52 (.fa (.t x3) 5)
 (.l x53 (.t x52)
 (.p x54 (.lnX (.t x53))
 (.m x55 x9
 (.p x56 (.bin .neq (.t x54) (.t x55))
 (.m x57 x56
 (.cons (.ye x57 false) (.ye x58) (.P (.fa (.t x3) 5))
 (.cons (.ye x57 false) (.ye x59) (.L (.l (.one (.t x58))))
 (.cons (.ye x57 false) (.ye x60) (.P (.slx (.t x59) (some (.c (.p 1))) none none 6))
 (.cons (.ye x57 false) (.ye x61) (.S 221 [(.t x60), (.f 222)])
 (.p x62 (.pick (.t x57) (.c (.b true)) (.t x61))
 .nil))))))))))))
 (.cond (.t x62) (.seq (.ops (.p x4 (.mv (.c (.b false)))
 .nil))
 .ret)
 .skip))
 (.seq (.draw (.h .no (.ye x63) (.L (.l (.one (.t x2))))
 (.h .no (.ye x64) (.P (.fa (.t x3) 5))
 (.h .no (.ye x65) (.L (.l (.one (.t x64))))
 (.h .no (.ye x66) (.P (.ia (.t x65) (.c (.p 0)) 6))
 (.h .no (.ye x67) (.L (.l (.many (.t x66) 6)))
 (.c .no (.ye x68) (.S 130 [(.t x63), (.t x67)]) .nil
 .nil)))))))
 (.seq (.ops (.l x69 (.t x2)
 (.s x70 164 [(.t x69), (.c (.p 17))]
 (.m x10 x70
 .nil))))
 (.seq (.ops (.m x71 x5
 (.cons .no (.ye x72) (.V (.t x71) [])
 .nil)))
 (.seq (.ops (.l x73 (.t x2)
 (.s x74 164 [(.t x73), (.c (.p 16))]
 (.m x11 x74
 .nil))))
 (.seq (.ops (.m x75 x10
 (.cons .no (.ye x76) (.V (.t x75) [])
 .nil)))
 (.seq (.ops (.m x77 x6
 (.cons .no (.ye x78) (.V (.t x77) [])
 .nil)))
 (.seq (.ops (.m x79 x11
 (.cons .no (.ye x80) (.V (.t x79) [])
 .nil)))
 (.seq (.ops (.p x4 (.mv (.c (.b true)))
 .nil))
 .ret)))))))))))))))
def a193 : AF := .fn (ps16.take 81) b193 (.one x4)
def b194 : ACode := (.seq (.ops (.cons .no (.ye x3) (.W (.bx (.t x1)))
 (.p x4 (.mv (.c (.b false)))
 .nil)))
 (.seq (.ops (.p x10 (.fa (.t x3) 1)
 (.l x11 (.t x10)
 (.p x12 (.bin .eql (.t x11) (.c (.s 10 275768840077328456968311)))
 (.m x5 x12
 .nil)))))
 (.seq (.seq (.ops (.m x13 x5
 (.p x14 (.nt (.t x13))
 (.m x15 x14
 (.cons (.ye x15 true) (.ye x16) (.P (.fa (.t x3) 1))
 (.cons (.ye x15 true) (.ye x17) (.L (.l (.one (.t x16))))
 (.cons (.ye x15 true) (.ye x18) (.P (.bin .neq (.t x17) (.c (.s 11 70596785737587433159616631))))
 (.p x19 (.pick (.t x15) (.t x18) (.c (.b false)))
 (.m x20 x19
 (.cons (.ye x20 false) (.ye x21) (.P (.fa (.t x3) 5))
 (.cons (.ye x20 false) (.ye x22) (.L (.l (.one (.t x21))))
 (.cons (.ye x20 false) (.ye x23) (.P (.lnX (.t x22)))
 (.cons (.ye x20 false) (.ye x24) (.P (.bin .neq (.t x23) (.c (.p 2))))
 (.p x25 (.pick (.t x20) (.c (.b true)) (.t x24))
 (.m x26 x25
 (.cons (.ye x26 false) (.ye x27) (.P (.fa (.t x3) 5))
 (.cons (.ye x26 false) (.ye x28) (.L (.l (.one (.t x27))))
 (.cons (.ye x26 false) (.ye x29) (.P (.ia (.t x28) (.c (.p 0)) 6))
 (.cons (.ye x26 false) (.ye x30) (.L (.l (.many (.t x29) 6)))
 (.cons (.ye x26 false) (.ye x31) (.S 223 [(.t x30)])
 (.cons (.ye x26 false) (.ye x32) (.P (.nt (.t x31)))
 (.p x33 (.pick (.t x26) (.c (.b true)) (.t x32))
 (.m x34 x33
 (.cons (.ye x34 false) (.ye x35) (.P (.fa (.t x3) 5))
 (.cons (.ye x34 false) (.ye x36) (.L (.l (.one (.t x35))))
 (.cons (.ye x34 false) (.ye x37) (.P (.ia (.t x36) (.c (.p 1)) 6))
 (.cons (.ye x34 false) (.ye x38) (.L (.l (.many (.t x37) 6)))
 (.cons (.ye x34 false) (.ye x39) (.S 223 [(.t x38)])
 (.cons (.ye x34 false) (.ye x40) (.P (.nt (.t x39)))
 (.p x41 (.pick (.t x34) (.c (.b true)) (.t x40))
 .nil))))))))))))))))))))))))))))))
 (.cond (.t x41) (.seq (.ops (.p x4 (.mv (.c (.b false)))
 .nil))
 .ret)
 .skip))
 (.seq (.ops (.m x42 x0
 (.s x43 197 [(.t x42)]
 (.m x6 x43
 .nil))))
 (.seq (.ops (.m x44 x0
 (.p x45 (.fa (.t x3) 5)
 (.l x46 (.t x45)
 (.p x47 (.ia (.t x46) (.c (.p 0)) 6)
 (.cons .no (.ye x48) (.L (.l (.many (.t x47) 6)))
 (.s x49 165 [(.t x44), (.t x48)]
 .nil)))))))
 (.seq (.ops (.m x50 x0
 (.s x51 164 [(.t x50), (.c (.p 17))]
 (.m x7 x51
 .nil))))
 (.seq (.seq (.ops (.m x52 x5
 (.p x53 (.nt (.t x52))
 .nil)))
 (.cond (.t x53) (.seq (.ops (.m x54 x7
 (.m x8 x54
 .nil)))
 (.seq (.ops (.m x55 x0
 (.s x56 164 [(.t x55), (.c (.p 16))]
 (.m x7 x56
 .nil))))
 (.ops (.m x57 x8
 (.cons .no (.ye x58) (.V (.t x57) [])
 .nil)))))
 .skip))
 (.seq (.ops (.m x59 x0
 (.p x60 (.fa (.t x3) 5)
 (.l x61 (.t x60)
 (.p x62 (.ia (.t x61) (.c (.p 1)) 6)
 (.cons .no (.ye x63) (.L (.l (.many (.t x62) 6)))
 (.s x64 165 [(.t x59), (.t x63)]
 .nil)))))))
 (.seq (.ops (.m x65 x0
 (.s x66 131 [(.t x65), (.c (.p 12)), (.c (.p 0)), (.c (.p 0))]
 .nil)))
 (.seq (.ops (.m x67 x0
 (.s x68 197 [(.t x67)]
 (.m x9 x68
 .nil))))
 (.seq (.ops (.m x69 x0
 (.s x70 131 [(.t x69), (.c (.p 16)), (.c (.p 0)), (.c (.p 0))]
 .nil)))
 (.seq (.ops (.m x71 x0
 (.m x72 x9
 (.m x73 x6
 (.s x74 199 [(.t x71), (.t x72), (.c (.p 16)), (.t x73)]
 .nil)))))
 (.seq (.ops (.m x75 x7
 (.cons .no (.ye x76) (.V (.t x75) [])
 .nil)))
 (.seq (.ops (.m x77 x0
 (.s x78 131 [(.t x77), (.c (.p 2)), (.c (.p 0)), (.c (.p 0))]
 .nil)))
 (.seq (.ops (.p x4 (.mv (.c (.b true)))
 .nil))
 .ret)))))))))))))))
def a194 : AF := .fn (ps16.take 79) b194 (.one x4)
def b195 : ACode := (.seq (.seq (.ops (.m x10 x3
 (.p x11 (.lnX (.t x10))
 (.p x12 (.mv (.c (.p 0)))
 .nil))))
 (.blk 0 (.loop (.seq (.ops (.p x13 (.bin .lss (.t x12) (.t x11))
 .nil))
 (.seq (.cond (.t x13) .skip
 (.exit 0))
 (.seq (.blk 1 (.seq (.ops (.p x14 (.ia (.t x10) (.t x12) 6)
 (.cons .no (.ye x15) (.L (.l (.many (.t x14) 6)))
 (.cons .no (.ye x9) (.W (.al (.cons (.p 0) (.cons (.s 0 0) (.cons (.p 0) (.cons .ns (.cons .ns (.cons .ns .nil))))))))
 (.cons .no .no (.W (.st (.t x9) 6 (.t x15)))
 .nil)))))
 (.ops (.m x16 x0
 (.cons .no (.ye x17) (.L (.l (.many (.t x9) 6)))
 (.s x18 130 [(.t x16), (.t x17)]
 .nil))))))
 (.ops (.p x19 (.bin .add (.t x12) (.c (.p 1)))
 (.m x12 x19
 .nil)))))))))
 (.ops (.m x20 x0
 (.m x21 x1
 (.m x22 x0
 (.m x23 x2
 (.s x24 192 [(.t x22), (.t x23)]
 (.m x25 x3
 (.p x26 (.lnX (.t x25))
 (.s x27 131 [(.t x20), (.t x21), (.t x24), (.t x26)]
 .nil))))))))))
def a195 : AF := .fn (ps16.take 28) b195 .none
def b196 : ACode := (.seq (.ops (.cons .no (.ye x3) (.W (.bx (.t x1)))
 (.p x4 (.mv (.c (.p 0)))
 .nil)))
 (.seq (.seq (.ops (.cons .no (.ye x5) (.L (.l (.many (.t x3) 6)))
 (.s x6 224 [(.t x5)]
 .nil)))
 (.cond (.t x6) (.seq (.ops (.m x7 x0
 (.s x8 131 [(.t x7), (.c (.p 1)), (.c (.p 0)), (.c (.p 0))]
 .nil)))
 (.seq (.ops (.p x4 (.mv (.c (.p 15)))
 .nil))
 .ret))
 .skip))
 (.seq (.ops (.m x9 x0
 (.cons .no (.ye x10) (.L (.l (.many (.t x3) 6)))
 (.s x11 130 [(.t x9), (.t x10)]
 .nil))))
 (.seq (.ops (.p x4 (.mv (.c (.p 14)))
 .nil))
 .ret))))
def a196 : AF := .fn (ps16.take 12) b196 (.one x4)
def b197 : ACode := (.seq (.ops (.p x2 (.mv (.c (.p 0)))
 .nil))
 (.seq (.ops (.m x3 x0
 (.p x4 (.nck (.t x3))
 (.p x5 (.fa (.t x4) 0)
 (.p x6 (.fa (.t x5) 5)
 (.l x7 (.t x6)
 (.p x8 (.lnX (.t x7))
 (.m x2 x8
 .nil))))))))
 .ret))
def a197 : AF := .fn (ps16.take 9) b197 (.one x2)
def b198 : ACode := (.draw (.h .no (.ye x3) (.L (.l (.one (.t x0))))
 (.h .no (.ye x4) (.L (.l (.one (.t x1))))
 (.h .no (.ye x5) (.L (.l (.one (.t x2))))
 (.h .no (.ye x6) (.L (.l (.one (.t x0))))
 (.c .no (.ye x7) (.S 197 [(.t x6)]) (.cons .no (.l (.one (.t x0))) x3 (.cons .no (.l (.one (.t x1))) x4 (.cons .no (.l (.one (.t x2))) x5 .nil)))
 (.c .no (.ye x8) (.S 199 [(.t x3), (.t x4), (.t x5), (.t x7)]) .nil
 .nil)))))))
def a198 : AF := .fn (ps16.take 9) b198 .none
def b199 : ACode := (.ops (.m x8 x0
 (.p x9 (.nck (.t x8))
 (.p x10 (.fa (.t x9) 0)
 (.p x11 (.fa (.t x10) 5)
 (.l x12 (.t x11)
 (.m x13 x1
 (.m x14 x2
 (.m x15 x3
 (.p x16 (.bin .and (.t x15) (.c (.p 255)))
 (.m x17 x3
 (.p x18 (.bin .shr (.t x17) (.c (.w .u64 8)))
 (.p x19 (.bd (.cons (.p 0) (.cons (.p 0) (.cons (.p 0) .nil))) [(0, 1, (.t x14)), (1, 1, (.t x16)), (2, 1, (.t x18))])
 (.p x20 (.ia (.t x12) (.t x13) 3)
 (.cons .no .no (.W (.st (.t x20) 3 (.t x19)))
 .nil)))))))))))))))
def a199 : AF := .fn (ps16.take 21) b199 .none
def b200 : ACode := (.seq (.ops (.cons .no (.ye x2) (.W (.bx (.t x0)))
 (.p x3 (.mv (.c (.b false)))
 .nil)))
 (.seq (.ops (.cons .no (.ye x4) (.L (.l (.many (.t x2) 4)))
 (.l x5 (.t x1)
 (.p x6 (.bin .sub (.t x5) (.c (.p 1)))
 (.s x7 170 [(.t x4), (.t x6)]
 (.p x8 (.nt (.t x7))
 (.m x3 x8
 .nil)))))))
 .ret))
def a200 : AF := .fn (ps16.take 9) b200 (.one x3)
def b201 : ACode := (.seq (.ops (.p x3 (.mv (.c (.p 0)))
 .nil))
 (.seq (.ops (.p x4 (.mv (.c (.n 0)))
 .nil))
 (.seq (.seq (.ops (.p x5 (.mv (.c (.p 0)))
 .nil))
 (.blk 0 (.loop (.seq (.seq (.ops (.m x8 x5
 (.p x9 (.bin .add (.t x8) (.c (.p 2)))
 (.m x10 x0
 (.p x11 (.bin .leq (.t x9) (.t x10))
 .nil)))))
 (.cond (.t x11) .skip
 (.exit 0)))
 (.seq (.blk 1 (.seq (.ops (.l x15 (.t x1)
 (.m x16 x5
 (.s x17 202 [(.t x15), (.t x16)]
 (.m x14 x17
 (.p x18 (.ex (.t x14) 0)
 (.p x19 (.ex (.t x14) 1)
 (.m x6 x18
 (.m x7 x19
 .nil)))))))))
 (.seq (.ops (.m x20 x7
 (.m x21 x20
 (.cons (.ye x21 true) (.ye x22) (.P (.mv (.t x0)))
 (.cons (.ye x21 true) (.ye x23) (.P (.mv (.t x6)))
 (.cons (.ye x21 true) (.ye x24) (.P (.bin .lss (.t x22) (.t x23)))
 (.p x25 (.pick (.t x21) (.t x24) (.c (.b false)))
 .nil)))))))
 (.cond (.t x25) (.ops (.m x26 x5
 (.m x4 x26
 .nil)))
 .skip))))
 (.ops (.m x12 x5
 (.p x13 (.bin .add (.t x12) (.c (.p 1)))
 (.m x5 x13
 .nil)))))))))
 (.seq (.ops (.m x27 x4
 (.m x3 x27
 .nil)))
 .ret))))
def a201 : AF := .fn (ps16.take 28) b201 (.one x3)
def b202 : ACode := (.seq (.ops (.p x4 (.mv (.c (.p 0)))
 (.p x5 (.mv (.c (.b false)))
 .nil)))
 (.seq (.seq (.ops (.m x7 x0
 (.m x8 x1
 (.p x9 (.ia (.t x7) (.t x8) 3)
 (.p x10 (.fa (.t x9) 0)
 (.l x11 (.t x10)
 (.p x12 (.bin .neq (.t x11) (.c (.p 18)))
 (.m x13 x12
 (.cons (.ye x13 false) (.ye x14) (.P (.mv (.t x1)))
 (.cons (.ye x13 false) (.ye x15) (.P (.bin .add (.t x14) (.c (.p 1))))
 (.cons (.ye x13 false) (.ye x16) (.P (.mv (.t x0)))
 (.cons (.ye x13 false) (.ye x17) (.P (.lnX (.t x16)))
 (.cons (.ye x13 false) (.ye x18) (.P (.bin .geq (.t x15) (.t x17)))
 (.p x19 (.pick (.t x13) (.c (.b true)) (.t x18))
 (.m x20 x19
 (.cons (.ye x20 false) (.ye x21) (.P (.mv (.t x0)))
 (.cons (.ye x20 false) (.ye x22) (.P (.mv (.t x1)))
 (.cons (.ye x20 false) (.ye x23) (.P (.bin .add (.t x22) (.c (.p 1))))
 (.cons (.ye x20 false) (.ye x24) (.P (.ia (.t x21) (.t x23) 3))
 (.cons (.ye x20 false) (.ye x25) (.P (.fa (.t x24) 0))
 (.cons (.ye x20 false) (.ye x26) (.L (.l (.one (.t x25))))
 (.cons (.ye x20 false) (.ye x27) (.P (.bin .neq (.t x26) (.c (.p 16))))
 (.p x28 (.pick (.t x20) (.c (.b true)) (.t x27))
 .nil)))))))))))))))))))))))
 (.cond (.t x28) (.seq (.ops (.p x4 (.mv (.c (.p 0)))
 (.p x5 (.mv (.c (.b false)))
 .nil)))
 .ret)
 .skip))
 (.seq (.ops (.m x29 x0
 (.m x30 x1
 (.p x31 (.bin .add (.t x30) (.c (.p 1)))
 (.p x32 (.ia (.t x29) (.t x31) 3)
 (.cons .no (.ye x33) (.L (.l (.many (.t x32) 3)))
 (.s x34 203 [(.t x33)]
 (.m x6 x34
 .nil))))))))
 (.seq (.ops (.m x35 x6
 (.m x36 x6
 (.m x37 x1
 (.p x38 (.bin .add (.t x37) (.c (.p 2)))
 (.p x39 (.bin .gtr (.t x36) (.t x38))
 (.m x4 x35
 (.m x5 x39
 .nil))))))))
 .ret))))
def a202 : AF := .fn (ps16.take 40) b202 (.many [(.t x4), (.t x5)])
def b203 : ACode := (.seq (.ops (.cons .no (.ye x1) (.W (.bx (.t x0)))
 (.p x2 (.mv (.c (.p 0)))
 .nil)))
 (.seq (.seq (.ops (.p x3 (.fa (.t x1) 0)
 (.l x4 (.t x3)
 (.s x5 225 [(.t x4)]
 (.p x6 (.nt (.t x5))
 .nil)))))
 (.cond (.t x6) (.seq (.ops (.p x2 (.mv (.c (.n 0)))
 .nil))
 .ret)
 .skip))
 (.seq (.ops (.p x7 (.fa (.t x1) 1)
 (.l x8 (.t x7)
 (.p x9 (.fa (.t x1) 2)
 (.l x10 (.t x9)
 (.p x11 (.bin .shl (.t x10) (.c (.w .u64 8)))
 (.p x12 (.bin .add (.t x8) (.t x11))
 (.m x2 x12
 .nil))))))))
 .ret)))
def a203 : AF := .fn (ps16.take 13) b203 (.one x2)
def b204 : ACode := (.blk 0 (.seq (.ops (.m x12 x0
 (.l x13 (.t x3)
 (.p x14 (.lnX (.t x13))
 (.p x15 (.bin .geq (.t x12) (.t x14))
 (.m x16 x15
 (.cons (.ye x16 false) (.ye x17) (.L (.l (.one (.t x4))))
 (.cons (.ye x16 false) (.ye x18) (.P (.mv (.t x0)))
 (.cons (.ye x16 false) (.ye x19) (.P (.ia (.t x17) (.t x18) 1))
 (.cons (.ye x16 false) (.ye x20) (.L (.l (.one (.t x19))))
 (.cons (.ye x16 false) (.ye x21) (.P (.mv (.t x1)))
 (.cons (.ye x16 false) (.ye x22) (.P (.bin .neq (.t x20) (.t x21)))
 (.p x23 (.pick (.t x16) (.c (.b true)) (.t x22))
 (.m x24 x23
 (.cons (.ye x24 false) (.ye x25) (.L (.l (.one (.t x5))))
 (.cons (.ye x24 false) (.ye x26) (.P (.mv (.t x0)))
 (.cons (.ye x24 false) (.ye x27) (.P (.ia (.t x25) (.t x26) 1))
 (.cons (.ye x24 false) (.ye x28) (.L (.l (.one (.t x27))))
 (.cons (.ye x24 false) (.ye x29) (.P (.bin .geq (.t x28) (.c (.p 0))))
 (.cons (.ye x24 false) (.ye x30) (.P (.mv (.t x29)))
 (.cons (.ye x30 true) (.ye x31) (.L (.l (.one (.t x5))))
 (.cons (.ye x30 true) (.ye x32) (.P (.mv (.t x0)))
 (.cons (.ye x30 true) (.ye x33) (.P (.ia (.t x31) (.t x32) 1))
 (.cons (.ye x30 true) (.ye x34) (.L (.l (.one (.t x33))))
 (.cons (.ye x30 true) (.ye x35) (.P (.mv (.t x2)))
 (.cons (.ye x30 true) (.ye x36) (.P (.bin .neq (.t x34) (.t x35)))
 (.cons (.ye x24 false) (.ye x37) (.P (.pick (.t x30) (.t x36) (.c (.b false))))
 (.p x38 (.pick (.t x24) (.c (.b true)) (.t x37))
 (.m x11 x38
 .nil)))))))))))))))))))))))))))))
 (.cond (.t x11) (.ops (.cons .no .no (.W (.st (.t x6) 1 (.c (.b false))))
 .nil))
 (.seq (.ops (.l x40 (.t x5)
 (.m x41 x0
 (.p x42 (.ia (.t x40) (.t x41) 1)
 (.l x43 (.t x42)
 (.p x44 (.bin .lss (.t x43) (.c (.p 0)))
 (.m x39 x44
 .nil)))))))
 (.cond (.t x39) (.seq (.ops (.l x45 (.t x5)
 (.m x46 x0
 (.m x47 x2
 (.p x48 (.ia (.t x45) (.t x46) 1)
 (.cons .no .no (.W (.st (.t x48) 1 (.t x47)))
 .nil))))))
 (.ops (.l x49 (.t x7)
 (.m x50 x0
 (.cons .no (.ye x51) (.W (.bs (.cons (.p 0) .nil) 1 [(0, 1, (.t x50))]))
 (.cons .no (.ye x52) (.W (.app 1 8 (.t x49) (.t x51)))
 (.cons .no .no (.W (.st (.t x7) 1 (.t x52)))
 .nil)))))))
 .skip)))))
def a204 : AF := .fn (ps16.take 53) b204 .none
def b205 : ACode := (.seq (.ops (.cons .no (.ye x1) (.W (.bx (.t x0)))
 (.p x2 (.mv (.c (.p 0)))
 .nil)))
 (.seq (.seq (.ops (.p x3 (.fa (.t x1) 0)
 (.l x4 (.t x3)
 .nil)))
 (.blk 0 (.seq (.seq (.ops (.p x6 (.bin .eql (.t x4) (.c (.p 1)))
 (.m x5 x6
 .nil)))
 (.cond (.t x5) .skip
 (.seq (.ops (.p x7 (.bin .eql (.t x4) (.c (.p 2)))
 (.m x5 x7
 .nil)))
 (.cond (.t x5) .skip
 (.seq (.ops (.p x8 (.bin .eql (.t x4) (.c (.p 3)))
 (.m x5 x8
 .nil)))
 (.cond (.t x5) .skip
 (.seq (.ops (.p x9 (.bin .eql (.t x4) (.c (.p 4)))
 (.m x5 x9
 .nil)))
 (.cond (.t x5) .skip
 (.seq (.ops (.p x10 (.bin .eql (.t x4) (.c (.p 5)))
 (.m x5 x10
 .nil)))
 (.cond (.t x5) .skip
 (.seq (.ops (.p x11 (.bin .eql (.t x4) (.c (.p 6)))
 (.m x5 x11
 .nil)))
 (.cond (.t x5) .skip
 (.seq (.ops (.p x12 (.bin .eql (.t x4) (.c (.p 7)))
 (.m x5 x12
 .nil)))
 (.cond (.t x5) .skip
 (.seq (.ops (.p x13 (.bin .eql (.t x4) (.c (.p 8)))
 (.m x5 x13
 .nil)))
 (.cond (.t x5) .skip
 (.seq (.ops (.p x14 (.bin .eql (.t x4) (.c (.p 9)))
 (.m x5 x14
 .nil)))
 (.cond (.t x5) .skip
 (.seq (.ops (.p x15 (.bin .eql (.t x4) (.c (.p 13)))
 (.m x5 x15
 .nil)))
 (.cond (.t x5) .skip
 (.ops (.p x16 (.bin .eql (.t x4) (.c (.p 18)))
 (.m x5 x16
 .nil)))))))))))))))))))))))
 (.cond (.t x5) (.seq (.ops (.p x2 (.mv (.c (.p 1)))
 .nil))
 .ret)
 (.seq (.seq (.ops (.p x18 (.bin .eql (.t x4) (.c (.p 12)))
 (.m x17 x18
 .nil)))
 (.cond (.t x17) .skip
 (.seq (.ops (.p x19 (.bin .eql (.t x4) (.c (.p 17)))
 (.m x17 x19
 .nil)))
 (.cond (.t x17) .skip
 (.seq (.ops (.p x20 (.bin .eql (.t x4) (.c (.p 19)))
 (.m x17 x20
 .nil)))
 (.cond (.t x17) .skip
 (.ops (.p x21 (.bin .eql (.t x4) (.c (.p 20)))
 (.m x17 x21
 .nil)))))))))
 (.cond (.t x17) (.seq (.ops (.p x2 (.mv (.c (.n 0)))
 .nil))
 .ret)
 (.seq (.seq (.ops (.p x23 (.bin .eql (.t x4) (.c (.p 14)))
 (.m x22 x23
 .nil)))
 (.cond (.t x22) .skip
 (.ops (.p x24 (.bin .eql (.t x4) (.c (.p 15)))
 (.m x22 x24
 .nil)))))
 (.cond (.t x22) (.seq (.ops (.p x25 (.fa (.t x1) 2)
 (.l x26 (.t x25)
 (.p x27 (.ng (.t x26))
 (.m x2 x27
 .nil)))))
 .ret)
 .skip))))))))
 (.seq (.ops (.p x2 (.mv (.c (.p 0)))
 .nil))
 .ret)))
def a205 : AF := .fn (ps16.take 28) b205 (.one x2)
def b206 : ACode := (.seq (.ops (.cons .no (.ye x1) (.W (.bx (.t x0)))
 (.p x2 (.mv (.c (.p 0)))
 .nil)))
 (.seq (.seq (.ops (.p x3 (.fa (.t x1) 0)
 (.l x4 (.t x3)
 .nil)))
 (.blk 0 (.seq (.seq (.ops (.p x6 (.bin .eql (.t x4) (.c (.p 12)))
 (.m x5 x6
 .nil)))
 (.cond (.t x5) .skip
 (.seq (.ops (.p x7 (.bin .eql (.t x4) (.c (.p 13)))
 (.m x5 x7
 .nil)))
 (.cond (.t x5) .skip
 (.seq (.ops (.p x8 (.bin .eql (.t x4) (.c (.p 10)))
 (.m x5 x8
 .nil)))
 (.cond (.t x5) .skip
 (.seq (.ops (.p x9 (.bin .eql (.t x4) (.c (.p 11)))
 (.m x5 x9
 .nil)))
 (.cond (.t x5) .skip
 (.seq (.ops (.p x10 (.bin .eql (.t x4) (.c (.p 17)))
 (.m x5 x10
 .nil)))
 (.cond (.t x5) .skip
 (.seq (.ops (.p x11 (.bin .eql (.t x4) (.c (.p 20)))
 (.m x5 x11
 .nil)))
 (.cond (.t x5) .skip
 (.ops (.p x12 (.bin .eql (.t x4) (.c (.p 19)))
 (.m x5 x12
 .nil)))))))))))))))
 (.cond (.t x5) (.seq (.ops (.p x2 (.mv (.c (.p 1)))
 .nil))
 .ret)
 (.seq (.seq (.ops (.p x14 (.bin .eql (.t x4) (.c (.p 14)))
 (.m x13 x14
 .nil)))
 (.cond (.t x13) .skip
 (.ops (.p x15 (.bin .eql (.t x4) (.c (.p 15)))
 (.m x13 x15
 .nil)))))
 (.cond (.t x13) (.seq (.ops (.p x16 (.fa (.t x1) 2)
 (.l x17 (.t x16)
 (.p x18 (.bin .add (.t x17) (.c (.p 1)))
 (.m x2 x18
 .nil)))))
 .ret)
 .skip))))))
 (.seq (.ops (.p x2 (.mv (.c (.p 0)))
 .nil))
 .ret)))
def a206 : AF := .fn (ps16.take 19) b206 (.one x2)
def b207 : ACode := (.seq (.ops (.cons .no (.ye x4) (.W (.al (.cons (.p 0) (.cons (.s 0 0) (.cons (.p 0) (.cons .ns (.cons .ns (.cons .ns .nil))))))))
 .nil))
 (.seq (.ops (.m x5 x0
 (.m x6 x1
 (.p x7 (.bd (.cons (.p 0) (.cons (.s 0 0) (.cons (.p 0) (.cons .ns (.cons .ns (.cons .ns .nil)))))) [(0, 1, (.c (.p 7))), (1, 1, (.t x5)), (5, 1, (.t x6))])
 (.cons .no .no (.W (.st (.t x4) 6 (.t x7)))
 .nil)))))
 .ret))
def a207 : AF := .fn (ps16.take 8) b207 (.onec (.many (.t x4) 6))
def b208 : ACode := (.seq (.ops (.cons .no (.ye x2) (.W (.al (.cons (.p 0) (.cons (.s 0 0) (.cons (.p 0) (.cons .ns (.cons .ns (.cons .ns .nil))))))))
 (.p x3 (.mv (.c (.b false)))
 .nil)))
 (.seq (.ops (.m x6 x0
 (.s x7 127 [(.t x6), (.c (.p 0))]
 (.cons .no (.ye x4) (.W (.al (.cons (.p 0) (.cons (.s 0 0) (.cons (.p 0) (.cons (.p 0) .nil))))))
 (.cons .no .no (.W (.st (.t x4) 4 (.t x7)))
 .nil)))))
 (.seq (.ops (.p x8 (.fa (.t x4) 1)
 (.l x9 (.t x8)
 (.p x10 (.fa (.t x4) 2)
 (.l x11 (.t x10)
 (.p x12 (.bd (.cons (.p 0) (.cons (.s 0 0) (.cons (.p 0) (.cons .ns (.cons .ns (.cons .ns .nil)))))) [(1, 1, (.t x9)), (2, 1, (.t x11))])
 (.cons .no (.ye x5) (.W (.al (.cons (.p 0) (.cons (.s 0 0) (.cons (.p 0) (.cons .ns (.cons .ns (.cons .ns .nil))))))))
 (.cons .no .no (.W (.st (.t x5) 6 (.t x12)))
 .nil))))))))
 (.seq (.blk 0 (.seq (.ops (.m x15 x0
 (.p x16 (.nck (.t x15))
 (.p x17 (.fa (.t x16) 3)
 (.l x18 (.t x17)
 (.p x19 (.bin .neq (.t x18) (.c (.p 0)))
 (.m x14 x19
 .nil)))))))
 (.cond (.t x14) (.seq (.ops (.cons .no (.ye x20) (.L (.l (.many (.t x5) 6)))
 (.cons .no .no (.W (.st (.t x2) 6 (.t x20)))
 (.p x3 (.mv (.c (.b false)))
 .nil))))
 .ret)
 (.seq (.ops (.m x22 x0
 (.s x23 226 [(.t x22)]
 (.m x21 x23
 .nil))))
 (.cond (.t x21) (.seq (.ops (.m x24 x0
 (.s x25 124 [(.t x24)]
 .nil)))
 (.seq (.ops (.m x26 x0
 (.s x27 124 [(.t x26)]
 (.p x28 (.fd (.t x27) 2)
 (.p x29 (.ng (.t x28))
 (.p x30 (.bd (.cons (.p 0) (.cons (.s 0 0) (.cons (.p 0) (.cons .ns (.cons .ns (.cons .ns .nil)))))) [(0, 1, (.c (.p 1))), (2, 1, (.t x29))])
 (.cons .no .no (.W (.st (.t x2) 6 (.t x30)))
 (.p x3 (.mv (.c (.b true)))
 .nil))))))))
 .ret))
 (.seq (.ops (.p x32 (.fa (.t x4) 0)
 (.l x33 (.t x32)
 (.p x34 (.bin .eql (.t x33) (.c (.p 4)))
 (.m x31 x34
 .nil)))))
 (.cond (.t x31) (.ops (.p x35 (.fa (.t x5) 0)
 (.cons .no .no (.W (.st (.t x35) 1 (.c (.p 1))))
 .nil)))
 (.seq (.ops (.p x37 (.fa (.t x4) 0)
 (.l x38 (.t x37)
 (.p x39 (.bin .eql (.t x38) (.c (.p 5)))
 (.m x36 x39
 .nil)))))
 (.cond (.t x36) (.ops (.p x40 (.fa (.t x5) 0)
 (.cons .no .no (.W (.st (.t x40) 1 (.c (.p 2))))
 .nil)))
 (.seq (.ops (.p x42 (.fa (.t x4) 0)
 (.l x43 (.t x42)
 (.p x44 (.bin .eql (.t x43) (.c (.p 6)))
 (.m x41 x44
 .nil)))))
 (.cond (.t x41) (.ops (.p x45 (.fa (.t x5) 0)
 (.cons .no .no (.W (.st (.t x45) 1 (.c (.p 3))))
 .nil)))
 (.seq (.ops (.cons .no (.ye x13) (.L (.l (.many (.t x5) 6)))
 (.cons .no .no (.W (.st (.t x2) 6 (.t x13)))
 (.p x3 (.mv (.c (.b false)))
 .nil))))
 .ret))))))))))))
 (.seq (.ops (.m x46 x0
 (.s x47 124 [(.t x46)]
 .nil)))
 (.seq (.ops (.cons .no (.ye x48) (.L (.l (.many (.t x5) 6)))
 (.cons .no .no (.W (.st (.t x2) 6 (.t x48)))
 (.p x3 (.mv (.c (.b true)))
 .nil))))
 .ret))))))
def a208 : AF := .fn (ps16.take 49) b208 (.many [(.c (.many (.t x2) 6)), (.t x3)])
def b209 : ACode := (.seq (.ops (.cons .no (.ye x4) (.W (.al (.cons (.p 0) (.cons (.s 0 0) (.cons (.p 0) (.cons .ns (.cons .ns (.cons .ns .nil))))))))
 .nil))
 (.seq (.ops (.m x7 x0
 (.s x8 124 [(.t x7)]
 (.cons .no (.ye x5) (.W (.al (.cons (.p 0) (.cons (.s 0 0) (.cons (.p 0) (.cons (.p 0) .nil))))))
 (.cons .no .no (.W (.st (.t x5) 4 (.t x8)))
 .nil)))))
 (.seq (.seq (.ops (.m x9 x0
 (.p x10 (.nck (.t x9))
 (.p x11 (.fa (.t x10) 1)
 (.l x12 (.t x11)
 (.p x13 (.bin .eql (.t x12) (.c (.p 20)))
 .nil))))))
 (.cond (.t x13) (.seq (.ops (.m x14 x0
 (.cons .no (.ye x15) (.L (.l (.many (.t x5) 4)))
 (.s x16 126 [(.t x14), (.t x15), (.c (.p 14))]
 .nil))))
 (.seq (.ops (.p x17 (.bd (.cons (.p 0) (.cons (.s 0 0) (.cons (.p 0) (.cons .ns (.cons .ns (.cons .ns .nil)))))) [])
 (.cons .no .no (.W (.st (.t x4) 6 (.t x17)))
 .nil)))
 .ret))
 .skip))
 (.seq (.ops (.m x18 x0
 (.p x19 (.nck (.t x18))
 (.p x20 (.fa (.t x19) 1)
 (.l x21 (.t x20)
 (.p x22 (.bin .add (.t x21) (.c (.p 1)))
 (.p x23 (.nck (.t x18))
 (.p x24 (.fa (.t x23) 1)
 (.cons .no .no (.W (.st (.t x24) 1 (.t x22)))
 .nil)))))))))
 (.seq (.ops (.m x25 x1
 (.cons .no (.ye x26) (.V (.t x25) [])
 (.cons .no (.ye x6) (.W (.al (.cons (.p 0) (.cons (.s 0 0) (.cons (.p 0) (.cons .ns (.cons .ns (.cons .ns .nil))))))))
 (.cons .no .no (.W (.st (.t x6) 6 (.t x26)))
 .nil)))))
 (.seq (.ops (.m x27 x0
 (.p x28 (.nck (.t x27))
 (.p x29 (.fa (.t x28) 1)
 (.l x30 (.t x29)
 (.p x31 (.bin .sub (.t x30) (.c (.p 1)))
 (.p x32 (.nck (.t x27))
 (.p x33 (.fa (.t x32) 1)
 (.cons .no .no (.W (.st (.t x33) 1 (.t x31)))
 .nil)))))))))
 (.seq (.ops (.cons .no (.ye x34) (.L (.l (.many (.t x6) 6)))
 (.cons .no .no (.W (.st (.t x4) 6 (.t x34)))
 .nil)))
 .ret)))))))
def a209 : AF := .fn (ps16.take 35) b209 (.onec (.many (.t x4) 6))
def b210 : ACode := (.seq (.ops (.cons .no (.ye x2) (.W (.al (.cons (.p 0) (.cons (.s 0 0) (.cons (.p 0) (.cons .ns (.cons .ns (.cons .ns .nil))))))))
 .nil))
 (.seq (.ops (.p x6 (.bd (.cons (.p 0) (.cons (.s 0 0) (.cons (.p 0) (.cons .ns (.cons .ns (.cons .ns .nil)))))) [(0, 1, (.c (.p 4)))])
 (.cons .no (.ye x3) (.W (.al (.cons (.p 0) (.cons (.s 0 0) (.cons (.p 0) (.cons .ns (.cons .ns (.cons .ns .nil))))))))
 (.cons .no .no (.W (.st (.t x3) 6 (.t x6)))
 .nil))))
 (.seq (.blk 0 (.loop (.seq (.seq (.ops (.m x7 x0
 (.p x8 (.nck (.t x7))
 (.p x9 (.fa (.t x8) 3)
 (.l x10 (.t x9)
 (.p x11 (.bin .eql (.t x10) (.c (.p 0)))
 (.m x12 x11
 (.cons (.ye x12 true) (.ye x13) (.P (.mv (.t x0)))
 (.cons (.ye x12 true) (.ye x14) (.S 123 [(.t x13), (.c (.p 10)), (.c (.s 1 41))])
 (.cons (.ye x12 true) (.ye x15) (.P (.nt (.t x14)))
 (.p x16 (.pick (.t x12) (.t x15) (.c (.b false)))
 .nil)))))))))))
 (.cond (.t x16) .skip
 (.exit 0)))
 (.blk 1 (.seq (.ops (.m x18 x0
 (.s x19 208 [(.t x18)]
 (.m x17 x19
 (.p x20 (.ex (.t x17) 0)
 (.p x21 (.ex (.t x17) 1)
 (.cons .no (.ye x4) (.W (.al (.cons (.p 0) (.cons (.s 0 0) (.cons (.p 0) (.cons .ns (.cons .ns (.cons .ns .nil))))))))
 (.cons .no .no (.W (.st (.t x4) 6 (.t x20)))
 (.m x5 x21
 .nil)))))))))
 (.seq (.blk 2 (.seq (.ops (.m x27 x5
 (.m x26 x27
 .nil)))
 (.cond (.t x26) .skip
 (.seq (.ops (.m x29 x0
 (.s x30 123 [(.t x29), (.c (.p 7)), (.c (.s 0 0))]
 (.m x31 x30
 (.cons (.ye x31 false) (.ye x32) (.P (.mv (.t x0)))
 (.cons (.ye x31 false) (.ye x33) (.S 123 [(.t x32), (.c (.p 10)), (.c (.s 1 40))])
 (.p x34 (.pick (.t x31) (.c (.b true)) (.t x33))
 (.m x28 x34
 .nil))))))))
 (.cond (.t x28) (.ops (.m x35 x0
 (.m x36 x0
 (.p x37 (.mf 210 [(.t x36)] [])
 (.s x38 209 [(.t x35), (.t x37)]
 (.cons .no .no (.W (.st (.t x4) 6 (.t x38)))
 .nil))))))
 (.ops (.m x22 x0
 (.m x23 x0
 (.s x24 127 [(.t x23), (.c (.p 0))]
 (.s x25 126 [(.t x22), (.t x24), (.c (.p 13))]
 .nil))))))))))
 (.ops (.p x39 (.fa (.t x3) 5)
 (.l x40 (.t x39)
 (.cons .no (.ye x41) (.L (.l (.many (.t x4) 6)))
 (.cons .no (.ye x42) (.W (.bs (.cons (.p 0) (.cons (.s 0 0) (.cons (.p 0) (.cons .ns (.cons .ns (.cons .ns .nil)))))) 1 [(0, 6, (.t x41))]))
 (.cons .no (.ye x43) (.W (.app 6 104 (.t x40) (.t x42)))
 (.p x44 (.fa (.t x3) 5)
 (.cons .no .no (.W (.st (.t x44) 1 (.t x43)))
 .nil))))))))))))))
 (.seq (.ops (.m x45 x0
 (.s x46 124 [(.t x45)]
 .nil)))
 (.seq (.ops (.cons .no (.ye x47) (.L (.l (.many (.t x3) 6)))
 (.cons .no .no (.W (.st (.t x2) 6 (.t x47)))
 .nil)))
 .ret)))))
def a210 : AF := .fn (ps16.take 48) b210 (.onec (.many (.t x2) 6))
def b211 : ACode := (.seq (.ops (.cons .no (.ye x2) (.W (.al (.cons (.p 0) (.cons (.s 0 0) (.cons (.p 0) (.cons .ns (.cons .ns (.cons .ns .nil))))))))
 .nil))
 (.seq (.ops (.m x4 x0
 (.s x5 125 [(.t x4)]
 (.cons .no (.ye x3) (.W (.al (.cons (.p 0) (.cons (.s 0 0) (.cons (.p 0) (.cons .ns (.cons .ns (.cons .ns .nil))))))))
 (.cons .no .no (.W (.st (.t x3) 6 (.t x5)))
 .nil)))))
 (.seq (.ops (.m x6 x0
 (.s x7 101 [(.t x6), (.c (.p 10)), (.c (.s 1 41))]
 .nil)))
 (.seq (.ops (.cons .no (.ye x8) (.L (.l (.many (.t x3) 6)))
 (.cons .no .no (.W (.st (.t x2) 6 (.t x8)))
 .nil)))
 .ret))))
def a211 : AF := .fn (ps16.take 9) b211 (.onec (.many (.t x2) 6))
def b212 : ACode := (.seq (.ops (.cons .no (.ye x2) (.W (.al (.cons (.p 0) (.cons (.s 0 0) (.cons (.p 0) (.cons .ns (.cons .ns (.cons .ns .nil))))))))
 .nil))
 (.seq (.ops (.p x4 (.bd (.cons (.p 0) (.cons (.s 0 0) (.cons (.p 0) (.cons .ns (.cons .ns (.cons .ns .nil)))))) [(0, 1, (.c (.p 9)))])
 (.cons .no (.ye x3) (.W (.al (.cons (.p 0) (.cons (.s 0 0) (.cons (.p 0) (.cons .ns (.cons .ns (.cons .ns .nil))))))))
 (.cons .no .no (.W (.st (.t x3) 6 (.t x4)))
 .nil))))
 (.seq (.blk 0 (.loop (.seq (.seq (.ops (.m x5 x0
 (.s x6 123 [(.t x5), (.c (.p 8)), (.c (.s 0 0))]
 .nil)))
 (.cond (.t x6) .skip
 (.exit 0)))
 (.blk 1 (.draw (.h .no (.ye x7) (.P (.fa (.t x3) 3))
 (.h .no (.ye x8) (.L (.l (.one (.t x7))))
 (.h .no (.ye x9) (.P (.mv (.t x0)))
 (.h .no (.ye x10) (.P (.fa (.t x3) 3))
 (.h .no (.ye x11) (.L (.l (.one (.t x10))))
 (.c .no (.ye x12) (.S 128 [(.t x9), (.c (.p 8)), (.t x11)]) (.cons .no (.l (.one (.t x7))) x8 .nil)
 (.c .no (.ye x13) (.W (.bs (.cons (.s 0 0) .nil) 1 [(0, 1, (.t x12))])) (.cons .no (.l (.one (.t x7))) x8 .nil)
 (.c .no (.ye x14) (.W (.app 1 16 (.t x8) (.t x13))) .nil
 (.h .no (.ye x15) (.P (.fa (.t x3) 3))
 (.c .no .no (.W (.st (.t x15) 1 (.t x14))) .nil
 .nil)))))))))))))))
 (.seq (.seq (.ops (.p x16 (.fa (.t x3) 3)
 (.l x17 (.t x16)
 (.p x18 (.lnX (.t x17))
 (.p x19 (.bin .gtr (.t x18) (.c (.p 0)))
 (.m x20 x19
 (.cons (.ye x20 true) (.ye x21) (.P (.mv (.t x0)))
 (.cons (.ye x20 true) (.ye x22) (.S 123 [(.t x21), (.c (.p 10)), (.c (.s 1 93))])
 (.cons (.ye x20 true) (.ye x23) (.P (.nt (.t x22)))
 (.p x24 (.pick (.t x20) (.t x23) (.c (.b false)))
 .nil))))))))))
 (.cond (.t x24) (.ops (.m x25 x0
 (.s x26 101 [(.t x25), (.c (.p 10)), (.c (.s 1 124))]
 .nil)))
 .skip))
 (.seq (.ops (.m x27 x0
 (.s x28 99 [(.t x27)]
 (.p x29 (.fa (.t x3) 4)
 (.cons .no .no (.W (.st (.t x29) 1 (.t x28)))
 .nil)))))
 (.seq (.ops (.m x30 x0
 (.s x31 100 [(.t x30)]
 (.p x32 (.fa (.t x3) 5)
 (.cons .no .no (.W (.st (.t x32) 1 (.t x31)))
 .nil)))))
 (.seq (.ops (.m x33 x0
 (.s x34 101 [(.t x33), (.c (.p 10)), (.c (.s 1 93))]
 .nil)))
 (.seq (.ops (.cons .no (.ye x35) (.L (.l (.many (.t x3) 6)))
 (.cons .no .no (.W (.st (.t x2) 6 (.t x35)))
 .nil)))
 .ret))))))))
def a212 : AF := .fn (ps16.take 36) b212 (.onec (.many (.t x2) 6))
def b213 : ACode := (.seq (.ops (.p x2 (.mv (.c .ns))
 .nil))
 (.seq (.seq (.ops (.m x3 x0
 (.p x4 (.eqv 3 false (.t x3) (.c .ns))
 .nil)))
 (.cond (.t x4) (.seq (.ops (.p x2 (.mv (.c .ns))
 .nil))
 .ret)
 .skip))
 (.seq (.ops (.cons .no (.ye x5) (.W (.bs .nil 0 []))
 (.m x6 x0
 (.cons .no (.ye x7) (.W (.app 6 104 (.t x5) (.t x6)))
 (.m x2 x7
 .nil)))))
 .ret)))
def a213 : AF := .fn (ps16.take 8) b213 (.one x2)
def b214 : ACode := (.seq (.ops (.p x6 (.mv (.c (.b false)))
 .nil))
 (.seq (.seq (.ops (.m x10 x0
 (.p x11 (.lnX (.t x10))
 (.m x12 x1
 (.p x13 (.lnX (.t x12))
 (.p x14 (.bin .neq (.t x11) (.t x13))
 .nil))))))
 (.cond (.t x14) (.seq (.ops (.p x6 (.mv (.c (.b false)))
 .nil))
 .ret)
 .skip))
 (.seq (.seq (.ops (.m x15 x0
 (.p x16 (.lnX (.t x15))
 (.p x17 (.mv (.c (.p 0)))
 .nil))))
 (.blk 0 (.loop (.seq (.ops (.p x18 (.bin .lss (.t x17) (.t x16))
 .nil))
 (.seq (.cond (.t x18) .skip
 (.exit 0))
 (.seq (.blk 1 (.seq (.ops (.m x19 x17
 (.p x20 (.ia (.t x15) (.t x17) 4)
 (.cons .no (.ye x21) (.L (.l (.many (.t x20) 4)))
 (.cons .no (.ye x8) (.W (.al (.cons (.p 0) (.cons (.s 0 0) (.cons (.p 0) (.cons .ns .nil))))))
 (.m x7 x19
 (.cons .no .no (.W (.st (.t x8) 4 (.t x21)))
 .nil)))))))
 (.seq (.ops (.m x22 x1
 (.m x23 x7
 (.p x24 (.ia (.t x22) (.t x23) 4)
 (.cons .no (.ye x25) (.L (.l (.many (.t x24) 4)))
 (.cons .no (.ye x9) (.W (.al (.cons (.p 0) (.cons (.s 0 0) (.cons (.p 0) (.cons .ns .nil))))))
 (.cons .no .no (.W (.st (.t x9) 4 (.t x25)))
 .nil)))))))
 (.seq (.ops (.m x26 x2
 (.cons .no (.ye x27) (.L (.l (.many (.t x8) 4)))
 (.cons .no (.ye x28) (.L (.l (.many (.t x9) 4)))
 (.cons .no (.ye x29) (.V (.t x26) [(.t x27), (.t x28)])
 (.p x30 (.nt (.t x29))
 .nil))))))
 (.cond (.t x30) (.seq (.ops (.p x6 (.mv (.c (.b false)))
 .nil))
 .ret)
 .skip)))))
 (.ops (.p x31 (.bin .add (.t x17) (.c (.p 1)))
 (.m x17 x31
 .nil)))))))))
 (.seq (.ops (.p x6 (.mv (.c (.b true)))
 .nil))
 .ret))))
def a214 : AF := .fn (ps16.take 32) b214 (.one x6)
def b215 : ACode := .skip
def a215 : AF := .fn (ps16.take 0) b215 .none
def b216 : ACode := .skip
def a216 : AF := .fn (ps16.take 0) b216 .none
def b217 : ACode := (.seq (.ops (.cons .no (.ye x3) (.W (.bx (.t x0)))
 (.p x4 (.mv (.c .nf))
 .nil)))
 (.seq (.ops (.p x5 (.mf 218 [] [(.t x1), (.t x2), (.t x3)])
 (.m x4 x5
 .nil)))
 .ret))
def a217 : AF := .fn (ps16.take 6) b217 (.one x4)
def b218 : ACode := (.draw (.h .no (.ye x3) (.L (.l (.one (.t x0))))
 (.h .no (.ye x4) (.P (.fa (.t x1) 5))
 (.h .no (.ye x5) (.L (.l (.one (.t x4))))
 (.h .no (.ye x6) (.L (.l (.one (.t x2))))
 (.h .no (.ye x7) (.P (.ia (.t x5) (.t x6) 6))
 (.h .no (.ye x8) (.L (.l (.many (.t x7) 6)))
 (.c .no (.ye x9) (.S 165 [(.t x3), (.t x8)]) .nil
 .nil))))))))
def a218 : AF := .fn (ps16.take 10) b218 .none
def b219 : ACode := (.seq (.ops (.cons .no (.ye x2) (.W (.bx (.t x0)))
 (.p x3 (.mv (.c .nf))
 .nil)))
 (.seq (.ops (.p x4 (.mf 220 [] [(.t x1), (.t x2)])
 (.m x3 x4
 .nil)))
 .ret))
def a219 : AF := .fn (ps16.take 5) b219 (.one x3)
def b220 : ACode := (.ops (.l x2 (.t x0)
 (.l x3 (.t x1)
 (.s x4 131 [(.t x2), (.t x3), (.c (.p 0)), (.c (.p 0))]
 .nil))))
def a220 : AF := .fn (ps16.take 5) b220 .none
def b221 : ACode := (.seq (.ops (.p x4 (.mv (.c (.b false)))
 .nil))
 (.seq (.ops (.m x5 x0
 (.m x6 x1
 (.s x7 227 [(.t x5), (.t x6)]
 (.p x8 (.bin .geq (.t x7) (.c (.p 0)))
 (.m x4 x8
 .nil))))))
 .ret))
def a221 : AF := .fn (ps16.take 9) b221 (.one x4)
def b222 : ACode := (.seq (.ops (.cons .no (.ye x1) (.W (.bx (.t x0)))
 (.p x2 (.mv (.c (.b false)))
 .nil)))
 (.seq (.ops (.cons .no (.ye x3) (.L (.l (.many (.t x1) 6)))
 (.s x4 223 [(.t x3)]
 (.p x5 (.nt (.t x4))
 (.m x2 x5
 .nil)))))
 .ret))
def a222 : AF := .fn (ps16.take 6) b222 (.one x2)
def b223 : ACode := (.seq (.ops (.cons .no (.ye x1) (.W (.bx (.t x0)))
 (.p x2 (.mv (.c (.b false)))
 .nil)))
 (.seq (.ops (.p x3 (.fa (.t x1) 0)
 (.l x4 (.t x3)
 (.p x5 (.bin .eql (.t x4) (.c (.p 9)))
 (.m x6 x5
 (.cons (.ye x6 true) (.ye x7) (.P (.fa (.t x1) 3))
 (.cons (.ye x6 true) (.ye x8) (.L (.l (.one (.t x7))))
 (.cons (.ye x6 true) (.ye x9) (.P (.lnX (.t x8)))
 (.cons (.ye x6 true) (.ye x10) (.P (.bin .eql (.t x9) (.c (.p 0))))
 (.p x11 (.pick (.t x6) (.t x10) (.c (.b false)))
 (.m x2 x11
 .nil)))))))))))
 .ret))
def a223 : AF := .fn (ps16.take 12) b223 (.one x2)
def b224 : ACode := (.seq (.ops (.cons .no (.ye x1) (.W (.bx (.t x0)))
 (.p x2 (.mv (.c (.b false)))
 .nil)))
 (.seq (.ops (.p x3 (.fa (.t x1) 0)
 (.l x4 (.t x3)
 (.p x5 (.bin .eql (.t x4) (.c (.p 5)))
 (.m x6 x5
 (.cons (.ye x6 true) (.ye x7) (.P (.fa (.t x1) 1))
 (.cons (.ye x6 true) (.ye x8) (.L (.l (.one (.t x7))))
 (.cons (.ye x6 true) (.ye x9) (.P (.bin .eql (.t x8) (.c (.s 5 491328140659))))
 (.p x10 (.pick (.t x6) (.t x9) (.c (.b false)))
 (.m x2 x10
 .nil))))))))))
 .ret))
def a224 : AF := .fn (ps16.take 11) b224 (.one x2)
def b225 : ACode := (.seq (.ops (.p x2 (.mv (.c (.b false)))
 .nil))
 (.seq (.ops (.m x3 x0
 (.p x4 (.bin .eql (.t x3) (.c (.p 16)))
 (.m x5 x4
 (.cons (.ye x5 false) (.ye x6) (.P (.mv (.t x0)))
 (.cons (.ye x5 false) (.ye x7) (.P (.bin .eql (.t x6) (.c (.p 17))))
 (.p x8 (.pick (.t x5) (.c (.b true)) (.t x7))
 (.m x2 x8
 .nil))))))))
 .ret))
def a225 : AF := .fn (ps16.take 9) b225 (.one x2)
def b226 : ACode := (.seq (.ops (.p x2 (.mv (.c (.b false)))
 .nil))
 (.seq (.ops (.m x4 x0
 (.s x5 127 [(.t x4), (.c (.p 1))]
 (.cons .no (.ye x3) (.W (.al (.cons (.p 0) (.cons (.s 0 0) (.cons (.p 0) (.cons (.p 0) .nil))))))
 (.cons .no .no (.W (.st (.t x3) 4 (.t x5)))
 .nil)))))
 (.seq (.draw (.h .no (.ye x6) (.P (.mv (.t x0)))
 (.c .no (.ye x7) (.S 123 [(.t x6), (.c (.p 3)), (.c (.s 1 45))]) .nil
 (.h .no (.ye x8) (.P (.mv (.t x7)))
 (.h (.ye x8 true) (.ye x9) (.P (.fa (.t x3) 0))
 (.h (.ye x8 true) (.ye x10) (.L (.l (.one (.t x9))))
 (.h (.ye x8 true) (.ye x11) (.P (.bin .eql (.t x10) (.c (.p 4))))
 (.h .no (.ye x12) (.P (.pick (.t x8) (.t x11) (.c (.b false))))
 (.h .no (.ye x13) (.P (.mv (.t x12)))
 (.h (.ye x13 true) (.ye x14) (.P (.fa (.t x3) 3))
 (.h (.ye x13 true) (.ye x15) (.L (.l (.one (.t x14))))
 (.h (.ye x13 true) (.ye x16) (.P (.mv (.t x0)))
 (.c (.ye x13 true) (.ye x17) (.S 127 [(.t x16), (.c (.p 0))]) (.cons (.ye x13 true) (.l (.one (.t x14))) x15 .nil)
 (.h (.ye x13 true) (.ye x18) (.P (.fd (.t x17) 3))
 (.h (.ye x13 true) (.ye x19) (.P (.bin .add (.t x18) (.c (.p 1))))
 (.h (.ye x13 true) (.ye x20) (.P (.bin .eql (.t x15) (.t x19)))
 (.h .no (.ye x21) (.P (.pick (.t x13) (.t x20) (.c (.b false))))
 (.h .no (.ye x2) (.P (.mv (.t x21)))
 .nil))))))))))))))))))
 .ret)))
def a226 : AF := .fn (ps16.take 22) b226 (.one x2)
def b227 : ACode := (.seq (.ops (.p x4 (.mv (.c (.p 0)))
 .nil))
 (.seq (.seq (.ops (.m x6 x0
 (.p x7 (.lnX (.t x6))
 (.p x8 (.mv (.c (.p 0)))
 .nil))))
 (.blk 0 (.loop (.seq (.ops (.p x9 (.bin .lss (.t x8) (.t x7))
 .nil))
 (.seq (.cond (.t x9) .skip
 (.exit 0))
 (.seq (.blk 1 (.seq (.ops (.m x10 x8
 (.m x5 x10
 .nil)))
 (.seq (.ops (.m x11 x1
 (.m x12 x0
 (.m x13 x5
 (.p x14 (.ia (.t x12) (.t x13) 6)
 (.cons .no (.ye x15) (.L (.l (.many (.t x14) 6)))
 (.cons .no (.ye x16) (.V (.t x11) [(.t x15)])
 .nil)))))))
 (.cond (.t x16) (.seq (.ops (.m x17 x5
 (.m x4 x17
 .nil)))
 .ret)
 .skip))))
 (.ops (.p x18 (.bin .add (.t x8) (.c (.p 1)))
 (.m x8 x18
 .nil)))))))))
 (.seq (.ops (.p x4 (.mv (.c (.n 0)))
 .nil))
 .ret)))
def a227 : AF := .fn (ps16.take 19) b227 (.one x4)
end
end Go.Ev
