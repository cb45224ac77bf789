/-
  The program's functions, as the evaluator runs them.
-/
import Derived.Test.YtceplogmemkblaaGreatXs
namespace Go.Ev
noncomputable section
set_option maxRecDepth 100000
def b123 : ACode := (.seq (.ops (.cons .no (.ye x4) (.W (.bx (.t x1)))
 .nil))
 (.seq (.ops (.m x9 x0
 (.p x10 (.fa (.t x4) 3)
 (.l x11 (.t x10)
 (.s x12 139 [(.t x9), (.t x11), (.c (.b true))]
 .nil)))))
 (.seq (.ops (.m x13 x0
 (.p x14 (.fa (.t x4) 4)
 (.l x15 (.t x14)
 (.s x16 139 [(.t x13), (.t x15), (.c (.b false))]
 .nil)))))
 (.seq (.ops (.p x17 (.fa (.t x4) 5)
 (.l x18 (.t x17)
 (.p x19 (.lnX (.t x18))
 (.p x20 (.bin .sub (.t x19) (.c (.p 1)))
 (.m x6 x20
 .nil))))))
 (.seq (.seq (.ops (.p x21 (.fa (.t x4) 5)
 (.l x22 (.t x21)
 (.p x23 (.lnX (.t x22))
 (.p x24 (.mv (.c (.p 0)))
 .nil)))))
 (.blk 0 (.loop (.seq (.ops (.p x25 (.bin .lss (.t x24) (.t x23))
 .nil))
 (.seq (.cond (.t x25) .skip
 (.exit 0))
 (.seq (.blk 1 (.seq (.ops (.m x26 x24
 (.p x27 (.ia (.t x22) (.t x24) 6)
 (.cons .no (.ye x28) (.L (.l (.many (.t x27) 6)))
 (.cons .no (.ye x8) (.W (.al (.cons (.p 0) (.cons (.s 0 0) (.cons (.p 0) (.cons .ns (.cons .ns (.cons .ns .nil))))))))
 (.m x7 x26
 (.cons .no .no (.W (.st (.t x8) 6 (.t x28)))
 .nil)))))))
 (.seq (.ops (.m x29 x0
 (.cons .no (.ye x30) (.L (.l (.many (.t x8) 6)))
 (.s x31 140 [(.t x29), (.t x30)]
 .nil))))
 (.seq (.blk 2 (.seq (.ops (.m x33 x7
 (.m x34 x6
 (.p x35 (.bin .eql (.t x33) (.t x34))
 (.m x36 x35
 (.cons (.ye x36 true) (.ye x37) (.P (.fa (.t x8) 0))
 (.cons (.ye x36 true) (.ye x38) (.L (.l (.one (.t x37))))
 (.cons (.ye x36 true) (.ye x39) (.P (.bin .eql (.t x38) (.c (.p 10))))
 (.p x40 (.pick (.t x36) (.t x39) (.c (.b false)))
 (.m x32 x40
 .nil))))))))))
 (.cond (.t x32) .ret
 (.seq (.ops (.m x42 x7
 (.m x43 x6
 (.p x44 (.bin .eql (.t x42) (.t x43))
 (.m x45 x44
 (.cons (.ye x45 true) (.ye x46) (.P (.mv (.t x2)))
 (.p x47 (.pick (.t x45) (.t x46) (.c (.b false)))
 (.m x41 x47
 .nil))))))))
 (.cond (.t x41) (.seq (.ops (.m x48 x0
 (.s x49 141 [(.t x48), (.c (.p 20)), (.c (.p 0)), (.c (.p 0))]
 .nil)))
 .ret)
 (.seq (.ops (.p x51 (.fa (.t x8) 0)
 (.l x52 (.t x51)
 (.p x53 (.bin .eql (.t x52) (.c (.p 10)))
 (.m x50 x53
 .nil)))))
 (.cond (.t x50) (.exit 1)
 .skip)))))))
 (.ops (.m x54 x0
 (.s x55 141 [(.t x54), (.c (.p 12)), (.c (.p 0)), (.c (.p 0))]
 .nil)))))))
 (.ops (.p x56 (.bin .add (.t x24) (.c (.p 1)))
 (.m x24 x56
 .nil)))))))))
 (.seq (.seq (.ops (.m x57 x2
 .nil))
 (.cond (.t x57) (.ops (.m x58 x0
 (.s x59 141 [(.t x58), (.c (.p 2)), (.c (.p 0)), (.c (.p 0))]
 .nil)))
 (.ops (.m x60 x0
 (.s x61 141 [(.t x60), (.c (.p 1)), (.c (.p 0)), (.c (.p 0))]
 .nil)))))
 (.ops (.m x62 x0
 (.s x63 141 [(.t x62), (.c (.p 20)), (.c (.p 0)), (.c (.p 0))]
 .nil)))))))))
def a123 : AF := .fn (ps16.take 64) b123 .none
def b124 : ACode := (.seq (.ops (.cons .no (.ye x1) (.W (.bx (.t x0)))
 (.p x2 (.mv (.c (.b false)))
 .nil)))
 (.seq (.ops (.p x6 (.fa (.t x1) 0)
 (.l x7 (.t x6)
 (.s x8 142 [(.t x7)]
 (.m x5 x8
 (.p x9 (.ex (.t x5) 0)
 (.p x10 (.ex (.t x5) 1)
 (.m x3 x9
 (.m x4 x10
 .nil)))))))))
 (.seq (.ops (.p x11 (.fa (.t x1) 0)
 (.l x12 (.t x11)
 (.p x13 (.bin .geq (.t x12) (.c (.p 1)))
 (.m x14 x13
 (.cons (.ye x14 true) (.ye x15) (.P (.fa (.t x1) 0))
 (.cons (.ye x14 true) (.ye x16) (.L (.l (.one (.t x15))))
 (.cons (.ye x14 true) (.ye x17) (.P (.bin .leq (.t x16) (.c (.p 20))))
 (.p x18 (.pick (.t x14) (.t x17) (.c (.b false)))
 (.m x19 x18
 (.cons (.ye x19 true) (.ye x20) (.P (.fa (.t x1) 1))
 (.cons (.ye x19 true) (.ye x21) (.L (.l (.one (.t x20))))
 (.cons (.ye x19 true) (.ye x22) (.P (.mv (.t x3)))
 (.cons (.ye x19 true) (.ye x23) (.S 143 [(.t x21), (.t x22)])
 (.p x24 (.pick (.t x19) (.t x23) (.c (.b false)))
 (.m x25 x24
 (.cons (.ye x25 true) (.ye x26) (.P (.fa (.t x1) 2))
 (.cons (.ye x25 true) (.ye x27) (.L (.l (.one (.t x26))))
 (.cons (.ye x25 true) (.ye x28) (.P (.mv (.t x4)))
 (.cons (.ye x25 true) (.ye x29) (.S 143 [(.t x27), (.t x28)])
 (.p x30 (.pick (.t x25) (.t x29) (.c (.b false)))
 (.m x2 x30
 .nil))))))))))))))))))))))
 .ret)))
def a124 : AF := .fn (ps16.take 31) b124 (.one x2)
def b125 : ACode := (.seq (.ops (.cons .no (.ye x2) (.W (.bx (.t x0)))
 (.p x4 (.mv (.c (.p 0)))
 .nil)))
 (.seq (.ops (.cons .no (.ye x8) (.L (.l (.many (.t x2) 6)))
 (.m x9 x1
 (.s x10 144 [(.t x8), (.t x9)]
 (.m x7 x10
 (.p x11 (.ex (.t x7) 0)
 (.p x12 (.ex (.t x7) 1)
 (.m x5 x11
 (.m x6 x12
 .nil)))))))))
 (.seq (.ops (.m x13 x6
 (.m x4 x13
 .nil)))
 .ret)))
def a125 : AF := .fn (ps16.take 14) b125 (.one x4)
def b126 : ACode := (.seq (.ops (.cons .no (.ye x3) (.W (.bx (.t x1)))
 (.p x4 (.mv (.c (.p 0)))
 (.p x5 (.mv (.c (.p 0)))
 .nil))))
 (.seq (.seq (.ops (.p x11 (.fa (.t x3) 0)
 (.l x12 (.t x11)
 .nil)))
 (.blk 0 (.seq (.ops (.p x14 (.bin .eql (.t x12) (.c (.p 1)))
 (.m x13 x14
 .nil)))
 (.cond (.t x13) (.seq (.ops (.m x15 x0
 (.p x16 (.fa (.t x3) 2)
 (.l x17 (.t x16)
 (.s x18 42 [(.t x15), (.t x17)]
 (.p x19 (.ex (.t x18) 0)
 (.p x20 (.ex (.t x18) 1)
 (.m x4 x19
 (.m x5 x20
 .nil)))))))))
 .ret)
 (.seq (.ops (.p x22 (.bin .eql (.t x12) (.c (.p 2)))
 (.m x21 x22
 .nil)))
 (.cond (.t x21) (.seq (.ops (.m x23 x0
 (.p x24 (.fa (.t x3) 1)
 (.l x25 (.t x24)
 (.s x26 43 [(.t x23), (.t x25)]
 (.p x27 (.ex (.t x26) 0)
 (.p x28 (.ex (.t x26) 1)
 (.m x4 x27
 (.m x5 x28
 .nil)))))))))
 .ret)
 (.seq (.ops (.p x30 (.bin .eql (.t x12) (.c (.p 3)))
 (.m x29 x30
 .nil)))
 (.cond (.t x29) (.seq (.ops (.m x31 x0
 (.p x32 (.fa (.t x3) 1)
 (.l x33 (.t x32)
 (.s x34 44 [(.t x31), (.t x33)]
 (.p x35 (.ex (.t x34) 0)
 (.p x36 (.ex (.t x34) 1)
 (.m x4 x35
 (.m x5 x36
 .nil)))))))))
 .ret)
 .skip))))))))
 (.seq (.ops (.p x6 (.mv (.c .ns))
 .nil))
 (.seq (.seq (.ops (.p x37 (.fa (.t x3) 3)
 (.l x38 (.t x37)
 (.p x39 (.lnX (.t x38))
 (.p x40 (.mv (.c (.p 0)))
 .nil)))))
 (.blk 1 (.loop (.seq (.ops (.p x41 (.bin .lss (.t x40) (.t x39))
 .nil))
 (.seq (.cond (.t x41) .skip
 (.exit 1))
 (.seq (.blk 2 (.seq (.ops (.p x42 (.ia (.t x38) (.t x40) 4)
 (.cons .no (.ye x43) (.L (.l (.many (.t x42) 4)))
 (.cons .no (.ye x8) (.W (.al (.cons (.p 0) (.cons (.s 0 0) (.cons (.p 0) (.cons .ns .nil))))))
 (.cons .no .no (.W (.st (.t x8) 4 (.t x43)))
 .nil)))))
 (.seq (.ops (.m x45 x0
 (.cons .no (.ye x46) (.L (.l (.many (.t x8) 4)))
 (.s x47 126 [(.t x45), (.t x46)]
 (.m x44 x47
 (.p x48 (.ex (.t x44) 0)
 (.p x49 (.ex (.t x44) 1)
 (.m x9 x48
 (.m x10 x49
 .nil)))))))))
 (.seq (.seq (.ops (.m x50 x10
 (.p x51 (.bin .neq (.t x50) (.c (.p 0)))
 .nil)))
 (.cond (.t x51) (.seq (.ops (.m x52 x10
 (.p x4 (.mv (.c (.p 0)))
 (.m x5 x52
 .nil))))
 .ret)
 .skip))
 (.ops (.m x53 x6
 (.m x54 x9
 (.cons .no (.ye x55) (.W (.bs (.cons (.p 0) .nil) 1 [(0, 1, (.t x54))]))
 (.cons .no (.ye x56) (.W (.app 1 8 (.t x53) (.t x55)))
 (.m x6 x56
 .nil))))))))))
 (.ops (.p x57 (.bin .add (.t x40) (.c (.p 1)))
 (.m x40 x57
 .nil)))))))))
 (.seq (.ops (.m x58 x0
 (.m x59 x6
 (.s x60 46 [(.t x58), (.t x59)]
 (.p x61 (.ex (.t x60) 0)
 (.p x62 (.ex (.t x60) 1)
 (.m x4 x61
 (.m x5 x62
 .nil))))))))
 .ret)))))
def a126 : AF := .fn (ps16.take 63) b126 (.many [(.t x4), (.t x5)])
def b127 : ACode := (.seq (.ops (.p x2 (.mv (.c .ns))
 (.p x3 (.mv (.c (.p 0)))
 .nil)))
 (.seq (.seq (.ops (.m x7 x0
 (.p x8 (.lnX (.t x7))
 (.p x9 (.bin .gtr (.t x8) (.c (.p 400)))
 .nil))))
 (.cond (.t x9) (.seq (.ops (.p x2 (.mv (.c .ns))
 (.p x3 (.mv (.c (.p 19)))
 .nil)))
 .ret)
 .skip))
 (.seq (.ops (.p x4 (.mv (.c .ns))
 .nil))
 (.seq (.seq (.ops (.m x10 x0
 (.p x11 (.lnX (.t x10))
 (.p x12 (.mv (.c (.p 0)))
 .nil))))
 (.blk 0 (.loop (.seq (.ops (.p x13 (.bin .lss (.t x12) (.t x11))
 .nil))
 (.seq (.cond (.t x13) .skip
 (.exit 0))
 (.seq (.blk 1 (.seq (.ops (.p x14 (.ia (.t x10) (.t x12) 3)
 (.cons .no (.ye x15) (.L (.l (.many (.t x14) 3)))
 (.cons .no (.ye x6) (.W (.al (.cons (.p 0) (.cons (.p 0) (.cons (.p 0) .nil)))))
 (.cons .no .no (.W (.st (.t x6) 3 (.t x15)))
 .nil)))))
 (.seq (.seq (.ops (.cons .no (.ye x16) (.L (.l (.many (.t x6) 3)))
 (.s x17 124 [(.t x16)]
 (.p x18 (.nt (.t x17))
 .nil))))
 (.cond (.t x18) (.seq (.ops (.p x2 (.mv (.c .ns))
 (.p x3 (.mv (.c (.p 19)))
 .nil)))
 .ret)
 .skip))
 (.ops (.m x19 x4
 (.p x20 (.fa (.t x6) 0)
 (.l x21 (.t x20)
 (.p x22 (.cv .u8 (.t x21))
 (.p x23 (.fa (.t x6) 1)
 (.l x24 (.t x23)
 (.p x25 (.cv .u8 (.t x24))
 (.p x26 (.fa (.t x6) 2)
 (.l x27 (.t x26)
 (.p x28 (.cv .u8 (.t x27))
 (.cons .no (.ye x29) (.W (.bs (.cons (.w .u8 0) (.cons (.w .u8 0) (.cons (.w .u8 0) .nil))) 3 [(0, 1, (.t x22)), (1, 1, (.t x25)), (2, 1, (.t x28))]))
 (.cons .no (.ye x30) (.W (.app 1 1 (.t x19) (.t x29)))
 (.m x4 x30
 .nil)))))))))))))))))
 (.ops (.p x31 (.bin .add (.t x12) (.c (.p 1)))
 (.m x12 x31
 .nil)))))))))
 (.seq (.ops (.m x32 x4
 (.m x2 x32
 (.p x3 (.mv (.c (.p 0)))
 .nil))))
 .ret)))))
def a127 : AF := .fn (ps16.take 33) b127 (.many [(.t x2), (.t x3)])
def b128 : ACode := (.seq (.ops (.p x4 (.mv (.c (.p 0)))
 (.p x5 (.mv (.c (.p 0)))
 .nil)))
 (.seq (.ops (.p x6 (.mv (.c .ns))
 .nil))
 (.seq (.blk 0 (.loop (.seq (.seq (.ops (.m x10 x1
 (.p x11 (.lnX (.t x10))
 (.p x12 (.bin .gtr (.t x11) (.c (.p 0)))
 .nil))))
 (.cond (.t x12) .skip
 (.exit 0)))
 (.blk 1 (.seq (.ops (.m x13 x1
 (.p x14 (.lnX (.t x13))
 (.p x15 (.mm false (.t x14) (.c (.p 240)))
 (.m x7 x15
 .nil)))))
 (.seq (.draw (.h .no (.ye x17) (.P (.mv (.t x0)))
 (.h .no (.ye x18) (.P (.mv (.t x0)))
 (.h .no (.ye x20) (.P (.mv (.t x1)))
 (.h .no (.ye x21) (.P (.mv (.t x7)))
 (.h .no (.ye x22) (.P (.slx (.t x20) none (some (.t x21)) none 1))
 (.h .no (.ye x23) (.L (.b (.t x22)))
 (.c .no (.ye x19) (.S 30 [(.t x18), (.c (.p 10))]) (.cons .no (.b (.t x22)) x23 .nil)
 (.c .no (.ye x24) (.S 83 [(.t x17), (.t x19), (.t x23)]) .nil
 (.h .no (.ye x16) (.P (.mv (.t x24)))
 (.h .no (.ye x25) (.P (.ex (.t x16) 0))
 (.h .no (.ye x26) (.P (.ex (.t x16) 1))
 (.h .no (.ye x8) (.P (.mv (.t x25)))
 (.h .no (.ye x9) (.P (.mv (.t x26)))
 .nil))))))))))))))
 (.seq (.seq (.ops (.m x27 x9
 (.p x28 (.bin .neq (.t x27) (.c (.p 0)))
 .nil)))
 (.cond (.t x28) (.seq (.ops (.m x29 x9
 (.p x4 (.mv (.c (.p 0)))
 (.m x5 x29
 .nil))))
 .ret)
 .skip))
 (.draw (.h .no (.ye x30) (.P (.mv (.t x6)))
 (.h .no (.ye x31) (.P (.mv (.t x8)))
 (.h .no (.ye x34) (.P (.mv (.t x1)))
 (.h .no (.ye x35) (.P (.mv (.t x7)))
 (.h .no (.ye x36) (.P (.slx (.t x34) (some (.t x35)) none none 1))
 (.c .no (.ye x32) (.W (.bs (.cons (.p 0) .nil) 1 [(0, 1, (.t x31))])) .nil
 (.c .no (.ye x33) (.W (.app 1 8 (.t x30) (.t x32))) .nil
 (.h .no (.ye x6) (.P (.mv (.t x33)))
 (.h .no (.ye x1) (.P (.mv (.t x36)))
 .nil)))))))))))))))))
 (.seq (.ops (.m x37 x0
 (.m x38 x6
 (.s x39 46 [(.t x37), (.t x38)]
 (.p x40 (.ex (.t x39) 0)
 (.p x41 (.ex (.t x39) 1)
 (.m x4 x40
 (.m x5 x41
 .nil))))))))
 .ret))))
def a128 : AF := .fn (ps16.take 42) b128 (.many [(.t x4), (.t x5)])
def b129 : ACode := (.seq (.ops (.p x6 (.mv (.c (.s 0 0)))
 .nil))
 (.seq (.ops (.m x8 x0
 (.p x9 (.nck (.t x8))
 (.p x10 (.fa (.t x9) 1)
 (.l x11 (.t x10)
 (.m x7 x11
 .nil))))))
 (.seq (.blk 0 (.loop (.seq (.seq (.draw (.h .no (.ye x12) (.P (.mv (.t x0)))
 (.h .no (.ye x13) (.P (.nck (.t x12)))
 (.h .no (.ye x14) (.P (.fa (.t x13) 1))
 (.h .no (.ye x15) (.L (.l (.one (.t x14))))
 (.h .no (.ye x16) (.P (.mv (.t x0)))
 (.h .no (.ye x17) (.P (.nck (.t x16)))
 (.h .no (.ye x18) (.P (.fa (.t x17) 0))
 (.h .no (.ye x19) (.L (.l (.one (.t x18))))
 (.h .no (.ye x20) (.P (.lnS (.t x19)))
 (.h .no (.ye x21) (.P (.bin .lss (.t x15) (.t x20)))
 (.h .no (.ye x22) (.P (.mv (.t x21)))
 (.h (.ye x22 true) (.ye x23) (.P (.mv (.t x0)))
 (.h (.ye x22 true) (.ye x24) (.P (.nck (.t x23)))
 (.h (.ye x22 true) (.ye x25) (.P (.fa (.t x24) 1))
 (.h (.ye x22 true) (.ye x26) (.L (.l (.one (.t x25))))
 (.h (.ye x22 true) (.ye x27) (.P (.mv (.t x7)))
 (.h (.ye x22 true) (.ye x28) (.P (.bin .sub (.t x26) (.t x27)))
 (.h (.ye x22 true) (.ye x29) (.P (.mv (.t x2)))
 (.h (.ye x22 true) (.ye x30) (.P (.bin .lss (.t x28) (.t x29)))
 (.h .no (.ye x31) (.P (.pick (.t x22) (.t x30) (.c (.b false))))
 (.h .no (.ye x32) (.P (.mv (.t x31)))
 (.h (.ye x32 true) (.ye x33) (.P (.mv (.t x1)))
 (.h (.ye x32 true) (.ye x34) (.P (.mv (.t x0)))
 (.h (.ye x32 true) (.ye x35) (.P (.nck (.t x34)))
 (.h (.ye x32 true) (.ye x36) (.P (.fa (.t x35) 0))
 (.h (.ye x32 true) (.ye x37) (.L (.l (.one (.t x36))))
 (.h (.ye x32 true) (.ye x38) (.P (.mv (.t x0)))
 (.h (.ye x32 true) (.ye x39) (.P (.nck (.t x38)))
 (.h (.ye x32 true) (.ye x40) (.P (.fa (.t x39) 1))
 (.h (.ye x32 true) (.ye x41) (.L (.l (.one (.t x40))))
 (.h (.ye x32 true) (.ye x42) (.P (.ixs (.t x37) (.t x41)))
 (.c (.ye x32 true) (.ye x43) (.V (.t x33) [(.t x42)]) .nil
 (.h .no (.ye x44) (.P (.pick (.t x32) (.t x43) (.c (.b false))))
 .nil))))))))))))))))))))))))))))))))))
 (.cond (.t x44) .skip
 (.exit 0)))
 (.blk 1 (.ops (.m x45 x0
 (.p x46 (.nck (.t x45))
 (.p x47 (.fa (.t x46) 1)
 (.l x48 (.t x47)
 (.p x49 (.bin .add (.t x48) (.c (.p 1)))
 (.p x50 (.nck (.t x45))
 (.p x51 (.fa (.t x50) 1)
 (.cons .no .no (.W (.st (.t x51) 1 (.t x49)))
 .nil)))))))))))))
 (.seq (.draw (.h .no (.ye x52) (.P (.mv (.t x0)))
 (.h .no (.ye x53) (.P (.nck (.t x52)))
 (.h .no (.ye x54) (.P (.fa (.t x53) 0))
 (.h .no (.ye x55) (.L (.l (.one (.t x54))))
 (.h .no (.ye x56) (.P (.mv (.t x7)))
 (.h .no (.ye x57) (.P (.mv (.t x0)))
 (.h .no (.ye x58) (.P (.nck (.t x57)))
 (.h .no (.ye x59) (.P (.fa (.t x58) 1))
 (.h .no (.ye x60) (.L (.l (.one (.t x59))))
 (.h .no (.ye x61) (.P (.sls (.t x55) (some (.t x56)) (some (.t x60))))
 (.h .no (.ye x6) (.P (.mv (.t x61)))
 .nil))))))))))))
 .ret))))
def a129 : AF := .fn (ps16.take 62) b129 (.one x6)
def b130 : ACode := (.seq (.ops (.cons .no (.ye x1) (.W (.bx (.t x0)))
 (.p x2 (.mv (.c .nf))
 .nil)))
 (.seq (.ops (.p x3 (.mf 145 [] [(.t x1)])
 (.m x2 x3
 .nil)))
 .ret))
def a130 : AF := .fn (ps16.take 4) b130 (.one x2)
def b131 : ACode := (.seq (.ops (.p x4 (.mv (.c (.p 0)))
 .nil))
 (.seq (.ops (.m x5 x0
 (.m x6 x1
 (.s x7 146 [(.t x5), (.t x6)]
 (.m x4 x7
 .nil)))))
 .ret))
def a131 : AF := .fn (ps16.take 8) b131 (.one x4)
def b132 : ACode := (.seq (.ops (.cons .no (.ye x2) (.W (.al (.cons (.p 0) (.cons (.s 0 0) (.cons (.p 0) (.cons (.p 0) .nil))))))
 (.p x3 (.mv (.c (.p 0)))
 .nil)))
 (.seq (.ops (.m x7 x0
 (.p x8 (.nck (.t x7))
 (.p x9 (.fa (.t x8) 1)
 (.l x10 (.t x9)
 (.p x11 (.bd (.cons (.p 0) (.cons (.s 0 0) (.cons (.p 0) (.cons (.p 0) .nil)))) [(3, 1, (.t x10))])
 (.cons .no (.ye x4) (.W (.al (.cons (.p 0) (.cons (.s 0 0) (.cons (.p 0) (.cons (.p 0) .nil))))))
 (.cons .no .no (.W (.st (.t x4) 4 (.t x11)))
 .nil))))))))
 (.seq (.ops (.p x5 (.mv (.c (.p 0)))
 .nil))
 (.seq (.ops (.m x12 x0
 (.s x13 147 [(.t x12), (.c (.p 0))]
 (.m x6 x13
 .nil))))
 (.seq (.blk 0 (.seq (.ops (.m x15 x6
 (.s x16 148 [(.t x15)]
 (.m x14 x16
 .nil))))
 (.cond (.t x14) (.seq (.ops (.p x17 (.fa (.t x4) 0)
 (.cons .no .no (.W (.st (.t x17) 1 (.c (.p 1))))
 .nil)))
 (.seq (.ops (.m x19 x0
 (.s x20 149 [(.t x19)]
 (.m x18 x20
 (.p x21 (.ex (.t x18) 0)
 (.p x22 (.ex (.t x18) 1)
 (.p x23 (.fa (.t x4) 1)
 (.cons .no .no (.W (.st (.t x23) 1 (.t x21)))
 (.m x5 x22
 .nil)))))))))
 (.seq (.ops (.m x24 x5
 (.p x25 (.bin .eql (.t x24) (.c (.p 0)))
 (.m x26 x25
 (.cons (.ye x26 true) (.ye x27) (.P (.mv (.t x0)))
 (.cons (.ye x26 true) (.ye x28) (.S 150 [(.t x27)])
 (.p x29 (.pick (.t x26) (.t x28) (.c (.b false)))
 .nil)))))))
 (.cond (.t x29) (.ops (.p x30 (.fa (.t x4) 1)
 (.l x31 (.t x30)
 (.p x32 (.bin .add (.t x31) (.c (.s 1 58)))
 (.p x33 (.fa (.t x4) 0)
 (.cons .no .no (.W (.st (.t x33) 1 (.c (.p 2))))
 (.p x34 (.fa (.t x4) 1)
 (.cons .no .no (.W (.st (.t x34) 1 (.t x32)))
 .nil))))))))
 .skip))))
 (.seq (.ops (.m x36 x6
 (.s x37 151 [(.t x36)]
 (.m x35 x37
 .nil))))
 (.cond (.t x35) (.seq (.ops (.p x38 (.fa (.t x4) 0)
 (.cons .no .no (.W (.st (.t x38) 1 (.c (.p 4))))
 .nil)))
 (.ops (.m x40 x0
 (.s x41 152 [(.t x40)]
 (.m x39 x41
 (.p x42 (.ex (.t x39) 0)
 (.p x43 (.ex (.t x39) 1)
 (.p x44 (.fa (.t x4) 2)
 (.cons .no .no (.W (.st (.t x44) 1 (.t x42)))
 (.m x5 x43
 .nil))))))))))
 (.seq (.ops (.m x46 x6
 (.p x47 (.bin .eql (.t x46) (.c (.w .u8 39)))
 (.m x45 x47
 .nil))))
 (.cond (.t x45) (.seq (.ops (.m x48 x0
 (.p x49 (.nck (.t x48))
 (.p x50 (.fa (.t x49) 1)
 (.l x51 (.t x50)
 (.p x52 (.bin .add (.t x51) (.c (.p 1)))
 (.p x53 (.nck (.t x48))
 (.p x54 (.fa (.t x53) 1)
 (.cons .no .no (.W (.st (.t x54) 1 (.t x52)))
 .nil)))))))))
 (.seq (.ops (.p x55 (.fa (.t x4) 0)
 (.cons .no .no (.W (.st (.t x55) 1 (.c (.p 5))))
 .nil)))
 (.ops (.m x57 x0
 (.s x58 153 [(.t x57)]
 (.m x56 x58
 (.p x59 (.ex (.t x56) 0)
 (.p x60 (.ex (.t x56) 1)
 (.p x61 (.fa (.t x4) 1)
 (.cons .no .no (.W (.st (.t x61) 1 (.t x59)))
 (.m x5 x60
 .nil)))))))))))
 (.seq (.ops (.m x63 x6
 (.p x64 (.bin .eql (.t x63) (.c (.w .u8 35)))
 (.m x65 x64
 (.cons (.ye x65 true) (.ye x66) (.P (.mv (.t x0)))
 (.cons (.ye x65 true) (.ye x67) (.S 147 [(.t x66), (.c (.p 1))])
 (.cons (.ye x65 true) (.ye x68) (.P (.bin .eql (.t x67) (.c (.w .u8 40))))
 (.p x69 (.pick (.t x65) (.t x68) (.c (.b false)))
 (.m x62 x69
 .nil)))))))))
 (.cond (.t x62) (.seq (.ops (.m x70 x0
 (.p x71 (.nck (.t x70))
 (.p x72 (.fa (.t x71) 1)
 (.l x73 (.t x72)
 (.p x74 (.bin .add (.t x73) (.c (.p 2)))
 (.p x75 (.nck (.t x70))
 (.p x76 (.fa (.t x75) 1)
 (.cons .no .no (.W (.st (.t x76) 1 (.t x74)))
 .nil)))))))))
 (.ops (.p x77 (.fa (.t x4) 0)
 (.cons .no .no (.W (.st (.t x77) 1 (.c (.p 7))))
 .nil))))
 (.seq (.ops (.m x79 x6
 (.p x80 (.bin .eql (.t x79) (.c (.w .u8 35)))
 (.m x78 x80
 .nil))))
 (.cond (.t x78) (.seq (.ops (.m x81 x0
 (.p x82 (.nck (.t x81))
 (.p x83 (.fa (.t x82) 1)
 (.l x84 (.t x83)
 (.p x85 (.bin .add (.t x84) (.c (.p 1)))
 (.p x86 (.nck (.t x81))
 (.p x87 (.fa (.t x86) 1)
 (.cons .no .no (.W (.st (.t x87) 1 (.t x85)))
 .nil)))))))))
 (.seq (.ops (.p x88 (.fa (.t x4) 0)
 (.cons .no .no (.W (.st (.t x88) 1 (.c (.p 6))))
 .nil)))
 (.ops (.m x90 x0
 (.s x91 154 [(.t x90)]
 (.m x89 x91
 (.p x92 (.ex (.t x89) 0)
 (.p x93 (.ex (.t x89) 1)
 (.p x94 (.fa (.t x4) 1)
 (.cons .no .no (.W (.st (.t x94) 1 (.t x92)))
 (.m x5 x93
 .nil)))))))))))
 (.seq (.ops (.m x96 x6
 (.p x97 (.bin .eql (.t x96) (.c (.w .u8 58)))
 (.m x98 x97
 (.cons (.ye x98 true) (.ye x99) (.P (.mv (.t x0)))
 (.cons (.ye x98 true) (.ye x100) (.S 147 [(.t x99), (.c (.p 1))])
 (.cons (.ye x98 true) (.ye x101) (.P (.bin .eql (.t x100) (.c (.w .u8 61))))
 (.p x102 (.pick (.t x98) (.t x101) (.c (.b false)))
 (.m x95 x102
 .nil)))))))))
 (.cond (.t x95) (.seq (.ops (.m x103 x0
 (.p x104 (.nck (.t x103))
 (.p x105 (.fa (.t x104) 1)
 (.l x106 (.t x105)
 (.p x107 (.bin .add (.t x106) (.c (.p 2)))
 (.p x108 (.nck (.t x103))
 (.p x109 (.fa (.t x108) 1)
 (.cons .no .no (.W (.st (.t x109) 1 (.t x107)))
 .nil)))))))))
 (.ops (.p x110 (.fa (.t x4) 0)
 (.cons .no .no (.W (.st (.t x110) 1 (.c (.p 9))))
 .nil))))
 (.seq (.ops (.m x112 x6
 (.p x113 (.bin .eql (.t x112) (.c (.w .u8 58)))
 (.m x114 x113
 (.cons (.ye x114 true) (.ye x115) (.P (.mv (.t x0)))
 (.cons (.ye x114 true) (.ye x116) (.S 147 [(.t x115), (.c (.p 1))])
 (.cons (.ye x114 true) (.ye x117) (.S 148 [(.t x116)])
 (.p x118 (.pick (.t x114) (.t x117) (.c (.b false)))
 (.m x111 x118
 .nil)))))))))
 (.cond (.t x111) (.seq (.ops (.m x119 x0
 (.p x120 (.nck (.t x119))
 (.p x121 (.fa (.t x120) 1)
 (.l x122 (.t x121)
 (.p x123 (.bin .add (.t x122) (.c (.p 1)))
 (.p x124 (.nck (.t x119))
 (.p x125 (.fa (.t x124) 1)
 (.cons .no .no (.W (.st (.t x125) 1 (.t x123)))
 .nil)))))))))
 (.seq (.ops (.p x126 (.fa (.t x4) 0)
 (.cons .no .no (.W (.st (.t x126) 1 (.c (.p 8))))
 .nil)))
 (.ops (.m x128 x0
 (.s x129 149 [(.t x128)]
 (.m x127 x129
 (.p x130 (.ex (.t x127) 0)
 (.p x131 (.ex (.t x127) 1)
 (.p x132 (.fa (.t x4) 1)
 (.cons .no .no (.W (.st (.t x132) 1 (.t x130)))
 (.m x5 x131
 .nil)))))))))))
 (.seq (.ops (.s x134 130 [(.c (.s 12 11497187596743261602538204459))]
 (.m x135 x6
 (.cons .no (.ye x136) (.V (.t x134) [(.t x135)])
 (.m x133 x136
 .nil)))))
 (.cond (.t x133) (.ops (.m x137 x0
 (.s x138 130 [(.c (.s 12 11497187596743261602538204459))]
 (.s x139 129 [(.t x137), (.t x138), (.c (.p 2))]
 (.p x140 (.fa (.t x4) 0)
 (.cons .no .no (.W (.st (.t x140) 1 (.c (.p 3))))
 (.p x141 (.fa (.t x4) 1)
 (.cons .no .no (.W (.st (.t x141) 1 (.t x139)))
 .nil))))))))
 (.seq (.ops (.s x143 130 [(.c (.s 8 8961419065863908958))]
 (.m x144 x6
 (.cons .no (.ye x145) (.V (.t x143) [(.t x144)])
 (.m x142 x145
 .nil)))))
 (.cond (.t x142) (.ops (.m x146 x0
 (.s x147 130 [(.c (.s 8 8961419065863908958))]
 (.s x148 129 [(.t x146), (.t x147), (.c (.p 1))]
 (.p x149 (.fa (.t x4) 0)
 (.cons .no .no (.W (.st (.t x149) 1 (.c (.p 10))))
 (.p x150 (.fa (.t x4) 1)
 (.cons .no .no (.W (.st (.t x150) 1 (.t x148)))
 .nil))))))))
 (.ops (.p x5 (.mv (.c (.p 10)))
 .nil)))))))))))))))))))))
 (.seq (.ops (.cons .no (.ye x151) (.L (.l (.many (.t x4) 4)))
 (.m x152 x5
 (.cons .no .no (.W (.st (.t x2) 4 (.t x151)))
 (.m x3 x152
 .nil)))))
 .ret))))))
def a132 : AF := .fn (ps16.take 153) b132 (.many [(.c (.many (.t x2) 4)), (.t x3)])
def b133 : ACode := (.seq (.ops (.p x6 (.mv (.c (.b false)))
 .nil))
 (.seq (.ops (.m x8 x0
 (.s x9 137 [(.t x8), (.c (.p 0))]
 (.cons .no (.ye x7) (.W (.al (.cons (.p 0) (.cons (.s 0 0) (.cons (.p 0) (.cons (.p 0) .nil))))))
 (.cons .no .no (.W (.st (.t x7) 4 (.t x9)))
 .nil)))))
 (.seq (.ops (.m x10 x0
 (.p x11 (.nck (.t x10))
 (.p x12 (.fa (.t x11) 3)
 (.l x13 (.t x12)
 (.p x14 (.bin .eql (.t x13) (.c (.p 0)))
 (.m x15 x14
 (.cons (.ye x15 true) (.ye x16) (.P (.fa (.t x7) 0))
 (.cons (.ye x15 true) (.ye x17) (.L (.l (.one (.t x16))))
 (.cons (.ye x15 true) (.ye x18) (.P (.mv (.t x1)))
 (.cons (.ye x15 true) (.ye x19) (.P (.bin .eql (.t x17) (.t x18)))
 (.p x20 (.pick (.t x15) (.t x19) (.c (.b false)))
 (.m x21 x20
 (.cons (.ye x21 true) (.ye x22) (.P (.mv (.t x2)))
 (.cons (.ye x21 true) (.ye x23) (.P (.bin .eql (.t x22) (.c (.s 0 0))))
 (.cons (.ye x21 true) (.ye x24) (.P (.mv (.t x23)))
 (.cons (.ye x24 false) (.ye x25) (.P (.fa (.t x7) 1))
 (.cons (.ye x24 false) (.ye x26) (.L (.l (.one (.t x25))))
 (.cons (.ye x24 false) (.ye x27) (.P (.mv (.t x2)))
 (.cons (.ye x24 false) (.ye x28) (.P (.bin .eql (.t x26) (.t x27)))
 (.cons (.ye x21 true) (.ye x29) (.P (.pick (.t x24) (.c (.b true)) (.t x28)))
 (.p x30 (.pick (.t x21) (.t x29) (.c (.b false)))
 (.m x6 x30
 .nil)))))))))))))))))))))))
 .ret)))
def a133 : AF := .fn (ps16.take 31) b133 (.one x6)
def b134 : ACode := (.seq (.ops (.cons .no (.ye x2) (.W (.al (.cons (.p 0) (.cons (.s 0 0) (.cons (.p 0) (.cons (.p 0) .nil))))))
 .nil))
 (.seq (.ops (.m x4 x0
 (.s x5 137 [(.t x4), (.c (.p 0))]
 (.cons .no (.ye x3) (.W (.al (.cons (.p 0) (.cons (.s 0 0) (.cons (.p 0) (.cons (.p 0) .nil))))))
 (.cons .no .no (.W (.st (.t x3) 4 (.t x5)))
 .nil)))))
 (.seq (.seq (.ops (.p x6 (.fa (.t x3) 0)
 (.l x7 (.t x6)
 (.p x8 (.bin .neq (.t x7) (.c (.p 0)))
 .nil))))
 (.cond (.t x8) (.ops (.m x9 x0
 (.m x10 x0
 (.p x11 (.nck (.t x10))
 (.p x12 (.fa (.t x11) 0)
 (.l x13 (.t x12)
 (.p x14 (.slx (.t x13) (some (.c (.p 1))) none none 4)
 (.p x15 (.nck (.t x9))
 (.p x16 (.fa (.t x15) 0)
 (.cons .no .no (.W (.st (.t x16) 1 (.t x14)))
 .nil))))))))))
 .skip))
 (.seq (.ops (.cons .no (.ye x17) (.L (.l (.many (.t x3) 4)))
 (.cons .no .no (.W (.st (.t x2) 4 (.t x17)))
 .nil)))
 .ret))))
def a134 : AF := .fn (ps16.take 18) b134 (.onec (.many (.t x2) 4))
def b135 : ACode := (.seq (.ops (.cons .no (.ye x2) (.W (.al (.cons (.p 0) (.cons (.s 0 0) (.cons (.p 0) (.cons .ns (.cons .ns (.cons .ns .nil))))))))
 .nil))
 (.seq (.seq (.ops (.m x4 x0
 (.s x5 133 [(.t x4), (.c (.p 1)), (.c (.s 0 0))]
 (.m x6 x5
 (.cons (.ye x6 true) (.ye x7) (.P (.mv (.t x0)))
 (.cons (.ye x6 true) (.ye x8) (.S 137 [(.t x7), (.c (.p 1))])
 (.cons (.ye x6 true) (.ye x9) (.P (.fd (.t x8) 0))
 (.cons (.ye x6 true) (.ye x10) (.P (.bin .eql (.t x9) (.c (.p 9))))
 (.p x11 (.pick (.t x6) (.t x10) (.c (.b false)))
 .nil)))))))))
 (.cond (.t x11) (.seq (.ops (.m x12 x0
 (.s x13 134 [(.t x12)]
 (.p x14 (.fd (.t x13) 1)
 (.p x15 (.bd (.cons (.p 0) (.cons (.s 0 0) (.cons (.p 0) (.cons .ns (.cons .ns (.cons .ns .nil)))))) [(0, 1, (.c (.p 6))), (1, 1, (.t x14))])
 (.cons .no (.ye x3) (.W (.al (.cons (.p 0) (.cons (.s 0 0) (.cons (.p 0) (.cons .ns (.cons .ns (.cons .ns .nil))))))))
 (.cons .no .no (.W (.st (.t x3) 6 (.t x15)))
 .nil)))))))
 (.seq (.ops (.m x16 x0
 (.s x17 134 [(.t x16)]
 .nil)))
 (.seq (.ops (.m x18 x0
 (.s x19 135 [(.t x18)]
 (.cons .no (.ye x20) (.W (.bs (.cons (.p 0) (.cons (.s 0 0) (.cons (.p 0) (.cons .ns (.cons .ns (.cons .ns .nil)))))) 1 [(0, 6, (.t x19))]))
 (.p x21 (.fa (.t x3) 5)
 (.cons .no .no (.W (.st (.t x21) 1 (.t x20)))
 .nil))))))
 (.seq (.ops (.cons .no (.ye x22) (.L (.l (.many (.t x3) 6)))
 (.cons .no .no (.W (.st (.t x2) 6 (.t x22)))
 .nil)))
 .ret))))
 .skip))
 (.seq (.ops (.m x23 x0
 (.s x24 155 [(.t x23)]
 (.cons .no .no (.W (.st (.t x2) 6 (.t x24)))
 .nil))))
 .ret)))
def a135 : AF := .fn (ps16.take 25) b135 (.onec (.many (.t x2) 6))
def b136 : ACode := (.seq (.ops (.cons .no (.ye x4) (.W (.bx (.t x1)))
 .nil))
 (.seq (.ops (.m x6 x0
 (.p x7 (.nck (.t x6))
 (.p x8 (.fa (.t x7) 3)
 (.l x9 (.t x8)
 (.p x10 (.bin .eql (.t x9) (.c (.p 0)))
 .nil))))))
 (.cond (.t x10) (.ops (.m x11 x0
 (.m x12 x0
 (.p x13 (.fa (.t x4) 3)
 (.l x14 (.t x13)
 (.m x15 x2
 (.p x16 (.nck (.t x11))
 (.p x17 (.fa (.t x16) 2)
 (.cons .no .no (.W (.st (.t x17) 1 (.t x14)))
 (.p x18 (.nck (.t x12))
 (.p x19 (.fa (.t x18) 3)
 (.cons .no .no (.W (.st (.t x19) 1 (.t x15)))
 .nil))))))))))))
 .skip)))
def a136 : AF := .fn (ps16.take 20) b136 .none
def b137 : ACode := (.seq (.ops (.cons .no (.ye x4) (.W (.al (.cons (.p 0) (.cons (.s 0 0) (.cons (.p 0) (.cons (.p 0) .nil))))))
 .nil))
 (.seq (.draw (.h .no (.ye x5) (.P (.mv (.t x0)))
 (.h .no (.ye x6) (.P (.nck (.t x5)))
 (.h .no (.ye x7) (.P (.fa (.t x6) 0))
 (.h .no (.ye x8) (.L (.l (.one (.t x7))))
 (.h .no (.ye x9) (.P (.mv (.t x1)))
 (.h .no (.ye x10) (.P (.mv (.t x0)))
 (.h .no (.ye x11) (.P (.nck (.t x10)))
 (.h .no (.ye x12) (.P (.fa (.t x11) 0))
 (.h .no (.ye x13) (.L (.l (.one (.t x12))))
 (.h .no (.ye x14) (.P (.lnX (.t x13)))
 (.h .no (.ye x15) (.P (.bin .sub (.t x14) (.c (.p 1))))
 (.h .no (.ye x16) (.P (.mm false (.t x9) (.t x15)))
 (.h .no (.ye x17) (.P (.ia (.t x8) (.t x16) 4))
 (.h .no (.ye x18) (.L (.l (.many (.t x17) 4)))
 (.c .no .no (.W (.st (.t x4) 4 (.t x18))) .nil
 .nil))))))))))))))))
 .ret))
def a137 : AF := .fn (ps16.take 19) b137 (.onec (.many (.t x4) 4))
def b138 : ACode := (.seq (.ops (.p x6 (.mv (.c (.s 0 0)))
 .nil))
 (.seq (.ops (.m x8 x0
 (.m x9 x1
 (.s x10 120 [(.t x8), (.t x9), (.c (.s 0 0))]
 (.cons .no (.ye x7) (.W (.al (.cons (.p 0) (.cons (.s 0 0) (.cons (.p 0) (.cons (.p 0) .nil))))))
 (.cons .no .no (.W (.st (.t x7) 4 (.t x10)))
 .nil))))))
 (.seq (.seq (.ops (.m x11 x2
 (.p x12 (.lnX (.t x11))
 (.p x13 (.bin .eql (.t x12) (.c (.p 4)))
 .nil))))
 (.cond (.t x13) (.ops (.m x14 x0
 (.cons .no (.ye x15) (.L (.l (.many (.t x7) 4)))
 (.s x16 136 [(.t x14), (.t x15), (.c (.p 18))]
 .nil))))
 .skip))
 (.seq (.ops (.p x17 (.fa (.t x7) 1)
 (.l x18 (.t x17)
 (.m x6 x18
 .nil))))
 .ret))))
def a138 : AF := .fn (ps16.take 19) b138 (.one x6)
def b139 : ACode := (.seq (.ops (.m x10 x1
 (.p x11 (.lnX (.t x10))
 (.p x12 (.mv (.c (.p 0)))
 .nil))))
 (.blk 0 (.loop (.seq (.ops (.p x13 (.bin .lss (.t x12) (.t x11))
 .nil))
 (.seq (.cond (.t x13) .skip
 (.exit 0))
 (.seq (.blk 1 (.seq (.ops (.p x14 (.ia (.t x10) (.t x12) 1)
 (.l x15 (.t x14)
 (.m x7 x15
 .nil))))
 (.seq (.seq (.ops (.m x17 x0
 (.m x18 x7
 (.s x19 156 [(.t x17), (.t x18)]
 (.m x16 x19
 (.p x20 (.ex (.t x16) 0)
 (.p x21 (.ex (.t x16) 1)
 (.cons .no (.ye x8) (.W (.al (.cons (.s 0 0) (.cons (.b false) (.cons (.b false) (.cons (.p 0) .nil))))))
 (.cons .no .no (.W (.st (.t x8) 4 (.t x20)))
 (.m x9 x21
 .nil))))))))))
 (.seq (.ops (.m x22 x9
 (.m x23 x22
 (.cons (.ye x23 false) (.ye x24) (.P (.mv (.t x7)))
 (.cons (.ye x23 false) (.ye x25) (.S 157 [(.t x24)])
 (.p x26 (.pick (.t x23) (.c (.b true)) (.t x25))
 .nil))))))
 (.cond (.t x26) (.ops (.m x27 x0
 (.m x28 x7
 (.s x29 158 [(.t x27), (.t x28), (.c (.p 16))]
 .nil))))
 .skip)))
 (.seq (.seq (.ops (.m x30 x0
 (.p x31 (.nck (.t x30))
 (.p x32 (.fa (.t x31) 0)
 (.p x33 (.fa (.t x32) 2)
 (.l x34 (.t x33)
 (.p x35 (.bin .eql (.t x34) (.c (.p 24)))
 .nil)))))))
 (.cond (.t x35) (.ops (.m x36 x0
 (.m x37 x7
 (.s x38 158 [(.t x36), (.t x37), (.c (.p 18))]
 .nil))))
 .skip))
 (.seq (.seq (.ops (.m x39 x0
 (.p x40 (.nck (.t x39))
 (.p x41 (.fa (.t x40) 8)
 (.l x42 (.t x41)
 (.p x43 (.bin .neq (.t x42) (.c (.p 0)))
 .nil))))))
 (.cond (.t x43) .ret
 .skip))
 (.seq (.draw (.h .no (.ye x44) (.P (.mv (.t x0)))
 (.h .no (.ye x45) (.P (.mv (.t x0)))
 (.h .no (.ye x46) (.P (.nck (.t x45)))
 (.h .no (.ye x47) (.P (.fa (.t x46) 6))
 (.h .no (.ye x48) (.L (.l (.one (.t x47))))
 (.h .no (.ye x49) (.P (.mv (.t x7)))
 (.h .no (.ye x50) (.P (.mv (.t x2)))
 (.h .no (.ye x51) (.P (.mv (.t x0)))
 (.h .no (.ye x52) (.P (.nck (.t x51)))
 (.h .no (.ye x53) (.P (.fa (.t x52) 0))
 (.h .no (.ye x54) (.P (.fa (.t x53) 2))
 (.h .no (.ye x55) (.L (.l (.one (.t x54))))
 (.h .no (.ye x56) (.P (.bd (.cons (.s 0 0) (.cons (.b false) (.cons (.b false) (.cons (.p 0) .nil)))) [(0, 1, (.t x49)), (1, 1, (.c (.b false))), (2, 1, (.t x50)), (3, 1, (.t x55))]))
 (.c .no (.ye x57) (.W (.bs (.cons (.s 0 0) (.cons (.b false) (.cons (.b false) (.cons (.p 0) .nil)))) 1 [(0, 4, (.t x56))])) (.cons .no (.l (.one (.t x47))) x48 .nil)
 (.c .no (.ye x58) (.W (.app 4 32 (.t x48) (.t x57))) .nil
 (.h .no (.ye x59) (.P (.nck (.t x44)))
 (.h .no (.ye x60) (.P (.fa (.t x59) 6))
 (.c .no .no (.W (.st (.t x60) 1 (.t x58))) .nil
 .nil)))))))))))))))))))
 (.ops (.m x61 x0
 (.p x62 (.nck (.t x61))
 (.p x63 (.fa (.t x62) 0)
 (.p x64 (.fa (.t x63) 2)
 (.l x65 (.t x64)
 (.p x66 (.bin .add (.t x65) (.c (.p 1)))
 (.p x67 (.nck (.t x61))
 (.p x68 (.fa (.t x67) 0)
 (.p x69 (.fa (.t x68) 2)
 (.cons .no .no (.W (.st (.t x69) 1 (.t x66)))
 .nil)))))))))))))))))
 (.ops (.p x70 (.bin .add (.t x12) (.c (.p 1)))
 (.m x12 x70
 .nil)))))))))
def a139 : AF := .fn (ps16.take 71) b139 .none
def b140 : ACode := (.seq (.ops (.cons .no (.ye x3) (.W (.bx (.t x1)))
 .nil))
 (.seq (.seq (.ops (.m x5 x0
 (.p x6 (.nck (.t x5))
 (.p x7 (.fa (.t x6) 8)
 (.l x8 (.t x7)
 (.p x9 (.bin .neq (.t x8) (.c (.p 0)))
 .nil))))))
 (.cond (.t x9) .ret
 .skip))
 (.seq (.ops (.p x10 (.fa (.t x3) 0)
 (.l x11 (.t x10)
 .nil)))
 (.blk 0 (.seq (.seq (.ops (.p x15 (.bin .eql (.t x11) (.c (.p 1)))
 (.m x14 x15
 .nil)))
 (.cond (.t x14) .skip
 (.seq (.ops (.p x16 (.bin .eql (.t x11) (.c (.p 2)))
 (.m x14 x16
 .nil)))
 (.cond (.t x14) .skip
 (.seq (.ops (.p x17 (.bin .eql (.t x11) (.c (.p 3)))
 (.m x14 x17
 .nil)))
 (.cond (.t x14) .skip
 (.ops (.p x18 (.bin .eql (.t x11) (.c (.p 4)))
 (.m x14 x18
 .nil)))))))))
 (.cond (.t x14) (.ops (.m x19 x0
 (.m x20 x0
 (.m x21 x0
 (.cons .no (.ye x22) (.L (.l (.many (.t x3) 6)))
 (.s x23 160 [(.t x21), (.t x22)]
 (.s x24 159 [(.t x20), (.t x23)]
 (.s x25 141 [(.t x19), (.c (.p 6)), (.t x24), (.c (.p 0))]
 .nil))))))))
 (.seq (.ops (.p x27 (.bin .eql (.t x11) (.c (.p 5)))
 (.m x26 x27
 .nil)))
 (.cond (.t x26) (.ops (.m x28 x0
 (.p x29 (.fa (.t x3) 1)
 (.l x30 (.t x29)
 (.s x31 161 [(.t x28), (.t x30)]
 .nil)))))
 (.seq (.ops (.p x33 (.bin .eql (.t x11) (.c (.p 6)))
 (.m x32 x33
 .nil)))
 (.cond (.t x32) (.ops (.m x34 x0
 (.cons .no (.ye x35) (.L (.l (.many (.t x3) 6)))
 (.s x36 162 [(.t x34), (.t x35)]
 .nil))))
 (.seq (.ops (.p x38 (.bin .eql (.t x11) (.c (.p 7)))
 (.m x37 x38
 .nil)))
 (.cond (.t x37) (.ops (.m x39 x0
 (.cons .no (.ye x40) (.L (.l (.many (.t x3) 6)))
 (.s x41 163 [(.t x39), (.t x40)]
 .nil))))
 (.seq (.ops (.p x43 (.bin .eql (.t x11) (.c (.p 8)))
 (.m x42 x43
 .nil)))
 (.cond (.t x42) (.ops (.m x44 x0
 (.cons .no (.ye x45) (.L (.l (.many (.t x3) 6)))
 (.s x46 164 [(.t x44), (.t x45)]
 .nil))))
 (.seq (.ops (.p x48 (.bin .eql (.t x11) (.c (.p 9)))
 (.m x47 x48
 .nil)))
 (.cond (.t x47) (.seq (.draw (.h .no (.ye x49) (.P (.mv (.t x0)))
 (.h .no (.ye x50) (.P (.mv (.t x0)))
 (.h .no (.ye x51) (.P (.nck (.t x50)))
 (.h .no (.ye x52) (.P (.fa (.t x51) 0))
 (.h .no (.ye x53) (.P (.fa (.t x52) 2))
 (.h .no (.ye x54) (.L (.l (.one (.t x53))))
 (.h .no (.ye x55) (.P (.fa (.t x3) 3))
 (.h .no (.ye x56) (.L (.l (.one (.t x55))))
 (.h .no (.ye x57) (.P (.lnX (.t x56)))
 (.c .no (.ye x58) (.S 141 [(.t x49), (.c (.p 18)), (.t x54), (.t x57)]) .nil
 .nil)))))))))))
 (.seq (.ops (.m x59 x0
 (.s x60 165 [(.t x59), (.c (.p 16))]
 (.m x4 x60
 .nil))))
 (.seq (.ops (.m x61 x0
 (.cons .no (.ye x62) (.L (.l (.many (.t x3) 6)))
 (.s x63 166 [(.t x61), (.t x62)]
 .nil))))
 (.seq (.ops (.m x64 x0
 (.s x65 141 [(.t x64), (.c (.p 19)), (.c (.p 0)), (.c (.p 0))]
 .nil)))
 (.ops (.m x66 x4
 (.cons .no (.ye x67) (.V (.t x66) [])
 .nil)))))))
 (.seq (.ops (.p x69 (.bin .eql (.t x11) (.c (.p 10)))
 (.m x68 x69
 .nil)))
 (.cond (.t x68) (.seq (.ops (.m x70 x0
 (.cons .no (.ye x71) (.L (.l (.many (.t x3) 6)))
 (.s x72 167 [(.t x70), (.t x71)]
 .nil))))
 (.cond (.t x72) (.seq (.ops (.m x73 x0
 (.p x74 (.fa (.t x3) 5)
 (.l x75 (.t x74)
 (.p x76 (.ia (.t x75) (.c (.p 0)) 6)
 (.cons .no (.ye x77) (.L (.l (.many (.t x76) 6)))
 (.s x78 140 [(.t x73), (.t x77)]
 .nil)))))))
 (.ops (.m x79 x0
 (.s x80 141 [(.t x79), (.c (.p 20)), (.c (.p 0)), (.c (.p 0))]
 .nil))))
 .skip))
 (.ops (.m x12 x0
 (.s x13 158 [(.t x12), (.c (.s 0 0)), (.c (.p 1))]
 .nil)))))))))))))))))))))
def a140 : AF := .fn (ps16.take 81) b140 .none
def b141 : ACode := (.ops (.m x8 x0
 (.m x9 x0
 (.p x10 (.nck (.t x9))
 (.p x11 (.fa (.t x10) 0)
 (.p x12 (.fa (.t x11) 5)
 (.l x13 (.t x12)
 (.m x14 x1
 (.m x15 x2
 (.m x16 x3
 (.p x17 (.bd (.cons (.p 0) (.cons (.p 0) (.cons (.p 0) .nil))) [(0, 1, (.t x14)), (1, 1, (.t x15)), (2, 1, (.t x16))])
 (.cons .no (.ye x18) (.W (.bs (.cons (.p 0) (.cons (.p 0) (.cons (.p 0) .nil))) 1 [(0, 3, (.t x17))]))
 (.cons .no (.ye x19) (.W (.app 3 24 (.t x13) (.t x18)))
 (.p x20 (.nck (.t x8))
 (.p x21 (.fa (.t x20) 0)
 (.p x22 (.fa (.t x21) 5)
 (.cons .no .no (.W (.st (.t x22) 1 (.t x19)))
 .nil)))))))))))))))))
def a141 : AF := .fn (ps16.take 23) b141 .none
def b142 : ACode := (.seq (.ops (.p x2 (.mv (.c (.b false)))
 (.p x3 (.mv (.c (.b false)))
 .nil)))
 (.seq (.seq (.ops (.m x4 x0
 .nil))
 (.blk 0 (.seq (.blk 2 (.seq (.blk 1 (.seq (.seq (.seq (.seq (.ops (.p x6 (.bin .eql (.t x4) (.c (.p 14)))
 (.m x5 x6
 .nil)))
 (.cond (.t x5) .skip
 (.seq (.ops (.p x7 (.bin .eql (.t x4) (.c (.p 15)))
 (.m x5 x7
 .nil)))
 (.cond (.t x5) .skip
 (.seq (.ops (.p x8 (.bin .eql (.t x4) (.c (.p 16)))
 (.m x5 x8
 .nil)))
 (.cond (.t x5) .skip
 (.seq (.ops (.p x9 (.bin .eql (.t x4) (.c (.p 17)))
 (.m x5 x9
 .nil)))
 (.cond (.t x5) .skip
 (.ops (.p x10 (.bin .eql (.t x4) (.c (.p 18)))
 (.m x5 x10
 .nil)))))))))))
 (.cond (.t x5) (.exit 1)
 .skip))
 (.seq (.seq (.ops (.p x12 (.bin .eql (.t x4) (.c (.p 6)))
 (.m x11 x12
 .nil)))
 (.cond (.t x11) .skip
 (.seq (.ops (.p x13 (.bin .eql (.t x4) (.c (.p 7)))
 (.m x11 x13
 .nil)))
 (.cond (.t x11) .skip
 (.seq (.ops (.p x14 (.bin .eql (.t x4) (.c (.p 8)))
 (.m x11 x14
 .nil)))
 (.cond (.t x11) .skip
 (.seq (.ops (.p x15 (.bin .eql (.t x4) (.c (.p 9)))
 (.m x11 x15
 .nil)))
 (.cond (.t x11) .skip
 (.seq (.ops (.p x16 (.bin .eql (.t x4) (.c (.p 10)))
 (.m x11 x16
 .nil)))
 (.cond (.t x11) .skip
 (.ops (.p x17 (.bin .eql (.t x4) (.c (.p 11)))
 (.m x11 x17
 .nil)))))))))))))
 (.cond (.t x11) (.exit 2)
 .skip)))
 (.exit 0)))
 (.ops (.p x3 (.mv (.c (.b true)))
 .nil))))
 (.seq (.ops (.p x2 (.mv (.c (.b true)))
 .nil))
 (.exit 0)))))
 (.seq (.ops (.m x18 x2
 (.m x19 x3
 (.m x2 x18
 (.m x3 x19
 .nil)))))
 .ret)))
def a142 : AF := .fn (ps16.take 20) b142 (.many [(.t x2), (.t x3)])
def b143 : ACode := (.seq (.ops (.p x4 (.mv (.c (.b false)))
 .nil))
 (.seq (.ops (.m x5 x0
 (.p x6 (.bin .eql (.t x5) (.c (.p 0)))
 (.m x7 x6
 (.cons (.ye x7 false) (.ye x8) (.P (.mv (.t x1)))
 (.cons (.ye x7 false) (.ye x9) (.P (.mv (.t x8)))
 (.cons (.ye x9 true) (.ye x10) (.P (.mv (.t x0)))
 (.cons (.ye x9 true) (.ye x11) (.P (.bin .gtr (.t x10) (.c (.p 0))))
 (.cons (.ye x7 false) (.ye x12) (.P (.pick (.t x9) (.t x11) (.c (.b false))))
 (.cons (.ye x7 false) (.ye x13) (.P (.mv (.t x12)))
 (.cons (.ye x13 true) (.ye x14) (.P (.mv (.t x0)))
 (.cons (.ye x13 true) (.ye x15) (.P (.bin .leq (.t x14) (.c (.p 255))))
 (.cons (.ye x7 false) (.ye x16) (.P (.pick (.t x13) (.t x15) (.c (.b false))))
 (.p x17 (.pick (.t x7) (.c (.b true)) (.t x16))
 (.m x4 x17
 .nil)))))))))))))))
 .ret))
def a143 : AF := .fn (ps16.take 18) b143 (.one x4)
def b144 : ACode := (.seq (.ops (.cons .no (.ye x2) (.W (.bx (.t x0)))
 (.p x4 (.mv (.c .ns))
 (.p x5 (.mv (.c (.p 0)))
 .nil))))
 (.seq (.ops (.m x13 x1
 (.s x14 168 [(.t x13), (.c (.p 0)), (.c (.p 8))]
 (.m x15 x14
 (.cons (.ye x15 true) (.ye x16) (.P (.fa (.t x2) 0))
 (.cons (.ye x15 true) (.ye x17) (.L (.l (.one (.t x16))))
 (.cons (.ye x15 true) (.ye x18) (.P (.lnS (.t x17)))
 (.cons (.ye x15 true) (.ye x19) (.S 168 [(.t x18), (.c (.p 1)), (.c (.p 60))])
 (.p x20 (.pick (.t x15) (.t x19) (.c (.b false)))
 (.m x21 x20
 (.cons (.ye x21 true) (.ye x22) (.P (.fa (.t x2) 1))
 (.cons (.ye x21 true) (.ye x23) (.L (.l (.one (.t x22))))
 (.cons (.ye x21 true) (.ye x24) (.S 168 [(.t x23), (.c (.p 0)), (.c (.p 4))])
 (.p x25 (.pick (.t x21) (.t x24) (.c (.b false)))
 (.m x26 x25
 (.cons (.ye x26 true) (.ye x27) (.P (.fa (.t x2) 2))
 (.cons (.ye x26 true) (.ye x28) (.L (.l (.one (.t x27))))
 (.cons (.ye x26 true) (.ye x29) (.P (.fa (.t x2) 1))
 (.cons (.ye x26 true) (.ye x30) (.L (.l (.one (.t x29))))
 (.cons (.ye x26 true) (.ye x31) (.S 168 [(.t x28), (.t x30), (.c (.p 24))])
 (.p x32 (.pick (.t x26) (.t x31) (.c (.b false)))
 (.m x33 x32
 (.cons (.ye x33 true) (.ye x34) (.P (.fa (.t x2) 3))
 (.cons (.ye x33 true) (.ye x35) (.L (.l (.one (.t x34))))
 (.cons (.ye x33 true) (.ye x36) (.S 168 [(.t x35), (.c (.p 0)), (.c (.p 255))])
 (.p x37 (.pick (.t x33) (.t x36) (.c (.b false)))
 (.m x6 x37
 .nil)))))))))))))))))))))))))))
 (.seq (.ops (.p x38 (.fa (.t x2) 4)
 (.l x39 (.t x38)
 (.s x40 169 [(.t x39), (.f 170)]
 (.m x7 x40
 .nil)))))
 (.seq (.seq (.ops (.m x41 x6
 (.p x42 (.nt (.t x41))
 (.m x43 x42
 (.cons (.ye x43 false) (.ye x44) (.P (.mv (.t x7)))
 (.p x45 (.pick (.t x43) (.c (.b true)) (.t x44))
 (.m x46 x45
 (.cons (.ye x46 false) (.ye x47) (.P (.fa (.t x2) 4))
 (.cons (.ye x46 false) (.ye x48) (.L (.l (.one (.t x47))))
 (.cons (.ye x46 false) (.ye x49) (.P (.lnX (.t x48)))
 (.cons (.ye x46 false) (.ye x50) (.P (.bin .gtr (.t x49) (.c (.p 60))))
 (.p x51 (.pick (.t x46) (.c (.b true)) (.t x50))
 (.m x52 x51
 (.cons (.ye x52 false) (.ye x53) (.P (.fa (.t x2) 5))
 (.cons (.ye x52 false) (.ye x54) (.L (.l (.one (.t x53))))
 (.cons (.ye x52 false) (.ye x55) (.P (.lnX (.t x54)))
 (.cons (.ye x52 false) (.ye x56) (.S 168 [(.t x55), (.c (.p 1)), (.c (.p 400))])
 (.cons (.ye x52 false) (.ye x57) (.P (.nt (.t x56)))
 (.p x58 (.pick (.t x52) (.c (.b true)) (.t x57))
 .nil)))))))))))))))))))
 (.cond (.t x58) (.seq (.ops (.p x4 (.mv (.c .ns))
 (.p x5 (.mv (.c (.p 19)))
 .nil)))
 .ret)
 .skip))
 (.seq (.seq (.ops (.p x59 (.fa (.t x2) 5)
 (.l x60 (.t x59)
 (.p x61 (.lnX (.t x60))
 (.p x62 (.mv (.c (.p 0)))
 .nil)))))
 (.blk 0 (.loop (.seq (.ops (.p x63 (.bin .lss (.t x62) (.t x61))
 .nil))
 (.seq (.cond (.t x63) .skip
 (.exit 0))
 (.seq (.blk 1 (.seq (.ops (.p x64 (.ia (.t x60) (.t x62) 3)
 (.cons .no (.ye x65) (.L (.l (.many (.t x64) 3)))
 (.cons .no (.ye x9) (.W (.al (.cons (.p 0) (.cons (.p 0) (.cons (.p 0) .nil)))))
 (.cons .no .no (.W (.st (.t x9) 3 (.t x65)))
 .nil)))))
 (.seq (.ops (.cons .no (.ye x66) (.L (.l (.many (.t x9) 3)))
 (.s x67 124 [(.t x66)]
 (.p x68 (.nt (.t x67))
 (.m x69 x68
 (.cons (.ye x69 false) (.ye x70) (.L (.l (.many (.t x2) 6)))
 (.cons (.ye x69 false) (.ye x71) (.L (.l (.many (.t x9) 3)))
 (.cons (.ye x69 false) (.ye x72) (.P (.mv (.t x1)))
 (.cons (.ye x69 false) (.ye x73) (.S 172 [(.t x70), (.t x71), (.t x72)])
 (.cons (.ye x69 false) (.ye x74) (.P (.nt (.t x73)))
 (.p x75 (.pick (.t x69) (.c (.b true)) (.t x74))
 .nil)))))))))))
 (.cond (.t x75) (.seq (.ops (.p x4 (.mv (.c .ns))
 (.p x5 (.mv (.c (.p 19)))
 .nil)))
 .ret)
 .skip))))
 (.ops (.p x76 (.bin .add (.t x62) (.c (.p 1)))
 (.m x62 x76
 .nil)))))))))
 (.seq (.ops (.p x77 (.fa (.t x2) 5)
 (.l x78 (.t x77)
 (.s x79 173 [(.t x78)]
 (.m x10 x79
 .nil)))))
 (.seq (.seq (.ops (.p x80 (.fa (.t x2) 5)
 (.l x81 (.t x80)
 (.m x82 x10
 (.s x83 174 [(.t x81), (.t x82)]
 (.p x84 (.nt (.t x83))
 .nil))))))
 (.cond (.t x84) (.seq (.ops (.p x4 (.mv (.c .ns))
 (.p x5 (.mv (.c (.p 19)))
 .nil)))
 .ret)
 .skip))
 (.seq (.ops (.p x86 (.fa (.t x2) 5)
 (.l x87 (.t x86)
 (.m x88 x10
 (.s x89 175 [(.t x87), (.t x88)]
 (.m x85 x89
 (.p x90 (.ex (.t x85) 0)
 (.p x91 (.ex (.t x85) 1)
 (.m x11 x90
 (.m x12 x91
 .nil))))))))))
 (.seq (.seq (.ops (.m x92 x12
 (.p x93 (.nt (.t x92))
 .nil)))
 (.cond (.t x93) (.seq (.ops (.p x4 (.mv (.c .ns))
 (.p x5 (.mv (.c (.p 19)))
 .nil)))
 .ret)
 .skip))
 (.seq (.ops (.m x94 x11
 (.m x4 x94
 (.p x5 (.mv (.c (.p 0)))
 .nil))))
 .ret))))))))))
def a144 : AF := .fn (ps16.take 95) b144 (.many [(.t x4), (.t x5)])
def b145 : ACode := (.seq (.ops (.p x3 (.mv (.c (.b false)))
 .nil))
 (.seq (.ops (.l x4 (.t x1)
 (.m x5 x0
 (.s x6 131 [(.t x4), (.t x5)]
 (.p x7 (.bin .geq (.t x6) (.c (.p 0)))
 (.m x3 x7
 .nil))))))
 .ret))
def a145 : AF := .fn (ps16.take 8) b145 (.one x3)
def b146 : ACode := (.seq (.ops (.p x4 (.mv (.c (.p 0)))
 .nil))
 (.seq (.ops (.m x5 x0
 (.m x6 x1
 (.s x7 176 [(.t x5), (.t x6)]
 (.m x4 x7
 .nil)))))
 .ret))
def a146 : AF := .fn (ps16.take 8) b146 (.one x4)
def b147 : ACode := (.seq (.ops (.p x4 (.mv (.c (.w .u8 0)))
 .nil))
 (.seq (.seq (.draw (.h .no (.ye x5) (.P (.mv (.t x0)))
 (.h .no (.ye x6) (.P (.nck (.t x5)))
 (.h .no (.ye x7) (.P (.fa (.t x6) 1))
 (.h .no (.ye x8) (.L (.l (.one (.t x7))))
 (.h .no (.ye x9) (.P (.mv (.t x1)))
 (.h .no (.ye x10) (.P (.bin .add (.t x8) (.t x9)))
 (.h .no (.ye x11) (.P (.mv (.t x0)))
 (.h .no (.ye x12) (.P (.nck (.t x11)))
 (.h .no (.ye x13) (.P (.fa (.t x12) 0))
 (.h .no (.ye x14) (.L (.l (.one (.t x13))))
 (.h .no (.ye x15) (.P (.lnS (.t x14)))
 (.h .no (.ye x16) (.P (.bin .geq (.t x10) (.t x15)))
 .nil)))))))))))))
 (.cond (.t x16) (.seq (.ops (.p x4 (.mv (.c (.w .u8 0)))
 .nil))
 .ret)
 .skip))
 (.seq (.draw (.h .no (.ye x17) (.P (.mv (.t x0)))
 (.h .no (.ye x18) (.P (.nck (.t x17)))
 (.h .no (.ye x19) (.P (.fa (.t x18) 0))
 (.h .no (.ye x20) (.L (.l (.one (.t x19))))
 (.h .no (.ye x21) (.P (.mv (.t x0)))
 (.h .no (.ye x22) (.P (.nck (.t x21)))
 (.h .no (.ye x23) (.P (.fa (.t x22) 1))
 (.h .no (.ye x24) (.L (.l (.one (.t x23))))
 (.h .no (.ye x25) (.P (.mv (.t x1)))
 (.h .no (.ye x26) (.P (.bin .add (.t x24) (.t x25)))
 (.h .no (.ye x27) (.P (.ixs (.t x20) (.t x26)))
 (.h .no (.ye x4) (.P (.mv (.t x27)))
 .nil)))))))))))))
 .ret)))
def a147 : AF := .fn (ps16.take 28) b147 (.one x4)
def b148 : ACode := (.seq (.ops (.p x2 (.mv (.c (.b false)))
 .nil))
 (.seq (.ops (.m x3 x0
 (.p x4 (.bin .geq (.t x3) (.c (.w .u8 97)))
 (.m x5 x4
 (.cons (.ye x5 true) (.ye x6) (.P (.mv (.t x0)))
 (.cons (.ye x5 true) (.ye x7) (.P (.bin .leq (.t x6) (.c (.w .u8 122))))
 (.p x8 (.pick (.t x5) (.t x7) (.c (.b false)))
 (.m x9 x8
 (.cons (.ye x9 false) (.ye x10) (.P (.mv (.t x0)))
 (.cons (.ye x9 false) (.ye x11) (.P (.bin .geq (.t x10) (.c (.w .u8 65))))
 (.cons (.ye x9 false) (.ye x12) (.P (.mv (.t x11)))
 (.cons (.ye x12 true) (.ye x13) (.P (.mv (.t x0)))
 (.cons (.ye x12 true) (.ye x14) (.P (.bin .leq (.t x13) (.c (.w .u8 90))))
 (.cons (.ye x9 false) (.ye x15) (.P (.pick (.t x12) (.t x14) (.c (.b false))))
 (.p x16 (.pick (.t x9) (.c (.b true)) (.t x15))
 (.m x2 x16
 .nil))))))))))))))))
 .ret))
def a148 : AF := .fn (ps16.take 17) b148 (.one x2)
def b149 : ACode := (.seq (.ops (.p x2 (.mv (.c (.s 0 0)))
 (.p x3 (.mv (.c (.p 0)))
 .nil)))
 (.seq (.ops (.m x5 x0
 (.m x6 x0
 (.p x7 (.nck (.t x6))
 (.p x8 (.fa (.t x7) 0)
 (.l x9 (.t x8)
 (.p x10 (.lnS (.t x9))
 (.s x11 129 [(.t x5), (.f 177), (.t x10)]
 (.m x4 x11
 .nil)))))))))
 (.seq (.seq (.ops (.m x12 x4
 (.p x13 (.lnS (.t x12))
 (.p x14 (.bin .gtr (.t x13) (.c (.p 24)))
 .nil))))
 (.cond (.t x14) (.seq (.ops (.p x2 (.mv (.c (.s 0 0)))
 (.p x3 (.mv (.c (.p 12)))
 .nil)))
 .ret)
 .skip))
 (.seq (.ops (.m x15 x4
 (.m x2 x15
 (.p x3 (.mv (.c (.p 0)))
 .nil))))
 .ret))))
def a149 : AF := .fn (ps16.take 16) b149 (.many [(.t x2), (.t x3)])
def b150 : ACode := (.seq (.ops (.p x2 (.mv (.c (.b false)))
 .nil))
 (.seq (.seq (.ops (.m x3 x0
 (.s x4 147 [(.t x3), (.c (.p 0))]
 (.p x5 (.bin .neq (.t x4) (.c (.w .u8 58)))
 (.m x6 x5
 (.cons (.ye x6 false) (.ye x7) (.P (.mv (.t x0)))
 (.cons (.ye x6 false) (.ye x8) (.S 147 [(.t x7), (.c (.p 1))])
 (.cons (.ye x6 false) (.ye x9) (.P (.bin .eql (.t x8) (.c (.w .u8 61))))
 (.p x10 (.pick (.t x6) (.c (.b true)) (.t x9))
 .nil)))))))))
 (.cond (.t x10) (.seq (.ops (.p x2 (.mv (.c (.b false)))
 .nil))
 .ret)
 .skip))
 (.seq (.ops (.m x11 x0
 (.p x12 (.nck (.t x11))
 (.p x13 (.fa (.t x12) 1)
 (.l x14 (.t x13)
 (.p x15 (.bin .add (.t x14) (.c (.p 1)))
 (.p x16 (.nck (.t x11))
 (.p x17 (.fa (.t x16) 1)
 (.cons .no .no (.W (.st (.t x17) 1 (.t x15)))
 .nil)))))))))
 (.seq (.ops (.p x2 (.mv (.c (.b true)))
 .nil))
 .ret))))
def a150 : AF := .fn (ps16.take 18) b150 (.one x2)
def b151 : ACode := (.seq (.ops (.p x2 (.mv (.c (.b false)))
 .nil))
 (.seq (.ops (.m x3 x0
 (.p x4 (.bin .geq (.t x3) (.c (.w .u8 48)))
 (.m x5 x4
 (.cons (.ye x5 true) (.ye x6) (.P (.mv (.t x0)))
 (.cons (.ye x5 true) (.ye x7) (.P (.bin .leq (.t x6) (.c (.w .u8 57))))
 (.p x8 (.pick (.t x5) (.t x7) (.c (.b false)))
 (.m x2 x8
 .nil))))))))
 .ret))
def a151 : AF := .fn (ps16.take 9) b151 (.one x2)
def b152 : ACode := (.seq (.ops (.p x2 (.mv (.c (.p 0)))
 (.p x3 (.mv (.c (.p 0)))
 .nil)))
 (.seq (.ops (.p x4 (.mv (.c (.p 0)))
 .nil))
 (.seq (.seq (.ops (.m x7 x0
 (.m x8 x0
 (.p x9 (.nck (.t x8))
 (.p x10 (.fa (.t x9) 0)
 (.l x11 (.t x10)
 (.p x12 (.lnS (.t x11))
 (.s x13 129 [(.t x7), (.f 151), (.t x12)]
 (.cons .no (.ye x14) (.W (.rg (.t x13)))
 .nil)))))))))
 (.blk 0 (.loop (.seq (.ops (.cons .no (.ye x15) (.W (.nxs (.t x14)))
 (.p x16 (.ex (.t x15) 0)
 .nil)))
 (.seq (.cond (.t x16) .skip
 (.exit 0))
 (.blk 1 (.seq (.ops (.p x17 (.ex (.t x15) 2)
 (.m x6 x17
 .nil)))
 (.seq (.seq (.ops (.m x18 x4
 (.p x19 (.bin .gtr (.t x18) (.c (.p 115292150460684697)))
 .nil)))
 (.cond (.t x19) (.seq (.ops (.p x2 (.mv (.c (.p 0)))
 (.p x3 (.mv (.c (.p 2)))
 .nil)))
 .ret)
 .skip))
 (.seq (.ops (.m x20 x4
 (.p x21 (.bin .mul (.t x20) (.c (.p 10)))
 (.m x22 x6
 (.p x23 (.bin .sub (.t x22) (.c (.w .i32 48)))
 (.p x24 (.cv .i64 (.t x23))
 (.p x25 (.bin .add (.t x21) (.t x24))
 (.m x4 x25
 .nil))))))))
 (.seq (.ops (.m x26 x4
 (.p x27 (.bin .gtr (.t x26) (.c (.p 1152921504606846976)))
 .nil)))
 (.cond (.t x27) (.seq (.ops (.p x2 (.mv (.c (.p 0)))
 (.p x3 (.mv (.c (.p 2)))
 .nil)))
 .ret)
 .skip)))))))))))
 (.seq (.ops (.m x28 x4
 (.m x2 x28
 (.p x3 (.mv (.c (.p 0)))
 .nil))))
 .ret))))
def a152 : AF := .fn (ps16.take 29) b152 (.many [(.t x2), (.t x3)])
def b153 : ACode := (.seq (.ops (.p x2 (.mv (.c (.s 0 0)))
 (.p x3 (.mv (.c (.p 0)))
 .nil)))
 (.seq (.ops (.p x4 (.mv (.c (.s 0 0)))
 .nil))
 (.blk 0 (.loop (.blk 1 (.seq (.ops (.m x5 x4
 (.m x6 x0
 (.m x7 x0
 (.p x8 (.nck (.t x7))
 (.p x9 (.fa (.t x8) 0)
 (.l x10 (.t x9)
 (.p x11 (.lnS (.t x10))
 (.s x12 129 [(.t x6), (.f 178), (.t x11)]
 (.p x13 (.bin .add (.t x5) (.t x12))
 (.m x4 x13
 .nil)))))))))))
 (.seq (.seq (.draw (.h .no (.ye x14) (.P (.mv (.t x0)))
 (.h .no (.ye x15) (.P (.nck (.t x14)))
 (.h .no (.ye x16) (.P (.fa (.t x15) 1))
 (.h .no (.ye x17) (.L (.l (.one (.t x16))))
 (.h .no (.ye x18) (.P (.mv (.t x0)))
 (.h .no (.ye x19) (.P (.nck (.t x18)))
 (.h .no (.ye x20) (.P (.fa (.t x19) 0))
 (.h .no (.ye x21) (.L (.l (.one (.t x20))))
 (.h .no (.ye x22) (.P (.lnS (.t x21)))
 (.h .no (.ye x23) (.P (.bin .geq (.t x17) (.t x22)))
 .nil)))))))))))
 (.cond (.t x23) (.seq (.ops (.p x2 (.mv (.c (.s 0 0)))
 (.p x3 (.mv (.c (.p 11)))
 .nil)))
 .ret)
 .skip))
 (.seq (.ops (.m x24 x0
 (.p x25 (.nck (.t x24))
 (.p x26 (.fa (.t x25) 1)
 (.l x27 (.t x26)
 (.p x28 (.bin .add (.t x27) (.c (.p 1)))
 (.p x29 (.nck (.t x24))
 (.p x30 (.fa (.t x29) 1)
 (.cons .no .no (.W (.st (.t x30) 1 (.t x28)))
 .nil)))))))))
 (.seq (.seq (.ops (.m x31 x0
 (.s x32 147 [(.t x31), (.c (.p 0))]
 (.p x33 (.bin .neq (.t x32) (.c (.w .u8 39)))
 .nil))))
 (.cond (.t x33) (.seq (.ops (.m x34 x4
 (.m x2 x34
 (.p x3 (.mv (.c (.p 0)))
 .nil))))
 .ret)
 .skip))
 (.seq (.ops (.m x35 x4
 (.p x36 (.bin .add (.t x35) (.c (.s 1 39)))
 (.m x4 x36
 .nil))))
 (.ops (.m x37 x0
 (.p x38 (.nck (.t x37))
 (.p x39 (.fa (.t x38) 1)
 (.l x40 (.t x39)
 (.p x41 (.bin .add (.t x40) (.c (.p 1)))
 (.p x42 (.nck (.t x37))
 (.p x43 (.fa (.t x42) 1)
 (.cons .no .no (.W (.st (.t x43) 1 (.t x41)))
 .nil)))))))))))))))))))
def a153 : AF := .fn (ps16.take 44) b153 (.many [(.t x2), (.t x3)])
def b154 : ACode := (.seq (.ops (.p x2 (.mv (.c (.s 0 0)))
 (.p x3 (.mv (.c (.p 0)))
 .nil)))
 (.seq (.seq (.ops (.m x10 x0
 (.s x11 130 [(.c (.s 12 11497187596743261602538204459))]
 (.s x12 129 [(.t x10), (.t x11), (.c (.p 2))]
 (.m x4 x12
 .nil)))))
 (.seq (.ops (.m x13 x4
 (.p x14 (.bin .neq (.t x13) (.c (.s 0 0)))
 .nil)))
 (.cond (.t x14) (.seq (.ops (.m x15 x4
 (.m x2 x15
 (.p x3 (.mv (.c (.p 0)))
 .nil))))
 .ret)
 .skip)))
 (.seq (.seq (.ops (.m x16 x0
 (.s x17 147 [(.t x16), (.c (.p 0))]
 (.s x18 148 [(.t x17)]
 (.p x19 (.nt (.t x18))
 .nil)))))
 (.cond (.t x19) (.seq (.ops (.p x2 (.mv (.c (.s 0 0)))
 (.p x3 (.mv (.c (.p 10)))
 .nil)))
 .ret)
 .skip))
 (.seq (.ops (.m x21 x0
 (.s x22 149 [(.t x21)]
 (.m x20 x22
 (.p x23 (.ex (.t x20) 0)
 (.p x24 (.ex (.t x20) 1)
 (.m x5 x23
 (.m x6 x24
 .nil))))))))
 (.seq (.seq (.ops (.m x25 x6
 (.p x26 (.bin .neq (.t x25) (.c (.p 0)))
 (.m x27 x26
 (.cons (.ye x27 false) (.ye x28) (.P (.mv (.t x0)))
 (.cons (.ye x27 false) (.ye x29) (.S 150 [(.t x28)])
 (.cons (.ye x27 false) (.ye x30) (.P (.nt (.t x29)))
 (.p x31 (.pick (.t x27) (.c (.b true)) (.t x30))
 .nil))))))))
 (.cond (.t x31) (.seq (.ops (.m x32 x5
 (.m x33 x6
 (.m x2 x32
 (.m x3 x33
 .nil)))))
 .ret)
 .skip))
 (.seq (.ops (.m x34 x5
 (.p x35 (.bin .add (.t x34) (.c (.s 1 58)))
 (.m x5 x35
 .nil))))
 (.seq (.blk 0 (.loop (.seq (.seq (.ops (.m x36 x0
 (.s x37 147 [(.t x36), (.c (.p 0))]
 (.s x38 148 [(.t x37)]
 .nil))))
 (.cond (.t x38) .skip
 (.exit 0)))
 (.blk 1 (.seq (.ops (.m x39 x0
 (.p x40 (.nck (.t x39))
 (.p x41 (.fa (.t x40) 1)
 (.l x42 (.t x41)
 (.m x7 x42
 .nil))))))
 (.seq (.ops (.m x44 x0
 (.s x45 149 [(.t x44)]
 (.m x43 x45
 (.p x46 (.ex (.t x43) 0)
 (.p x47 (.ex (.t x43) 1)
 (.m x8 x46
 (.m x9 x47
 .nil))))))))
 (.seq (.seq (.ops (.m x48 x0
 (.s x49 150 [(.t x48)]
 (.p x50 (.nt (.t x49))
 .nil))))
 (.cond (.t x50) (.seq (.ops (.m x51 x0
 (.m x52 x7
 (.p x53 (.nck (.t x51))
 (.p x54 (.fa (.t x53) 1)
 (.cons .no .no (.W (.st (.t x54) 1 (.t x52)))
 .nil))))))
 (.seq (.ops (.m x55 x5
 (.m x2 x55
 (.p x3 (.mv (.c (.p 0)))
 .nil))))
 .ret))
 .skip))
 (.seq (.seq (.ops (.m x56 x9
 (.p x57 (.bin .neq (.t x56) (.c (.p 0)))
 .nil)))
 (.cond (.t x57) (.seq (.ops (.m x58 x9
 (.p x2 (.mv (.c (.s 0 0)))
 (.m x3 x58
 .nil))))
 .ret)
 .skip))
 (.ops (.m x59 x5
 (.m x60 x8
 (.p x61 (.bin .add (.t x60) (.c (.s 1 58)))
 (.p x62 (.bin .add (.t x59) (.t x61))
 (.m x5 x62
 .nil))))))))))))))
 (.seq (.ops (.m x63 x5
 (.m x2 x63
 (.p x3 (.mv (.c (.p 0)))
 .nil))))
 .ret))))))))
def a154 : AF := .fn (ps16.take 64) b154 (.many [(.t x2), (.t x3)])
def b155 : ACode := (.seq (.ops (.cons .no (.ye x2) (.W (.al (.cons (.p 0) (.cons (.s 0 0) (.cons (.p 0) (.cons .ns (.cons .ns (.cons .ns .nil))))))))
 .nil))
 (.seq (.ops (.m x5 x0
 (.m x6 x0
 (.m x7 x0
 (.m x8 x0
 (.s x9 182 [(.t x8)]
 (.s x10 181 [(.t x7), (.t x9)]
 (.s x11 180 [(.t x6), (.t x10)]
 (.s x12 179 [(.t x5), (.t x11)]
 (.cons .no (.ye x3) (.W (.al (.cons (.p 0) (.cons (.s 0 0) (.cons (.p 0) (.cons .ns (.cons .ns (.cons .ns .nil))))))))
 (.cons .no .no (.W (.st (.t x3) 6 (.t x12)))
 .nil)))))))))))
 (.seq (.seq (.ops (.m x13 x0
 (.s x14 133 [(.t x13), (.c (.p 10)), (.c (.s 1 59))]
 (.p x15 (.nt (.t x14))
 .nil))))
 (.cond (.t x15) (.seq (.ops (.cons .no (.ye x16) (.L (.l (.many (.t x3) 6)))
 (.cons .no .no (.W (.st (.t x2) 6 (.t x16)))
 .nil)))
 .ret)
 .skip))
 (.seq (.seq (.ops (.p x17 (.fa (.t x3) 0)
 (.l x18 (.t x17)
 (.p x19 (.bin .neq (.t x18) (.c (.p 7)))
 .nil))))
 (.cond (.t x19) (.seq (.ops (.m x20 x0
 (.m x21 x0
 (.s x22 137 [(.t x21), (.c (.p 0))]
 (.s x23 136 [(.t x20), (.t x22), (.c (.p 13))]
 .nil)))))
 (.seq (.ops (.cons .no (.ye x24) (.L (.l (.many (.t x3) 6)))
 (.cons .no .no (.W (.st (.t x2) 6 (.t x24)))
 .nil)))
 .ret))
 .skip))
 (.seq (.draw (.h .no (.ye x25) (.P (.fa (.t x3) 5))
 (.h .no (.ye x26) (.L (.l (.one (.t x25))))
 (.h .no (.ye x27) (.P (.ia (.t x26) (.c (.p 0)) 6))
 (.h .no (.ye x28) (.L (.l (.many (.t x27) 6)))
 (.h .no (.ye x29) (.L (.l (.many (.t x3) 6)))
 (.c .no (.ye x30) (.S 183 [(.t x29)]) (.cons .no (.l (.one (.t x25))) x26 (.cons .no (.l (.many (.t x27) 6)) x28 (.cons .no (.l (.many (.t x3) 6)) x29 .nil)))
 (.c .no (.ye x31) (.W (.bs (.cons (.p 0) (.cons (.s 0 0) (.cons (.p 0) (.cons .ns (.cons .ns (.cons .ns (.cons (.p 0) (.cons (.s 0 0) (.cons (.p 0) (.cons .ns (.cons .ns (.cons .ns .nil)))))))))))) 2 [(0, 6, (.t x28)), (6, 6, (.t x30))])) (.cons .no (.l (.one (.t x25))) x26 (.cons .no (.l (.many (.t x27) 6)) x28 (.cons .no (.l (.many (.t x3) 6)) x29 .nil)))
 (.h .no (.ye x32) (.P (.bd (.cons (.p 0) (.cons (.s 0 0) (.cons (.p 0) (.cons .ns (.cons .ns (.cons .ns .nil)))))) [(0, 1, (.c (.p 8))), (5, 1, (.t x31))]))
 (.z (.ye x4) (.al (.cons (.p 0) (.cons (.s 0 0) (.cons (.p 0) (.cons .ns (.cons .ns (.cons .ns .nil))))))) (.cons .no (.l (.one (.t x25))) x26 (.cons .no (.l (.many (.t x27) 6)) x28 (.cons .no (.l (.many (.t x3) 6)) x29 .nil)))
 (.c .no .no (.W (.st (.t x4) 6 (.t x32))) .nil
 .nil)))))))))))
 (.seq (.blk 0 (.loop (.seq (.seq (.ops (.m x33 x0
 (.s x34 133 [(.t x33), (.c (.p 10)), (.c (.s 1 59))]
 .nil)))
 (.cond (.t x34) .skip
 (.exit 0)))
 (.blk 1 (.seq (.ops (.m x35 x0
 (.s x36 134 [(.t x35)]
 .nil)))
 (.draw (.h .no (.ye x37) (.P (.fa (.t x4) 5))
 (.h .no (.ye x38) (.L (.l (.one (.t x37))))
 (.h .no (.ye x39) (.P (.mv (.t x0)))
 (.c .no (.ye x40) (.S 184 [(.t x39)]) (.cons .no (.l (.one (.t x37))) x38 .nil)
 (.c .no (.ye x41) (.S 183 [(.t x40)]) (.cons .no (.l (.one (.t x37))) x38 .nil)
 (.c .no (.ye x42) (.W (.bs (.cons (.p 0) (.cons (.s 0 0) (.cons (.p 0) (.cons .ns (.cons .ns (.cons .ns .nil)))))) 1 [(0, 6, (.t x41))])) (.cons .no (.l (.one (.t x37))) x38 .nil)
 (.c .no (.ye x43) (.W (.app 6 104 (.t x38) (.t x42))) .nil
 (.h .no (.ye x44) (.P (.fa (.t x4) 5))
 (.c .no .no (.W (.st (.t x44) 1 (.t x43))) .nil
 .nil)))))))))))))))
 (.seq (.ops (.cons .no (.ye x45) (.L (.l (.many (.t x4) 6)))
 (.cons .no .no (.W (.st (.t x2) 6 (.t x45)))
 .nil)))
 .ret)))))))
def a155 : AF := .fn (ps16.take 46) b155 (.onec (.many (.t x2) 6))
def b156 : ACode := (.seq (.ops (.cons .no (.ye x3) (.W (.bx (.t x1)))
 (.cons .no (.ye x4) (.W (.al (.cons (.s 0 0) (.cons (.b false) (.cons (.b false) (.cons (.p 0) .nil))))))
 (.p x5 (.mv (.c (.b false)))
 .nil))))
 (.seq (.ops (.m x7 x0
 (.p x8 (.nck (.t x7))
 (.p x9 (.fa (.t x8) 6)
 (.l x10 (.t x9)
 (.p x11 (.mf 186 [] [(.t x3)])
 (.s x12 185 [(.t x10), (.t x11)]
 (.m x6 x12
 .nil))))))))
 (.seq (.seq (.ops (.m x13 x6
 (.p x14 (.bin .lss (.t x13) (.c (.p 0)))
 .nil)))
 (.cond (.t x14) (.seq (.ops (.p x15 (.bd (.cons (.s 0 0) (.cons (.b false) (.cons (.b false) (.cons (.p 0) .nil)))) [])
 (.cons .no .no (.W (.st (.t x4) 4 (.t x15)))
 (.p x5 (.mv (.c (.b false)))
 .nil))))
 .ret)
 .skip))
 (.seq (.ops (.m x16 x0
 (.p x17 (.nck (.t x16))
 (.p x18 (.fa (.t x17) 6)
 (.l x19 (.t x18)
 (.m x20 x6
 (.p x21 (.ia (.t x19) (.t x20) 4)
 (.cons .no (.ye x22) (.L (.l (.many (.t x21) 4)))
 (.cons .no .no (.W (.st (.t x4) 4 (.t x22)))
 (.p x5 (.mv (.c (.b true)))
 .nil))))))))))
 .ret))))
def a156 : AF := .fn (ps16.take 23) b156 (.many [(.c (.many (.t x4) 4)), (.t x5)])
def b157 : ACode := (.seq (.ops (.p x2 (.mv (.c (.b false)))
 .nil))
 (.seq (.seq (.ops (.m x3 x0
 .nil))
 (.blk 0 (.seq (.seq (.ops (.p x5 (.bin .eql (.t x3) (.c (.s 4 1718379891)))
 (.m x4 x5
 .nil)))
 (.cond (.t x4) .skip
 (.seq (.ops (.p x6 (.bin .eql (.t x3) (.c (.s 5 491328140659)))
 (.m x4 x6
 .nil)))
 (.cond (.t x4) .skip
 (.seq (.ops (.p x7 (.bin .eql (.t x3) (.c (.s 3 7104878)))
 (.m x4 x7
 .nil)))
 (.cond (.t x4) .skip
 (.seq (.ops (.p x8 (.bin .eql (.t x3) (.c (.s 4 1702195828)))
 (.m x4 x8
 .nil)))
 (.cond (.t x4) .skip
 (.seq (.ops (.p x9 (.bin .eql (.t x3) (.c (.s 5 435728179558)))
 (.m x4 x9
 .nil)))
 (.cond (.t x4) .skip
 (.ops (.p x10 (.bin .eql (.t x3) (.c (.s 11 140803950564158277683865716)))
 (.m x4 x10
 .nil)))))))))))))
 (.cond (.t x4) (.seq (.ops (.p x2 (.mv (.c (.b true)))
 .nil))
 .ret)
 .skip))))
 (.seq (.ops (.p x2 (.mv (.c (.b false)))
 .nil))
 .ret)))
def a157 : AF := .fn (ps16.take 11) b157 (.one x2)
def b158 : ACode := (.seq (.ops (.m x6 x0
 (.p x7 (.nck (.t x6))
 (.p x8 (.fa (.t x7) 8)
 (.l x9 (.t x8)
 (.p x10 (.bin .eql (.t x9) (.c (.p 0)))
 .nil))))))
 (.cond (.t x10) (.ops (.m x11 x0
 (.m x12 x0
 (.m x13 x1
 (.m x14 x2
 (.p x15 (.nck (.t x11))
 (.p x16 (.fa (.t x15) 7)
 (.cons .no .no (.W (.st (.t x16) 1 (.t x13)))
 (.p x17 (.nck (.t x12))
 (.p x18 (.fa (.t x17) 8)
 (.cons .no .no (.W (.st (.t x18) 1 (.t x14)))
 .nil)))))))))))
 .skip))
def a158 : AF := .fn (ps16.take 19) b158 .none
def b159 : ACode := (.seq (.ops (.cons .no (.ye x3) (.W (.bx (.t x1)))
 (.p x4 (.mv (.c (.p 0)))
 .nil)))
 (.seq (.ops (.m x6 x0
 (.p x7 (.nck (.t x6))
 (.p x8 (.fa (.t x7) 0)
 (.p x9 (.fa (.t x8) 4)
 (.l x10 (.t x9)
 (.p x11 (.mf 188 [] [(.t x3)])
 (.s x12 187 [(.t x10), (.t x11)]
 (.m x5 x12
 .nil)))))))))
 (.seq (.seq (.ops (.m x13 x5
 (.p x14 (.bin .lss (.t x13) (.c (.p 0)))
 .nil)))
 (.cond (.t x14) (.seq (.ops (.m x15 x0
 (.p x16 (.nck (.t x15))
 (.p x17 (.fa (.t x16) 0)
 (.p x18 (.fa (.t x17) 4)
 (.l x19 (.t x18)
 (.p x20 (.lnX (.t x19))
 (.m x5 x20
 .nil))))))))
 (.two x21 x22 (rootsOf 49) (.cond (.t x22) (.seq (.ops (.m x23 x0
 (.p x24 (.nck (.t x23))
 (.p x25 (.fa (.t x24) 0)
 (.p x26 (.fa (.t x25) 4)
 (.l x27 (.t x26)
 (.p x28 (.lnX (.t x27))
 (.cons .no (.ye x29) (.W (.bs (.cons (.p 0) (.cons (.s 0 0) (.cons (.p 0) (.cons .ns .nil)))) 1 [(0, 4, (.c (.ag (.cons (.p 0) (.cons (.s 0 0) (.cons (.p 0) (.cons .ns .nil)))))))]))
 (.cons .no (.ye x30) (.W (.app 4 56 (.t x27) (.t x29)))
 (.p x31 (.nck (.t x23))
 (.p x32 (.fa (.t x31) 0)
 (.p x33 (.fa (.t x32) 4)
 (.cons .no .no (.W (.st (.t x33) 1 (.t x30)))
 .nil)))))))))))))
 (.ops (.cons .no (.ye x34) (.L (.l (.many (.t x3) 4)))
 (.p x35 (.ia (.t x30) (.t x28) 4)
 (.cons .no .no (.W (.st (.t x35) 4 (.t x34)))
 .nil)))))
 (.draw (.h .no (.ye x36) (.P (.mv (.t x0)))
 (.h .no (.ye x37) (.P (.mv (.t x0)))
 (.h .no (.ye x38) (.P (.nck (.t x37)))
 (.h .no (.ye x39) (.P (.fa (.t x38) 0))
 (.h .no (.ye x40) (.P (.fa (.t x39) 4))
 (.h .no (.ye x41) (.L (.l (.one (.t x40))))
 (.h .no (.ye x42) (.L (.l (.many (.t x3) 4)))
 (.c .no (.ye x43) (.W (.bs (.cons (.p 0) (.cons (.s 0 0) (.cons (.p 0) (.cons .ns .nil)))) 1 [(0, 4, (.t x42))])) (.cons .no (.l (.one (.t x40))) x41 .nil)
 (.c .no (.ye x44) (.W (.app 4 56 (.t x41) (.t x43))) .nil
 (.h .no (.ye x45) (.P (.nck (.t x36)))
 (.h .no (.ye x46) (.P (.fa (.t x45) 0))
 (.h .no (.ye x47) (.P (.fa (.t x46) 4))
 (.c .no .no (.W (.st (.t x47) 1 (.t x44))) .nil
 .nil)))))))))))))))))
 .skip))
 (.seq (.ops (.m x48 x5
 (.m x4 x48
 .nil)))
 .ret))))
def a159 : AF := .fn (ps16.take 49) b159 (.one x4)
def b160 : ACode := (.seq (.ops (.cons .no (.ye x3) (.W (.bx (.t x1)))
 (.cons .no (.ye x4) (.W (.al (.cons (.p 0) (.cons (.s 0 0) (.cons (.p 0) (.cons .ns .nil))))))
 .nil)))
 (.seq (.seq (.ops (.p x8 (.fa (.t x3) 0)
 (.l x9 (.t x8)
 .nil)))
 (.blk 0 (.seq (.ops (.p x11 (.bin .eql (.t x9) (.c (.p 1)))
 (.m x10 x11
 .nil)))
 (.cond (.t x10) (.seq (.ops (.p x12 (.fa (.t x3) 2)
 (.l x13 (.t x12)
 (.p x14 (.bd (.cons (.p 0) (.cons (.s 0 0) (.cons (.p 0) (.cons .ns .nil)))) [(0, 1, (.c (.p 1))), (2, 1, (.t x13))])
 (.cons .no .no (.W (.st (.t x4) 4 (.t x14)))
 .nil)))))
 .ret)
 (.seq (.ops (.p x16 (.bin .eql (.t x9) (.c (.p 2)))
 (.m x15 x16
 .nil)))
 (.cond (.t x15) (.seq (.ops (.p x17 (.fa (.t x3) 1)
 (.l x18 (.t x17)
 (.p x19 (.bd (.cons (.p 0) (.cons (.s 0 0) (.cons (.p 0) (.cons .ns .nil)))) [(0, 1, (.c (.p 2))), (1, 1, (.t x18))])
 (.cons .no .no (.W (.st (.t x4) 4 (.t x19)))
 .nil)))))
 .ret)
 (.seq (.ops (.p x21 (.bin .eql (.t x9) (.c (.p 3)))
 (.m x20 x21
 .nil)))
 (.cond (.t x20) (.seq (.ops (.p x22 (.fa (.t x3) 1)
 (.l x23 (.t x22)
 (.p x24 (.bd (.cons (.p 0) (.cons (.s 0 0) (.cons (.p 0) (.cons .ns .nil)))) [(0, 1, (.c (.p 3))), (1, 1, (.t x23))])
 (.cons .no .no (.W (.st (.t x4) 4 (.t x24)))
 .nil)))))
 .ret)
 (.seq (.ops (.p x26 (.bin .eql (.t x9) (.c (.p 4)))
 (.m x25 x26
 .nil)))
 (.cond (.t x25) (.seq (.ops (.p x27 (.bd (.cons (.p 0) (.cons (.s 0 0) (.cons (.p 0) (.cons .ns .nil)))) [(0, 1, (.c (.p 4)))])
 (.cons .no (.ye x5) (.W (.al (.cons (.p 0) (.cons (.s 0 0) (.cons (.p 0) (.cons .ns .nil))))))
 (.cons .no .no (.W (.st (.t x5) 4 (.t x27)))
 .nil))))
 (.seq (.seq (.ops (.p x28 (.fa (.t x3) 5)
 (.l x29 (.t x28)
 (.p x30 (.lnX (.t x29))
 (.p x31 (.mv (.c (.p 0)))
 .nil)))))
 (.blk 1 (.loop (.seq (.ops (.p x32 (.bin .lss (.t x31) (.t x30))
 .nil))
 (.seq (.cond (.t x32) .skip
 (.exit 1))
 (.seq (.blk 2 (.seq (.ops (.p x33 (.ia (.t x29) (.t x31) 6)
 (.cons .no (.ye x34) (.L (.l (.many (.t x33) 6)))
 (.cons .no (.ye x7) (.W (.al (.cons (.p 0) (.cons (.s 0 0) (.cons (.p 0) (.cons .ns (.cons .ns (.cons .ns .nil))))))))
 (.cons .no .no (.W (.st (.t x7) 6 (.t x34)))
 .nil)))))
 (.draw (.h .no (.ye x35) (.P (.fa (.t x5) 3))
 (.h .no (.ye x36) (.L (.l (.one (.t x35))))
 (.h .no (.ye x37) (.P (.mv (.t x0)))
 (.h .no (.ye x38) (.L (.l (.many (.t x7) 6)))
 (.c .no (.ye x39) (.S 160 [(.t x37), (.t x38)]) (.cons .no (.l (.one (.t x35))) x36 .nil)
 (.c .no (.ye x40) (.W (.bs (.cons (.p 0) (.cons (.s 0 0) (.cons (.p 0) (.cons .ns .nil)))) 1 [(0, 4, (.t x39))])) (.cons .no (.l (.one (.t x35))) x36 .nil)
 (.c .no (.ye x41) (.W (.app 4 56 (.t x36) (.t x40))) .nil
 (.h .no (.ye x42) (.P (.fa (.t x5) 3))
 (.c .no .no (.W (.st (.t x42) 1 (.t x41))) .nil
 .nil))))))))))))
 (.ops (.p x43 (.bin .add (.t x31) (.c (.p 1)))
 (.m x31 x43
 .nil)))))))))
 (.seq (.ops (.cons .no (.ye x44) (.L (.l (.many (.t x5) 4)))
 (.cons .no .no (.W (.st (.t x4) 4 (.t x44)))
 .nil)))
 .ret)))
 .skip))))))))))
 (.seq (.ops (.m x45 x0
 (.s x46 158 [(.t x45), (.c (.s 0 0)), (.c (.p 1))]
 .nil)))
 (.seq (.ops (.p x47 (.bd (.cons (.p 0) (.cons (.s 0 0) (.cons (.p 0) (.cons .ns .nil)))) [])
 (.cons .no .no (.W (.st (.t x4) 4 (.t x47)))
 .nil)))
 .ret))))
def a160 : AF := .fn (ps16.take 48) b160 (.onec (.many (.t x4) 4))
def b161 : ACode := (.seq (.seq (.ops (.m x6 x1
 .nil))
 (.blk 0 (.seq (.ops (.p x8 (.bin .eql (.t x6) (.c (.s 4 1718379891)))
 (.m x7 x8
 .nil)))
 (.cond (.t x7) (.seq (.ops (.m x9 x0
 (.s x10 141 [(.t x9), (.c (.p 1)), (.c (.p 0)), (.c (.p 0))]
 .nil)))
 .ret)
 (.seq (.ops (.p x12 (.bin .eql (.t x6) (.c (.s 3 7104878)))
 (.m x11 x12
 .nil)))
 (.cond (.t x11) (.seq (.ops (.m x13 x0
 (.s x14 141 [(.t x13), (.c (.p 2)), (.c (.p 0)), (.c (.p 0))]
 .nil)))
 .ret)
 (.seq (.ops (.p x16 (.bin .eql (.t x6) (.c (.s 4 1702195828)))
 (.m x15 x16
 .nil)))
 (.cond (.t x15) (.seq (.ops (.m x17 x0
 (.s x18 141 [(.t x17), (.c (.p 3)), (.c (.p 0)), (.c (.p 0))]
 .nil)))
 .ret)
 (.seq (.ops (.p x20 (.bin .eql (.t x6) (.c (.s 5 435728179558)))
 (.m x19 x20
 .nil)))
 (.cond (.t x19) (.seq (.ops (.m x21 x0
 (.s x22 141 [(.t x21), (.c (.p 4)), (.c (.p 0)), (.c (.p 0))]
 .nil)))
 .ret)
 (.seq (.ops (.p x24 (.bin .eql (.t x6) (.c (.s 11 140803950564158277683865716)))
 (.m x23 x24
 .nil)))
 (.cond (.t x23) (.seq (.ops (.m x25 x0
 (.s x26 141 [(.t x25), (.c (.p 5)), (.c (.p 0)), (.c (.p 0))]
 .nil)))
 .ret)
 (.seq (.ops (.p x28 (.bin .eql (.t x6) (.c (.s 5 491328140659)))
 (.m x27 x28
 .nil)))
 (.cond (.t x27) (.ops (.m x29 x0
 (.m x30 x1
 (.s x31 158 [(.t x29), (.t x30), (.c (.p 15))]
 .nil))))
 .skip))))))))))))))
 (.seq (.ops (.m x33 x0
 (.m x34 x1
 (.s x35 156 [(.t x33), (.t x34)]
 (.m x32 x35
 (.p x36 (.ex (.t x32) 0)
 (.p x37 (.ex (.t x32) 1)
 (.cons .no (.ye x4) (.W (.al (.cons (.s 0 0) (.cons (.b false) (.cons (.b false) (.cons (.p 0) .nil))))))
 (.cons .no .no (.W (.st (.t x4) 4 (.t x36)))
 (.m x5 x37
 .nil))))))))))
 (.blk 1 (.seq (.ops (.m x42 x5
 (.m x43 x42
 (.cons (.ye x43 true) (.ye x44) (.P (.fa (.t x4) 1))
 (.cons (.ye x43 true) (.ye x45) (.L (.l (.one (.t x44))))
 (.p x46 (.pick (.t x43) (.t x45) (.c (.b false)))
 (.m x41 x46
 .nil)))))))
 (.cond (.t x41) (.ops (.m x47 x0
 (.p x48 (.fa (.t x4) 3)
 (.l x49 (.t x48)
 (.s x50 141 [(.t x47), (.c (.p 8)), (.t x49), (.c (.p 0))]
 .nil)))))
 (.seq (.ops (.m x52 x5
 (.m x51 x52
 .nil)))
 (.cond (.t x51) (.ops (.m x53 x0
 (.p x54 (.fa (.t x4) 3)
 (.l x55 (.t x54)
 (.s x56 141 [(.t x53), (.c (.p 7)), (.t x55), (.c (.p 0))]
 .nil)))))
 (.seq (.ops (.m x58 x1
 (.s x59 190 [(.t x58)]
 (.m x57 x59
 .nil))))
 (.cond (.t x57) (.ops (.m x60 x0
 (.m x61 x0
 (.m x62 x1
 (.s x63 191 [(.t x61), (.t x62)]
 (.s x64 141 [(.t x60), (.c (.p 9)), (.t x63), (.c (.p 0))]
 .nil))))))
 (.ops (.m x38 x0
 (.m x39 x1
 (.s x40 158 [(.t x38), (.t x39), (.c (.p 15))]
 .nil)))))))))))))
def a161 : AF := .fn (ps16.take 65) b161 .none
def b162 : ACode := (.seq (.ops (.cons .no (.ye x3) (.W (.bx (.t x1)))
 .nil))
 (.seq (.seq (.ops (.m x6 x0
 (.cons .no (.ye x7) (.L (.l (.many (.t x3) 6)))
 (.s x8 167 [(.t x6), (.t x7)]
 (.p x9 (.nt (.t x8))
 .nil)))))
 (.cond (.t x9) .ret
 .skip))
 (.seq (.ops (.m x11 x0
 (.p x12 (.fa (.t x3) 1)
 (.l x13 (.t x12)
 (.s x14 156 [(.t x11), (.t x13)]
 (.m x10 x14
 (.p x15 (.ex (.t x10) 0)
 (.p x16 (.ex (.t x10) 1)
 (.cons .no (.ye x4) (.W (.al (.cons (.s 0 0) (.cons (.b false) (.cons (.b false) (.cons (.p 0) .nil))))))
 (.cons .no .no (.W (.st (.t x4) 4 (.t x15)))
 (.m x5 x16
 .nil)))))))))))
 (.seq (.ops (.m x17 x0
 (.p x18 (.fa (.t x3) 5)
 (.l x19 (.t x18)
 (.p x20 (.ia (.t x19) (.c (.p 0)) 6)
 (.cons .no (.ye x21) (.L (.l (.many (.t x20) 6)))
 (.s x22 140 [(.t x17), (.t x21)]
 .nil)))))))
 (.blk 0 (.seq (.ops (.m x28 x5
 (.p x29 (.nt (.t x28))
 (.m x30 x29
 (.cons (.ye x30 true) (.ye x31) (.P (.fa (.t x3) 1))
 (.cons (.ye x30 true) (.ye x32) (.L (.l (.one (.t x31))))
 (.cons (.ye x30 true) (.ye x33) (.S 157 [(.t x32)])
 (.cons (.ye x30 true) (.ye x34) (.P (.nt (.t x33)))
 (.p x35 (.pick (.t x30) (.t x34) (.c (.b false)))
 (.m x36 x35
 (.cons (.ye x36 true) (.ye x37) (.P (.fa (.t x3) 1))
 (.cons (.ye x36 true) (.ye x38) (.L (.l (.one (.t x37))))
 (.cons (.ye x36 true) (.ye x39) (.S 190 [(.t x38)])
 (.cons (.ye x36 true) (.ye x40) (.P (.nt (.t x39)))
 (.p x41 (.pick (.t x36) (.t x40) (.c (.b false)))
 (.m x27 x41
 .nil))))))))))))))))
 (.cond (.t x27) (.ops (.m x42 x0
 (.p x43 (.fa (.t x3) 1)
 (.l x44 (.t x43)
 (.s x45 158 [(.t x42), (.t x44), (.c (.p 15))]
 .nil)))))
 (.seq (.ops (.m x47 x5
 (.p x48 (.nt (.t x47))
 (.m x49 x48
 (.cons (.ye x49 false) (.ye x50) (.P (.fa (.t x4) 2))
 (.cons (.ye x49 false) (.ye x51) (.L (.l (.one (.t x50))))
 (.p x52 (.pick (.t x49) (.c (.b true)) (.t x51))
 (.m x53 x52
 (.cons (.ye x53 false) (.ye x54) (.P (.fa (.t x3) 1))
 (.cons (.ye x53 false) (.ye x55) (.L (.l (.one (.t x54))))
 (.cons (.ye x53 false) (.ye x56) (.S 157 [(.t x55)])
 (.p x57 (.pick (.t x53) (.c (.b true)) (.t x56))
 (.m x46 x57
 .nil)))))))))))))
 (.cond (.t x46) (.ops (.m x58 x0
 (.p x59 (.fa (.t x3) 1)
 (.l x60 (.t x59)
 (.s x61 158 [(.t x58), (.t x60), (.c (.p 17))]
 .nil)))))
 (.seq (.ops (.p x63 (.fa (.t x4) 1)
 (.l x64 (.t x63)
 (.m x62 x64
 .nil))))
 (.cond (.t x62) (.ops (.m x65 x0
 (.p x66 (.fa (.t x4) 3)
 (.l x67 (.t x66)
 (.s x68 141 [(.t x65), (.c (.p 11)), (.t x67), (.c (.p 0))]
 .nil)))))
 (.ops (.m x23 x0
 (.p x24 (.fa (.t x4) 3)
 (.l x25 (.t x24)
 (.s x26 141 [(.t x23), (.c (.p 10)), (.t x25), (.c (.p 0))]
 .nil))))))))))))))))
def a162 : AF := .fn (ps16.take 69) b162 .none
def b163 : ACode := (.seq (.ops (.cons .no (.ye x3) (.W (.bx (.t x1)))
 .nil))
 (.seq (.seq (.ops (.p x4 (.fa (.t x3) 5)
 (.l x5 (.t x4)
 (.p x6 (.lnX (.t x5))
 (.p x7 (.bin .eql (.t x6) (.c (.p 0)))
 .nil)))))
 (.cond (.t x7) (.seq (.ops (.m x8 x0
 (.s x9 158 [(.t x8), (.c (.s 0 0)), (.c (.p 1))]
 .nil)))
 .ret)
 .skip))
 (.seq (.seq (.ops (.m x10 x0
 (.cons .no (.ye x11) (.L (.l (.many (.t x3) 6)))
 (.s x12 192 [(.t x10), (.t x11)]
 (.m x13 x12
 (.cons (.ye x13 false) (.ye x14) (.P (.mv (.t x0)))
 (.cons (.ye x13 false) (.ye x15) (.L (.l (.many (.t x3) 6)))
 (.cons (.ye x13 false) (.ye x16) (.S 193 [(.t x14), (.t x15)])
 (.p x17 (.pick (.t x13) (.c (.b true)) (.t x16))
 .nil)))))))))
 (.cond (.t x17) .ret
 .skip))
 (.draw (.h .no (.ye x18) (.P (.mv (.t x0)))
 (.h .no (.ye x19) (.P (.mv (.t x0)))
 (.h .no (.ye x20) (.P (.fa (.t x3) 5))
 (.h .no (.ye x21) (.L (.l (.one (.t x20))))
 (.h .no (.ye x22) (.P (.ia (.t x21) (.c (.p 0)) 6))
 (.h .no (.ye x23) (.L (.l (.many (.t x22) 6)))
 (.h .no (.ye x25) (.P (.fa (.t x3) 1))
 (.h .no (.ye x26) (.L (.l (.one (.t x25))))
 (.h .no (.ye x27) (.P (.fa (.t x3) 5))
 (.h .no (.ye x28) (.L (.l (.one (.t x27))))
 (.h .no (.ye x29) (.P (.slx (.t x28) (some (.c (.p 1))) none none 6))
 (.c .no (.ye x24) (.S 195 [(.t x19), (.t x23)]) (.cons .no (.l (.one (.t x25))) x26 (.cons .no (.l (.one (.t x27))) x28 .nil))
 (.c .no (.ye x30) (.S 194 [(.t x18), (.t x24), (.t x26), (.t x29)]) .nil
 .nil)))))))))))))))))
def a163 : AF := .fn (ps16.take 31) b163 .none
def b164 : ACode := (.seq (.ops (.cons .no (.ye x3) (.W (.bx (.t x1)))
 .nil))
 (.seq (.seq (.ops (.p x8 (.fa (.t x3) 5)
 (.l x9 (.t x8)
 (.p x10 (.lnX (.t x9))
 (.p x11 (.bin .lss (.t x10) (.c (.p 2)))
 .nil)))))
 (.cond (.t x11) (.seq (.ops (.m x12 x0
 (.s x13 158 [(.t x12), (.c (.s 0 0)), (.c (.p 1))]
 .nil)))
 .ret)
 .skip))
 (.seq (.ops (.m x14 x0
 (.p x15 (.fa (.t x3) 5)
 (.l x16 (.t x15)
 (.p x17 (.ia (.t x16) (.c (.p 0)) 6)
 (.cons .no (.ye x18) (.L (.l (.many (.t x17) 6)))
 (.s x19 195 [(.t x14), (.t x18)]
 (.m x4 x19
 .nil))))))))
 (.seq (.ops (.p x20 (.fa (.t x3) 5)
 (.l x21 (.t x20)
 (.p x22 (.lnX (.t x21))
 (.p x23 (.bin .sub (.t x22) (.c (.p 1)))
 (.m x5 x23
 .nil))))))
 (.seq (.ops (.p x24 (.fa (.t x3) 5)
 (.l x25 (.t x24)
 (.p x26 (.slx (.t x25) (some (.c (.p 1))) none none 6)
 (.p x27 (.lnX (.t x26))
 (.p x28 (.mv (.c (.p 0)))
 .nil))))))
 (.blk 0 (.loop (.seq (.ops (.p x29 (.bin .lss (.t x28) (.t x27))
 .nil))
 (.seq (.cond (.t x29) .skip
 (.exit 0))
 (.seq (.blk 1 (.seq (.ops (.m x30 x28
 (.p x31 (.ia (.t x26) (.t x28) 6)
 (.cons .no (.ye x32) (.L (.l (.many (.t x31) 6)))
 (.cons .no (.ye x7) (.W (.al (.cons (.p 0) (.cons (.s 0 0) (.cons (.p 0) (.cons .ns (.cons .ns (.cons .ns .nil))))))))
 (.m x6 x30
 (.cons .no .no (.W (.st (.t x7) 6 (.t x32)))
 .nil)))))))
 (.seq (.seq (.ops (.p x33 (.fa (.t x7) 0)
 (.l x34 (.t x33)
 (.p x35 (.bin .neq (.t x34) (.c (.p 7)))
 .nil))))
 (.cond (.t x35) (.ops (.m x36 x0
 (.s x37 158 [(.t x36), (.c (.s 0 0)), (.c (.p 1))]
 .nil)))
 .skip))
 (.seq (.seq (.ops (.m x38 x6
 (.p x39 (.bin .add (.t x38) (.c (.p 1)))
 (.m x40 x5
 (.p x41 (.bin .lss (.t x39) (.t x40))
 .nil)))))
 (.cond (.t x41) (.ops (.m x42 x0
 (.s x43 141 [(.t x42), (.c (.p 13)), (.c (.p 0)), (.c (.p 0))]
 .nil)))
 .skip))
 (.seq (.ops (.m x44 x0
 (.m x45 x4
 (.p x46 (.fa (.t x7) 1)
 (.l x47 (.t x46)
 (.p x48 (.fa (.t x7) 5)
 (.l x49 (.t x48)
 (.s x50 194 [(.t x44), (.t x45), (.t x47), (.t x49)]
 .nil))))))))
 (.seq (.ops (.m x51 x6
 (.p x52 (.bin .add (.t x51) (.c (.p 1)))
 (.m x53 x5
 (.p x54 (.bin .lss (.t x52) (.t x53))
 .nil)))))
 (.cond (.t x54) (.ops (.m x55 x0
 (.s x56 141 [(.t x55), (.c (.p 12)), (.c (.p 0)), (.c (.p 0))]
 .nil)))
 .skip)))))))
 (.ops (.p x57 (.bin .add (.t x28) (.c (.p 1)))
 (.m x28 x57
 .nil)))))))))))))
def a164 : AF := .fn (ps16.take 58) b164 .none
def b165 : ACode := (.seq (.ops (.cons .no (.ye x2) (.W (.bx (.t x0)))
 (.cons .no (.ye x3) (.W (.bx (.t x1)))
 (.p x4 (.mv (.c .nf))
 .nil))))
 (.seq (.ops (.l x6 (.t x2)
 (.s x7 196 [(.t x6)]
 (.cons .no (.ye x5) (.W (.al (.cons (.p 0) .nil)))
 (.cons .no .no (.W (.st (.t x5) 1 (.t x7)))
 .nil)))))
 (.seq (.ops (.l x8 (.t x2)
 (.l x9 (.t x3)
 (.s x10 141 [(.t x8), (.t x9), (.c (.p 0)), (.c (.p 0))]
 .nil))))
 (.seq (.ops (.p x11 (.mf 197 [] [(.t x2), (.t x5), (.t x3)])
 (.m x4 x11
 .nil)))
 .ret))))
def a165 : AF := .fn (ps16.take 12) b165 (.one x4)
def b166 : ACode := (.seq (.ops (.cons .no (.ye x3) (.W (.bx (.t x1)))
 .nil))
 (.seq (.draw (.h .no (.ye x7) (.P (.mv (.t x0)))
 (.h .no (.ye x8) (.P (.nck (.t x7)))
 (.h .no (.ye x9) (.P (.fa (.t x8) 6))
 (.h .no (.ye x10) (.L (.l (.one (.t x9))))
 (.h .no (.ye x11) (.P (.mv (.t x0)))
 (.h .no (.ye x12) (.P (.nck (.t x11)))
 (.h .no (.ye x13) (.P (.fa (.t x12) 6))
 (.h .no (.ye x14) (.L (.l (.one (.t x13))))
 (.h .no (.ye x15) (.P (.lnX (.t x14)))
 (.h .no (.ye x16) (.P (.mv (.t x0)))
 (.h .no (.ye x17) (.P (.nck (.t x16)))
 (.h .no (.ye x18) (.P (.fa (.t x17) 6))
 (.h .no (.ye x19) (.L (.l (.one (.t x18))))
 (.h .no (.ye x20) (.P (.lnX (.t x19)))
 (.h .no (.ye x21) (.P (.slx (.t x10) none (some (.t x15)) (some (.t x20)) 4))
 (.h .no (.ye x4) (.P (.mv (.t x21)))
 .nil)))))))))))))))))
 (.seq (.ops (.m x22 x0
 (.m x23 x4
 (.p x24 (.nck (.t x22))
 (.p x25 (.fa (.t x24) 6)
 (.cons .no .no (.W (.st (.t x25) 1 (.t x23)))
 .nil))))))
 (.seq (.ops (.m x26 x0
 (.p x27 (.fa (.t x3) 3)
 (.l x28 (.t x27)
 (.s x29 139 [(.t x26), (.t x28), (.c (.b true))]
 .nil)))))
 (.seq (.ops (.m x30 x0
 (.p x31 (.fa (.t x3) 4)
 (.l x32 (.t x31)
 (.s x33 139 [(.t x30), (.t x32), (.c (.b false))]
 .nil)))))
 (.seq (.seq (.ops (.p x34 (.fa (.t x3) 5)
 (.l x35 (.t x34)
 (.p x36 (.lnX (.t x35))
 (.p x37 (.mv (.c (.p 0)))
 .nil)))))
 (.blk 0 (.loop (.seq (.ops (.p x38 (.bin .lss (.t x37) (.t x36))
 .nil))
 (.seq (.cond (.t x38) .skip
 (.exit 0))
 (.seq (.blk 1 (.seq (.ops (.m x39 x37
 (.p x40 (.ia (.t x35) (.t x37) 6)
 (.cons .no (.ye x41) (.L (.l (.many (.t x40) 6)))
 (.cons .no (.ye x6) (.W (.al (.cons (.p 0) (.cons (.s 0 0) (.cons (.p 0) (.cons .ns (.cons .ns (.cons .ns .nil))))))))
 (.m x5 x39
 (.cons .no .no (.W (.st (.t x6) 6 (.t x41)))
 .nil)))))))
 (.seq (.seq (.ops (.m x42 x5
 (.p x43 (.bin .gtr (.t x42) (.c (.p 0)))
 .nil)))
 (.cond (.t x43) (.ops (.m x44 x0
 (.s x45 141 [(.t x44), (.c (.p 12)), (.c (.p 0)), (.c (.p 0))]
 .nil)))
 .skip))
 (.seq (.ops (.m x46 x0
 (.cons .no (.ye x47) (.L (.l (.many (.t x6) 6)))
 (.s x48 140 [(.t x46), (.t x47)]
 .nil))))
 (.seq (.ops (.p x49 (.fa (.t x6) 0)
 (.l x50 (.t x49)
 (.p x51 (.bin .eql (.t x50) (.c (.p 10)))
 .nil))))
 (.cond (.t x51) (.ops (.m x52 x0
 (.s x53 141 [(.t x52), (.c (.p 2)), (.c (.p 0)), (.c (.p 0))]
 .nil)))
 .skip))))))
 (.ops (.p x54 (.bin .add (.t x37) (.c (.p 1)))
 (.m x37 x54
 .nil)))))))))
 (.seq (.seq (.ops (.p x55 (.fa (.t x3) 5)
 (.l x56 (.t x55)
 (.p x57 (.lnX (.t x56))
 (.p x58 (.bin .eql (.t x57) (.c (.p 0)))
 .nil)))))
 (.cond (.t x58) (.ops (.m x59 x0
 (.s x60 141 [(.t x59), (.c (.p 2)), (.c (.p 0)), (.c (.p 0))]
 .nil)))
 .skip))
 (.ops (.m x61 x0
 (.m x62 x4
 (.p x63 (.nck (.t x61))
 (.p x64 (.fa (.t x63) 6)
 (.cons .no .no (.W (.st (.t x64) 1 (.t x62)))
 .nil)))))))))))))
def a166 : AF := .fn (ps16.take 65) b166 .none
def b167 : ACode := (.seq (.ops (.cons .no (.ye x3) (.W (.bx (.t x1)))
 (.p x4 (.mv (.c (.b false)))
 .nil)))
 (.seq (.seq (.ops (.p x5 (.fa (.t x3) 5)
 (.l x6 (.t x5)
 (.p x7 (.lnX (.t x6))
 (.p x8 (.bin .neq (.t x7) (.c (.p 1)))
 .nil)))))
 (.cond (.t x8) (.ops (.m x9 x0
 (.s x10 158 [(.t x9), (.c (.s 0 0)), (.c (.p 1))]
 .nil)))
 .skip))
 (.seq (.ops (.p x11 (.fa (.t x3) 5)
 (.l x12 (.t x11)
 (.p x13 (.lnX (.t x12))
 (.p x14 (.bin .eql (.t x13) (.c (.p 1)))
 (.m x4 x14
 .nil))))))
 .ret)))
def a167 : AF := .fn (ps16.take 15) b167 (.one x4)
def b168 : ACode := (.seq (.ops (.p x6 (.mv (.c (.b false)))
 .nil))
 (.seq (.ops (.m x7 x0
 (.m x8 x1
 (.p x9 (.bin .geq (.t x7) (.t x8))
 (.m x10 x9
 (.cons (.ye x10 true) (.ye x11) (.P (.mv (.t x0)))
 (.cons (.ye x10 true) (.ye x12) (.P (.mv (.t x2)))
 (.cons (.ye x10 true) (.ye x13) (.P (.bin .leq (.t x11) (.t x12)))
 (.p x14 (.pick (.t x10) (.t x13) (.c (.b false)))
 (.m x6 x14
 .nil))))))))))
 .ret))
def a168 : AF := .fn (ps16.take 15) b168 (.one x6)
def b169 : ACode := (.seq (.ops (.p x4 (.mv (.c (.b false)))
 .nil))
 (.seq (.ops (.m x5 x0
 (.m x6 x1
 (.s x7 187 [(.t x5), (.t x6)]
 (.p x8 (.bin .geq (.t x7) (.c (.p 0)))
 (.m x4 x8
 .nil))))))
 .ret))
def a169 : AF := .fn (ps16.take 9) b169 (.one x4)
def b170 : ACode := (.seq (.ops (.cons .no (.ye x1) (.W (.bx (.t x0)))
 (.p x2 (.mv (.c (.b false)))
 .nil)))
 (.seq (.ops (.cons .no (.ye x3) (.L (.l (.many (.t x1) 4)))
 (.s x4 171 [(.t x3), (.c (.p 20))]
 (.p x5 (.nt (.t x4))
 (.m x2 x5
 .nil)))))
 .ret))
def a170 : AF := .fn (ps16.take 6) b170 (.one x2)
def b171 : ACode := (.seq (.ops (.cons .no (.ye x2) (.W (.bx (.t x0)))
 (.cons .no (.ye x3) (.W (.bx (.t x1)))
 (.p x4 (.mv (.c (.b false)))
 .nil))))
 (.seq (.seq (.ops (.p x6 (.fa (.t x2) 0)
 (.l x7 (.t x6)
 .nil)))
 (.blk 0 (.seq (.ops (.p x9 (.bin .eql (.t x7) (.c (.p 1)))
 (.m x8 x9
 .nil)))
 (.cond (.t x8) (.seq (.ops (.p x10 (.fa (.t x2) 1)
 (.l x11 (.t x10)
 (.p x12 (.bin .eql (.t x11) (.c (.s 0 0)))
 (.m x13 x12
 (.cons (.ye x13 true) (.ye x14) (.P (.fa (.t x2) 3))
 (.cons (.ye x13 true) (.ye x15) (.L (.l (.one (.t x14))))
 (.cons (.ye x13 true) (.ye x16) (.P (.lnX (.t x15)))
 (.cons (.ye x13 true) (.ye x17) (.P (.bin .eql (.t x16) (.c (.p 0))))
 (.p x18 (.pick (.t x13) (.t x17) (.c (.b false)))
 (.m x19 x18
 (.cons (.ye x19 true) (.ye x20) (.P (.fa (.t x2) 2))
 (.cons (.ye x19 true) (.ye x21) (.L (.l (.one (.t x20))))
 (.cons (.ye x19 true) (.ye x22) (.S 168 [(.t x21), (.c (.n 1152921504606846975)), (.c (.p 1152921504606846976))])
 (.p x23 (.pick (.t x19) (.t x22) (.c (.b false)))
 (.m x4 x23
 .nil))))))))))))))))
 .ret)
 (.seq (.ops (.p x25 (.bin .eql (.t x7) (.c (.p 2)))
 (.m x24 x25
 .nil)))
 (.cond (.t x24) (.seq (.ops (.p x26 (.fa (.t x2) 2)
 (.l x27 (.t x26)
 (.p x28 (.bin .eql (.t x27) (.c (.p 0)))
 (.m x29 x28
 (.cons (.ye x29 true) (.ye x30) (.P (.fa (.t x2) 3))
 (.cons (.ye x29 true) (.ye x31) (.L (.l (.one (.t x30))))
 (.cons (.ye x29 true) (.ye x32) (.P (.lnX (.t x31)))
 (.cons (.ye x29 true) (.ye x33) (.P (.bin .eql (.t x32) (.c (.p 0))))
 (.p x34 (.pick (.t x29) (.t x33) (.c (.b false)))
 (.m x35 x34
 (.cons (.ye x35 true) (.ye x36) (.P (.fa (.t x2) 1))
 (.cons (.ye x35 true) (.ye x37) (.L (.l (.one (.t x36))))
 (.cons (.ye x35 true) (.ye x38) (.P (.lnS (.t x37)))
 (.cons (.ye x35 true) (.ye x39) (.P (.bin .leq (.t x38) (.c (.p 250))))
 (.p x40 (.pick (.t x35) (.t x39) (.c (.b false)))
 (.m x4 x40
 .nil)))))))))))))))))
 .ret)
 (.seq (.ops (.p x42 (.bin .eql (.t x7) (.c (.p 3)))
 (.m x41 x42
 .nil)))
 (.cond (.t x41) (.seq (.ops (.p x43 (.fa (.t x2) 2)
 (.l x44 (.t x43)
 (.p x45 (.bin .eql (.t x44) (.c (.p 0)))
 (.m x46 x45
 (.cons (.ye x46 true) (.ye x47) (.P (.fa (.t x2) 3))
 (.cons (.ye x46 true) (.ye x48) (.L (.l (.one (.t x47))))
 (.cons (.ye x46 true) (.ye x49) (.P (.lnX (.t x48)))
 (.cons (.ye x46 true) (.ye x50) (.P (.bin .eql (.t x49) (.c (.p 0))))
 (.p x51 (.pick (.t x46) (.t x50) (.c (.b false)))
 (.m x52 x51
 (.cons (.ye x52 true) (.ye x53) (.P (.fa (.t x2) 1))
 (.cons (.ye x52 true) (.ye x54) (.L (.l (.one (.t x53))))
 (.cons (.ye x52 true) (.ye x55) (.P (.lnS (.t x54)))
 (.cons (.ye x52 true) (.ye x56) (.S 168 [(.t x55), (.c (.p 1)), (.c (.p 60))])
 (.p x57 (.pick (.t x52) (.t x56) (.c (.b false)))
 (.m x4 x57
 .nil)))))))))))))))))
 .ret)
 (.seq (.ops (.p x59 (.bin .eql (.t x7) (.c (.p 4)))
 (.m x58 x59
 .nil)))
 (.cond (.t x58) (.seq (.ops (.p x60 (.fa (.t x2) 3)
 (.l x61 (.t x60)
 (.p x62 (.mf 199 [] [(.t x3)])
 (.s x63 169 [(.t x61), (.t x62)]
 (.m x5 x63
 .nil))))))
 (.seq (.ops (.p x64 (.fa (.t x2) 2)
 (.l x65 (.t x64)
 (.p x66 (.bin .eql (.t x65) (.c (.p 0)))
 (.m x67 x66
 (.cons (.ye x67 true) (.ye x68) (.P (.fa (.t x2) 1))
 (.cons (.ye x67 true) (.ye x69) (.L (.l (.one (.t x68))))
 (.cons (.ye x67 true) (.ye x70) (.P (.bin .eql (.t x69) (.c (.s 0 0))))
 (.p x71 (.pick (.t x67) (.t x70) (.c (.b false)))
 (.m x72 x71
 (.cons (.ye x72 true) (.ye x73) (.L (.l (.one (.t x3))))
 (.cons (.ye x72 true) (.ye x74) (.P (.bin .gtr (.t x73) (.c (.p 0))))
 (.p x75 (.pick (.t x72) (.t x74) (.c (.b false)))
 (.m x76 x75
 (.cons (.ye x76 true) (.ye x77) (.P (.fa (.t x2) 3))
 (.cons (.ye x76 true) (.ye x78) (.L (.l (.one (.t x77))))
 (.cons (.ye x76 true) (.ye x79) (.P (.lnX (.t x78)))
 (.cons (.ye x76 true) (.ye x80) (.P (.bin .leq (.t x79) (.c (.p 250))))
 (.p x81 (.pick (.t x76) (.t x80) (.c (.b false)))
 (.m x82 x81
 (.cons (.ye x82 true) (.ye x83) (.P (.mv (.t x5)))
 (.cons (.ye x82 true) (.ye x84) (.P (.nt (.t x83)))
 (.p x85 (.pick (.t x82) (.t x84) (.c (.b false)))
 (.m x4 x85
 .nil))))))))))))))))))))))))
 .ret))
 .skip))))))))))
 (.seq (.ops (.p x4 (.mv (.c (.b false)))
 .nil))
 .ret)))
def a171 : AF := .fn (ps16.take 86) b171 (.one x4)
def b172 : ACode := (.seq (.ops (.cons .no (.ye x3) (.W (.bx (.t x0)))
 (.cons .no (.ye x4) (.W (.bx (.t x1)))
 (.p x6 (.mv (.c (.b false)))
 .nil))))
 (.seq (.ops (.p x9 (.fa (.t x4) 1)
 (.l x10 (.t x9)
 (.p x11 (.fa (.t x3) 4)
 (.l x12 (.t x11)
 (.p x13 (.lnX (.t x12))
 (.p x14 (.bin .lss (.t x10) (.t x13))
 (.m x7 x14
 .nil))))))))
 (.seq (.ops (.m x15 x7
 (.m x16 x15
 (.cons (.ye x16 true) (.ye x17) (.P (.fa (.t x3) 4))
 (.cons (.ye x16 true) (.ye x18) (.L (.l (.one (.t x17))))
 (.cons (.ye x16 true) (.ye x19) (.P (.fa (.t x4) 1))
 (.cons (.ye x16 true) (.ye x20) (.L (.l (.one (.t x19))))
 (.cons (.ye x16 true) (.ye x21) (.P (.ia (.t x18) (.t x20) 4))
 (.cons (.ye x16 true) (.ye x22) (.P (.fa (.t x21) 0))
 (.cons (.ye x16 true) (.ye x23) (.L (.l (.one (.t x22))))
 (.cons (.ye x16 true) (.ye x24) (.P (.bin .eql (.t x23) (.c (.p 3))))
 (.p x25 (.pick (.t x16) (.t x24) (.c (.b false)))
 (.m x8 x25
 .nil)))))))))))))
 (.seq (.seq (.ops (.p x26 (.fa (.t x4) 0)
 (.l x27 (.t x26)
 .nil)))
 (.blk 0 (.seq (.ops (.p x29 (.bin .eql (.t x27) (.c (.p 6)))
 (.m x28 x29
 .nil)))
 (.cond (.t x28) (.seq (.ops (.m x30 x7
 (.m x6 x30
 .nil)))
 .ret)
 (.seq (.ops (.p x32 (.bin .eql (.t x27) (.c (.p 9)))
 (.m x31 x32
 .nil)))
 (.cond (.t x31) (.seq (.ops (.m x33 x8
 (.m x6 x33
 .nil)))
 .ret)
 (.seq (.seq (.ops (.p x35 (.bin .eql (.t x27) (.c (.p 14)))
 (.m x34 x35
 .nil)))
 (.cond (.t x34) .skip
 (.ops (.p x36 (.bin .eql (.t x27) (.c (.p 15)))
 (.m x34 x36
 .nil)))))
 (.cond (.t x34) (.seq (.ops (.m x37 x8
 (.m x38 x37
 (.cons (.ye x38 true) (.ye x39) (.P (.fa (.t x4) 2))
 (.cons (.ye x38 true) (.ye x40) (.L (.l (.one (.t x39))))
 (.cons (.ye x38 true) (.ye x41) (.P (.bin .leq (.t x40) (.c (.p 4))))
 (.p x42 (.pick (.t x38) (.t x41) (.c (.b false)))
 (.m x6 x42
 .nil))))))))
 .ret)
 (.seq (.seq (.ops (.p x44 (.bin .eql (.t x27) (.c (.p 7)))
 (.m x43 x44
 .nil)))
 (.cond (.t x43) .skip
 (.ops (.p x45 (.bin .eql (.t x27) (.c (.p 10)))
 (.m x43 x45
 .nil)))))
 (.cond (.t x43) (.seq (.ops (.p x46 (.fa (.t x4) 1)
 (.l x47 (.t x46)
 (.p x48 (.fa (.t x3) 2)
 (.l x49 (.t x48)
 (.p x50 (.bin .lss (.t x47) (.t x49))
 (.m x6 x50
 .nil)))))))
 .ret)
 (.seq (.seq (.ops (.p x52 (.bin .eql (.t x27) (.c (.p 8)))
 (.m x51 x52
 .nil)))
 (.cond (.t x51) .skip
 (.ops (.p x53 (.bin .eql (.t x27) (.c (.p 11)))
 (.m x51 x53
 .nil)))))
 (.cond (.t x51) (.seq (.ops (.p x54 (.fa (.t x4) 1)
 (.l x55 (.t x54)
 (.m x56 x2
 (.p x57 (.bin .lss (.t x55) (.t x56))
 (.m x6 x57
 .nil))))))
 .ret)
 (.seq (.ops (.p x59 (.bin .eql (.t x27) (.c (.p 18)))
 (.m x58 x59
 .nil)))
 (.cond (.t x58) (.seq (.ops (.p x60 (.fa (.t x4) 2)
 (.l x61 (.t x60)
 (.p x62 (.bin .leq (.t x61) (.c (.p 4)))
 (.m x63 x62
 (.cons (.ye x63 true) (.ye x64) (.P (.fa (.t x4) 1))
 (.cons (.ye x63 true) (.ye x65) (.L (.l (.one (.t x64))))
 (.cons (.ye x63 true) (.ye x66) (.P (.fa (.t x4) 2))
 (.cons (.ye x63 true) (.ye x67) (.L (.l (.one (.t x66))))
 (.cons (.ye x63 true) (.ye x68) (.P (.bin .add (.t x65) (.t x67)))
 (.cons (.ye x63 true) (.ye x69) (.P (.fa (.t x3) 2))
 (.cons (.ye x63 true) (.ye x70) (.L (.l (.one (.t x69))))
 (.cons (.ye x63 true) (.ye x71) (.P (.bin .leq (.t x68) (.t x70)))
 (.p x72 (.pick (.t x63) (.t x71) (.c (.b false)))
 (.m x6 x72
 .nil)))))))))))))))
 .ret)
 .skip))))))))))))))
 (.seq (.ops (.p x6 (.mv (.c (.b true)))
 .nil))
 .ret)))))
def a172 : AF := .fn (ps16.take 73) b172 (.one x6)
def b173 : ACode := (.seq (.ops (.cons .no (.ye x1) (.W (.bx (.t x0)))
 (.p x2 (.mv (.c .ns))
 .nil)))
 (.seq (.ops (.l x6 (.t x1)
 (.p x7 (.lnX (.t x6))
 (.cons .no (.ye x8) (.W (.ms (.p 0) 8 (.t x7) (.t x7)))
 (.m x3 x8
 .nil)))))
 (.seq (.ops (.p x9 (.mf 200 [] [(.t x1)])
 (.m x4 x9
 .nil)))
 (.seq (.seq (.ops (.l x10 (.t x1)
 (.p x11 (.lnX (.t x10))
 (.p x12 (.mv (.c (.p 0)))
 .nil))))
 (.blk 0 (.loop (.seq (.ops (.p x13 (.bin .lss (.t x12) (.t x11))
 .nil))
 (.seq (.cond (.t x13) .skip
 (.exit 0))
 (.seq (.blk 1 (.seq (.ops (.m x14 x12
 (.m x5 x14
 .nil)))
 (.ops (.m x15 x3
 (.m x16 x5
 (.m x17 x4
 (.m x18 x5
 (.cons .no (.ye x19) (.V (.t x17) [(.t x18)])
 (.p x20 (.ia (.t x15) (.t x16) 1)
 (.cons .no .no (.W (.st (.t x20) 1 (.t x19)))
 .nil))))))))))
 (.ops (.p x21 (.bin .add (.t x12) (.c (.p 1)))
 (.m x12 x21
 .nil)))))))))
 (.seq (.ops (.m x22 x3
 (.m x2 x22
 .nil)))
 .ret)))))
def a173 : AF := .fn (ps16.take 23) b173 (.one x2)
def b174 : ACode := (.seq (.ops (.p x4 (.mv (.c (.b false)))
 .nil))
 (.seq (.seq (.ops (.m x11 x0
 (.p x12 (.lnX (.t x11))
 (.p x13 (.mv (.c (.p 0)))
 .nil))))
 (.blk 0 (.loop (.seq (.ops (.p x14 (.bin .lss (.t x13) (.t x12))
 .nil))
 (.seq (.cond (.t x14) .skip
 (.exit 0))
 (.seq (.blk 1 (.seq (.ops (.m x15 x13
 (.p x16 (.ia (.t x11) (.t x13) 3)
 (.cons .no (.ye x17) (.L (.l (.many (.t x16) 3)))
 (.cons .no (.ye x6) (.W (.al (.cons (.p 0) (.cons (.p 0) (.cons (.p 0) .nil)))))
 (.m x5 x15
 (.cons .no .no (.W (.st (.t x6) 3 (.t x17)))
 .nil)))))))
 (.seq (.seq (.ops (.p x18 (.fa (.t x6) 0)
 (.l x19 (.t x18)
 (.p x20 (.bin .eql (.t x19) (.c (.p 18)))
 .nil))))
 (.cond (.t x20) (.seq (.ops (.m x22 x0
 (.m x23 x5
 (.s x24 201 [(.t x22), (.t x23)]
 (.m x21 x24
 (.p x25 (.ex (.t x21) 0)
 (.p x26 (.ex (.t x21) 1)
 (.m x7 x25
 (.m x8 x26
 .nil)))))))))
 (.seq (.ops (.m x27 x0
 (.p x28 (.lnX (.t x27))
 (.m x9 x28
 .nil))))
 (.seq (.seq (.ops (.m x29 x1
 (.m x30 x5
 (.p x31 (.ia (.t x29) (.t x30) 1)
 (.l x32 (.t x31)
 (.p x33 (.bin .geq (.t x32) (.c (.p 0)))
 .nil))))))
 (.cond (.t x33) (.ops (.m x35 x0
 (.m x36 x1
 (.m x37 x5
 (.p x38 (.ia (.t x36) (.t x37) 1)
 (.l x39 (.t x38)
 (.s x40 201 [(.t x35), (.t x39)]
 (.m x34 x40
 (.p x41 (.ex (.t x34) 0)
 (.p x42 (.ex (.t x34) 1)
 (.m x9 x41
 .nil)))))))))))
 .skip))
 (.seq (.ops (.m x43 x8
 (.p x44 (.nt (.t x43))
 (.m x45 x44
 (.cons (.ye x45 false) (.ye x46) (.P (.mv (.t x7)))
 (.cons (.ye x45 false) (.ye x47) (.P (.mv (.t x9)))
 (.cons (.ye x45 false) (.ye x48) (.P (.bin .gtr (.t x46) (.t x47)))
 (.p x49 (.pick (.t x45) (.c (.b true)) (.t x48))
 .nil))))))))
 (.cond (.t x49) (.seq (.ops (.p x4 (.mv (.c (.b false)))
 .nil))
 .ret)
 .skip)))))
 .skip))
 (.seq (.ops (.cons .no (.ye x50) (.L (.l (.many (.t x6) 3)))
 (.s x51 202 [(.t x50)]
 (.m x10 x51
 .nil))))
 (.seq (.draw (.h .no (.ye x52) (.P (.mv (.t x10)))
 (.h .no (.ye x53) (.P (.bin .geq (.t x52) (.c (.p 0))))
 (.h .no (.ye x54) (.P (.mv (.t x53)))
 (.h (.ye x54 true) (.ye x55) (.P (.mv (.t x10)))
 (.h (.ye x54 true) (.ye x56) (.P (.mv (.t x0)))
 (.h (.ye x54 true) (.ye x57) (.P (.lnX (.t x56)))
 (.h (.ye x54 true) (.ye x58) (.P (.bin .geq (.t x55) (.t x57)))
 (.h (.ye x54 true) (.ye x59) (.P (.mv (.t x58)))
 (.h (.ye x59 false) (.ye x60) (.P (.mv (.t x1)))
 (.h (.ye x59 false) (.ye x61) (.P (.mv (.t x10)))
 (.h (.ye x59 false) (.ye x62) (.P (.ia (.t x60) (.t x61) 1))
 (.h (.ye x59 false) (.ye x63) (.L (.l (.one (.t x62))))
 (.h (.ye x59 false) (.ye x64) (.P (.mv (.t x1)))
 (.h (.ye x59 false) (.ye x65) (.P (.mv (.t x5)))
 (.h (.ye x59 false) (.ye x66) (.P (.ia (.t x64) (.t x65) 1))
 (.h (.ye x59 false) (.ye x67) (.L (.l (.one (.t x66))))
 (.h (.ye x59 false) (.ye x68) (.P (.bin .neq (.t x63) (.t x67)))
 (.h (.ye x54 true) (.ye x69) (.P (.pick (.t x59) (.c (.b true)) (.t x68)))
 (.h .no (.ye x70) (.P (.pick (.t x54) (.t x69) (.c (.b false))))
 .nil))))))))))))))))))))
 (.cond (.t x70) (.seq (.ops (.p x4 (.mv (.c (.b false)))
 .nil))
 .ret)
 .skip))))))
 (.ops (.p x71 (.bin .add (.t x13) (.c (.p 1)))
 (.m x13 x71
 .nil)))))))))
 (.seq (.ops (.p x4 (.mv (.c (.b true)))
 .nil))
 .ret)))
def a174 : AF := .fn (ps16.take 72) b174 (.one x4)
def b175 : ACode := (.seq (.ops (.cons .no (.ye x2) (.W (.bx (.t x0)))
 (.cons .no (.ye x3) (.W (.bx (.t x1)))
 (.p x4 (.mv (.c .ns))
 (.p x5 (.mv (.c (.b false)))
 .nil)))))
 (.seq (.ops (.l x15 (.t x2)
 (.p x16 (.lnX (.t x15))
 (.cons .no (.ye x17) (.W (.ms (.p 0) 8 (.t x16) (.t x16)))
 (.cons .no (.ye x6) (.W (.al (.cons .ns .nil)))
 (.cons .no .no (.W (.st (.t x6) 1 (.t x17)))
 .nil))))))
 (.seq (.ops (.cons .no (.ye x7) (.W (.al (.cons .ns .nil)))
 .nil))
 (.seq (.seq (.ops (.l x18 (.t x6)
 (.p x19 (.lnX (.t x18))
 (.p x20 (.mv (.c (.p 0)))
 .nil))))
 (.blk 0 (.loop (.seq (.ops (.p x21 (.bin .lss (.t x20) (.t x19))
 .nil))
 (.seq (.cond (.t x21) .skip
 (.exit 0))
 (.seq (.blk 1 (.seq (.ops (.m x22 x20
 (.m x8 x22
 .nil)))
 (.seq (.ops (.l x23 (.t x6)
 (.m x24 x8
 (.p x25 (.ia (.t x23) (.t x24) 1)
 (.cons .no .no (.W (.st (.t x25) 1 (.c (.n 0))))
 .nil)))))
 (.seq (.ops (.m x26 x8
 (.p x27 (.bin .eql (.t x26) (.c (.p 0)))
 (.m x28 x27
 (.cons (.ye x28 false) (.ye x29) (.P (.mv (.t x8)))
 (.cons (.ye x28 false) (.ye x30) (.P (.bin .gtr (.t x29) (.c (.p 1))))
 (.cons (.ye x28 false) (.ye x31) (.P (.mv (.t x30)))
 (.cons (.ye x31 true) (.ye x32) (.L (.l (.one (.t x2))))
 (.cons (.ye x31 true) (.ye x33) (.P (.mv (.t x8)))
 (.cons (.ye x31 true) (.ye x34) (.P (.bin .sub (.t x33) (.c (.p 2))))
 (.cons (.ye x31 true) (.ye x35) (.P (.ia (.t x32) (.t x34) 3))
 (.cons (.ye x31 true) (.ye x36) (.P (.fa (.t x35) 0))
 (.cons (.ye x31 true) (.ye x37) (.L (.l (.one (.t x36))))
 (.cons (.ye x31 true) (.ye x38) (.P (.bin .eql (.t x37) (.c (.p 18))))
 (.cons (.ye x28 false) (.ye x39) (.P (.pick (.t x31) (.t x38) (.c (.b false))))
 (.cons (.ye x28 false) (.ye x40) (.P (.mv (.t x39)))
 (.cons (.ye x40 true) (.ye x41) (.L (.l (.one (.t x3))))
 (.cons (.ye x40 true) (.ye x42) (.P (.mv (.t x8)))
 (.cons (.ye x40 true) (.ye x43) (.P (.ia (.t x41) (.t x42) 1))
 (.cons (.ye x40 true) (.ye x44) (.L (.l (.one (.t x43))))
 (.cons (.ye x40 true) (.ye x45) (.P (.mv (.t x8)))
 (.cons (.ye x40 true) (.ye x46) (.P (.bin .sub (.t x45) (.c (.p 2))))
 (.cons (.ye x40 true) (.ye x47) (.P (.bin .eql (.t x44) (.t x46)))
 (.cons (.ye x28 false) (.ye x48) (.P (.pick (.t x40) (.t x47) (.c (.b false))))
 (.p x49 (.pick (.t x28) (.c (.b true)) (.t x48))
 .nil)))))))))))))))))))))))))
 (.cond (.t x49) (.seq (.ops (.l x50 (.t x6)
 (.m x51 x8
 (.p x52 (.ia (.t x50) (.t x51) 1)
 (.cons .no .no (.W (.st (.t x52) 1 (.c (.p 0))))
 .nil)))))
 (.ops (.l x53 (.t x7)
 (.m x54 x8
 (.cons .no (.ye x55) (.W (.bs (.cons (.p 0) .nil) 1 [(0, 1, (.t x54))]))
 (.cons .no (.ye x56) (.W (.app 1 8 (.t x53) (.t x55)))
 (.cons .no .no (.W (.st (.t x7) 1 (.t x56)))
 .nil)))))))
 .skip)))))
 (.ops (.p x57 (.bin .add (.t x20) (.c (.p 1)))
 (.m x20 x57
 .nil)))))))))
 (.seq (.ops (.cons .no (.ye x9) (.W (.al (.cons (.b false) .nil)))
 (.cons .no .no (.W (.st (.t x9) 1 (.c (.b true))))
 .nil)))
 (.seq (.ops (.p x58 (.mf 203 [] [(.t x2), (.t x3), (.t x6), (.t x9), (.t x7)])
 (.m x10 x58
 .nil)))
 (.seq .skip
 (.seq (.blk 2 (.loop (.seq (.seq (.ops (.l x59 (.t x7)
 (.p x60 (.lnX (.t x59))
 (.p x61 (.bin .gtr (.t x60) (.c (.p 0)))
 (.m x62 x61
 (.cons (.ye x62 true) (.ye x63) (.L (.l (.one (.t x9))))
 (.p x64 (.pick (.t x62) (.t x63) (.c (.b false)))
 .nil)))))))
 (.cond (.t x64) .skip
 (.exit 2)))
 (.blk 3 (.seq (.ops (.l x65 (.t x7)
 (.l x66 (.t x7)
 (.p x67 (.lnX (.t x66))
 (.p x68 (.bin .sub (.t x67) (.c (.p 1)))
 (.p x69 (.ia (.t x65) (.t x68) 1)
 (.l x70 (.t x69)
 (.m x11 x70
 .nil))))))))
 (.seq (.ops (.l x71 (.t x7)
 (.l x72 (.t x7)
 (.p x73 (.lnX (.t x72))
 (.p x74 (.bin .sub (.t x73) (.c (.p 1)))
 (.p x75 (.slx (.t x71) none (some (.t x74)) none 1)
 (.cons .no .no (.W (.st (.t x7) 1 (.t x75)))
 .nil)))))))
 (.seq (.draw (.h .no (.ye x76) (.L (.l (.one (.t x2))))
 (.h .no (.ye x77) (.P (.mv (.t x11)))
 (.h .no (.ye x78) (.P (.ia (.t x76) (.t x77) 3))
 (.h .no (.ye x79) (.L (.l (.many (.t x78) 3)))
 (.h .no (.ye x80) (.L (.l (.one (.t x6))))
 (.h .no (.ye x81) (.P (.mv (.t x11)))
 (.h .no (.ye x82) (.P (.ia (.t x80) (.t x81) 1))
 (.h .no (.ye x83) (.L (.l (.one (.t x82))))
 (.c .no (.ye x12) (.W (.al (.cons (.p 0) (.cons (.p 0) (.cons (.p 0) .nil))))) (.cons .no (.l (.one (.t x2))) x76 (.cons .no (.l (.many (.t x78) 3)) x79 (.cons .no (.l (.one (.t x6))) x80 (.cons .no (.l (.one (.t x82))) x83 .nil))))
 (.c .no .no (.W (.st (.t x12) 3 (.t x79))) (.cons .no (.l (.one (.t x6))) x80 (.cons .no (.l (.one (.t x82))) x83 .nil))
 (.h .no (.ye x13) (.P (.mv (.t x83)))
 .nil))))))))))))
 (.seq (.ops (.m x84 x13
 (.cons .no (.ye x85) (.L (.l (.many (.t x12) 3)))
 (.s x86 204 [(.t x85)]
 (.p x87 (.bin .add (.t x84) (.t x86))
 (.m x14 x87
 .nil))))))
 (.seq (.seq (.ops (.m x88 x13
 (.cons .no (.ye x89) (.L (.l (.many (.t x12) 3)))
 (.s x90 205 [(.t x89)]
 (.p x91 (.bin .lss (.t x88) (.t x90))
 (.m x92 x91
 (.cons (.ye x92 false) (.ye x93) (.P (.mv (.t x14)))
 (.cons (.ye x92 false) (.ye x94) (.P (.bin .gtr (.t x93) (.c (.p 24))))
 (.p x95 (.pick (.t x92) (.c (.b true)) (.t x94))
 .nil)))))))))
 (.cond (.t x95) (.seq (.ops (.p x4 (.mv (.c .ns))
 (.p x5 (.mv (.c (.b false)))
 .nil)))
 .ret)
 .skip))
 (.seq (.seq (.ops (.p x96 (.fa (.t x12) 0)
 (.l x97 (.t x96)
 .nil)))
 (.blk 4 (.seq (.ops (.p x99 (.bin .eql (.t x97) (.c (.p 19)))
 (.m x98 x99
 .nil)))
 (.cond (.t x98) (.seq (.seq (.ops (.m x100 x13
 (.p x101 (.bin .neq (.t x100) (.c (.p 1)))
 (.m x102 x101
 (.cons (.ye x102 false) (.ye x103) (.L (.l (.one (.t x3))))
 (.cons (.ye x102 false) (.ye x104) (.P (.mv (.t x11)))
 (.cons (.ye x102 false) (.ye x105) (.P (.ia (.t x103) (.t x104) 1))
 (.cons (.ye x102 false) (.ye x106) (.L (.l (.one (.t x105))))
 (.cons (.ye x102 false) (.ye x107) (.P (.bin .lss (.t x106) (.c (.p 0))))
 (.p x108 (.pick (.t x102) (.c (.b true)) (.t x107))
 .nil))))))))))
 (.cond (.t x108) (.seq (.ops (.p x4 (.mv (.c .ns))
 (.p x5 (.mv (.c (.b false)))
 .nil)))
 .ret)
 .skip))
 (.exit 3))
 (.seq (.ops (.p x110 (.bin .eql (.t x97) (.c (.p 20)))
 (.m x109 x110
 .nil)))
 (.cond (.t x109) (.exit 3)
 (.seq (.ops (.p x112 (.bin .eql (.t x97) (.c (.p 16)))
 (.m x111 x112
 .nil)))
 (.cond (.t x111) (.seq (.draw (.h .no (.ye x113) (.P (.mv (.t x10)))
 (.h .no (.ye x114) (.L (.l (.many (.t x12) 3)))
 (.h .no (.ye x116) (.L (.l (.one (.t x3))))
 (.h .no (.ye x117) (.P (.mv (.t x11)))
 (.h .no (.ye x118) (.P (.ia (.t x116) (.t x117) 1))
 (.h .no (.ye x119) (.L (.l (.one (.t x118))))
 (.h .no (.ye x120) (.P (.mv (.t x14)))
 (.c .no (.ye x115) (.S 202 [(.t x114)]) (.cons .no (.l (.one (.t x3))) x116 (.cons .no (.l (.one (.t x118))) x119 .nil))
 (.c .no (.ye x121) (.V (.t x113) [(.t x115), (.t x119), (.t x120)]) .nil
 .nil))))))))))
 (.exit 3))
 (.seq (.ops (.p x123 (.bin .eql (.t x97) (.c (.p 17)))
 (.m x122 x123
 .nil)))
 (.cond (.t x122) (.draw (.h .no (.ye x124) (.P (.mv (.t x10)))
 (.h .no (.ye x125) (.L (.l (.many (.t x12) 3)))
 (.h .no (.ye x127) (.L (.l (.one (.t x3))))
 (.h .no (.ye x128) (.P (.mv (.t x11)))
 (.h .no (.ye x129) (.P (.ia (.t x127) (.t x128) 1))
 (.h .no (.ye x130) (.L (.l (.one (.t x129))))
 (.h .no (.ye x131) (.P (.mv (.t x14)))
 (.c .no (.ye x126) (.S 202 [(.t x125)]) (.cons .no (.l (.one (.t x3))) x127 (.cons .no (.l (.one (.t x129))) x130 .nil))
 (.c .no (.ye x132) (.V (.t x124) [(.t x126), (.t x130), (.t x131)]) .nil
 .nil))))))))))
 .skip))))))))))
 (.ops (.m x133 x10
 (.m x134 x11
 (.p x135 (.bin .add (.t x134) (.c (.p 1)))
 (.l x136 (.t x3)
 (.m x137 x11
 (.p x138 (.ia (.t x136) (.t x137) 1)
 (.l x139 (.t x138)
 (.m x140 x14
 (.cons .no (.ye x141) (.V (.t x133) [(.t x135), (.t x139), (.t x140)])
 .nil))))))))))))))))))))
 (.seq (.draw (.h .no (.ye x142) (.L (.l (.one (.t x6))))
 (.h .no (.ye x143) (.L (.l (.one (.t x9))))
 (.h .no (.ye x4) (.P (.mv (.t x142)))
 (.h .no (.ye x5) (.P (.mv (.t x143)))
 .nil)))))
 .ret)))))))))
def a175 : AF := .fn (ps16.take 144) b175 (.many [(.t x4), (.t x5)])
def b177 : ACode := (.seq (.ops (.p x2 (.mv (.c (.b false)))
 .nil))
 (.seq (.ops (.m x3 x0
 (.s x4 148 [(.t x3)]
 (.m x5 x4
 (.cons (.ye x5 false) (.ye x6) (.P (.mv (.t x0)))
 (.cons (.ye x5 false) (.ye x7) (.S 151 [(.t x6)])
 (.p x8 (.pick (.t x5) (.c (.b true)) (.t x7))
 (.m x2 x8
 .nil))))))))
 .ret))
def a177 : AF := .fn (ps16.take 9) b177 (.one x2)
def b178 : ACode := (.seq (.ops (.p x2 (.mv (.c (.b false)))
 .nil))
 (.seq (.ops (.m x3 x0
 (.p x4 (.bin .neq (.t x3) (.c (.w .u8 39)))
 (.m x2 x4
 .nil))))
 .ret))
def a178 : AF := .fn (ps16.take 5) b178 (.one x2)
def b179 : ACode := (.seq (.ops (.cons .no (.ye x3) (.W (.bx (.t x1)))
 (.cons .no (.ye x4) (.W (.al (.cons (.p 0) (.cons (.s 0 0) (.cons (.p 0) (.cons .ns (.cons .ns (.cons .ns .nil))))))))
 .nil)))
 (.seq (.seq (.ops (.m x6 x0
 (.s x7 133 [(.t x6), (.c (.p 2)), (.c (.s 0 0))]
 (.p x8 (.nt (.t x7))
 .nil))))
 (.cond (.t x8) (.seq (.ops (.cons .no (.ye x9) (.L (.l (.many (.t x3) 6)))
 (.cons .no .no (.W (.st (.t x4) 6 (.t x9)))
 .nil)))
 .ret)
 .skip))
 (.seq (.ops (.cons .no (.ye x10) (.L (.l (.many (.t x3) 6)))
 (.cons .no (.ye x11) (.W (.bs (.cons (.p 0) (.cons (.s 0 0) (.cons (.p 0) (.cons .ns (.cons .ns (.cons .ns .nil)))))) 1 [(0, 6, (.t x10))]))
 (.s x12 206 [(.c (.s 0 0)), (.t x11)]
 (.cons .no (.ye x5) (.W (.al (.cons (.p 0) (.cons (.s 0 0) (.cons (.p 0) (.cons .ns (.cons .ns (.cons .ns .nil))))))))
 (.cons .no .no (.W (.st (.t x5) 6 (.t x12)))
 .nil))))))
 (.seq (.blk 0 (.loop (.seq (.seq (.ops (.m x13 x0
 (.s x14 133 [(.t x13), (.c (.p 2)), (.c (.s 0 0))]
 .nil)))
 (.cond (.t x14) .skip
 (.exit 0)))
 (.blk 1 (.seq (.draw (.h .no (.ye x15) (.P (.fa (.t x5) 1))
 (.h .no (.ye x16) (.L (.l (.one (.t x15))))
 (.h .no (.ye x17) (.P (.mv (.t x0)))
 (.c .no (.ye x18) (.S 134 [(.t x17)]) (.cons .no (.l (.one (.t x15))) x16 .nil)
 (.h .no (.ye x19) (.P (.fd (.t x18) 1))
 (.h .no (.ye x20) (.P (.bin .add (.t x16) (.t x19)))
 (.h .no (.ye x21) (.P (.fa (.t x5) 1))
 (.c .no .no (.W (.st (.t x21) 1 (.t x20))) .nil
 .nil)))))))))
 (.draw (.h .no (.ye x22) (.P (.fa (.t x5) 5))
 (.h .no (.ye x23) (.L (.l (.one (.t x22))))
 (.h .no (.ye x24) (.P (.mv (.t x0)))
 (.h .no (.ye x25) (.P (.mv (.t x0)))
 (.h .no (.ye x26) (.P (.mv (.t x0)))
 (.c .no (.ye x27) (.S 182 [(.t x26)]) (.cons .no (.l (.one (.t x22))) x23 .nil)
 (.c .no (.ye x28) (.S 181 [(.t x25), (.t x27)]) (.cons .no (.l (.one (.t x22))) x23 .nil)
 (.c .no (.ye x29) (.S 180 [(.t x24), (.t x28)]) (.cons .no (.l (.one (.t x22))) x23 .nil)
 (.c .no (.ye x30) (.W (.bs (.cons (.p 0) (.cons (.s 0 0) (.cons (.p 0) (.cons .ns (.cons .ns (.cons .ns .nil)))))) 1 [(0, 6, (.t x29))])) (.cons .no (.l (.one (.t x22))) x23 .nil)
 (.c .no (.ye x31) (.W (.app 6 104 (.t x23) (.t x30))) .nil
 (.h .no (.ye x32) (.P (.fa (.t x5) 5))
 (.c .no .no (.W (.st (.t x32) 1 (.t x31))) .nil
 .nil))))))))))))))))))
 (.seq (.ops (.cons .no (.ye x33) (.L (.l (.many (.t x5) 6)))
 (.cons .no .no (.W (.st (.t x4) 6 (.t x33)))
 .nil)))
 .ret)))))
def a179 : AF := .fn (ps16.take 34) b179 (.onec (.many (.t x4) 6))
def b180 : ACode := (.seq (.ops (.cons .no (.ye x3) (.W (.bx (.t x1)))
 (.cons .no (.ye x4) (.W (.al (.cons (.p 0) (.cons (.s 0 0) (.cons (.p 0) (.cons .ns (.cons .ns (.cons .ns .nil))))))))
 .nil)))
 (.seq (.blk 0 (.loop (.seq (.seq (.ops (.m x6 x0
 (.s x7 133 [(.t x6), (.c (.p 3)), (.c (.s 0 0))]
 .nil)))
 (.cond (.t x7) .skip
 (.exit 0)))
 (.blk 1 (.seq (.ops (.m x8 x0
 (.s x9 134 [(.t x8)]
 (.cons .no (.ye x5) (.W (.al (.cons (.p 0) (.cons (.s 0 0) (.cons (.p 0) (.cons (.p 0) .nil))))))
 (.cons .no .no (.W (.st (.t x5) 4 (.t x9)))
 .nil)))))
 (.draw (.h .no (.ye x10) (.P (.fa (.t x5) 1))
 (.h .no (.ye x11) (.L (.l (.one (.t x10))))
 (.h .no (.ye x12) (.L (.l (.many (.t x3) 6)))
 (.h .no (.ye x13) (.P (.mv (.t x0)))
 (.h .no (.ye x14) (.P (.mv (.t x0)))
 (.c .no (.ye x15) (.S 182 [(.t x14)]) (.cons .no (.l (.one (.t x10))) x11 (.cons .no (.l (.many (.t x3) 6)) x12 .nil))
 (.c .no (.ye x16) (.S 181 [(.t x13), (.t x15)]) (.cons .no (.l (.one (.t x10))) x11 (.cons .no (.l (.many (.t x3) 6)) x12 .nil))
 (.c .no (.ye x17) (.W (.bs (.cons (.p 0) (.cons (.s 0 0) (.cons (.p 0) (.cons .ns (.cons .ns (.cons .ns (.cons (.p 0) (.cons (.s 0 0) (.cons (.p 0) (.cons .ns (.cons .ns (.cons .ns .nil)))))))))))) 2 [(0, 6, (.t x12)), (6, 6, (.t x16))])) (.cons .no (.l (.one (.t x10))) x11 .nil)
 (.c .no (.ye x18) (.S 206 [(.t x11), (.t x17)]) .nil
 (.c .no .no (.W (.st (.t x3) 6 (.t x18))) .nil
 .nil))))))))))))))))
 (.seq (.ops (.cons .no (.ye x19) (.L (.l (.many (.t x3) 6)))
 (.cons .no .no (.W (.st (.t x4) 6 (.t x19)))
 .nil)))
 .ret)))
def a180 : AF := .fn (ps16.take 20) b180 (.onec (.many (.t x4) 6))
def b181 : ACode := (.seq (.ops (.cons .no (.ye x3) (.W (.bx (.t x1)))
 (.cons .no (.ye x4) (.W (.al (.cons (.p 0) (.cons (.s 0 0) (.cons (.p 0) (.cons .ns (.cons .ns (.cons .ns .nil))))))))
 .nil)))
 (.seq (.blk 0 (.loop (.seq (.seq (.ops (.m x5 x0
 (.s x6 133 [(.t x5), (.c (.p 1)), (.c (.s 0 0))]
 .nil)))
 (.cond (.t x6) .skip
 (.exit 0)))
 (.blk 1 (.draw (.h .no (.ye x7) (.P (.mv (.t x0)))
 (.h .no (.ye x10) (.L (.l (.many (.t x3) 6)))
 (.c .no (.ye x8) (.S 134 [(.t x7)]) (.cons .no (.l (.many (.t x3) 6)) x10 .nil)
 (.h .no (.ye x9) (.P (.fd (.t x8) 1))
 (.z (.ye x11) (.bs (.cons (.p 0) (.cons (.s 0 0) (.cons (.p 0) (.cons .ns (.cons .ns (.cons .ns .nil)))))) 1 [(0, 6, (.t x10))]) .nil
 (.c .no (.ye x12) (.S 206 [(.t x9), (.t x11)]) .nil
 (.c .no .no (.W (.st (.t x3) 6 (.t x12))) .nil
 .nil))))))))))))
 (.seq (.ops (.cons .no (.ye x13) (.L (.l (.many (.t x3) 6)))
 (.cons .no .no (.W (.st (.t x4) 6 (.t x13)))
 .nil)))
 .ret)))
def a181 : AF := .fn (ps16.take 14) b181 (.onec (.many (.t x4) 6))
def b182 : ACode := (.seq (.ops (.cons .no (.ye x2) (.W (.al (.cons (.p 0) (.cons (.s 0 0) (.cons (.p 0) (.cons .ns (.cons .ns (.cons .ns .nil))))))))
 .nil))
 (.seq (.seq (.ops (.m x7 x0
 (.s x8 207 [(.t x7)]
 (.m x6 x8
 (.p x9 (.ex (.t x6) 0)
 (.p x10 (.ex (.t x6) 1)
 (.cons .no (.ye x3) (.W (.al (.cons (.p 0) (.cons (.s 0 0) (.cons (.p 0) (.cons .ns (.cons .ns (.cons .ns .nil))))))))
 (.cons .no .no (.W (.st (.t x3) 6 (.t x9)))
 (.m x4 x10
 .nil)))))))))
 (.seq (.ops (.m x11 x4
 .nil))
 (.cond (.t x11) (.seq (.ops (.cons .no (.ye x12) (.L (.l (.many (.t x3) 6)))
 (.cons .no .no (.W (.st (.t x2) 6 (.t x12)))
 .nil)))
 .ret)
 .skip)))
 (.seq (.seq (.ops (.m x13 x0
 (.s x14 137 [(.t x13), (.c (.p 0))]
 (.cons .no (.ye x5) (.W (.al (.cons (.p 0) (.cons (.s 0 0) (.cons (.p 0) (.cons (.p 0) .nil))))))
 (.cons .no .no (.W (.st (.t x5) 4 (.t x14)))
 .nil)))))
 (.blk 0 (.seq (.ops (.m x19 x0
 (.p x20 (.nck (.t x19))
 (.p x21 (.fa (.t x20) 3)
 (.l x22 (.t x21)
 (.p x23 (.bin .neq (.t x22) (.c (.p 0)))
 (.m x18 x23
 .nil)))))))
 (.cond (.t x18) .skip
 (.seq (.ops (.p x25 (.fa (.t x5) 0)
 (.l x26 (.t x25)
 (.p x27 (.bin .eql (.t x26) (.c (.p 1)))
 (.m x24 x27
 .nil)))))
 (.cond (.t x24) (.seq (.ops (.m x28 x0
 (.s x29 134 [(.t x28)]
 (.p x30 (.fd (.t x29) 1)
 (.p x31 (.bd (.cons (.p 0) (.cons (.s 0 0) (.cons (.p 0) (.cons .ns (.cons .ns (.cons .ns .nil)))))) [(0, 1, (.c (.p 5))), (1, 1, (.t x30))])
 (.cons .no .no (.W (.st (.t x2) 6 (.t x31)))
 .nil))))))
 .ret)
 (.seq (.ops (.p x33 (.fa (.t x5) 0)
 (.l x34 (.t x33)
 (.p x35 (.bin .eql (.t x34) (.c (.p 7)))
 (.m x32 x35
 .nil)))))
 (.cond (.t x32) (.seq (.ops (.m x36 x0
 (.m x37 x0
 (.p x38 (.mf 209 [(.t x37)] [])
 (.s x39 208 [(.t x36), (.t x38)]
 (.cons .no .no (.W (.st (.t x2) 6 (.t x39)))
 .nil))))))
 .ret)
 (.seq (.ops (.m x41 x0
 (.s x42 133 [(.t x41), (.c (.p 10)), (.c (.s 1 40))]
 (.m x40 x42
 .nil))))
 (.cond (.t x40) (.seq (.ops (.m x43 x0
 (.m x44 x0
 (.p x45 (.mf 210 [(.t x44)] [])
 (.s x46 208 [(.t x43), (.t x45)]
 (.cons .no .no (.W (.st (.t x2) 6 (.t x46)))
 .nil))))))
 .ret)
 (.seq (.ops (.m x48 x0
 (.s x49 133 [(.t x48), (.c (.p 10)), (.c (.s 1 91))]
 (.m x47 x49
 .nil))))
 (.cond (.t x47) (.seq (.ops (.m x50 x0
 (.m x51 x0
 (.p x52 (.mf 211 [(.t x51)] [])
 (.s x53 208 [(.t x50), (.t x52)]
 (.cons .no .no (.W (.st (.t x2) 6 (.t x53)))
 .nil))))))
 .ret)
 (.ops (.m x15 x0
 (.cons .no (.ye x16) (.L (.l (.many (.t x5) 4)))
 (.s x17 136 [(.t x15), (.t x16), (.c (.p 13))]
 .nil))))))))))))))))
 (.seq (.ops (.p x54 (.bd (.cons (.p 0) (.cons (.s 0 0) (.cons (.p 0) (.cons .ns (.cons .ns (.cons .ns .nil)))))) [])
 (.cons .no .no (.W (.st (.t x2) 6 (.t x54)))
 .nil)))
 .ret))))
def a182 : AF := .fn (ps16.take 55) b182 (.onec (.many (.t x2) 6))
def b183 : ACode := (.seq (.ops (.cons .no (.ye x1) (.W (.bx (.t x0)))
 (.cons .no (.ye x2) (.W (.al (.cons (.p 0) (.cons (.s 0 0) (.cons (.p 0) (.cons .ns (.cons .ns (.cons .ns .nil))))))))
 .nil)))
 (.seq (.seq (.ops (.p x3 (.fa (.t x1) 5)
 (.l x4 (.t x3)
 (.p x5 (.lnX (.t x4))
 (.p x6 (.bin .eql (.t x5) (.c (.p 0)))
 .nil)))))
 (.cond (.t x6) (.seq (.ops (.cons .no (.ye x7) (.L (.l (.many (.t x1) 6)))
 (.cons .no .no (.W (.st (.t x2) 6 (.t x7)))
 .nil)))
 .ret)
 .skip))
 (.seq (.draw (.h .no (.ye x8) (.P (.fa (.t x1) 1))
 (.h .no (.ye x9) (.L (.l (.one (.t x8))))
 (.h .no (.ye x10) (.P (.fa (.t x1) 5))
 (.h .no (.ye x11) (.L (.l (.one (.t x10))))
 (.h .no (.ye x12) (.P (.slx (.t x11) (some (.c (.p 1))) none none 6))
 (.c .no (.ye x13) (.S 212 [(.t x12)]) (.cons .no (.l (.one (.t x8))) x9 .nil)
 (.h .no (.ye x14) (.P (.bd (.cons (.p 0) (.cons (.s 0 0) (.cons (.p 0) (.cons .ns (.cons .ns (.cons .ns .nil)))))) [(0, 1, (.c (.p 7))), (1, 1, (.t x9)), (5, 1, (.t x13))]))
 (.c .no .no (.W (.st (.t x2) 6 (.t x14))) .nil
 .nil)))))))))
 .ret)))
def a183 : AF := .fn (ps16.take 15) b183 (.onec (.many (.t x2) 6))
def b184 : ACode := (.seq (.ops (.cons .no (.ye x2) (.W (.al (.cons (.p 0) (.cons (.s 0 0) (.cons (.p 0) (.cons .ns (.cons .ns (.cons .ns .nil))))))))
 .nil))
 (.seq (.ops (.cons .no (.ye x3) (.W (.al (.cons (.p 0) (.cons (.s 0 0) (.cons (.p 0) (.cons .ns (.cons .ns (.cons .ns .nil))))))))
 .nil))
 (.seq (.seq (.ops (.m x5 x0
 (.s x6 137 [(.t x5), (.c (.p 0))]
 (.cons .no (.ye x4) (.W (.al (.cons (.p 0) (.cons (.s 0 0) (.cons (.p 0) (.cons (.p 0) .nil))))))
 (.cons .no .no (.W (.st (.t x4) 4 (.t x6)))
 .nil)))))
 (.seq (.ops (.p x7 (.fa (.t x4) 0)
 (.l x8 (.t x7)
 .nil)))
 (.blk 0 (.seq (.ops (.p x13 (.bin .eql (.t x8) (.c (.p 1)))
 (.m x12 x13
 .nil)))
 (.cond (.t x12) (.seq (.ops (.m x14 x0
 (.s x15 134 [(.t x14)]
 .nil)))
 (.seq (.ops (.p x16 (.fa (.t x4) 1)
 (.l x17 (.t x16)
 (.cons .no (.ye x18) (.L (.l (.many (.t x3) 6)))
 (.cons .no (.ye x19) (.W (.bs (.cons (.p 0) (.cons (.s 0 0) (.cons (.p 0) (.cons .ns (.cons .ns (.cons .ns .nil)))))) 1 [(0, 6, (.t x18))]))
 (.s x20 206 [(.t x17), (.t x19)]
 (.cons .no .no (.W (.st (.t x2) 6 (.t x20)))
 .nil)))))))
 .ret))
 (.seq (.ops (.p x22 (.bin .eql (.t x8) (.c (.p 3)))
 (.m x21 x22
 .nil)))
 (.cond (.t x21) (.seq (.ops (.m x23 x0
 (.s x24 134 [(.t x23)]
 .nil)))
 (.seq (.draw (.h .no (.ye x25) (.P (.fa (.t x4) 1))
 (.h .no (.ye x26) (.L (.l (.one (.t x25))))
 (.h .no (.ye x27) (.L (.l (.many (.t x3) 6)))
 (.h .no (.ye x28) (.P (.mv (.t x0)))
 (.h .no (.ye x29) (.P (.mv (.t x0)))
 (.c .no (.ye x30) (.S 182 [(.t x29)]) (.cons .no (.l (.one (.t x25))) x26 (.cons .no (.l (.many (.t x3) 6)) x27 .nil))
 (.c .no (.ye x31) (.S 181 [(.t x28), (.t x30)]) (.cons .no (.l (.one (.t x25))) x26 (.cons .no (.l (.many (.t x3) 6)) x27 .nil))
 (.c .no (.ye x32) (.W (.bs (.cons (.p 0) (.cons (.s 0 0) (.cons (.p 0) (.cons .ns (.cons .ns (.cons .ns (.cons (.p 0) (.cons (.s 0 0) (.cons (.p 0) (.cons .ns (.cons .ns (.cons .ns .nil)))))))))))) 2 [(0, 6, (.t x27)), (6, 6, (.t x31))])) (.cons .no (.l (.one (.t x25))) x26 .nil)
 (.c .no (.ye x33) (.S 206 [(.t x26), (.t x32)]) .nil
 (.c .no .no (.W (.st (.t x2) 6 (.t x33))) .nil
 .nil)))))))))))
 .ret))
 (.seq (.ops (.p x35 (.bin .eql (.t x8) (.c (.p 2)))
 (.m x34 x35
 .nil)))
 (.cond (.t x34) (.seq (.ops (.m x36 x0
 (.cons .no (.ye x37) (.L (.l (.many (.t x3) 6)))
 (.s x38 179 [(.t x36), (.t x37)]
 (.cons .no .no (.W (.st (.t x2) 6 (.t x38)))
 .nil)))))
 .ret)
 (.ops (.m x9 x0
 (.cons .no (.ye x10) (.L (.l (.many (.t x4) 4)))
 (.s x11 136 [(.t x9), (.t x10), (.c (.p 13))]
 .nil)))))))))))))
 (.seq (.ops (.cons .no (.ye x39) (.L (.l (.many (.t x3) 6)))
 (.cons .no .no (.W (.st (.t x2) 6 (.t x39)))
 .nil)))
 .ret))))
def a184 : AF := .fn (ps16.take 40) b184 (.onec (.many (.t x2) 6))
def b185 : ACode := (.seq (.ops (.p x4 (.mv (.c (.p 0)))
 .nil))
 (.seq (.seq (.ops (.m x6 x0
 (.p x7 (.lnX (.t x6))
 (.p x8 (.mv (.c (.p 0)))
 .nil))))
 (.blk 0 (.loop (.seq (.ops (.p x9 (.bin .lss (.t x8) (.t x7))
 .nil))
 (.seq (.cond (.t x9) .skip
 (.exit 0))
 (.seq (.blk 1 (.seq (.ops (.m x10 x8
 (.m x5 x10
 .nil)))
 (.seq (.ops (.m x11 x1
 (.m x12 x0
 (.m x13 x5
 (.p x14 (.ia (.t x12) (.t x13) 4)
 (.cons .no (.ye x15) (.L (.l (.many (.t x14) 4)))
 (.cons .no (.ye x16) (.V (.t x11) [(.t x15)])
 .nil)))))))
 (.cond (.t x16) (.seq (.ops (.m x17 x5
 (.m x4 x17
 .nil)))
 .ret)
 .skip))))
 (.ops (.p x18 (.bin .add (.t x8) (.c (.p 1)))
 (.m x8 x18
 .nil)))))))))
 (.seq (.ops (.p x4 (.mv (.c (.n 0)))
 .nil))
 .ret)))
def a185 : AF := .fn (ps16.take 19) b185 (.one x4)
def b186 : ACode := (.seq (.ops (.cons .no (.ye x2) (.W (.bx (.t x0)))
 (.p x3 (.mv (.c (.b false)))
 .nil)))
 (.seq (.ops (.p x4 (.fa (.t x2) 0)
 (.l x5 (.t x4)
 (.l x6 (.t x1)
 (.p x7 (.bin .eql (.t x5) (.t x6))
 (.m x3 x7
 .nil))))))
 .ret))
def a186 : AF := .fn (ps16.take 8) b186 (.one x3)
def b187 : ACode := (.seq (.ops (.p x4 (.mv (.c (.p 0)))
 .nil))
 (.seq (.seq (.ops (.m x6 x0
 (.p x7 (.lnX (.t x6))
 (.p x8 (.mv (.c (.p 0)))
 .nil))))
 (.blk 0 (.loop (.seq (.ops (.p x9 (.bin .lss (.t x8) (.t x7))
 .nil))
 (.seq (.cond (.t x9) .skip
 (.exit 0))
 (.seq (.blk 1 (.seq (.ops (.m x10 x8
 (.m x5 x10
 .nil)))
 (.seq (.ops (.m x11 x1
 (.m x12 x0
 (.m x13 x5
 (.p x14 (.ia (.t x12) (.t x13) 4)
 (.cons .no (.ye x15) (.L (.l (.many (.t x14) 4)))
 (.cons .no (.ye x16) (.V (.t x11) [(.t x15)])
 .nil)))))))
 (.cond (.t x16) (.seq (.ops (.m x17 x5
 (.m x4 x17
 .nil)))
 .ret)
 .skip))))
 (.ops (.p x18 (.bin .add (.t x8) (.c (.p 1)))
 (.m x8 x18
 .nil)))))))))
 (.seq (.ops (.p x4 (.mv (.c (.n 0)))
 .nil))
 .ret)))
def a187 : AF := .fn (ps16.take 19) b187 (.one x4)
def b188 : ACode := (.seq (.ops (.cons .no (.ye x2) (.W (.bx (.t x0)))
 (.p x3 (.mv (.c (.b false)))
 .nil)))
 (.seq (.ops (.cons .no (.ye x4) (.L (.l (.many (.t x2) 4)))
 (.cons .no (.ye x5) (.L (.l (.many (.t x1) 4)))
 (.s x6 189 [(.t x4), (.t x5)]
 (.m x3 x6
 .nil)))))
 .ret))
def a188 : AF := .fn (ps16.take 7) b188 (.one x3)
def b189 : ACode := (.seq (.ops (.cons .no (.ye x2) (.W (.bx (.t x0)))
 (.cons .no (.ye x3) (.W (.bx (.t x1)))
 (.p x4 (.mv (.c (.b false)))
 .nil))))
 (.seq (.ops (.p x5 (.fa (.t x2) 0)
 (.l x6 (.t x5)
 (.p x7 (.fa (.t x3) 0)
 (.l x8 (.t x7)
 (.p x9 (.bin .eql (.t x6) (.t x8))
 (.m x10 x9
 (.cons (.ye x10 true) (.ye x11) (.P (.fa (.t x2) 1))
 (.cons (.ye x10 true) (.ye x12) (.L (.l (.one (.t x11))))
 (.cons (.ye x10 true) (.ye x13) (.P (.fa (.t x3) 1))
 (.cons (.ye x10 true) (.ye x14) (.L (.l (.one (.t x13))))
 (.cons (.ye x10 true) (.ye x15) (.P (.bin .eql (.t x12) (.t x14)))
 (.p x16 (.pick (.t x10) (.t x15) (.c (.b false)))
 (.m x17 x16
 (.cons (.ye x17 true) (.ye x18) (.P (.fa (.t x2) 2))
 (.cons (.ye x17 true) (.ye x19) (.L (.l (.one (.t x18))))
 (.cons (.ye x17 true) (.ye x20) (.P (.fa (.t x3) 2))
 (.cons (.ye x17 true) (.ye x21) (.L (.l (.one (.t x20))))
 (.cons (.ye x17 true) (.ye x22) (.P (.bin .eql (.t x19) (.t x21)))
 (.p x23 (.pick (.t x17) (.t x22) (.c (.b false)))
 (.m x24 x23
 (.cons (.ye x24 true) (.ye x25) (.P (.fa (.t x2) 3))
 (.cons (.ye x24 true) (.ye x26) (.L (.l (.one (.t x25))))
 (.cons (.ye x24 true) (.ye x27) (.P (.fa (.t x3) 3))
 (.cons (.ye x24 true) (.ye x28) (.L (.l (.one (.t x27))))
 (.cons (.ye x24 true) (.ye x29) (.S 213 [(.t x26), (.t x28), (.f 189)])
 (.p x30 (.pick (.t x24) (.t x29) (.c (.b false)))
 (.m x4 x30
 .nil))))))))))))))))))))))))))))
 .ret))
def a189 : AF := .fn (ps16.take 31) b189 (.one x4)
def b190 : ACode := (.seq (.ops (.p x2 (.mv (.c (.b false)))
 .nil))
 (.seq (.ops (.m x3 x0
 (.p x4 (.bin .neq (.t x3) (.c (.s 0 0)))
 (.m x5 x4
 (.cons (.ye x5 true) (.ye x6) (.P (.mv (.t x0)))
 (.cons (.ye x5 true) (.ye x7) (.P (.ixs (.t x6) (.c (.p 0))))
 (.cons (.ye x5 true) (.ye x8) (.P (.bin .geq (.t x7) (.c (.w .u8 65))))
 (.p x9 (.pick (.t x5) (.t x8) (.c (.b false)))
 (.m x10 x9
 (.cons (.ye x10 true) (.ye x11) (.P (.mv (.t x0)))
 (.cons (.ye x10 true) (.ye x12) (.P (.ixs (.t x11) (.c (.p 0))))
 (.cons (.ye x10 true) (.ye x13) (.P (.bin .leq (.t x12) (.c (.w .u8 90))))
 (.p x14 (.pick (.t x10) (.t x13) (.c (.b false)))
 (.m x2 x14
 .nil))))))))))))))
 .ret))
def a190 : AF := .fn (ps16.take 15) b190 (.one x2)
def b191 : ACode := (.seq (.ops (.p x4 (.mv (.c (.p 0)))
 .nil))
 (.seq (.ops (.m x5 x0
 (.m x6 x1
 (.p x7 (.bd (.cons (.p 0) (.cons (.s 0 0) (.cons (.p 0) (.cons .ns .nil)))) [(0, 1, (.c (.p 3))), (1, 1, (.t x6))])
 (.s x8 159 [(.t x5), (.t x7)]
 (.m x4 x8
 .nil))))))
 .ret))
def a191 : AF := .fn (ps16.take 9) b191 (.one x4)
def b192 : ACode := (.seq (.ops (.cons .no (.ye x2) (.W (.bx (.t x0)))
 (.cons .no (.ye x3) (.W (.bx (.t x1)))
 (.p x4 (.mv (.c (.b false)))
 .nil))))
 (.seq (.ops (.p x5 (.mv (.f 214))
 (.p x6 (.mv (.f 215))
 .nil)))
 (.seq (.ops (.p x12 (.mf 216 [] [(.t x2), (.t x3)])
 (.m x7 x12
 .nil)))
 (.seq (.ops (.p x13 (.mf 218 [] [(.t x2)])
 (.m x8 x13
 .nil)))
 (.seq (.ops (.p x9 (.mv (.c (.p 2)))
 .nil))
 (.seq (.seq (.ops (.p x14 (.fa (.t x3) 1)
 (.l x15 (.t x14)
 .nil)))
 (.blk 0 (.seq (.ops (.p x17 (.bin .eql (.t x15) (.c (.s 7 16437103752930921)))
 (.m x16 x17
 .nil)))
 (.cond (.t x16) (.ops (.m x18 x7
 (.cons .no (.ye x19) (.V (.t x18) [(.c (.p 1))])
 (.m x20 x8
 (.cons .no (.ye x21) (.V (.t x20) [(.c (.p 2))])
 (.m x5 x19
 (.m x6 x21
 .nil)))))))
 (.seq (.ops (.p x23 (.bin .eql (.t x15) (.c (.s 8 4207896336173262441)))
 (.m x22 x23
 .nil)))
 (.cond (.t x22) (.ops (.m x24 x8
 (.cons .no (.ye x25) (.V (.t x24) [(.c (.p 2))])
 (.m x26 x7
 (.cons .no (.ye x27) (.V (.t x26) [(.c (.p 1))])
 (.m x5 x25
 (.m x6 x27
 .nil)))))))
 (.seq (.ops (.p x29 (.bin .eql (.t x15) (.c (.s 4 979660385)))
 (.m x28 x29
 .nil)))
 (.cond (.t x28) (.ops (.m x30 x7
 (.cons .no (.ye x31) (.V (.t x30) [(.c (.p 1))])
 (.m x32 x8
 (.cons .no (.ye x33) (.V (.t x32) [(.c (.p 4))])
 (.m x5 x31
 (.m x6 x33
 .nil)))))))
 (.seq (.ops (.p x35 (.bin .eql (.t x15) (.c (.s 3 3830383)))
 (.m x34 x35
 .nil)))
 (.cond (.t x34) (.ops (.m x36 x8
 (.cons .no (.ye x37) (.V (.t x36) [(.c (.p 3))])
 (.m x38 x7
 (.cons .no (.ye x39) (.V (.t x38) [(.c (.p 1))])
 (.m x5 x37
 (.m x6 x39
 .nil)))))))
 (.seq (.ops (.p x41 (.bin .eql (.t x15) (.c (.s 15 303210885945657281578478040526382697)))
 (.m x40 x41
 .nil)))
 (.cond (.t x40) (.ops (.m x42 x7
 (.cons .no (.ye x43) (.V (.t x42) [(.c (.p 1))])
 (.m x44 x7
 (.cons .no (.ye x45) (.V (.t x44) [(.c (.p 2))])
 (.m x5 x43
 (.m x6 x45
 (.p x9 (.mv (.c (.p 3)))
 .nil))))))))
 (.seq (.ops (.p x47 (.bin .eql (.t x15) (.c (.s 15 303211046243327501073329368905180777)))
 (.m x46 x47
 .nil)))
 (.cond (.t x46) (.ops (.m x48 x7
 (.cons .no (.ye x49) (.V (.t x48) [(.c (.p 2))])
 (.m x50 x7
 (.cons .no (.ye x51) (.V (.t x50) [(.c (.p 1))])
 (.m x5 x49
 (.m x6 x51
 (.p x9 (.mv (.c (.p 3)))
 .nil))))))))
 (.seq (.ops (.p x4 (.mv (.c (.b false)))
 .nil))
 .ret)))))))))))))))
 (.seq (.seq (.ops (.p x52 (.fa (.t x3) 5)
 (.l x53 (.t x52)
 (.p x54 (.lnX (.t x53))
 (.m x55 x9
 (.p x56 (.bin .neq (.t x54) (.t x55))
 (.m x57 x56
 (.cons (.ye x57 false) (.ye x58) (.P (.fa (.t x3) 5))
 (.cons (.ye x57 false) (.ye x59) (.L (.l (.one (.t x58))))
 (.cons (.ye x57 false) (.ye x60) (.P (.slx (.t x59) (some (.c (.p 1))) none none 6))
 (.cons (.ye x57 false) (.ye x61) (.S 220 [(.t x60), (.f 221)])
 (.p x62 (.pick (.t x57) (.c (.b true)) (.t x61))
 .nil))))))))))))
 (.cond (.t x62) (.seq (.ops (.p x4 (.mv (.c (.b false)))
 .nil))
 .ret)
 .skip))
 (.seq (.draw (.h .no (.ye x63) (.L (.l (.one (.t x2))))
 (.h .no (.ye x64) (.P (.fa (.t x3) 5))
 (.h .no (.ye x65) (.L (.l (.one (.t x64))))
 (.h .no (.ye x66) (.P (.ia (.t x65) (.c (.p 0)) 6))
 (.h .no (.ye x67) (.L (.l (.many (.t x66) 6)))
 (.c .no (.ye x68) (.S 140 [(.t x63), (.t x67)]) .nil
 .nil)))))))
 (.seq (.ops (.l x69 (.t x2)
 (.s x70 165 [(.t x69), (.c (.p 17))]
 (.m x10 x70
 .nil))))
 (.seq (.ops (.m x71 x5
 (.cons .no (.ye x72) (.V (.t x71) [])
 .nil)))
 (.seq (.ops (.l x73 (.t x2)
 (.s x74 165 [(.t x73), (.c (.p 16))]
 (.m x11 x74
 .nil))))
 (.seq (.ops (.m x75 x10
 (.cons .no (.ye x76) (.V (.t x75) [])
 .nil)))
 (.seq (.ops (.m x77 x6
 (.cons .no (.ye x78) (.V (.t x77) [])
 .nil)))
 (.seq (.ops (.m x79 x11
 (.cons .no (.ye x80) (.V (.t x79) [])
 .nil)))
 (.seq (.ops (.p x4 (.mv (.c (.b true)))
 .nil))
 .ret)))))))))))))))
def a192 : AF := .fn (ps16.take 81) b192 (.one x4)
def b193 : ACode := (.seq (.ops (.cons .no (.ye x3) (.W (.bx (.t x1)))
 (.p x4 (.mv (.c (.b false)))
 .nil)))
 (.seq (.ops (.p x10 (.fa (.t x3) 1)
 (.l x11 (.t x10)
 (.p x12 (.bin .eql (.t x11) (.c (.s 10 275768840077328456968311)))
 (.m x5 x12
 .nil)))))
 (.seq (.seq (.ops (.m x13 x5
 (.p x14 (.nt (.t x13))
 (.m x15 x14
 (.cons (.ye x15 true) (.ye x16) (.P (.fa (.t x3) 1))
 (.cons (.ye x15 true) (.ye x17) (.L (.l (.one (.t x16))))
 (.cons (.ye x15 true) (.ye x18) (.P (.bin .neq (.t x17) (.c (.s 11 70596785737587433159616631))))
 (.p x19 (.pick (.t x15) (.t x18) (.c (.b false)))
 (.m x20 x19
 (.cons (.ye x20 false) (.ye x21) (.P (.fa (.t x3) 5))
 (.cons (.ye x20 false) (.ye x22) (.L (.l (.one (.t x21))))
 (.cons (.ye x20 false) (.ye x23) (.P (.lnX (.t x22)))
 (.cons (.ye x20 false) (.ye x24) (.P (.bin .neq (.t x23) (.c (.p 2))))
 (.p x25 (.pick (.t x20) (.c (.b true)) (.t x24))
 (.m x26 x25
 (.cons (.ye x26 false) (.ye x27) (.P (.fa (.t x3) 5))
 (.cons (.ye x26 false) (.ye x28) (.L (.l (.one (.t x27))))
 (.cons (.ye x26 false) (.ye x29) (.P (.ia (.t x28) (.c (.p 0)) 6))
 (.cons (.ye x26 false) (.ye x30) (.L (.l (.many (.t x29) 6)))
 (.cons (.ye x26 false) (.ye x31) (.S 222 [(.t x30)])
 (.cons (.ye x26 false) (.ye x32) (.P (.nt (.t x31)))
 (.p x33 (.pick (.t x26) (.c (.b true)) (.t x32))
 (.m x34 x33
 (.cons (.ye x34 false) (.ye x35) (.P (.fa (.t x3) 5))
 (.cons (.ye x34 false) (.ye x36) (.L (.l (.one (.t x35))))
 (.cons (.ye x34 false) (.ye x37) (.P (.ia (.t x36) (.c (.p 1)) 6))
 (.cons (.ye x34 false) (.ye x38) (.L (.l (.many (.t x37) 6)))
 (.cons (.ye x34 false) (.ye x39) (.S 222 [(.t x38)])
 (.cons (.ye x34 false) (.ye x40) (.P (.nt (.t x39)))
 (.p x41 (.pick (.t x34) (.c (.b true)) (.t x40))
 .nil))))))))))))))))))))))))))))))
 (.cond (.t x41) (.seq (.ops (.p x4 (.mv (.c (.b false)))
 .nil))
 .ret)
 .skip))
 (.seq (.ops (.m x42 x0
 (.s x43 196 [(.t x42)]
 (.m x6 x43
 .nil))))
 (.seq (.ops (.m x44 x0
 (.p x45 (.fa (.t x3) 5)
 (.l x46 (.t x45)
 (.p x47 (.ia (.t x46) (.c (.p 0)) 6)
 (.cons .no (.ye x48) (.L (.l (.many (.t x47) 6)))
 (.s x49 166 [(.t x44), (.t x48)]
 .nil)))))))
 (.seq (.ops (.m x50 x0
 (.s x51 165 [(.t x50), (.c (.p 17))]
 (.m x7 x51
 .nil))))
 (.seq (.seq (.ops (.m x52 x5
 (.p x53 (.nt (.t x52))
 .nil)))
 (.cond (.t x53) (.seq (.ops (.m x54 x7
 (.m x8 x54
 .nil)))
 (.seq (.ops (.m x55 x0
 (.s x56 165 [(.t x55), (.c (.p 16))]
 (.m x7 x56
 .nil))))
 (.ops (.m x57 x8
 (.cons .no (.ye x58) (.V (.t x57) [])
 .nil)))))
 .skip))
 (.seq (.ops (.m x59 x0
 (.p x60 (.fa (.t x3) 5)
 (.l x61 (.t x60)
 (.p x62 (.ia (.t x61) (.c (.p 1)) 6)
 (.cons .no (.ye x63) (.L (.l (.many (.t x62) 6)))
 (.s x64 166 [(.t x59), (.t x63)]
 .nil)))))))
 (.seq (.ops (.m x65 x0
 (.s x66 141 [(.t x65), (.c (.p 12)), (.c (.p 0)), (.c (.p 0))]
 .nil)))
 (.seq (.ops (.m x67 x0
 (.s x68 196 [(.t x67)]
 (.m x9 x68
 .nil))))
 (.seq (.ops (.m x69 x0
 (.s x70 141 [(.t x69), (.c (.p 16)), (.c (.p 0)), (.c (.p 0))]
 .nil)))
 (.seq (.ops (.m x71 x0
 (.m x72 x9
 (.m x73 x6
 (.s x74 198 [(.t x71), (.t x72), (.c (.p 16)), (.t x73)]
 .nil)))))
 (.seq (.ops (.m x75 x7
 (.cons .no (.ye x76) (.V (.t x75) [])
 .nil)))
 (.seq (.ops (.m x77 x0
 (.s x78 141 [(.t x77), (.c (.p 2)), (.c (.p 0)), (.c (.p 0))]
 .nil)))
 (.seq (.ops (.p x4 (.mv (.c (.b true)))
 .nil))
 .ret)))))))))))))))
def a193 : AF := .fn (ps16.take 79) b193 (.one x4)
def b194 : ACode := (.seq (.seq (.ops (.m x10 x3
 (.p x11 (.lnX (.t x10))
 (.p x12 (.mv (.c (.p 0)))
 .nil))))
 (.blk 0 (.loop (.seq (.ops (.p x13 (.bin .lss (.t x12) (.t x11))
 .nil))
 (.seq (.cond (.t x13) .skip
 (.exit 0))
 (.seq (.blk 1 (.seq (.ops (.p x14 (.ia (.t x10) (.t x12) 6)
 (.cons .no (.ye x15) (.L (.l (.many (.t x14) 6)))
 (.cons .no (.ye x9) (.W (.al (.cons (.p 0) (.cons (.s 0 0) (.cons (.p 0) (.cons .ns (.cons .ns (.cons .ns .nil))))))))
 (.cons .no .no (.W (.st (.t x9) 6 (.t x15)))
 .nil)))))
 (.ops (.m x16 x0
 (.cons .no (.ye x17) (.L (.l (.many (.t x9) 6)))
 (.s x18 140 [(.t x16), (.t x17)]
 .nil))))))
 (.ops (.p x19 (.bin .add (.t x12) (.c (.p 1)))
 (.m x12 x19
 .nil)))))))))
 (.ops (.m x20 x0
 (.m x21 x1
 (.m x22 x0
 (.m x23 x2
 (.s x24 191 [(.t x22), (.t x23)]
 (.m x25 x3
 (.p x26 (.lnX (.t x25))
 (.s x27 141 [(.t x20), (.t x21), (.t x24), (.t x26)]
 .nil))))))))))
def a194 : AF := .fn (ps16.take 28) b194 .none
def b195 : ACode := (.seq (.ops (.cons .no (.ye x3) (.W (.bx (.t x1)))
 (.p x4 (.mv (.c (.p 0)))
 .nil)))
 (.seq (.seq (.ops (.cons .no (.ye x5) (.L (.l (.many (.t x3) 6)))
 (.s x6 223 [(.t x5)]
 .nil)))
 (.cond (.t x6) (.seq (.ops (.m x7 x0
 (.s x8 141 [(.t x7), (.c (.p 1)), (.c (.p 0)), (.c (.p 0))]
 .nil)))
 (.seq (.ops (.p x4 (.mv (.c (.p 15)))
 .nil))
 .ret))
 .skip))
 (.seq (.ops (.m x9 x0
 (.cons .no (.ye x10) (.L (.l (.many (.t x3) 6)))
 (.s x11 140 [(.t x9), (.t x10)]
 .nil))))
 (.seq (.ops (.p x4 (.mv (.c (.p 14)))
 .nil))
 .ret))))
def a195 : AF := .fn (ps16.take 12) b195 (.one x4)
def b196 : ACode := (.seq (.ops (.p x2 (.mv (.c (.p 0)))
 .nil))
 (.seq (.ops (.m x3 x0
 (.p x4 (.nck (.t x3))
 (.p x5 (.fa (.t x4) 0)
 (.p x6 (.fa (.t x5) 5)
 (.l x7 (.t x6)
 (.p x8 (.lnX (.t x7))
 (.m x2 x8
 .nil))))))))
 .ret))
def a196 : AF := .fn (ps16.take 9) b196 (.one x2)
def b197 : ACode := (.draw (.h .no (.ye x3) (.L (.l (.one (.t x0))))
 (.h .no (.ye x4) (.L (.l (.one (.t x1))))
 (.h .no (.ye x5) (.L (.l (.one (.t x2))))
 (.h .no (.ye x6) (.L (.l (.one (.t x0))))
 (.c .no (.ye x7) (.S 196 [(.t x6)]) (.cons .no (.l (.one (.t x0))) x3 (.cons .no (.l (.one (.t x1))) x4 (.cons .no (.l (.one (.t x2))) x5 .nil)))
 (.c .no (.ye x8) (.S 198 [(.t x3), (.t x4), (.t x5), (.t x7)]) .nil
 .nil)))))))
def a197 : AF := .fn (ps16.take 9) b197 .none
def b198 : ACode := (.ops (.m x8 x0
 (.p x9 (.nck (.t x8))
 (.p x10 (.fa (.t x9) 0)
 (.p x11 (.fa (.t x10) 5)
 (.l x12 (.t x11)
 (.m x13 x1
 (.m x14 x2
 (.m x15 x3
 (.p x16 (.bin .and (.t x15) (.c (.p 255)))
 (.m x17 x3
 (.p x18 (.bin .shr (.t x17) (.c (.w .u64 8)))
 (.p x19 (.bd (.cons (.p 0) (.cons (.p 0) (.cons (.p 0) .nil))) [(0, 1, (.t x14)), (1, 1, (.t x16)), (2, 1, (.t x18))])
 (.p x20 (.ia (.t x12) (.t x13) 3)
 (.cons .no .no (.W (.st (.t x20) 3 (.t x19)))
 .nil)))))))))))))))
def a198 : AF := .fn (ps16.take 21) b198 .none
def b199 : ACode := (.seq (.ops (.cons .no (.ye x2) (.W (.bx (.t x0)))
 (.p x3 (.mv (.c (.b false)))
 .nil)))
 (.seq (.ops (.cons .no (.ye x4) (.L (.l (.many (.t x2) 4)))
 (.l x5 (.t x1)
 (.p x6 (.bin .sub (.t x5) (.c (.p 1)))
 (.s x7 171 [(.t x4), (.t x6)]
 (.p x8 (.nt (.t x7))
 (.m x3 x8
 .nil)))))))
 .ret))
def a199 : AF := .fn (ps16.take 9) b199 (.one x3)
def b200 : ACode := (.seq (.ops (.p x3 (.mv (.c (.p 0)))
 .nil))
 (.seq (.ops (.p x4 (.mv (.c (.n 0)))
 .nil))
 (.seq (.seq (.ops (.p x5 (.mv (.c (.p 0)))
 .nil))
 (.blk 0 (.loop (.seq (.seq (.ops (.m x8 x5
 (.p x9 (.bin .add (.t x8) (.c (.p 2)))
 (.m x10 x0
 (.p x11 (.bin .leq (.t x9) (.t x10))
 .nil)))))
 (.cond (.t x11) .skip
 (.exit 0)))
 (.seq (.blk 1 (.seq (.ops (.l x15 (.t x1)
 (.m x16 x5
 (.s x17 201 [(.t x15), (.t x16)]
 (.m x14 x17
 (.p x18 (.ex (.t x14) 0)
 (.p x19 (.ex (.t x14) 1)
 (.m x6 x18
 (.m x7 x19
 .nil)))))))))
 (.seq (.ops (.m x20 x7
 (.m x21 x20
 (.cons (.ye x21 true) (.ye x22) (.P (.mv (.t x0)))
 (.cons (.ye x21 true) (.ye x23) (.P (.mv (.t x6)))
 (.cons (.ye x21 true) (.ye x24) (.P (.bin .lss (.t x22) (.t x23)))
 (.p x25 (.pick (.t x21) (.t x24) (.c (.b false)))
 .nil)))))))
 (.cond (.t x25) (.ops (.m x26 x5
 (.m x4 x26
 .nil)))
 .skip))))
 (.ops (.m x12 x5
 (.p x13 (.bin .add (.t x12) (.c (.p 1)))
 (.m x5 x13
 .nil)))))))))
 (.seq (.ops (.m x27 x4
 (.m x3 x27
 .nil)))
 .ret))))
def a200 : AF := .fn (ps16.take 28) b200 (.one x3)
def b201 : ACode := (.seq (.ops (.p x4 (.mv (.c (.p 0)))
 (.p x5 (.mv (.c (.b false)))
 .nil)))
 (.seq (.seq (.ops (.m x7 x0
 (.m x8 x1
 (.p x9 (.ia (.t x7) (.t x8) 3)
 (.p x10 (.fa (.t x9) 0)
 (.l x11 (.t x10)
 (.p x12 (.bin .neq (.t x11) (.c (.p 18)))
 (.m x13 x12
 (.cons (.ye x13 false) (.ye x14) (.P (.mv (.t x1)))
 (.cons (.ye x13 false) (.ye x15) (.P (.bin .add (.t x14) (.c (.p 1))))
 (.cons (.ye x13 false) (.ye x16) (.P (.mv (.t x0)))
 (.cons (.ye x13 false) (.ye x17) (.P (.lnX (.t x16)))
 (.cons (.ye x13 false) (.ye x18) (.P (.bin .geq (.t x15) (.t x17)))
 (.p x19 (.pick (.t x13) (.c (.b true)) (.t x18))
 (.m x20 x19
 (.cons (.ye x20 false) (.ye x21) (.P (.mv (.t x0)))
 (.cons (.ye x20 false) (.ye x22) (.P (.mv (.t x1)))
 (.cons (.ye x20 false) (.ye x23) (.P (.bin .add (.t x22) (.c (.p 1))))
 (.cons (.ye x20 false) (.ye x24) (.P (.ia (.t x21) (.t x23) 3))
 (.cons (.ye x20 false) (.ye x25) (.P (.fa (.t x24) 0))
 (.cons (.ye x20 false) (.ye x26) (.L (.l (.one (.t x25))))
 (.cons (.ye x20 false) (.ye x27) (.P (.bin .neq (.t x26) (.c (.p 16))))
 (.p x28 (.pick (.t x20) (.c (.b true)) (.t x27))
 .nil)))))))))))))))))))))))
 (.cond (.t x28) (.seq (.ops (.p x4 (.mv (.c (.p 0)))
 (.p x5 (.mv (.c (.b false)))
 .nil)))
 .ret)
 .skip))
 (.seq (.ops (.m x29 x0
 (.m x30 x1
 (.p x31 (.bin .add (.t x30) (.c (.p 1)))
 (.p x32 (.ia (.t x29) (.t x31) 3)
 (.cons .no (.ye x33) (.L (.l (.many (.t x32) 3)))
 (.s x34 202 [(.t x33)]
 (.m x6 x34
 .nil))))))))
 (.seq (.ops (.m x35 x6
 (.m x36 x6
 (.m x37 x1
 (.p x38 (.bin .add (.t x37) (.c (.p 2)))
 (.p x39 (.bin .gtr (.t x36) (.t x38))
 (.m x4 x35
 (.m x5 x39
 .nil))))))))
 .ret))))
def a201 : AF := .fn (ps16.take 40) b201 (.many [(.t x4), (.t x5)])
def b202 : ACode := (.seq (.ops (.cons .no (.ye x1) (.W (.bx (.t x0)))
 (.p x2 (.mv (.c (.p 0)))
 .nil)))
 (.seq (.seq (.ops (.p x3 (.fa (.t x1) 0)
 (.l x4 (.t x3)
 (.s x5 224 [(.t x4)]
 (.p x6 (.nt (.t x5))
 .nil)))))
 (.cond (.t x6) (.seq (.ops (.p x2 (.mv (.c (.n 0)))
 .nil))
 .ret)
 .skip))
 (.seq (.ops (.p x7 (.fa (.t x1) 1)
 (.l x8 (.t x7)
 (.p x9 (.fa (.t x1) 2)
 (.l x10 (.t x9)
 (.p x11 (.bin .shl (.t x10) (.c (.w .u64 8)))
 (.p x12 (.bin .add (.t x8) (.t x11))
 (.m x2 x12
 .nil))))))))
 .ret)))
def a202 : AF := .fn (ps16.take 13) b202 (.one x2)
def b203 : ACode := (.blk 0 (.seq (.ops (.m x12 x0
 (.l x13 (.t x3)
 (.p x14 (.lnX (.t x13))
 (.p x15 (.bin .geq (.t x12) (.t x14))
 (.m x16 x15
 (.cons (.ye x16 false) (.ye x17) (.L (.l (.one (.t x4))))
 (.cons (.ye x16 false) (.ye x18) (.P (.mv (.t x0)))
 (.cons (.ye x16 false) (.ye x19) (.P (.ia (.t x17) (.t x18) 1))
 (.cons (.ye x16 false) (.ye x20) (.L (.l (.one (.t x19))))
 (.cons (.ye x16 false) (.ye x21) (.P (.mv (.t x1)))
 (.cons (.ye x16 false) (.ye x22) (.P (.bin .neq (.t x20) (.t x21)))
 (.p x23 (.pick (.t x16) (.c (.b true)) (.t x22))
 (.m x24 x23
 (.cons (.ye x24 false) (.ye x25) (.L (.l (.one (.t x5))))
 (.cons (.ye x24 false) (.ye x26) (.P (.mv (.t x0)))
 (.cons (.ye x24 false) (.ye x27) (.P (.ia (.t x25) (.t x26) 1))
 (.cons (.ye x24 false) (.ye x28) (.L (.l (.one (.t x27))))
 (.cons (.ye x24 false) (.ye x29) (.P (.bin .geq (.t x28) (.c (.p 0))))
 (.cons (.ye x24 false) (.ye x30) (.P (.mv (.t x29)))
 (.cons (.ye x30 true) (.ye x31) (.L (.l (.one (.t x5))))
 (.cons (.ye x30 true) (.ye x32) (.P (.mv (.t x0)))
 (.cons (.ye x30 true) (.ye x33) (.P (.ia (.t x31) (.t x32) 1))
 (.cons (.ye x30 true) (.ye x34) (.L (.l (.one (.t x33))))
 (.cons (.ye x30 true) (.ye x35) (.P (.mv (.t x2)))
 (.cons (.ye x30 true) (.ye x36) (.P (.bin .neq (.t x34) (.t x35)))
 (.cons (.ye x24 false) (.ye x37) (.P (.pick (.t x30) (.t x36) (.c (.b false))))
 (.p x38 (.pick (.t x24) (.c (.b true)) (.t x37))
 (.m x11 x38
 .nil)))))))))))))))))))))))))))))
 (.cond (.t x11) (.ops (.cons .no .no (.W (.st (.t x6) 1 (.c (.b false))))
 .nil))
 (.seq (.ops (.l x40 (.t x5)
 (.m x41 x0
 (.p x42 (.ia (.t x40) (.t x41) 1)
 (.l x43 (.t x42)
 (.p x44 (.bin .lss (.t x43) (.c (.p 0)))
 (.m x39 x44
 .nil)))))))
 (.cond (.t x39) (.seq (.ops (.l x45 (.t x5)
 (.m x46 x0
 (.m x47 x2
 (.p x48 (.ia (.t x45) (.t x46) 1)
 (.cons .no .no (.W (.st (.t x48) 1 (.t x47)))
 .nil))))))
 (.ops (.l x49 (.t x7)
 (.m x50 x0
 (.cons .no (.ye x51) (.W (.bs (.cons (.p 0) .nil) 1 [(0, 1, (.t x50))]))
 (.cons .no (.ye x52) (.W (.app 1 8 (.t x49) (.t x51)))
 (.cons .no .no (.W (.st (.t x7) 1 (.t x52)))
 .nil)))))))
 .skip)))))
def a203 : AF := .fn (ps16.take 53) b203 .none
def b204 : ACode := (.seq (.ops (.cons .no (.ye x1) (.W (.bx (.t x0)))
 (.p x2 (.mv (.c (.p 0)))
 .nil)))
 (.seq (.seq (.ops (.p x3 (.fa (.t x1) 0)
 (.l x4 (.t x3)
 .nil)))
 (.blk 0 (.seq (.seq (.ops (.p x6 (.bin .eql (.t x4) (.c (.p 1)))
 (.m x5 x6
 .nil)))
 (.cond (.t x5) .skip
 (.seq (.ops (.p x7 (.bin .eql (.t x4) (.c (.p 2)))
 (.m x5 x7
 .nil)))
 (.cond (.t x5) .skip
 (.seq (.ops (.p x8 (.bin .eql (.t x4) (.c (.p 3)))
 (.m x5 x8
 .nil)))
 (.cond (.t x5) .skip
 (.seq (.ops (.p x9 (.bin .eql (.t x4) (.c (.p 4)))
 (.m x5 x9
 .nil)))
 (.cond (.t x5) .skip
 (.seq (.ops (.p x10 (.bin .eql (.t x4) (.c (.p 5)))
 (.m x5 x10
 .nil)))
 (.cond (.t x5) .skip
 (.seq (.ops (.p x11 (.bin .eql (.t x4) (.c (.p 6)))
 (.m x5 x11
 .nil)))
 (.cond (.t x5) .skip
 (.seq (.ops (.p x12 (.bin .eql (.t x4) (.c (.p 7)))
 (.m x5 x12
 .nil)))
 (.cond (.t x5) .skip
 (.seq (.ops (.p x13 (.bin .eql (.t x4) (.c (.p 8)))
 (.m x5 x13
 .nil)))
 (.cond (.t x5) .skip
 (.seq (.ops (.p x14 (.bin .eql (.t x4) (.c (.p 9)))
 (.m x5 x14
 .nil)))
 (.cond (.t x5) .skip
 (.seq (.ops (.p x15 (.bin .eql (.t x4) (.c (.p 13)))
 (.m x5 x15
 .nil)))
 (.cond (.t x5) .skip
 (.ops (.p x16 (.bin .eql (.t x4) (.c (.p 18)))
 (.m x5 x16
 .nil)))))))))))))))))))))))
 (.cond (.t x5) (.seq (.ops (.p x2 (.mv (.c (.p 1)))
 .nil))
 .ret)
 (.seq (.seq (.ops (.p x18 (.bin .eql (.t x4) (.c (.p 12)))
 (.m x17 x18
 .nil)))
 (.cond (.t x17) .skip
 (.seq (.ops (.p x19 (.bin .eql (.t x4) (.c (.p 17)))
 (.m x17 x19
 .nil)))
 (.cond (.t x17) .skip
 (.seq (.ops (.p x20 (.bin .eql (.t x4) (.c (.p 19)))
 (.m x17 x20
 .nil)))
 (.cond (.t x17) .skip
 (.ops (.p x21 (.bin .eql (.t x4) (.c (.p 20)))
 (.m x17 x21
 .nil)))))))))
 (.cond (.t x17) (.seq (.ops (.p x2 (.mv (.c (.n 0)))
 .nil))
 .ret)
 (.seq (.seq (.ops (.p x23 (.bin .eql (.t x4) (.c (.p 14)))
 (.m x22 x23
 .nil)))
 (.cond (.t x22) .skip
 (.ops (.p x24 (.bin .eql (.t x4) (.c (.p 15)))
 (.m x22 x24
 .nil)))))
 (.cond (.t x22) (.seq (.ops (.p x25 (.fa (.t x1) 2)
 (.l x26 (.t x25)
 (.p x27 (.ng (.t x26))
 (.m x2 x27
 .nil)))))
 .ret)
 .skip))))))))
 (.seq (.ops (.p x2 (.mv (.c (.p 0)))
 .nil))
 .ret)))
def a204 : AF := .fn (ps16.take 28) b204 (.one x2)
def b205 : ACode := (.seq (.ops (.cons .no (.ye x1) (.W (.bx (.t x0)))
 (.p x2 (.mv (.c (.p 0)))
 .nil)))
 (.seq (.seq (.ops (.p x3 (.fa (.t x1) 0)
 (.l x4 (.t x3)
 .nil)))
 (.blk 0 (.seq (.seq (.ops (.p x6 (.bin .eql (.t x4) (.c (.p 12)))
 (.m x5 x6
 .nil)))
 (.cond (.t x5) .skip
 (.seq (.ops (.p x7 (.bin .eql (.t x4) (.c (.p 13)))
 (.m x5 x7
 .nil)))
 (.cond (.t x5) .skip
 (.seq (.ops (.p x8 (.bin .eql (.t x4) (.c (.p 10)))
 (.m x5 x8
 .nil)))
 (.cond (.t x5) .skip
 (.seq (.ops (.p x9 (.bin .eql (.t x4) (.c (.p 11)))
 (.m x5 x9
 .nil)))
 (.cond (.t x5) .skip
 (.seq (.ops (.p x10 (.bin .eql (.t x4) (.c (.p 17)))
 (.m x5 x10
 .nil)))
 (.cond (.t x5) .skip
 (.seq (.ops (.p x11 (.bin .eql (.t x4) (.c (.p 20)))
 (.m x5 x11
 .nil)))
 (.cond (.t x5) .skip
 (.ops (.p x12 (.bin .eql (.t x4) (.c (.p 19)))
 (.m x5 x12
 .nil)))))))))))))))
 (.cond (.t x5) (.seq (.ops (.p x2 (.mv (.c (.p 1)))
 .nil))
 .ret)
 (.seq (.seq (.ops (.p x14 (.bin .eql (.t x4) (.c (.p 14)))
 (.m x13 x14
 .nil)))
 (.cond (.t x13) .skip
 (.ops (.p x15 (.bin .eql (.t x4) (.c (.p 15)))
 (.m x13 x15
 .nil)))))
 (.cond (.t x13) (.seq (.ops (.p x16 (.fa (.t x1) 2)
 (.l x17 (.t x16)
 (.p x18 (.bin .add (.t x17) (.c (.p 1)))
 (.m x2 x18
 .nil)))))
 .ret)
 .skip))))))
 (.seq (.ops (.p x2 (.mv (.c (.p 0)))
 .nil))
 .ret)))
def a205 : AF := .fn (ps16.take 19) b205 (.one x2)
def b206 : ACode := (.seq (.ops (.cons .no (.ye x4) (.W (.al (.cons (.p 0) (.cons (.s 0 0) (.cons (.p 0) (.cons .ns (.cons .ns (.cons .ns .nil))))))))
 .nil))
 (.seq (.ops (.m x5 x0
 (.m x6 x1
 (.p x7 (.bd (.cons (.p 0) (.cons (.s 0 0) (.cons (.p 0) (.cons .ns (.cons .ns (.cons .ns .nil)))))) [(0, 1, (.c (.p 7))), (1, 1, (.t x5)), (5, 1, (.t x6))])
 (.cons .no .no (.W (.st (.t x4) 6 (.t x7)))
 .nil)))))
 .ret))
def a206 : AF := .fn (ps16.take 8) b206 (.onec (.many (.t x4) 6))
def b207 : ACode := (.seq (.ops (.cons .no (.ye x2) (.W (.al (.cons (.p 0) (.cons (.s 0 0) (.cons (.p 0) (.cons .ns (.cons .ns (.cons .ns .nil))))))))
 (.p x3 (.mv (.c (.b false)))
 .nil)))
 (.seq (.ops (.m x6 x0
 (.s x7 137 [(.t x6), (.c (.p 0))]
 (.cons .no (.ye x4) (.W (.al (.cons (.p 0) (.cons (.s 0 0) (.cons (.p 0) (.cons (.p 0) .nil))))))
 (.cons .no .no (.W (.st (.t x4) 4 (.t x7)))
 .nil)))))
 (.seq (.ops (.p x8 (.fa (.t x4) 1)
 (.l x9 (.t x8)
 (.p x10 (.fa (.t x4) 2)
 (.l x11 (.t x10)
 (.p x12 (.bd (.cons (.p 0) (.cons (.s 0 0) (.cons (.p 0) (.cons .ns (.cons .ns (.cons .ns .nil)))))) [(1, 1, (.t x9)), (2, 1, (.t x11))])
 (.cons .no (.ye x5) (.W (.al (.cons (.p 0) (.cons (.s 0 0) (.cons (.p 0) (.cons .ns (.cons .ns (.cons .ns .nil))))))))
 (.cons .no .no (.W (.st (.t x5) 6 (.t x12)))
 .nil))))))))
 (.seq (.blk 0 (.seq (.ops (.m x15 x0
 (.p x16 (.nck (.t x15))
 (.p x17 (.fa (.t x16) 3)
 (.l x18 (.t x17)
 (.p x19 (.bin .neq (.t x18) (.c (.p 0)))
 (.m x14 x19
 .nil)))))))
 (.cond (.t x14) (.seq (.ops (.cons .no (.ye x20) (.L (.l (.many (.t x5) 6)))
 (.cons .no .no (.W (.st (.t x2) 6 (.t x20)))
 (.p x3 (.mv (.c (.b false)))
 .nil))))
 .ret)
 (.seq (.ops (.m x22 x0
 (.s x23 225 [(.t x22)]
 (.m x21 x23
 .nil))))
 (.cond (.t x21) (.seq (.ops (.m x24 x0
 (.s x25 134 [(.t x24)]
 .nil)))
 (.seq (.ops (.m x26 x0
 (.s x27 134 [(.t x26)]
 (.p x28 (.fd (.t x27) 2)
 (.p x29 (.ng (.t x28))
 (.p x30 (.bd (.cons (.p 0) (.cons (.s 0 0) (.cons (.p 0) (.cons .ns (.cons .ns (.cons .ns .nil)))))) [(0, 1, (.c (.p 1))), (2, 1, (.t x29))])
 (.cons .no .no (.W (.st (.t x2) 6 (.t x30)))
 (.p x3 (.mv (.c (.b true)))
 .nil))))))))
 .ret))
 (.seq (.ops (.p x32 (.fa (.t x4) 0)
 (.l x33 (.t x32)
 (.p x34 (.bin .eql (.t x33) (.c (.p 4)))
 (.m x31 x34
 .nil)))))
 (.cond (.t x31) (.ops (.p x35 (.fa (.t x5) 0)
 (.cons .no .no (.W (.st (.t x35) 1 (.c (.p 1))))
 .nil)))
 (.seq (.ops (.p x37 (.fa (.t x4) 0)
 (.l x38 (.t x37)
 (.p x39 (.bin .eql (.t x38) (.c (.p 5)))
 (.m x36 x39
 .nil)))))
 (.cond (.t x36) (.ops (.p x40 (.fa (.t x5) 0)
 (.cons .no .no (.W (.st (.t x40) 1 (.c (.p 2))))
 .nil)))
 (.seq (.ops (.p x42 (.fa (.t x4) 0)
 (.l x43 (.t x42)
 (.p x44 (.bin .eql (.t x43) (.c (.p 6)))
 (.m x41 x44
 .nil)))))
 (.cond (.t x41) (.ops (.p x45 (.fa (.t x5) 0)
 (.cons .no .no (.W (.st (.t x45) 1 (.c (.p 3))))
 .nil)))
 (.seq (.ops (.cons .no (.ye x13) (.L (.l (.many (.t x5) 6)))
 (.cons .no .no (.W (.st (.t x2) 6 (.t x13)))
 (.p x3 (.mv (.c (.b false)))
 .nil))))
 .ret))))))))))))
 (.seq (.ops (.m x46 x0
 (.s x47 134 [(.t x46)]
 .nil)))
 (.seq (.ops (.cons .no (.ye x48) (.L (.l (.many (.t x5) 6)))
 (.cons .no .no (.W (.st (.t x2) 6 (.t x48)))
 (.p x3 (.mv (.c (.b true)))
 .nil))))
 .ret))))))
def a207 : AF := .fn (ps16.take 49) b207 (.many [(.c (.many (.t x2) 6)), (.t x3)])
def b208 : ACode := (.seq (.ops (.cons .no (.ye x4) (.W (.al (.cons (.p 0) (.cons (.s 0 0) (.cons (.p 0) (.cons .ns (.cons .ns (.cons .ns .nil))))))))
 .nil))
 (.seq (.ops (.m x7 x0
 (.s x8 134 [(.t x7)]
 (.cons .no (.ye x5) (.W (.al (.cons (.p 0) (.cons (.s 0 0) (.cons (.p 0) (.cons (.p 0) .nil))))))
 (.cons .no .no (.W (.st (.t x5) 4 (.t x8)))
 .nil)))))
 (.seq (.seq (.ops (.m x9 x0
 (.p x10 (.nck (.t x9))
 (.p x11 (.fa (.t x10) 1)
 (.l x12 (.t x11)
 (.p x13 (.bin .eql (.t x12) (.c (.p 20)))
 .nil))))))
 (.cond (.t x13) (.seq (.ops (.m x14 x0
 (.cons .no (.ye x15) (.L (.l (.many (.t x5) 4)))
 (.s x16 136 [(.t x14), (.t x15), (.c (.p 14))]
 .nil))))
 (.seq (.ops (.p x17 (.bd (.cons (.p 0) (.cons (.s 0 0) (.cons (.p 0) (.cons .ns (.cons .ns (.cons .ns .nil)))))) [])
 (.cons .no .no (.W (.st (.t x4) 6 (.t x17)))
 .nil)))
 .ret))
 .skip))
 (.seq (.ops (.m x18 x0
 (.p x19 (.nck (.t x18))
 (.p x20 (.fa (.t x19) 1)
 (.l x21 (.t x20)
 (.p x22 (.bin .add (.t x21) (.c (.p 1)))
 (.p x23 (.nck (.t x18))
 (.p x24 (.fa (.t x23) 1)
 (.cons .no .no (.W (.st (.t x24) 1 (.t x22)))
 .nil)))))))))
 (.seq (.ops (.m x25 x1
 (.cons .no (.ye x26) (.V (.t x25) [])
 (.cons .no (.ye x6) (.W (.al (.cons (.p 0) (.cons (.s 0 0) (.cons (.p 0) (.cons .ns (.cons .ns (.cons .ns .nil))))))))
 (.cons .no .no (.W (.st (.t x6) 6 (.t x26)))
 .nil)))))
 (.seq (.ops (.m x27 x0
 (.p x28 (.nck (.t x27))
 (.p x29 (.fa (.t x28) 1)
 (.l x30 (.t x29)
 (.p x31 (.bin .sub (.t x30) (.c (.p 1)))
 (.p x32 (.nck (.t x27))
 (.p x33 (.fa (.t x32) 1)
 (.cons .no .no (.W (.st (.t x33) 1 (.t x31)))
 .nil)))))))))
 (.seq (.ops (.cons .no (.ye x34) (.L (.l (.many (.t x6) 6)))
 (.cons .no .no (.W (.st (.t x4) 6 (.t x34)))
 .nil)))
 .ret)))))))
def a208 : AF := .fn (ps16.take 35) b208 (.onec (.many (.t x4) 6))
def b209 : ACode := (.seq (.ops (.cons .no (.ye x2) (.W (.al (.cons (.p 0) (.cons (.s 0 0) (.cons (.p 0) (.cons .ns (.cons .ns (.cons .ns .nil))))))))
 .nil))
 (.seq (.ops (.p x6 (.bd (.cons (.p 0) (.cons (.s 0 0) (.cons (.p 0) (.cons .ns (.cons .ns (.cons .ns .nil)))))) [(0, 1, (.c (.p 4)))])
 (.cons .no (.ye x3) (.W (.al (.cons (.p 0) (.cons (.s 0 0) (.cons (.p 0) (.cons .ns (.cons .ns (.cons .ns .nil))))))))
 (.cons .no .no (.W (.st (.t x3) 6 (.t x6)))
 .nil))))
 (.seq (.blk 0 (.loop (.seq (.seq (.ops (.m x7 x0
 (.p x8 (.nck (.t x7))
 (.p x9 (.fa (.t x8) 3)
 (.l x10 (.t x9)
 (.p x11 (.bin .eql (.t x10) (.c (.p 0)))
 (.m x12 x11
 (.cons (.ye x12 true) (.ye x13) (.P (.mv (.t x0)))
 (.cons (.ye x12 true) (.ye x14) (.S 133 [(.t x13), (.c (.p 10)), (.c (.s 1 41))])
 (.cons (.ye x12 true) (.ye x15) (.P (.nt (.t x14)))
 (.p x16 (.pick (.t x12) (.t x15) (.c (.b false)))
 .nil)))))))))))
 (.cond (.t x16) .skip
 (.exit 0)))
 (.blk 1 (.seq (.ops (.m x18 x0
 (.s x19 207 [(.t x18)]
 (.m x17 x19
 (.p x20 (.ex (.t x17) 0)
 (.p x21 (.ex (.t x17) 1)
 (.cons .no (.ye x4) (.W (.al (.cons (.p 0) (.cons (.s 0 0) (.cons (.p 0) (.cons .ns (.cons .ns (.cons .ns .nil))))))))
 (.cons .no .no (.W (.st (.t x4) 6 (.t x20)))
 (.m x5 x21
 .nil)))))))))
 (.seq (.blk 2 (.seq (.ops (.m x27 x5
 (.m x26 x27
 .nil)))
 (.cond (.t x26) .skip
 (.seq (.ops (.m x29 x0
 (.s x30 133 [(.t x29), (.c (.p 7)), (.c (.s 0 0))]
 (.m x31 x30
 (.cons (.ye x31 false) (.ye x32) (.P (.mv (.t x0)))
 (.cons (.ye x31 false) (.ye x33) (.S 133 [(.t x32), (.c (.p 10)), (.c (.s 1 40))])
 (.p x34 (.pick (.t x31) (.c (.b true)) (.t x33))
 (.m x28 x34
 .nil))))))))
 (.cond (.t x28) (.ops (.m x35 x0
 (.m x36 x0
 (.p x37 (.mf 209 [(.t x36)] [])
 (.s x38 208 [(.t x35), (.t x37)]
 (.cons .no .no (.W (.st (.t x4) 6 (.t x38)))
 .nil))))))
 (.ops (.m x22 x0
 (.m x23 x0
 (.s x24 137 [(.t x23), (.c (.p 0))]
 (.s x25 136 [(.t x22), (.t x24), (.c (.p 13))]
 .nil))))))))))
 (.ops (.p x39 (.fa (.t x3) 5)
 (.l x40 (.t x39)
 (.cons .no (.ye x41) (.L (.l (.many (.t x4) 6)))
 (.cons .no (.ye x42) (.W (.bs (.cons (.p 0) (.cons (.s 0 0) (.cons (.p 0) (.cons .ns (.cons .ns (.cons .ns .nil)))))) 1 [(0, 6, (.t x41))]))
 (.cons .no (.ye x43) (.W (.app 6 104 (.t x40) (.t x42)))
 (.p x44 (.fa (.t x3) 5)
 (.cons .no .no (.W (.st (.t x44) 1 (.t x43)))
 .nil))))))))))))))
 (.seq (.ops (.m x45 x0
 (.s x46 134 [(.t x45)]
 .nil)))
 (.seq (.ops (.cons .no (.ye x47) (.L (.l (.many (.t x3) 6)))
 (.cons .no .no (.W (.st (.t x2) 6 (.t x47)))
 .nil)))
 .ret)))))
def a209 : AF := .fn (ps16.take 48) b209 (.onec (.many (.t x2) 6))
def b210 : ACode := (.seq (.ops (.cons .no (.ye x2) (.W (.al (.cons (.p 0) (.cons (.s 0 0) (.cons (.p 0) (.cons .ns (.cons .ns (.cons .ns .nil))))))))
 .nil))
 (.seq (.ops (.m x4 x0
 (.s x5 135 [(.t x4)]
 (.cons .no (.ye x3) (.W (.al (.cons (.p 0) (.cons (.s 0 0) (.cons (.p 0) (.cons .ns (.cons .ns (.cons .ns .nil))))))))
 (.cons .no .no (.W (.st (.t x3) 6 (.t x5)))
 .nil)))))
 (.seq (.ops (.m x6 x0
 (.s x7 120 [(.t x6), (.c (.p 10)), (.c (.s 1 41))]
 .nil)))
 (.seq (.ops (.cons .no (.ye x8) (.L (.l (.many (.t x3) 6)))
 (.cons .no .no (.W (.st (.t x2) 6 (.t x8)))
 .nil)))
 .ret))))
def a210 : AF := .fn (ps16.take 9) b210 (.onec (.many (.t x2) 6))
def b211 : ACode := (.seq (.ops (.cons .no (.ye x2) (.W (.al (.cons (.p 0) (.cons (.s 0 0) (.cons (.p 0) (.cons .ns (.cons .ns (.cons .ns .nil))))))))
 .nil))
 (.seq (.ops (.p x4 (.bd (.cons (.p 0) (.cons (.s 0 0) (.cons (.p 0) (.cons .ns (.cons .ns (.cons .ns .nil)))))) [(0, 1, (.c (.p 9)))])
 (.cons .no (.ye x3) (.W (.al (.cons (.p 0) (.cons (.s 0 0) (.cons (.p 0) (.cons .ns (.cons .ns (.cons .ns .nil))))))))
 (.cons .no .no (.W (.st (.t x3) 6 (.t x4)))
 .nil))))
 (.seq (.blk 0 (.loop (.seq (.seq (.ops (.m x5 x0
 (.s x6 133 [(.t x5), (.c (.p 8)), (.c (.s 0 0))]
 .nil)))
 (.cond (.t x6) .skip
 (.exit 0)))
 (.blk 1 (.draw (.h .no (.ye x7) (.P (.fa (.t x3) 3))
 (.h .no (.ye x8) (.L (.l (.one (.t x7))))
 (.h .no (.ye x9) (.P (.mv (.t x0)))
 (.h .no (.ye x10) (.P (.fa (.t x3) 3))
 (.h .no (.ye x11) (.L (.l (.one (.t x10))))
 (.c .no (.ye x12) (.S 138 [(.t x9), (.c (.p 8)), (.t x11)]) (.cons .no (.l (.one (.t x7))) x8 .nil)
 (.c .no (.ye x13) (.W (.bs (.cons (.s 0 0) .nil) 1 [(0, 1, (.t x12))])) (.cons .no (.l (.one (.t x7))) x8 .nil)
 (.c .no (.ye x14) (.W (.app 1 16 (.t x8) (.t x13))) .nil
 (.h .no (.ye x15) (.P (.fa (.t x3) 3))
 (.c .no .no (.W (.st (.t x15) 1 (.t x14))) .nil
 .nil)))))))))))))))
 (.seq (.seq (.ops (.p x16 (.fa (.t x3) 3)
 (.l x17 (.t x16)
 (.p x18 (.lnX (.t x17))
 (.p x19 (.bin .gtr (.t x18) (.c (.p 0)))
 (.m x20 x19
 (.cons (.ye x20 true) (.ye x21) (.P (.mv (.t x0)))
 (.cons (.ye x20 true) (.ye x22) (.S 133 [(.t x21), (.c (.p 10)), (.c (.s 1 93))])
 (.cons (.ye x20 true) (.ye x23) (.P (.nt (.t x22)))
 (.p x24 (.pick (.t x20) (.t x23) (.c (.b false)))
 .nil))))))))))
 (.cond (.t x24) (.ops (.m x25 x0
 (.s x26 120 [(.t x25), (.c (.p 10)), (.c (.s 1 124))]
 .nil)))
 .skip))
 (.seq (.ops (.m x27 x0
 (.s x28 118 [(.t x27)]
 (.p x29 (.fa (.t x3) 4)
 (.cons .no .no (.W (.st (.t x29) 1 (.t x28)))
 .nil)))))
 (.seq (.ops (.m x30 x0
 (.s x31 119 [(.t x30)]
 (.p x32 (.fa (.t x3) 5)
 (.cons .no .no (.W (.st (.t x32) 1 (.t x31)))
 .nil)))))
 (.seq (.ops (.m x33 x0
 (.s x34 120 [(.t x33), (.c (.p 10)), (.c (.s 1 93))]
 .nil)))
 (.seq (.ops (.cons .no (.ye x35) (.L (.l (.many (.t x3) 6)))
 (.cons .no .no (.W (.st (.t x2) 6 (.t x35)))
 .nil)))
 .ret))))))))
def a211 : AF := .fn (ps16.take 36) b211 (.onec (.many (.t x2) 6))
def b212 : ACode := (.seq (.ops (.p x2 (.mv (.c .ns))
 .nil))
 (.seq (.seq (.ops (.m x3 x0
 (.p x4 (.eqv 3 false (.t x3) (.c .ns))
 .nil)))
 (.cond (.t x4) (.seq (.ops (.p x2 (.mv (.c .ns))
 .nil))
 .ret)
 .skip))
 (.seq (.ops (.cons .no (.ye x5) (.W (.bs .nil 0 []))
 (.m x6 x0
 (.cons .no (.ye x7) (.W (.app 6 104 (.t x5) (.t x6)))
 (.m x2 x7
 .nil)))))
 .ret)))
def a212 : AF := .fn (ps16.take 8) b212 (.one x2)
def b213 : ACode := (.seq (.ops (.p x6 (.mv (.c (.b false)))
 .nil))
 (.seq (.seq (.ops (.m x10 x0
 (.p x11 (.lnX (.t x10))
 (.m x12 x1
 (.p x13 (.lnX (.t x12))
 (.p x14 (.bin .neq (.t x11) (.t x13))
 .nil))))))
 (.cond (.t x14) (.seq (.ops (.p x6 (.mv (.c (.b false)))
 .nil))
 .ret)
 .skip))
 (.seq (.seq (.ops (.m x15 x0
 (.p x16 (.lnX (.t x15))
 (.p x17 (.mv (.c (.p 0)))
 .nil))))
 (.blk 0 (.loop (.seq (.ops (.p x18 (.bin .lss (.t x17) (.t x16))
 .nil))
 (.seq (.cond (.t x18) .skip
 (.exit 0))
 (.seq (.blk 1 (.seq (.ops (.m x19 x17
 (.p x20 (.ia (.t x15) (.t x17) 4)
 (.cons .no (.ye x21) (.L (.l (.many (.t x20) 4)))
 (.cons .no (.ye x8) (.W (.al (.cons (.p 0) (.cons (.s 0 0) (.cons (.p 0) (.cons .ns .nil))))))
 (.m x7 x19
 (.cons .no .no (.W (.st (.t x8) 4 (.t x21)))
 .nil)))))))
 (.seq (.ops (.m x22 x1
 (.m x23 x7
 (.p x24 (.ia (.t x22) (.t x23) 4)
 (.cons .no (.ye x25) (.L (.l (.many (.t x24) 4)))
 (.cons .no (.ye x9) (.W (.al (.cons (.p 0) (.cons (.s 0 0) (.cons (.p 0) (.cons .ns .nil))))))
 (.cons .no .no (.W (.st (.t x9) 4 (.t x25)))
 .nil)))))))
 (.seq (.ops (.m x26 x2
 (.cons .no (.ye x27) (.L (.l (.many (.t x8) 4)))
 (.cons .no (.ye x28) (.L (.l (.many (.t x9) 4)))
 (.cons .no (.ye x29) (.V (.t x26) [(.t x27), (.t x28)])
 (.p x30 (.nt (.t x29))
 .nil))))))
 (.cond (.t x30) (.seq (.ops (.p x6 (.mv (.c (.b false)))
 .nil))
 .ret)
 .skip)))))
 (.ops (.p x31 (.bin .add (.t x17) (.c (.p 1)))
 (.m x17 x31
 .nil)))))))))
 (.seq (.ops (.p x6 (.mv (.c (.b true)))
 .nil))
 .ret))))
def a213 : AF := .fn (ps16.take 32) b213 (.one x6)
def b214 : ACode := .skip
def a214 : AF := .fn (ps16.take 0) b214 .none
def b215 : ACode := .skip
def a215 : AF := .fn (ps16.take 0) b215 .none
def b216 : ACode := (.seq (.ops (.cons .no (.ye x3) (.W (.bx (.t x0)))
 (.p x4 (.mv (.c .nf))
 .nil)))
 (.seq (.ops (.p x5 (.mf 217 [] [(.t x1), (.t x2), (.t x3)])
 (.m x4 x5
 .nil)))
 .ret))
def a216 : AF := .fn (ps16.take 6) b216 (.one x4)
def b217 : ACode := (.draw (.h .no (.ye x3) (.L (.l (.one (.t x0))))
 (.h .no (.ye x4) (.P (.fa (.t x1) 5))
 (.h .no (.ye x5) (.L (.l (.one (.t x4))))
 (.h .no (.ye x6) (.L (.l (.one (.t x2))))
 (.h .no (.ye x7) (.P (.ia (.t x5) (.t x6) 6))
 (.h .no (.ye x8) (.L (.l (.many (.t x7) 6)))
 (.c .no (.ye x9) (.S 166 [(.t x3), (.t x8)]) .nil
 .nil))))))))
def a217 : AF := .fn (ps16.take 10) b217 .none
def b218 : ACode := (.seq (.ops (.cons .no (.ye x2) (.W (.bx (.t x0)))
 (.p x3 (.mv (.c .nf))
 .nil)))
 (.seq (.ops (.p x4 (.mf 219 [] [(.t x1), (.t x2)])
 (.m x3 x4
 .nil)))
 .ret))
def a218 : AF := .fn (ps16.take 5) b218 (.one x3)
def b219 : ACode := (.ops (.l x2 (.t x0)
 (.l x3 (.t x1)
 (.s x4 141 [(.t x2), (.t x3), (.c (.p 0)), (.c (.p 0))]
 .nil))))
def a219 : AF := .fn (ps16.take 5) b219 .none
def b220 : ACode := (.seq (.ops (.p x4 (.mv (.c (.b false)))
 .nil))
 (.seq (.ops (.m x5 x0
 (.m x6 x1
 (.s x7 226 [(.t x5), (.t x6)]
 (.p x8 (.bin .geq (.t x7) (.c (.p 0)))
 (.m x4 x8
 .nil))))))
 .ret))
def a220 : AF := .fn (ps16.take 9) b220 (.one x4)
def b221 : ACode := (.seq (.ops (.cons .no (.ye x1) (.W (.bx (.t x0)))
 (.p x2 (.mv (.c (.b false)))
 .nil)))
 (.seq (.ops (.cons .no (.ye x3) (.L (.l (.many (.t x1) 6)))
 (.s x4 222 [(.t x3)]
 (.p x5 (.nt (.t x4))
 (.m x2 x5
 .nil)))))
 .ret))
def a221 : AF := .fn (ps16.take 6) b221 (.one x2)
def b222 : ACode := (.seq (.ops (.cons .no (.ye x1) (.W (.bx (.t x0)))
 (.p x2 (.mv (.c (.b false)))
 .nil)))
 (.seq (.ops (.p x3 (.fa (.t x1) 0)
 (.l x4 (.t x3)
 (.p x5 (.bin .eql (.t x4) (.c (.p 9)))
 (.m x6 x5
 (.cons (.ye x6 true) (.ye x7) (.P (.fa (.t x1) 3))
 (.cons (.ye x6 true) (.ye x8) (.L (.l (.one (.t x7))))
 (.cons (.ye x6 true) (.ye x9) (.P (.lnX (.t x8)))
 (.cons (.ye x6 true) (.ye x10) (.P (.bin .eql (.t x9) (.c (.p 0))))
 (.p x11 (.pick (.t x6) (.t x10) (.c (.b false)))
 (.m x2 x11
 .nil)))))))))))
 .ret))
def a222 : AF := .fn (ps16.take 12) b222 (.one x2)
def b223 : ACode := (.seq (.ops (.cons .no (.ye x1) (.W (.bx (.t x0)))
 (.p x2 (.mv (.c (.b false)))
 .nil)))
 (.seq (.ops (.p x3 (.fa (.t x1) 0)
 (.l x4 (.t x3)
 (.p x5 (.bin .eql (.t x4) (.c (.p 5)))
 (.m x6 x5
 (.cons (.ye x6 true) (.ye x7) (.P (.fa (.t x1) 1))
 (.cons (.ye x6 true) (.ye x8) (.L (.l (.one (.t x7))))
 (.cons (.ye x6 true) (.ye x9) (.P (.bin .eql (.t x8) (.c (.s 5 491328140659))))
 (.p x10 (.pick (.t x6) (.t x9) (.c (.b false)))
 (.m x2 x10
 .nil))))))))))
 .ret))
def a223 : AF := .fn (ps16.take 11) b223 (.one x2)
def b224 : ACode := (.seq (.ops (.p x2 (.mv (.c (.b false)))
 .nil))
 (.seq (.ops (.m x3 x0
 (.p x4 (.bin .eql (.t x3) (.c (.p 16)))
 (.m x5 x4
 (.cons (.ye x5 false) (.ye x6) (.P (.mv (.t x0)))
 (.cons (.ye x5 false) (.ye x7) (.P (.bin .eql (.t x6) (.c (.p 17))))
 (.p x8 (.pick (.t x5) (.c (.b true)) (.t x7))
 (.m x2 x8
 .nil))))))))
 .ret))
def a224 : AF := .fn (ps16.take 9) b224 (.one x2)
def b225 : ACode := (.seq (.ops (.p x2 (.mv (.c (.b false)))
 .nil))
 (.seq (.ops (.m x4 x0
 (.s x5 137 [(.t x4), (.c (.p 1))]
 (.cons .no (.ye x3) (.W (.al (.cons (.p 0) (.cons (.s 0 0) (.cons (.p 0) (.cons (.p 0) .nil))))))
 (.cons .no .no (.W (.st (.t x3) 4 (.t x5)))
 .nil)))))
 (.seq (.draw (.h .no (.ye x6) (.P (.mv (.t x0)))
 (.c .no (.ye x7) (.S 133 [(.t x6), (.c (.p 3)), (.c (.s 1 45))]) .nil
 (.h .no (.ye x8) (.P (.mv (.t x7)))
 (.h (.ye x8 true) (.ye x9) (.P (.fa (.t x3) 0))
 (.h (.ye x8 true) (.ye x10) (.L (.l (.one (.t x9))))
 (.h (.ye x8 true) (.ye x11) (.P (.bin .eql (.t x10) (.c (.p 4))))
 (.h .no (.ye x12) (.P (.pick (.t x8) (.t x11) (.c (.b false))))
 (.h .no (.ye x13) (.P (.mv (.t x12)))
 (.h (.ye x13 true) (.ye x14) (.P (.fa (.t x3) 3))
 (.h (.ye x13 true) (.ye x15) (.L (.l (.one (.t x14))))
 (.h (.ye x13 true) (.ye x16) (.P (.mv (.t x0)))
 (.c (.ye x13 true) (.ye x17) (.S 137 [(.t x16), (.c (.p 0))]) (.cons (.ye x13 true) (.l (.one (.t x14))) x15 .nil)
 (.h (.ye x13 true) (.ye x18) (.P (.fd (.t x17) 3))
 (.h (.ye x13 true) (.ye x19) (.P (.bin .add (.t x18) (.c (.p 1))))
 (.h (.ye x13 true) (.ye x20) (.P (.bin .eql (.t x15) (.t x19)))
 (.h .no (.ye x21) (.P (.pick (.t x13) (.t x20) (.c (.b false))))
 (.h .no (.ye x2) (.P (.mv (.t x21)))
 .nil))))))))))))))))))
 .ret)))
def a225 : AF := .fn (ps16.take 22) b225 (.one x2)
def b226 : ACode := (.seq (.ops (.p x4 (.mv (.c (.p 0)))
 .nil))
 (.seq (.seq (.ops (.m x6 x0
 (.p x7 (.lnX (.t x6))
 (.p x8 (.mv (.c (.p 0)))
 .nil))))
 (.blk 0 (.loop (.seq (.ops (.p x9 (.bin .lss (.t x8) (.t x7))
 .nil))
 (.seq (.cond (.t x9) .skip
 (.exit 0))
 (.seq (.blk 1 (.seq (.ops (.m x10 x8
 (.m x5 x10
 .nil)))
 (.seq (.ops (.m x11 x1
 (.m x12 x0
 (.m x13 x5
 (.p x14 (.ia (.t x12) (.t x13) 6)
 (.cons .no (.ye x15) (.L (.l (.many (.t x14) 6)))
 (.cons .no (.ye x16) (.V (.t x11) [(.t x15)])
 .nil)))))))
 (.cond (.t x16) (.seq (.ops (.m x17 x5
 (.m x4 x17
 .nil)))
 .ret)
 .skip))))
 (.ops (.p x18 (.bin .add (.t x8) (.c (.p 1)))
 (.m x8 x18
 .nil)))))))))
 (.seq (.ops (.p x4 (.mv (.c (.n 0)))
 .nil))
 .ret)))
def a226 : AF := .fn (ps16.take 19) b226 (.one x4)
end
end Go.Ev
