/-
  The program's functions, as the evaluator runs them.
-/
import Derived.Test.YtodphkcmkjnfoaaGreatDoorXs
namespace Go.Ev
noncomputable section
set_option maxRecDepth 100000
def b6_0 : ACode := (.ops (.p x2 (.mv (.c (.b false)))
 .nil))
def b6_1 : ACode := (.ops (.s x10 8 []
 (.m x3 x10
 .nil)))
def b6_2 : ACode := (.ops (.m x11 x3
 (.p x12 (.eqv 2 false (.t x11) (.c .np))
 .nil)))
def b6_3 : ACode := (.ops (.p x2 (.mv (.c (.b false)))
 .nil))
def b6_4 : ACode := .ret
def b6_5 : ACode := .seq b6_3 b6_4
def b6_6 : ACode := .skip
def b6_7 : ACode := .cond (.t x12) b6_5 b6_6
def b6_8 : ACode := .seq b6_2 b6_7
def b6_9 : ACode := (.ops (.m x13 x0
 (.p x14 (.bin .lss (.t x13) (.c (.p 0)))
 .nil)))
def b6_10 : ACode := (.ops (.m x15 x0
 (.p x16 (.bin .add (.t x15) (.c (.p 1)))
 (.p x17 (.ng (.t x16))
 (.m x0 x17
 .nil)))))
def b6_11 : ACode := .skip
def b6_12 : ACode := .cond (.t x14) b6_10 b6_11
def b6_13 : ACode := .seq b6_9 b6_12
def b6_14 : ACode := (.ops (.m x18 x0
 (.p x19 (.bin .rem (.t x18) (.c (.p 10)))
 (.p x20 (.bin .add (.c (.p 1)) (.t x19))
 (.m x0 x20
 .nil)))))
def b6_15 : ACode := (.ops (.p x4 (.mv (.c .ns))
 .nil))
def b6_16 : ACode := (.ops (.p x5 (.mv (.c (.p 0)))
 .nil))
def b6_17 : ACode := (.ops (.m x21 x5
 (.m x22 x0
 (.p x23 (.bin .lss (.t x21) (.t x22))
 .nil))))
def b6_18 : ACode := .skip
def b6_19 : ACode := (.exit 0)
def b6_20 : ACode := .cond (.t x23) b6_18 b6_19
def b6_21 : ACode := .seq b6_17 b6_20
def b6_22 : ACode := (.ops (.m x27 x3
 (.cons .no (.ye x28) (.W (.bs (.cons (.p 0) (.cons (.p 0) .nil)) 2 [(0, 1, (.c (.p 3))), (1, 1, (.c (.p 0)))]))
 (.s x29 16 [(.t x27), (.t x28)]
 (.m x26 x29
 (.p x30 (.ex (.t x26) 0)
 (.p x31 (.ex (.t x26) 1)
 (.m x6 x30
 (.m x7 x31
 .nil)))))))))
def b6_23 : ACode := (.ops (.m x32 x7
 (.p x33 (.bin .neq (.t x32) (.c (.p 0)))
 .nil)))
def b6_24 : ACode := (.ops (.p x2 (.mv (.c (.b false)))
 .nil))
def b6_25 : ACode := .ret
def b6_26 : ACode := .seq b6_24 b6_25
def b6_27 : ACode := .skip
def b6_28 : ACode := .cond (.t x33) b6_26 b6_27
def b6_29 : ACode := .seq b6_23 b6_28
def b6_30 : ACode := (.ops (.m x34 x4
 (.m x35 x6
 (.cons .no (.ye x36) (.W (.bs (.cons (.p 0) .nil) 1 [(0, 1, (.t x35))]))
 (.cons .no (.ye x37) (.W (.app 1 8 (.t x34) (.t x36)))
 (.m x4 x37
 .nil))))))
def b6_31 : ACode := .seq b6_29 b6_30
def b6_32 : ACode := .seq b6_22 b6_31
def b6_33 : ACode := .blk 1 b6_32
def b6_34 : ACode := (.ops (.m x24 x5
 (.p x25 (.bin .add (.t x24) (.c (.p 1)))
 (.m x5 x25
 .nil))))
def b6_35 : ACode := .seq b6_33 b6_34
def b6_36 : ACode := .seq b6_21 b6_35
def b6_37 : ACode := .loop b6_36
def b6_38 : ACode := .blk 0 b6_37
def b6_39 : ACode := .seq b6_16 b6_38
def b6_40 : ACode := (.ops (.p x8 (.mv (.c (.p 0)))
 .nil))
def b6_41 : ACode := (.ops (.m x38 x8
 (.m x39 x0
 (.p x40 (.bin .lss (.t x38) (.t x39))
 .nil))))
def b6_42 : ACode := .skip
def b6_43 : ACode := (.exit 2)
def b6_44 : ACode := .cond (.t x40) b6_42 b6_43
def b6_45 : ACode := .seq b6_41 b6_44
def b6_46 : ACode := (.draw (.h .no (.ye x43) (.P (.mv (.t x3)))
 (.h .no (.ye x45) (.P (.mv (.t x4)))
 (.h .no (.ye x46) (.P (.mv (.t x8)))
 (.h .no (.ye x47) (.P (.ia (.t x45) (.t x46) 1))
 (.h .no (.ye x48) (.L (.l (.one (.t x47))))
 (.h .no (.ye x49) (.P (.mv (.t x4)))
 (.h .no (.ye x50) (.P (.mv (.t x8)))
 (.h .no (.ye x51) (.P (.bin .add (.t x50) (.c (.p 1))))
 (.h .no (.ye x52) (.P (.mv (.t x0)))
 (.h .no (.ye x53) (.P (.bin .rem (.t x51) (.t x52)))
 (.h .no (.ye x54) (.P (.ia (.t x49) (.t x53) 1))
 (.h .no (.ye x55) (.L (.l (.one (.t x54))))
 (.c .no (.ye x44) (.S 14 [(.t x43)]) (.cons .no (.l (.one (.t x47))) x48 (.cons .no (.l (.one (.t x54))) x55 .nil))
 (.c .no (.ye x56) (.S 17 [(.t x44), (.t x48), (.c (.p 1)), (.t x55)]) .nil
 .nil)))))))))))))))
def b6_47 : ACode := .blk 3 b6_46
def b6_48 : ACode := (.ops (.m x41 x8
 (.p x42 (.bin .add (.t x41) (.c (.p 1)))
 (.m x8 x42
 .nil))))
def b6_49 : ACode := .seq b6_47 b6_48
def b6_50 : ACode := .seq b6_45 b6_49
def b6_51 : ACode := .loop b6_50
def b6_52 : ACode := .blk 2 b6_51
def b6_53 : ACode := .seq b6_40 b6_52
def b6_54 : ACode := (.ops (.m x57 x3
 (.s x58 14 [(.t x57)]
 (.s x59 18 [(.t x58)]
 (.m x9 x59
 .nil)))))
def b6_55 : ACode := (.ops (.m x60 x3
 (.m x61 x4
 (.p x62 (.ia (.t x61) (.c (.p 0)) 1)
 (.l x63 (.t x62)
 (.s x64 10 [(.t x60), (.t x63)]
 (.p x65 (.bin .eql (.t x64) (.c (.s 16 54712066839822002053132450743913034024)))
 (.m x66 x65
 (.cons (.ye x66 true) (.ye x67) (.P (.mv (.t x3)))
 (.cons (.ye x66 true) (.ye x68) (.S 14 [(.t x67)])
 (.cons (.ye x66 true) (.ye x69) (.S 18 [(.t x68)])
 (.cons (.ye x66 true) (.ye x70) (.P (.mv (.t x9)))
 (.cons (.ye x66 true) (.ye x71) (.P (.bin .eql (.t x69) (.t x70)))
 (.p x72 (.pick (.t x66) (.t x71) (.c (.b false)))
 (.m x73 x72
 (.cons (.ye x73 true) (.ye x74) (.S 13 [])
 (.p x75 (.pick (.t x73) (.t x74) (.c (.b false)))
 (.m x2 x75
 .nil))))))))))))))))))
def b6_56 : ACode := .ret
def b6_57 : ACode := .seq b6_55 b6_56
def b6_58 : ACode := .seq b6_54 b6_57
def b6_59 : ACode := .seq b6_53 b6_58
def b6_60 : ACode := .seq b6_39 b6_59
def b6_61 : ACode := .seq b6_15 b6_60
def b6_62 : ACode := .seq b6_14 b6_61
def b6_63 : ACode := .seq b6_13 b6_62
def b6_64 : ACode := .seq b6_8 b6_63
def b6_65 : ACode := .seq b6_1 b6_64
def b6_66 : ACode := .seq b6_0 b6_65
def b6 : ACode := b6_66
def a6 : AF := .fn (ps16.take 76) b6 (.one x2)
def b8_0 : ACode := (.ops (.p x0 (.mv (.c .np))
 .nil))
def b8_1 : ACode := (.ops (.s x8 19 [(.c (.p 60000))]
 (.m x7 x8
 (.p x9 (.ex (.t x7) 0)
 (.p x10 (.ex (.t x7) 1)
 (.m x1 x9
 (.m x2 x10
 .nil)))))))
def b8_2 : ACode := (.ops (.m x11 x1
 (.p x12 (.eqv 2 false (.t x11) (.c .np))
 (.m x13 x12
 (.cons (.ye x13 false) (.ye x14) (.P (.mv (.t x2)))
 (.cons (.ye x13 false) (.ye x15) (.P (.bin .neq (.t x14) (.c (.p 0))))
 (.p x16 (.pick (.t x13) (.c (.b true)) (.t x15))
 .nil)))))))
def b8_3 : ACode := (.ops (.p x0 (.mv (.c .np))
 .nil))
def b8_4 : ACode := .ret
def b8_5 : ACode := .seq b8_3 b8_4
def b8_6 : ACode := .skip
def b8_7 : ACode := .cond (.t x16) b8_5 b8_6
def b8_8 : ACode := .seq b8_2 b8_7
def b8_9 : ACode := (.ops (.m x18 x1
 (.cons .no (.ye x19) (.W (.bs (.cons (.s 0 0) (.cons (.s 0 0) .nil)) 2 [(0, 1, (.c (.s 1 120))), (1, 1, (.c (.s 1 121)))]))
 (.s x20 20 [(.t x18), (.c (.s 5 500068609872)), (.c (.s 6 127970252055119)), (.t x19)]
 (.m x17 x20
 (.p x21 (.ex (.t x17) 0)
 (.p x22 (.ex (.t x17) 1)
 (.m x3 x21
 (.m x4 x22
 .nil)))))))))
def b8_10 : ACode := (.ops (.m x24 x1
 (.s x25 20 [(.t x24), (.c (.s 3 6776645)), (.c (.s 6 127970252055119)), (.c .ns)]
 (.m x23 x25
 (.p x26 (.ex (.t x23) 0)
 (.p x27 (.ex (.t x23) 1)
 (.m x5 x26
 (.m x6 x27
 .nil))))))))
def b8_11 : ACode := (.ops (.m x28 x4
 (.p x29 (.bin .neq (.t x28) (.c (.p 0)))
 (.m x30 x29
 (.cons (.ye x30 false) (.ye x31) (.P (.mv (.t x6)))
 (.cons (.ye x30 false) (.ye x32) (.P (.bin .neq (.t x31) (.c (.p 0))))
 (.p x33 (.pick (.t x30) (.c (.b true)) (.t x32))
 .nil)))))))
def b8_12 : ACode := (.ops (.p x0 (.mv (.c .np))
 .nil))
def b8_13 : ACode := .ret
def b8_14 : ACode := .seq b8_12 b8_13
def b8_15 : ACode := .skip
def b8_16 : ACode := .cond (.t x33) b8_14 b8_15
def b8_17 : ACode := .seq b8_11 b8_16
def b8_18 : ACode := (.ops (.m x34 x1
 (.m x0 x34
 .nil)))
def b8_19 : ACode := .ret
def b8_20 : ACode := .seq b8_18 b8_19
def b8_21 : ACode := .seq b8_17 b8_20
def b8_22 : ACode := .seq b8_10 b8_21
def b8_23 : ACode := .seq b8_9 b8_22
def b8_24 : ACode := .seq b8_8 b8_23
def b8_25 : ACode := .seq b8_1 b8_24
def b8_26 : ACode := .seq b8_0 b8_25
def b8 : ACode := b8_26
def a8 : AF := .fn (ps16.take 35) b8 (.one x0)
def b10 : ACode := (.seq (.ops (.p x4 (.mv (.c (.s 0 0)))
 .nil))
 (.seq (.ops (.m x6 x0
 (.m x7 x1
 (.s x8 21 [(.t x6), (.t x7), (.c (.p 0))]
 (.m x5 x8
 .nil)))))
 (.seq (.ops (.m x9 x5
 (.m x10 x5
 (.p x11 (.lnS (.t x10))
 (.p x12 (.mm false (.t x11) (.c (.p 1000)))
 (.p x13 (.sls (.t x9) none (some (.t x12)))
 (.m x4 x13
 .nil)))))))
 .ret)))
def a10 : AF := .fn (ps16.take 14) b10 (.one x4)
def b13_0 : ACode := (.ops (.p x0 (.mv (.c (.b false)))
 .nil))
def b13_1 : ACode := (.ops (.s x8 8 []
 (.m x1 x8
 .nil)))
def b13_2 : ACode := (.ops (.m x9 x1
 (.p x10 (.eqv 2 false (.t x9) (.c .np))
 .nil)))
def b13_3 : ACode := (.ops (.p x0 (.mv (.c (.b false)))
 .nil))
def b13_4 : ACode := .ret
def b13_5 : ACode := .seq b13_3 b13_4
def b13_6 : ACode := .skip
def b13_7 : ACode := .cond (.t x10) b13_5 b13_6
def b13_8 : ACode := .seq b13_2 b13_7
def b13_9 : ACode := (.ops (.m x12 x1
 (.s x13 23 [(.t x12), (.c (.s 4 1931965545))]
 (.m x11 x13
 (.p x14 (.ex (.t x11) 0)
 (.p x15 (.ex (.t x11) 1)
 (.m x2 x14
 (.m x3 x15
 .nil))))))))
def b13_10 : ACode := (.ops (.m x17 x1
 (.s x18 24 [(.t x17), (.c (.s 7 16453596392092769))]
 (.m x16 x18
 (.p x19 (.ex (.t x16) 0)
 (.p x20 (.ex (.t x16) 1)
 (.m x4 x19
 (.m x5 x20
 .nil))))))))
def b13_11 : ACode := (.ops (.m x22 x1
 (.s x23 14 [(.t x22)]
 (.m x24 x1
 (.s x25 26 [(.t x24), (.c (.s 5 500068609872))]
 (.s x26 25 [(.t x23), (.t x25), (.c (.p 0)), (.c (.p 2))]
 (.m x21 x26
 (.p x27 (.ex (.t x21) 0)
 (.p x28 (.ex (.t x21) 1)
 (.m x6 x27
 (.m x7 x28
 .nil)))))))))))
def b13_12 : ACode := (.ops (.m x29 x1
 (.s x30 10 [(.t x29), (.c (.n 8))]
 (.p x31 (.bin .eql (.t x30) (.c (.s 2 13613)))
 (.m x32 x31
 (.cons (.ye x32 true) (.ye x33) (.P (.mv (.t x1)))
 (.cons (.ye x32 true) (.ye x34) (.P (.mv (.t x2)))
 (.cons (.ye x32 true) (.ye x35) (.S 10 [(.t x33), (.t x34)])
 (.cons (.ye x32 true) (.ye x36) (.P (.bin .eql (.t x35) (.c (.s 7 11104136094574887))))
 (.p x37 (.pick (.t x32) (.t x36) (.c (.b false)))
 (.m x38 x37
 (.cons (.ye x38 true) (.ye x39) (.P (.mv (.t x1)))
 (.cons (.ye x38 true) (.ye x40) (.P (.mv (.t x4)))
 (.cons (.ye x38 true) (.ye x41) (.S 10 [(.t x39), (.t x40)])
 (.cons (.ye x38 true) (.ye x42) (.P (.bin .eql (.t x41) (.c (.s 8 4212120676375748899))))
 (.p x43 (.pick (.t x38) (.t x42) (.c (.b false)))
 (.m x44 x43
 (.cons (.ye x44 true) (.ye x45) (.P (.mv (.t x1)))
 (.cons (.ye x44 true) (.ye x46) (.P (.mv (.t x1)))
 (.cons (.ye x44 true) (.ye x47) (.S 27 [(.t x46), (.c (.p 6))])
 (.cons (.ye x44 true) (.ye x48) (.S 10 [(.t x45), (.t x47)])
 (.cons (.ye x44 true) (.ye x49) (.P (.bin .eql (.t x48) (.c (.s 7 32199642103180873))))
 (.p x50 (.pick (.t x44) (.t x49) (.c (.b false)))
 (.m x51 x50
 (.cons (.ye x51 true) (.ye x52) (.P (.mv (.t x1)))
 (.cons (.ye x51 true) (.ye x53) (.P (.mv (.t x6)))
 (.cons (.ye x51 true) (.ye x54) (.S 10 [(.t x52), (.t x53)])
 (.cons (.ye x51 true) (.ye x55) (.P (.bin .eql (.t x54) (.c (.s 7 32772496416579681))))
 (.p x56 (.pick (.t x51) (.t x55) (.c (.b false)))
 (.m x57 x56
 (.cons (.ye x57 true) (.ye x58) (.P (.mv (.t x1)))
 (.cons (.ye x57 true) (.ye x59) (.S 10 [(.t x58), (.c (.p 0))])
 (.cons (.ye x57 true) (.ye x60) (.P (.bin .eql (.t x59) (.c (.s 3 7104878))))
 (.p x61 (.pick (.t x57) (.t x60) (.c (.b false)))
 (.m x0 x61
 .nil)))))))))))))))))))))))))))))))))))
def b13_13 : ACode := .ret
def b13_14 : ACode := .seq b13_12 b13_13
def b13_15 : ACode := .seq b13_11 b13_14
def b13_16 : ACode := .seq b13_10 b13_15
def b13_17 : ACode := .seq b13_9 b13_16
def b13_18 : ACode := .seq b13_8 b13_17
def b13_19 : ACode := .seq b13_1 b13_18
def b13_20 : ACode := .seq b13_0 b13_19
def b13 : ACode := b13_20
def a13 : AF := .fn (ps16.take 62) b13 (.one x0)
def b14 : ACode := (.seq (.ops (.p x2 (.mv (.c .np))
 .nil))
 (.seq (.ops (.m x3 x0
 (.p x4 (.nck (.t x3))
 (.p x5 (.fa (.t x4) 0)
 (.l x6 (.t x5)
 (.m x2 x6
 .nil))))))
 .ret))
def a14 : AF := .fn (ps16.take 7) b14 (.one x2)
def b15 : ACode := (.seq (.ops (.p x4 (.mv (.c (.b false)))
 .nil))
 (.seq (.ops (.m x5 x1
 (.p x6 (.bin .eql (.t x5) (.c (.p 0)))
 (.m x7 x6
 (.cons (.ye x7 false) (.ye x8) (.P (.mv (.t x1)))
 (.cons (.ye x7 false) (.ye x9) (.P (.bin .eql (.t x8) (.c (.p 2))))
 (.p x10 (.pick (.t x7) (.c (.b true)) (.t x9))
 (.m x11 x10
 (.cons (.ye x11 false) (.ye x12) (.P (.mv (.t x1)))
 (.cons (.ye x11 false) (.ye x13) (.P (.bin .eql (.t x12) (.c (.p 4))))
 (.p x14 (.pick (.t x11) (.c (.b true)) (.t x13))
 (.m x15 x14
 (.cons (.ye x15 false) (.ye x16) (.P (.mv (.t x1)))
 (.cons (.ye x15 false) (.ye x17) (.S 29 [(.t x16)])
 (.p x18 (.pick (.t x15) (.c (.b true)) (.t x17))
 (.m x19 x18
 (.cons (.ye x19 false) (.ye x20) (.P (.mv (.t x0)))
 (.cons (.ye x19 false) (.ye x21) (.P (.mv (.t x1)))
 (.cons (.ye x19 false) (.ye x22) (.S 30 [(.t x20), (.t x21)])
 (.p x23 (.pick (.t x19) (.c (.b true)) (.t x22))
 (.m x4 x23
 .nil)))))))))))))))))))))
 .ret))
def a15 : AF := .fn (ps16.take 24) b15 (.one x4)
def b16 : ACode := (.seq (.ops (.cons .no (.ye x2) (.W (.bx (.t x0)))
 (.p x4 (.mv (.c (.p 0)))
 (.p x5 (.mv (.c (.p 0)))
 .nil))))
 (.seq (.seq (.ops (.m x6 x1
 (.p x7 (.lnX (.t x6))
 (.p x8 (.bin .gtr (.t x7) (.c (.p 250)))
 (.m x9 x8
 (.cons (.ye x9 false) (.ye x10) (.P (.mv (.t x1)))
 (.cons (.ye x9 false) (.ye x11) (.P (.mf 32 [] [(.t x2)]))
 (.cons (.ye x9 false) (.ye x12) (.S 31 [(.t x10), (.t x11)])
 (.p x13 (.pick (.t x9) (.c (.b true)) (.t x12))
 .nil)))))))))
 (.cond (.t x13) (.seq (.ops (.p x4 (.mv (.c (.p 0)))
 (.p x5 (.mv (.c (.p 1)))
 .nil)))
 .ret)
 .skip))
 (.seq (.draw (.h .no (.ye x14) (.L (.l (.one (.t x2))))
 (.h .no (.ye x15) (.L (.l (.one (.t x2))))
 (.h .no (.ye x17) (.P (.mv (.t x1)))
 (.c .no (.ye x16) (.S 27 [(.t x15), (.c (.p 9))]) (.cons .no (.l (.one (.t x2))) x14 .nil)
 (.c .no (.ye x18) (.S 33 [(.t x14), (.t x16), (.c (.p 0)), (.t x17)]) .nil
 (.h .no (.ye x19) (.P (.ex (.t x18) 0))
 (.h .no (.ye x20) (.P (.ex (.t x18) 1))
 (.h .no (.ye x4) (.P (.mv (.t x19)))
 (.h .no (.ye x5) (.P (.mv (.t x20)))
 .nil))))))))))
 .ret)))
def a16 : AF := .fn (ps16.take 21) b16 (.many [(.t x4), (.t x5)])
def b17 : ACode := (.seq (.ops (.p x8 (.mv (.c (.p 0)))
 .nil))
 (.seq (.ops (.m x12 x0
 (.m x13 x1
 (.m x14 x2
 (.s x15 34 [(.t x12), (.t x13), (.t x14)]
 (.m x11 x15
 (.p x16 (.ex (.t x11) 0)
 (.p x17 (.ex (.t x11) 1)
 (.m x9 x16
 (.m x10 x17
 .nil))))))))))
 (.seq (.seq (.ops (.m x18 x10
 (.p x19 (.bin .neq (.t x18) (.c (.p 0)))
 .nil)))
 (.cond (.t x19) (.seq (.ops (.m x20 x10
 (.m x8 x20
 .nil)))
 .ret)
 .skip))
 (.seq (.seq (.ops (.m x21 x0
 (.m x22 x1
 (.s x23 35 [(.t x21), (.t x22)]
 .nil))))
 (.blk 0 (.seq (.ops (.p x25 (.bin .eql (.t x23) (.c (.p 0)))
 (.m x24 x25
 .nil)))
 (.cond (.t x24) (.seq (.ops (.m x26 x0
 (.m x27 x3
 (.s x28 15 [(.t x26), (.t x27)]
 (.p x29 (.nt (.t x28))
 .nil)))))
 (.cond (.t x29) (.seq (.ops (.p x8 (.mv (.c (.p 6)))
 .nil))
 .ret)
 .skip))
 (.seq (.ops (.p x31 (.bin .eql (.t x23) (.c (.p 2)))
 (.m x30 x31
 .nil)))
 (.cond (.t x30) (.seq (.ops (.m x32 x3
 (.p x33 (.bin .lss (.t x32) (.c (.p 0)))
 (.m x34 x33
 (.cons (.ye x34 false) (.ye x35) (.P (.mv (.t x3)))
 (.cons (.ye x34 false) (.ye x36) (.P (.bin .gtr (.t x35) (.c (.p 255))))
 (.p x37 (.pick (.t x34) (.c (.b true)) (.t x36))
 .nil)))))))
 (.cond (.t x37) (.seq (.ops (.p x8 (.mv (.c (.p 6)))
 .nil))
 .ret)
 .skip))
 .skip))))))
 (.seq (.ops (.m x38 x0
 (.p x39 (.nck (.t x38))
 (.p x40 (.fa (.t x39) 0)
 (.l x41 (.t x40)
 (.m x42 x9
 (.m x43 x3
 (.p x44 (.ia (.t x41) (.t x42) 1)
 (.cons .no .no (.W (.st (.t x44) 1 (.t x43)))
 .nil)))))))))
 (.seq (.ops (.p x8 (.mv (.c (.p 0)))
 .nil))
 .ret))))))
def a17 : AF := .fn (ps16.take 45) b17 (.one x8)
def b18 : ACode := (.seq (.ops (.p x2 (.mv (.c (.p 0)))
 .nil))
 (.seq (.draw (.h .no (.ye x3) (.P (.mv (.t x0)))
 (.h .no (.ye x4) (.P (.nck (.t x3)))
 (.h .no (.ye x5) (.P (.fa (.t x4) 0))
 (.h .no (.ye x6) (.L (.l (.one (.t x5))))
 (.h .no (.ye x7) (.P (.lnX (.t x6)))
 (.h .no (.ye x8) (.P (.mv (.t x0)))
 (.h .no (.ye x9) (.P (.nck (.t x8)))
 (.h .no (.ye x10) (.P (.fa (.t x9) 1))
 (.h .no (.ye x11) (.L (.l (.one (.t x10))))
 (.h .no (.ye x12) (.P (.bin .sub (.t x7) (.t x11)))
 (.h .no (.ye x2) (.P (.mv (.t x12)))
 .nil))))))))))))
 .ret))
def a18 : AF := .fn (ps16.take 13) b18 (.one x2)
def b19_0 : ACode := (.ops (.p x2 (.mv (.c .np))
 (.p x3 (.mv (.c (.p 0)))
 .nil)))
def b19_1 : ACode := (.ops (.m x29 x0
 (.s x30 36 [(.t x29)]
 (.m x4 x30
 .nil))))
def b19_2 : ACode := (.ops (.m x32 x4
 (.p x33 (.eqv 2 false (.t x32) (.c .np))
 (.m x31 x33
 .nil))))
def b19_3 : ACode := (.ops (.p x2 (.mv (.c .np))
 (.p x3 (.mv (.c (.p 1)))
 .nil)))
def b19_4 : ACode := .ret
def b19_5 : ACode := .seq b19_3 b19_4
def b19_6 : ACode := (.ops (.m x35 x0
 (.p x36 (.bin .lss (.t x35) (.c (.p 16384)))
 (.m x34 x36
 .nil))))
def b19_7 : ACode := (.ops (.p x2 (.mv (.c .np))
 (.p x3 (.mv (.c (.p 4)))
 .nil)))
def b19_8 : ACode := .ret
def b19_9 : ACode := .seq b19_7 b19_8
def b19_10 : ACode := .skip
def b19_11 : ACode := .cond (.t x34) b19_9 b19_10
def b19_12 : ACode := .seq b19_6 b19_11
def b19_13 : ACode := .cond (.t x31) b19_5 b19_12
def b19_14 : ACode := .seq b19_2 b19_13
def b19_15 : ACode := .blk 0 b19_14
def b19_16 : ACode := (.ops (.m x37 x4
 (.cons .no (.ye x38) (.W (.ms (.p 0) 8 (.c (.p 18)) (.c (.p 18))))
 (.cons .no (.ye x39) (.W (.mkm true))
 (.cons .no (.ye x40) (.W (.mkm true))
 (.p x41 (.bd (.cons .np (.cons .ns (.cons .nm (.cons .nm .nil)))) [(0, 1, (.t x37)), (1, 1, (.t x38)), (2, 1, (.t x39)), (3, 1, (.t x40))])
 (.cons .no (.ye x42) (.W (.bx (.t x41)))
 (.m x5 x42
 .nil))))))))
def b19_17 : ACode := (.ops (.p x43 (.mv (.c (.p 0)))
 .nil))
def b19_18 : ACode := (.ops (.p x44 (.bin .lss (.t x43) (.c (.p 16)))
 .nil))
def b19_19 : ACode := .skip
def b19_20 : ACode := (.exit 1)
def b19_21 : ACode := .cond (.t x44) b19_19 b19_20
def b19_22 : ACode := (.ops (.m x45 x43
 (.m x6 x45
 .nil)))
def b19_23 : ACode := (.draw (.h .no (.ye x47) (.P (.mv (.t x5)))
 (.h .no (.ye x48) (.P (.nck (.t x47)))
 (.h .no (.ye x49) (.P (.fa (.t x48) 1))
 (.h .no (.ye x50) (.L (.l (.one (.t x49))))
 (.h .no (.ye x51) (.P (.mv (.t x6)))
 (.h .no (.ye x52) (.P (.bin .add (.c (.p 2)) (.t x51)))
 (.h .no (.ye x53) (.P (.mv (.t x4)))
 (.c .no (.ye x54) (.S 25 [(.t x53), (.c (.p 0)), (.c (.p 0)), (.c (.p 6))]) (.cons .no (.l (.one (.t x49))) x50 .nil)
 (.h .no (.ye x46) (.P (.mv (.t x54)))
 (.h .no (.ye x55) (.P (.ex (.t x46) 0))
 (.h .no (.ye x56) (.P (.ex (.t x46) 1))
 (.h .no (.ye x57) (.P (.ia (.t x50) (.t x52) 1))
 (.c .no .no (.W (.st (.t x57) 1 (.t x55))) .nil
 .nil))))))))))))))
def b19_24 : ACode := .seq b19_22 b19_23
def b19_25 : ACode := .blk 2 b19_24
def b19_26 : ACode := (.ops (.p x58 (.bin .add (.t x43) (.c (.p 1)))
 (.m x43 x58
 .nil)))
def b19_27 : ACode := .seq b19_25 b19_26
def b19_28 : ACode := .seq b19_21 b19_27
def b19_29 : ACode := .seq b19_18 b19_28
def b19_30 : ACode := .loop b19_29
def b19_31 : ACode := .blk 1 b19_30
def b19_32 : ACode := .seq b19_17 b19_31
def b19_33 : ACode := (.ops (.s x59 37 []
 (.p x60 (.lnX (.t x59))
 (.p x61 (.mv (.c (.p 0)))
 .nil))))
def b19_34 : ACode := (.ops (.p x62 (.bin .lss (.t x61) (.t x60))
 .nil))
def b19_35 : ACode := .skip
def b19_36 : ACode := (.exit 3)
def b19_37 : ACode := .cond (.t x62) b19_35 b19_36
def b19_38 : ACode := (.ops (.m x63 x61
 (.p x64 (.ia (.t x59) (.t x61) 3)
 (.cons .no (.ye x65) (.L (.l (.many (.t x64) 3)))
 (.cons .no (.ye x8) (.W (.al (.cons (.s 0 0) (.cons (.p 0) (.cons (.p 0) .nil)))))
 (.m x7 x63
 (.cons .no .no (.W (.st (.t x8) 3 (.t x65)))
 .nil)))))))
def b19_39 : ACode := (.ops (.m x66 x5
 (.m x67 x7
 (.s x68 27 [(.t x66), (.t x67)]
 (.m x9 x68
 .nil)))))
def b19_40 : ACode := (.ops (.m x69 x4
 (.m x70 x9
 (.m x71 x5
 (.s x72 27 [(.t x71), (.c (.p 1))]
 (.s x73 38 [(.t x69), (.t x70), (.t x72)]
 .nil))))))
def b19_41 : ACode := (.ops (.m x75 x5
 (.p x76 (.fa (.t x8) 0)
 (.l x77 (.t x76)
 (.s x78 24 [(.t x75), (.t x77)]
 (.m x74 x78
 (.p x79 (.ex (.t x74) 0)
 (.p x80 (.ex (.t x74) 1)
 (.m x10 x79
 (.m x11 x80
 .nil))))))))))
def b19_42 : ACode := (.ops (.p x12 (.mv (.c (.p 0)))
 (.p x13 (.mv (.c (.p 0)))
 (.p x14 (.mv (.c .ns))
 .nil))))
def b19_43 : ACode := (.ops (.p x81 (.fa (.t x8) 1)
 (.l x82 (.t x81)
 (.p x83 (.bin .geq (.t x82) (.c (.p 0)))
 .nil))))
def b19_44 : ACode := (.ops (.m x84 x5
 (.p x85 (.fa (.t x8) 1)
 (.l x86 (.t x85)
 (.s x87 27 [(.t x84), (.t x86)]
 (.m x12 x87
 .nil))))))
def b19_45 : ACode := .skip
def b19_46 : ACode := .cond (.t x83) b19_44 b19_45
def b19_47 : ACode := .seq b19_43 b19_46
def b19_48 : ACode := (.ops (.m x88 x7
 (.p x89 (.bin .eql (.t x88) (.c (.p 15)))
 .nil)))
def b19_49 : ACode := (.ops (.m x91 x5
 (.s x92 24 [(.t x91), (.c (.s 8 8245937412990854515))]
 (.m x90 x92
 (.p x93 (.ex (.t x90) 0)
 (.p x94 (.ex (.t x90) 1)
 (.m x15 x93
 (.m x16 x94
 .nil))))))))
def b19_50 : ACode := (.ops (.m x96 x5
 (.s x97 24 [(.t x96), (.c (.s 9 2129765323153231802977))]
 (.m x95 x97
 (.p x98 (.ex (.t x95) 0)
 (.p x99 (.ex (.t x95) 1)
 (.m x17 x98
 (.m x18 x99
 .nil))))))))
def b19_51 : ACode := (.ops (.m x100 x15
 (.m x101 x17
 (.cons .no (.ye x102) (.W (.bs (.cons (.p 0) (.cons (.p 0) .nil)) 2 [(0, 1, (.t x100)), (1, 1, (.t x101))]))
 (.m x14 x102
 (.p x13 (.mv (.c (.p 2)))
 .nil))))))
def b19_52 : ACode := .seq b19_50 b19_51
def b19_53 : ACode := .seq b19_49 b19_52
def b19_54 : ACode := .skip
def b19_55 : ACode := .cond (.t x89) b19_53 b19_54
def b19_56 : ACode := .seq b19_48 b19_55
def b19_57 : ACode := (.ops (.m x104 x5
 (.m x105 x14
 (.s x106 16 [(.t x104), (.t x105)]
 (.m x103 x106
 (.p x107 (.ex (.t x103) 0)
 (.p x108 (.ex (.t x103) 1)
 (.m x19 x107
 (.m x20 x108
 .nil)))))))))
def b19_58 : ACode := (.draw (.h .no (.ye x109) (.P (.mv (.t x10)))
 (.h .no (.ye x110) (.P (.mv (.t x12)))
 (.h .no (.ye x111) (.P (.mv (.t x13)))
 (.h .no (.ye x113) (.P (.mv (.t x19)))
 (.h .no (.ye x114) (.P (.fa (.t x8) 2))
 (.h .no (.ye x115) (.L (.l (.one (.t x114))))
 (.h .no (.ye x119) (.P (.mv (.c (.p 0))))
 (.c .no (.ye x112) (.S 39 [(.t x111)]) (.cons .no (.l (.one (.t x114))) x115 .nil)
 (.c .no (.ye x116) (.S 39 [(.t x115)]) .nil
 (.c .no (.ye x117) (.W (.bs (.cons (.p 0) (.cons (.p 0) (.cons (.p 0) (.cons (.p 0) (.cons (.p 0) (.cons (.p 0) .nil)))))) 6 [(0, 1, (.t x109)), (1, 1, (.t x110)), (2, 1, (.t x112)), (3, 1, (.t x113)), (4, 1, (.c (.p 0))), (5, 1, (.t x116))])) .nil
 (.h .no (.ye x118) (.P (.lnX (.t x117)))
 .nil))))))))))))
def b19_59 : ACode := (.ops (.p x120 (.bin .lss (.t x119) (.t x118))
 .nil))
def b19_60 : ACode := .skip
def b19_61 : ACode := (.exit 5)
def b19_62 : ACode := .cond (.t x120) b19_60 b19_61
def b19_63 : ACode := (.ops (.m x121 x119
 (.p x122 (.ia (.t x117) (.t x119) 1)
 (.l x123 (.t x122)
 (.m x21 x121
 (.m x22 x123
 .nil))))))
def b19_64 : ACode := (.ops (.m x124 x4
 (.m x125 x9
 (.m x126 x21
 (.m x127 x22
 (.s x128 17 [(.t x124), (.t x125), (.t x126), (.t x127)]
 .nil))))))
def b19_65 : ACode := .seq b19_63 b19_64
def b19_66 : ACode := .blk 6 b19_65
def b19_67 : ACode := (.ops (.p x129 (.bin .add (.t x119) (.c (.p 1)))
 (.m x119 x129
 .nil)))
def b19_68 : ACode := .seq b19_66 b19_67
def b19_69 : ACode := .seq b19_62 b19_68
def b19_70 : ACode := .seq b19_59 b19_69
def b19_71 : ACode := .loop b19_70
def b19_72 : ACode := .blk 5 b19_71
def b19_73 : ACode := .seq b19_58 b19_72
def b19_74 : ACode := (.draw (.h .no (.ye x131) (.P (.mv (.t x5)))
 (.h .no (.ye x132) (.P (.nck (.t x131)))
 (.h .no (.ye x133) (.P (.fa (.t x132) 1))
 (.h .no (.ye x134) (.L (.l (.one (.t x133))))
 (.h .no (.ye x135) (.P (.mv (.t x5)))
 (.h .no (.ye x136) (.P (.mv (.t x9)))
 (.h .no (.ye x137) (.P (.mv (.t x5)))
 (.h .no (.ye x138) (.P (.nck (.t x137)))
 (.h .no (.ye x139) (.P (.fa (.t x138) 1))
 (.h .no (.ye x140) (.L (.l (.one (.t x139))))
 (.h .no (.ye x141) (.P (.ia (.t x140) (.c (.p 1)) 1))
 (.h .no (.ye x142) (.L (.l (.one (.t x141))))
 (.c .no (.ye x143) (.S 40 [(.t x135), (.t x136), (.t x142)]) (.cons .no (.l (.one (.t x133))) x134 .nil)
 (.h .no (.ye x130) (.P (.mv (.t x143)))
 (.h .no (.ye x144) (.P (.ex (.t x130) 0))
 (.h .no (.ye x145) (.P (.ex (.t x130) 1))
 (.h .no (.ye x146) (.P (.ia (.t x134) (.c (.p 1)) 1))
 (.c .no .no (.W (.st (.t x146) 1 (.t x144))) .nil
 .nil)))))))))))))))))))
def b19_75 : ACode := (.draw (.h .no (.ye x147) (.P (.mv (.t x5)))
 (.h .no (.ye x148) (.P (.nck (.t x147)))
 (.h .no (.ye x149) (.P (.fa (.t x148) 3))
 (.h .no (.ye x150) (.L (.l (.one (.t x149))))
 (.h .no (.ye x151) (.P (.fa (.t x8) 0))
 (.h .no (.ye x152) (.L (.l (.one (.t x151))))
 (.h .no (.ye x153) (.P (.mv (.t x9)))
 (.c .no .no (.W (.mus (.t x150) (.t x152) (.t x153))) .nil
 .nil)))))))))
def b19_76 : ACode := .seq b19_74 b19_75
def b19_77 : ACode := .seq b19_73 b19_76
def b19_78 : ACode := .seq b19_57 b19_77
def b19_79 : ACode := .seq b19_56 b19_78
def b19_80 : ACode := .seq b19_47 b19_79
def b19_81 : ACode := .seq b19_42 b19_80
def b19_82 : ACode := .seq b19_41 b19_81
def b19_83 : ACode := .seq b19_40 b19_82
def b19_84 : ACode := .seq b19_39 b19_83
def b19_85 : ACode := .seq b19_38 b19_84
def b19_86 : ACode := .blk 4 b19_85
def b19_87 : ACode := (.ops (.p x154 (.bin .add (.t x61) (.c (.p 1)))
 (.m x61 x154
 .nil)))
def b19_88 : ACode := .seq b19_86 b19_87
def b19_89 : ACode := .seq b19_37 b19_88
def b19_90 : ACode := .seq b19_34 b19_89
def b19_91 : ACode := .loop b19_90
def b19_92 : ACode := .blk 3 b19_91
def b19_93 : ACode := .seq b19_33 b19_92
def b19_94 : ACode := (.ops (.s x155 41 []
 (.p x156 (.lnX (.t x155))
 (.p x157 (.mv (.c (.p 0)))
 .nil))))
def b19_95 : ACode := (.ops (.p x158 (.bin .lss (.t x157) (.t x156))
 .nil))
def b19_96 : ACode := .skip
def b19_97 : ACode := (.exit 7)
def b19_98 : ACode := .cond (.t x158) b19_96 b19_97
def b19_99 : ACode := (.ops (.p x159 (.ia (.t x155) (.t x157) 1)
 (.l x160 (.t x159)
 (.m x24 x160
 .nil))))
def b19_100 : ACode := (.draw (.h .no (.ye x162) (.P (.mv (.t x5)))
 (.h .no (.ye x163) (.P (.mv (.t x24)))
 (.h .no (.ye x164) (.P (.ia (.t x163) (.c (.p 0)) 1))
 (.h .no (.ye x165) (.L (.l (.one (.t x164))))
 (.h .no (.ye x166) (.P (.mv (.t x24)))
 (.h .no (.ye x167) (.P (.ia (.t x166) (.c (.p 1)) 1))
 (.h .no (.ye x168) (.L (.l (.one (.t x167))))
 (.c .no (.ye x169) (.S 42 [(.t x162), (.t x165), (.t x168)]) .nil
 (.h .no (.ye x161) (.P (.mv (.t x169)))
 (.h .no (.ye x170) (.P (.ex (.t x161) 0))
 (.h .no (.ye x171) (.P (.ex (.t x161) 1))
 (.h .no (.ye x172) (.P (.ex (.t x161) 2))
 (.h .no (.ye x173) (.P (.ex (.t x161) 3))
 (.h .no (.ye x25) (.P (.mv (.t x170)))
 (.h .no (.ye x26) (.P (.mv (.t x171)))
 (.h .no (.ye x27) (.P (.mv (.t x172)))
 (.h .no (.ye x28) (.P (.mv (.t x173)))
 .nil))))))))))))))))))
def b19_101 : ACode := (.ops (.m x174 x28
 (.p x175 (.bin .neq (.t x174) (.c (.p 0)))
 .nil)))
def b19_102 : ACode := (.ops (.m x176 x28
 (.p x2 (.mv (.c .np))
 (.m x3 x176
 .nil))))
def b19_103 : ACode := .ret
def b19_104 : ACode := .seq b19_102 b19_103
def b19_105 : ACode := .skip
def b19_106 : ACode := .cond (.t x175) b19_104 b19_105
def b19_107 : ACode := .seq b19_101 b19_106
def b19_108 : ACode := .seq b19_100 b19_107
def b19_109 : ACode := .seq b19_99 b19_108
def b19_110 : ACode := .blk 8 b19_109
def b19_111 : ACode := (.ops (.p x177 (.bin .add (.t x157) (.c (.p 1)))
 (.m x157 x177
 .nil)))
def b19_112 : ACode := .seq b19_110 b19_111
def b19_113 : ACode := .seq b19_98 b19_112
def b19_114 : ACode := .seq b19_95 b19_113
def b19_115 : ACode := .loop b19_114
def b19_116 : ACode := .blk 7 b19_115
def b19_117 : ACode := .seq b19_94 b19_116
def b19_118 : ACode := (.ops (.m x178 x5
 (.m x2 x178
 (.p x3 (.mv (.c (.p 0)))
 .nil))))
def b19_119 : ACode := .ret
def b19_120 : ACode := .seq b19_118 b19_119
def b19_121 : ACode := .seq b19_117 b19_120
def b19_122 : ACode := .seq b19_93 b19_121
def b19_123 : ACode := .seq b19_32 b19_122
def b19_124 : ACode := .seq b19_16 b19_123
def b19_125 : ACode := .seq b19_15 b19_124
def b19_126 : ACode := .seq b19_1 b19_125
def b19_127 : ACode := .seq b19_0 b19_126
def b19 : ACode := b19_127
def a19 : AF := .fn (ps16.take 179) b19 (.many [(.t x2), (.t x3)])
def b20 : ACode := (.seq (.ops (.p x8 (.mv (.c (.p 0)))
 (.p x9 (.mv (.c (.p 0)))
 .nil)))
 (.seq (.ops (.m x14 x0
 (.m x15 x2
 (.s x16 26 [(.t x14), (.t x15)]
 (.m x10 x16
 .nil)))))
 (.seq (.blk 0 (.seq (.ops (.m x18 x1
 (.s x19 43 [(.t x18), (.c (.w .u8 65)), (.c (.w .u8 90))]
 (.p x20 (.nt (.t x19))
 (.m x17 x20
 .nil)))))
 (.cond (.t x17) (.seq (.ops (.p x8 (.mv (.c (.p 0)))
 (.p x9 (.mv (.c (.p 15)))
 .nil)))
 .ret)
 (.seq (.ops (.m x22 x0
 (.m x23 x1
 (.s x24 26 [(.t x22), (.t x23)]
 (.p x25 (.bin .neq (.t x24) (.c (.p 0)))
 (.m x21 x25
 .nil))))))
 (.cond (.t x21) (.seq (.ops (.p x8 (.mv (.c (.p 0)))
 (.p x9 (.mv (.c (.p 16)))
 .nil)))
 .ret)
 (.seq (.ops (.m x27 x10
 (.p x28 (.bin .eql (.t x27) (.c (.p 0)))
 (.m x29 x28
 (.cons (.ye x29 false) (.ye x30) (.P (.mv (.t x0)))
 (.cons (.ye x29 false) (.ye x31) (.P (.mv (.t x10)))
 (.cons (.ye x29 false) (.ye x32) (.S 44 [(.t x30), (.t x31)])
 (.cons (.ye x29 false) (.ye x33) (.P (.bin .neq (.t x32) (.c (.p 0))))
 (.p x34 (.pick (.t x29) (.c (.b true)) (.t x33))
 (.m x26 x34
 .nil))))))))))
 (.cond (.t x26) (.seq (.ops (.p x8 (.mv (.c (.p 0)))
 (.p x9 (.mv (.c (.p 24)))
 .nil)))
 .ret)
 .skip)))))))
 (.seq (.ops (.m x35 x0
 (.m x36 x10
 (.s x37 45 [(.t x35), (.t x36)]
 (.m x11 x37
 .nil)))))
 (.seq (.seq (.ops (.m x38 x3
 (.p x39 (.lnX (.t x38))
 (.p x40 (.mv (.c (.p 0)))
 .nil))))
 (.blk 1 (.loop (.seq (.ops (.p x41 (.bin .lss (.t x40) (.t x39))
 .nil))
 (.seq (.cond (.t x41) .skip
 (.exit 1))
 (.seq (.blk 2 (.seq (.ops (.p x42 (.ia (.t x38) (.t x40) 1)
 (.l x43 (.t x42)
 (.m x13 x43
 .nil))))
 (.seq (.blk 3 (.seq (.ops (.m x45 x13
 (.s x46 43 [(.t x45), (.c (.w .u8 97)), (.c (.w .u8 122))]
 (.p x47 (.nt (.t x46))
 (.m x48 x47
 (.cons (.ye x48 false) (.ye x49) (.P (.mv (.t x13)))
 (.cons (.ye x48 false) (.ye x50) (.S 46 [(.t x49)])
 (.p x51 (.pick (.t x48) (.c (.b true)) (.t x50))
 (.m x44 x51
 .nil)))))))))
 (.cond (.t x44) (.seq (.ops (.p x8 (.mv (.c (.p 0)))
 (.p x9 (.mv (.c (.p 15)))
 .nil)))
 .ret)
 (.seq (.ops (.m x53 x11
 (.m x54 x13
 (.s x55 47 [(.t x53), (.t x54)]
 (.m x52 x55
 .nil)))))
 (.cond (.t x52) (.seq (.ops (.p x8 (.mv (.c (.p 0)))
 (.p x9 (.mv (.c (.p 16)))
 .nil)))
 .ret)
 (.seq (.ops (.m x57 x11
 (.p x58 (.lnX (.t x57))
 (.p x59 (.bin .eql (.t x58) (.c (.p 8)))
 (.m x56 x59
 .nil)))))
 (.cond (.t x56) (.seq (.ops (.p x8 (.mv (.c (.p 0)))
 (.p x9 (.mv (.c (.p 18)))
 .nil)))
 .ret)
 .skip)))))))
 (.ops (.m x60 x11
 (.m x61 x13
 (.cons .no (.ye x62) (.W (.bs (.cons (.s 0 0) .nil) 1 [(0, 1, (.t x61))]))
 (.cons .no (.ye x63) (.W (.app 1 16 (.t x60) (.t x62)))
 (.m x11 x63
 .nil)))))))))
 (.ops (.p x64 (.bin .add (.t x40) (.c (.p 1)))
 (.m x40 x64
 .nil)))))))))
 (.seq (.ops (.m x65 x0
 (.m x66 x1
 (.m x67 x10
 (.m x68 x3
 (.s x69 48 [(.t x65), (.t x66), (.t x67), (.t x68), (.c (.p 0))]
 (.p x70 (.ex (.t x69) 0)
 (.p x71 (.ex (.t x69) 1)
 (.m x8 x70
 (.m x9 x71
 .nil))))))))))
 .ret))))))
def a20 : AF := .fn (ps16.take 72) b20 (.many [(.t x8), (.t x9)])
def b21 : ACode := (.seq (.ops (.p x6 (.mv (.c (.s 0 0)))
 .nil))
 (.seq (.ops (.m x14 x0
 (.s x15 14 [(.t x14)]
 (.m x7 x15
 .nil))))
 (.seq (.seq (.ops (.m x16 x7
 (.m x17 x1
 (.s x18 15 [(.t x16), (.t x17)]
 (.p x19 (.nt (.t x18))
 .nil)))))
 (.cond (.t x19) (.seq (.ops (.p x6 (.mv (.c (.s 1 63)))
 .nil))
 .ret)
 .skip))
 (.seq (.seq (.ops (.m x21 x0
 (.m x22 x1
 (.s x23 49 [(.t x21), (.t x22)]
 (.m x20 x23
 (.p x24 (.ex (.t x20) 0)
 (.p x25 (.ex (.t x20) 1)
 (.m x8 x24
 (.m x9 x25
 .nil)))))))))
 (.seq (.ops (.m x26 x9
 .nil))
 (.cond (.t x26) (.seq (.ops (.m x27 x8
 (.s x28 50 [(.t x27)]
 (.m x6 x28
 .nil))))
 .ret)
 .skip)))
 (.seq (.seq (.ops (.m x29 x7
 (.m x30 x1
 (.s x31 30 [(.t x29), (.t x30)]
 (.p x32 (.nt (.t x31))
 .nil)))))
 (.cond (.t x32) (.seq (.ops (.m x33 x1
 (.s x34 51 [(.t x33)]
 (.m x6 x34
 .nil))))
 .ret)
 .skip))
 (.seq (.ops (.m x35 x0
 (.m x36 x1
 (.s x37 52 [(.t x35), (.t x36)]
 (.m x10 x37
 .nil)))))
 (.seq (.seq (.ops (.m x39 x0
 (.m x40 x1
 (.s x41 53 [(.t x39), (.t x40)]
 (.m x38 x41
 (.p x42 (.ex (.t x38) 0)
 (.p x43 (.ex (.t x38) 1)
 (.m x11 x42
 (.m x12 x43
 .nil)))))))))
 (.seq (.ops (.m x44 x12
 .nil))
 (.cond (.t x44) (.seq (.seq (.ops (.m x45 x10
 (.m x46 x0
 (.s x47 27 [(.t x46), (.c (.p 11))]
 (.p x48 (.bin .eql (.t x45) (.t x47))
 .nil)))))
 (.cond (.t x48) (.seq (.ops (.m x49 x11
 (.p x50 (.bin .add (.c (.s 1 35)) (.t x49))
 (.m x6 x50
 .nil))))
 .ret)
 .skip))
 (.seq (.ops (.m x51 x11
 (.s x52 54 [(.t x51), (.c (.s 1 39)), (.c (.s 2 10023))]
 (.p x53 (.bin .add (.c (.s 1 39)) (.t x52))
 (.p x54 (.bin .add (.t x53) (.c (.s 1 39)))
 (.m x6 x54
 .nil))))))
 .ret))
 .skip)))
 (.seq (.blk 0 (.seq (.ops (.m x56 x10
 (.m x57 x0
 (.s x58 27 [(.t x57), (.c (.p 9))]
 (.p x59 (.bin .eql (.t x56) (.t x58))
 (.m x55 x59
 .nil))))))
 (.cond (.t x55) (.seq (.ops (.m x60 x0
 (.m x61 x1
 (.m x62 x2
 (.s x63 55 [(.t x60), (.t x61), (.t x62)]
 (.m x6 x63
 .nil))))))
 .ret)
 (.seq (.ops (.m x65 x0
 (.m x66 x1
 (.s x67 44 [(.t x65), (.t x66)]
 (.p x68 (.bin .geq (.t x67) (.c (.p 0)))
 (.m x64 x68
 .nil))))))
 (.cond (.t x64) (.seq (.ops (.m x69 x0
 (.m x70 x1
 (.s x71 56 [(.t x69), (.t x70)]
 (.m x6 x71
 .nil)))))
 .ret)
 .skip)))))
 (.seq (.ops (.m x72 x0
 (.m x73 x10
 (.s x74 56 [(.t x72), (.t x73)]
 (.m x13 x74
 .nil)))))
 (.seq (.seq (.ops (.m x75 x13
 (.p x76 (.bin .neq (.t x75) (.c (.s 0 0)))
 (.m x77 x76
 (.cons (.ye x77 true) (.ye x78) (.P (.mv (.t x13)))
 (.cons (.ye x77 true) (.ye x79) (.P (.ixs (.t x78) (.c (.p 0))))
 (.cons (.ye x77 true) (.ye x80) (.S 57 [(.c (.s 5 366402422081)), (.t x79)])
 (.cons (.ye x77 true) (.ye x81) (.P (.bin .geq (.t x80) (.c (.p 0))))
 (.p x82 (.pick (.t x77) (.t x81) (.c (.b false)))
 .nil)))))))))
 (.cond (.t x82) (.seq (.ops (.m x83 x13
 (.p x84 (.bin .add (.c (.s 3 2125409)) (.t x83))
 (.m x6 x84
 .nil))))
 .ret)
 .skip))
 (.seq (.ops (.m x85 x13
 (.p x86 (.bin .add (.c (.s 2 8289)) (.t x85))
 (.m x6 x86
 .nil))))
 .ret)))))))))))
def a21 : AF := .fn (ps16.take 87) b21 (.one x6)
def b22 : ACode := (.seq (.ops (.p x4 (.mv (.c (.p 0)))
 (.p x5 (.mv (.c (.p 0)))
 .nil)))
 (.seq (.seq (.ops (.m x8 x1
 (.p x9 (.bin .lss (.t x8) (.c (.n 1152921504606846975)))
 (.m x10 x9
 (.cons (.ye x10 false) (.ye x11) (.P (.mv (.t x1)))
 (.cons (.ye x10 false) (.ye x12) (.P (.bin .gtr (.t x11) (.c (.p 1152921504606846976))))
 (.p x13 (.pick (.t x10) (.c (.b true)) (.t x12))
 .nil)))))))
 (.cond (.t x13) (.seq (.ops (.p x4 (.mv (.c (.p 0)))
 (.p x5 (.mv (.c (.p 2)))
 .nil)))
 .ret)
 .skip))
 (.seq (.seq (.ops (.m x15 x1
 (.s x16 58 [(.t x15)]
 (.m x14 x16
 (.p x17 (.ex (.t x14) 0)
 (.p x18 (.ex (.t x14) 1)
 (.m x6 x17
 (.m x7 x18
 .nil))))))))
 (.seq (.ops (.m x19 x7
 .nil))
 (.cond (.t x19) (.seq (.ops (.m x20 x6
 (.m x4 x20
 (.p x5 (.mv (.c (.p 0)))
 .nil))))
 .ret)
 .skip)))
 (.seq (.ops (.m x21 x0
 (.m x22 x0
 (.s x23 27 [(.t x22), (.c (.p 8))]
 (.m x24 x1
 (.cons .no (.ye x25) (.W (.bs (.cons (.p 0) .nil) 1 [(0, 1, (.t x24))]))
 (.s x26 33 [(.t x21), (.t x23), (.c (.p 1)), (.t x25)]
 (.p x27 (.ex (.t x26) 0)
 (.p x28 (.ex (.t x26) 1)
 (.m x4 x27
 (.m x5 x28
 .nil)))))))))))
 .ret))))
def a22 : AF := .fn (ps16.take 29) b22 (.many [(.t x4), (.t x5)])
def b23 : ACode := (.seq (.ops (.p x4 (.mv (.c (.p 0)))
 (.p x5 (.mv (.c (.p 0)))
 .nil)))
 (.seq (.seq (.ops (.m x6 x1
 (.p x7 (.lnS (.t x6))
 (.p x8 (.bin .gtr (.t x7) (.c (.p 250)))
 .nil))))
 (.cond (.t x8) (.seq (.ops (.p x4 (.mv (.c (.p 0)))
 (.p x5 (.mv (.c (.p 1)))
 .nil)))
 .ret)
 .skip))
 (.seq (.ops (.m x9 x0
 (.m x10 x0
 (.s x11 27 [(.t x10), (.c (.p 10))]
 (.m x12 x1
 (.s x13 59 [(.t x9), (.t x11), (.t x12)]
 (.p x14 (.ex (.t x13) 0)
 (.p x15 (.ex (.t x13) 1)
 (.m x4 x14
 (.m x5 x15
 .nil))))))))))
 .ret)))
def a23 : AF := .fn (ps16.take 16) b23 (.many [(.t x4), (.t x5)])
def b24 : ACode := (.seq (.ops (.p x4 (.mv (.c (.p 0)))
 (.p x5 (.mv (.c (.p 0)))
 .nil)))
 (.seq (.seq (.ops (.m x10 x1
 (.p x11 (.lnS (.t x10))
 (.p x12 (.bin .lss (.t x11) (.c (.p 1)))
 (.m x13 x12
 (.cons (.ye x13 false) (.ye x14) (.P (.mv (.t x1)))
 (.cons (.ye x13 false) (.ye x15) (.P (.lnS (.t x14)))
 (.cons (.ye x13 false) (.ye x16) (.P (.bin .gtr (.t x15) (.c (.p 60))))
 (.p x17 (.pick (.t x13) (.c (.b true)) (.t x16))
 .nil)))))))))
 (.cond (.t x17) (.seq (.ops (.p x4 (.mv (.c (.p 0)))
 (.p x5 (.mv (.c (.p 1)))
 .nil)))
 .ret)
 .skip))
 (.seq (.seq (.ops (.m x18 x0
 (.p x19 (.nck (.t x18))
 (.p x20 (.fa (.t x19) 2)
 (.l x21 (.t x20)
 (.m x22 x1
 (.cons .no (.ye x23) (.W (.lks (.p 0) (.t x21) (.t x22) false))
 (.m x6 x23
 .nil))))))))
 (.seq (.ops (.m x24 x6
 (.p x25 (.bin .neq (.t x24) (.c (.p 0)))
 .nil)))
 (.cond (.t x25) (.seq (.ops (.m x26 x6
 (.m x4 x26
 (.p x5 (.mv (.c (.p 0)))
 .nil))))
 .ret)
 .skip)))
 (.seq (.seq (.ops (.m x27 x0
 (.p x28 (.nck (.t x27))
 (.p x29 (.fa (.t x28) 0)
 (.l x30 (.t x29)
 (.s x31 18 [(.t x30)]
 (.m x32 x1
 (.p x33 (.lnS (.t x32))
 (.p x34 (.bin .add (.t x33) (.c (.p 8)))
 (.p x35 (.bin .lss (.t x31) (.t x34))
 .nil))))))))))
 (.cond (.t x35) (.seq (.ops (.p x4 (.mv (.c (.p 0)))
 (.p x5 (.mv (.c (.p 4)))
 .nil)))
 .ret)
 .skip))
 (.seq (.ops (.m x37 x0
 (.m x38 x0
 (.s x39 27 [(.t x38), (.c (.p 11))]
 (.m x40 x1
 (.s x41 59 [(.t x37), (.t x39), (.t x40)]
 (.m x36 x41
 (.p x42 (.ex (.t x36) 0)
 (.p x43 (.ex (.t x36) 1)
 (.m x7 x42
 (.m x8 x43
 .nil)))))))))))
 (.seq (.seq (.ops (.m x44 x8
 (.p x45 (.bin .neq (.t x44) (.c (.p 0)))
 .nil)))
 (.cond (.t x45) (.seq (.ops (.m x46 x8
 (.p x4 (.mv (.c (.p 0)))
 (.m x5 x46
 .nil))))
 .ret)
 .skip))
 (.seq (.ops (.m x48 x0
 (.m x49 x7
 (.m x50 x0
 (.p x51 (.nck (.t x50))
 (.p x52 (.fa (.t x51) 1)
 (.l x53 (.t x52)
 (.p x54 (.ia (.t x53) (.c (.p 0)) 1)
 (.l x55 (.t x54)
 (.s x56 40 [(.t x48), (.t x49), (.t x55)]
 (.m x47 x56
 (.p x57 (.ex (.t x47) 0)
 (.p x58 (.ex (.t x47) 1)
 (.m x9 x57
 (.m x8 x58
 .nil)))))))))))))))
 (.seq (.seq (.ops (.m x59 x8
 (.p x60 (.bin .neq (.t x59) (.c (.p 0)))
 .nil)))
 (.cond (.t x60) (.seq (.ops (.m x61 x8
 (.p x4 (.mv (.c (.p 0)))
 (.m x5 x61
 .nil))))
 .ret)
 .skip))
 (.seq (.draw (.h .no (.ye x62) (.P (.mv (.t x0)))
 (.h .no (.ye x63) (.P (.nck (.t x62)))
 (.h .no (.ye x64) (.P (.fa (.t x63) 1))
 (.h .no (.ye x65) (.L (.l (.one (.t x64))))
 (.h .no (.ye x66) (.P (.mv (.t x0)))
 (.h .no (.ye x67) (.P (.nck (.t x66)))
 (.h .no (.ye x68) (.P (.fa (.t x67) 2))
 (.h .no (.ye x69) (.L (.l (.one (.t x68))))
 (.h .no (.ye x70) (.P (.mv (.t x1)))
 (.h .no (.ye x71) (.P (.mv (.t x9)))
 (.h .no (.ye x72) (.P (.mv (.t x7)))
 (.h .no (.ye x73) (.P (.ia (.t x65) (.c (.p 0)) 1))
 (.c .no .no (.W (.st (.t x73) 1 (.t x71))) .nil
 (.c .no (.ye x74) (.W (.mes (.p 0) (.t x69) (.t x70))) .nil
 (.h .no (.ye x75) (.P (.ex (.t x74) 1))
 (.c .no .no (.W (.ess (.t x69) (.t x75) (.t x72))) .nil
 .nil)))))))))))))))))
 (.seq (.ops (.m x76 x7
 (.m x4 x76
 (.p x5 (.mv (.c (.p 0)))
 .nil))))
 .ret))))))))))
def a24 : AF := .fn (ps16.take 77) b24 (.many [(.t x4), (.t x5)])
def b25 : ACode := (.seq (.ops (.p x8 (.mv (.c (.p 0)))
 (.p x9 (.mv (.c (.p 0)))
 .nil)))
 (.seq (.blk 0 (.seq (.ops (.m x14 x0
 (.m x15 x1
 (.s x16 60 [(.t x14), (.t x15)]
 (.p x17 (.nt (.t x16))
 (.m x18 x17
 (.cons (.ye x18 false) (.ye x19) (.P (.mv (.t x2)))
 (.cons (.ye x18 false) (.ye x20) (.P (.bin .lss (.t x19) (.c (.p 0))))
 (.p x21 (.pick (.t x18) (.c (.b true)) (.t x20))
 (.m x22 x21
 (.cons (.ye x22 false) (.ye x23) (.P (.mv (.t x2)))
 (.cons (.ye x22 false) (.ye x24) (.P (.bin .gtr (.t x23) (.c (.p 2))))
 (.p x25 (.pick (.t x22) (.c (.b true)) (.t x24))
 (.m x26 x25
 (.cons (.ye x26 false) (.ye x27) (.P (.mv (.t x3)))
 (.cons (.ye x26 false) (.ye x28) (.P (.bin .lss (.t x27) (.c (.p 0))))
 (.p x29 (.pick (.t x26) (.c (.b true)) (.t x28))
 (.m x30 x29
 (.cons (.ye x30 false) (.ye x31) (.P (.mv (.t x3)))
 (.cons (.ye x30 false) (.ye x32) (.P (.bin .gtr (.t x31) (.c (.p 256))))
 (.p x33 (.pick (.t x30) (.c (.b true)) (.t x32))
 (.m x13 x33
 .nil))))))))))))))))))))))
 (.cond (.t x13) (.seq (.ops (.p x8 (.mv (.c (.p 0)))
 (.p x9 (.mv (.c (.p 1)))
 .nil)))
 .ret)
 (.seq (.ops (.m x35 x0
 (.s x36 18 [(.t x35)]
 (.m x37 x3
 (.p x38 (.bin .add (.t x37) (.c (.p 3)))
 (.p x39 (.bin .lss (.t x36) (.t x38))
 (.m x40 x39
 (.cons (.ye x40 false) (.ye x41) (.P (.mv (.t x0)))
 (.cons (.ye x40 false) (.ye x42) (.P (.nck (.t x41)))
 (.cons (.ye x40 false) (.ye x43) (.P (.fa (.t x42) 2))
 (.cons (.ye x40 false) (.ye x44) (.L (.l (.one (.t x43))))
 (.cons (.ye x40 false) (.ye x45) (.P (.bin .geq (.t x44) (.c (.p 1099511627776))))
 (.p x46 (.pick (.t x40) (.c (.b true)) (.t x45))
 (.m x34 x46
 .nil))))))))))))))
 (.cond (.t x34) (.seq (.ops (.p x8 (.mv (.c (.p 0)))
 (.p x9 (.mv (.c (.p 4)))
 .nil)))
 .ret)
 .skip)))))
 (.seq (.ops (.m x47 x0
 (.p x48 (.nck (.t x47))
 (.p x49 (.fa (.t x48) 1)
 (.l x50 (.t x49)
 (.m x10 x50
 .nil))))))
 (.seq (.ops (.m x51 x0
 (.p x52 (.nck (.t x51))
 (.p x53 (.fa (.t x52) 2)
 (.l x54 (.t x53)
 (.p x55 (.bin .add (.t x54) (.c (.p 1)))
 (.p x56 (.nck (.t x51))
 (.p x57 (.fa (.t x56) 2)
 (.cons .no .no (.W (.st (.t x57) 1 (.t x55)))
 .nil)))))))))
 (.seq (.draw (.h .no (.ye x58) (.P (.mv (.t x0)))
 (.h .no (.ye x59) (.P (.nck (.t x58)))
 (.h .no (.ye x60) (.P (.fa (.t x59) 0))
 (.h .no (.ye x61) (.L (.l (.one (.t x60))))
 (.h .no (.ye x62) (.P (.mv (.t x10)))
 (.h .no (.ye x63) (.P (.mv (.t x0)))
 (.h .no (.ye x64) (.P (.nck (.t x63)))
 (.h .no (.ye x65) (.P (.fa (.t x64) 0))
 (.h .no (.ye x66) (.L (.l (.one (.t x65))))
 (.h .no (.ye x67) (.P (.mv (.t x10)))
 (.h .no (.ye x68) (.P (.bin .add (.t x67) (.c (.p 1))))
 (.h .no (.ye x69) (.P (.mv (.t x0)))
 (.h .no (.ye x70) (.P (.nck (.t x69)))
 (.h .no (.ye x71) (.P (.fa (.t x70) 0))
 (.h .no (.ye x72) (.L (.l (.one (.t x71))))
 (.h .no (.ye x73) (.P (.mv (.t x10)))
 (.h .no (.ye x74) (.P (.bin .add (.t x73) (.c (.p 2))))
 (.h .no (.ye x75) (.P (.mv (.t x3)))
 (.h .no (.ye x76) (.P (.bin .shl (.t x75) (.c (.w .u64 2))))
 (.h .no (.ye x77) (.P (.mv (.t x2)))
 (.h .no (.ye x78) (.P (.bin .or (.t x76) (.t x77)))
 (.h .no (.ye x79) (.P (.mv (.t x1)))
 (.h .no (.ye x80) (.P (.mv (.t x0)))
 (.h .no (.ye x81) (.P (.nck (.t x80)))
 (.h .no (.ye x82) (.P (.fa (.t x81) 2))
 (.h .no (.ye x83) (.L (.l (.one (.t x82))))
 (.h .no (.ye x84) (.P (.ia (.t x61) (.t x62) 1))
 (.c .no .no (.W (.st (.t x84) 1 (.t x78))) .nil
 (.h .no (.ye x85) (.P (.ia (.t x66) (.t x68) 1))
 (.c .no .no (.W (.st (.t x85) 1 (.t x79))) .nil
 (.h .no (.ye x86) (.P (.ia (.t x72) (.t x74) 1))
 (.c .no .no (.W (.st (.t x86) 1 (.t x83))) .nil
 .nil)))))))))))))))))))))))))))))))))
 (.seq (.ops (.m x87 x0
 (.p x88 (.nck (.t x87))
 (.p x89 (.fa (.t x88) 0)
 (.l x90 (.t x89)
 (.m x91 x10
 (.p x92 (.bin .add (.t x91) (.c (.p 3)))
 (.m x93 x10
 (.p x94 (.bin .add (.t x93) (.c (.p 3)))
 (.m x95 x3
 (.p x96 (.bin .add (.t x94) (.t x95))
 (.p x97 (.slx (.t x90) (some (.t x92)) (some (.t x96)) none 1)
 (.cons .no .no (.W (.cls (.p 0) (.t x97)))
 .nil)))))))))))))
 (.seq (.ops (.m x98 x0
 (.p x99 (.nck (.t x98))
 (.p x100 (.fa (.t x99) 1)
 (.l x101 (.t x100)
 (.m x102 x3
 (.p x103 (.bin .add (.t x102) (.c (.p 3)))
 (.p x104 (.bin .add (.t x101) (.t x103))
 (.p x105 (.nck (.t x98))
 (.p x106 (.fa (.t x105) 1)
 (.cons .no .no (.W (.st (.t x106) 1 (.t x104)))
 .nil)))))))))))
 (.seq (.ops (.m x107 x0
 (.p x108 (.nck (.t x107))
 (.p x109 (.fa (.t x108) 3)
 (.l x110 (.t x109)
 (.m x111 x10
 (.cons .no .no (.W (.mui (.t x110) (.t x111) (.c (.b true))))
 .nil)))))))
 (.seq (.ops (.m x113 x10
 (.s x114 61 [(.t x113)]
 (.m x112 x114
 (.p x115 (.ex (.t x112) 0)
 (.p x116 (.ex (.t x112) 1)
 (.m x11 x115
 (.m x12 x116
 .nil))))))))
 (.seq (.ops (.m x117 x11
 (.m x8 x117
 (.p x9 (.mv (.c (.p 0)))
 .nil))))
 .ret))))))))))
def a25 : AF := .fn (ps16.take 118) b25 (.many [(.t x8), (.t x9)])
def b26 : ACode := (.seq (.ops (.p x4 (.mv (.c (.p 0)))
 .nil))
 (.seq (.ops (.m x5 x0
 (.p x6 (.nck (.t x5))
 (.p x7 (.fa (.t x6) 3)
 (.l x8 (.t x7)
 (.m x9 x1
 (.cons .no (.ye x10) (.W (.lks (.p 0) (.t x8) (.t x9) false))
 (.m x4 x10
 .nil))))))))
 .ret))
def a26 : AF := .fn (ps16.take 11) b26 (.one x4)
def b27 : ACode := (.seq (.ops (.p x4 (.mv (.c (.p 0)))
 .nil))
 (.seq (.seq (.ops (.m x5 x1
 (.p x6 (.bin .lss (.t x5) (.c (.p 0)))
 (.m x7 x6
 (.cons (.ye x7 false) (.ye x8) (.P (.mv (.t x1)))
 (.cons (.ye x7 false) (.ye x9) (.P (.bin .geq (.t x8) (.c (.p 16))))
 (.p x10 (.pick (.t x7) (.c (.b true)) (.t x9))
 .nil)))))))
 (.cond (.t x10) (.seq (.ops (.p x4 (.mv (.c (.p 0)))
 .nil))
 .ret)
 .skip))
 (.seq (.ops (.m x11 x0
 (.p x12 (.nck (.t x11))
 (.p x13 (.fa (.t x12) 1)
 (.l x14 (.t x13)
 (.m x15 x1
 (.p x16 (.bin .add (.c (.p 2)) (.t x15))
 (.p x17 (.ia (.t x14) (.t x16) 1)
 (.l x18 (.t x17)
 (.m x4 x18
 .nil))))))))))
 .ret)))
def a27 : AF := .fn (ps16.take 19) b27 (.one x4)
def b29 : ACode := (.seq (.ops (.p x2 (.mv (.c (.b false)))
 .nil))
 (.seq (.ops (.m x3 x0
 (.p x4 (.bin .and (.t x3) (.c (.p 1)))
 (.p x5 (.bin .eql (.t x4) (.c (.p 1)))
 (.m x6 x5
 (.cons (.ye x6 true) (.ye x7) (.P (.mv (.t x0)))
 (.cons (.ye x6 true) (.ye x8) (.P (.bin .shr (.t x7) (.c (.w .u64 1))))
 (.cons (.ye x6 true) (.ye x9) (.S 64 [(.t x8), (.c (.n 1073741823)), (.c (.p 1073741823))])
 (.p x10 (.pick (.t x6) (.t x9) (.c (.b false)))
 (.m x2 x10
 .nil))))))))))
 .ret))
def a29 : AF := .fn (ps16.take 11) b29 (.one x2)
def b30 : ACode := (.seq (.ops (.p x4 (.mv (.c (.b false)))
 .nil))
 (.seq (.draw (.h .no (.ye x5) (.P (.mv (.t x1)))
 (.c .no (.ye x6) (.S 65 [(.t x5)]) .nil
 (.h .no (.ye x7) (.P (.mv (.t x6)))
 (.h (.ye x7 true) (.ye x8) (.P (.mv (.t x0)))
 (.h (.ye x7 true) (.ye x9) (.P (.nck (.t x8)))
 (.h (.ye x7 true) (.ye x10) (.P (.fa (.t x9) 3))
 (.h (.ye x7 true) (.ye x11) (.L (.l (.one (.t x10))))
 (.h (.ye x7 true) (.ye x12) (.P (.mv (.t x1)))
 (.c (.ye x7 true) (.ye x13) (.S 66 [(.t x12)]) (.cons (.ye x7 true) (.l (.one (.t x10))) x11 .nil)
 (.c (.ye x7 true) (.ye x14) (.W (.lki (.b false) (.t x11) (.t x13) false)) .nil
 (.h .no (.ye x15) (.P (.pick (.t x7) (.t x14) (.c (.b false))))
 (.h .no (.ye x4) (.P (.mv (.t x15)))
 .nil)))))))))))))
 .ret))
def a30 : AF := .fn (ps16.take 16) b30 (.one x4)
def b31 : ACode := (.seq (.ops (.p x4 (.mv (.c (.b false)))
 .nil))
 (.seq (.ops (.m x5 x0
 (.m x6 x1
 (.s x7 67 [(.t x5), (.t x6)]
 (.p x8 (.bin .geq (.t x7) (.c (.p 0)))
 (.m x4 x8
 .nil))))))
 .ret))
def a31 : AF := .fn (ps16.take 9) b31 (.one x4)
def b32 : ACode := (.seq (.ops (.p x3 (.mv (.c (.b false)))
 .nil))
 (.seq (.ops (.l x4 (.t x1)
 (.p x5 (.nck (.t x4))
 (.p x6 (.fa (.t x5) 0)
 (.l x7 (.t x6)
 (.m x8 x0
 (.s x9 15 [(.t x7), (.t x8)]
 (.p x10 (.nt (.t x9))
 (.m x3 x10
 .nil)))))))))
 .ret))
def a32 : AF := .fn (ps16.take 11) b32 (.one x3)
def b33 : ACode := (.seq (.ops (.p x8 (.mv (.c (.p 0)))
 (.p x9 (.mv (.c (.p 0)))
 .nil)))
 (.seq (.ops (.m x15 x0
 (.p x16 (.nck (.t x15))
 (.p x17 (.fa (.t x16) 0)
 (.l x18 (.t x17)
 (.m x19 x1
 (.m x20 x2
 (.m x21 x3
 (.p x22 (.lnX (.t x21))
 (.s x23 25 [(.t x18), (.t x19), (.t x20), (.t x22)]
 (.m x14 x23
 (.p x24 (.ex (.t x14) 0)
 (.p x25 (.ex (.t x14) 1)
 (.m x10 x24
 (.m x11 x25
 .nil)))))))))))))))
 (.seq (.seq (.ops (.m x26 x11
 (.p x27 (.bin .neq (.t x26) (.c (.p 0)))
 .nil)))
 (.cond (.t x27) (.seq (.ops (.m x28 x11
 (.p x8 (.mv (.c (.p 0)))
 (.m x9 x28
 .nil))))
 .ret)
 .skip))
 (.seq (.seq (.ops (.m x29 x3
 (.p x30 (.lnX (.t x29))
 (.p x31 (.mv (.c (.p 0)))
 .nil))))
 (.blk 0 (.loop (.seq (.ops (.p x32 (.bin .lss (.t x31) (.t x30))
 .nil))
 (.seq (.cond (.t x32) .skip
 (.exit 0))
 (.seq (.blk 1 (.seq (.ops (.m x33 x31
 (.p x34 (.ia (.t x29) (.t x31) 1)
 (.l x35 (.t x34)
 (.m x12 x33
 (.m x13 x35
 .nil))))))
 (.ops (.m x36 x0
 (.p x37 (.nck (.t x36))
 (.p x38 (.fa (.t x37) 0)
 (.l x39 (.t x38)
 (.m x40 x10
 (.m x41 x12
 (.m x42 x13
 (.s x43 17 [(.t x39), (.t x40), (.t x41), (.t x42)]
 .nil)))))))))))
 (.ops (.p x44 (.bin .add (.t x31) (.c (.p 1)))
 (.m x31 x44
 .nil)))))))))
 (.seq (.ops (.m x45 x10
 (.m x8 x45
 (.p x9 (.mv (.c (.p 0)))
 .nil))))
 .ret)))))
def a33 : AF := .fn (ps16.take 46) b33 (.many [(.t x8), (.t x9)])
def b34 : ACode := (.seq (.ops (.p x6 (.mv (.c (.p 0)))
 (.p x7 (.mv (.c (.p 0)))
 .nil)))
 (.seq (.ops (.m x9 x0
 (.m x10 x1
 (.s x11 68 [(.t x9), (.t x10)]
 (.m x8 x11
 .nil)))))
 (.seq (.blk 0 (.seq (.ops (.m x13 x8
 (.p x14 (.bin .eql (.t x13) (.c (.p 0)))
 (.m x12 x14
 .nil))))
 (.cond (.t x12) (.seq (.ops (.p x6 (.mv (.c (.p 0)))
 (.p x7 (.mv (.c (.p 1)))
 .nil)))
 .ret)
 (.seq (.ops (.m x16 x2
 (.p x17 (.bin .lss (.t x16) (.c (.p 0)))
 (.m x18 x17
 (.cons (.ye x18 false) (.ye x19) (.P (.mv (.t x2)))
 (.cons (.ye x18 false) (.ye x20) (.P (.mv (.t x0)))
 (.cons (.ye x18 false) (.ye x21) (.P (.mv (.t x1)))
 (.cons (.ye x18 false) (.ye x22) (.S 69 [(.t x20), (.t x21)])
 (.cons (.ye x18 false) (.ye x23) (.P (.bin .geq (.t x19) (.t x22)))
 (.p x24 (.pick (.t x18) (.c (.b true)) (.t x23))
 (.m x15 x24
 .nil)))))))))))
 (.cond (.t x15) (.seq (.ops (.p x6 (.mv (.c (.p 0)))
 (.p x7 (.mv (.c (.p 5)))
 .nil)))
 .ret)
 .skip)))))
 (.seq (.ops (.m x25 x8
 (.p x26 (.bin .add (.t x25) (.c (.p 3)))
 (.m x27 x2
 (.p x28 (.bin .add (.t x26) (.t x27))
 (.m x6 x28
 (.p x7 (.mv (.c (.p 0)))
 .nil)))))))
 .ret))))
def a34 : AF := .fn (ps16.take 29) b34 (.many [(.t x6), (.t x7)])
def b35 : ACode := (.seq (.ops (.p x4 (.mv (.c (.p 0)))
 .nil))
 (.seq (.draw (.h .no (.ye x5) (.P (.mv (.t x0)))
 (.h .no (.ye x6) (.P (.nck (.t x5)))
 (.h .no (.ye x7) (.P (.fa (.t x6) 0))
 (.h .no (.ye x8) (.L (.l (.one (.t x7))))
 (.h .no (.ye x9) (.P (.mv (.t x0)))
 (.h .no (.ye x10) (.P (.mv (.t x1)))
 (.c .no (.ye x11) (.S 68 [(.t x9), (.t x10)]) (.cons .no (.l (.one (.t x7))) x8 .nil)
 (.h .no (.ye x12) (.P (.ia (.t x8) (.t x11) 1))
 (.h .no (.ye x13) (.L (.l (.one (.t x12))))
 (.h .no (.ye x14) (.P (.bin .and (.t x13) (.c (.p 3))))
 (.h .no (.ye x4) (.P (.mv (.t x14)))
 .nil))))))))))))
 .ret))
def a35 : AF := .fn (ps16.take 15) b35 (.one x4)
def b36 : ACode := (.seq (.ops (.p x2 (.mv (.c .np))
 .nil))
 (.seq (.seq (.ops (.m x3 x0
 (.p x4 (.bin .lss (.t x3) (.c (.p 16)))
 (.m x5 x4
 (.cons (.ye x5 false) (.ye x6) (.P (.mv (.t x0)))
 (.cons (.ye x5 false) (.ye x7) (.P (.bin .gtr (.t x6) (.c (.p 131072))))
 (.p x8 (.pick (.t x5) (.c (.b true)) (.t x7))
 .nil)))))))
 (.cond (.t x8) (.seq (.ops (.p x2 (.mv (.c .np))
 .nil))
 .ret)
 .skip))
 (.seq (.ops (.m x9 x0
 (.cons .no (.ye x10) (.W (.ms (.p 0) 8 (.t x9) (.t x9)))
 (.cons .no (.ye x11) (.W (.mkm false))
 (.p x12 (.bd (.cons .ns (.cons (.p 0) (.cons (.p 0) (.cons .nm .nil)))) [(0, 1, (.t x10)), (1, 1, (.c (.p 3))), (3, 1, (.t x11))])
 (.cons .no (.ye x13) (.W (.bx (.t x12)))
 (.m x2 x13
 .nil)))))))
 .ret)))
def a36 : AF := .fn (ps16.take 14) b36 (.one x2)
def b37 : ACode := (.seq (.ops (.p x0 (.mv (.c .ns))
 .nil))
 (.seq (.ops (.p x1 (.bd (.cons (.s 0 0) (.cons (.p 0) (.cons (.p 0) .nil))) [(0, 1, (.c (.s 6 127970252055119))), (1, 1, (.c (.n 0))), (2, 1, (.c (.p 0)))])
 (.p x2 (.bd (.cons (.s 0 0) (.cons (.p 0) (.cons (.p 0) .nil))) [(0, 1, (.c (.s 5 495857003587))), (1, 1, (.c (.p 0))), (2, 1, (.c (.p 3)))])
 (.p x3 (.bd (.cons (.s 0 0) (.cons (.p 0) (.cons (.p 0) .nil))) [(0, 1, (.c (.s 15 604322429109476151299865450658426453))), (1, 1, (.c (.p 0))), (2, 1, (.c (.p 3)))])
 (.p x4 (.bd (.cons (.s 0 0) (.cons (.p 0) (.cons (.p 0) .nil))) [(0, 1, (.c (.s 7 31069335677005634))), (1, 1, (.c (.p 0))), (2, 1, (.c (.p 3)))])
 (.p x5 (.bd (.cons (.s 0 0) (.cons (.p 0) (.cons (.p 0) .nil))) [(0, 1, (.c (.s 4 1702195796))), (1, 1, (.c (.p 3))), (2, 1, (.c (.p 3)))])
 (.p x6 (.bd (.cons (.s 0 0) (.cons (.p 0) (.cons (.p 0) .nil))) [(0, 1, (.c (.s 5 435728179526))), (1, 1, (.c (.p 3))), (2, 1, (.c (.p 3)))])
 (.p x7 (.bd (.cons (.s 0 0) (.cons (.p 0) (.cons (.p 0) .nil))) [(0, 1, (.c (.s 7 32199642103180873))), (1, 1, (.c (.p 0))), (2, 1, (.c (.p 3)))])
 (.p x8 (.bd (.cons (.s 0 0) (.cons (.p 0) (.cons (.p 0) .nil))) [(0, 1, (.c (.s 12 35403880902673026285253520723))), (1, 1, (.c (.p 6))), (2, 1, (.c (.p 3)))])
 (.p x9 (.bd (.cons (.s 0 0) (.cons (.p 0) (.cons (.p 0) .nil))) [(0, 1, (.c (.s 12 35403880902673026255105974604))), (1, 1, (.c (.p 6))), (2, 1, (.c (.p 3)))])
 (.p x10 (.bd (.cons (.s 0 0) (.cons (.p 0) (.cons (.p 0) .nil))) [(0, 1, (.c (.s 5 521325933121))), (1, 1, (.c (.p 0))), (2, 1, (.c (.p 1)))])
 (.p x11 (.bd (.cons (.s 0 0) (.cons (.p 0) (.cons (.p 0) .nil))) [(0, 1, (.c (.s 6 113723913172051))), (1, 1, (.c (.p 0))), (2, 1, (.c (.p 2)))])
 (.p x12 (.bd (.cons (.s 0 0) (.cons (.p 0) (.cons (.p 0) .nil))) [(0, 1, (.c (.s 6 119225648511315))), (1, 1, (.c (.p 10))), (2, 1, (.c (.p 2)))])
 (.p x13 (.bd (.cons (.s 0 0) (.cons (.p 0) (.cons (.p 0) .nil))) [(0, 1, (.c (.s 5 461229747266))), (1, 1, (.c (.p 0))), (2, 1, (.c (.p 3)))])
 (.p x14 (.bd (.cons (.s 0 0) (.cons (.p 0) (.cons (.p 0) .nil))) [(0, 1, (.c (.s 7 32783474438860611))), (1, 1, (.c (.p 0))), (2, 1, (.c (.p 3)))])
 (.p x15 (.bd (.cons (.s 0 0) (.cons (.p 0) (.cons (.p 0) .nil))) [(0, 1, (.c (.s 6 110429656606029))), (1, 1, (.c (.p 0))), (2, 1, (.c (.p 3)))])
 (.p x16 (.bd (.cons (.s 0 0) (.cons (.p 0) (.cons (.p 0) .nil))) [(0, 1, (.c (.s 7 28542640894207309))), (1, 1, (.c (.p 0))), (2, 1, (.c (.p 0)))])
 (.cons .no (.ye x17) (.W (.bs (.cons (.s 0 0) (.cons (.p 0) (.cons (.p 0) (.cons (.s 0 0) (.cons (.p 0) (.cons (.p 0) (.cons (.s 0 0) (.cons (.p 0) (.cons (.p 0) (.cons (.s 0 0) (.cons (.p 0) (.cons (.p 0) (.cons (.s 0 0) (.cons (.p 0) (.cons (.p 0) (.cons (.s 0 0) (.cons (.p 0) (.cons (.p 0) (.cons (.s 0 0) (.cons (.p 0) (.cons (.p 0) (.cons (.s 0 0) (.cons (.p 0) (.cons (.p 0) (.cons (.s 0 0) (.cons (.p 0) (.cons (.p 0) (.cons (.s 0 0) (.cons (.p 0) (.cons (.p 0) (.cons (.s 0 0) (.cons (.p 0) (.cons (.p 0) (.cons (.s 0 0) (.cons (.p 0) (.cons (.p 0) (.cons (.s 0 0) (.cons (.p 0) (.cons (.p 0) (.cons (.s 0 0) (.cons (.p 0) (.cons (.p 0) (.cons (.s 0 0) (.cons (.p 0) (.cons (.p 0) (.cons (.s 0 0) (.cons (.p 0) (.cons (.p 0) .nil)))))))))))))))))))))))))))))))))))))))))))))))) 16 [(0, 3, (.t x1)), (3, 3, (.t x2)), (6, 3, (.t x3)), (9, 3, (.t x4)), (12, 3, (.t x5)), (15, 3, (.t x6)), (18, 3, (.t x7)), (21, 3, (.t x8)), (24, 3, (.t x9)), (27, 3, (.t x10)), (30, 3, (.t x11)), (33, 3, (.t x12)), (36, 3, (.t x13)), (39, 3, (.t x14)), (42, 3, (.t x15)), (45, 3, (.t x16))]))
 (.m x0 x17
 .nil)))))))))))))))))))
 .ret))
def a37 : AF := .fn (ps16.take 18) b37 (.one x0)
def b38 : ACode := (.seq (.ops (.p x6 (.mv (.c (.p 0)))
 .nil))
 (.seq (.ops (.m x8 x0
 (.m x9 x1
 (.s x10 68 [(.t x8), (.t x9)]
 (.m x7 x10
 .nil)))))
 (.seq (.seq (.ops (.m x11 x7
 (.p x12 (.bin .eql (.t x11) (.c (.p 0)))
 (.m x13 x12
 (.cons (.ye x13 false) (.ye x14) (.P (.mv (.t x0)))
 (.cons (.ye x13 false) (.ye x15) (.P (.mv (.t x2)))
 (.cons (.ye x13 false) (.ye x16) (.S 60 [(.t x14), (.t x15)])
 (.cons (.ye x13 false) (.ye x17) (.P (.nt (.t x16)))
 (.p x18 (.pick (.t x13) (.c (.b true)) (.t x17))
 .nil)))))))))
 (.cond (.t x18) (.seq (.ops (.p x6 (.mv (.c (.p 1)))
 .nil))
 .ret)
 .skip))
 (.seq (.ops (.m x19 x0
 (.p x20 (.nck (.t x19))
 (.p x21 (.fa (.t x20) 0)
 (.l x22 (.t x21)
 (.m x23 x7
 (.p x24 (.bin .add (.t x23) (.c (.p 1)))
 (.m x25 x2
 (.p x26 (.ia (.t x22) (.t x24) 1)
 (.cons .no .no (.W (.st (.t x26) 1 (.t x25)))
 .nil))))))))))
 (.seq (.ops (.p x6 (.mv (.c (.p 0)))
 .nil))
 .ret)))))
def a38 : AF := .fn (ps16.take 27) b38 (.one x6)
def b39 : ACode := (.seq (.ops (.p x2 (.mv (.c (.p 0)))
 .nil))
 (.seq (.ops (.m x6 x0
 (.s x7 58 [(.t x6)]
 (.m x5 x7
 (.p x8 (.ex (.t x5) 0)
 (.p x9 (.ex (.t x5) 1)
 (.m x3 x8
 (.m x4 x9
 .nil))))))))
 (.seq (.ops (.m x10 x3
 (.m x2 x10
 .nil)))
 .ret)))
def a39 : AF := .fn (ps16.take 11) b39 (.one x2)
def b40 : ACode := (.seq (.ops (.p x6 (.mv (.c (.p 0)))
 (.p x7 (.mv (.c (.p 0)))
 .nil)))
 (.seq (.ops (.m x8 x0
 (.m x9 x0
 (.s x10 27 [(.t x9), (.c (.p 9))]
 (.m x11 x1
 (.m x12 x2
 (.cons .no (.ye x13) (.W (.bs (.cons (.p 0) (.cons (.p 0) .nil)) 2 [(0, 1, (.t x11)), (1, 1, (.t x12))]))
 (.s x14 33 [(.t x8), (.t x10), (.c (.p 0)), (.t x13)]
 (.p x15 (.ex (.t x14) 0)
 (.p x16 (.ex (.t x14) 1)
 (.m x6 x15
 (.m x7 x16
 .nil))))))))))))
 .ret))
def a40 : AF := .fn (ps16.take 17) b40 (.many [(.t x6), (.t x7)])
def b41 : ACode := (.seq (.ops (.p x0 (.mv (.c .ns))
 .nil))
 (.seq (.ops (.cons .no (.ye x1) (.W (.bs (.cons (.s 0 0) (.cons (.s 0 0) .nil)) 2 [(0, 1, (.c (.s 6 127970252055119))), (1, 1, (.c (.s 22 42800671780842534842919575577222457532481965906665533)))]))
 (.cons .no (.ye x2) (.W (.bs (.cons (.s 0 0) (.cons (.s 0 0) .nil)) 2 [(0, 1, (.c (.s 6 127970252055119))), (1, 1, (.c (.s 24 1524851443339534642608615239123691530347823101984504823101)))]))
 (.cons .no (.ye x3) (.W (.bs (.cons (.s 0 0) (.cons (.s 0 0) .nil)) 2 [(0, 1, (.c (.s 6 127970252055119))), (1, 1, (.c (.s 21 90893937606265471021071829546266104261390880566371)))]))
 (.cons .no (.ye x4) (.W (.bs (.cons (.s 0 0) (.cons (.s 0 0) .nil)) 2 [(0, 1, (.c (.s 6 127970252055119))), (1, 1, (.c (.s 18 9444002911631910921438295930413718583538537)))]))
 (.cons .no (.ye x5) (.W (.bs (.cons (.s 0 0) (.cons (.s 0 0) .nil)) 2 [(0, 1, (.c (.s 6 127970252055119))), (1, 1, (.c (.s 30 700188188687665034662976624680749391000193319402260426017253435490201454)))]))
 (.cons .no (.ye x6) (.W (.bs (.cons (.s 0 0) (.cons (.s 0 0) .nil)) 2 [(0, 1, (.c (.s 6 127970252055119))), (1, 1, (.c (.s 33 11747208482261712822188246608400825380681719188697311306787067122190426660945278)))]))
 (.cons .no (.ye x7) (.W (.bs (.cons (.s 0 0) (.cons (.s 0 0) .nil)) 2 [(0, 1, (.c (.s 6 127970252055119))), (1, 1, (.c (.s 14 2077393818580972268822559896989561)))]))
 (.cons .no (.ye x8) (.W (.bs (.cons (.s 0 0) (.cons (.s 0 0) .nil)) 2 [(0, 1, (.c (.s 6 127970252055119))), (1, 1, (.c (.s 28 6549193508153875349824152747731844186283632818426600789423236017769)))]))
 (.cons .no (.ye x9) (.W (.bs (.cons (.s 0 0) (.cons (.s 0 0) .nil)) 2 [(0, 1, (.c (.s 6 127970252055119))), (1, 1, (.c (.s 35 471948769861229784659140866682315950021428862228919738928412344145824665636227477097)))]))
 (.cons .no (.ye x10) (.W (.bs (.cons (.s 0 0) (.cons (.s 0 0) .nil)) 2 [(0, 1, (.c (.s 6 127970252055119))), (1, 1, (.c (.s 29 1676593949463531419856493642161647751026970710740912595151958179013986)))]))
 (.cons .no (.ye x11) (.W (.bs (.cons (.s 0 0) (.cons (.s 0 0) .nil)) 2 [(0, 1, (.c (.s 6 127970252055119))), (1, 1, (.c (.s 26 99938990332292436727205511567738324609188359191278653629687152)))]))
 (.cons .no (.ye x12) (.W (.bs (.cons (.s 0 0) (.cons (.s 0 0) .nil)) 2 [(0, 1, (.c (.s 6 127970252055119))), (1, 1, (.c (.s 34 1843664769733968995987415834814484987302776076755869312291547828150478960791283056)))]))
 (.cons .no (.ye x13) (.W (.bs (.cons (.s 0 0) (.cons (.s 0 0) .nil)) 2 [(0, 1, (.c (.s 6 127970252055119))), (1, 1, (.c (.s 20 355032665702991556114400178190226336605591791731)))]))
 (.cons .no (.ye x14) (.W (.bs (.cons (.s 0 0) (.cons (.s 0 0) .nil)) 2 [(0, 1, (.c (.s 6 127970252055119))), (1, 1, (.c (.s 24 1524949469177353700929144996672791476882570049926552777317)))]))
 (.cons .no (.ye x15) (.W (.bs (.cons (.s 0 0) (.cons (.s 0 0) .nil)) 2 [(0, 1, (.c (.s 6 127970252055119))), (1, 1, (.c (.s 36 120826532920384771132815397887090737024360882602617688512262403776013851112203796967268)))]))
 (.cons .no (.ye x16) (.W (.bs (.cons (.s 0 0) (.cons (.s 0 0) .nil)) 2 [(0, 1, (.c (.s 6 127970252055119))), (1, 1, (.c (.s 29 1676910297714676421718097934986994401661235487456433612244737399682413)))]))
 (.cons .no (.ye x17) (.W (.bs (.cons (.s 0 0) (.cons (.s 0 0) .nil)) 2 [(0, 1, (.c (.s 5 495857003587))), (1, 1, (.c (.s 19 1387105985848271442119498250881042066510931310)))]))
 (.cons .no (.ye x18) (.W (.bs (.cons (.s 0 0) (.cons (.s 0 0) .nil)) 2 [(0, 1, (.c (.s 5 495857003587))), (1, 1, (.c (.s 22 23273238241106724113988523651486149337949724059592046)))]))
 (.cons .no (.ye x19) (.W (.bs (.cons (.s 0 0) (.cons (.s 0 0) .nil)) 2 [(0, 1, (.c (.s 5 495857003587))), (1, 1, (.c (.s 20 355032404366133760833660238318527829007303270766)))]))
 (.cons .no (.ye x20) (.W (.bs (.cons (.s 0 0) (.cons (.s 0 0) .nil)) 2 [(0, 1, (.c (.s 5 495857003587))), (1, 1, (.c (.s 26 99939014852221090581427245301290759014136830980810939156166003)))]))
 (.cons .no (.ye x21) (.W (.bs (.cons (.s 0 0) (.cons (.s 0 0) .nil)) 2 [(0, 1, (.c (.s 4 1702195796))), (1, 1, (.c (.s 18 8838297978709764838081051192517781626316393)))]))
 (.cons .no (.ye x22) (.W (.bs (.cons (.s 0 0) (.cons (.s 0 0) .nil)) 2 [(0, 1, (.c (.s 4 1702195796))), (1, 1, (.c (.s 15 562906457958761314206075868605212265)))]))
 (.cons .no (.ye x23) (.W (.bs (.cons (.s 0 0) (.cons (.s 0 0) .nil)) 2 [(0, 1, (.c (.s 4 1702195796))), (1, 1, (.c (.s 29 2735320736744965744253891662377388900621288566778691145146692506248809)))]))
 (.cons .no (.ye x24) (.W (.bs (.cons (.s 0 0) (.cons (.s 0 0) .nil)) 2 [(0, 1, (.c (.s 4 1702195796))), (1, 1, (.c (.s 29 2735320736744965840034862966495445237366615301575912744211900763891305)))]))
 (.cons .no (.ye x25) (.W (.bs (.cons (.s 0 0) (.cons (.s 0 0) .nil)) 2 [(0, 1, (.c (.s 4 1702195796))), (1, 1, (.c (.s 15 526803611440048506145539950878420577)))]))
 (.cons .no (.ye x26) (.W (.bs (.cons (.s 0 0) (.cons (.s 0 0) .nil)) 2 [(0, 1, (.c (.s 4 1702195796))), (1, 1, (.c (.s 11 123822320615111110159921775)))]))
 (.cons .no (.ye x27) (.W (.bs (.cons (.s 0 0) (.cons (.s 0 0) .nil)) 2 [(0, 1, (.c (.s 4 1702195796))), (1, 1, (.c (.s 10 479088199974094059630446)))]))
 (.cons .no (.ye x28) (.W (.bs (.cons (.s 0 0) (.cons (.s 0 0) .nil)) 2 [(0, 1, (.c (.s 5 435728179526))), (1, 1, (.c (.s 14 2198853351401411383617492551493225)))]))
 (.cons .no (.ye x29) (.W (.bs (.cons (.s 0 0) (.cons (.s 0 0) .nil)) 2 [(0, 1, (.c (.s 5 435728179526))), (1, 1, (.c (.s 19 2262604282549699798548749105284549871759943273)))]))
 (.cons .no (.ye x30) (.W (.bs (.cons (.s 0 0) (.cons (.s 0 0) .nil)) 2 [(0, 1, (.c (.s 5 435728179526))), (1, 1, (.c (.s 29 2735320736744965840034862966495442548017977763673015121317887642723945)))]))
 (.cons .no (.ye x31) (.W (.bs (.cons (.s 0 0) (.cons (.s 0 0) .nil)) 2 [(0, 1, (.c (.s 5 435728179526))), (1, 1, (.c (.s 29 2735320736744965744253891662377391589969926104681588768040705627416169)))]))
 (.cons .no (.ye x32) (.W (.bs (.cons (.s 0 0) (.cons (.s 0 0) .nil)) 2 [(0, 1, (.c (.s 5 435728179526))), (1, 1, (.c (.s 12 31698514077468444200939056737)))]))
 (.cons .no (.ye x33) (.W (.bs (.cons (.s 0 0) (.cons (.s 0 0) .nil)) 2 [(0, 1, (.c (.s 5 435728179526))), (1, 1, (.c (.s 14 2057826607187689477131015433122415)))]))
 (.cons .no (.ye x34) (.W (.bs (.cons (.s 0 0) (.cons (.s 0 0) .nil)) 2 [(0, 1, (.c (.s 5 435728179526))), (1, 1, (.c (.s 9 1871584106042067545966)))]))
 (.cons .no (.ye x35) (.W (.bs (.cons (.s 0 0) (.cons (.s 0 0) .nil)) 2 [(0, 1, (.c (.s 7 32199642103180873))), (1, 1, (.c (.s 39 3728461360753916641151978914434029637405966266152243604092027806694305996905674229042650161195)))]))
 (.cons .no (.ye x36) (.W (.bs (.cons (.s 0 0) (.cons (.s 0 0) .nil)) 2 [(0, 1, (.c (.s 7 32199642103180873))), (1, 1, (.c (.s 39 3728461360753916641151978914434029637405966266152243604432310173615244460369048836474418372653)))]))
 (.cons .no (.ye x37) (.W (.bs (.cons (.s 0 0) (.cons (.s 0 0) .nil)) 2 [(0, 1, (.c (.s 7 32199642103180873))), (1, 1, (.c (.s 39 3728461360753916641151978914434029637405966266152243604772592540536182923832423443906186584106)))]))
 (.cons .no (.ye x38) (.W (.bs (.cons (.s 0 0) (.cons (.s 0 0) .nil)) 2 [(0, 1, (.c (.s 7 32199642103180873))), (1, 1, (.c (.s 40 954486108353002660134906602095111587175927364134974362908895976309023075147724301142516427665199)))]))
 (.cons .no (.ye x39) (.W (.bs (.cons (.s 0 0) (.cons (.s 0 0) .nil)) 2 [(0, 1, (.c (.s 7 32199642103180873))), (1, 1, (.c (.s 39 3728461360753916641151978914434029637405966266152243605453157274378059850759172658769723007013)))]))
 (.cons .no (.ye x40) (.W (.bs (.cons (.s 0 0) (.cons (.s 0 0) .nil)) 2 [(0, 1, (.c (.s 7 32199642103180873))), (1, 1, (.c (.s 39 3728461360753916641151978914434029637405966266152243605793439641298998314222547266201491218492)))]))
 (.cons .no (.ye x41) (.W (.bs (.cons (.s 0 0) (.cons (.s 0 0) .nil)) 2 [(0, 1, (.c (.s 7 32199642103180873))), (1, 1, (.c (.s 25 636817447855768026781345261959034954840382097793301447843901)))]))
 (.cons .no (.ye x42) (.W (.bs (.cons (.s 0 0) (.cons (.s 0 0) .nil)) 2 [(0, 1, (.c (.s 7 32199642103180873))), (1, 1, (.c (.s 13 8114819602690222704070390325310)))]))
 (.cons .no (.ye x43) (.W (.bs (.cons (.s 0 0) (.cons (.s 0 0) .nil)) 2 [(0, 1, (.c (.s 7 32199642103180873))), (1, 1, (.c (.s 20 664727905428120679721580571233937342577307041084)))]))
 (.cons .no (.ye x44) (.W (.bs (.cons (.s 0 0) (.cons (.s 0 0) .nil)) 2 [(0, 1, (.c (.s 7 32199642103180873))), (1, 1, (.c (.s 20 664727905428160673359361906182153715358732664126)))]))
 (.cons .no (.ye x45) (.W (.bs (.cons (.s 0 0) (.cons (.s 0 0) .nil)) 2 [(0, 1, (.c (.s 7 32199642103180873))), (1, 1, (.c (.s 17 34852884806489577565004967676562473706862)))]))
 (.cons .no (.ye x46) (.W (.bs (.cons (.s 0 0) (.cons (.s 0 0) .nil)) 2 [(0, 1, (.c (.s 7 32199642103180873))), (1, 1, (.c (.s 36 181430069409217182195701713504965677811884460677377361688647715603266453406017106698849)))]))
 (.cons .no (.ye x47) (.W (.bs (.cons (.s 0 0) (.cons (.s 0 0) .nil)) 2 [(0, 1, (.c (.s 7 32199642103180873))), (1, 1, (.c (.s 28 9839446124684800767833196150424227062577632944786243778072299463021)))]))
 (.cons .no (.ye x48) (.W (.bs (.cons (.s 0 0) (.cons (.s 0 0) .nil)) 2 [(0, 1, (.c (.s 7 32199642103180873))), (1, 1, (.c (.s 72 90035895797763402859175539633606400367191351888666396956868187338934546459767828520058466105696272512938645316090190710910364771953743427780902708953640385314947978798918004)))]))
 (.cons .no (.ye x49) (.W (.bs (.cons (.s 0 0) (.cons (.s 0 0) .nil)) 2 [(0, 1, (.c (.s 7 32199642103180873))), (1, 1, (.c (.s 73 23049189324227431131948938146203283213122730446293773559589302540486669658869354559072294897345959934513085078866302251906642463164561065230130911615382761091505210103164465012)))]))
 (.cons .no (.ye x50) (.W (.bs (.cons (.s 0 0) (.cons (.s 0 0) .nil)) 2 [(0, 1, (.c (.s 5 521325933121))), (1, 1, (.c (.s 41 257164431260246531721076062521463698342249100789554765802102844474792591055084750988505502881313889)))]))
 (.cons .no (.ye x51) (.W (.bs (.cons (.s 0 0) (.cons (.s 0 0) .nil)) 2 [(0, 1, (.c (.s 5 521325933121))), (1, 1, (.c (.s 48 18530650188745469012980449955629190211330332528606947157112933069548403649855511268469885991414635050337065521280097)))]))
 (.cons .no (.ye x52) (.W (.bs (.cons (.s 0 0) (.cons (.s 0 0) .nil)) 2 [(0, 1, (.c (.s 5 521325933121))), (1, 1, (.c (.s 20 355076831631958958559450016507274120664991820147)))]))
 (.cons .no (.ye x53) (.W (.bs (.cons (.s 0 0) (.cons (.s 0 0) .nil)) 2 [(0, 1, (.c (.s 5 521325933121))), (1, 1, (.c (.s 54 4036043586816077186872511182506860542926542750152279649757572950881276704656345450344218052510489408539083810875291242672607096676)))]))
 (.cons .no (.ye x54) (.W (.bs (.cons (.s 0 0) (.cons (.s 0 0) .nil)) 2 [(0, 1, (.c (.s 6 113723913172051))), (1, 1, (.c (.s 41 257164431260246531721076062521463698342249100789554765802102844474792591055084750988505502881313889)))]))
 (.cons .no (.ye x55) (.W (.bs (.cons (.s 0 0) (.cons (.s 0 0) .nil)) 2 [(0, 1, (.c (.s 6 113723913172051))), (1, 1, (.c (.s 48 18530650188745469012980449955629190211330332528606947157112933069548403649855511268469885991414635050337065521280097)))]))
 (.cons .no (.ye x56) (.W (.bs (.cons (.s 0 0) (.cons (.s 0 0) .nil)) 2 [(0, 1, (.c (.s 6 113723913172051))), (1, 1, (.c (.s 20 355076831631958958559450016507274120664991820147)))]))
 (.cons .no (.ye x57) (.W (.bs (.cons (.s 0 0) (.cons (.s 0 0) .nil)) 2 [(0, 1, (.c (.s 6 113723913172051))), (1, 1, (.c (.s 40 862999642271819323274589677259166448877377604105355769616899559536065642245306073140884946493484)))]))
 (.cons .no (.ye x58) (.W (.bs (.cons (.s 0 0) (.cons (.s 0 0) .nil)) 2 [(0, 1, (.c (.s 6 113723913172051))), (1, 1, (.c (.s 19 1387367322706066722859438122579549664497049661)))]))
 (.cons .no (.ye x59) (.W (.bs (.cons (.s 0 0) (.cons (.s 0 0) .nil)) 2 [(0, 1, (.c (.s 6 119225648511315))), (1, 1, (.c (.s 14 2335031358103477762221823046656061)))]))
 (.cons .no (.ye x60) (.W (.bs (.cons (.s 0 0) (.cons (.s 0 0) .nil)) 2 [(0, 1, (.c (.s 5 461229747266))), (1, 1, (.c (.s 45 1059181783303900344468639747475611050046460860396702168814056941520275704647580211996655782228759024501547382)))]))
 (.cons .no (.ye x61) (.W (.bs (.cons (.s 0 0) (.cons (.s 0 0) .nil)) 2 [(0, 1, (.c (.s 5 461229747266))), (1, 1, (.c (.s 48 17770121561754729721624774269583781318616283890421317973861897239966005180542710741390374532995175229972240315212150)))]))
 (.cons .no (.ye x62) (.W (.bs (.cons (.s 0 0) (.cons (.s 0 0) .nil)) 2 [(0, 1, (.c (.s 5 461229747266))), (1, 1, (.c (.s 57 83917026459749729905346113780999580401851251481325983724940425392109717634941873314895943706181505818759859341910064092027099936080028022)))]))
 (.cons .no (.ye x63) (.W (.bs (.cons (.s 0 0) (.cons (.s 0 0) .nil)) 2 [(0, 1, (.c (.s 5 461229747266))), (1, 1, (.c (.s 46 219345241612553992384353329403473560245181502819522070570100232604617438038129771708309681113319580259901335671)))]))
 (.cons .no (.ye x64) (.W (.bs (.cons (.s 0 0) (.cons (.s 0 0) .nil)) 2 [(0, 1, (.c (.s 5 461229747266))), (1, 1, (.c (.s 79 8240440436020647283674046635445878786317186896749519925159268232151510570756391522050794407918694747904852077730520087234812722099790108361805851821820886847732725447461627019377172009938533)))]))
 (.cons .no (.ye x65) (.W (.bs (.cons (.s 0 0) (.cons (.s 0 0) .nil)) 2 [(0, 1, (.c (.s 5 461229747266))), (1, 1, (.c (.s 75 1918627050710061747973988101737536658853467189419320482379947159376261640987311349049811379390057702489784622772389126942579661360599107424643361071952596291869027649572730573121129)))]))
 (.cons .no (.ye x66) (.W (.bs (.cons (.s 0 0) (.cons (.s 0 0) .nil)) 2 [(0, 1, (.c (.s 7 32783474438860611))), (1, 1, (.c (.s 22 23267426488502025445352854311018550993759068618646899)))]))
 (.cons .no (.ye x67) (.W (.bs (.cons (.s 0 0) (.cons (.s 0 0) .nil)) 2 [(0, 1, (.c (.s 7 32783474438860611))), (1, 1, (.c (.s 24 1524949843321772857640292056816108652250970511956513088882)))]))
 (.cons .no (.ye x68) (.W (.bs (.cons (.s 0 0) (.cons (.s 0 0) .nil)) 2 [(0, 1, (.c (.s 7 32783474438860611))), (1, 1, (.c (.s 24 1525045624293076975693939453505305546574949495676624201075)))]))
 (.cons .no (.ye x69) (.W (.bs (.cons (.s 0 0) (.cons (.s 0 0) .nil)) 2 [(0, 1, (.c (.s 7 32783474438860611))), (1, 1, (.c (.s 18 5418390732587785030274527465346432254370672)))]))
 (.cons .no (.ye x70) (.W (.bs (.cons (.s 0 0) (.cons (.s 0 0) .nil)) 2 [(0, 1, (.c (.s 7 32783474438860611))), (1, 1, (.c (.s 45 1104512821957198918639448282458137882431169302976545596175371368289403731783281012805088502247607777782228340)))]))
 (.cons .no (.ye x71) (.W (.bs (.cons (.s 0 0) (.cons (.s 0 0) .nil)) 2 [(0, 1, (.c (.s 7 32783474438860611))), (1, 1, (.c (.s 52 79588536534278016678932432046792023060627106863171829586998958506627988222934994168773852318616635652471162007907023631246708)))]))
 (.cons .no (.ye x72) (.W (.bs (.cons (.s 0 0) (.cons (.s 0 0) .nil)) 2 [(0, 1, (.c (.s 7 32783474438860611))), (1, 1, (.c (.s 47 72222917555112982345197386923452319624428483320221779467076662116638847644719087258035591941751669604514822120818)))]))
 (.cons .no (.ye x73) (.W (.bs (.cons (.s 0 0) (.cons (.s 0 0) .nil)) 2 [(0, 1, (.c (.s 7 32783474438860611))), (1, 1, (.c (.s 31 109904895017375824537504701023169942132773781220689752456609643130031858019)))]))
 (.cons .no (.ye x74) (.W (.bs (.cons (.s 0 0) (.cons (.s 0 0) .nil)) 2 [(0, 1, (.c (.s 7 28542640894207309))), (1, 1, (.c (.s 18 9968726645490903741326072654802368634578291)))]))
 (.cons .no (.ye x75) (.W (.bs (.cons (.s 0 0) (.cons (.s 0 0) .nil)) 2 [(0, 1, (.c (.s 7 28542640894207309))), (1, 1, (.c (.s 20 659130441953238098636483573648623813534755025505)))]))
 (.cons .no (.ye x76) (.W (.bs (.cons .ns (.cons .ns (.cons .ns (.cons .ns (.cons .ns (.cons .ns (.cons .ns (.cons .ns (.cons .ns (.cons .ns (.cons .ns (.cons .ns (.cons .ns (.cons .ns (.cons .ns (.cons .ns (.cons .ns (.cons .ns (.cons .ns (.cons .ns (.cons .ns (.cons .ns (.cons .ns (.cons .ns (.cons .ns (.cons .ns (.cons .ns (.cons .ns (.cons .ns (.cons .ns (.cons .ns (.cons .ns (.cons .ns (.cons .ns (.cons .ns (.cons .ns (.cons .ns (.cons .ns (.cons .ns (.cons .ns (.cons .ns (.cons .ns (.cons .ns (.cons .ns (.cons .ns (.cons .ns (.cons .ns (.cons .ns (.cons .ns (.cons .ns (.cons .ns (.cons .ns (.cons .ns (.cons .ns (.cons .ns (.cons .ns (.cons .ns (.cons .ns (.cons .ns (.cons .ns (.cons .ns (.cons .ns (.cons .ns (.cons .ns (.cons .ns (.cons .ns (.cons .ns (.cons .ns (.cons .ns (.cons .ns (.cons .ns (.cons .ns (.cons .ns (.cons .ns (.cons .ns .nil))))))))))))))))))))))))))))))))))))))))))))))))))))))))))))))))))))))))))) 75 [(0, 1, (.t x1)), (1, 1, (.t x2)), (2, 1, (.t x3)), (3, 1, (.t x4)), (4, 1, (.t x5)), (5, 1, (.t x6)), (6, 1, (.t x7)), (7, 1, (.t x8)), (8, 1, (.t x9)), (9, 1, (.t x10)), (10, 1, (.t x11)), (11, 1, (.t x12)), (12, 1, (.t x13)), (13, 1, (.t x14)), (14, 1, (.t x15)), (15, 1, (.t x16)), (16, 1, (.t x17)), (17, 1, (.t x18)), (18, 1, (.t x19)), (19, 1, (.t x20)), (20, 1, (.t x21)), (21, 1, (.t x22)), (22, 1, (.t x23)), (23, 1, (.t x24)), (24, 1, (.t x25)), (25, 1, (.t x26)), (26, 1, (.t x27)), (27, 1, (.t x28)), (28, 1, (.t x29)), (29, 1, (.t x30)), (30, 1, (.t x31)), (31, 1, (.t x32)), (32, 1, (.t x33)), (33, 1, (.t x34)), (34, 1, (.t x35)), (35, 1, (.t x36)), (36, 1, (.t x37)), (37, 1, (.t x38)), (38, 1, (.t x39)), (39, 1, (.t x40)), (40, 1, (.t x41)), (41, 1, (.t x42)), (42, 1, (.t x43)), (43, 1, (.t x44)), (44, 1, (.t x45)), (45, 1, (.t x46)), (46, 1, (.t x47)), (47, 1, (.t x48)), (48, 1, (.t x49)), (49, 1, (.t x50)), (50, 1, (.t x51)), (51, 1, (.t x52)), (52, 1, (.t x53)), (53, 1, (.t x54)), (54, 1, (.t x55)), (55, 1, (.t x56)), (56, 1, (.t x57)), (57, 1, (.t x58)), (58, 1, (.t x59)), (59, 1, (.t x60)), (60, 1, (.t x61)), (61, 1, (.t x62)), (62, 1, (.t x63)), (63, 1, (.t x64)), (64, 1, (.t x65)), (65, 1, (.t x66)), (66, 1, (.t x67)), (67, 1, (.t x68)), (68, 1, (.t x69)), (69, 1, (.t x70)), (70, 1, (.t x71)), (71, 1, (.t x72)), (72, 1, (.t x73)), (73, 1, (.t x74)), (74, 1, (.t x75))]))
 (.m x0 x76
 .nil))))))))))))))))))))))))))))))))))))))))))))))))))))))))))))))))))))))))))))))
 .ret))
def a41 : AF := .fn (ps16.take 77) b41 (.one x0)
def b42 : ACode := (.seq (.ops (.p x6 (.mv (.c (.p 0)))
 (.p x7 (.mv (.c (.p 0)))
 (.p x8 (.mv (.c (.s 0 0)))
 (.p x9 (.mv (.c (.p 0)))
 .nil)))))
 (.seq (.ops (.m x17 x0
 (.m x18 x1
 (.s x19 26 [(.t x17), (.t x18)]
 (.m x10 x19
 .nil)))))
 (.seq (.seq (.ops (.m x20 x10
 (.p x21 (.bin .eql (.t x20) (.c (.p 0)))
 .nil)))
 (.cond (.t x21) (.seq (.ops (.p x6 (.mv (.c (.p 0)))
 (.p x7 (.mv (.c (.p 0)))
 (.p x8 (.mv (.c (.s 0 0)))
 (.p x9 (.mv (.c (.p 24)))
 .nil)))))
 .ret)
 .skip))
 (.seq (.ops (.m x23 x2
 (.s x24 70 [(.t x23)]
 (.m x22 x24
 (.p x25 (.ex (.t x22) 0)
 (.p x26 (.ex (.t x22) 1)
 (.p x27 (.ex (.t x22) 2)
 (.cons .no (.ye x11) (.W (.al (.cons (.p 0) (.cons (.s 0 0) (.cons (.p 0) (.cons .ns (.cons .ns (.cons .ns .nil))))))))
 (.cons .no .no (.W (.st (.t x11) 6 (.t x25)))
 (.m x12 x26
 (.m x13 x27
 .nil)))))))))))
 (.seq (.seq (.ops (.m x28 x13
 (.p x29 (.bin .neq (.t x28) (.c (.p 0)))
 .nil)))
 (.cond (.t x29) (.seq (.ops (.m x30 x12
 (.m x31 x13
 (.p x6 (.mv (.c (.p 0)))
 (.m x7 x30
 (.p x8 (.mv (.c (.s 0 0)))
 (.m x9 x31
 .nil)))))))
 .ret)
 .skip))
 (.seq (.draw (.h .no (.ye x33) (.L (.l (.many (.t x11) 6)))
 (.h .no (.ye x34) (.P (.mv (.t x0)))
 (.h .no (.ye x35) (.P (.mv (.t x10)))
 (.c .no (.ye x36) (.S 45 [(.t x34), (.t x35)]) (.cons .no (.l (.many (.t x11) 6)) x33 .nil)
 (.c .no (.ye x37) (.S 71 [(.t x33), (.t x36)]) (.cons .no (.l (.many (.t x11) 6)) x33 .nil)
 (.h .no (.ye x32) (.P (.mv (.t x37)))
 (.h .no (.ye x38) (.P (.ex (.t x32) 0))
 (.h .no (.ye x39) (.P (.ex (.t x32) 1))
 (.h .no (.ye x40) (.P (.ex (.t x32) 2))
 (.z (.ye x14) (.al (.cons (.s 0 0) (.cons (.p 0) (.cons (.p 0) (.cons (.p 0) (.cons .ns (.cons .ns .nil))))))) (.cons .no (.l (.many (.t x11) 6)) x33 .nil)
 (.c .no .no (.W (.st (.t x14) 6 (.t x38))) .nil
 (.h .no (.ye x15) (.P (.mv (.t x39)))
 (.h .no (.ye x13) (.P (.mv (.t x40)))
 .nil))))))))))))))
 (.seq (.seq (.ops (.m x41 x13
 (.p x42 (.bin .neq (.t x41) (.c (.p 0)))
 .nil)))
 (.cond (.t x42) (.seq (.ops (.m x43 x15
 (.m x44 x13
 (.p x6 (.mv (.c (.p 0)))
 (.p x7 (.mv (.c (.p 0)))
 (.m x8 x43
 (.m x9 x44
 .nil)))))))
 .ret)
 .skip))
 (.seq (.ops (.m x46 x0
 (.m x47 x10
 (.cons .no (.ye x48) (.L (.l (.many (.t x14) 6)))
 (.s x49 72 [(.t x46), (.t x47), (.t x48)]
 (.m x45 x49
 (.p x50 (.ex (.t x45) 0)
 (.p x51 (.ex (.t x45) 1)
 (.m x16 x50
 (.m x13 x51
 .nil))))))))))
 (.seq (.seq (.ops (.m x52 x13
 (.p x53 (.bin .neq (.t x52) (.c (.p 0)))
 .nil)))
 (.cond (.t x53) (.seq (.ops (.m x54 x13
 (.p x6 (.mv (.c (.p 0)))
 (.p x7 (.mv (.c (.p 0)))
 (.p x8 (.mv (.c (.s 0 0)))
 (.m x9 x54
 .nil))))))
 .ret)
 .skip))
 (.seq (.ops (.m x55 x16
 (.m x6 x55
 (.p x7 (.mv (.c (.p 0)))
 (.p x8 (.mv (.c (.s 0 0)))
 (.p x9 (.mv (.c (.p 0)))
 .nil))))))
 .ret))))))))))
def a42 : AF := .fn (ps16.take 56) b42 (.many [(.t x6), (.t x7), (.t x8), (.t x9)])
def b43 : ACode := (.seq (.ops (.p x6 (.mv (.c (.b false)))
 .nil))
 (.seq (.seq (.ops (.m x10 x0
 (.cons .no (.ye x11) (.W (.rg (.t x10)))
 .nil)))
 (.blk 0 (.loop (.seq (.ops (.cons .no (.ye x12) (.W (.nxs (.t x11)))
 (.p x13 (.ex (.t x12) 0)
 .nil)))
 (.seq (.cond (.t x13) .skip
 (.exit 0))
 (.blk 1 (.seq (.ops (.p x14 (.ex (.t x12) 2)
 (.m x8 x14
 .nil)))
 (.seq (.ops (.m x15 x8
 (.p x16 (.bin .geq (.t x15) (.c (.w .i32 97)))
 (.m x17 x16
 (.cons (.ye x17 true) (.ye x18) (.P (.mv (.t x8)))
 (.cons (.ye x17 true) (.ye x19) (.P (.bin .leq (.t x18) (.c (.w .i32 122))))
 (.p x20 (.pick (.t x17) (.t x19) (.c (.b false)))
 (.m x21 x20
 (.cons (.ye x21 false) (.ye x22) (.P (.mv (.t x8)))
 (.cons (.ye x21 false) (.ye x23) (.P (.bin .geq (.t x22) (.c (.w .i32 65))))
 (.cons (.ye x21 false) (.ye x24) (.P (.mv (.t x23)))
 (.cons (.ye x24 true) (.ye x25) (.P (.mv (.t x8)))
 (.cons (.ye x24 true) (.ye x26) (.P (.bin .leq (.t x25) (.c (.w .i32 90))))
 (.cons (.ye x21 false) (.ye x27) (.P (.pick (.t x24) (.t x26) (.c (.b false))))
 (.p x28 (.pick (.t x21) (.c (.b true)) (.t x27))
 (.m x9 x28
 .nil))))))))))))))))
 (.seq (.ops (.m x29 x9
 (.p x30 (.nt (.t x29))
 (.m x31 x30
 (.cons (.ye x31 true) (.ye x32) (.P (.mv (.t x8)))
 (.cons (.ye x31 true) (.ye x33) (.P (.bin .lss (.t x32) (.c (.w .i32 48))))
 (.cons (.ye x31 true) (.ye x34) (.P (.mv (.t x33)))
 (.cons (.ye x34 false) (.ye x35) (.P (.mv (.t x8)))
 (.cons (.ye x34 false) (.ye x36) (.P (.bin .gtr (.t x35) (.c (.w .i32 57))))
 (.cons (.ye x31 true) (.ye x37) (.P (.pick (.t x34) (.c (.b true)) (.t x36)))
 (.p x38 (.pick (.t x31) (.t x37) (.c (.b false)))
 .nil)))))))))))
 (.cond (.t x38) (.seq (.ops (.p x6 (.mv (.c (.b false)))
 .nil))
 .ret)
 .skip))))))))))
 (.seq (.ops (.m x39 x0
 (.p x40 (.bin .neq (.t x39) (.c (.s 0 0)))
 (.m x41 x40
 (.cons (.ye x41 true) (.ye x42) (.P (.mv (.t x0)))
 (.cons (.ye x41 true) (.ye x43) (.P (.lnS (.t x42)))
 (.cons (.ye x41 true) (.ye x44) (.P (.bin .leq (.t x43) (.c (.p 24))))
 (.p x45 (.pick (.t x41) (.t x44) (.c (.b false)))
 (.m x46 x45
 (.cons (.ye x46 true) (.ye x47) (.P (.mv (.t x0)))
 (.cons (.ye x46 true) (.ye x48) (.P (.ixs (.t x47) (.c (.p 0))))
 (.cons (.ye x46 true) (.ye x49) (.P (.mv (.t x1)))
 (.cons (.ye x46 true) (.ye x50) (.P (.bin .geq (.t x48) (.t x49)))
 (.p x51 (.pick (.t x46) (.t x50) (.c (.b false)))
 (.m x52 x51
 (.cons (.ye x52 true) (.ye x53) (.P (.mv (.t x0)))
 (.cons (.ye x52 true) (.ye x54) (.P (.ixs (.t x53) (.c (.p 0))))
 (.cons (.ye x52 true) (.ye x55) (.P (.mv (.t x2)))
 (.cons (.ye x52 true) (.ye x56) (.P (.bin .leq (.t x54) (.t x55)))
 (.p x57 (.pick (.t x52) (.t x56) (.c (.b false)))
 (.m x6 x57
 .nil)))))))))))))))))))))
 .ret)))
def a43 : AF := .fn (ps16.take 58) b43 (.one x6)
def b44 : ACode := (.seq (.ops (.p x4 (.mv (.c (.p 0)))
 .nil))
 (.seq (.seq (.ops (.m x5 x0
 (.m x6 x1
 (.s x7 73 [(.t x5), (.t x6)]
 (.p x8 (.nt (.t x7))
 .nil)))))
 (.cond (.t x8) (.seq (.ops (.p x4 (.mv (.c (.n 0)))
 .nil))
 .ret)
 .skip))
 (.seq (.ops (.m x9 x0
 (.m x10 x1
 (.s x11 75 [(.t x9), (.t x10), (.c (.p 5))]
 (.s x12 74 [(.t x11)]
 (.m x4 x12
 .nil))))))
 .ret)))
def a44 : AF := .fn (ps16.take 13) b44 (.one x4)
def b45 : ACode := (.seq (.ops (.p x4 (.mv (.c .ns))
 .nil))
 (.seq (.ops (.p x5 (.mv (.c .ns))
 .nil))
 (.seq (.seq (.ops (.m x12 x0
 (.p x13 (.nck (.t x12))
 (.p x14 (.fa (.t x13) 0)
 (.l x15 (.t x14)
 (.s x16 76 [(.t x15)]
 (.m x6 x16
 .nil)))))))
 (.blk 0 (.loop (.seq (.seq (.ops (.m x17 x6
 (.p x18 (.bin .gtr (.t x17) (.c (.p 0)))
 (.m x19 x18
 (.cons (.ye x19 true) (.ye x20) (.P (.mv (.t x0)))
 (.cons (.ye x19 true) (.ye x21) (.P (.mv (.t x1)))
 (.cons (.ye x19 true) (.ye x22) (.S 73 [(.t x20), (.t x21)])
 (.p x23 (.pick (.t x19) (.t x22) (.c (.b false)))
 .nil))))))))
 (.cond (.t x23) .skip
 (.exit 0)))
 (.seq (.blk 1 (.seq (.ops (.p x7 (.mv (.c .ns))
 .nil))
 (.seq (.ops (.m x26 x0
 (.m x27 x1
 (.s x28 75 [(.t x26), (.t x27), (.c (.p 3))]
 (.m x8 x28
 .nil)))))
 (.seq (.seq (.ops (.m x29 x0
 (.p x30 (.nck (.t x29))
 (.p x31 (.fa (.t x30) 0)
 (.l x32 (.t x31)
 (.m x33 x8
 (.s x34 69 [(.t x32), (.t x33)]
 (.p x35 (.mv (.c (.p 0)))
 .nil))))))))
 (.blk 2 (.loop (.seq (.ops (.p x36 (.bin .lss (.t x35) (.t x34))
 .nil))
 (.seq (.cond (.t x36) .skip
 (.exit 2))
 (.seq (.blk 3 (.seq (.ops (.m x37 x35
 (.m x9 x37
 .nil)))
 (.seq (.ops (.m x39 x0
 (.m x40 x0
 (.m x41 x8
 (.m x42 x9
 (.s x43 75 [(.t x40), (.t x41), (.t x42)]
 (.s x44 53 [(.t x39), (.t x43)]
 (.m x38 x44
 (.p x45 (.ex (.t x38) 0)
 (.p x46 (.ex (.t x38) 1)
 (.m x10 x45
 (.m x11 x46
 .nil))))))))))))
 (.ops (.m x47 x7
 (.m x48 x10
 (.cons .no (.ye x49) (.W (.bs (.cons (.s 0 0) .nil) 1 [(0, 1, (.t x48))]))
 (.cons .no (.ye x50) (.W (.app 1 16 (.t x47) (.t x49)))
 (.m x7 x50
 .nil)))))))))
 (.ops (.p x51 (.bin .add (.t x35) (.c (.p 1)))
 (.m x35 x51
 .nil)))))))))
 (.seq (.ops (.m x52 x7
 (.m x53 x5
 (.cons .no (.ye x54) (.W (.app 1 16 (.t x52) (.t x53)))
 (.m x5 x54
 .nil)))))
 (.ops (.m x55 x0
 (.m x56 x1
 (.s x57 77 [(.t x55), (.t x56)]
 (.m x1 x57
 .nil))))))))))
 (.ops (.m x24 x6
 (.p x25 (.bin .sub (.t x24) (.c (.p 1)))
 (.m x6 x25
 .nil)))))))))
 (.seq (.ops (.m x58 x5
 (.m x4 x58
 .nil)))
 .ret))))
def a45 : AF := .fn (ps16.take 59) b45 (.one x4)
def b46 : ACode := (.seq (.ops (.p x2 (.mv (.c (.b false)))
 .nil))
 (.seq (.ops (.cons .no (.ye x3) (.W (.bs (.cons (.s 0 0) (.cons (.s 0 0) (.cons (.s 0 0) (.cons (.s 0 0) (.cons (.s 0 0) (.cons (.s 0 0) .nil)))))) 6 [(0, 1, (.c (.s 4 1718379891))), (1, 1, (.c (.s 5 491328140659))), (2, 1, (.c (.s 3 7104878))), (3, 1, (.c (.s 4 1702195828))), (4, 1, (.c (.s 5 435728179558))), (5, 1, (.c (.s 11 140803950564158277683865716)))]))
 (.m x4 x0
 (.s x5 47 [(.t x3), (.t x4)]
 (.m x2 x5
 .nil)))))
 .ret))
def a46 : AF := .fn (ps16.take 6) b46 (.one x2)
def b47 : ACode := (.seq (.ops (.p x4 (.mv (.c (.b false)))
 .nil))
 (.seq (.ops (.m x5 x0
 (.m x6 x1
 (.s x7 78 [(.t x5), (.t x6)]
 (.p x8 (.bin .geq (.t x7) (.c (.p 0)))
 (.m x4 x8
 .nil))))))
 .ret))
def a47 : AF := .fn (ps16.take 9) b47 (.one x4)
def b48 : ACode := (.seq (.ops (.p x10 (.mv (.c (.p 0)))
 (.p x11 (.mv (.c (.p 0)))
 .nil)))
 (.seq (.ops (.m x24 x0
 (.m x25 x1
 (.s x26 24 [(.t x24), (.t x25)]
 (.m x23 x26
 (.p x27 (.ex (.t x23) 0)
 (.p x28 (.ex (.t x23) 1)
 (.m x12 x27
 (.m x13 x28
 .nil)))))))))
 (.seq (.seq (.ops (.m x29 x13
 (.p x30 (.bin .neq (.t x29) (.c (.p 0)))
 .nil)))
 (.cond (.t x30) (.seq (.ops (.m x31 x13
 (.p x10 (.mv (.c (.p 0)))
 (.m x11 x31
 .nil))))
 .ret)
 .skip))
 (.seq (.ops (.p x14 (.mv (.c .ns))
 .nil))
 (.seq (.seq (.ops (.m x32 x3
 (.p x33 (.lnX (.t x32))
 (.p x34 (.mv (.c (.p 0)))
 .nil))))
 (.blk 0 (.loop (.seq (.ops (.p x35 (.bin .lss (.t x34) (.t x33))
 .nil))
 (.seq (.cond (.t x35) .skip
 (.exit 0))
 (.seq (.blk 1 (.seq (.ops (.p x36 (.ia (.t x32) (.t x34) 1)
 (.l x37 (.t x36)
 (.m x16 x37
 .nil))))
 (.seq (.ops (.m x39 x0
 (.m x40 x16
 (.s x41 24 [(.t x39), (.t x40)]
 (.m x38 x41
 (.p x42 (.ex (.t x38) 0)
 (.p x43 (.ex (.t x38) 1)
 (.m x17 x42
 (.m x18 x43
 .nil)))))))))
 (.seq (.seq (.ops (.m x44 x18
 (.p x45 (.bin .neq (.t x44) (.c (.p 0)))
 .nil)))
 (.cond (.t x45) (.seq (.ops (.m x46 x18
 (.p x10 (.mv (.c (.p 0)))
 (.m x11 x46
 .nil))))
 .ret)
 .skip))
 (.ops (.m x47 x14
 (.m x48 x17
 (.cons .no (.ye x49) (.W (.bs (.cons (.p 0) .nil) 1 [(0, 1, (.t x48))]))
 (.cons .no (.ye x50) (.W (.app 1 8 (.t x47) (.t x49)))
 (.m x14 x50
 .nil))))))))))
 (.ops (.p x51 (.bin .add (.t x34) (.c (.p 1)))
 (.m x34 x51
 .nil)))))))))
 (.seq (.ops (.m x53 x0
 (.m x54 x14
 (.s x55 16 [(.t x53), (.t x54)]
 (.m x52 x55
 (.p x56 (.ex (.t x52) 0)
 (.p x57 (.ex (.t x52) 1)
 (.m x19 x56
 (.m x13 x57
 .nil)))))))))
 (.seq (.seq (.ops (.m x58 x13
 (.p x59 (.bin .neq (.t x58) (.c (.p 0)))
 .nil)))
 (.cond (.t x59) (.seq (.ops (.m x60 x13
 (.p x10 (.mv (.c (.p 0)))
 (.m x11 x60
 .nil))))
 .ret)
 .skip))
 (.seq (.seq (.ops (.m x61 x0
 (.p x62 (.nck (.t x61))
 (.p x63 (.fa (.t x62) 0)
 (.l x64 (.t x63)
 (.s x65 18 [(.t x64)]
 (.p x66 (.bin .lss (.t x65) (.c (.p 14)))
 .nil)))))))
 (.cond (.t x66) (.seq (.ops (.p x10 (.mv (.c (.p 0)))
 (.p x11 (.mv (.c (.p 4)))
 .nil)))
 .ret)
 .skip))
 (.seq (.ops (.m x67 x0
 (.m x68 x2
 (.s x69 79 [(.t x67), (.t x68)]
 (.m x70 x3
 (.p x71 (.lnX (.t x70))
 (.p x72 (.bin .add (.t x69) (.t x71))
 (.m x20 x72
 .nil))))))))
 (.seq (.ops (.m x74 x0
 (.m x75 x0
 (.s x76 27 [(.t x75), (.c (.p 1))]
 (.m x77 x12
 (.m x78 x2
 (.m x79 x20
 (.s x80 39 [(.t x79)]
 (.m x81 x19
 (.m x82 x4
 (.s x83 39 [(.t x82)]
 (.cons .no (.ye x84) (.W (.bs (.cons (.p 0) (.cons (.p 0) (.cons (.p 0) (.cons (.p 0) (.cons (.p 0) (.cons (.p 0) .nil)))))) 6 [(0, 1, (.t x77)), (1, 1, (.t x78)), (2, 1, (.t x80)), (3, 1, (.t x81)), (4, 1, (.c (.p 0))), (5, 1, (.t x83))]))
 (.s x85 33 [(.t x74), (.t x76), (.c (.p 0)), (.t x84)]
 (.m x73 x85
 (.p x86 (.ex (.t x73) 0)
 (.p x87 (.ex (.t x73) 1)
 (.m x21 x86
 (.m x13 x87
 .nil))))))))))))))))))
 (.seq (.seq (.ops (.m x88 x13
 (.p x89 (.bin .neq (.t x88) (.c (.p 0)))
 .nil)))
 (.cond (.t x89) (.seq (.ops (.m x90 x13
 (.p x10 (.mv (.c (.p 0)))
 (.m x11 x90
 .nil))))
 .ret)
 .skip))
 (.seq (.ops (.m x92 x0
 (.m x93 x21
 (.m x94 x0
 (.p x95 (.nck (.t x94))
 (.p x96 (.fa (.t x95) 1)
 (.l x97 (.t x96)
 (.p x98 (.ia (.t x97) (.c (.p 1)) 1)
 (.l x99 (.t x98)
 (.s x100 40 [(.t x92), (.t x93), (.t x99)]
 (.m x91 x100
 (.p x101 (.ex (.t x91) 0)
 (.p x102 (.ex (.t x91) 1)
 (.m x22 x101
 (.m x13 x102
 .nil)))))))))))))))
 (.seq (.seq (.ops (.m x103 x13
 (.p x104 (.bin .neq (.t x103) (.c (.p 0)))
 .nil)))
 (.cond (.t x104) (.seq (.ops (.m x105 x13
 (.p x10 (.mv (.c (.p 0)))
 (.m x11 x105
 .nil))))
 .ret)
 .skip))
 (.seq (.draw (.h .no (.ye x106) (.P (.mv (.t x0)))
 (.h .no (.ye x107) (.P (.nck (.t x106)))
 (.h .no (.ye x108) (.P (.fa (.t x107) 1))
 (.h .no (.ye x109) (.L (.l (.one (.t x108))))
 (.h .no (.ye x110) (.P (.mv (.t x0)))
 (.h .no (.ye x111) (.P (.nck (.t x110)))
 (.h .no (.ye x112) (.P (.fa (.t x111) 3))
 (.h .no (.ye x113) (.L (.l (.one (.t x112))))
 (.h .no (.ye x114) (.P (.mv (.t x1)))
 (.h .no (.ye x115) (.P (.mv (.t x22)))
 (.h .no (.ye x116) (.P (.mv (.t x21)))
 (.h .no (.ye x117) (.P (.ia (.t x109) (.c (.p 1)) 1))
 (.c .no .no (.W (.st (.t x117) 1 (.t x115))) .nil
 (.c .no (.ye x118) (.W (.mes (.p 0) (.t x113) (.t x114))) .nil
 (.h .no (.ye x119) (.P (.ex (.t x118) 1))
 (.c .no .no (.W (.ess (.t x113) (.t x119) (.t x116))) .nil
 .nil)))))))))))))))))
 (.seq (.ops (.m x120 x21
 (.m x10 x120
 (.p x11 (.mv (.c (.p 0)))
 .nil))))
 .ret)))))))))))))))
def a48 : AF := .fn (ps16.take 121) b48 (.many [(.t x10), (.t x11)])
def b49 : ACode := (.seq (.ops (.p x4 (.mv (.c (.p 0)))
 (.p x5 (.mv (.c (.b false)))
 .nil)))
 (.seq (.blk 0 (.seq (.ops (.m x7 x1
 (.s x8 29 [(.t x7)]
 (.m x6 x8
 .nil))))
 (.cond (.t x6) (.seq (.ops (.m x9 x1
 (.s x10 74 [(.t x9)]
 (.m x4 x10
 (.p x5 (.mv (.c (.b true)))
 .nil)))))
 .ret)
 (.seq (.ops (.m x12 x0
 (.p x13 (.nck (.t x12))
 (.p x14 (.fa (.t x13) 0)
 (.l x15 (.t x14)
 (.m x16 x1
 (.s x17 30 [(.t x15), (.t x16)]
 (.m x18 x17
 (.cons (.ye x18 true) (.ye x19) (.P (.mv (.t x0)))
 (.cons (.ye x18 true) (.ye x20) (.P (.nck (.t x19)))
 (.cons (.ye x18 true) (.ye x21) (.P (.fa (.t x20) 0))
 (.cons (.ye x18 true) (.ye x22) (.L (.l (.one (.t x21))))
 (.cons (.ye x18 true) (.ye x23) (.P (.mv (.t x1)))
 (.cons (.ye x18 true) (.ye x24) (.S 80 [(.t x22), (.t x23)])
 (.cons (.ye x18 true) (.ye x25) (.P (.mv (.t x0)))
 (.cons (.ye x18 true) (.ye x26) (.S 27 [(.t x25), (.c (.p 8))])
 (.cons (.ye x18 true) (.ye x27) (.P (.bin .eql (.t x24) (.t x26)))
 (.p x28 (.pick (.t x18) (.t x27) (.c (.b false)))
 (.m x29 x28
 (.cons (.ye x29 true) (.ye x30) (.P (.mv (.t x0)))
 (.cons (.ye x29 true) (.ye x31) (.P (.nck (.t x30)))
 (.cons (.ye x29 true) (.ye x32) (.P (.fa (.t x31) 0))
 (.cons (.ye x29 true) (.ye x33) (.L (.l (.one (.t x32))))
 (.cons (.ye x29 true) (.ye x34) (.P (.mv (.t x1)))
 (.cons (.ye x29 true) (.ye x35) (.S 35 [(.t x33), (.t x34)])
 (.cons (.ye x29 true) (.ye x36) (.P (.bin .eql (.t x35) (.c (.p 1))))
 (.p x37 (.pick (.t x29) (.t x36) (.c (.b false)))
 (.m x11 x37
 .nil))))))))))))))))))))))))))))
 (.cond (.t x11) (.seq (.ops (.m x38 x0
 (.m x39 x1
 (.s x40 75 [(.t x38), (.t x39), (.c (.p 0))]
 (.m x4 x40
 (.p x5 (.mv (.c (.b true)))
 .nil))))))
 .ret)
 .skip)))))
 (.seq (.ops (.p x4 (.mv (.c (.p 0)))
 (.p x5 (.mv (.c (.b false)))
 .nil)))
 .ret)))
def a49 : AF := .fn (ps16.take 41) b49 (.many [(.t x4), (.t x5)])
def b51 : ACode := (.seq (.ops (.p x2 (.mv (.c (.s 0 0)))
 .nil))
 (.seq (.seq (.ops (.m x3 x0
 .nil))
 (.blk 0 (.seq (.ops (.p x5 (.bin .eql (.t x3) (.c (.p 2)))
 (.m x4 x5
 .nil)))
 (.cond (.t x4) (.seq (.ops (.p x2 (.mv (.c (.s 4 1702195828)))
 .nil))
 .ret)
 (.seq (.ops (.p x7 (.bin .eql (.t x3) (.c (.p 4)))
 (.m x6 x7
 .nil)))
 (.cond (.t x6) (.seq (.ops (.p x2 (.mv (.c (.s 5 435728179558)))
 .nil))
 .ret)
 .skip))))))
 (.seq (.ops (.p x2 (.mv (.c (.s 3 7104878)))
 .nil))
 .ret)))
def a51 : AF := .fn (ps16.take 8) b51 (.one x2)
def b52 : ACode := (.seq (.ops (.p x4 (.mv (.c (.p 0)))
 .nil))
 (.seq (.blk 0 (.seq (.ops (.m x6 x0
 (.p x7 (.nck (.t x6))
 (.p x8 (.fa (.t x7) 0)
 (.l x9 (.t x8)
 (.m x10 x1
 (.s x11 30 [(.t x9), (.t x10)]
 (.m x5 x11
 .nil))))))))
 (.cond (.t x5) (.seq (.ops (.m x12 x0
 (.p x13 (.nck (.t x12))
 (.p x14 (.fa (.t x13) 0)
 (.l x15 (.t x14)
 (.m x16 x1
 (.s x17 80 [(.t x15), (.t x16)]
 (.m x4 x17
 .nil))))))))
 .ret)
 (.seq (.ops (.m x19 x1
 (.s x20 29 [(.t x19)]
 (.m x18 x20
 .nil))))
 (.cond (.t x18) (.seq (.ops (.m x21 x0
 (.s x22 27 [(.t x21), (.c (.p 7))]
 (.m x4 x22
 .nil))))
 .ret)
 (.seq (.ops (.m x24 x1
 (.p x25 (.bin .eql (.t x24) (.c (.p 0)))
 (.m x23 x25
 .nil))))
 (.cond (.t x23) (.seq (.ops (.m x26 x0
 (.s x27 27 [(.t x26), (.c (.p 2))]
 (.m x4 x27
 .nil))))
 .ret)
 (.seq (.ops (.m x29 x1
 (.p x30 (.bin .eql (.t x29) (.c (.p 2)))
 (.m x28 x30
 .nil))))
 (.cond (.t x28) (.seq (.ops (.m x31 x0
 (.s x32 27 [(.t x31), (.c (.p 4))]
 (.m x4 x32
 .nil))))
 .ret)
 (.seq (.ops (.m x34 x1
 (.p x35 (.bin .eql (.t x34) (.c (.p 4)))
 (.m x33 x35
 .nil))))
 (.cond (.t x33) (.seq (.ops (.m x36 x0
 (.s x37 27 [(.t x36), (.c (.p 5))]
 (.m x4 x37
 .nil))))
 .ret)
 .skip)))))))))))
 (.seq (.ops (.p x4 (.mv (.c (.p 0)))
 .nil))
 .ret)))
def a52 : AF := .fn (ps16.take 38) b52 (.one x4)
def b53 : ACode := (.seq (.ops (.p x4 (.mv (.c (.s 0 0)))
 (.p x5 (.mv (.c (.b false)))
 .nil)))
 (.seq (.ops (.m x9 x0
 (.p x10 (.nck (.t x9))
 (.p x11 (.fa (.t x10) 0)
 (.l x12 (.t x11)
 (.m x13 x1
 (.s x14 80 [(.t x12), (.t x13)]
 (.m x6 x14
 .nil))))))))
 (.seq (.seq (.ops (.m x15 x0
 (.p x16 (.nck (.t x15))
 (.p x17 (.fa (.t x16) 0)
 (.l x18 (.t x17)
 (.m x19 x1
 (.s x20 30 [(.t x18), (.t x19)]
 (.p x21 (.nt (.t x20))
 (.m x22 x21
 (.cons (.ye x22 false) (.ye x23) (.P (.mv (.t x6)))
 (.cons (.ye x22 false) (.ye x24) (.P (.mv (.t x0)))
 (.cons (.ye x22 false) (.ye x25) (.S 27 [(.t x24), (.c (.p 10))])
 (.cons (.ye x22 false) (.ye x26) (.P (.bin .neq (.t x23) (.t x25)))
 (.cons (.ye x22 false) (.ye x27) (.P (.mv (.t x26)))
 (.cons (.ye x27 true) (.ye x28) (.P (.mv (.t x6)))
 (.cons (.ye x27 true) (.ye x29) (.P (.mv (.t x0)))
 (.cons (.ye x27 true) (.ye x30) (.S 27 [(.t x29), (.c (.p 11))])
 (.cons (.ye x27 true) (.ye x31) (.P (.bin .neq (.t x28) (.t x30)))
 (.cons (.ye x22 false) (.ye x32) (.P (.pick (.t x27) (.t x31) (.c (.b false))))
 (.p x33 (.pick (.t x22) (.c (.b true)) (.t x32))
 (.m x34 x33
 (.cons (.ye x34 false) (.ye x35) (.P (.mv (.t x0)))
 (.cons (.ye x34 false) (.ye x36) (.P (.nck (.t x35)))
 (.cons (.ye x34 false) (.ye x37) (.P (.fa (.t x36) 0))
 (.cons (.ye x34 false) (.ye x38) (.L (.l (.one (.t x37))))
 (.cons (.ye x34 false) (.ye x39) (.P (.mv (.t x1)))
 (.cons (.ye x34 false) (.ye x40) (.S 35 [(.t x38), (.t x39)])
 (.cons (.ye x34 false) (.ye x41) (.P (.bin .neq (.t x40) (.c (.p 2))))
 (.p x42 (.pick (.t x34) (.c (.b true)) (.t x41))
 .nil)))))))))))))))))))))))))))))
 (.cond (.t x42) (.seq (.ops (.p x4 (.mv (.c (.s 0 0)))
 (.p x5 (.mv (.c (.b false)))
 .nil)))
 .ret)
 .skip))
 (.seq (.ops (.p x7 (.mv (.c .ns))
 .nil))
 (.seq (.seq (.ops (.m x43 x0
 (.p x44 (.nck (.t x43))
 (.p x45 (.fa (.t x44) 0)
 (.l x46 (.t x45)
 (.m x47 x1
 (.s x48 69 [(.t x46), (.t x47)]
 (.p x49 (.mv (.c (.p 0)))
 .nil))))))))
 (.blk 0 (.loop (.seq (.ops (.p x50 (.bin .lss (.t x49) (.t x48))
 .nil))
 (.seq (.cond (.t x50) .skip
 (.exit 0))
 (.seq (.blk 1 (.seq (.ops (.m x51 x49
 (.m x8 x51
 .nil)))
 (.ops (.m x52 x7
 (.m x53 x0
 (.m x54 x1
 (.m x55 x8
 (.s x56 75 [(.t x53), (.t x54), (.t x55)]
 (.p x57 (.cv .u8 (.t x56))
 (.cons .no (.ye x58) (.W (.bs (.cons (.w .u8 0) .nil) 1 [(0, 1, (.t x57))]))
 (.cons .no (.ye x59) (.W (.app 1 1 (.t x52) (.t x58)))
 (.m x7 x59
 .nil))))))))))))
 (.ops (.p x60 (.bin .add (.t x49) (.c (.p 1)))
 (.m x49 x60
 .nil)))))))))
 (.seq (.ops (.m x61 x7
 (.cons .no (.ye x62) (.L (.b (.t x61)))
 (.m x4 x62
 (.p x5 (.mv (.c (.b true)))
 .nil)))))
 .ret))))))
def a53 : AF := .fn (ps16.take 63) b53 (.many [(.t x4), (.t x5)])
def b55 : ACode := (.seq (.ops (.p x6 (.mv (.c (.s 0 0)))
 .nil))
 (.seq (.seq (.ops (.m x11 x2
 (.p x12 (.bin .eql (.t x11) (.c (.p 3)))
 .nil)))
 (.cond (.t x12) (.seq (.ops (.p x6 (.mv (.c (.s 4 690892328)))
 .nil))
 .ret)
 .skip))
 (.seq (.ops (.p x7 (.mv (.c (.s 1 40)))
 .nil))
 (.seq .skip
 (.seq (.seq (.ops (.m x13 x0
 (.s x14 14 [(.t x13)]
 (.m x15 x1
 (.s x16 69 [(.t x14), (.t x15)]
 (.p x17 (.mv (.c (.p 0)))
 .nil))))))
 (.blk 0 (.loop (.seq (.ops (.p x18 (.bin .lss (.t x17) (.t x16))
 .nil))
 (.seq (.cond (.t x18) .skip
 (.exit 0))
 (.seq (.blk 1 (.seq (.ops (.m x19 x17
 (.m x8 x19
 .nil)))
 (.seq (.seq (.ops (.m x20 x8
 (.p x21 (.bin .gtr (.t x20) (.c (.p 0)))
 .nil)))
 (.cond (.t x21) (.ops (.m x22 x7
 (.p x23 (.bin .add (.t x22) (.c (.s 1 32)))
 (.m x7 x23
 .nil))))
 .skip))
 (.seq (.seq (.ops (.m x24 x8
 (.p x25 (.bin .eql (.t x24) (.c (.p 20)))
 (.m x26 x25
 (.cons (.ye x26 false) (.ye x27) (.P (.mv (.t x7)))
 (.cons (.ye x26 false) (.ye x28) (.P (.lnS (.t x27)))
 (.cons (.ye x26 false) (.ye x29) (.P (.bin .gtr (.t x28) (.c (.p 1000))))
 (.p x30 (.pick (.t x26) (.c (.b true)) (.t x29))
 .nil))))))))
 (.cond (.t x30) (.seq (.ops (.m x31 x7
 (.p x32 (.bin .add (.t x31) (.c (.s 2 11822)))
 (.m x7 x32
 .nil))))
 (.exit 0))
 .skip))
 (.seq (.ops (.m x34 x0
 (.s x35 14 [(.t x34)]
 (.m x36 x1
 (.m x37 x8
 (.s x38 83 [(.t x35), (.t x36), (.t x37)]
 (.m x33 x38
 (.p x39 (.ex (.t x33) 0)
 (.p x40 (.ex (.t x33) 1)
 (.m x9 x39
 (.m x10 x40
 .nil)))))))))))
 (.ops (.m x41 x7
 (.m x42 x0
 (.m x43 x9
 (.m x44 x2
 (.p x45 (.bin .add (.t x44) (.c (.p 1)))
 (.s x46 21 [(.t x42), (.t x43), (.t x45)]
 (.p x47 (.bin .add (.t x41) (.t x46))
 (.m x7 x47
 .nil))))))))))))))
 (.ops (.p x48 (.bin .add (.t x17) (.c (.p 1)))
 (.m x17 x48
 .nil)))))))))
 (.seq (.ops (.m x49 x7
 (.p x50 (.bin .add (.t x49) (.c (.s 1 41)))
 (.m x6 x50
 .nil))))
 .ret))))))
def a55 : AF := .fn (ps16.take 51) b55 (.one x6)
def b56 : ACode := (.seq (.ops (.p x4 (.mv (.c (.s 0 0)))
 .nil))
 (.seq (.seq (.ops (.m x7 x0
 (.m x8 x1
 (.s x9 73 [(.t x7), (.t x8)]
 (.p x10 (.nt (.t x9))
 .nil)))))
 (.cond (.t x10) (.seq (.ops (.p x4 (.mv (.c (.s 0 0)))
 .nil))
 .ret)
 .skip))
 (.seq (.ops (.m x12 x0
 (.m x13 x0
 (.m x14 x1
 (.s x15 75 [(.t x13), (.t x14), (.c (.p 0))]
 (.s x16 53 [(.t x12), (.t x15)]
 (.m x11 x16
 (.p x17 (.ex (.t x11) 0)
 (.p x18 (.ex (.t x11) 1)
 (.m x5 x17
 (.m x6 x18
 .nil)))))))))))
 (.seq (.ops (.m x19 x5
 (.m x4 x19
 .nil)))
 .ret))))
def a56 : AF := .fn (ps16.take 20) b56 (.one x4)
def b57 : ACode := (.seq (.ops (.p x4 (.mv (.c (.p 0)))
 .nil))
 (.seq (.ops (.m x5 x0
 (.m x6 x1
 (.s x7 84 [(.t x5), (.t x6)]
 (.m x4 x7
 .nil)))))
 .ret))
def a57 : AF := .fn (ps16.take 8) b57 (.one x4)
def b58 : ACode := (.seq (.ops (.p x2 (.mv (.c (.p 0)))
 (.p x3 (.mv (.c (.b false)))
 .nil)))
 (.seq (.seq (.ops (.m x4 x0
 (.s x5 64 [(.t x4), (.c (.n 1073741823)), (.c (.p 1073741823))]
 (.p x6 (.nt (.t x5))
 .nil))))
 (.cond (.t x6) (.seq (.ops (.p x2 (.mv (.c (.p 0)))
 (.p x3 (.mv (.c (.b false)))
 .nil)))
 .ret)
 .skip))
 (.seq (.ops (.m x7 x0
 (.p x8 (.bin .shl (.t x7) (.c (.w .u64 1)))
 (.p x9 (.bin .or (.t x8) (.c (.p 1)))
 (.m x2 x9
 (.p x3 (.mv (.c (.b true)))
 .nil))))))
 .ret)))
def a58 : AF := .fn (ps16.take 10) b58 (.many [(.t x2), (.t x3)])
def b59 : ACode := (.seq (.ops (.p x6 (.mv (.c (.p 0)))
 (.p x7 (.mv (.c (.p 0)))
 .nil)))
 (.seq (.ops (.p x8 (.mv (.c .ns))
 .nil))
 (.seq (.seq (.ops (.m x10 x2
 (.p x11 (.lnS (.t x10))
 (.p x12 (.mv (.c (.p 0)))
 .nil))))
 (.blk 0 (.loop (.seq (.ops (.p x13 (.bin .lss (.t x12) (.t x11))
 .nil))
 (.seq (.cond (.t x13) .skip
 (.exit 0))
 (.seq (.blk 1 (.seq (.ops (.m x14 x12
 (.m x9 x14
 .nil)))
 (.ops (.m x15 x8
 (.m x16 x2
 (.m x17 x9
 (.p x18 (.ixs (.t x16) (.t x17))
 (.p x19 (.cv .i64 (.t x18))
 (.cons .no (.ye x20) (.W (.bs (.cons (.p 0) .nil) 1 [(0, 1, (.t x19))]))
 (.cons .no (.ye x21) (.W (.app 1 8 (.t x15) (.t x20)))
 (.m x8 x21
 .nil)))))))))))
 (.ops (.p x22 (.bin .add (.t x12) (.c (.p 1)))
 (.m x12 x22
 .nil)))))))))
 (.seq (.ops (.m x23 x0
 (.m x24 x1
 (.m x25 x8
 (.s x26 33 [(.t x23), (.t x24), (.c (.p 2)), (.t x25)]
 (.p x27 (.ex (.t x26) 0)
 (.p x28 (.ex (.t x26) 1)
 (.m x6 x27
 (.m x7 x28
 .nil)))))))))
 .ret))))
def a59 : AF := .fn (ps16.take 29) b59 (.many [(.t x6), (.t x7)])
def b60 : ACode := (.seq (.ops (.p x4 (.mv (.c (.b false)))
 .nil))
 (.seq (.ops (.m x5 x1
 (.p x6 (.bin .eql (.t x5) (.c (.p 0)))
 (.m x7 x6
 (.cons (.ye x7 false) (.ye x8) (.P (.mv (.t x0)))
 (.cons (.ye x7 false) (.ye x9) (.P (.mv (.t x1)))
 (.cons (.ye x7 false) (.ye x10) (.S 30 [(.t x8), (.t x9)])
 (.p x11 (.pick (.t x7) (.c (.b true)) (.t x10))
 (.m x4 x11
 .nil)))))))))
 .ret))
def a60 : AF := .fn (ps16.take 12) b60 (.one x4)
def b61 : ACode := (.seq (.ops (.p x2 (.mv (.c (.p 0)))
 (.p x3 (.mv (.c (.b false)))
 .nil)))
 (.seq (.seq (.ops (.m x4 x0
 (.s x5 64 [(.t x4), (.c (.p 3)), (.c (.p 131072))]
 (.p x6 (.nt (.t x5))
 .nil))))
 (.cond (.t x6) (.seq (.ops (.p x2 (.mv (.c (.p 0)))
 (.p x3 (.mv (.c (.b false)))
 .nil)))
 .ret)
 .skip))
 (.seq (.ops (.m x7 x0
 (.p x8 (.bin .shl (.t x7) (.c (.w .u64 1)))
 (.m x2 x8
 (.p x3 (.mv (.c (.b true)))
 .nil)))))
 .ret)))
def a61 : AF := .fn (ps16.take 9) b61 (.many [(.t x2), (.t x3)])
def b64 : ACode := (.seq (.ops (.p x6 (.mv (.c (.b false)))
 .nil))
 (.seq (.ops (.m x7 x0
 (.m x8 x1
 (.p x9 (.bin .geq (.t x7) (.t x8))
 (.m x10 x9
 (.cons (.ye x10 true) (.ye x11) (.P (.mv (.t x0)))
 (.cons (.ye x10 true) (.ye x12) (.P (.mv (.t x2)))
 (.cons (.ye x10 true) (.ye x13) (.P (.bin .leq (.t x11) (.t x12)))
 (.p x14 (.pick (.t x10) (.t x13) (.c (.b false)))
 (.m x6 x14
 .nil))))))))))
 .ret))
def a64 : AF := .fn (ps16.take 15) b64 (.one x6)
def b65 : ACode := (.seq (.ops (.p x2 (.mv (.c (.b false)))
 .nil))
 (.seq (.ops (.m x3 x0
 (.p x4 (.bin .and (.t x3) (.c (.p 1)))
 (.p x5 (.bin .eql (.t x4) (.c (.p 0)))
 (.m x6 x5
 (.cons (.ye x6 true) (.ye x7) (.P (.mv (.t x0)))
 (.cons (.ye x6 true) (.ye x8) (.P (.bin .shr (.t x7) (.c (.w .u64 1))))
 (.cons (.ye x6 true) (.ye x9) (.S 64 [(.t x8), (.c (.p 3)), (.c (.p 131072))])
 (.p x10 (.pick (.t x6) (.t x9) (.c (.b false)))
 (.m x2 x10
 .nil))))))))))
 .ret))
def a65 : AF := .fn (ps16.take 11) b65 (.one x2)
def b66 : ACode := (.seq (.ops (.p x2 (.mv (.c (.p 0)))
 .nil))
 (.seq (.seq (.ops (.m x3 x0
 (.s x4 65 [(.t x3)]
 (.p x5 (.nt (.t x4))
 .nil))))
 (.cond (.t x5) (.seq (.ops (.p x2 (.mv (.c (.p 0)))
 .nil))
 .ret)
 .skip))
 (.seq (.ops (.m x6 x0
 (.p x7 (.bin .shr (.t x6) (.c (.w .u64 1)))
 (.m x2 x7
 .nil))))
 .ret)))
def a66 : AF := .fn (ps16.take 8) b66 (.one x2)
def b67 : ACode := (.seq (.ops (.p x4 (.mv (.c (.p 0)))
 .nil))
 (.seq (.seq (.ops (.m x6 x0
 (.p x7 (.lnX (.t x6))
 (.p x8 (.mv (.c (.p 0)))
 .nil))))
 (.blk 0 (.loop (.seq (.ops (.p x9 (.bin .lss (.t x8) (.t x7))
 .nil))
 (.seq (.cond (.t x9) .skip
 (.exit 0))
 (.seq (.blk 1 (.seq (.ops (.m x10 x8
 (.m x5 x10
 .nil)))
 (.seq (.ops (.m x11 x1
 (.m x12 x0
 (.m x13 x5
 (.p x14 (.ia (.t x12) (.t x13) 1)
 (.l x15 (.t x14)
 (.cons .no (.ye x16) (.V (.t x11) [(.t x15)])
 .nil)))))))
 (.cond (.t x16) (.seq (.ops (.m x17 x5
 (.m x4 x17
 .nil)))
 .ret)
 .skip))))
 (.ops (.p x18 (.bin .add (.t x8) (.c (.p 1)))
 (.m x8 x18
 .nil)))))))))
 (.seq (.ops (.p x4 (.mv (.c (.n 0)))
 .nil))
 .ret)))
def a67 : AF := .fn (ps16.take 19) b67 (.one x4)
def b68 : ACode := (.seq (.ops (.p x4 (.mv (.c (.p 0)))
 .nil))
 (.seq (.seq (.ops (.m x5 x0
 (.m x6 x1
 (.s x7 30 [(.t x5), (.t x6)]
 (.p x8 (.nt (.t x7))
 .nil)))))
 (.cond (.t x8) (.seq (.ops (.p x4 (.mv (.c (.p 0)))
 .nil))
 .ret)
 .skip))
 (.seq (.ops (.m x9 x1
 (.s x10 66 [(.t x9)]
 (.m x4 x10
 .nil))))
 .ret)))
def a68 : AF := .fn (ps16.take 11) b68 (.one x4)
def b69 : ACode := (.seq (.ops (.p x4 (.mv (.c (.p 0)))
 .nil))
 (.seq (.draw (.h .no (.ye x5) (.P (.mv (.t x0)))
 (.h .no (.ye x6) (.P (.nck (.t x5)))
 (.h .no (.ye x7) (.P (.fa (.t x6) 0))
 (.h .no (.ye x8) (.L (.l (.one (.t x7))))
 (.h .no (.ye x9) (.P (.mv (.t x0)))
 (.h .no (.ye x10) (.P (.mv (.t x1)))
 (.c .no (.ye x11) (.S 68 [(.t x9), (.t x10)]) (.cons .no (.l (.one (.t x7))) x8 .nil)
 (.h .no (.ye x12) (.P (.ia (.t x8) (.t x11) 1))
 (.h .no (.ye x13) (.L (.l (.one (.t x12))))
 (.h .no (.ye x14) (.P (.bin .shr (.t x13) (.c (.w .u64 2))))
 (.h .no (.ye x4) (.P (.mv (.t x14)))
 .nil))))))))))))
 .ret))
def a69 : AF := .fn (ps16.take 15) b69 (.one x4)
def b70 : ACode := (.seq (.ops (.cons .no (.ye x2) (.W (.al (.cons (.p 0) (.cons (.s 0 0) (.cons (.p 0) (.cons .ns (.cons .ns (.cons .ns .nil))))))))
 (.p x3 (.mv (.c (.p 0)))
 (.p x4 (.mv (.c (.p 0)))
 .nil))))
 (.seq (.ops (.m x5 x0
 (.s x6 85 [(.t x5), (.f 86)]
 (.p x7 (.ex (.t x6) 0)
 (.p x8 (.ex (.t x6) 1)
 (.p x9 (.ex (.t x6) 2)
 (.cons .no .no (.W (.st (.t x2) 6 (.t x7)))
 (.m x3 x8
 (.m x4 x9
 .nil)))))))))
 .ret))
def a70 : AF := .fn (ps16.take 10) b70 (.many [(.c (.many (.t x2) 6)), (.t x3), (.t x4)])
def b71 : ACode := (.seq (.ops (.cons .no (.ye x2) (.W (.bx (.t x0)))
 (.cons .no (.ye x4) (.W (.al (.cons (.s 0 0) (.cons (.p 0) (.cons (.p 0) (.cons (.p 0) (.cons .ns (.cons .ns .nil))))))))
 (.p x5 (.mv (.c (.s 0 0)))
 (.p x6 (.mv (.c (.p 0)))
 .nil)))))
 (.seq (.ops (.cons .no (.ye x7) (.L (.l (.many (.t x2) 6)))
 (.m x8 x1
 (.s x9 87 [(.t x7), (.t x8), (.c (.b false))]
 (.p x10 (.ex (.t x9) 0)
 (.p x11 (.ex (.t x9) 1)
 (.p x12 (.ex (.t x9) 2)
 (.cons .no .no (.W (.st (.t x4) 6 (.t x10)))
 (.m x5 x11
 (.m x6 x12
 .nil))))))))))
 .ret))
def a71 : AF := .fn (ps16.take 13) b71 (.many [(.c (.many (.t x4) 6)), (.t x5), (.t x6)])
def b72 : ACode := (.seq (.ops (.cons .no (.ye x5) (.W (.bx (.t x2)))
 (.p x6 (.mv (.c (.p 0)))
 (.p x7 (.mv (.c (.p 0)))
 .nil))))
 (.seq (.ops (.m x12 x0
 (.m x13 x1
 (.cons .no (.ye x14) (.L (.l (.many (.t x5) 6)))
 (.s x15 88 [(.t x12), (.t x13), (.t x14)]
 (.m x11 x15
 (.p x16 (.ex (.t x11) 0)
 (.p x17 (.ex (.t x11) 1)
 (.m x8 x16
 (.m x9 x17
 .nil))))))))))
 (.seq (.seq (.ops (.m x18 x9
 (.p x19 (.bin .neq (.t x18) (.c (.p 0)))
 .nil)))
 (.cond (.t x19) (.seq (.ops (.m x20 x9
 (.p x6 (.mv (.c (.p 0)))
 (.m x7 x20
 .nil))))
 .ret)
 .skip))
 (.seq (.seq (.ops (.m x21 x0
 (.m x22 x1
 (.m x23 x0
 (.m x24 x8
 (.s x25 75 [(.t x23), (.t x24), (.c (.p 0))]
 (.m x26 x8
 (.s x27 89 [(.t x21), (.t x22), (.t x25), (.t x26)]
 (.m x10 x27
 .nil)))))))))
 (.seq (.ops (.m x28 x10
 (.p x29 (.bin .neq (.t x28) (.c (.p 0)))
 .nil)))
 (.cond (.t x29) (.seq (.ops (.m x30 x10
 (.p x6 (.mv (.c (.p 0)))
 (.m x7 x30
 .nil))))
 .ret)
 .skip)))
 (.seq (.ops (.m x31 x8
 (.m x6 x31
 (.p x7 (.mv (.c (.p 0)))
 .nil))))
 .ret)))))
def a72 : AF := .fn (ps16.take 32) b72 (.many [(.t x6), (.t x7)])
def b73 : ACode := (.seq (.ops (.p x4 (.mv (.c (.b false)))
 .nil))
 (.seq (.ops (.m x5 x0
 (.p x6 (.nck (.t x5))
 (.p x7 (.fa (.t x6) 0)
 (.l x8 (.t x7)
 (.m x9 x1
 (.s x10 30 [(.t x8), (.t x9)]
 (.m x11 x10
 (.cons (.ye x11 true) (.ye x12) (.P (.mv (.t x0)))
 (.cons (.ye x11 true) (.ye x13) (.P (.nck (.t x12)))
 (.cons (.ye x11 true) (.ye x14) (.P (.fa (.t x13) 0))
 (.cons (.ye x11 true) (.ye x15) (.L (.l (.one (.t x14))))
 (.cons (.ye x11 true) (.ye x16) (.P (.mv (.t x1)))
 (.cons (.ye x11 true) (.ye x17) (.S 80 [(.t x15), (.t x16)])
 (.cons (.ye x11 true) (.ye x18) (.P (.mv (.t x0)))
 (.cons (.ye x11 true) (.ye x19) (.S 27 [(.t x18), (.c (.p 1))])
 (.cons (.ye x11 true) (.ye x20) (.P (.bin .eql (.t x17) (.t x19)))
 (.p x21 (.pick (.t x11) (.t x20) (.c (.b false)))
 (.m x22 x21
 (.cons (.ye x22 true) (.ye x23) (.P (.mv (.t x0)))
 (.cons (.ye x22 true) (.ye x24) (.P (.nck (.t x23)))
 (.cons (.ye x22 true) (.ye x25) (.P (.fa (.t x24) 0))
 (.cons (.ye x22 true) (.ye x26) (.L (.l (.one (.t x25))))
 (.cons (.ye x22 true) (.ye x27) (.P (.mv (.t x1)))
 (.cons (.ye x22 true) (.ye x28) (.S 69 [(.t x26), (.t x27)])
 (.cons (.ye x22 true) (.ye x29) (.P (.bin .eql (.t x28) (.c (.p 6))))
 (.p x30 (.pick (.t x22) (.t x29) (.c (.b false)))
 (.m x4 x30
 .nil))))))))))))))))))))))))))))
 .ret))
def a73 : AF := .fn (ps16.take 31) b73 (.one x4)
def b74 : ACode := (.seq (.ops (.p x2 (.mv (.c (.p 0)))
 .nil))
 (.seq (.seq (.ops (.m x3 x0
 (.s x4 29 [(.t x3)]
 (.p x5 (.nt (.t x4))
 .nil))))
 (.cond (.t x5) (.seq (.ops (.p x2 (.mv (.c (.p 0)))
 .nil))
 .ret)
 .skip))
 (.seq (.ops (.m x6 x0
 (.p x7 (.bin .shr (.t x6) (.c (.w .u64 1)))
 (.m x2 x7
 .nil))))
 .ret)))
def a74 : AF := .fn (ps16.take 8) b74 (.one x2)
def b75 : ACode := (.seq (.ops (.p x6 (.mv (.c (.p 0)))
 .nil))
 (.seq (.ops (.m x10 x0
 (.p x11 (.nck (.t x10))
 (.p x12 (.fa (.t x11) 0)
 (.l x13 (.t x12)
 (.m x14 x1
 (.m x15 x2
 (.s x16 83 [(.t x13), (.t x14), (.t x15)]
 (.m x9 x16
 (.p x17 (.ex (.t x9) 0)
 (.p x18 (.ex (.t x9) 1)
 (.m x7 x17
 (.m x8 x18
 .nil)))))))))))))
 (.seq (.ops (.m x19 x7
 (.m x6 x19
 .nil)))
 .ret)))
def a75 : AF := .fn (ps16.take 20) b75 (.one x6)
def b76 : ACode := (.seq (.ops (.p x2 (.mv (.c (.p 0)))
 .nil))
 (.seq (.ops (.m x3 x0
 (.p x4 (.nck (.t x3))
 (.p x5 (.fa (.t x4) 0)
 (.l x6 (.t x5)
 (.p x7 (.lnX (.t x6))
 (.m x2 x7
 .nil)))))))
 .ret))
def a76 : AF := .fn (ps16.take 8) b76 (.one x2)
def b77 : ACode := (.seq (.ops (.p x4 (.mv (.c (.p 0)))
 .nil))
 (.seq (.seq (.ops (.m x5 x0
 (.m x6 x1
 (.s x7 73 [(.t x5), (.t x6)]
 (.p x8 (.nt (.t x7))
 .nil)))))
 (.cond (.t x8) (.seq (.ops (.p x4 (.mv (.c (.p 0)))
 .nil))
 .ret)
 .skip))
 (.seq (.ops (.m x9 x0
 (.m x10 x1
 (.s x11 75 [(.t x9), (.t x10), (.c (.p 1))]
 (.m x4 x11
 .nil)))))
 .ret)))
def a77 : AF := .fn (ps16.take 12) b77 (.one x4)
def b78 : ACode := (.seq (.ops (.p x4 (.mv (.c (.p 0)))
 .nil))
 (.seq (.seq (.ops (.m x6 x0
 (.p x7 (.lnX (.t x6))
 (.p x8 (.mv (.c (.p 0)))
 .nil))))
 (.blk 0 (.loop (.seq (.ops (.p x9 (.bin .lss (.t x8) (.t x7))
 .nil))
 (.seq (.cond (.t x9) .skip
 (.exit 0))
 (.seq (.blk 1 (.seq (.ops (.m x10 x8
 (.m x5 x10
 .nil)))
 (.seq (.ops (.m x11 x1
 (.m x12 x0
 (.m x13 x5
 (.p x14 (.ia (.t x12) (.t x13) 1)
 (.l x15 (.t x14)
 (.p x16 (.bin .eql (.t x11) (.t x15))
 .nil)))))))
 (.cond (.t x16) (.seq (.ops (.m x17 x5
 (.m x4 x17
 .nil)))
 .ret)
 .skip))))
 (.ops (.p x18 (.bin .add (.t x8) (.c (.p 1)))
 (.m x8 x18
 .nil)))))))))
 (.seq (.ops (.p x4 (.mv (.c (.n 0)))
 .nil))
 .ret)))
def a78 : AF := .fn (ps16.take 19) b78 (.one x4)
def b79 : ACode := (.seq (.ops (.p x4 (.mv (.c (.p 0)))
 .nil))
 (.seq (.seq (.ops (.m x5 x0
 (.m x6 x1
 (.s x7 73 [(.t x5), (.t x6)]
 (.p x8 (.nt (.t x7))
 .nil)))))
 (.cond (.t x8) (.seq (.ops (.p x4 (.mv (.c (.p 0)))
 .nil))
 .ret)
 .skip))
 (.seq (.ops (.m x9 x0
 (.m x10 x1
 (.s x11 75 [(.t x9), (.t x10), (.c (.p 2))]
 (.s x12 74 [(.t x11)]
 (.m x4 x12
 .nil))))))
 .ret)))
def a79 : AF := .fn (ps16.take 13) b79 (.one x4)
def b80 : ACode := (.seq (.ops (.p x4 (.mv (.c (.p 0)))
 .nil))
 (.seq (.draw (.h .no (.ye x5) (.P (.mv (.t x0)))
 (.h .no (.ye x6) (.P (.nck (.t x5)))
 (.h .no (.ye x7) (.P (.fa (.t x6) 0))
 (.h .no (.ye x8) (.L (.l (.one (.t x7))))
 (.h .no (.ye x9) (.P (.mv (.t x0)))
 (.h .no (.ye x10) (.P (.mv (.t x1)))
 (.c .no (.ye x11) (.S 68 [(.t x9), (.t x10)]) (.cons .no (.l (.one (.t x7))) x8 .nil)
 (.h .no (.ye x12) (.P (.bin .add (.t x11) (.c (.p 1))))
 (.h .no (.ye x13) (.P (.ia (.t x8) (.t x12) 1))
 (.h .no (.ye x14) (.L (.l (.one (.t x13))))
 (.h .no (.ye x4) (.P (.mv (.t x14)))
 .nil))))))))))))
 .ret))
def a80 : AF := .fn (ps16.take 15) b80 (.one x4)
def b83 : ACode := (.seq (.ops (.p x6 (.mv (.c (.p 0)))
 (.p x7 (.mv (.c (.p 0)))
 .nil)))
 (.seq (.ops (.m x11 x0
 (.m x12 x1
 (.m x13 x2
 (.s x14 34 [(.t x11), (.t x12), (.t x13)]
 (.m x10 x14
 (.p x15 (.ex (.t x10) 0)
 (.p x16 (.ex (.t x10) 1)
 (.m x8 x15
 (.m x9 x16
 .nil))))))))))
 (.seq (.seq (.ops (.m x17 x9
 (.p x18 (.bin .neq (.t x17) (.c (.p 0)))
 .nil)))
 (.cond (.t x18) (.seq (.ops (.m x19 x9
 (.p x6 (.mv (.c (.p 0)))
 (.m x7 x19
 .nil))))
 .ret)
 .skip))
 (.seq (.ops (.m x20 x0
 (.p x21 (.nck (.t x20))
 (.p x22 (.fa (.t x21) 0)
 (.l x23 (.t x22)
 (.m x24 x8
 (.p x25 (.ia (.t x23) (.t x24) 1)
 (.l x26 (.t x25)
 (.m x6 x26
 (.p x7 (.mv (.c (.p 0)))
 .nil))))))))))
 .ret))))
def a83 : AF := .fn (ps16.take 27) b83 (.many [(.t x6), (.t x7)])
def b84 : ACode := (.seq (.ops (.p x4 (.mv (.c (.p 0)))
 .nil))
 (.seq (.ops (.m x5 x0
 (.m x6 x1
 (.s x7 97 [(.t x5), (.t x6)]
 (.m x4 x7
 .nil)))))
 .ret))
def a84 : AF := .fn (ps16.take 8) b84 (.one x4)
def b85 : ACode := (.seq (.ops (.cons .no (.ye x4) (.W (.al (.cons (.p 0) (.cons (.s 0 0) (.cons (.p 0) (.cons .ns (.cons .ns (.cons .ns .nil))))))))
 (.p x5 (.mv (.c (.p 0)))
 (.p x6 (.mv (.c (.p 0)))
 .nil))))
 (.seq (.ops (.m x13 x0
 (.s x14 98 [(.t x13)]
 (.m x12 x14
 (.p x15 (.ex (.t x12) 0)
 (.p x16 (.ex (.t x12) 1)
 (.p x17 (.ex (.t x12) 2)
 (.m x7 x15
 (.m x8 x16
 (.m x9 x17
 .nil))))))))))
 (.seq (.seq (.ops (.m x18 x9
 (.p x19 (.bin .neq (.t x18) (.c (.p 0)))
 .nil)))
 (.cond (.t x19) (.seq (.ops (.p x20 (.bd (.cons (.p 0) (.cons (.s 0 0) (.cons (.p 0) (.cons .ns (.cons .ns (.cons .ns .nil)))))) [])
 (.m x21 x8
 (.m x22 x9
 (.cons .no .no (.W (.st (.t x4) 6 (.t x20)))
 (.m x5 x21
 (.m x6 x22
 .nil)))))))
 .ret)
 .skip))
 (.seq (.ops (.m x23 x7
 (.p x24 (.bd (.cons .ns (.cons (.p 0) (.cons (.p 0) (.cons (.p 0) .nil)))) [(0, 1, (.t x23))])
 (.cons .no (.ye x25) (.W (.bx (.t x24)))
 (.m x10 x25
 .nil)))))
 (.seq (.ops (.m x26 x1
 (.m x27 x10
 (.cons .no (.ye x28) (.V (.t x26) [(.t x27)])
 (.cons .no (.ye x11) (.W (.al (.cons (.p 0) (.cons (.s 0 0) (.cons (.p 0) (.cons .ns (.cons .ns (.cons .ns .nil))))))))
 (.cons .no .no (.W (.st (.t x11) 6 (.t x28)))
 .nil))))))
 (.seq (.ops (.m x29 x10
 (.s x30 99 [(.t x29)]
 (.p x31 (.fa (.t x11) 4)
 (.cons .no .no (.W (.st (.t x31) 1 (.t x30)))
 .nil)))))
 (.seq (.ops (.m x32 x10
 (.s x33 100 [(.t x32)]
 (.p x34 (.fa (.t x11) 5)
 (.cons .no .no (.W (.st (.t x34) 1 (.t x33)))
 .nil)))))
 (.seq (.ops (.m x35 x10
 (.s x36 101 [(.t x35), (.c (.p 0)), (.c (.s 0 0))]
 .nil)))
 (.seq (.seq (.ops (.m x37 x10
 (.p x38 (.nck (.t x37))
 (.p x39 (.fa (.t x38) 3)
 (.l x40 (.t x39)
 (.p x41 (.bin .neq (.t x40) (.c (.p 0)))
 .nil))))))
 (.cond (.t x41) (.seq (.draw (.h .no (.ye x42) (.P (.bd (.cons (.p 0) (.cons (.s 0 0) (.cons (.p 0) (.cons .ns (.cons .ns (.cons .ns .nil)))))) []))
 (.h .no (.ye x43) (.P (.mv (.t x10)))
 (.h .no (.ye x44) (.P (.nck (.t x43)))
 (.h .no (.ye x45) (.P (.fa (.t x44) 2))
 (.h .no (.ye x46) (.L (.l (.one (.t x45))))
 (.h .no (.ye x47) (.P (.mv (.t x10)))
 (.h .no (.ye x48) (.P (.nck (.t x47)))
 (.h .no (.ye x49) (.P (.fa (.t x48) 3))
 (.h .no (.ye x50) (.L (.l (.one (.t x49))))
 (.c .no .no (.W (.st (.t x4) 6 (.t x42))) (.cons .no (.l (.one (.t x45))) x46 (.cons .no (.l (.one (.t x49))) x50 .nil))
 (.h .no (.ye x5) (.P (.mv (.t x46)))
 (.h .no (.ye x6) (.P (.mv (.t x50)))
 .nil)))))))))))))
 .ret)
 .skip))
 (.seq (.ops (.cons .no (.ye x51) (.L (.l (.many (.t x11) 6)))
 (.cons .no .no (.W (.st (.t x4) 6 (.t x51)))
 (.p x5 (.mv (.c (.p 0)))
 (.p x6 (.mv (.c (.p 0)))
 .nil)))))
 .ret))))))))))
def a85 : AF := .fn (ps16.take 52) b85 (.many [(.c (.many (.t x4) 6)), (.t x5), (.t x6)])
def b86 : ACode := (.seq (.ops (.cons .no (.ye x2) (.W (.al (.cons (.p 0) (.cons (.s 0 0) (.cons (.p 0) (.cons .ns (.cons .ns (.cons .ns .nil))))))))
 .nil))
 (.seq (.ops (.p x4 (.bd (.cons (.p 0) (.cons (.s 0 0) (.cons (.p 0) (.cons .ns (.cons .ns (.cons .ns .nil)))))) [(0, 1, (.c (.p 11)))])
 (.cons .no (.ye x3) (.W (.al (.cons (.p 0) (.cons (.s 0 0) (.cons (.p 0) (.cons .ns (.cons .ns (.cons .ns .nil))))))))
 (.cons .no .no (.W (.st (.t x3) 6 (.t x4)))
 .nil))))
 (.seq (.ops (.m x5 x0
 (.s x6 102 [(.t x5), (.t x3)]
 .nil)))
 (.seq (.ops (.m x7 x0
 (.s x8 103 [(.t x7)]
 (.p x9 (.fa (.t x3) 2)
 (.cons .no .no (.W (.st (.t x9) 1 (.t x8)))
 .nil)))))
 (.seq (.ops (.cons .no (.ye x10) (.L (.l (.many (.t x3) 6)))
 (.cons .no .no (.W (.st (.t x2) 6 (.t x10)))
 .nil)))
 .ret)))))
def a86 : AF := .fn (ps16.take 11) b86 (.onec (.many (.t x2) 6))
def b87 : ACode := (.seq (.ops (.cons .no (.ye x3) (.W (.bx (.t x0)))
 (.cons .no (.ye x6) (.W (.al (.cons (.s 0 0) (.cons (.p 0) (.cons (.p 0) (.cons (.p 0) (.cons .ns (.cons .ns .nil))))))))
 (.p x7 (.mv (.c (.s 0 0)))
 (.p x8 (.mv (.c (.p 0)))
 .nil)))))
 (.seq (.seq (.ops (.p x14 (.fa (.t x3) 0)
 (.l x15 (.t x14)
 (.p x16 (.bin .neq (.t x15) (.c (.p 11)))
 (.m x17 x16
 (.cons (.ye x17 false) (.ye x18) (.P (.mv (.t x1)))
 (.cons (.ye x17 false) (.ye x19) (.P (.lnX (.t x18)))
 (.cons (.ye x17 false) (.ye x20) (.P (.bin .gtr (.t x19) (.c (.p 8))))
 (.p x21 (.pick (.t x17) (.c (.b true)) (.t x20))
 .nil)))))))))
 (.cond (.t x21) (.seq (.ops (.p x22 (.bd (.cons (.s 0 0) (.cons (.p 0) (.cons (.p 0) (.cons (.p 0) (.cons .ns (.cons .ns .nil)))))) [])
 (.cons .no .no (.W (.st (.t x6) 6 (.t x22)))
 (.p x7 (.mv (.c (.s 0 0)))
 (.p x8 (.mv (.c (.p 1)))
 .nil)))))
 .ret)
 .skip))
 (.seq (.ops (.p x23 (.fa (.t x3) 1)
 (.l x24 (.t x23)
 (.p x25 (.fa (.t x3) 3)
 (.l x26 (.t x25)
 (.p x27 (.lnX (.t x26))
 (.p x28 (.fa (.t x3) 2)
 (.l x29 (.t x28)
 (.p x30 (.bd (.cons (.s 0 0) (.cons (.p 0) (.cons (.p 0) (.cons (.p 0) (.cons .ns (.cons .ns .nil)))))) [(0, 1, (.t x24)), (1, 1, (.t x27)), (3, 1, (.t x29))])
 (.p x31 (.bd (.cons (.s 0 0) (.cons (.p 0) (.cons (.p 0) (.cons (.p 0) (.cons .ns (.cons .ns (.cons .ns (.cons (.s 0 0) (.cons (.p 0) .nil))))))))) [(0, 6, (.t x30))])
 (.cons .no (.ye x32) (.W (.bx (.t x31)))
 (.m x9 x32
 .nil))))))))))))
 (.seq (.seq (.ops (.m x33 x1
 (.p x34 (.lnX (.t x33))
 (.p x35 (.mv (.c (.p 0)))
 .nil))))
 (.blk 0 (.loop (.seq (.ops (.p x36 (.bin .lss (.t x35) (.t x34))
 .nil))
 (.seq (.cond (.t x36) .skip
 (.exit 0))
 (.seq (.blk 1 (.seq (.ops (.m x37 x35
 (.p x38 (.ia (.t x33) (.t x35) 1)
 (.l x39 (.t x38)
 (.m x10 x37
 (.m x11 x39
 .nil))))))
 (.ops (.m x40 x9
 (.m x41 x9
 (.p x42 (.nck (.t x41))
 (.p x43 (.fa (.t x42) 6)
 (.l x44 (.t x43)
 (.m x45 x11
 (.m x46 x10
 (.p x47 (.bd (.cons (.s 0 0) (.cons (.b false) (.cons (.b false) (.cons (.p 0) .nil)))) [(0, 1, (.t x45)), (1, 1, (.c (.b true))), (2, 1, (.c (.b false))), (3, 1, (.t x46))])
 (.cons .no (.ye x48) (.W (.bs (.cons (.s 0 0) (.cons (.b false) (.cons (.b false) (.cons (.p 0) .nil)))) 1 [(0, 4, (.t x47))]))
 (.cons .no (.ye x49) (.W (.app 4 32 (.t x44) (.t x48)))
 (.p x50 (.nck (.t x40))
 (.p x51 (.fa (.t x50) 6)
 (.cons .no .no (.W (.st (.t x51) 1 (.t x49)))
 .nil))))))))))))))))
 (.ops (.p x52 (.bin .add (.t x35) (.c (.p 1)))
 (.m x35 x52
 .nil)))))))))
 (.seq (.ops (.m x53 x9
 (.cons .no (.ye x54) (.L (.l (.many (.t x3) 6)))
 (.m x55 x2
 (.s x56 104 [(.t x53), (.t x54), (.t x55)]
 .nil)))))
 (.seq (.blk 2 (.seq (.ops (.m x58 x9
 (.p x59 (.nck (.t x58))
 (.p x60 (.fa (.t x59) 8)
 (.l x61 (.t x60)
 (.p x62 (.bin .neq (.t x61) (.c (.p 0)))
 (.m x57 x62
 .nil)))))))
 (.cond (.t x57) (.seq (.draw (.h .no (.ye x63) (.P (.bd (.cons (.s 0 0) (.cons (.p 0) (.cons (.p 0) (.cons (.p 0) (.cons .ns (.cons .ns .nil)))))) []))
 (.h .no (.ye x64) (.P (.mv (.t x9)))
 (.h .no (.ye x65) (.P (.nck (.t x64)))
 (.h .no (.ye x66) (.P (.fa (.t x65) 7))
 (.h .no (.ye x67) (.L (.l (.one (.t x66))))
 (.h .no (.ye x68) (.P (.mv (.t x9)))
 (.h .no (.ye x69) (.P (.nck (.t x68)))
 (.h .no (.ye x70) (.P (.fa (.t x69) 8))
 (.h .no (.ye x71) (.L (.l (.one (.t x70))))
 (.c .no .no (.W (.st (.t x6) 6 (.t x63))) (.cons .no (.l (.one (.t x66))) x67 (.cons .no (.l (.one (.t x70))) x71 .nil))
 (.h .no (.ye x7) (.P (.mv (.t x67)))
 (.h .no (.ye x8) (.P (.mv (.t x71)))
 .nil)))))))))))))
 .ret)
 (.seq (.ops (.m x73 x9
 (.p x74 (.nck (.t x73))
 (.p x75 (.fa (.t x74) 0)
 (.p x76 (.fa (.t x75) 4)
 (.l x77 (.t x76)
 (.p x78 (.lnX (.t x77))
 (.p x79 (.bin .gtr (.t x78) (.c (.p 60)))
 (.m x72 x79
 .nil)))))))))
 (.cond (.t x72) (.seq (.ops (.p x80 (.bd (.cons (.s 0 0) (.cons (.p 0) (.cons (.p 0) (.cons (.p 0) (.cons .ns (.cons .ns .nil)))))) [])
 (.cons .no .no (.W (.st (.t x6) 6 (.t x80)))
 (.p x7 (.mv (.c (.s 0 0)))
 (.p x8 (.mv (.c (.p 18)))
 .nil)))))
 .ret)
 (.seq (.ops (.m x82 x9
 (.p x83 (.nck (.t x82))
 (.p x84 (.fa (.t x83) 0)
 (.p x85 (.fa (.t x84) 5)
 (.l x86 (.t x85)
 (.p x87 (.lnX (.t x86))
 (.p x88 (.bin .gtr (.t x87) (.c (.p 400)))
 (.m x81 x88
 .nil)))))))))
 (.cond (.t x81) (.seq (.ops (.p x89 (.bd (.cons (.s 0 0) (.cons (.p 0) (.cons (.p 0) (.cons (.p 0) (.cons .ns (.cons .ns .nil)))))) [])
 (.cons .no .no (.W (.st (.t x6) 6 (.t x89)))
 (.p x7 (.mv (.c (.s 0 0)))
 (.p x8 (.mv (.c (.p 12)))
 .nil)))))
 .ret)
 .skip)))))))
 (.seq (.seq (.ops (.m x90 x9
 (.p x91 (.nck (.t x90))
 (.p x92 (.fa (.t x91) 0)
 (.p x93 (.fa (.t x92) 5)
 (.l x94 (.t x93)
 (.p x95 (.lnX (.t x94))
 (.p x96 (.mv (.c (.p 0)))
 .nil))))))))
 (.blk 3 (.loop (.seq (.ops (.p x97 (.bin .lss (.t x96) (.t x95))
 .nil))
 (.seq (.cond (.t x97) .skip
 (.exit 3))
 (.seq (.blk 4 (.seq (.ops (.p x98 (.ia (.t x94) (.t x96) 3)
 (.cons .no (.ye x99) (.L (.l (.many (.t x98) 3)))
 (.cons .no (.ye x13) (.W (.al (.cons (.p 0) (.cons (.p 0) (.cons (.p 0) .nil)))))
 (.cons .no .no (.W (.st (.t x13) 3 (.t x99)))
 .nil)))))
 (.seq (.ops (.cons .no (.ye x100) (.L (.l (.many (.t x13) 3)))
 (.s x101 105 [(.t x100)]
 (.p x102 (.nt (.t x101))
 .nil))))
 (.cond (.t x102) (.seq (.ops (.p x103 (.bd (.cons (.s 0 0) (.cons (.p 0) (.cons (.p 0) (.cons (.p 0) (.cons .ns (.cons .ns .nil)))))) [])
 (.cons .no .no (.W (.st (.t x6) 6 (.t x103)))
 (.p x7 (.mv (.c (.s 0 0)))
 (.p x8 (.mv (.c (.p 12)))
 .nil)))))
 .ret)
 .skip))))
 (.ops (.p x104 (.bin .add (.t x96) (.c (.p 1)))
 (.m x96 x104
 .nil)))))))))
 (.seq (.ops (.m x105 x9
 (.p x106 (.nck (.t x105))
 (.p x107 (.fa (.t x106) 0)
 (.cons .no (.ye x108) (.L (.l (.many (.t x107) 6)))
 (.cons .no .no (.W (.st (.t x6) 6 (.t x108)))
 (.p x7 (.mv (.c (.s 0 0)))
 (.p x8 (.mv (.c (.p 0)))
 .nil))))))))
 .ret))))))))
def a87 : AF := .fn (ps16.take 109) b87 (.many [(.c (.many (.t x6) 6)), (.t x7), (.t x8)])
def b88 : ACode := (.seq (.ops (.cons .no (.ye x5) (.W (.bx (.t x2)))
 (.p x6 (.mv (.c (.p 0)))
 (.p x7 (.mv (.c (.p 0)))
 .nil))))
 (.seq (.seq (.ops (.m x15 x0
 (.m x16 x1
 (.s x17 73 [(.t x15), (.t x16)]
 (.p x18 (.nt (.t x17))
 .nil)))))
 (.cond (.t x18) (.seq (.ops (.p x6 (.mv (.c (.p 0)))
 (.p x7 (.mv (.c (.p 24)))
 .nil)))
 .ret)
 .skip))
 (.seq (.seq (.draw (.h .no (.ye x19) (.L (.l (.many (.t x5) 6)))
 (.h .no (.ye x20) (.P (.mv (.t x0)))
 (.h .no (.ye x21) (.P (.mv (.t x1)))
 (.c .no (.ye x22) (.S 79 [(.t x20), (.t x21)]) (.cons .no (.l (.many (.t x5) 6)) x19 .nil)
 (.c .no (.ye x23) (.S 106 [(.t x19), (.t x22)]) .nil
 (.h .no (.ye x8) (.P (.mv (.t x23)))
 .nil)))))))
 (.seq (.ops (.m x24 x8
 (.p x25 (.bin .neq (.t x24) (.c (.p 0)))
 .nil)))
 (.cond (.t x25) (.seq (.ops (.m x26 x8
 (.p x6 (.mv (.c (.p 0)))
 (.m x7 x26
 .nil))))
 .ret)
 .skip)))
 (.seq (.ops (.m x28 x0
 (.p x29 (.fa (.t x5) 0)
 (.l x30 (.t x29)
 (.s x31 24 [(.t x28), (.t x30)]
 (.m x27 x31
 (.p x32 (.ex (.t x27) 0)
 (.p x33 (.ex (.t x27) 1)
 (.m x9 x32
 (.m x10 x33
 .nil))))))))))
 (.seq (.seq (.ops (.m x34 x10
 (.p x35 (.bin .neq (.t x34) (.c (.p 0)))
 .nil)))
 (.cond (.t x35) (.seq (.ops (.m x36 x10
 (.p x6 (.mv (.c (.p 0)))
 (.m x7 x36
 .nil))))
 .ret)
 .skip))
 (.seq (.ops (.m x38 x0
 (.p x39 (.fa (.t x5) 4)
 (.l x40 (.t x39)
 (.p x41 (.bd (.cons (.p 0) (.cons (.s 0 0) (.cons (.p 0) (.cons .ns .nil)))) [(0, 1, (.c (.p 4))), (3, 1, (.t x40))])
 (.s x42 107 [(.t x38), (.t x41)]
 (.m x37 x42
 (.p x43 (.ex (.t x37) 0)
 (.p x44 (.ex (.t x37) 1)
 (.m x11 x43
 (.m x10 x44
 .nil)))))))))))
 (.seq (.seq (.ops (.m x45 x10
 (.p x46 (.bin .neq (.t x45) (.c (.p 0)))
 .nil)))
 (.cond (.t x46) (.seq (.ops (.m x47 x10
 (.p x6 (.mv (.c (.p 0)))
 (.m x7 x47
 .nil))))
 .ret)
 .skip))
 (.seq (.ops (.p x49 (.fa (.t x5) 5)
 (.l x50 (.t x49)
 (.s x51 108 [(.t x50)]
 (.m x48 x51
 (.p x52 (.ex (.t x48) 0)
 (.p x53 (.ex (.t x48) 1)
 (.m x12 x52
 (.m x13 x53
 .nil)))))))))
 (.seq (.ops (.m x55 x0
 (.m x56 x12
 (.s x57 109 [(.t x55), (.t x56)]
 (.m x54 x57
 (.p x58 (.ex (.t x54) 0)
 (.p x59 (.ex (.t x54) 1)
 (.m x14 x58
 (.m x10 x59
 .nil)))))))))
 (.seq (.seq (.ops (.m x60 x10
 (.p x61 (.bin .neq (.t x60) (.c (.p 0)))
 .nil)))
 (.cond (.t x61) (.seq (.ops (.m x62 x10
 (.p x6 (.mv (.c (.p 0)))
 (.m x7 x62
 .nil))))
 .ret)
 .skip))
 (.seq (.draw (.h .no (.ye x63) (.P (.mv (.t x0)))
 (.h .no (.ye x64) (.P (.mv (.t x0)))
 (.h .no (.ye x66) (.P (.mv (.t x9)))
 (.h .no (.ye x67) (.P (.fa (.t x5) 1))
 (.h .no (.ye x68) (.L (.l (.one (.t x67))))
 (.h .no (.ye x70) (.P (.fa (.t x5) 2))
 (.h .no (.ye x71) (.L (.l (.one (.t x70))))
 (.h .no (.ye x73) (.P (.fa (.t x5) 3))
 (.h .no (.ye x74) (.L (.l (.one (.t x73))))
 (.h .no (.ye x76) (.P (.mv (.t x11)))
 (.h .no (.ye x77) (.P (.mv (.t x14)))
 (.h .no (.ye x78) (.P (.mv (.t x1)))
 (.c .no (.ye x65) (.S 27 [(.t x64), (.c (.p 14))]) (.cons .no (.l (.one (.t x67))) x68 (.cons .no (.l (.one (.t x70))) x71 (.cons .no (.l (.one (.t x73))) x74 .nil)))
 (.c .no (.ye x69) (.S 39 [(.t x68)]) (.cons .no (.l (.one (.t x70))) x71 (.cons .no (.l (.one (.t x73))) x74 .nil))
 (.c .no (.ye x72) (.S 39 [(.t x71)]) (.cons .no (.l (.one (.t x73))) x74 .nil)
 (.c .no (.ye x75) (.S 39 [(.t x74)]) .nil
 (.c .no (.ye x79) (.W (.bs (.cons (.p 0) (.cons (.p 0) (.cons (.p 0) (.cons (.p 0) (.cons (.p 0) (.cons (.p 0) (.cons (.p 0) .nil))))))) 7 [(0, 1, (.t x66)), (1, 1, (.t x69)), (2, 1, (.t x72)), (3, 1, (.t x75)), (4, 1, (.t x76)), (5, 1, (.t x77)), (6, 1, (.t x78))])) .nil
 (.c .no (.ye x80) (.S 33 [(.t x63), (.t x65), (.c (.p 0)), (.t x79)]) .nil
 (.h .no (.ye x81) (.P (.ex (.t x80) 0))
 (.h .no (.ye x82) (.P (.ex (.t x80) 1))
 (.h .no (.ye x6) (.P (.mv (.t x81)))
 (.h .no (.ye x7) (.P (.mv (.t x82)))
 .nil)))))))))))))))))))))))
 .ret)))))))))))
def a88 : AF := .fn (ps16.take 83) b88 (.many [(.t x6), (.t x7)])
def b89 : ACode := (.seq (.ops (.p x8 (.mv (.c (.p 0)))
 .nil))
 (.seq (.ops (.m x13 x0
 (.m x14 x1
 (.s x15 75 [(.t x13), (.t x14), (.c (.p 4))]
 (.m x9 x15
 .nil)))))
 (.seq (.seq (.ops (.m x16 x0
 (.p x17 (.nck (.t x16))
 (.p x18 (.fa (.t x17) 0)
 (.l x19 (.t x18)
 (.s x20 76 [(.t x19)]
 (.m x10 x20
 .nil)))))))
 (.blk 0 (.loop (.seq (.seq (.ops (.m x21 x10
 (.p x22 (.bin .gtr (.t x21) (.c (.p 0)))
 (.m x23 x22
 (.cons (.ye x23 true) (.ye x24) (.P (.mv (.t x0)))
 (.cons (.ye x23 true) (.ye x25) (.P (.nck (.t x24)))
 (.cons (.ye x23 true) (.ye x26) (.P (.fa (.t x25) 0))
 (.cons (.ye x23 true) (.ye x27) (.L (.l (.one (.t x26))))
 (.cons (.ye x23 true) (.ye x28) (.P (.mv (.t x9)))
 (.cons (.ye x23 true) (.ye x29) (.S 30 [(.t x27), (.t x28)])
 (.p x30 (.pick (.t x23) (.t x29) (.c (.b false)))
 .nil)))))))))))
 (.cond (.t x30) .skip
 (.exit 0)))
 (.seq (.blk 1 (.seq (.seq (.ops (.m x33 x0
 (.m x34 x0
 (.m x35 x9
 (.s x36 75 [(.t x34), (.t x35), (.c (.p 0))]
 (.s x37 75 [(.t x33), (.t x36), (.c (.p 0))]
 (.m x38 x2
 (.p x39 (.bin .eql (.t x37) (.t x38))
 .nil))))))))
 (.cond (.t x39) (.seq (.ops (.m x40 x0
 (.p x41 (.nck (.t x40))
 (.p x42 (.fa (.t x41) 0)
 (.l x43 (.t x42)
 (.m x44 x9
 (.m x45 x3
 (.s x46 17 [(.t x43), (.t x44), (.c (.p 0)), (.t x45)]
 (.m x8 x46
 .nil)))))))))
 .ret)
 .skip))
 (.ops (.m x47 x0
 (.m x48 x9
 (.s x49 75 [(.t x47), (.t x48), (.c (.p 1))]
 (.m x9 x49
 .nil)))))))
 (.ops (.m x31 x10
 (.p x32 (.bin .sub (.t x31) (.c (.p 1)))
 (.m x10 x32
 .nil)))))))))
 (.seq (.ops (.m x51 x0
 (.m x52 x3
 (.m x53 x0
 (.m x54 x1
 (.s x55 75 [(.t x53), (.t x54), (.c (.p 4))]
 (.s x56 40 [(.t x51), (.t x52), (.t x55)]
 (.m x50 x56
 (.p x57 (.ex (.t x50) 0)
 (.p x58 (.ex (.t x50) 1)
 (.m x11 x57
 (.m x12 x58
 .nil))))))))))))
 (.seq (.seq (.ops (.m x59 x12
 (.p x60 (.bin .neq (.t x59) (.c (.p 0)))
 .nil)))
 (.cond (.t x60) (.seq (.ops (.m x61 x12
 (.m x8 x61
 .nil)))
 .ret)
 .skip))
 (.seq (.ops (.m x62 x0
 (.p x63 (.nck (.t x62))
 (.p x64 (.fa (.t x63) 0)
 (.l x65 (.t x64)
 (.m x66 x1
 (.m x67 x11
 (.s x68 17 [(.t x65), (.t x66), (.c (.p 4)), (.t x67)]
 (.m x8 x68
 .nil)))))))))
 .ret))))))
def a89 : AF := .fn (ps16.take 69) b89 (.one x8)
def b98 : ACode := (.seq (.ops (.p x2 (.mv (.c .ns))
 (.p x3 (.mv (.c (.p 0)))
 (.p x4 (.mv (.c (.p 0)))
 .nil))))
 (.seq (.seq (.ops (.m x10 x0
 (.p x11 (.lnS (.t x10))
 (.p x12 (.bin .gtr (.t x11) (.c (.p 2000)))
 .nil))))
 (.cond (.t x12) (.seq (.ops (.p x2 (.mv (.c .ns))
 (.p x3 (.mv (.c (.p 0)))
 (.p x4 (.mv (.c (.p 12)))
 .nil))))
 .ret)
 .skip))
 (.seq (.ops (.m x13 x0
 (.p x14 (.bd (.cons (.s 0 0) (.cons (.p 0) .nil)) [(0, 1, (.t x13))])
 (.cons .no (.ye x15) (.W (.bx (.t x14)))
 (.m x5 x15
 .nil)))))
 (.seq (.ops (.p x6 (.mv (.c .ns))
 .nil))
 (.seq .skip
 (.seq (.blk 0 (.loop (.blk 1 (.seq (.ops (.m x16 x5
 (.s x17 121 [(.c (.s 4 537725449))]
 (.m x18 x0
 (.p x19 (.lnS (.t x18))
 (.s x20 120 [(.t x16), (.t x17), (.t x19)]
 .nil))))))
 (.seq (.blk 2 (.seq (.ops (.m x22 x5
 (.p x23 (.nck (.t x22))
 (.p x24 (.fa (.t x23) 1)
 (.l x25 (.t x24)
 (.m x26 x0
 (.p x27 (.lnS (.t x26))
 (.p x28 (.bin .geq (.t x25) (.t x27))
 (.m x21 x28
 .nil)))))))))
 (.cond (.t x21) (.exit 0)
 (.seq (.ops (.m x30 x0
 (.m x31 x5
 (.p x32 (.nck (.t x31))
 (.p x33 (.fa (.t x32) 1)
 (.l x34 (.t x33)
 (.p x35 (.ixs (.t x30) (.t x34))
 (.p x36 (.bin .eql (.t x35) (.c (.w .u8 34)))
 (.m x29 x36
 .nil)))))))))
 (.cond (.t x29) (.seq (.ops (.m x37 x0
 (.m x38 x5
 (.p x39 (.nck (.t x38))
 (.p x40 (.fa (.t x39) 1)
 (.l x41 (.t x40)
 (.p x42 (.bin .add (.t x41) (.c (.p 1)))
 (.p x43 (.sls (.t x37) (some (.t x42)) none)
 (.s x44 57 [(.t x43), (.c (.w .u8 34))]
 (.m x7 x44
 .nil))))))))))
 (.seq (.seq (.ops (.m x45 x7
 (.p x46 (.bin .lss (.t x45) (.c (.p 0)))
 .nil)))
 (.cond (.t x46) (.seq (.draw (.h .no (.ye x47) (.P (.mv (.t x5)))
 (.h .no (.ye x48) (.P (.nck (.t x47)))
 (.h .no (.ye x49) (.P (.fa (.t x48) 1))
 (.h .no (.ye x50) (.L (.l (.one (.t x49))))
 (.h .no (.ye x2) (.P (.mv (.c .ns)))
 (.h .no (.ye x3) (.P (.mv (.t x50)))
 (.h .no (.ye x4) (.P (.mv (.c (.p 11))))
 .nil))))))))
 .ret)
 .skip))
 (.seq (.ops (.m x51 x5
 (.p x52 (.nck (.t x51))
 (.p x53 (.fa (.t x52) 1)
 (.l x54 (.t x53)
 (.m x55 x7
 (.p x56 (.bin .add (.t x55) (.c (.p 2)))
 (.p x57 (.bin .add (.t x54) (.t x56))
 (.p x58 (.nck (.t x51))
 (.p x59 (.fa (.t x58) 1)
 (.cons .no .no (.W (.st (.t x59) 1 (.t x57)))
 .nil)))))))))))
 (.exit 1))))
 .skip)))))
 (.seq (.ops (.m x61 x5
 (.s x62 122 [(.t x61)]
 (.m x60 x62
 (.p x63 (.ex (.t x60) 0)
 (.p x64 (.ex (.t x60) 1)
 (.cons .no (.ye x8) (.W (.al (.cons (.p 0) (.cons (.s 0 0) (.cons (.p 0) (.cons (.p 0) .nil))))))
 (.cons .no .no (.W (.st (.t x8) 4 (.t x63)))
 (.m x9 x64
 .nil)))))))))
 (.seq (.seq (.ops (.m x65 x9
 (.p x66 (.bin .neq (.t x65) (.c (.p 0)))
 .nil)))
 (.cond (.t x66) (.seq (.draw (.h .no (.ye x67) (.P (.fa (.t x8) 3))
 (.h .no (.ye x68) (.L (.l (.one (.t x67))))
 (.h .no (.ye x69) (.P (.mv (.t x9)))
 (.h .no (.ye x2) (.P (.mv (.c .ns)))
 (.h .no (.ye x3) (.P (.mv (.t x68)))
 (.h .no (.ye x4) (.P (.mv (.t x69)))
 .nil)))))))
 .ret)
 .skip))
 (.ops (.m x70 x6
 (.cons .no (.ye x71) (.L (.l (.many (.t x8) 4)))
 (.cons .no (.ye x72) (.W (.bs (.cons (.p 0) (.cons (.s 0 0) (.cons (.p 0) (.cons (.p 0) .nil)))) 1 [(0, 4, (.t x71))]))
 (.cons .no (.ye x73) (.W (.app 4 40 (.t x70) (.t x72)))
 (.m x6 x73
 .nil)))))))))))))
 (.seq (.ops (.m x74 x6
 (.m x75 x0
 (.p x76 (.lnS (.t x75))
 (.p x77 (.bd (.cons (.p 0) (.cons (.s 0 0) (.cons (.p 0) (.cons (.p 0) .nil)))) [(3, 1, (.t x76))])
 (.cons .no (.ye x78) (.W (.bs (.cons (.p 0) (.cons (.s 0 0) (.cons (.p 0) (.cons (.p 0) .nil)))) 1 [(0, 4, (.t x77))]))
 (.cons .no (.ye x79) (.W (.app 4 40 (.t x74) (.t x78)))
 (.m x2 x79
 (.p x3 (.mv (.c (.p 0)))
 (.p x4 (.mv (.c (.p 0)))
 .nil))))))))))
 .ret)))))))
def a98 : AF := .fn (ps16.take 80) b98 (.many [(.t x2), (.t x3), (.t x4)])
def b99 : ACode := (.seq (.ops (.p x2 (.mv (.c .ns))
 .nil))
 (.seq (.ops (.p x3 (.mv (.c .ns))
 .nil))
 (.seq (.seq (.ops (.m x4 x0
 (.s x5 123 [(.t x4), (.c (.p 10)), (.c (.s 1 124))]
 (.p x6 (.nt (.t x5))
 .nil))))
 (.cond (.t x6) (.seq (.ops (.p x2 (.mv (.c .ns))
 .nil))
 .ret)
 .skip))
 (.seq (.ops (.m x7 x0
 (.s x8 124 [(.t x7)]
 .nil)))
 (.seq (.blk 0 (.loop (.seq (.seq (.ops (.m x9 x0
 (.s x10 123 [(.t x9), (.c (.p 1)), (.c (.s 0 0))]
 .nil)))
 (.cond (.t x10) .skip
 (.exit 0)))
 (.blk 1 (.ops (.m x11 x3
 (.m x12 x0
 (.s x13 124 [(.t x12)]
 (.p x14 (.fd (.t x13) 1)
 (.cons .no (.ye x15) (.W (.bs (.cons (.s 0 0) .nil) 1 [(0, 1, (.t x14))]))
 (.cons .no (.ye x16) (.W (.app 1 16 (.t x11) (.t x15)))
 (.m x3 x16
 .nil))))))))))))
 (.seq (.ops (.m x17 x0
 (.s x18 101 [(.t x17), (.c (.p 10)), (.c (.s 1 124))]
 .nil)))
 (.seq (.ops (.m x19 x3
 (.m x2 x19
 .nil)))
 .ret)))))))
def a99 : AF := .fn (ps16.take 20) b99 (.one x2)
def b100 : ACode := (.seq (.ops (.p x2 (.mv (.c .ns))
 .nil))
 (.seq (.ops (.p x3 (.mv (.c .ns))
 .nil))
 (.seq (.blk 0 (.loop (.seq (.seq (.ops (.m x4 x0
 (.p x5 (.nck (.t x4))
 (.p x6 (.fa (.t x5) 3)
 (.l x7 (.t x6)
 (.p x8 (.bin .eql (.t x7) (.c (.p 0)))
 (.m x9 x8
 (.cons (.ye x9 true) (.ye x10) (.P (.mv (.t x0)))
 (.cons (.ye x9 true) (.ye x11) (.S 123 [(.t x10), (.c (.p 0)), (.c (.s 0 0))])
 (.cons (.ye x9 true) (.ye x12) (.P (.nt (.t x11)))
 (.p x13 (.pick (.t x9) (.t x12) (.c (.b false)))
 (.m x14 x13
 (.cons (.ye x14 true) (.ye x15) (.P (.mv (.t x0)))
 (.cons (.ye x14 true) (.ye x16) (.S 123 [(.t x15), (.c (.p 10)), (.c (.s 1 93))])
 (.cons (.ye x14 true) (.ye x17) (.P (.nt (.t x16)))
 (.p x18 (.pick (.t x14) (.t x17) (.c (.b false)))
 .nil))))))))))))))))
 (.cond (.t x18) .skip
 (.exit 0)))
 (.blk 1 (.seq (.seq (.ops (.m x19 x0
 (.s x20 123 [(.t x19), (.c (.p 10)), (.c (.s 1 94))]
 .nil)))
 (.cond (.t x20) (.seq (.ops (.m x21 x0
 (.s x22 124 [(.t x21)]
 .nil)))
 (.seq (.ops (.m x23 x3
 (.m x24 x0
 (.s x25 125 [(.t x24)]
 (.cons .no (.ye x26) (.W (.bs (.cons (.p 0) (.cons (.s 0 0) (.cons (.p 0) (.cons .ns (.cons .ns (.cons .ns .nil)))))) 1 [(0, 6, (.t x25))]))
 (.p x27 (.bd (.cons (.p 0) (.cons (.s 0 0) (.cons (.p 0) (.cons .ns (.cons .ns (.cons .ns .nil)))))) [(0, 1, (.c (.p 10))), (5, 1, (.t x26))])
 (.cons .no (.ye x28) (.W (.bs (.cons (.p 0) (.cons (.s 0 0) (.cons (.p 0) (.cons .ns (.cons .ns (.cons .ns .nil)))))) 1 [(0, 6, (.t x27))]))
 (.cons .no (.ye x29) (.W (.app 6 104 (.t x23) (.t x28)))
 (.m x3 x29
 .nil)))))))))
 (.seq (.seq (.ops (.m x30 x0
 (.s x31 123 [(.t x30), (.c (.p 10)), (.c (.s 1 46))]
 .nil)))
 (.cond (.t x31) (.ops (.m x32 x0
 (.s x33 124 [(.t x32)]
 .nil)))
 .skip))
 (.seq (.ops (.m x34 x3
 (.m x2 x34
 .nil)))
 .ret))))
 .skip))
 (.seq (.ops (.m x35 x3
 (.m x36 x0
 (.s x37 125 [(.t x36)]
 (.cons .no (.ye x38) (.W (.bs (.cons (.p 0) (.cons (.s 0 0) (.cons (.p 0) (.cons .ns (.cons .ns (.cons .ns .nil)))))) 1 [(0, 6, (.t x37))]))
 (.cons .no (.ye x39) (.W (.app 6 104 (.t x35) (.t x38)))
 (.m x3 x39
 .nil)))))))
 (.seq (.seq (.ops (.m x40 x0
 (.s x41 123 [(.t x40), (.c (.p 10)), (.c (.s 1 46))]
 (.p x42 (.nt (.t x41))
 .nil))))
 (.cond (.t x42) (.seq (.ops (.m x43 x3
 (.m x2 x43
 .nil)))
 .ret)
 .skip))
 (.ops (.m x44 x0
 (.s x45 124 [(.t x44)]
 .nil))))))))))
 (.seq (.ops (.m x46 x3
 (.m x2 x46
 .nil)))
 .ret))))
def a100 : AF := .fn (ps16.take 47) b100 (.one x2)
def b101 : ACode := (.seq (.ops (.cons .no (.ye x6) (.W (.al (.cons (.p 0) (.cons (.s 0 0) (.cons (.p 0) (.cons (.p 0) .nil))))))
 .nil))
 (.seq (.seq (.ops (.m x7 x0
 (.m x8 x1
 (.m x9 x2
 (.s x10 123 [(.t x7), (.t x8), (.t x9)]
 (.p x11 (.nt (.t x10))
 .nil))))))
 (.cond (.t x11) (.seq (.ops (.m x12 x0
 (.m x13 x0
 (.s x14 127 [(.t x13), (.c (.p 0))]
 (.s x15 126 [(.t x12), (.t x14), (.c (.p 13))]
 .nil)))))
 (.seq (.ops (.p x16 (.bd (.cons (.p 0) (.cons (.s 0 0) (.cons (.p 0) (.cons (.p 0) .nil)))) [])
 (.cons .no .no (.W (.st (.t x6) 4 (.t x16)))
 .nil)))
 .ret))
 .skip))
 (.seq (.ops (.m x17 x0
 (.s x18 124 [(.t x17)]
 (.cons .no .no (.W (.st (.t x6) 4 (.t x18)))
 .nil))))
 .ret)))
def a101 : AF := .fn (ps16.take 19) b101 (.onec (.many (.t x6) 4))
def b102 : ACode := (.blk 0 (.seq (.ops (.m x36 x0
 (.s x37 123 [(.t x36), (.c (.p 1)), (.c (.s 0 0))]
 (.m x35 x37
 .nil))))
 (.cond (.t x35) (.ops (.m x38 x1
 (.m x39 x0
 (.s x40 124 [(.t x39)]
 (.p x41 (.fd (.t x40) 1)
 (.p x42 (.nck (.t x38))
 (.p x43 (.fa (.t x42) 1)
 (.cons .no .no (.W (.st (.t x43) 1 (.t x41)))
 .nil))))))))
 (.seq (.ops (.m x45 x0
 (.s x46 123 [(.t x45), (.c (.p 3)), (.c (.s 0 0))]
 (.m x44 x46
 .nil))))
 (.cond (.t x44) (.seq (.ops (.m x47 x1
 (.m x48 x0
 (.s x49 124 [(.t x48)]
 (.p x50 (.fd (.t x49) 1)
 (.p x51 (.nck (.t x47))
 (.p x52 (.fa (.t x51) 1)
 (.cons .no .no (.W (.st (.t x52) 1 (.t x50)))
 .nil))))))))
 (.draw (.h .no (.ye x53) (.P (.mv (.t x1)))
 (.h .no (.ye x54) (.P (.mv (.t x1)))
 (.h .no (.ye x55) (.P (.nck (.t x54)))
 (.h .no (.ye x56) (.P (.fa (.t x55) 3))
 (.h .no (.ye x57) (.L (.l (.one (.t x56))))
 (.h .no (.ye x58) (.P (.mv (.t x0)))
 (.h .no (.ye x59) (.P (.mv (.t x1)))
 (.h .no (.ye x60) (.P (.nck (.t x59)))
 (.h .no (.ye x61) (.P (.fa (.t x60) 3))
 (.h .no (.ye x62) (.L (.l (.one (.t x61))))
 (.c .no (.ye x63) (.S 128 [(.t x58), (.c (.p 1)), (.t x62)]) (.cons .no (.l (.one (.t x56))) x57 .nil)
 (.c .no (.ye x64) (.W (.bs (.cons (.s 0 0) .nil) 1 [(0, 1, (.t x63))])) (.cons .no (.l (.one (.t x56))) x57 .nil)
 (.c .no (.ye x65) (.W (.app 1 16 (.t x57) (.t x64))) .nil
 (.h .no (.ye x66) (.P (.nck (.t x53)))
 (.h .no (.ye x67) (.P (.fa (.t x66) 3))
 (.c .no .no (.W (.st (.t x67) 1 (.t x65))) .nil
 .nil))))))))))))))))))
 (.seq (.ops (.p x4 (.mv (.c (.b true)))
 .nil))
 (.blk 1 (.loop (.seq (.seq (.ops (.m x5 x4
 (.m x6 x5
 (.cons (.ye x6 false) (.ye x7) (.P (.mv (.t x0)))
 (.cons (.ye x6 false) (.ye x8) (.S 123 [(.t x7), (.c (.p 2)), (.c (.s 0 0))])
 (.p x9 (.pick (.t x6) (.c (.b true)) (.t x8))
 .nil))))))
 (.cond (.t x9) .skip
 (.exit 1)))
 (.seq (.blk 2 (.seq (.draw (.h .no (.ye x10) (.P (.mv (.t x1)))
 (.h .no (.ye x11) (.P (.nck (.t x10)))
 (.h .no (.ye x12) (.P (.fa (.t x11) 1))
 (.h .no (.ye x13) (.L (.l (.one (.t x12))))
 (.h .no (.ye x14) (.P (.mv (.t x0)))
 (.c .no (.ye x15) (.S 101 [(.t x14), (.c (.p 2)), (.c (.s 0 0))]) (.cons .no (.l (.one (.t x12))) x13 .nil)
 (.h .no (.ye x16) (.P (.fd (.t x15) 1))
 (.h .no (.ye x17) (.P (.bin .add (.t x13) (.t x16)))
 (.h .no (.ye x18) (.P (.nck (.t x10)))
 (.h .no (.ye x19) (.P (.fa (.t x18) 1))
 (.c .no .no (.W (.st (.t x19) 1 (.t x17))) .nil
 .nil))))))))))))
 (.draw (.h .no (.ye x20) (.P (.mv (.t x1)))
 (.h .no (.ye x21) (.P (.mv (.t x1)))
 (.h .no (.ye x22) (.P (.nck (.t x21)))
 (.h .no (.ye x23) (.P (.fa (.t x22) 3))
 (.h .no (.ye x24) (.L (.l (.one (.t x23))))
 (.h .no (.ye x25) (.P (.mv (.t x0)))
 (.h .no (.ye x26) (.P (.mv (.t x1)))
 (.h .no (.ye x27) (.P (.nck (.t x26)))
 (.h .no (.ye x28) (.P (.fa (.t x27) 3))
 (.h .no (.ye x29) (.L (.l (.one (.t x28))))
 (.c .no (.ye x30) (.S 128 [(.t x25), (.c (.p 1)), (.t x29)]) (.cons .no (.l (.one (.t x23))) x24 .nil)
 (.c .no (.ye x31) (.W (.bs (.cons (.s 0 0) .nil) 1 [(0, 1, (.t x30))])) (.cons .no (.l (.one (.t x23))) x24 .nil)
 (.c .no (.ye x32) (.W (.app 1 16 (.t x24) (.t x31))) .nil
 (.h .no (.ye x33) (.P (.nck (.t x20)))
 (.h .no (.ye x34) (.P (.fa (.t x33) 3))
 (.c .no .no (.W (.st (.t x34) 1 (.t x32))) .nil
 .nil)))))))))))))))))))
 (.ops (.p x4 (.mv (.c (.b false)))
 .nil))))))))))))
def a102 : AF := .fn (ps16.take 68) b102 .none
def b103 : ACode := (.seq (.ops (.p x2 (.mv (.c (.p 0)))
 .nil))
 (.seq (.seq (.ops (.m x4 x0
 (.s x5 123 [(.t x4), (.c (.p 3)), (.c (.s 1 60))]
 (.p x6 (.nt (.t x5))
 .nil))))
 (.cond (.t x6) (.seq (.ops (.p x2 (.mv (.c (.p 0)))
 .nil))
 .ret)
 .skip))
 (.seq (.ops (.m x7 x0
 (.s x8 124 [(.t x7)]
 .nil)))
 (.seq (.ops (.m x9 x0
 (.s x10 101 [(.t x9), (.c (.p 2)), (.c (.s 10 275768909636849273238128))]
 .nil)))
 (.seq (.ops (.m x11 x0
 (.s x12 101 [(.t x11), (.c (.p 4)), (.c (.s 0 0))]
 (.cons .no (.ye x3) (.W (.al (.cons (.p 0) (.cons (.s 0 0) (.cons (.p 0) (.cons (.p 0) .nil))))))
 (.cons .no .no (.W (.st (.t x3) 4 (.t x12)))
 .nil)))))
 (.seq (.seq (.ops (.p x13 (.fa (.t x3) 2)
 (.l x14 (.t x13)
 (.p x15 (.bin .gtr (.t x14) (.c (.p 255)))
 .nil))))
 (.cond (.t x15) (.ops (.m x16 x0
 (.cons .no (.ye x17) (.L (.l (.many (.t x3) 4)))
 (.s x18 126 [(.t x16), (.t x17), (.c (.p 2))]
 .nil))))
 .skip))
 (.seq (.ops (.m x19 x0
 (.s x20 101 [(.t x19), (.c (.p 3)), (.c (.s 1 62))]
 .nil)))
 (.seq (.ops (.p x21 (.fa (.t x3) 2)
 (.l x22 (.t x21)
 (.m x2 x22
 .nil))))
 .ret))))))))
def a103 : AF := .fn (ps16.take 23) b103 (.one x2)
def b104 : ACode := (.seq (.ops (.cons .no (.ye x4) (.W (.bx (.t x1)))
 .nil))
 (.seq (.ops (.m x9 x0
 (.p x10 (.fa (.t x4) 3)
 (.l x11 (.t x10)
 (.s x12 129 [(.t x9), (.t x11), (.c (.b true))]
 .nil)))))
 (.seq (.ops (.m x13 x0
 (.p x14 (.fa (.t x4) 4)
 (.l x15 (.t x14)
 (.s x16 129 [(.t x13), (.t x15), (.c (.b false))]
 .nil)))))
 (.seq (.ops (.p x17 (.fa (.t x4) 5)
 (.l x18 (.t x17)
 (.p x19 (.lnX (.t x18))
 (.p x20 (.bin .sub (.t x19) (.c (.p 1)))
 (.m x6 x20
 .nil))))))
 (.seq (.seq (.ops (.p x21 (.fa (.t x4) 5)
 (.l x22 (.t x21)
 (.p x23 (.lnX (.t x22))
 (.p x24 (.mv (.c (.p 0)))
 .nil)))))
 (.blk 0 (.loop (.seq (.ops (.p x25 (.bin .lss (.t x24) (.t x23))
 .nil))
 (.seq (.cond (.t x25) .skip
 (.exit 0))
 (.seq (.blk 1 (.seq (.ops (.m x26 x24
 (.p x27 (.ia (.t x22) (.t x24) 6)
 (.cons .no (.ye x28) (.L (.l (.many (.t x27) 6)))
 (.cons .no (.ye x8) (.W (.al (.cons (.p 0) (.cons (.s 0 0) (.cons (.p 0) (.cons .ns (.cons .ns (.cons .ns .nil))))))))
 (.m x7 x26
 (.cons .no .no (.W (.st (.t x8) 6 (.t x28)))
 .nil)))))))
 (.seq (.ops (.m x29 x0
 (.cons .no (.ye x30) (.L (.l (.many (.t x8) 6)))
 (.s x31 130 [(.t x29), (.t x30)]
 .nil))))
 (.seq (.blk 2 (.seq (.ops (.m x33 x7
 (.m x34 x6
 (.p x35 (.bin .eql (.t x33) (.t x34))
 (.m x36 x35
 (.cons (.ye x36 true) (.ye x37) (.P (.fa (.t x8) 0))
 (.cons (.ye x36 true) (.ye x38) (.L (.l (.one (.t x37))))
 (.cons (.ye x36 true) (.ye x39) (.P (.bin .eql (.t x38) (.c (.p 10))))
 (.p x40 (.pick (.t x36) (.t x39) (.c (.b false)))
 (.m x32 x40
 .nil))))))))))
 (.cond (.t x32) .ret
 (.seq (.ops (.m x42 x7
 (.m x43 x6
 (.p x44 (.bin .eql (.t x42) (.t x43))
 (.m x45 x44
 (.cons (.ye x45 true) (.ye x46) (.P (.mv (.t x2)))
 (.p x47 (.pick (.t x45) (.t x46) (.c (.b false)))
 (.m x41 x47
 .nil))))))))
 (.cond (.t x41) (.seq (.ops (.m x48 x0
 (.s x49 131 [(.t x48), (.c (.p 20)), (.c (.p 0)), (.c (.p 0))]
 .nil)))
 .ret)
 (.seq (.ops (.p x51 (.fa (.t x8) 0)
 (.l x52 (.t x51)
 (.p x53 (.bin .eql (.t x52) (.c (.p 10)))
 (.m x50 x53
 .nil)))))
 (.cond (.t x50) (.exit 1)
 .skip)))))))
 (.ops (.m x54 x0
 (.s x55 131 [(.t x54), (.c (.p 12)), (.c (.p 0)), (.c (.p 0))]
 .nil)))))))
 (.ops (.p x56 (.bin .add (.t x24) (.c (.p 1)))
 (.m x24 x56
 .nil)))))))))
 (.seq (.seq (.ops (.m x57 x2
 .nil))
 (.cond (.t x57) (.ops (.m x58 x0
 (.s x59 131 [(.t x58), (.c (.p 2)), (.c (.p 0)), (.c (.p 0))]
 .nil)))
 (.ops (.m x60 x0
 (.s x61 131 [(.t x60), (.c (.p 1)), (.c (.p 0)), (.c (.p 0))]
 .nil)))))
 (.ops (.m x62 x0
 (.s x63 131 [(.t x62), (.c (.p 20)), (.c (.p 0)), (.c (.p 0))]
 .nil)))))))))
def a104 : AF := .fn (ps16.take 64) b104 .none
def b105 : ACode := (.seq (.ops (.cons .no (.ye x1) (.W (.bx (.t x0)))
 (.p x2 (.mv (.c (.b false)))
 .nil)))
 (.seq (.ops (.p x6 (.fa (.t x1) 0)
 (.l x7 (.t x6)
 (.s x8 132 [(.t x7)]
 (.m x5 x8
 (.p x9 (.ex (.t x5) 0)
 (.p x10 (.ex (.t x5) 1)
 (.m x3 x9
 (.m x4 x10
 .nil)))))))))
 (.seq (.ops (.p x11 (.fa (.t x1) 0)
 (.l x12 (.t x11)
 (.p x13 (.bin .geq (.t x12) (.c (.p 1)))
 (.m x14 x13
 (.cons (.ye x14 true) (.ye x15) (.P (.fa (.t x1) 0))
 (.cons (.ye x14 true) (.ye x16) (.L (.l (.one (.t x15))))
 (.cons (.ye x14 true) (.ye x17) (.P (.bin .leq (.t x16) (.c (.p 20))))
 (.p x18 (.pick (.t x14) (.t x17) (.c (.b false)))
 (.m x19 x18
 (.cons (.ye x19 true) (.ye x20) (.P (.fa (.t x1) 1))
 (.cons (.ye x19 true) (.ye x21) (.L (.l (.one (.t x20))))
 (.cons (.ye x19 true) (.ye x22) (.P (.mv (.t x3)))
 (.cons (.ye x19 true) (.ye x23) (.S 133 [(.t x21), (.t x22)])
 (.p x24 (.pick (.t x19) (.t x23) (.c (.b false)))
 (.m x25 x24
 (.cons (.ye x25 true) (.ye x26) (.P (.fa (.t x1) 2))
 (.cons (.ye x25 true) (.ye x27) (.L (.l (.one (.t x26))))
 (.cons (.ye x25 true) (.ye x28) (.P (.mv (.t x4)))
 (.cons (.ye x25 true) (.ye x29) (.S 133 [(.t x27), (.t x28)])
 (.p x30 (.pick (.t x25) (.t x29) (.c (.b false)))
 (.m x2 x30
 .nil))))))))))))))))))))))
 .ret)))
def a105 : AF := .fn (ps16.take 31) b105 (.one x2)
def b106 : ACode := (.seq (.ops (.cons .no (.ye x2) (.W (.bx (.t x0)))
 (.p x4 (.mv (.c (.p 0)))
 .nil)))
 (.seq (.ops (.cons .no (.ye x8) (.L (.l (.many (.t x2) 6)))
 (.m x9 x1
 (.s x10 134 [(.t x8), (.t x9)]
 (.m x7 x10
 (.p x11 (.ex (.t x7) 0)
 (.p x12 (.ex (.t x7) 1)
 (.m x5 x11
 (.m x6 x12
 .nil)))))))))
 (.seq (.ops (.m x13 x6
 (.m x4 x13
 .nil)))
 .ret)))
def a106 : AF := .fn (ps16.take 14) b106 (.one x4)
def b107 : ACode := (.seq (.ops (.cons .no (.ye x3) (.W (.bx (.t x1)))
 (.p x4 (.mv (.c (.p 0)))
 (.p x5 (.mv (.c (.p 0)))
 .nil))))
 (.seq (.seq (.ops (.p x11 (.fa (.t x3) 0)
 (.l x12 (.t x11)
 .nil)))
 (.blk 0 (.seq (.ops (.p x14 (.bin .eql (.t x12) (.c (.p 1)))
 (.m x13 x14
 .nil)))
 (.cond (.t x13) (.seq (.ops (.m x15 x0
 (.p x16 (.fa (.t x3) 2)
 (.l x17 (.t x16)
 (.s x18 22 [(.t x15), (.t x17)]
 (.p x19 (.ex (.t x18) 0)
 (.p x20 (.ex (.t x18) 1)
 (.m x4 x19
 (.m x5 x20
 .nil)))))))))
 .ret)
 (.seq (.ops (.p x22 (.bin .eql (.t x12) (.c (.p 2)))
 (.m x21 x22
 .nil)))
 (.cond (.t x21) (.seq (.ops (.m x23 x0
 (.p x24 (.fa (.t x3) 1)
 (.l x25 (.t x24)
 (.s x26 23 [(.t x23), (.t x25)]
 (.p x27 (.ex (.t x26) 0)
 (.p x28 (.ex (.t x26) 1)
 (.m x4 x27
 (.m x5 x28
 .nil)))))))))
 .ret)
 (.seq (.ops (.p x30 (.bin .eql (.t x12) (.c (.p 3)))
 (.m x29 x30
 .nil)))
 (.cond (.t x29) (.seq (.ops (.m x31 x0
 (.p x32 (.fa (.t x3) 1)
 (.l x33 (.t x32)
 (.s x34 24 [(.t x31), (.t x33)]
 (.p x35 (.ex (.t x34) 0)
 (.p x36 (.ex (.t x34) 1)
 (.m x4 x35
 (.m x5 x36
 .nil)))))))))
 .ret)
 .skip))))))))
 (.seq (.ops (.p x6 (.mv (.c .ns))
 .nil))
 (.seq (.seq (.ops (.p x37 (.fa (.t x3) 3)
 (.l x38 (.t x37)
 (.p x39 (.lnX (.t x38))
 (.p x40 (.mv (.c (.p 0)))
 .nil)))))
 (.blk 1 (.loop (.seq (.ops (.p x41 (.bin .lss (.t x40) (.t x39))
 .nil))
 (.seq (.cond (.t x41) .skip
 (.exit 1))
 (.seq (.blk 2 (.seq (.ops (.p x42 (.ia (.t x38) (.t x40) 4)
 (.cons .no (.ye x43) (.L (.l (.many (.t x42) 4)))
 (.cons .no (.ye x8) (.W (.al (.cons (.p 0) (.cons (.s 0 0) (.cons (.p 0) (.cons .ns .nil))))))
 (.cons .no .no (.W (.st (.t x8) 4 (.t x43)))
 .nil)))))
 (.seq (.ops (.m x45 x0
 (.cons .no (.ye x46) (.L (.l (.many (.t x8) 4)))
 (.s x47 107 [(.t x45), (.t x46)]
 (.m x44 x47
 (.p x48 (.ex (.t x44) 0)
 (.p x49 (.ex (.t x44) 1)
 (.m x9 x48
 (.m x10 x49
 .nil)))))))))
 (.seq (.seq (.ops (.m x50 x10
 (.p x51 (.bin .neq (.t x50) (.c (.p 0)))
 .nil)))
 (.cond (.t x51) (.seq (.ops (.m x52 x10
 (.p x4 (.mv (.c (.p 0)))
 (.m x5 x52
 .nil))))
 .ret)
 .skip))
 (.ops (.m x53 x6
 (.m x54 x9
 (.cons .no (.ye x55) (.W (.bs (.cons (.p 0) .nil) 1 [(0, 1, (.t x54))]))
 (.cons .no (.ye x56) (.W (.app 1 8 (.t x53) (.t x55)))
 (.m x6 x56
 .nil))))))))))
 (.ops (.p x57 (.bin .add (.t x40) (.c (.p 1)))
 (.m x40 x57
 .nil)))))))))
 (.seq (.ops (.m x58 x0
 (.m x59 x6
 (.s x60 16 [(.t x58), (.t x59)]
 (.p x61 (.ex (.t x60) 0)
 (.p x62 (.ex (.t x60) 1)
 (.m x4 x61
 (.m x5 x62
 .nil))))))))
 .ret)))))
def a107 : AF := .fn (ps16.take 63) b107 (.many [(.t x4), (.t x5)])
def b108 : ACode := (.seq (.ops (.p x2 (.mv (.c .ns))
 (.p x3 (.mv (.c (.p 0)))
 .nil)))
 (.seq (.seq (.ops (.m x7 x0
 (.p x8 (.lnX (.t x7))
 (.p x9 (.bin .gtr (.t x8) (.c (.p 400)))
 .nil))))
 (.cond (.t x9) (.seq (.ops (.p x2 (.mv (.c .ns))
 (.p x3 (.mv (.c (.p 19)))
 .nil)))
 .ret)
 .skip))
 (.seq (.ops (.p x4 (.mv (.c .ns))
 .nil))
 (.seq (.seq (.ops (.m x10 x0
 (.p x11 (.lnX (.t x10))
 (.p x12 (.mv (.c (.p 0)))
 .nil))))
 (.blk 0 (.loop (.seq (.ops (.p x13 (.bin .lss (.t x12) (.t x11))
 .nil))
 (.seq (.cond (.t x13) .skip
 (.exit 0))
 (.seq (.blk 1 (.seq (.ops (.p x14 (.ia (.t x10) (.t x12) 3)
 (.cons .no (.ye x15) (.L (.l (.many (.t x14) 3)))
 (.cons .no (.ye x6) (.W (.al (.cons (.p 0) (.cons (.p 0) (.cons (.p 0) .nil)))))
 (.cons .no .no (.W (.st (.t x6) 3 (.t x15)))
 .nil)))))
 (.seq (.seq (.ops (.cons .no (.ye x16) (.L (.l (.many (.t x6) 3)))
 (.s x17 105 [(.t x16)]
 (.p x18 (.nt (.t x17))
 .nil))))
 (.cond (.t x18) (.seq (.ops (.p x2 (.mv (.c .ns))
 (.p x3 (.mv (.c (.p 19)))
 .nil)))
 .ret)
 .skip))
 (.ops (.m x19 x4
 (.p x20 (.fa (.t x6) 0)
 (.l x21 (.t x20)
 (.p x22 (.cv .u8 (.t x21))
 (.p x23 (.fa (.t x6) 1)
 (.l x24 (.t x23)
 (.p x25 (.cv .u8 (.t x24))
 (.p x26 (.fa (.t x6) 2)
 (.l x27 (.t x26)
 (.p x28 (.cv .u8 (.t x27))
 (.cons .no (.ye x29) (.W (.bs (.cons (.w .u8 0) (.cons (.w .u8 0) (.cons (.w .u8 0) .nil))) 3 [(0, 1, (.t x22)), (1, 1, (.t x25)), (2, 1, (.t x28))]))
 (.cons .no (.ye x30) (.W (.app 1 1 (.t x19) (.t x29)))
 (.m x4 x30
 .nil)))))))))))))))))
 (.ops (.p x31 (.bin .add (.t x12) (.c (.p 1)))
 (.m x12 x31
 .nil)))))))))
 (.seq (.ops (.m x32 x4
 (.m x2 x32
 (.p x3 (.mv (.c (.p 0)))
 .nil))))
 .ret)))))
def a108 : AF := .fn (ps16.take 33) b108 (.many [(.t x2), (.t x3)])
def b109 : ACode := (.seq (.ops (.p x4 (.mv (.c (.p 0)))
 (.p x5 (.mv (.c (.p 0)))
 .nil)))
 (.seq (.ops (.p x6 (.mv (.c .ns))
 .nil))
 (.seq (.blk 0 (.loop (.seq (.seq (.ops (.m x10 x1
 (.p x11 (.lnX (.t x10))
 (.p x12 (.bin .gtr (.t x11) (.c (.p 0)))
 .nil))))
 (.cond (.t x12) .skip
 (.exit 0)))
 (.blk 1 (.seq (.ops (.m x13 x1
 (.p x14 (.lnX (.t x13))
 (.p x15 (.mm false (.t x14) (.c (.p 240)))
 (.m x7 x15
 .nil)))))
 (.seq (.draw (.h .no (.ye x17) (.P (.mv (.t x0)))
 (.h .no (.ye x18) (.P (.mv (.t x0)))
 (.h .no (.ye x20) (.P (.mv (.t x1)))
 (.h .no (.ye x21) (.P (.mv (.t x7)))
 (.h .no (.ye x22) (.P (.slx (.t x20) none (some (.t x21)) none 1))
 (.h .no (.ye x23) (.L (.b (.t x22)))
 (.c .no (.ye x19) (.S 27 [(.t x18), (.c (.p 10))]) (.cons .no (.b (.t x22)) x23 .nil)
 (.c .no (.ye x24) (.S 59 [(.t x17), (.t x19), (.t x23)]) .nil
 (.h .no (.ye x16) (.P (.mv (.t x24)))
 (.h .no (.ye x25) (.P (.ex (.t x16) 0))
 (.h .no (.ye x26) (.P (.ex (.t x16) 1))
 (.h .no (.ye x8) (.P (.mv (.t x25)))
 (.h .no (.ye x9) (.P (.mv (.t x26)))
 .nil))))))))))))))
 (.seq (.seq (.ops (.m x27 x9
 (.p x28 (.bin .neq (.t x27) (.c (.p 0)))
 .nil)))
 (.cond (.t x28) (.seq (.ops (.m x29 x9
 (.p x4 (.mv (.c (.p 0)))
 (.m x5 x29
 .nil))))
 .ret)
 .skip))
 (.draw (.h .no (.ye x30) (.P (.mv (.t x6)))
 (.h .no (.ye x31) (.P (.mv (.t x8)))
 (.h .no (.ye x34) (.P (.mv (.t x1)))
 (.h .no (.ye x35) (.P (.mv (.t x7)))
 (.h .no (.ye x36) (.P (.slx (.t x34) (some (.t x35)) none none 1))
 (.c .no (.ye x32) (.W (.bs (.cons (.p 0) .nil) 1 [(0, 1, (.t x31))])) .nil
 (.c .no (.ye x33) (.W (.app 1 8 (.t x30) (.t x32))) .nil
 (.h .no (.ye x6) (.P (.mv (.t x33)))
 (.h .no (.ye x1) (.P (.mv (.t x36)))
 .nil)))))))))))))))))
 (.seq (.ops (.m x37 x0
 (.m x38 x6
 (.s x39 16 [(.t x37), (.t x38)]
 (.p x40 (.ex (.t x39) 0)
 (.p x41 (.ex (.t x39) 1)
 (.m x4 x40
 (.m x5 x41
 .nil))))))))
 .ret))))
def a109 : AF := .fn (ps16.take 42) b109 (.many [(.t x4), (.t x5)])
def b120 : ACode := (.seq (.ops (.p x6 (.mv (.c (.s 0 0)))
 .nil))
 (.seq (.ops (.m x8 x0
 (.p x9 (.nck (.t x8))
 (.p x10 (.fa (.t x9) 1)
 (.l x11 (.t x10)
 (.m x7 x11
 .nil))))))
 (.seq (.blk 0 (.loop (.seq (.seq (.draw (.h .no (.ye x12) (.P (.mv (.t x0)))
 (.h .no (.ye x13) (.P (.nck (.t x12)))
 (.h .no (.ye x14) (.P (.fa (.t x13) 1))
 (.h .no (.ye x15) (.L (.l (.one (.t x14))))
 (.h .no (.ye x16) (.P (.mv (.t x0)))
 (.h .no (.ye x17) (.P (.nck (.t x16)))
 (.h .no (.ye x18) (.P (.fa (.t x17) 0))
 (.h .no (.ye x19) (.L (.l (.one (.t x18))))
 (.h .no (.ye x20) (.P (.lnS (.t x19)))
 (.h .no (.ye x21) (.P (.bin .lss (.t x15) (.t x20)))
 (.h .no (.ye x22) (.P (.mv (.t x21)))
 (.h (.ye x22 true) (.ye x23) (.P (.mv (.t x0)))
 (.h (.ye x22 true) (.ye x24) (.P (.nck (.t x23)))
 (.h (.ye x22 true) (.ye x25) (.P (.fa (.t x24) 1))
 (.h (.ye x22 true) (.ye x26) (.L (.l (.one (.t x25))))
 (.h (.ye x22 true) (.ye x27) (.P (.mv (.t x7)))
 (.h (.ye x22 true) (.ye x28) (.P (.bin .sub (.t x26) (.t x27)))
 (.h (.ye x22 true) (.ye x29) (.P (.mv (.t x2)))
 (.h (.ye x22 true) (.ye x30) (.P (.bin .lss (.t x28) (.t x29)))
 (.h .no (.ye x31) (.P (.pick (.t x22) (.t x30) (.c (.b false))))
 (.h .no (.ye x32) (.P (.mv (.t x31)))
 (.h (.ye x32 true) (.ye x33) (.P (.mv (.t x1)))
 (.h (.ye x32 true) (.ye x34) (.P (.mv (.t x0)))
 (.h (.ye x32 true) (.ye x35) (.P (.nck (.t x34)))
 (.h (.ye x32 true) (.ye x36) (.P (.fa (.t x35) 0))
 (.h (.ye x32 true) (.ye x37) (.L (.l (.one (.t x36))))
 (.h (.ye x32 true) (.ye x38) (.P (.mv (.t x0)))
 (.h (.ye x32 true) (.ye x39) (.P (.nck (.t x38)))
 (.h (.ye x32 true) (.ye x40) (.P (.fa (.t x39) 1))
 (.h (.ye x32 true) (.ye x41) (.L (.l (.one (.t x40))))
 (.h (.ye x32 true) (.ye x42) (.P (.ixs (.t x37) (.t x41)))
 (.c (.ye x32 true) (.ye x43) (.V (.t x33) [(.t x42)]) .nil
 (.h .no (.ye x44) (.P (.pick (.t x32) (.t x43) (.c (.b false))))
 .nil))))))))))))))))))))))))))))))))))
 (.cond (.t x44) .skip
 (.exit 0)))
 (.blk 1 (.ops (.m x45 x0
 (.p x46 (.nck (.t x45))
 (.p x47 (.fa (.t x46) 1)
 (.l x48 (.t x47)
 (.p x49 (.bin .add (.t x48) (.c (.p 1)))
 (.p x50 (.nck (.t x45))
 (.p x51 (.fa (.t x50) 1)
 (.cons .no .no (.W (.st (.t x51) 1 (.t x49)))
 .nil)))))))))))))
 (.seq (.draw (.h .no (.ye x52) (.P (.mv (.t x0)))
 (.h .no (.ye x53) (.P (.nck (.t x52)))
 (.h .no (.ye x54) (.P (.fa (.t x53) 0))
 (.h .no (.ye x55) (.L (.l (.one (.t x54))))
 (.h .no (.ye x56) (.P (.mv (.t x7)))
 (.h .no (.ye x57) (.P (.mv (.t x0)))
 (.h .no (.ye x58) (.P (.nck (.t x57)))
 (.h .no (.ye x59) (.P (.fa (.t x58) 1))
 (.h .no (.ye x60) (.L (.l (.one (.t x59))))
 (.h .no (.ye x61) (.P (.sls (.t x55) (some (.t x56)) (some (.t x60))))
 (.h .no (.ye x6) (.P (.mv (.t x61)))
 .nil))))))))))))
 .ret))))
def a120 : AF := .fn (ps16.take 62) b120 (.one x6)
def b121 : ACode := (.seq (.ops (.cons .no (.ye x1) (.W (.bx (.t x0)))
 (.p x2 (.mv (.c .nf))
 .nil)))
 (.seq (.ops (.p x3 (.mf 145 [] [(.t x1)])
 (.m x2 x3
 .nil)))
 .ret))
def a121 : AF := .fn (ps16.take 4) b121 (.one x2)
def b122 : ACode := (.seq (.ops (.cons .no (.ye x2) (.W (.al (.cons (.p 0) (.cons (.s 0 0) (.cons (.p 0) (.cons (.p 0) .nil))))))
 (.p x3 (.mv (.c (.p 0)))
 .nil)))
 (.seq (.ops (.m x7 x0
 (.p x8 (.nck (.t x7))
 (.p x9 (.fa (.t x8) 1)
 (.l x10 (.t x9)
 (.p x11 (.bd (.cons (.p 0) (.cons (.s 0 0) (.cons (.p 0) (.cons (.p 0) .nil)))) [(3, 1, (.t x10))])
 (.cons .no (.ye x4) (.W (.al (.cons (.p 0) (.cons (.s 0 0) (.cons (.p 0) (.cons (.p 0) .nil))))))
 (.cons .no .no (.W (.st (.t x4) 4 (.t x11)))
 .nil))))))))
 (.seq (.ops (.p x5 (.mv (.c (.p 0)))
 .nil))
 (.seq (.ops (.m x12 x0
 (.s x13 146 [(.t x12), (.c (.p 0))]
 (.m x6 x13
 .nil))))
 (.seq (.blk 0 (.seq (.ops (.m x15 x6
 (.s x16 147 [(.t x15)]
 (.m x14 x16
 .nil))))
 (.cond (.t x14) (.seq (.ops (.p x17 (.fa (.t x4) 0)
 (.cons .no .no (.W (.st (.t x17) 1 (.c (.p 1))))
 .nil)))
 (.seq (.ops (.m x19 x0
 (.s x20 148 [(.t x19)]
 (.m x18 x20
 (.p x21 (.ex (.t x18) 0)
 (.p x22 (.ex (.t x18) 1)
 (.p x23 (.fa (.t x4) 1)
 (.cons .no .no (.W (.st (.t x23) 1 (.t x21)))
 (.m x5 x22
 .nil)))))))))
 (.seq (.ops (.m x24 x5
 (.p x25 (.bin .eql (.t x24) (.c (.p 0)))
 (.m x26 x25
 (.cons (.ye x26 true) (.ye x27) (.P (.mv (.t x0)))
 (.cons (.ye x26 true) (.ye x28) (.S 149 [(.t x27)])
 (.p x29 (.pick (.t x26) (.t x28) (.c (.b false)))
 .nil)))))))
 (.cond (.t x29) (.ops (.p x30 (.fa (.t x4) 1)
 (.l x31 (.t x30)
 (.p x32 (.bin .add (.t x31) (.c (.s 1 58)))
 (.p x33 (.fa (.t x4) 0)
 (.cons .no .no (.W (.st (.t x33) 1 (.c (.p 2))))
 (.p x34 (.fa (.t x4) 1)
 (.cons .no .no (.W (.st (.t x34) 1 (.t x32)))
 .nil))))))))
 .skip))))
 (.seq (.ops (.m x36 x6
 (.s x37 150 [(.t x36)]
 (.m x35 x37
 .nil))))
 (.cond (.t x35) (.seq (.ops (.p x38 (.fa (.t x4) 0)
 (.cons .no .no (.W (.st (.t x38) 1 (.c (.p 4))))
 .nil)))
 (.ops (.m x40 x0
 (.s x41 151 [(.t x40)]
 (.m x39 x41
 (.p x42 (.ex (.t x39) 0)
 (.p x43 (.ex (.t x39) 1)
 (.p x44 (.fa (.t x4) 2)
 (.cons .no .no (.W (.st (.t x44) 1 (.t x42)))
 (.m x5 x43
 .nil))))))))))
 (.seq (.ops (.m x46 x6
 (.p x47 (.bin .eql (.t x46) (.c (.w .u8 39)))
 (.m x45 x47
 .nil))))
 (.cond (.t x45) (.seq (.ops (.m x48 x0
 (.p x49 (.nck (.t x48))
 (.p x50 (.fa (.t x49) 1)
 (.l x51 (.t x50)
 (.p x52 (.bin .add (.t x51) (.c (.p 1)))
 (.p x53 (.nck (.t x48))
 (.p x54 (.fa (.t x53) 1)
 (.cons .no .no (.W (.st (.t x54) 1 (.t x52)))
 .nil)))))))))
 (.seq (.ops (.p x55 (.fa (.t x4) 0)
 (.cons .no .no (.W (.st (.t x55) 1 (.c (.p 5))))
 .nil)))
 (.ops (.m x57 x0
 (.s x58 152 [(.t x57)]
 (.m x56 x58
 (.p x59 (.ex (.t x56) 0)
 (.p x60 (.ex (.t x56) 1)
 (.p x61 (.fa (.t x4) 1)
 (.cons .no .no (.W (.st (.t x61) 1 (.t x59)))
 (.m x5 x60
 .nil)))))))))))
 (.seq (.ops (.m x63 x6
 (.p x64 (.bin .eql (.t x63) (.c (.w .u8 35)))
 (.m x65 x64
 (.cons (.ye x65 true) (.ye x66) (.P (.mv (.t x0)))
 (.cons (.ye x65 true) (.ye x67) (.S 146 [(.t x66), (.c (.p 1))])
 (.cons (.ye x65 true) (.ye x68) (.P (.bin .eql (.t x67) (.c (.w .u8 40))))
 (.p x69 (.pick (.t x65) (.t x68) (.c (.b false)))
 (.m x62 x69
 .nil)))))))))
 (.cond (.t x62) (.seq (.ops (.m x70 x0
 (.p x71 (.nck (.t x70))
 (.p x72 (.fa (.t x71) 1)
 (.l x73 (.t x72)
 (.p x74 (.bin .add (.t x73) (.c (.p 2)))
 (.p x75 (.nck (.t x70))
 (.p x76 (.fa (.t x75) 1)
 (.cons .no .no (.W (.st (.t x76) 1 (.t x74)))
 .nil)))))))))
 (.ops (.p x77 (.fa (.t x4) 0)
 (.cons .no .no (.W (.st (.t x77) 1 (.c (.p 7))))
 .nil))))
 (.seq (.ops (.m x79 x6
 (.p x80 (.bin .eql (.t x79) (.c (.w .u8 35)))
 (.m x78 x80
 .nil))))
 (.cond (.t x78) (.seq (.ops (.m x81 x0
 (.p x82 (.nck (.t x81))
 (.p x83 (.fa (.t x82) 1)
 (.l x84 (.t x83)
 (.p x85 (.bin .add (.t x84) (.c (.p 1)))
 (.p x86 (.nck (.t x81))
 (.p x87 (.fa (.t x86) 1)
 (.cons .no .no (.W (.st (.t x87) 1 (.t x85)))
 .nil)))))))))
 (.seq (.ops (.p x88 (.fa (.t x4) 0)
 (.cons .no .no (.W (.st (.t x88) 1 (.c (.p 6))))
 .nil)))
 (.ops (.m x90 x0
 (.s x91 153 [(.t x90)]
 (.m x89 x91
 (.p x92 (.ex (.t x89) 0)
 (.p x93 (.ex (.t x89) 1)
 (.p x94 (.fa (.t x4) 1)
 (.cons .no .no (.W (.st (.t x94) 1 (.t x92)))
 (.m x5 x93
 .nil)))))))))))
 (.seq (.ops (.m x96 x6
 (.p x97 (.bin .eql (.t x96) (.c (.w .u8 58)))
 (.m x98 x97
 (.cons (.ye x98 true) (.ye x99) (.P (.mv (.t x0)))
 (.cons (.ye x98 true) (.ye x100) (.S 146 [(.t x99), (.c (.p 1))])
 (.cons (.ye x98 true) (.ye x101) (.P (.bin .eql (.t x100) (.c (.w .u8 61))))
 (.p x102 (.pick (.t x98) (.t x101) (.c (.b false)))
 (.m x95 x102
 .nil)))))))))
 (.cond (.t x95) (.seq (.ops (.m x103 x0
 (.p x104 (.nck (.t x103))
 (.p x105 (.fa (.t x104) 1)
 (.l x106 (.t x105)
 (.p x107 (.bin .add (.t x106) (.c (.p 2)))
 (.p x108 (.nck (.t x103))
 (.p x109 (.fa (.t x108) 1)
 (.cons .no .no (.W (.st (.t x109) 1 (.t x107)))
 .nil)))))))))
 (.ops (.p x110 (.fa (.t x4) 0)
 (.cons .no .no (.W (.st (.t x110) 1 (.c (.p 9))))
 .nil))))
 (.seq (.ops (.m x112 x6
 (.p x113 (.bin .eql (.t x112) (.c (.w .u8 58)))
 (.m x114 x113
 (.cons (.ye x114 true) (.ye x115) (.P (.mv (.t x0)))
 (.cons (.ye x114 true) (.ye x116) (.S 146 [(.t x115), (.c (.p 1))])
 (.cons (.ye x114 true) (.ye x117) (.S 147 [(.t x116)])
 (.p x118 (.pick (.t x114) (.t x117) (.c (.b false)))
 (.m x111 x118
 .nil)))))))))
 (.cond (.t x111) (.seq (.ops (.m x119 x0
 (.p x120 (.nck (.t x119))
 (.p x121 (.fa (.t x120) 1)
 (.l x122 (.t x121)
 (.p x123 (.bin .add (.t x122) (.c (.p 1)))
 (.p x124 (.nck (.t x119))
 (.p x125 (.fa (.t x124) 1)
 (.cons .no .no (.W (.st (.t x125) 1 (.t x123)))
 .nil)))))))))
 (.seq (.ops (.p x126 (.fa (.t x4) 0)
 (.cons .no .no (.W (.st (.t x126) 1 (.c (.p 8))))
 .nil)))
 (.ops (.m x128 x0
 (.s x129 148 [(.t x128)]
 (.m x127 x129
 (.p x130 (.ex (.t x127) 0)
 (.p x131 (.ex (.t x127) 1)
 (.p x132 (.fa (.t x4) 1)
 (.cons .no .no (.W (.st (.t x132) 1 (.t x130)))
 (.m x5 x131
 .nil)))))))))))
 (.seq (.ops (.s x134 121 [(.c (.s 12 11497187596743261602538204459))]
 (.m x135 x6
 (.cons .no (.ye x136) (.V (.t x134) [(.t x135)])
 (.m x133 x136
 .nil)))))
 (.cond (.t x133) (.ops (.m x137 x0
 (.s x138 121 [(.c (.s 12 11497187596743261602538204459))]
 (.s x139 120 [(.t x137), (.t x138), (.c (.p 2))]
 (.p x140 (.fa (.t x4) 0)
 (.cons .no .no (.W (.st (.t x140) 1 (.c (.p 3))))
 (.p x141 (.fa (.t x4) 1)
 (.cons .no .no (.W (.st (.t x141) 1 (.t x139)))
 .nil))))))))
 (.seq (.ops (.s x143 121 [(.c (.s 8 8961419065863908958))]
 (.m x144 x6
 (.cons .no (.ye x145) (.V (.t x143) [(.t x144)])
 (.m x142 x145
 .nil)))))
 (.cond (.t x142) (.ops (.m x146 x0
 (.s x147 121 [(.c (.s 8 8961419065863908958))]
 (.s x148 120 [(.t x146), (.t x147), (.c (.p 1))]
 (.p x149 (.fa (.t x4) 0)
 (.cons .no .no (.W (.st (.t x149) 1 (.c (.p 10))))
 (.p x150 (.fa (.t x4) 1)
 (.cons .no .no (.W (.st (.t x150) 1 (.t x148)))
 .nil))))))))
 (.ops (.p x5 (.mv (.c (.p 10)))
 .nil)))))))))))))))))))))
 (.seq (.ops (.cons .no (.ye x151) (.L (.l (.many (.t x4) 4)))
 (.m x152 x5
 (.cons .no .no (.W (.st (.t x2) 4 (.t x151)))
 (.m x3 x152
 .nil)))))
 .ret))))))
def a122 : AF := .fn (ps16.take 153) b122 (.many [(.c (.many (.t x2) 4)), (.t x3)])
def b123 : ACode := (.seq (.ops (.p x6 (.mv (.c (.b false)))
 .nil))
 (.seq (.ops (.m x8 x0
 (.s x9 127 [(.t x8), (.c (.p 0))]
 (.cons .no (.ye x7) (.W (.al (.cons (.p 0) (.cons (.s 0 0) (.cons (.p 0) (.cons (.p 0) .nil))))))
 (.cons .no .no (.W (.st (.t x7) 4 (.t x9)))
 .nil)))))
 (.seq (.ops (.m x10 x0
 (.p x11 (.nck (.t x10))
 (.p x12 (.fa (.t x11) 3)
 (.l x13 (.t x12)
 (.p x14 (.bin .eql (.t x13) (.c (.p 0)))
 (.m x15 x14
 (.cons (.ye x15 true) (.ye x16) (.P (.fa (.t x7) 0))
 (.cons (.ye x15 true) (.ye x17) (.L (.l (.one (.t x16))))
 (.cons (.ye x15 true) (.ye x18) (.P (.mv (.t x1)))
 (.cons (.ye x15 true) (.ye x19) (.P (.bin .eql (.t x17) (.t x18)))
 (.p x20 (.pick (.t x15) (.t x19) (.c (.b false)))
 (.m x21 x20
 (.cons (.ye x21 true) (.ye x22) (.P (.mv (.t x2)))
 (.cons (.ye x21 true) (.ye x23) (.P (.bin .eql (.t x22) (.c (.s 0 0))))
 (.cons (.ye x21 true) (.ye x24) (.P (.mv (.t x23)))
 (.cons (.ye x24 false) (.ye x25) (.P (.fa (.t x7) 1))
 (.cons (.ye x24 false) (.ye x26) (.L (.l (.one (.t x25))))
 (.cons (.ye x24 false) (.ye x27) (.P (.mv (.t x2)))
 (.cons (.ye x24 false) (.ye x28) (.P (.bin .eql (.t x26) (.t x27)))
 (.cons (.ye x21 true) (.ye x29) (.P (.pick (.t x24) (.c (.b true)) (.t x28)))
 (.p x30 (.pick (.t x21) (.t x29) (.c (.b false)))
 (.m x6 x30
 .nil)))))))))))))))))))))))
 .ret)))
def a123 : AF := .fn (ps16.take 31) b123 (.one x6)
def b124 : ACode := (.seq (.ops (.cons .no (.ye x2) (.W (.al (.cons (.p 0) (.cons (.s 0 0) (.cons (.p 0) (.cons (.p 0) .nil))))))
 .nil))
 (.seq (.ops (.m x4 x0
 (.s x5 127 [(.t x4), (.c (.p 0))]
 (.cons .no (.ye x3) (.W (.al (.cons (.p 0) (.cons (.s 0 0) (.cons (.p 0) (.cons (.p 0) .nil))))))
 (.cons .no .no (.W (.st (.t x3) 4 (.t x5)))
 .nil)))))
 (.seq (.seq (.ops (.p x6 (.fa (.t x3) 0)
 (.l x7 (.t x6)
 (.p x8 (.bin .neq (.t x7) (.c (.p 0)))
 .nil))))
 (.cond (.t x8) (.ops (.m x9 x0
 (.m x10 x0
 (.p x11 (.nck (.t x10))
 (.p x12 (.fa (.t x11) 0)
 (.l x13 (.t x12)
 (.p x14 (.slx (.t x13) (some (.c (.p 1))) none none 4)
 (.p x15 (.nck (.t x9))
 (.p x16 (.fa (.t x15) 0)
 (.cons .no .no (.W (.st (.t x16) 1 (.t x14)))
 .nil))))))))))
 .skip))
 (.seq (.ops (.cons .no (.ye x17) (.L (.l (.many (.t x3) 4)))
 (.cons .no .no (.W (.st (.t x2) 4 (.t x17)))
 .nil)))
 .ret))))
def a124 : AF := .fn (ps16.take 18) b124 (.onec (.many (.t x2) 4))
def b125 : ACode := (.seq (.ops (.cons .no (.ye x2) (.W (.al (.cons (.p 0) (.cons (.s 0 0) (.cons (.p 0) (.cons .ns (.cons .ns (.cons .ns .nil))))))))
 .nil))
 (.seq (.seq (.ops (.m x4 x0
 (.s x5 123 [(.t x4), (.c (.p 1)), (.c (.s 0 0))]
 (.m x6 x5
 (.cons (.ye x6 true) (.ye x7) (.P (.mv (.t x0)))
 (.cons (.ye x6 true) (.ye x8) (.S 127 [(.t x7), (.c (.p 1))])
 (.cons (.ye x6 true) (.ye x9) (.P (.fd (.t x8) 0))
 (.cons (.ye x6 true) (.ye x10) (.P (.bin .eql (.t x9) (.c (.p 9))))
 (.p x11 (.pick (.t x6) (.t x10) (.c (.b false)))
 .nil)))))))))
 (.cond (.t x11) (.seq (.ops (.m x12 x0
 (.s x13 124 [(.t x12)]
 (.p x14 (.fd (.t x13) 1)
 (.p x15 (.bd (.cons (.p 0) (.cons (.s 0 0) (.cons (.p 0) (.cons .ns (.cons .ns (.cons .ns .nil)))))) [(0, 1, (.c (.p 6))), (1, 1, (.t x14))])
 (.cons .no (.ye x3) (.W (.al (.cons (.p 0) (.cons (.s 0 0) (.cons (.p 0) (.cons .ns (.cons .ns (.cons .ns .nil))))))))
 (.cons .no .no (.W (.st (.t x3) 6 (.t x15)))
 .nil)))))))
 (.seq (.ops (.m x16 x0
 (.s x17 124 [(.t x16)]
 .nil)))
 (.seq (.ops (.m x18 x0
 (.s x19 125 [(.t x18)]
 (.cons .no (.ye x20) (.W (.bs (.cons (.p 0) (.cons (.s 0 0) (.cons (.p 0) (.cons .ns (.cons .ns (.cons .ns .nil)))))) 1 [(0, 6, (.t x19))]))
 (.p x21 (.fa (.t x3) 5)
 (.cons .no .no (.W (.st (.t x21) 1 (.t x20)))
 .nil))))))
 (.seq (.ops (.cons .no (.ye x22) (.L (.l (.many (.t x3) 6)))
 (.cons .no .no (.W (.st (.t x2) 6 (.t x22)))
 .nil)))
 .ret))))
 .skip))
 (.seq (.ops (.m x23 x0
 (.s x24 154 [(.t x23)]
 (.cons .no .no (.W (.st (.t x2) 6 (.t x24)))
 .nil))))
 .ret)))
def a125 : AF := .fn (ps16.take 25) b125 (.onec (.many (.t x2) 6))
def b126 : ACode := (.seq (.ops (.cons .no (.ye x4) (.W (.bx (.t x1)))
 .nil))
 (.seq (.ops (.m x6 x0
 (.p x7 (.nck (.t x6))
 (.p x8 (.fa (.t x7) 3)
 (.l x9 (.t x8)
 (.p x10 (.bin .eql (.t x9) (.c (.p 0)))
 .nil))))))
 (.cond (.t x10) (.ops (.m x11 x0
 (.m x12 x0
 (.p x13 (.fa (.t x4) 3)
 (.l x14 (.t x13)
 (.m x15 x2
 (.p x16 (.nck (.t x11))
 (.p x17 (.fa (.t x16) 2)
 (.cons .no .no (.W (.st (.t x17) 1 (.t x14)))
 (.p x18 (.nck (.t x12))
 (.p x19 (.fa (.t x18) 3)
 (.cons .no .no (.W (.st (.t x19) 1 (.t x15)))
 .nil))))))))))))
 .skip)))
def a126 : AF := .fn (ps16.take 20) b126 .none
def b127 : ACode := (.seq (.ops (.cons .no (.ye x4) (.W (.al (.cons (.p 0) (.cons (.s 0 0) (.cons (.p 0) (.cons (.p 0) .nil))))))
 .nil))
 (.seq (.draw (.h .no (.ye x5) (.P (.mv (.t x0)))
 (.h .no (.ye x6) (.P (.nck (.t x5)))
 (.h .no (.ye x7) (.P (.fa (.t x6) 0))
 (.h .no (.ye x8) (.L (.l (.one (.t x7))))
 (.h .no (.ye x9) (.P (.mv (.t x1)))
 (.h .no (.ye x10) (.P (.mv (.t x0)))
 (.h .no (.ye x11) (.P (.nck (.t x10)))
 (.h .no (.ye x12) (.P (.fa (.t x11) 0))
 (.h .no (.ye x13) (.L (.l (.one (.t x12))))
 (.h .no (.ye x14) (.P (.lnX (.t x13)))
 (.h .no (.ye x15) (.P (.bin .sub (.t x14) (.c (.p 1))))
 (.h .no (.ye x16) (.P (.mm false (.t x9) (.t x15)))
 (.h .no (.ye x17) (.P (.ia (.t x8) (.t x16) 4))
 (.h .no (.ye x18) (.L (.l (.many (.t x17) 4)))
 (.c .no .no (.W (.st (.t x4) 4 (.t x18))) .nil
 .nil))))))))))))))))
 .ret))
def a127 : AF := .fn (ps16.take 19) b127 (.onec (.many (.t x4) 4))
def b128 : ACode := (.seq (.ops (.p x6 (.mv (.c (.s 0 0)))
 .nil))
 (.seq (.ops (.m x8 x0
 (.m x9 x1
 (.s x10 101 [(.t x8), (.t x9), (.c (.s 0 0))]
 (.cons .no (.ye x7) (.W (.al (.cons (.p 0) (.cons (.s 0 0) (.cons (.p 0) (.cons (.p 0) .nil))))))
 (.cons .no .no (.W (.st (.t x7) 4 (.t x10)))
 .nil))))))
 (.seq (.seq (.ops (.m x11 x2
 (.p x12 (.lnX (.t x11))
 (.p x13 (.bin .eql (.t x12) (.c (.p 4)))
 .nil))))
 (.cond (.t x13) (.ops (.m x14 x0
 (.cons .no (.ye x15) (.L (.l (.many (.t x7) 4)))
 (.s x16 126 [(.t x14), (.t x15), (.c (.p 18))]
 .nil))))
 .skip))
 (.seq (.ops (.p x17 (.fa (.t x7) 1)
 (.l x18 (.t x17)
 (.m x6 x18
 .nil))))
 .ret))))
def a128 : AF := .fn (ps16.take 19) b128 (.one x6)
def b129 : ACode := (.seq (.ops (.m x10 x1
 (.p x11 (.lnX (.t x10))
 (.p x12 (.mv (.c (.p 0)))
 .nil))))
 (.blk 0 (.loop (.seq (.ops (.p x13 (.bin .lss (.t x12) (.t x11))
 .nil))
 (.seq (.cond (.t x13) .skip
 (.exit 0))
 (.seq (.blk 1 (.seq (.ops (.p x14 (.ia (.t x10) (.t x12) 1)
 (.l x15 (.t x14)
 (.m x7 x15
 .nil))))
 (.seq (.seq (.ops (.m x17 x0
 (.m x18 x7
 (.s x19 155 [(.t x17), (.t x18)]
 (.m x16 x19
 (.p x20 (.ex (.t x16) 0)
 (.p x21 (.ex (.t x16) 1)
 (.cons .no (.ye x8) (.W (.al (.cons (.s 0 0) (.cons (.b false) (.cons (.b false) (.cons (.p 0) .nil))))))
 (.cons .no .no (.W (.st (.t x8) 4 (.t x20)))
 (.m x9 x21
 .nil))))))))))
 (.seq (.ops (.m x22 x9
 (.m x23 x22
 (.cons (.ye x23 false) (.ye x24) (.P (.mv (.t x7)))
 (.cons (.ye x23 false) (.ye x25) (.S 156 [(.t x24)])
 (.p x26 (.pick (.t x23) (.c (.b true)) (.t x25))
 .nil))))))
 (.cond (.t x26) (.ops (.m x27 x0
 (.m x28 x7
 (.s x29 157 [(.t x27), (.t x28), (.c (.p 16))]
 .nil))))
 .skip)))
 (.seq (.seq (.ops (.m x30 x0
 (.p x31 (.nck (.t x30))
 (.p x32 (.fa (.t x31) 0)
 (.p x33 (.fa (.t x32) 2)
 (.l x34 (.t x33)
 (.p x35 (.bin .eql (.t x34) (.c (.p 24)))
 .nil)))))))
 (.cond (.t x35) (.ops (.m x36 x0
 (.m x37 x7
 (.s x38 157 [(.t x36), (.t x37), (.c (.p 18))]
 .nil))))
 .skip))
 (.seq (.seq (.ops (.m x39 x0
 (.p x40 (.nck (.t x39))
 (.p x41 (.fa (.t x40) 8)
 (.l x42 (.t x41)
 (.p x43 (.bin .neq (.t x42) (.c (.p 0)))
 .nil))))))
 (.cond (.t x43) .ret
 .skip))
 (.seq (.draw (.h .no (.ye x44) (.P (.mv (.t x0)))
 (.h .no (.ye x45) (.P (.mv (.t x0)))
 (.h .no (.ye x46) (.P (.nck (.t x45)))
 (.h .no (.ye x47) (.P (.fa (.t x46) 6))
 (.h .no (.ye x48) (.L (.l (.one (.t x47))))
 (.h .no (.ye x49) (.P (.mv (.t x7)))
 (.h .no (.ye x50) (.P (.mv (.t x2)))
 (.h .no (.ye x51) (.P (.mv (.t x0)))
 (.h .no (.ye x52) (.P (.nck (.t x51)))
 (.h .no (.ye x53) (.P (.fa (.t x52) 0))
 (.h .no (.ye x54) (.P (.fa (.t x53) 2))
 (.h .no (.ye x55) (.L (.l (.one (.t x54))))
 (.h .no (.ye x56) (.P (.bd (.cons (.s 0 0) (.cons (.b false) (.cons (.b false) (.cons (.p 0) .nil)))) [(0, 1, (.t x49)), (1, 1, (.c (.b false))), (2, 1, (.t x50)), (3, 1, (.t x55))]))
 (.c .no (.ye x57) (.W (.bs (.cons (.s 0 0) (.cons (.b false) (.cons (.b false) (.cons (.p 0) .nil)))) 1 [(0, 4, (.t x56))])) (.cons .no (.l (.one (.t x47))) x48 .nil)
 (.c .no (.ye x58) (.W (.app 4 32 (.t x48) (.t x57))) .nil
 (.h .no (.ye x59) (.P (.nck (.t x44)))
 (.h .no (.ye x60) (.P (.fa (.t x59) 6))
 (.c .no .no (.W (.st (.t x60) 1 (.t x58))) .nil
 .nil)))))))))))))))))))
 (.ops (.m x61 x0
 (.p x62 (.nck (.t x61))
 (.p x63 (.fa (.t x62) 0)
 (.p x64 (.fa (.t x63) 2)
 (.l x65 (.t x64)
 (.p x66 (.bin .add (.t x65) (.c (.p 1)))
 (.p x67 (.nck (.t x61))
 (.p x68 (.fa (.t x67) 0)
 (.p x69 (.fa (.t x68) 2)
 (.cons .no .no (.W (.st (.t x69) 1 (.t x66)))
 .nil)))))))))))))))))
 (.ops (.p x70 (.bin .add (.t x12) (.c (.p 1)))
 (.m x12 x70
 .nil)))))))))
def a129 : AF := .fn (ps16.take 71) b129 .none
def b130 : ACode := (.seq (.ops (.cons .no (.ye x3) (.W (.bx (.t x1)))
 .nil))
 (.seq (.seq (.ops (.m x5 x0
 (.p x6 (.nck (.t x5))
 (.p x7 (.fa (.t x6) 8)
 (.l x8 (.t x7)
 (.p x9 (.bin .neq (.t x8) (.c (.p 0)))
 .nil))))))
 (.cond (.t x9) .ret
 .skip))
 (.seq (.ops (.p x10 (.fa (.t x3) 0)
 (.l x11 (.t x10)
 .nil)))
 (.blk 0 (.seq (.seq (.ops (.p x15 (.bin .eql (.t x11) (.c (.p 1)))
 (.m x14 x15
 .nil)))
 (.cond (.t x14) .skip
 (.seq (.ops (.p x16 (.bin .eql (.t x11) (.c (.p 2)))
 (.m x14 x16
 .nil)))
 (.cond (.t x14) .skip
 (.seq (.ops (.p x17 (.bin .eql (.t x11) (.c (.p 3)))
 (.m x14 x17
 .nil)))
 (.cond (.t x14) .skip
 (.ops (.p x18 (.bin .eql (.t x11) (.c (.p 4)))
 (.m x14 x18
 .nil)))))))))
 (.cond (.t x14) (.ops (.m x19 x0
 (.m x20 x0
 (.m x21 x0
 (.cons .no (.ye x22) (.L (.l (.many (.t x3) 6)))
 (.s x23 159 [(.t x21), (.t x22)]
 (.s x24 158 [(.t x20), (.t x23)]
 (.s x25 131 [(.t x19), (.c (.p 6)), (.t x24), (.c (.p 0))]
 .nil))))))))
 (.seq (.ops (.p x27 (.bin .eql (.t x11) (.c (.p 5)))
 (.m x26 x27
 .nil)))
 (.cond (.t x26) (.ops (.m x28 x0
 (.p x29 (.fa (.t x3) 1)
 (.l x30 (.t x29)
 (.s x31 160 [(.t x28), (.t x30)]
 .nil)))))
 (.seq (.ops (.p x33 (.bin .eql (.t x11) (.c (.p 6)))
 (.m x32 x33
 .nil)))
 (.cond (.t x32) (.ops (.m x34 x0
 (.cons .no (.ye x35) (.L (.l (.many (.t x3) 6)))
 (.s x36 161 [(.t x34), (.t x35)]
 .nil))))
 (.seq (.ops (.p x38 (.bin .eql (.t x11) (.c (.p 7)))
 (.m x37 x38
 .nil)))
 (.cond (.t x37) (.ops (.m x39 x0
 (.cons .no (.ye x40) (.L (.l (.many (.t x3) 6)))
 (.s x41 162 [(.t x39), (.t x40)]
 .nil))))
 (.seq (.ops (.p x43 (.bin .eql (.t x11) (.c (.p 8)))
 (.m x42 x43
 .nil)))
 (.cond (.t x42) (.ops (.m x44 x0
 (.cons .no (.ye x45) (.L (.l (.many (.t x3) 6)))
 (.s x46 163 [(.t x44), (.t x45)]
 .nil))))
 (.seq (.ops (.p x48 (.bin .eql (.t x11) (.c (.p 9)))
 (.m x47 x48
 .nil)))
 (.cond (.t x47) (.seq (.draw (.h .no (.ye x49) (.P (.mv (.t x0)))
 (.h .no (.ye x50) (.P (.mv (.t x0)))
 (.h .no (.ye x51) (.P (.nck (.t x50)))
 (.h .no (.ye x52) (.P (.fa (.t x51) 0))
 (.h .no (.ye x53) (.P (.fa (.t x52) 2))
 (.h .no (.ye x54) (.L (.l (.one (.t x53))))
 (.h .no (.ye x55) (.P (.fa (.t x3) 3))
 (.h .no (.ye x56) (.L (.l (.one (.t x55))))
 (.h .no (.ye x57) (.P (.lnX (.t x56)))
 (.c .no (.ye x58) (.S 131 [(.t x49), (.c (.p 18)), (.t x54), (.t x57)]) .nil
 .nil)))))))))))
 (.seq (.ops (.m x59 x0
 (.s x60 164 [(.t x59), (.c (.p 16))]
 (.m x4 x60
 .nil))))
 (.seq (.ops (.m x61 x0
 (.cons .no (.ye x62) (.L (.l (.many (.t x3) 6)))
 (.s x63 165 [(.t x61), (.t x62)]
 .nil))))
 (.seq (.ops (.m x64 x0
 (.s x65 131 [(.t x64), (.c (.p 19)), (.c (.p 0)), (.c (.p 0))]
 .nil)))
 (.ops (.m x66 x4
 (.cons .no (.ye x67) (.V (.t x66) [])
 .nil)))))))
 (.seq (.ops (.p x69 (.bin .eql (.t x11) (.c (.p 10)))
 (.m x68 x69
 .nil)))
 (.cond (.t x68) (.seq (.ops (.m x70 x0
 (.cons .no (.ye x71) (.L (.l (.many (.t x3) 6)))
 (.s x72 166 [(.t x70), (.t x71)]
 .nil))))
 (.cond (.t x72) (.seq (.ops (.m x73 x0
 (.p x74 (.fa (.t x3) 5)
 (.l x75 (.t x74)
 (.p x76 (.ia (.t x75) (.c (.p 0)) 6)
 (.cons .no (.ye x77) (.L (.l (.many (.t x76) 6)))
 (.s x78 130 [(.t x73), (.t x77)]
 .nil)))))))
 (.ops (.m x79 x0
 (.s x80 131 [(.t x79), (.c (.p 20)), (.c (.p 0)), (.c (.p 0))]
 .nil))))
 .skip))
 (.ops (.m x12 x0
 (.s x13 157 [(.t x12), (.c (.s 0 0)), (.c (.p 1))]
 .nil)))))))))))))))))))))
def a130 : AF := .fn (ps16.take 81) b130 .none
def b131 : ACode := (.ops (.m x8 x0
 (.m x9 x0
 (.p x10 (.nck (.t x9))
 (.p x11 (.fa (.t x10) 0)
 (.p x12 (.fa (.t x11) 5)
 (.l x13 (.t x12)
 (.m x14 x1
 (.m x15 x2
 (.m x16 x3
 (.p x17 (.bd (.cons (.p 0) (.cons (.p 0) (.cons (.p 0) .nil))) [(0, 1, (.t x14)), (1, 1, (.t x15)), (2, 1, (.t x16))])
 (.cons .no (.ye x18) (.W (.bs (.cons (.p 0) (.cons (.p 0) (.cons (.p 0) .nil))) 1 [(0, 3, (.t x17))]))
 (.cons .no (.ye x19) (.W (.app 3 24 (.t x13) (.t x18)))
 (.p x20 (.nck (.t x8))
 (.p x21 (.fa (.t x20) 0)
 (.p x22 (.fa (.t x21) 5)
 (.cons .no .no (.W (.st (.t x22) 1 (.t x19)))
 .nil)))))))))))))))))
def a131 : AF := .fn (ps16.take 23) b131 .none
def b132 : ACode := (.seq (.ops (.p x2 (.mv (.c (.b false)))
 (.p x3 (.mv (.c (.b false)))
 .nil)))
 (.seq (.seq (.ops (.m x4 x0
 .nil))
 (.blk 0 (.seq (.blk 2 (.seq (.blk 1 (.seq (.seq (.seq (.seq (.ops (.p x6 (.bin .eql (.t x4) (.c (.p 14)))
 (.m x5 x6
 .nil)))
 (.cond (.t x5) .skip
 (.seq (.ops (.p x7 (.bin .eql (.t x4) (.c (.p 15)))
 (.m x5 x7
 .nil)))
 (.cond (.t x5) .skip
 (.seq (.ops (.p x8 (.bin .eql (.t x4) (.c (.p 16)))
 (.m x5 x8
 .nil)))
 (.cond (.t x5) .skip
 (.seq (.ops (.p x9 (.bin .eql (.t x4) (.c (.p 17)))
 (.m x5 x9
 .nil)))
 (.cond (.t x5) .skip
 (.ops (.p x10 (.bin .eql (.t x4) (.c (.p 18)))
 (.m x5 x10
 .nil)))))))))))
 (.cond (.t x5) (.exit 1)
 .skip))
 (.seq (.seq (.ops (.p x12 (.bin .eql (.t x4) (.c (.p 6)))
 (.m x11 x12
 .nil)))
 (.cond (.t x11) .skip
 (.seq (.ops (.p x13 (.bin .eql (.t x4) (.c (.p 7)))
 (.m x11 x13
 .nil)))
 (.cond (.t x11) .skip
 (.seq (.ops (.p x14 (.bin .eql (.t x4) (.c (.p 8)))
 (.m x11 x14
 .nil)))
 (.cond (.t x11) .skip
 (.seq (.ops (.p x15 (.bin .eql (.t x4) (.c (.p 9)))
 (.m x11 x15
 .nil)))
 (.cond (.t x11) .skip
 (.seq (.ops (.p x16 (.bin .eql (.t x4) (.c (.p 10)))
 (.m x11 x16
 .nil)))
 (.cond (.t x11) .skip
 (.ops (.p x17 (.bin .eql (.t x4) (.c (.p 11)))
 (.m x11 x17
 .nil)))))))))))))
 (.cond (.t x11) (.exit 2)
 .skip)))
 (.exit 0)))
 (.ops (.p x3 (.mv (.c (.b true)))
 .nil))))
 (.seq (.ops (.p x2 (.mv (.c (.b true)))
 .nil))
 (.exit 0)))))
 (.seq (.ops (.m x18 x2
 (.m x19 x3
 (.m x2 x18
 (.m x3 x19
 .nil)))))
 .ret)))
def a132 : AF := .fn (ps16.take 20) b132 (.many [(.t x2), (.t x3)])
def b133 : ACode := (.seq (.ops (.p x4 (.mv (.c (.b false)))
 .nil))
 (.seq (.ops (.m x5 x0
 (.p x6 (.bin .eql (.t x5) (.c (.p 0)))
 (.m x7 x6
 (.cons (.ye x7 false) (.ye x8) (.P (.mv (.t x1)))
 (.cons (.ye x7 false) (.ye x9) (.P (.mv (.t x8)))
 (.cons (.ye x9 true) (.ye x10) (.P (.mv (.t x0)))
 (.cons (.ye x9 true) (.ye x11) (.P (.bin .gtr (.t x10) (.c (.p 0))))
 (.cons (.ye x7 false) (.ye x12) (.P (.pick (.t x9) (.t x11) (.c (.b false))))
 (.cons (.ye x7 false) (.ye x13) (.P (.mv (.t x12)))
 (.cons (.ye x13 true) (.ye x14) (.P (.mv (.t x0)))
 (.cons (.ye x13 true) (.ye x15) (.P (.bin .leq (.t x14) (.c (.p 255))))
 (.cons (.ye x7 false) (.ye x16) (.P (.pick (.t x13) (.t x15) (.c (.b false))))
 (.p x17 (.pick (.t x7) (.c (.b true)) (.t x16))
 (.m x4 x17
 .nil)))))))))))))))
 .ret))
def a133 : AF := .fn (ps16.take 18) b133 (.one x4)
def b134 : ACode := (.seq (.ops (.cons .no (.ye x2) (.W (.bx (.t x0)))
 (.p x4 (.mv (.c .ns))
 (.p x5 (.mv (.c (.p 0)))
 .nil))))
 (.seq (.ops (.m x13 x1
 (.s x14 167 [(.t x13), (.c (.p 0)), (.c (.p 8))]
 (.m x15 x14
 (.cons (.ye x15 true) (.ye x16) (.P (.fa (.t x2) 0))
 (.cons (.ye x15 true) (.ye x17) (.L (.l (.one (.t x16))))
 (.cons (.ye x15 true) (.ye x18) (.P (.lnS (.t x17)))
 (.cons (.ye x15 true) (.ye x19) (.S 167 [(.t x18), (.c (.p 1)), (.c (.p 60))])
 (.p x20 (.pick (.t x15) (.t x19) (.c (.b false)))
 (.m x21 x20
 (.cons (.ye x21 true) (.ye x22) (.P (.fa (.t x2) 1))
 (.cons (.ye x21 true) (.ye x23) (.L (.l (.one (.t x22))))
 (.cons (.ye x21 true) (.ye x24) (.S 167 [(.t x23), (.c (.p 0)), (.c (.p 4))])
 (.p x25 (.pick (.t x21) (.t x24) (.c (.b false)))
 (.m x26 x25
 (.cons (.ye x26 true) (.ye x27) (.P (.fa (.t x2) 2))
 (.cons (.ye x26 true) (.ye x28) (.L (.l (.one (.t x27))))
 (.cons (.ye x26 true) (.ye x29) (.P (.fa (.t x2) 1))
 (.cons (.ye x26 true) (.ye x30) (.L (.l (.one (.t x29))))
 (.cons (.ye x26 true) (.ye x31) (.S 167 [(.t x28), (.t x30), (.c (.p 24))])
 (.p x32 (.pick (.t x26) (.t x31) (.c (.b false)))
 (.m x33 x32
 (.cons (.ye x33 true) (.ye x34) (.P (.fa (.t x2) 3))
 (.cons (.ye x33 true) (.ye x35) (.L (.l (.one (.t x34))))
 (.cons (.ye x33 true) (.ye x36) (.S 167 [(.t x35), (.c (.p 0)), (.c (.p 255))])
 (.p x37 (.pick (.t x33) (.t x36) (.c (.b false)))
 (.m x6 x37
 .nil)))))))))))))))))))))))))))
 (.seq (.ops (.p x38 (.fa (.t x2) 4)
 (.l x39 (.t x38)
 (.s x40 168 [(.t x39), (.f 169)]
 (.m x7 x40
 .nil)))))
 (.seq (.seq (.ops (.m x41 x6
 (.p x42 (.nt (.t x41))
 (.m x43 x42
 (.cons (.ye x43 false) (.ye x44) (.P (.mv (.t x7)))
 (.p x45 (.pick (.t x43) (.c (.b true)) (.t x44))
 (.m x46 x45
 (.cons (.ye x46 false) (.ye x47) (.P (.fa (.t x2) 4))
 (.cons (.ye x46 false) (.ye x48) (.L (.l (.one (.t x47))))
 (.cons (.ye x46 false) (.ye x49) (.P (.lnX (.t x48)))
 (.cons (.ye x46 false) (.ye x50) (.P (.bin .gtr (.t x49) (.c (.p 60))))
 (.p x51 (.pick (.t x46) (.c (.b true)) (.t x50))
 (.m x52 x51
 (.cons (.ye x52 false) (.ye x53) (.P (.fa (.t x2) 5))
 (.cons (.ye x52 false) (.ye x54) (.L (.l (.one (.t x53))))
 (.cons (.ye x52 false) (.ye x55) (.P (.lnX (.t x54)))
 (.cons (.ye x52 false) (.ye x56) (.S 167 [(.t x55), (.c (.p 1)), (.c (.p 400))])
 (.cons (.ye x52 false) (.ye x57) (.P (.nt (.t x56)))
 (.p x58 (.pick (.t x52) (.c (.b true)) (.t x57))
 .nil)))))))))))))))))))
 (.cond (.t x58) (.seq (.ops (.p x4 (.mv (.c .ns))
 (.p x5 (.mv (.c (.p 19)))
 .nil)))
 .ret)
 .skip))
 (.seq (.seq (.ops (.p x59 (.fa (.t x2) 5)
 (.l x60 (.t x59)
 (.p x61 (.lnX (.t x60))
 (.p x62 (.mv (.c (.p 0)))
 .nil)))))
 (.blk 0 (.loop (.seq (.ops (.p x63 (.bin .lss (.t x62) (.t x61))
 .nil))
 (.seq (.cond (.t x63) .skip
 (.exit 0))
 (.seq (.blk 1 (.seq (.ops (.p x64 (.ia (.t x60) (.t x62) 3)
 (.cons .no (.ye x65) (.L (.l (.many (.t x64) 3)))
 (.cons .no (.ye x9) (.W (.al (.cons (.p 0) (.cons (.p 0) (.cons (.p 0) .nil)))))
 (.cons .no .no (.W (.st (.t x9) 3 (.t x65)))
 .nil)))))
 (.seq (.ops (.cons .no (.ye x66) (.L (.l (.many (.t x9) 3)))
 (.s x67 105 [(.t x66)]
 (.p x68 (.nt (.t x67))
 (.m x69 x68
 (.cons (.ye x69 false) (.ye x70) (.L (.l (.many (.t x2) 6)))
 (.cons (.ye x69 false) (.ye x71) (.L (.l (.many (.t x9) 3)))
 (.cons (.ye x69 false) (.ye x72) (.P (.mv (.t x1)))
 (.cons (.ye x69 false) (.ye x73) (.S 171 [(.t x70), (.t x71), (.t x72)])
 (.cons (.ye x69 false) (.ye x74) (.P (.nt (.t x73)))
 (.p x75 (.pick (.t x69) (.c (.b true)) (.t x74))
 .nil)))))))))))
 (.cond (.t x75) (.seq (.ops (.p x4 (.mv (.c .ns))
 (.p x5 (.mv (.c (.p 19)))
 .nil)))
 .ret)
 .skip))))
 (.ops (.p x76 (.bin .add (.t x62) (.c (.p 1)))
 (.m x62 x76
 .nil)))))))))
 (.seq (.ops (.p x77 (.fa (.t x2) 5)
 (.l x78 (.t x77)
 (.s x79 172 [(.t x78)]
 (.m x10 x79
 .nil)))))
 (.seq (.seq (.ops (.p x80 (.fa (.t x2) 5)
 (.l x81 (.t x80)
 (.m x82 x10
 (.s x83 173 [(.t x81), (.t x82)]
 (.p x84 (.nt (.t x83))
 .nil))))))
 (.cond (.t x84) (.seq (.ops (.p x4 (.mv (.c .ns))
 (.p x5 (.mv (.c (.p 19)))
 .nil)))
 .ret)
 .skip))
 (.seq (.ops (.p x86 (.fa (.t x2) 5)
 (.l x87 (.t x86)
 (.m x88 x10
 (.s x89 174 [(.t x87), (.t x88)]
 (.m x85 x89
 (.p x90 (.ex (.t x85) 0)
 (.p x91 (.ex (.t x85) 1)
 (.m x11 x90
 (.m x12 x91
 .nil))))))))))
 (.seq (.seq (.ops (.m x92 x12
 (.p x93 (.nt (.t x92))
 .nil)))
 (.cond (.t x93) (.seq (.ops (.p x4 (.mv (.c .ns))
 (.p x5 (.mv (.c (.p 19)))
 .nil)))
 .ret)
 .skip))
 (.seq (.ops (.m x94 x11
 (.m x4 x94
 (.p x5 (.mv (.c (.p 0)))
 .nil))))
 .ret))))))))))
def a134 : AF := .fn (ps16.take 95) b134 (.many [(.t x4), (.t x5)])
def b145 : ACode := (.seq (.ops (.p x3 (.mv (.c (.b false)))
 .nil))
 (.seq (.ops (.l x4 (.t x1)
 (.m x5 x0
 (.s x6 57 [(.t x4), (.t x5)]
 (.p x7 (.bin .geq (.t x6) (.c (.p 0)))
 (.m x3 x7
 .nil))))))
 .ret))
def a145 : AF := .fn (ps16.take 8) b145 (.one x3)
def b146 : ACode := (.seq (.ops (.p x4 (.mv (.c (.w .u8 0)))
 .nil))
 (.seq (.seq (.draw (.h .no (.ye x5) (.P (.mv (.t x0)))
 (.h .no (.ye x6) (.P (.nck (.t x5)))
 (.h .no (.ye x7) (.P (.fa (.t x6) 1))
 (.h .no (.ye x8) (.L (.l (.one (.t x7))))
 (.h .no (.ye x9) (.P (.mv (.t x1)))
 (.h .no (.ye x10) (.P (.bin .add (.t x8) (.t x9)))
 (.h .no (.ye x11) (.P (.mv (.t x0)))
 (.h .no (.ye x12) (.P (.nck (.t x11)))
 (.h .no (.ye x13) (.P (.fa (.t x12) 0))
 (.h .no (.ye x14) (.L (.l (.one (.t x13))))
 (.h .no (.ye x15) (.P (.lnS (.t x14)))
 (.h .no (.ye x16) (.P (.bin .geq (.t x10) (.t x15)))
 .nil)))))))))))))
 (.cond (.t x16) (.seq (.ops (.p x4 (.mv (.c (.w .u8 0)))
 .nil))
 .ret)
 .skip))
 (.seq (.draw (.h .no (.ye x17) (.P (.mv (.t x0)))
 (.h .no (.ye x18) (.P (.nck (.t x17)))
 (.h .no (.ye x19) (.P (.fa (.t x18) 0))
 (.h .no (.ye x20) (.L (.l (.one (.t x19))))
 (.h .no (.ye x21) (.P (.mv (.t x0)))
 (.h .no (.ye x22) (.P (.nck (.t x21)))
 (.h .no (.ye x23) (.P (.fa (.t x22) 1))
 (.h .no (.ye x24) (.L (.l (.one (.t x23))))
 (.h .no (.ye x25) (.P (.mv (.t x1)))
 (.h .no (.ye x26) (.P (.bin .add (.t x24) (.t x25)))
 (.h .no (.ye x27) (.P (.ixs (.t x20) (.t x26)))
 (.h .no (.ye x4) (.P (.mv (.t x27)))
 .nil)))))))))))))
 .ret)))
def a146 : AF := .fn (ps16.take 28) b146 (.one x4)
def b147 : ACode := (.seq (.ops (.p x2 (.mv (.c (.b false)))
 .nil))
 (.seq (.ops (.m x3 x0
 (.p x4 (.bin .geq (.t x3) (.c (.w .u8 97)))
 (.m x5 x4
 (.cons (.ye x5 true) (.ye x6) (.P (.mv (.t x0)))
 (.cons (.ye x5 true) (.ye x7) (.P (.bin .leq (.t x6) (.c (.w .u8 122))))
 (.p x8 (.pick (.t x5) (.t x7) (.c (.b false)))
 (.m x9 x8
 (.cons (.ye x9 false) (.ye x10) (.P (.mv (.t x0)))
 (.cons (.ye x9 false) (.ye x11) (.P (.bin .geq (.t x10) (.c (.w .u8 65))))
 (.cons (.ye x9 false) (.ye x12) (.P (.mv (.t x11)))
 (.cons (.ye x12 true) (.ye x13) (.P (.mv (.t x0)))
 (.cons (.ye x12 true) (.ye x14) (.P (.bin .leq (.t x13) (.c (.w .u8 90))))
 (.cons (.ye x9 false) (.ye x15) (.P (.pick (.t x12) (.t x14) (.c (.b false))))
 (.p x16 (.pick (.t x9) (.c (.b true)) (.t x15))
 (.m x2 x16
 .nil))))))))))))))))
 .ret))
def a147 : AF := .fn (ps16.take 17) b147 (.one x2)
def b148 : ACode := (.seq (.ops (.p x2 (.mv (.c (.s 0 0)))
 (.p x3 (.mv (.c (.p 0)))
 .nil)))
 (.seq (.ops (.m x5 x0
 (.m x6 x0
 (.p x7 (.nck (.t x6))
 (.p x8 (.fa (.t x7) 0)
 (.l x9 (.t x8)
 (.p x10 (.lnS (.t x9))
 (.s x11 120 [(.t x5), (.f 178), (.t x10)]
 (.m x4 x11
 .nil)))))))))
 (.seq (.seq (.ops (.m x12 x4
 (.p x13 (.lnS (.t x12))
 (.p x14 (.bin .gtr (.t x13) (.c (.p 24)))
 .nil))))
 (.cond (.t x14) (.seq (.ops (.p x2 (.mv (.c (.s 0 0)))
 (.p x3 (.mv (.c (.p 12)))
 .nil)))
 .ret)
 .skip))
 (.seq (.ops (.m x15 x4
 (.m x2 x15
 (.p x3 (.mv (.c (.p 0)))
 .nil))))
 .ret))))
def a148 : AF := .fn (ps16.take 16) b148 (.many [(.t x2), (.t x3)])
def b149 : ACode := (.seq (.ops (.p x2 (.mv (.c (.b false)))
 .nil))
 (.seq (.seq (.ops (.m x3 x0
 (.s x4 146 [(.t x3), (.c (.p 0))]
 (.p x5 (.bin .neq (.t x4) (.c (.w .u8 58)))
 (.m x6 x5
 (.cons (.ye x6 false) (.ye x7) (.P (.mv (.t x0)))
 (.cons (.ye x6 false) (.ye x8) (.S 146 [(.t x7), (.c (.p 1))])
 (.cons (.ye x6 false) (.ye x9) (.P (.bin .eql (.t x8) (.c (.w .u8 61))))
 (.p x10 (.pick (.t x6) (.c (.b true)) (.t x9))
 .nil)))))))))
 (.cond (.t x10) (.seq (.ops (.p x2 (.mv (.c (.b false)))
 .nil))
 .ret)
 .skip))
 (.seq (.ops (.m x11 x0
 (.p x12 (.nck (.t x11))
 (.p x13 (.fa (.t x12) 1)
 (.l x14 (.t x13)
 (.p x15 (.bin .add (.t x14) (.c (.p 1)))
 (.p x16 (.nck (.t x11))
 (.p x17 (.fa (.t x16) 1)
 (.cons .no .no (.W (.st (.t x17) 1 (.t x15)))
 .nil)))))))))
 (.seq (.ops (.p x2 (.mv (.c (.b true)))
 .nil))
 .ret))))
def a149 : AF := .fn (ps16.take 18) b149 (.one x2)
def b150 : ACode := (.seq (.ops (.p x2 (.mv (.c (.b false)))
 .nil))
 (.seq (.ops (.m x3 x0
 (.p x4 (.bin .geq (.t x3) (.c (.w .u8 48)))
 (.m x5 x4
 (.cons (.ye x5 true) (.ye x6) (.P (.mv (.t x0)))
 (.cons (.ye x5 true) (.ye x7) (.P (.bin .leq (.t x6) (.c (.w .u8 57))))
 (.p x8 (.pick (.t x5) (.t x7) (.c (.b false)))
 (.m x2 x8
 .nil))))))))
 .ret))
def a150 : AF := .fn (ps16.take 9) b150 (.one x2)
def b151 : ACode := (.seq (.ops (.p x2 (.mv (.c (.p 0)))
 (.p x3 (.mv (.c (.p 0)))
 .nil)))
 (.seq (.ops (.p x4 (.mv (.c (.p 0)))
 .nil))
 (.seq (.seq (.ops (.m x7 x0
 (.m x8 x0
 (.p x9 (.nck (.t x8))
 (.p x10 (.fa (.t x9) 0)
 (.l x11 (.t x10)
 (.p x12 (.lnS (.t x11))
 (.s x13 120 [(.t x7), (.f 150), (.t x12)]
 (.cons .no (.ye x14) (.W (.rg (.t x13)))
 .nil)))))))))
 (.blk 0 (.loop (.seq (.ops (.cons .no (.ye x15) (.W (.nxs (.t x14)))
 (.p x16 (.ex (.t x15) 0)
 .nil)))
 (.seq (.cond (.t x16) .skip
 (.exit 0))
 (.blk 1 (.seq (.ops (.p x17 (.ex (.t x15) 2)
 (.m x6 x17
 .nil)))
 (.seq (.seq (.ops (.m x18 x4
 (.p x19 (.bin .gtr (.t x18) (.c (.p 115292150460684697)))
 .nil)))
 (.cond (.t x19) (.seq (.ops (.p x2 (.mv (.c (.p 0)))
 (.p x3 (.mv (.c (.p 2)))
 .nil)))
 .ret)
 .skip))
 (.seq (.ops (.m x20 x4
 (.p x21 (.bin .mul (.t x20) (.c (.p 10)))
 (.m x22 x6
 (.p x23 (.bin .sub (.t x22) (.c (.w .i32 48)))
 (.p x24 (.cv .i64 (.t x23))
 (.p x25 (.bin .add (.t x21) (.t x24))
 (.m x4 x25
 .nil))))))))
 (.seq (.ops (.m x26 x4
 (.p x27 (.bin .gtr (.t x26) (.c (.p 1152921504606846976)))
 .nil)))
 (.cond (.t x27) (.seq (.ops (.p x2 (.mv (.c (.p 0)))
 (.p x3 (.mv (.c (.p 2)))
 .nil)))
 .ret)
 .skip)))))))))))
 (.seq (.ops (.m x28 x4
 (.m x2 x28
 (.p x3 (.mv (.c (.p 0)))
 .nil))))
 .ret))))
def a151 : AF := .fn (ps16.take 29) b151 (.many [(.t x2), (.t x3)])
def b152 : ACode := (.seq (.ops (.p x2 (.mv (.c (.s 0 0)))
 (.p x3 (.mv (.c (.p 0)))
 .nil)))
 (.seq (.ops (.p x4 (.mv (.c (.s 0 0)))
 .nil))
 (.blk 0 (.loop (.blk 1 (.seq (.ops (.m x5 x4
 (.m x6 x0
 (.m x7 x0
 (.p x8 (.nck (.t x7))
 (.p x9 (.fa (.t x8) 0)
 (.l x10 (.t x9)
 (.p x11 (.lnS (.t x10))
 (.s x12 120 [(.t x6), (.f 179), (.t x11)]
 (.p x13 (.bin .add (.t x5) (.t x12))
 (.m x4 x13
 .nil)))))))))))
 (.seq (.seq (.draw (.h .no (.ye x14) (.P (.mv (.t x0)))
 (.h .no (.ye x15) (.P (.nck (.t x14)))
 (.h .no (.ye x16) (.P (.fa (.t x15) 1))
 (.h .no (.ye x17) (.L (.l (.one (.t x16))))
 (.h .no (.ye x18) (.P (.mv (.t x0)))
 (.h .no (.ye x19) (.P (.nck (.t x18)))
 (.h .no (.ye x20) (.P (.fa (.t x19) 0))
 (.h .no (.ye x21) (.L (.l (.one (.t x20))))
 (.h .no (.ye x22) (.P (.lnS (.t x21)))
 (.h .no (.ye x23) (.P (.bin .geq (.t x17) (.t x22)))
 .nil)))))))))))
 (.cond (.t x23) (.seq (.ops (.p x2 (.mv (.c (.s 0 0)))
 (.p x3 (.mv (.c (.p 11)))
 .nil)))
 .ret)
 .skip))
 (.seq (.ops (.m x24 x0
 (.p x25 (.nck (.t x24))
 (.p x26 (.fa (.t x25) 1)
 (.l x27 (.t x26)
 (.p x28 (.bin .add (.t x27) (.c (.p 1)))
 (.p x29 (.nck (.t x24))
 (.p x30 (.fa (.t x29) 1)
 (.cons .no .no (.W (.st (.t x30) 1 (.t x28)))
 .nil)))))))))
 (.seq (.seq (.ops (.m x31 x0
 (.s x32 146 [(.t x31), (.c (.p 0))]
 (.p x33 (.bin .neq (.t x32) (.c (.w .u8 39)))
 .nil))))
 (.cond (.t x33) (.seq (.ops (.m x34 x4
 (.m x2 x34
 (.p x3 (.mv (.c (.p 0)))
 .nil))))
 .ret)
 .skip))
 (.seq (.ops (.m x35 x4
 (.p x36 (.bin .add (.t x35) (.c (.s 1 39)))
 (.m x4 x36
 .nil))))
 (.ops (.m x37 x0
 (.p x38 (.nck (.t x37))
 (.p x39 (.fa (.t x38) 1)
 (.l x40 (.t x39)
 (.p x41 (.bin .add (.t x40) (.c (.p 1)))
 (.p x42 (.nck (.t x37))
 (.p x43 (.fa (.t x42) 1)
 (.cons .no .no (.W (.st (.t x43) 1 (.t x41)))
 .nil)))))))))))))))))))
def a152 : AF := .fn (ps16.take 44) b152 (.many [(.t x2), (.t x3)])
def b153 : ACode := (.seq (.ops (.p x2 (.mv (.c (.s 0 0)))
 (.p x3 (.mv (.c (.p 0)))
 .nil)))
 (.seq (.seq (.ops (.m x10 x0
 (.s x11 121 [(.c (.s 12 11497187596743261602538204459))]
 (.s x12 120 [(.t x10), (.t x11), (.c (.p 2))]
 (.m x4 x12
 .nil)))))
 (.seq (.ops (.m x13 x4
 (.p x14 (.bin .neq (.t x13) (.c (.s 0 0)))
 .nil)))
 (.cond (.t x14) (.seq (.ops (.m x15 x4
 (.m x2 x15
 (.p x3 (.mv (.c (.p 0)))
 .nil))))
 .ret)
 .skip)))
 (.seq (.seq (.ops (.m x16 x0
 (.s x17 146 [(.t x16), (.c (.p 0))]
 (.s x18 147 [(.t x17)]
 (.p x19 (.nt (.t x18))
 .nil)))))
 (.cond (.t x19) (.seq (.ops (.p x2 (.mv (.c (.s 0 0)))
 (.p x3 (.mv (.c (.p 10)))
 .nil)))
 .ret)
 .skip))
 (.seq (.ops (.m x21 x0
 (.s x22 148 [(.t x21)]
 (.m x20 x22
 (.p x23 (.ex (.t x20) 0)
 (.p x24 (.ex (.t x20) 1)
 (.m x5 x23
 (.m x6 x24
 .nil))))))))
 (.seq (.seq (.ops (.m x25 x6
 (.p x26 (.bin .neq (.t x25) (.c (.p 0)))
 (.m x27 x26
 (.cons (.ye x27 false) (.ye x28) (.P (.mv (.t x0)))
 (.cons (.ye x27 false) (.ye x29) (.S 149 [(.t x28)])
 (.cons (.ye x27 false) (.ye x30) (.P (.nt (.t x29)))
 (.p x31 (.pick (.t x27) (.c (.b true)) (.t x30))
 .nil))))))))
 (.cond (.t x31) (.seq (.ops (.m x32 x5
 (.m x33 x6
 (.m x2 x32
 (.m x3 x33
 .nil)))))
 .ret)
 .skip))
 (.seq (.ops (.m x34 x5
 (.p x35 (.bin .add (.t x34) (.c (.s 1 58)))
 (.m x5 x35
 .nil))))
 (.seq (.blk 0 (.loop (.seq (.seq (.ops (.m x36 x0
 (.s x37 146 [(.t x36), (.c (.p 0))]
 (.s x38 147 [(.t x37)]
 .nil))))
 (.cond (.t x38) .skip
 (.exit 0)))
 (.blk 1 (.seq (.ops (.m x39 x0
 (.p x40 (.nck (.t x39))
 (.p x41 (.fa (.t x40) 1)
 (.l x42 (.t x41)
 (.m x7 x42
 .nil))))))
 (.seq (.ops (.m x44 x0
 (.s x45 148 [(.t x44)]
 (.m x43 x45
 (.p x46 (.ex (.t x43) 0)
 (.p x47 (.ex (.t x43) 1)
 (.m x8 x46
 (.m x9 x47
 .nil))))))))
 (.seq (.seq (.ops (.m x48 x0
 (.s x49 149 [(.t x48)]
 (.p x50 (.nt (.t x49))
 .nil))))
 (.cond (.t x50) (.seq (.ops (.m x51 x0
 (.m x52 x7
 (.p x53 (.nck (.t x51))
 (.p x54 (.fa (.t x53) 1)
 (.cons .no .no (.W (.st (.t x54) 1 (.t x52)))
 .nil))))))
 (.seq (.ops (.m x55 x5
 (.m x2 x55
 (.p x3 (.mv (.c (.p 0)))
 .nil))))
 .ret))
 .skip))
 (.seq (.seq (.ops (.m x56 x9
 (.p x57 (.bin .neq (.t x56) (.c (.p 0)))
 .nil)))
 (.cond (.t x57) (.seq (.ops (.m x58 x9
 (.p x2 (.mv (.c (.s 0 0)))
 (.m x3 x58
 .nil))))
 .ret)
 .skip))
 (.ops (.m x59 x5
 (.m x60 x8
 (.p x61 (.bin .add (.t x60) (.c (.s 1 58)))
 (.p x62 (.bin .add (.t x59) (.t x61))
 (.m x5 x62
 .nil))))))))))))))
 (.seq (.ops (.m x63 x5
 (.m x2 x63
 (.p x3 (.mv (.c (.p 0)))
 .nil))))
 .ret))))))))
def a153 : AF := .fn (ps16.take 64) b153 (.many [(.t x2), (.t x3)])
def b154 : ACode := (.seq (.ops (.cons .no (.ye x2) (.W (.al (.cons (.p 0) (.cons (.s 0 0) (.cons (.p 0) (.cons .ns (.cons .ns (.cons .ns .nil))))))))
 .nil))
 (.seq (.ops (.m x5 x0
 (.m x6 x0
 (.m x7 x0
 (.m x8 x0
 (.s x9 183 [(.t x8)]
 (.s x10 182 [(.t x7), (.t x9)]
 (.s x11 181 [(.t x6), (.t x10)]
 (.s x12 180 [(.t x5), (.t x11)]
 (.cons .no (.ye x3) (.W (.al (.cons (.p 0) (.cons (.s 0 0) (.cons (.p 0) (.cons .ns (.cons .ns (.cons .ns .nil))))))))
 (.cons .no .no (.W (.st (.t x3) 6 (.t x12)))
 .nil)))))))))))
 (.seq (.seq (.ops (.m x13 x0
 (.s x14 123 [(.t x13), (.c (.p 10)), (.c (.s 1 59))]
 (.p x15 (.nt (.t x14))
 .nil))))
 (.cond (.t x15) (.seq (.ops (.cons .no (.ye x16) (.L (.l (.many (.t x3) 6)))
 (.cons .no .no (.W (.st (.t x2) 6 (.t x16)))
 .nil)))
 .ret)
 .skip))
 (.seq (.seq (.ops (.p x17 (.fa (.t x3) 0)
 (.l x18 (.t x17)
 (.p x19 (.bin .neq (.t x18) (.c (.p 7)))
 .nil))))
 (.cond (.t x19) (.seq (.ops (.m x20 x0
 (.m x21 x0
 (.s x22 127 [(.t x21), (.c (.p 0))]
 (.s x23 126 [(.t x20), (.t x22), (.c (.p 13))]
 .nil)))))
 (.seq (.ops (.cons .no (.ye x24) (.L (.l (.many (.t x3) 6)))
 (.cons .no .no (.W (.st (.t x2) 6 (.t x24)))
 .nil)))
 .ret))
 .skip))
 (.seq (.draw (.h .no (.ye x25) (.P (.fa (.t x3) 5))
 (.h .no (.ye x26) (.L (.l (.one (.t x25))))
 (.h .no (.ye x27) (.P (.ia (.t x26) (.c (.p 0)) 6))
 (.h .no (.ye x28) (.L (.l (.many (.t x27) 6)))
 (.h .no (.ye x29) (.L (.l (.many (.t x3) 6)))
 (.c .no (.ye x30) (.S 184 [(.t x29)]) (.cons .no (.l (.one (.t x25))) x26 (.cons .no (.l (.many (.t x27) 6)) x28 (.cons .no (.l (.many (.t x3) 6)) x29 .nil)))
 (.c .no (.ye x31) (.W (.bs (.cons (.p 0) (.cons (.s 0 0) (.cons (.p 0) (.cons .ns (.cons .ns (.cons .ns (.cons (.p 0) (.cons (.s 0 0) (.cons (.p 0) (.cons .ns (.cons .ns (.cons .ns .nil)))))))))))) 2 [(0, 6, (.t x28)), (6, 6, (.t x30))])) (.cons .no (.l (.one (.t x25))) x26 (.cons .no (.l (.many (.t x27) 6)) x28 (.cons .no (.l (.many (.t x3) 6)) x29 .nil)))
 (.h .no (.ye x32) (.P (.bd (.cons (.p 0) (.cons (.s 0 0) (.cons (.p 0) (.cons .ns (.cons .ns (.cons .ns .nil)))))) [(0, 1, (.c (.p 8))), (5, 1, (.t x31))]))
 (.z (.ye x4) (.al (.cons (.p 0) (.cons (.s 0 0) (.cons (.p 0) (.cons .ns (.cons .ns (.cons .ns .nil))))))) (.cons .no (.l (.one (.t x25))) x26 (.cons .no (.l (.many (.t x27) 6)) x28 (.cons .no (.l (.many (.t x3) 6)) x29 .nil)))
 (.c .no .no (.W (.st (.t x4) 6 (.t x32))) .nil
 .nil)))))))))))
 (.seq (.blk 0 (.loop (.seq (.seq (.ops (.m x33 x0
 (.s x34 123 [(.t x33), (.c (.p 10)), (.c (.s 1 59))]
 .nil)))
 (.cond (.t x34) .skip
 (.exit 0)))
 (.blk 1 (.seq (.ops (.m x35 x0
 (.s x36 124 [(.t x35)]
 .nil)))
 (.draw (.h .no (.ye x37) (.P (.fa (.t x4) 5))
 (.h .no (.ye x38) (.L (.l (.one (.t x37))))
 (.h .no (.ye x39) (.P (.mv (.t x0)))
 (.c .no (.ye x40) (.S 185 [(.t x39)]) (.cons .no (.l (.one (.t x37))) x38 .nil)
 (.c .no (.ye x41) (.S 184 [(.t x40)]) (.cons .no (.l (.one (.t x37))) x38 .nil)
 (.c .no (.ye x42) (.W (.bs (.cons (.p 0) (.cons (.s 0 0) (.cons (.p 0) (.cons .ns (.cons .ns (.cons .ns .nil)))))) 1 [(0, 6, (.t x41))])) (.cons .no (.l (.one (.t x37))) x38 .nil)
 (.c .no (.ye x43) (.W (.app 6 104 (.t x38) (.t x42))) .nil
 (.h .no (.ye x44) (.P (.fa (.t x4) 5))
 (.c .no .no (.W (.st (.t x44) 1 (.t x43))) .nil
 .nil)))))))))))))))
 (.seq (.ops (.cons .no (.ye x45) (.L (.l (.many (.t x4) 6)))
 (.cons .no .no (.W (.st (.t x2) 6 (.t x45)))
 .nil)))
 .ret)))))))
def a154 : AF := .fn (ps16.take 46) b154 (.onec (.many (.t x2) 6))
def b155 : ACode := (.seq (.ops (.cons .no (.ye x3) (.W (.bx (.t x1)))
 (.cons .no (.ye x4) (.W (.al (.cons (.s 0 0) (.cons (.b false) (.cons (.b false) (.cons (.p 0) .nil))))))
 (.p x5 (.mv (.c (.b false)))
 .nil))))
 (.seq (.ops (.m x7 x0
 (.p x8 (.nck (.t x7))
 (.p x9 (.fa (.t x8) 6)
 (.l x10 (.t x9)
 (.p x11 (.mf 187 [] [(.t x3)])
 (.s x12 186 [(.t x10), (.t x11)]
 (.m x6 x12
 .nil))))))))
 (.seq (.seq (.ops (.m x13 x6
 (.p x14 (.bin .lss (.t x13) (.c (.p 0)))
 .nil)))
 (.cond (.t x14) (.seq (.ops (.p x15 (.bd (.cons (.s 0 0) (.cons (.b false) (.cons (.b false) (.cons (.p 0) .nil)))) [])
 (.cons .no .no (.W (.st (.t x4) 4 (.t x15)))
 (.p x5 (.mv (.c (.b false)))
 .nil))))
 .ret)
 .skip))
 (.seq (.ops (.m x16 x0
 (.p x17 (.nck (.t x16))
 (.p x18 (.fa (.t x17) 6)
 (.l x19 (.t x18)
 (.m x20 x6
 (.p x21 (.ia (.t x19) (.t x20) 4)
 (.cons .no (.ye x22) (.L (.l (.many (.t x21) 4)))
 (.cons .no .no (.W (.st (.t x4) 4 (.t x22)))
 (.p x5 (.mv (.c (.b true)))
 .nil))))))))))
 .ret))))
def a155 : AF := .fn (ps16.take 23) b155 (.many [(.c (.many (.t x4) 4)), (.t x5)])
def b156 : ACode := (.seq (.ops (.p x2 (.mv (.c (.b false)))
 .nil))
 (.seq (.seq (.ops (.m x3 x0
 .nil))
 (.blk 0 (.seq (.seq (.ops (.p x5 (.bin .eql (.t x3) (.c (.s 4 1718379891)))
 (.m x4 x5
 .nil)))
 (.cond (.t x4) .skip
 (.seq (.ops (.p x6 (.bin .eql (.t x3) (.c (.s 5 491328140659)))
 (.m x4 x6
 .nil)))
 (.cond (.t x4) .skip
 (.seq (.ops (.p x7 (.bin .eql (.t x3) (.c (.s 3 7104878)))
 (.m x4 x7
 .nil)))
 (.cond (.t x4) .skip
 (.seq (.ops (.p x8 (.bin .eql (.t x3) (.c (.s 4 1702195828)))
 (.m x4 x8
 .nil)))
 (.cond (.t x4) .skip
 (.seq (.ops (.p x9 (.bin .eql (.t x3) (.c (.s 5 435728179558)))
 (.m x4 x9
 .nil)))
 (.cond (.t x4) .skip
 (.ops (.p x10 (.bin .eql (.t x3) (.c (.s 11 140803950564158277683865716)))
 (.m x4 x10
 .nil)))))))))))))
 (.cond (.t x4) (.seq (.ops (.p x2 (.mv (.c (.b true)))
 .nil))
 .ret)
 .skip))))
 (.seq (.ops (.p x2 (.mv (.c (.b false)))
 .nil))
 .ret)))
def a156 : AF := .fn (ps16.take 11) b156 (.one x2)
def b157 : ACode := (.seq (.ops (.m x6 x0
 (.p x7 (.nck (.t x6))
 (.p x8 (.fa (.t x7) 8)
 (.l x9 (.t x8)
 (.p x10 (.bin .eql (.t x9) (.c (.p 0)))
 .nil))))))
 (.cond (.t x10) (.ops (.m x11 x0
 (.m x12 x0
 (.m x13 x1
 (.m x14 x2
 (.p x15 (.nck (.t x11))
 (.p x16 (.fa (.t x15) 7)
 (.cons .no .no (.W (.st (.t x16) 1 (.t x13)))
 (.p x17 (.nck (.t x12))
 (.p x18 (.fa (.t x17) 8)
 (.cons .no .no (.W (.st (.t x18) 1 (.t x14)))
 .nil)))))))))))
 .skip))
def a157 : AF := .fn (ps16.take 19) b157 .none
def b158 : ACode := (.seq (.ops (.cons .no (.ye x3) (.W (.bx (.t x1)))
 (.p x4 (.mv (.c (.p 0)))
 .nil)))
 (.seq (.ops (.m x6 x0
 (.p x7 (.nck (.t x6))
 (.p x8 (.fa (.t x7) 0)
 (.p x9 (.fa (.t x8) 4)
 (.l x10 (.t x9)
 (.p x11 (.mf 189 [] [(.t x3)])
 (.s x12 188 [(.t x10), (.t x11)]
 (.m x5 x12
 .nil)))))))))
 (.seq (.seq (.ops (.m x13 x5
 (.p x14 (.bin .lss (.t x13) (.c (.p 0)))
 .nil)))
 (.cond (.t x14) (.seq (.ops (.m x15 x0
 (.p x16 (.nck (.t x15))
 (.p x17 (.fa (.t x16) 0)
 (.p x18 (.fa (.t x17) 4)
 (.l x19 (.t x18)
 (.p x20 (.lnX (.t x19))
 (.m x5 x20
 .nil))))))))
 (.two x21 x22 (rootsOf 49) (.cond (.t x22) (.seq (.ops (.m x23 x0
 (.p x24 (.nck (.t x23))
 (.p x25 (.fa (.t x24) 0)
 (.p x26 (.fa (.t x25) 4)
 (.l x27 (.t x26)
 (.p x28 (.lnX (.t x27))
 (.cons .no (.ye x29) (.W (.bs (.cons (.p 0) (.cons (.s 0 0) (.cons (.p 0) (.cons .ns .nil)))) 1 [(0, 4, (.c (.ag (.cons (.p 0) (.cons (.s 0 0) (.cons (.p 0) (.cons .ns .nil)))))))]))
 (.cons .no (.ye x30) (.W (.app 4 56 (.t x27) (.t x29)))
 (.p x31 (.nck (.t x23))
 (.p x32 (.fa (.t x31) 0)
 (.p x33 (.fa (.t x32) 4)
 (.cons .no .no (.W (.st (.t x33) 1 (.t x30)))
 .nil)))))))))))))
 (.ops (.cons .no (.ye x34) (.L (.l (.many (.t x3) 4)))
 (.p x35 (.ia (.t x30) (.t x28) 4)
 (.cons .no .no (.W (.st (.t x35) 4 (.t x34)))
 .nil)))))
 (.draw (.h .no (.ye x36) (.P (.mv (.t x0)))
 (.h .no (.ye x37) (.P (.mv (.t x0)))
 (.h .no (.ye x38) (.P (.nck (.t x37)))
 (.h .no (.ye x39) (.P (.fa (.t x38) 0))
 (.h .no (.ye x40) (.P (.fa (.t x39) 4))
 (.h .no (.ye x41) (.L (.l (.one (.t x40))))
 (.h .no (.ye x42) (.L (.l (.many (.t x3) 4)))
 (.c .no (.ye x43) (.W (.bs (.cons (.p 0) (.cons (.s 0 0) (.cons (.p 0) (.cons .ns .nil)))) 1 [(0, 4, (.t x42))])) (.cons .no (.l (.one (.t x40))) x41 .nil)
 (.c .no (.ye x44) (.W (.app 4 56 (.t x41) (.t x43))) .nil
 (.h .no (.ye x45) (.P (.nck (.t x36)))
 (.h .no (.ye x46) (.P (.fa (.t x45) 0))
 (.h .no (.ye x47) (.P (.fa (.t x46) 4))
 (.c .no .no (.W (.st (.t x47) 1 (.t x44))) .nil
 .nil)))))))))))))))))
 .skip))
 (.seq (.ops (.m x48 x5
 (.m x4 x48
 .nil)))
 .ret))))
def a158 : AF := .fn (ps16.take 49) b158 (.one x4)
def b159 : ACode := (.seq (.ops (.cons .no (.ye x3) (.W (.bx (.t x1)))
 (.cons .no (.ye x4) (.W (.al (.cons (.p 0) (.cons (.s 0 0) (.cons (.p 0) (.cons .ns .nil))))))
 .nil)))
 (.seq (.seq (.ops (.p x8 (.fa (.t x3) 0)
 (.l x9 (.t x8)
 .nil)))
 (.blk 0 (.seq (.ops (.p x11 (.bin .eql (.t x9) (.c (.p 1)))
 (.m x10 x11
 .nil)))
 (.cond (.t x10) (.seq (.ops (.p x12 (.fa (.t x3) 2)
 (.l x13 (.t x12)
 (.p x14 (.bd (.cons (.p 0) (.cons (.s 0 0) (.cons (.p 0) (.cons .ns .nil)))) [(0, 1, (.c (.p 1))), (2, 1, (.t x13))])
 (.cons .no .no (.W (.st (.t x4) 4 (.t x14)))
 .nil)))))
 .ret)
 (.seq (.ops (.p x16 (.bin .eql (.t x9) (.c (.p 2)))
 (.m x15 x16
 .nil)))
 (.cond (.t x15) (.seq (.ops (.p x17 (.fa (.t x3) 1)
 (.l x18 (.t x17)
 (.p x19 (.bd (.cons (.p 0) (.cons (.s 0 0) (.cons (.p 0) (.cons .ns .nil)))) [(0, 1, (.c (.p 2))), (1, 1, (.t x18))])
 (.cons .no .no (.W (.st (.t x4) 4 (.t x19)))
 .nil)))))
 .ret)
 (.seq (.ops (.p x21 (.bin .eql (.t x9) (.c (.p 3)))
 (.m x20 x21
 .nil)))
 (.cond (.t x20) (.seq (.ops (.p x22 (.fa (.t x3) 1)
 (.l x23 (.t x22)
 (.p x24 (.bd (.cons (.p 0) (.cons (.s 0 0) (.cons (.p 0) (.cons .ns .nil)))) [(0, 1, (.c (.p 3))), (1, 1, (.t x23))])
 (.cons .no .no (.W (.st (.t x4) 4 (.t x24)))
 .nil)))))
 .ret)
 (.seq (.ops (.p x26 (.bin .eql (.t x9) (.c (.p 4)))
 (.m x25 x26
 .nil)))
 (.cond (.t x25) (.seq (.ops (.p x27 (.bd (.cons (.p 0) (.cons (.s 0 0) (.cons (.p 0) (.cons .ns .nil)))) [(0, 1, (.c (.p 4)))])
 (.cons .no (.ye x5) (.W (.al (.cons (.p 0) (.cons (.s 0 0) (.cons (.p 0) (.cons .ns .nil))))))
 (.cons .no .no (.W (.st (.t x5) 4 (.t x27)))
 .nil))))
 (.seq (.seq (.ops (.p x28 (.fa (.t x3) 5)
 (.l x29 (.t x28)
 (.p x30 (.lnX (.t x29))
 (.p x31 (.mv (.c (.p 0)))
 .nil)))))
 (.blk 1 (.loop (.seq (.ops (.p x32 (.bin .lss (.t x31) (.t x30))
 .nil))
 (.seq (.cond (.t x32) .skip
 (.exit 1))
 (.seq (.blk 2 (.seq (.ops (.p x33 (.ia (.t x29) (.t x31) 6)
 (.cons .no (.ye x34) (.L (.l (.many (.t x33) 6)))
 (.cons .no (.ye x7) (.W (.al (.cons (.p 0) (.cons (.s 0 0) (.cons (.p 0) (.cons .ns (.cons .ns (.cons .ns .nil))))))))
 (.cons .no .no (.W (.st (.t x7) 6 (.t x34)))
 .nil)))))
 (.draw (.h .no (.ye x35) (.P (.fa (.t x5) 3))
 (.h .no (.ye x36) (.L (.l (.one (.t x35))))
 (.h .no (.ye x37) (.P (.mv (.t x0)))
 (.h .no (.ye x38) (.L (.l (.many (.t x7) 6)))
 (.c .no (.ye x39) (.S 159 [(.t x37), (.t x38)]) (.cons .no (.l (.one (.t x35))) x36 .nil)
 (.c .no (.ye x40) (.W (.bs (.cons (.p 0) (.cons (.s 0 0) (.cons (.p 0) (.cons .ns .nil)))) 1 [(0, 4, (.t x39))])) (.cons .no (.l (.one (.t x35))) x36 .nil)
 (.c .no (.ye x41) (.W (.app 4 56 (.t x36) (.t x40))) .nil
 (.h .no (.ye x42) (.P (.fa (.t x5) 3))
 (.c .no .no (.W (.st (.t x42) 1 (.t x41))) .nil
 .nil))))))))))))
 (.ops (.p x43 (.bin .add (.t x31) (.c (.p 1)))
 (.m x31 x43
 .nil)))))))))
 (.seq (.ops (.cons .no (.ye x44) (.L (.l (.many (.t x5) 4)))
 (.cons .no .no (.W (.st (.t x4) 4 (.t x44)))
 .nil)))
 .ret)))
 .skip))))))))))
 (.seq (.ops (.m x45 x0
 (.s x46 157 [(.t x45), (.c (.s 0 0)), (.c (.p 1))]
 .nil)))
 (.seq (.ops (.p x47 (.bd (.cons (.p 0) (.cons (.s 0 0) (.cons (.p 0) (.cons .ns .nil)))) [])
 (.cons .no .no (.W (.st (.t x4) 4 (.t x47)))
 .nil)))
 .ret))))
def a159 : AF := .fn (ps16.take 48) b159 (.onec (.many (.t x4) 4))
def b160 : ACode := (.seq (.seq (.ops (.m x6 x1
 .nil))
 (.blk 0 (.seq (.ops (.p x8 (.bin .eql (.t x6) (.c (.s 4 1718379891)))
 (.m x7 x8
 .nil)))
 (.cond (.t x7) (.seq (.ops (.m x9 x0
 (.s x10 131 [(.t x9), (.c (.p 1)), (.c (.p 0)), (.c (.p 0))]
 .nil)))
 .ret)
 (.seq (.ops (.p x12 (.bin .eql (.t x6) (.c (.s 3 7104878)))
 (.m x11 x12
 .nil)))
 (.cond (.t x11) (.seq (.ops (.m x13 x0
 (.s x14 131 [(.t x13), (.c (.p 2)), (.c (.p 0)), (.c (.p 0))]
 .nil)))
 .ret)
 (.seq (.ops (.p x16 (.bin .eql (.t x6) (.c (.s 4 1702195828)))
 (.m x15 x16
 .nil)))
 (.cond (.t x15) (.seq (.ops (.m x17 x0
 (.s x18 131 [(.t x17), (.c (.p 3)), (.c (.p 0)), (.c (.p 0))]
 .nil)))
 .ret)
 (.seq (.ops (.p x20 (.bin .eql (.t x6) (.c (.s 5 435728179558)))
 (.m x19 x20
 .nil)))
 (.cond (.t x19) (.seq (.ops (.m x21 x0
 (.s x22 131 [(.t x21), (.c (.p 4)), (.c (.p 0)), (.c (.p 0))]
 .nil)))
 .ret)
 (.seq (.ops (.p x24 (.bin .eql (.t x6) (.c (.s 11 140803950564158277683865716)))
 (.m x23 x24
 .nil)))
 (.cond (.t x23) (.seq (.ops (.m x25 x0
 (.s x26 131 [(.t x25), (.c (.p 5)), (.c (.p 0)), (.c (.p 0))]
 .nil)))
 .ret)
 (.seq (.ops (.p x28 (.bin .eql (.t x6) (.c (.s 5 491328140659)))
 (.m x27 x28
 .nil)))
 (.cond (.t x27) (.ops (.m x29 x0
 (.m x30 x1
 (.s x31 157 [(.t x29), (.t x30), (.c (.p 15))]
 .nil))))
 .skip))))))))))))))
 (.seq (.ops (.m x33 x0
 (.m x34 x1
 (.s x35 155 [(.t x33), (.t x34)]
 (.m x32 x35
 (.p x36 (.ex (.t x32) 0)
 (.p x37 (.ex (.t x32) 1)
 (.cons .no (.ye x4) (.W (.al (.cons (.s 0 0) (.cons (.b false) (.cons (.b false) (.cons (.p 0) .nil))))))
 (.cons .no .no (.W (.st (.t x4) 4 (.t x36)))
 (.m x5 x37
 .nil))))))))))
 (.blk 1 (.seq (.ops (.m x42 x5
 (.m x43 x42
 (.cons (.ye x43 true) (.ye x44) (.P (.fa (.t x4) 1))
 (.cons (.ye x43 true) (.ye x45) (.L (.l (.one (.t x44))))
 (.p x46 (.pick (.t x43) (.t x45) (.c (.b false)))
 (.m x41 x46
 .nil)))))))
 (.cond (.t x41) (.ops (.m x47 x0
 (.p x48 (.fa (.t x4) 3)
 (.l x49 (.t x48)
 (.s x50 131 [(.t x47), (.c (.p 8)), (.t x49), (.c (.p 0))]
 .nil)))))
 (.seq (.ops (.m x52 x5
 (.m x51 x52
 .nil)))
 (.cond (.t x51) (.ops (.m x53 x0
 (.p x54 (.fa (.t x4) 3)
 (.l x55 (.t x54)
 (.s x56 131 [(.t x53), (.c (.p 7)), (.t x55), (.c (.p 0))]
 .nil)))))
 (.seq (.ops (.m x58 x1
 (.s x59 191 [(.t x58)]
 (.m x57 x59
 .nil))))
 (.cond (.t x57) (.ops (.m x60 x0
 (.m x61 x0
 (.m x62 x1
 (.s x63 192 [(.t x61), (.t x62)]
 (.s x64 131 [(.t x60), (.c (.p 9)), (.t x63), (.c (.p 0))]
 .nil))))))
 (.ops (.m x38 x0
 (.m x39 x1
 (.s x40 157 [(.t x38), (.t x39), (.c (.p 15))]
 .nil)))))))))))))
def a160 : AF := .fn (ps16.take 65) b160 .none
def b161 : ACode := (.seq (.ops (.cons .no (.ye x3) (.W (.bx (.t x1)))
 .nil))
 (.seq (.seq (.ops (.m x6 x0
 (.cons .no (.ye x7) (.L (.l (.many (.t x3) 6)))
 (.s x8 166 [(.t x6), (.t x7)]
 (.p x9 (.nt (.t x8))
 .nil)))))
 (.cond (.t x9) .ret
 .skip))
 (.seq (.ops (.m x11 x0
 (.p x12 (.fa (.t x3) 1)
 (.l x13 (.t x12)
 (.s x14 155 [(.t x11), (.t x13)]
 (.m x10 x14
 (.p x15 (.ex (.t x10) 0)
 (.p x16 (.ex (.t x10) 1)
 (.cons .no (.ye x4) (.W (.al (.cons (.s 0 0) (.cons (.b false) (.cons (.b false) (.cons (.p 0) .nil))))))
 (.cons .no .no (.W (.st (.t x4) 4 (.t x15)))
 (.m x5 x16
 .nil)))))))))))
 (.seq (.ops (.m x17 x0
 (.p x18 (.fa (.t x3) 5)
 (.l x19 (.t x18)
 (.p x20 (.ia (.t x19) (.c (.p 0)) 6)
 (.cons .no (.ye x21) (.L (.l (.many (.t x20) 6)))
 (.s x22 130 [(.t x17), (.t x21)]
 .nil)))))))
 (.blk 0 (.seq (.ops (.m x28 x5
 (.p x29 (.nt (.t x28))
 (.m x30 x29
 (.cons (.ye x30 true) (.ye x31) (.P (.fa (.t x3) 1))
 (.cons (.ye x30 true) (.ye x32) (.L (.l (.one (.t x31))))
 (.cons (.ye x30 true) (.ye x33) (.S 156 [(.t x32)])
 (.cons (.ye x30 true) (.ye x34) (.P (.nt (.t x33)))
 (.p x35 (.pick (.t x30) (.t x34) (.c (.b false)))
 (.m x36 x35
 (.cons (.ye x36 true) (.ye x37) (.P (.fa (.t x3) 1))
 (.cons (.ye x36 true) (.ye x38) (.L (.l (.one (.t x37))))
 (.cons (.ye x36 true) (.ye x39) (.S 191 [(.t x38)])
 (.cons (.ye x36 true) (.ye x40) (.P (.nt (.t x39)))
 (.p x41 (.pick (.t x36) (.t x40) (.c (.b false)))
 (.m x27 x41
 .nil))))))))))))))))
 (.cond (.t x27) (.ops (.m x42 x0
 (.p x43 (.fa (.t x3) 1)
 (.l x44 (.t x43)
 (.s x45 157 [(.t x42), (.t x44), (.c (.p 15))]
 .nil)))))
 (.seq (.ops (.m x47 x5
 (.p x48 (.nt (.t x47))
 (.m x49 x48
 (.cons (.ye x49 false) (.ye x50) (.P (.fa (.t x4) 2))
 (.cons (.ye x49 false) (.ye x51) (.L (.l (.one (.t x50))))
 (.p x52 (.pick (.t x49) (.c (.b true)) (.t x51))
 (.m x53 x52
 (.cons (.ye x53 false) (.ye x54) (.P (.fa (.t x3) 1))
 (.cons (.ye x53 false) (.ye x55) (.L (.l (.one (.t x54))))
 (.cons (.ye x53 false) (.ye x56) (.S 156 [(.t x55)])
 (.p x57 (.pick (.t x53) (.c (.b true)) (.t x56))
 (.m x46 x57
 .nil)))))))))))))
 (.cond (.t x46) (.ops (.m x58 x0
 (.p x59 (.fa (.t x3) 1)
 (.l x60 (.t x59)
 (.s x61 157 [(.t x58), (.t x60), (.c (.p 17))]
 .nil)))))
 (.seq (.ops (.p x63 (.fa (.t x4) 1)
 (.l x64 (.t x63)
 (.m x62 x64
 .nil))))
 (.cond (.t x62) (.ops (.m x65 x0
 (.p x66 (.fa (.t x4) 3)
 (.l x67 (.t x66)
 (.s x68 131 [(.t x65), (.c (.p 11)), (.t x67), (.c (.p 0))]
 .nil)))))
 (.ops (.m x23 x0
 (.p x24 (.fa (.t x4) 3)
 (.l x25 (.t x24)
 (.s x26 131 [(.t x23), (.c (.p 10)), (.t x25), (.c (.p 0))]
 .nil))))))))))))))))
def a161 : AF := .fn (ps16.take 69) b161 .none
def b162 : ACode := (.seq (.ops (.cons .no (.ye x3) (.W (.bx (.t x1)))
 .nil))
 (.seq (.seq (.ops (.p x4 (.fa (.t x3) 5)
 (.l x5 (.t x4)
 (.p x6 (.lnX (.t x5))
 (.p x7 (.bin .eql (.t x6) (.c (.p 0)))
 .nil)))))
 (.cond (.t x7) (.seq (.ops (.m x8 x0
 (.s x9 157 [(.t x8), (.c (.s 0 0)), (.c (.p 1))]
 .nil)))
 .ret)
 .skip))
 (.seq (.seq (.ops (.m x10 x0
 (.cons .no (.ye x11) (.L (.l (.many (.t x3) 6)))
 (.s x12 193 [(.t x10), (.t x11)]
 (.m x13 x12
 (.cons (.ye x13 false) (.ye x14) (.P (.mv (.t x0)))
 (.cons (.ye x13 false) (.ye x15) (.L (.l (.many (.t x3) 6)))
 (.cons (.ye x13 false) (.ye x16) (.S 194 [(.t x14), (.t x15)])
 (.p x17 (.pick (.t x13) (.c (.b true)) (.t x16))
 .nil)))))))))
 (.cond (.t x17) .ret
 .skip))
 (.draw (.h .no (.ye x18) (.P (.mv (.t x0)))
 (.h .no (.ye x19) (.P (.mv (.t x0)))
 (.h .no (.ye x20) (.P (.fa (.t x3) 5))
 (.h .no (.ye x21) (.L (.l (.one (.t x20))))
 (.h .no (.ye x22) (.P (.ia (.t x21) (.c (.p 0)) 6))
 (.h .no (.ye x23) (.L (.l (.many (.t x22) 6)))
 (.h .no (.ye x25) (.P (.fa (.t x3) 1))
 (.h .no (.ye x26) (.L (.l (.one (.t x25))))
 (.h .no (.ye x27) (.P (.fa (.t x3) 5))
 (.h .no (.ye x28) (.L (.l (.one (.t x27))))
 (.h .no (.ye x29) (.P (.slx (.t x28) (some (.c (.p 1))) none none 6))
 (.c .no (.ye x24) (.S 196 [(.t x19), (.t x23)]) (.cons .no (.l (.one (.t x25))) x26 (.cons .no (.l (.one (.t x27))) x28 .nil))
 (.c .no (.ye x30) (.S 195 [(.t x18), (.t x24), (.t x26), (.t x29)]) .nil
 .nil)))))))))))))))))
def a162 : AF := .fn (ps16.take 31) b162 .none
def b163 : ACode := (.seq (.ops (.cons .no (.ye x3) (.W (.bx (.t x1)))
 .nil))
 (.seq (.seq (.ops (.p x8 (.fa (.t x3) 5)
 (.l x9 (.t x8)
 (.p x10 (.lnX (.t x9))
 (.p x11 (.bin .lss (.t x10) (.c (.p 2)))
 .nil)))))
 (.cond (.t x11) (.seq (.ops (.m x12 x0
 (.s x13 157 [(.t x12), (.c (.s 0 0)), (.c (.p 1))]
 .nil)))
 .ret)
 .skip))
 (.seq (.ops (.m x14 x0
 (.p x15 (.fa (.t x3) 5)
 (.l x16 (.t x15)
 (.p x17 (.ia (.t x16) (.c (.p 0)) 6)
 (.cons .no (.ye x18) (.L (.l (.many (.t x17) 6)))
 (.s x19 196 [(.t x14), (.t x18)]
 (.m x4 x19
 .nil))))))))
 (.seq (.ops (.p x20 (.fa (.t x3) 5)
 (.l x21 (.t x20)
 (.p x22 (.lnX (.t x21))
 (.p x23 (.bin .sub (.t x22) (.c (.p 1)))
 (.m x5 x23
 .nil))))))
 (.seq (.ops (.p x24 (.fa (.t x3) 5)
 (.l x25 (.t x24)
 (.p x26 (.slx (.t x25) (some (.c (.p 1))) none none 6)
 (.p x27 (.lnX (.t x26))
 (.p x28 (.mv (.c (.p 0)))
 .nil))))))
 (.blk 0 (.loop (.seq (.ops (.p x29 (.bin .lss (.t x28) (.t x27))
 .nil))
 (.seq (.cond (.t x29) .skip
 (.exit 0))
 (.seq (.blk 1 (.seq (.ops (.m x30 x28
 (.p x31 (.ia (.t x26) (.t x28) 6)
 (.cons .no (.ye x32) (.L (.l (.many (.t x31) 6)))
 (.cons .no (.ye x7) (.W (.al (.cons (.p 0) (.cons (.s 0 0) (.cons (.p 0) (.cons .ns (.cons .ns (.cons .ns .nil))))))))
 (.m x6 x30
 (.cons .no .no (.W (.st (.t x7) 6 (.t x32)))
 .nil)))))))
 (.seq (.seq (.ops (.p x33 (.fa (.t x7) 0)
 (.l x34 (.t x33)
 (.p x35 (.bin .neq (.t x34) (.c (.p 7)))
 .nil))))
 (.cond (.t x35) (.ops (.m x36 x0
 (.s x37 157 [(.t x36), (.c (.s 0 0)), (.c (.p 1))]
 .nil)))
 .skip))
 (.seq (.seq (.ops (.m x38 x6
 (.p x39 (.bin .add (.t x38) (.c (.p 1)))
 (.m x40 x5
 (.p x41 (.bin .lss (.t x39) (.t x40))
 .nil)))))
 (.cond (.t x41) (.ops (.m x42 x0
 (.s x43 131 [(.t x42), (.c (.p 13)), (.c (.p 0)), (.c (.p 0))]
 .nil)))
 .skip))
 (.seq (.ops (.m x44 x0
 (.m x45 x4
 (.p x46 (.fa (.t x7) 1)
 (.l x47 (.t x46)
 (.p x48 (.fa (.t x7) 5)
 (.l x49 (.t x48)
 (.s x50 195 [(.t x44), (.t x45), (.t x47), (.t x49)]
 .nil))))))))
 (.seq (.ops (.m x51 x6
 (.p x52 (.bin .add (.t x51) (.c (.p 1)))
 (.m x53 x5
 (.p x54 (.bin .lss (.t x52) (.t x53))
 .nil)))))
 (.cond (.t x54) (.ops (.m x55 x0
 (.s x56 131 [(.t x55), (.c (.p 12)), (.c (.p 0)), (.c (.p 0))]
 .nil)))
 .skip)))))))
 (.ops (.p x57 (.bin .add (.t x28) (.c (.p 1)))
 (.m x28 x57
 .nil)))))))))))))
def a163 : AF := .fn (ps16.take 58) b163 .none
def b164 : ACode := (.seq (.ops (.cons .no (.ye x2) (.W (.bx (.t x0)))
 (.cons .no (.ye x3) (.W (.bx (.t x1)))
 (.p x4 (.mv (.c .nf))
 .nil))))
 (.seq (.ops (.l x6 (.t x2)
 (.s x7 197 [(.t x6)]
 (.cons .no (.ye x5) (.W (.al (.cons (.p 0) .nil)))
 (.cons .no .no (.W (.st (.t x5) 1 (.t x7)))
 .nil)))))
 (.seq (.ops (.l x8 (.t x2)
 (.l x9 (.t x3)
 (.s x10 131 [(.t x8), (.t x9), (.c (.p 0)), (.c (.p 0))]
 .nil))))
 (.seq (.ops (.p x11 (.mf 198 [] [(.t x2), (.t x5), (.t x3)])
 (.m x4 x11
 .nil)))
 .ret))))
def a164 : AF := .fn (ps16.take 12) b164 (.one x4)
def b165 : ACode := (.seq (.ops (.cons .no (.ye x3) (.W (.bx (.t x1)))
 .nil))
 (.seq (.draw (.h .no (.ye x7) (.P (.mv (.t x0)))
 (.h .no (.ye x8) (.P (.nck (.t x7)))
 (.h .no (.ye x9) (.P (.fa (.t x8) 6))
 (.h .no (.ye x10) (.L (.l (.one (.t x9))))
 (.h .no (.ye x11) (.P (.mv (.t x0)))
 (.h .no (.ye x12) (.P (.nck (.t x11)))
 (.h .no (.ye x13) (.P (.fa (.t x12) 6))
 (.h .no (.ye x14) (.L (.l (.one (.t x13))))
 (.h .no (.ye x15) (.P (.lnX (.t x14)))
 (.h .no (.ye x16) (.P (.mv (.t x0)))
 (.h .no (.ye x17) (.P (.nck (.t x16)))
 (.h .no (.ye x18) (.P (.fa (.t x17) 6))
 (.h .no (.ye x19) (.L (.l (.one (.t x18))))
 (.h .no (.ye x20) (.P (.lnX (.t x19)))
 (.h .no (.ye x21) (.P (.slx (.t x10) none (some (.t x15)) (some (.t x20)) 4))
 (.h .no (.ye x4) (.P (.mv (.t x21)))
 .nil)))))))))))))))))
 (.seq (.ops (.m x22 x0
 (.m x23 x4
 (.p x24 (.nck (.t x22))
 (.p x25 (.fa (.t x24) 6)
 (.cons .no .no (.W (.st (.t x25) 1 (.t x23)))
 .nil))))))
 (.seq (.ops (.m x26 x0
 (.p x27 (.fa (.t x3) 3)
 (.l x28 (.t x27)
 (.s x29 129 [(.t x26), (.t x28), (.c (.b true))]
 .nil)))))
 (.seq (.ops (.m x30 x0
 (.p x31 (.fa (.t x3) 4)
 (.l x32 (.t x31)
 (.s x33 129 [(.t x30), (.t x32), (.c (.b false))]
 .nil)))))
 (.seq (.seq (.ops (.p x34 (.fa (.t x3) 5)
 (.l x35 (.t x34)
 (.p x36 (.lnX (.t x35))
 (.p x37 (.mv (.c (.p 0)))
 .nil)))))
 (.blk 0 (.loop (.seq (.ops (.p x38 (.bin .lss (.t x37) (.t x36))
 .nil))
 (.seq (.cond (.t x38) .skip
 (.exit 0))
 (.seq (.blk 1 (.seq (.ops (.m x39 x37
 (.p x40 (.ia (.t x35) (.t x37) 6)
 (.cons .no (.ye x41) (.L (.l (.many (.t x40) 6)))
 (.cons .no (.ye x6) (.W (.al (.cons (.p 0) (.cons (.s 0 0) (.cons (.p 0) (.cons .ns (.cons .ns (.cons .ns .nil))))))))
 (.m x5 x39
 (.cons .no .no (.W (.st (.t x6) 6 (.t x41)))
 .nil)))))))
 (.seq (.seq (.ops (.m x42 x5
 (.p x43 (.bin .gtr (.t x42) (.c (.p 0)))
 .nil)))
 (.cond (.t x43) (.ops (.m x44 x0
 (.s x45 131 [(.t x44), (.c (.p 12)), (.c (.p 0)), (.c (.p 0))]
 .nil)))
 .skip))
 (.seq (.ops (.m x46 x0
 (.cons .no (.ye x47) (.L (.l (.many (.t x6) 6)))
 (.s x48 130 [(.t x46), (.t x47)]
 .nil))))
 (.seq (.ops (.p x49 (.fa (.t x6) 0)
 (.l x50 (.t x49)
 (.p x51 (.bin .eql (.t x50) (.c (.p 10)))
 .nil))))
 (.cond (.t x51) (.ops (.m x52 x0
 (.s x53 131 [(.t x52), (.c (.p 2)), (.c (.p 0)), (.c (.p 0))]
 .nil)))
 .skip))))))
 (.ops (.p x54 (.bin .add (.t x37) (.c (.p 1)))
 (.m x37 x54
 .nil)))))))))
 (.seq (.seq (.ops (.p x55 (.fa (.t x3) 5)
 (.l x56 (.t x55)
 (.p x57 (.lnX (.t x56))
 (.p x58 (.bin .eql (.t x57) (.c (.p 0)))
 .nil)))))
 (.cond (.t x58) (.ops (.m x59 x0
 (.s x60 131 [(.t x59), (.c (.p 2)), (.c (.p 0)), (.c (.p 0))]
 .nil)))
 .skip))
 (.ops (.m x61 x0
 (.m x62 x4
 (.p x63 (.nck (.t x61))
 (.p x64 (.fa (.t x63) 6)
 (.cons .no .no (.W (.st (.t x64) 1 (.t x62)))
 .nil)))))))))))))
def a165 : AF := .fn (ps16.take 65) b165 .none
def b166 : ACode := (.seq (.ops (.cons .no (.ye x3) (.W (.bx (.t x1)))
 (.p x4 (.mv (.c (.b false)))
 .nil)))
 (.seq (.seq (.ops (.p x5 (.fa (.t x3) 5)
 (.l x6 (.t x5)
 (.p x7 (.lnX (.t x6))
 (.p x8 (.bin .neq (.t x7) (.c (.p 1)))
 .nil)))))
 (.cond (.t x8) (.ops (.m x9 x0
 (.s x10 157 [(.t x9), (.c (.s 0 0)), (.c (.p 1))]
 .nil)))
 .skip))
 (.seq (.ops (.p x11 (.fa (.t x3) 5)
 (.l x12 (.t x11)
 (.p x13 (.lnX (.t x12))
 (.p x14 (.bin .eql (.t x13) (.c (.p 1)))
 (.m x4 x14
 .nil))))))
 .ret)))
def a166 : AF := .fn (ps16.take 15) b166 (.one x4)
def b167 : ACode := (.seq (.ops (.p x6 (.mv (.c (.b false)))
 .nil))
 (.seq (.ops (.m x7 x0
 (.m x8 x1
 (.p x9 (.bin .geq (.t x7) (.t x8))
 (.m x10 x9
 (.cons (.ye x10 true) (.ye x11) (.P (.mv (.t x0)))
 (.cons (.ye x10 true) (.ye x12) (.P (.mv (.t x2)))
 (.cons (.ye x10 true) (.ye x13) (.P (.bin .leq (.t x11) (.t x12)))
 (.p x14 (.pick (.t x10) (.t x13) (.c (.b false)))
 (.m x6 x14
 .nil))))))))))
 .ret))
def a167 : AF := .fn (ps16.take 15) b167 (.one x6)
def b168 : ACode := (.seq (.ops (.p x4 (.mv (.c (.b false)))
 .nil))
 (.seq (.ops (.m x5 x0
 (.m x6 x1
 (.s x7 188 [(.t x5), (.t x6)]
 (.p x8 (.bin .geq (.t x7) (.c (.p 0)))
 (.m x4 x8
 .nil))))))
 .ret))
def a168 : AF := .fn (ps16.take 9) b168 (.one x4)
def b169 : ACode := (.seq (.ops (.cons .no (.ye x1) (.W (.bx (.t x0)))
 (.p x2 (.mv (.c (.b false)))
 .nil)))
 (.seq (.ops (.cons .no (.ye x3) (.L (.l (.many (.t x1) 4)))
 (.s x4 170 [(.t x3), (.c (.p 20))]
 (.p x5 (.nt (.t x4))
 (.m x2 x5
 .nil)))))
 .ret))
def a169 : AF := .fn (ps16.take 6) b169 (.one x2)
def b170 : ACode := (.seq (.ops (.cons .no (.ye x2) (.W (.bx (.t x0)))
 (.cons .no (.ye x3) (.W (.bx (.t x1)))
 (.p x4 (.mv (.c (.b false)))
 .nil))))
 (.seq (.seq (.ops (.p x6 (.fa (.t x2) 0)
 (.l x7 (.t x6)
 .nil)))
 (.blk 0 (.seq (.ops (.p x9 (.bin .eql (.t x7) (.c (.p 1)))
 (.m x8 x9
 .nil)))
 (.cond (.t x8) (.seq (.ops (.p x10 (.fa (.t x2) 1)
 (.l x11 (.t x10)
 (.p x12 (.bin .eql (.t x11) (.c (.s 0 0)))
 (.m x13 x12
 (.cons (.ye x13 true) (.ye x14) (.P (.fa (.t x2) 3))
 (.cons (.ye x13 true) (.ye x15) (.L (.l (.one (.t x14))))
 (.cons (.ye x13 true) (.ye x16) (.P (.lnX (.t x15)))
 (.cons (.ye x13 true) (.ye x17) (.P (.bin .eql (.t x16) (.c (.p 0))))
 (.p x18 (.pick (.t x13) (.t x17) (.c (.b false)))
 (.m x19 x18
 (.cons (.ye x19 true) (.ye x20) (.P (.fa (.t x2) 2))
 (.cons (.ye x19 true) (.ye x21) (.L (.l (.one (.t x20))))
 (.cons (.ye x19 true) (.ye x22) (.S 167 [(.t x21), (.c (.n 1152921504606846975)), (.c (.p 1152921504606846976))])
 (.p x23 (.pick (.t x19) (.t x22) (.c (.b false)))
 (.m x4 x23
 .nil))))))))))))))))
 .ret)
 (.seq (.ops (.p x25 (.bin .eql (.t x7) (.c (.p 2)))
 (.m x24 x25
 .nil)))
 (.cond (.t x24) (.seq (.ops (.p x26 (.fa (.t x2) 2)
 (.l x27 (.t x26)
 (.p x28 (.bin .eql (.t x27) (.c (.p 0)))
 (.m x29 x28
 (.cons (.ye x29 true) (.ye x30) (.P (.fa (.t x2) 3))
 (.cons (.ye x29 true) (.ye x31) (.L (.l (.one (.t x30))))
 (.cons (.ye x29 true) (.ye x32) (.P (.lnX (.t x31)))
 (.cons (.ye x29 true) (.ye x33) (.P (.bin .eql (.t x32) (.c (.p 0))))
 (.p x34 (.pick (.t x29) (.t x33) (.c (.b false)))
 (.m x35 x34
 (.cons (.ye x35 true) (.ye x36) (.P (.fa (.t x2) 1))
 (.cons (.ye x35 true) (.ye x37) (.L (.l (.one (.t x36))))
 (.cons (.ye x35 true) (.ye x38) (.P (.lnS (.t x37)))
 (.cons (.ye x35 true) (.ye x39) (.P (.bin .leq (.t x38) (.c (.p 250))))
 (.p x40 (.pick (.t x35) (.t x39) (.c (.b false)))
 (.m x4 x40
 .nil)))))))))))))))))
 .ret)
 (.seq (.ops (.p x42 (.bin .eql (.t x7) (.c (.p 3)))
 (.m x41 x42
 .nil)))
 (.cond (.t x41) (.seq (.ops (.p x43 (.fa (.t x2) 2)
 (.l x44 (.t x43)
 (.p x45 (.bin .eql (.t x44) (.c (.p 0)))
 (.m x46 x45
 (.cons (.ye x46 true) (.ye x47) (.P (.fa (.t x2) 3))
 (.cons (.ye x46 true) (.ye x48) (.L (.l (.one (.t x47))))
 (.cons (.ye x46 true) (.ye x49) (.P (.lnX (.t x48)))
 (.cons (.ye x46 true) (.ye x50) (.P (.bin .eql (.t x49) (.c (.p 0))))
 (.p x51 (.pick (.t x46) (.t x50) (.c (.b false)))
 (.m x52 x51
 (.cons (.ye x52 true) (.ye x53) (.P (.fa (.t x2) 1))
 (.cons (.ye x52 true) (.ye x54) (.L (.l (.one (.t x53))))
 (.cons (.ye x52 true) (.ye x55) (.P (.lnS (.t x54)))
 (.cons (.ye x52 true) (.ye x56) (.S 167 [(.t x55), (.c (.p 1)), (.c (.p 60))])
 (.p x57 (.pick (.t x52) (.t x56) (.c (.b false)))
 (.m x4 x57
 .nil)))))))))))))))))
 .ret)
 (.seq (.ops (.p x59 (.bin .eql (.t x7) (.c (.p 4)))
 (.m x58 x59
 .nil)))
 (.cond (.t x58) (.seq (.ops (.p x60 (.fa (.t x2) 3)
 (.l x61 (.t x60)
 (.p x62 (.mf 200 [] [(.t x3)])
 (.s x63 168 [(.t x61), (.t x62)]
 (.m x5 x63
 .nil))))))
 (.seq (.ops (.p x64 (.fa (.t x2) 2)
 (.l x65 (.t x64)
 (.p x66 (.bin .eql (.t x65) (.c (.p 0)))
 (.m x67 x66
 (.cons (.ye x67 true) (.ye x68) (.P (.fa (.t x2) 1))
 (.cons (.ye x67 true) (.ye x69) (.L (.l (.one (.t x68))))
 (.cons (.ye x67 true) (.ye x70) (.P (.bin .eql (.t x69) (.c (.s 0 0))))
 (.p x71 (.pick (.t x67) (.t x70) (.c (.b false)))
 (.m x72 x71
 (.cons (.ye x72 true) (.ye x73) (.L (.l (.one (.t x3))))
 (.cons (.ye x72 true) (.ye x74) (.P (.bin .gtr (.t x73) (.c (.p 0))))
 (.p x75 (.pick (.t x72) (.t x74) (.c (.b false)))
 (.m x76 x75
 (.cons (.ye x76 true) (.ye x77) (.P (.fa (.t x2) 3))
 (.cons (.ye x76 true) (.ye x78) (.L (.l (.one (.t x77))))
 (.cons (.ye x76 true) (.ye x79) (.P (.lnX (.t x78)))
 (.cons (.ye x76 true) (.ye x80) (.P (.bin .leq (.t x79) (.c (.p 250))))
 (.p x81 (.pick (.t x76) (.t x80) (.c (.b false)))
 (.m x82 x81
 (.cons (.ye x82 true) (.ye x83) (.P (.mv (.t x5)))
 (.cons (.ye x82 true) (.ye x84) (.P (.nt (.t x83)))
 (.p x85 (.pick (.t x82) (.t x84) (.c (.b false)))
 (.m x4 x85
 .nil))))))))))))))))))))))))
 .ret))
 .skip))))))))))
 (.seq (.ops (.p x4 (.mv (.c (.b false)))
 .nil))
 .ret)))
def a170 : AF := .fn (ps16.take 86) b170 (.one x4)
def b171 : ACode := (.seq (.ops (.cons .no (.ye x3) (.W (.bx (.t x0)))
 (.cons .no (.ye x4) (.W (.bx (.t x1)))
 (.p x6 (.mv (.c (.b false)))
 .nil))))
 (.seq (.ops (.p x9 (.fa (.t x4) 1)
 (.l x10 (.t x9)
 (.p x11 (.fa (.t x3) 4)
 (.l x12 (.t x11)
 (.p x13 (.lnX (.t x12))
 (.p x14 (.bin .lss (.t x10) (.t x13))
 (.m x7 x14
 .nil))))))))
 (.seq (.ops (.m x15 x7
 (.m x16 x15
 (.cons (.ye x16 true) (.ye x17) (.P (.fa (.t x3) 4))
 (.cons (.ye x16 true) (.ye x18) (.L (.l (.one (.t x17))))
 (.cons (.ye x16 true) (.ye x19) (.P (.fa (.t x4) 1))
 (.cons (.ye x16 true) (.ye x20) (.L (.l (.one (.t x19))))
 (.cons (.ye x16 true) (.ye x21) (.P (.ia (.t x18) (.t x20) 4))
 (.cons (.ye x16 true) (.ye x22) (.P (.fa (.t x21) 0))
 (.cons (.ye x16 true) (.ye x23) (.L (.l (.one (.t x22))))
 (.cons (.ye x16 true) (.ye x24) (.P (.bin .eql (.t x23) (.c (.p 3))))
 (.p x25 (.pick (.t x16) (.t x24) (.c (.b false)))
 (.m x8 x25
 .nil)))))))))))))
 (.seq (.seq (.ops (.p x26 (.fa (.t x4) 0)
 (.l x27 (.t x26)
 .nil)))
 (.blk 0 (.seq (.ops (.p x29 (.bin .eql (.t x27) (.c (.p 6)))
 (.m x28 x29
 .nil)))
 (.cond (.t x28) (.seq (.ops (.m x30 x7
 (.m x6 x30
 .nil)))
 .ret)
 (.seq (.ops (.p x32 (.bin .eql (.t x27) (.c (.p 9)))
 (.m x31 x32
 .nil)))
 (.cond (.t x31) (.seq (.ops (.m x33 x8
 (.m x6 x33
 .nil)))
 .ret)
 (.seq (.seq (.ops (.p x35 (.bin .eql (.t x27) (.c (.p 14)))
 (.m x34 x35
 .nil)))
 (.cond (.t x34) .skip
 (.ops (.p x36 (.bin .eql (.t x27) (.c (.p 15)))
 (.m x34 x36
 .nil)))))
 (.cond (.t x34) (.seq (.ops (.m x37 x8
 (.m x38 x37
 (.cons (.ye x38 true) (.ye x39) (.P (.fa (.t x4) 2))
 (.cons (.ye x38 true) (.ye x40) (.L (.l (.one (.t x39))))
 (.cons (.ye x38 true) (.ye x41) (.P (.bin .leq (.t x40) (.c (.p 4))))
 (.p x42 (.pick (.t x38) (.t x41) (.c (.b false)))
 (.m x6 x42
 .nil))))))))
 .ret)
 (.seq (.seq (.ops (.p x44 (.bin .eql (.t x27) (.c (.p 7)))
 (.m x43 x44
 .nil)))
 (.cond (.t x43) .skip
 (.ops (.p x45 (.bin .eql (.t x27) (.c (.p 10)))
 (.m x43 x45
 .nil)))))
 (.cond (.t x43) (.seq (.ops (.p x46 (.fa (.t x4) 1)
 (.l x47 (.t x46)
 (.p x48 (.fa (.t x3) 2)
 (.l x49 (.t x48)
 (.p x50 (.bin .lss (.t x47) (.t x49))
 (.m x6 x50
 .nil)))))))
 .ret)
 (.seq (.seq (.ops (.p x52 (.bin .eql (.t x27) (.c (.p 8)))
 (.m x51 x52
 .nil)))
 (.cond (.t x51) .skip
 (.ops (.p x53 (.bin .eql (.t x27) (.c (.p 11)))
 (.m x51 x53
 .nil)))))
 (.cond (.t x51) (.seq (.ops (.p x54 (.fa (.t x4) 1)
 (.l x55 (.t x54)
 (.m x56 x2
 (.p x57 (.bin .lss (.t x55) (.t x56))
 (.m x6 x57
 .nil))))))
 .ret)
 (.seq (.ops (.p x59 (.bin .eql (.t x27) (.c (.p 18)))
 (.m x58 x59
 .nil)))
 (.cond (.t x58) (.seq (.ops (.p x60 (.fa (.t x4) 2)
 (.l x61 (.t x60)
 (.p x62 (.bin .leq (.t x61) (.c (.p 4)))
 (.m x63 x62
 (.cons (.ye x63 true) (.ye x64) (.P (.fa (.t x4) 1))
 (.cons (.ye x63 true) (.ye x65) (.L (.l (.one (.t x64))))
 (.cons (.ye x63 true) (.ye x66) (.P (.fa (.t x4) 2))
 (.cons (.ye x63 true) (.ye x67) (.L (.l (.one (.t x66))))
 (.cons (.ye x63 true) (.ye x68) (.P (.bin .add (.t x65) (.t x67)))
 (.cons (.ye x63 true) (.ye x69) (.P (.fa (.t x3) 2))
 (.cons (.ye x63 true) (.ye x70) (.L (.l (.one (.t x69))))
 (.cons (.ye x63 true) (.ye x71) (.P (.bin .leq (.t x68) (.t x70)))
 (.p x72 (.pick (.t x63) (.t x71) (.c (.b false)))
 (.m x6 x72
 .nil)))))))))))))))
 .ret)
 .skip))))))))))))))
 (.seq (.ops (.p x6 (.mv (.c (.b true)))
 .nil))
 .ret)))))
def a171 : AF := .fn (ps16.take 73) b171 (.one x6)
def b172 : ACode := (.seq (.ops (.cons .no (.ye x1) (.W (.bx (.t x0)))
 (.p x2 (.mv (.c .ns))
 .nil)))
 (.seq (.ops (.l x6 (.t x1)
 (.p x7 (.lnX (.t x6))
 (.cons .no (.ye x8) (.W (.ms (.p 0) 8 (.t x7) (.t x7)))
 (.m x3 x8
 .nil)))))
 (.seq (.ops (.p x9 (.mf 201 [] [(.t x1)])
 (.m x4 x9
 .nil)))
 (.seq (.seq (.ops (.l x10 (.t x1)
 (.p x11 (.lnX (.t x10))
 (.p x12 (.mv (.c (.p 0)))
 .nil))))
 (.blk 0 (.loop (.seq (.ops (.p x13 (.bin .lss (.t x12) (.t x11))
 .nil))
 (.seq (.cond (.t x13) .skip
 (.exit 0))
 (.seq (.blk 1 (.seq (.ops (.m x14 x12
 (.m x5 x14
 .nil)))
 (.ops (.m x15 x3
 (.m x16 x5
 (.m x17 x4
 (.m x18 x5
 (.cons .no (.ye x19) (.V (.t x17) [(.t x18)])
 (.p x20 (.ia (.t x15) (.t x16) 1)
 (.cons .no .no (.W (.st (.t x20) 1 (.t x19)))
 .nil))))))))))
 (.ops (.p x21 (.bin .add (.t x12) (.c (.p 1)))
 (.m x12 x21
 .nil)))))))))
 (.seq (.ops (.m x22 x3
 (.m x2 x22
 .nil)))
 .ret)))))
def a172 : AF := .fn (ps16.take 23) b172 (.one x2)
def b173 : ACode := (.seq (.ops (.p x4 (.mv (.c (.b false)))
 .nil))
 (.seq (.seq (.ops (.m x11 x0
 (.p x12 (.lnX (.t x11))
 (.p x13 (.mv (.c (.p 0)))
 .nil))))
 (.blk 0 (.loop (.seq (.ops (.p x14 (.bin .lss (.t x13) (.t x12))
 .nil))
 (.seq (.cond (.t x14) .skip
 (.exit 0))
 (.seq (.blk 1 (.seq (.ops (.m x15 x13
 (.p x16 (.ia (.t x11) (.t x13) 3)
 (.cons .no (.ye x17) (.L (.l (.many (.t x16) 3)))
 (.cons .no (.ye x6) (.W (.al (.cons (.p 0) (.cons (.p 0) (.cons (.p 0) .nil)))))
 (.m x5 x15
 (.cons .no .no (.W (.st (.t x6) 3 (.t x17)))
 .nil)))))))
 (.seq (.seq (.ops (.p x18 (.fa (.t x6) 0)
 (.l x19 (.t x18)
 (.p x20 (.bin .eql (.t x19) (.c (.p 18)))
 .nil))))
 (.cond (.t x20) (.seq (.ops (.m x22 x0
 (.m x23 x5
 (.s x24 202 [(.t x22), (.t x23)]
 (.m x21 x24
 (.p x25 (.ex (.t x21) 0)
 (.p x26 (.ex (.t x21) 1)
 (.m x7 x25
 (.m x8 x26
 .nil)))))))))
 (.seq (.ops (.m x27 x0
 (.p x28 (.lnX (.t x27))
 (.m x9 x28
 .nil))))
 (.seq (.seq (.ops (.m x29 x1
 (.m x30 x5
 (.p x31 (.ia (.t x29) (.t x30) 1)
 (.l x32 (.t x31)
 (.p x33 (.bin .geq (.t x32) (.c (.p 0)))
 .nil))))))
 (.cond (.t x33) (.ops (.m x35 x0
 (.m x36 x1
 (.m x37 x5
 (.p x38 (.ia (.t x36) (.t x37) 1)
 (.l x39 (.t x38)
 (.s x40 202 [(.t x35), (.t x39)]
 (.m x34 x40
 (.p x41 (.ex (.t x34) 0)
 (.p x42 (.ex (.t x34) 1)
 (.m x9 x41
 .nil)))))))))))
 .skip))
 (.seq (.ops (.m x43 x8
 (.p x44 (.nt (.t x43))
 (.m x45 x44
 (.cons (.ye x45 false) (.ye x46) (.P (.mv (.t x7)))
 (.cons (.ye x45 false) (.ye x47) (.P (.mv (.t x9)))
 (.cons (.ye x45 false) (.ye x48) (.P (.bin .gtr (.t x46) (.t x47)))
 (.p x49 (.pick (.t x45) (.c (.b true)) (.t x48))
 .nil))))))))
 (.cond (.t x49) (.seq (.ops (.p x4 (.mv (.c (.b false)))
 .nil))
 .ret)
 .skip)))))
 .skip))
 (.seq (.ops (.cons .no (.ye x50) (.L (.l (.many (.t x6) 3)))
 (.s x51 203 [(.t x50)]
 (.m x10 x51
 .nil))))
 (.seq (.draw (.h .no (.ye x52) (.P (.mv (.t x10)))
 (.h .no (.ye x53) (.P (.bin .geq (.t x52) (.c (.p 0))))
 (.h .no (.ye x54) (.P (.mv (.t x53)))
 (.h (.ye x54 true) (.ye x55) (.P (.mv (.t x10)))
 (.h (.ye x54 true) (.ye x56) (.P (.mv (.t x0)))
 (.h (.ye x54 true) (.ye x57) (.P (.lnX (.t x56)))
 (.h (.ye x54 true) (.ye x58) (.P (.bin .geq (.t x55) (.t x57)))
 (.h (.ye x54 true) (.ye x59) (.P (.mv (.t x58)))
 (.h (.ye x59 false) (.ye x60) (.P (.mv (.t x1)))
 (.h (.ye x59 false) (.ye x61) (.P (.mv (.t x10)))
 (.h (.ye x59 false) (.ye x62) (.P (.ia (.t x60) (.t x61) 1))
 (.h (.ye x59 false) (.ye x63) (.L (.l (.one (.t x62))))
 (.h (.ye x59 false) (.ye x64) (.P (.mv (.t x1)))
 (.h (.ye x59 false) (.ye x65) (.P (.mv (.t x5)))
 (.h (.ye x59 false) (.ye x66) (.P (.ia (.t x64) (.t x65) 1))
 (.h (.ye x59 false) (.ye x67) (.L (.l (.one (.t x66))))
 (.h (.ye x59 false) (.ye x68) (.P (.bin .neq (.t x63) (.t x67)))
 (.h (.ye x54 true) (.ye x69) (.P (.pick (.t x59) (.c (.b true)) (.t x68)))
 (.h .no (.ye x70) (.P (.pick (.t x54) (.t x69) (.c (.b false))))
 .nil))))))))))))))))))))
 (.cond (.t x70) (.seq (.ops (.p x4 (.mv (.c (.b false)))
 .nil))
 .ret)
 .skip))))))
 (.ops (.p x71 (.bin .add (.t x13) (.c (.p 1)))
 (.m x13 x71
 .nil)))))))))
 (.seq (.ops (.p x4 (.mv (.c (.b true)))
 .nil))
 .ret)))
def a173 : AF := .fn (ps16.take 72) b173 (.one x4)
def b174 : ACode := (.seq (.ops (.cons .no (.ye x2) (.W (.bx (.t x0)))
 (.cons .no (.ye x3) (.W (.bx (.t x1)))
 (.p x4 (.mv (.c .ns))
 (.p x5 (.mv (.c (.b false)))
 .nil)))))
 (.seq (.ops (.l x15 (.t x2)
 (.p x16 (.lnX (.t x15))
 (.cons .no (.ye x17) (.W (.ms (.p 0) 8 (.t x16) (.t x16)))
 (.cons .no (.ye x6) (.W (.al (.cons .ns .nil)))
 (.cons .no .no (.W (.st (.t x6) 1 (.t x17)))
 .nil))))))
 (.seq (.ops (.cons .no (.ye x7) (.W (.al (.cons .ns .nil)))
 .nil))
 (.seq (.seq (.ops (.l x18 (.t x6)
 (.p x19 (.lnX (.t x18))
 (.p x20 (.mv (.c (.p 0)))
 .nil))))
 (.blk 0 (.loop (.seq (.ops (.p x21 (.bin .lss (.t x20) (.t x19))
 .nil))
 (.seq (.cond (.t x21) .skip
 (.exit 0))
 (.seq (.blk 1 (.seq (.ops (.m x22 x20
 (.m x8 x22
 .nil)))
 (.seq (.ops (.l x23 (.t x6)
 (.m x24 x8
 (.p x25 (.ia (.t x23) (.t x24) 1)
 (.cons .no .no (.W (.st (.t x25) 1 (.c (.n 0))))
 .nil)))))
 (.seq (.ops (.m x26 x8
 (.p x27 (.bin .eql (.t x26) (.c (.p 0)))
 (.m x28 x27
 (.cons (.ye x28 false) (.ye x29) (.P (.mv (.t x8)))
 (.cons (.ye x28 false) (.ye x30) (.P (.bin .gtr (.t x29) (.c (.p 1))))
 (.cons (.ye x28 false) (.ye x31) (.P (.mv (.t x30)))
 (.cons (.ye x31 true) (.ye x32) (.L (.l (.one (.t x2))))
 (.cons (.ye x31 true) (.ye x33) (.P (.mv (.t x8)))
 (.cons (.ye x31 true) (.ye x34) (.P (.bin .sub (.t x33) (.c (.p 2))))
 (.cons (.ye x31 true) (.ye x35) (.P (.ia (.t x32) (.t x34) 3))
 (.cons (.ye x31 true) (.ye x36) (.P (.fa (.t x35) 0))
 (.cons (.ye x31 true) (.ye x37) (.L (.l (.one (.t x36))))
 (.cons (.ye x31 true) (.ye x38) (.P (.bin .eql (.t x37) (.c (.p 18))))
 (.cons (.ye x28 false) (.ye x39) (.P (.pick (.t x31) (.t x38) (.c (.b false))))
 (.cons (.ye x28 false) (.ye x40) (.P (.mv (.t x39)))
 (.cons (.ye x40 true) (.ye x41) (.L (.l (.one (.t x3))))
 (.cons (.ye x40 true) (.ye x42) (.P (.mv (.t x8)))
 (.cons (.ye x40 true) (.ye x43) (.P (.ia (.t x41) (.t x42) 1))
 (.cons (.ye x40 true) (.ye x44) (.L (.l (.one (.t x43))))
 (.cons (.ye x40 true) (.ye x45) (.P (.mv (.t x8)))
 (.cons (.ye x40 true) (.ye x46) (.P (.bin .sub (.t x45) (.c (.p 2))))
 (.cons (.ye x40 true) (.ye x47) (.P (.bin .eql (.t x44) (.t x46)))
 (.cons (.ye x28 false) (.ye x48) (.P (.pick (.t x40) (.t x47) (.c (.b false))))
 (.p x49 (.pick (.t x28) (.c (.b true)) (.t x48))
 .nil)))))))))))))))))))))))))
 (.cond (.t x49) (.seq (.ops (.l x50 (.t x6)
 (.m x51 x8
 (.p x52 (.ia (.t x50) (.t x51) 1)
 (.cons .no .no (.W (.st (.t x52) 1 (.c (.p 0))))
 .nil)))))
 (.ops (.l x53 (.t x7)
 (.m x54 x8
 (.cons .no (.ye x55) (.W (.bs (.cons (.p 0) .nil) 1 [(0, 1, (.t x54))]))
 (.cons .no (.ye x56) (.W (.app 1 8 (.t x53) (.t x55)))
 (.cons .no .no (.W (.st (.t x7) 1 (.t x56)))
 .nil)))))))
 .skip)))))
 (.ops (.p x57 (.bin .add (.t x20) (.c (.p 1)))
 (.m x20 x57
 .nil)))))))))
 (.seq (.ops (.cons .no (.ye x9) (.W (.al (.cons (.b false) .nil)))
 (.cons .no .no (.W (.st (.t x9) 1 (.c (.b true))))
 .nil)))
 (.seq (.ops (.p x58 (.mf 204 [] [(.t x2), (.t x3), (.t x6), (.t x9), (.t x7)])
 (.m x10 x58
 .nil)))
 (.seq .skip
 (.seq (.blk 2 (.loop (.seq (.seq (.ops (.l x59 (.t x7)
 (.p x60 (.lnX (.t x59))
 (.p x61 (.bin .gtr (.t x60) (.c (.p 0)))
 (.m x62 x61
 (.cons (.ye x62 true) (.ye x63) (.L (.l (.one (.t x9))))
 (.p x64 (.pick (.t x62) (.t x63) (.c (.b false)))
 .nil)))))))
 (.cond (.t x64) .skip
 (.exit 2)))
 (.blk 3 (.seq (.ops (.l x65 (.t x7)
 (.l x66 (.t x7)
 (.p x67 (.lnX (.t x66))
 (.p x68 (.bin .sub (.t x67) (.c (.p 1)))
 (.p x69 (.ia (.t x65) (.t x68) 1)
 (.l x70 (.t x69)
 (.m x11 x70
 .nil))))))))
 (.seq (.ops (.l x71 (.t x7)
 (.l x72 (.t x7)
 (.p x73 (.lnX (.t x72))
 (.p x74 (.bin .sub (.t x73) (.c (.p 1)))
 (.p x75 (.slx (.t x71) none (some (.t x74)) none 1)
 (.cons .no .no (.W (.st (.t x7) 1 (.t x75)))
 .nil)))))))
 (.seq (.draw (.h .no (.ye x76) (.L (.l (.one (.t x2))))
 (.h .no (.ye x77) (.P (.mv (.t x11)))
 (.h .no (.ye x78) (.P (.ia (.t x76) (.t x77) 3))
 (.h .no (.ye x79) (.L (.l (.many (.t x78) 3)))
 (.h .no (.ye x80) (.L (.l (.one (.t x6))))
 (.h .no (.ye x81) (.P (.mv (.t x11)))
 (.h .no (.ye x82) (.P (.ia (.t x80) (.t x81) 1))
 (.h .no (.ye x83) (.L (.l (.one (.t x82))))
 (.c .no (.ye x12) (.W (.al (.cons (.p 0) (.cons (.p 0) (.cons (.p 0) .nil))))) (.cons .no (.l (.one (.t x2))) x76 (.cons .no (.l (.many (.t x78) 3)) x79 (.cons .no (.l (.one (.t x6))) x80 (.cons .no (.l (.one (.t x82))) x83 .nil))))
 (.c .no .no (.W (.st (.t x12) 3 (.t x79))) (.cons .no (.l (.one (.t x6))) x80 (.cons .no (.l (.one (.t x82))) x83 .nil))
 (.h .no (.ye x13) (.P (.mv (.t x83)))
 .nil))))))))))))
 (.seq (.ops (.m x84 x13
 (.cons .no (.ye x85) (.L (.l (.many (.t x12) 3)))
 (.s x86 205 [(.t x85)]
 (.p x87 (.bin .add (.t x84) (.t x86))
 (.m x14 x87
 .nil))))))
 (.seq (.seq (.ops (.m x88 x13
 (.cons .no (.ye x89) (.L (.l (.many (.t x12) 3)))
 (.s x90 206 [(.t x89)]
 (.p x91 (.bin .lss (.t x88) (.t x90))
 (.m x92 x91
 (.cons (.ye x92 false) (.ye x93) (.P (.mv (.t x14)))
 (.cons (.ye x92 false) (.ye x94) (.P (.bin .gtr (.t x93) (.c (.p 24))))
 (.p x95 (.pick (.t x92) (.c (.b true)) (.t x94))
 .nil)))))))))
 (.cond (.t x95) (.seq (.ops (.p x4 (.mv (.c .ns))
 (.p x5 (.mv (.c (.b false)))
 .nil)))
 .ret)
 .skip))
 (.seq (.seq (.ops (.p x96 (.fa (.t x12) 0)
 (.l x97 (.t x96)
 .nil)))
 (.blk 4 (.seq (.ops (.p x99 (.bin .eql (.t x97) (.c (.p 19)))
 (.m x98 x99
 .nil)))
 (.cond (.t x98) (.seq (.seq (.ops (.m x100 x13
 (.p x101 (.bin .neq (.t x100) (.c (.p 1)))
 (.m x102 x101
 (.cons (.ye x102 false) (.ye x103) (.L (.l (.one (.t x3))))
 (.cons (.ye x102 false) (.ye x104) (.P (.mv (.t x11)))
 (.cons (.ye x102 false) (.ye x105) (.P (.ia (.t x103) (.t x104) 1))
 (.cons (.ye x102 false) (.ye x106) (.L (.l (.one (.t x105))))
 (.cons (.ye x102 false) (.ye x107) (.P (.bin .lss (.t x106) (.c (.p 0))))
 (.p x108 (.pick (.t x102) (.c (.b true)) (.t x107))
 .nil))))))))))
 (.cond (.t x108) (.seq (.ops (.p x4 (.mv (.c .ns))
 (.p x5 (.mv (.c (.b false)))
 .nil)))
 .ret)
 .skip))
 (.exit 3))
 (.seq (.ops (.p x110 (.bin .eql (.t x97) (.c (.p 20)))
 (.m x109 x110
 .nil)))
 (.cond (.t x109) (.exit 3)
 (.seq (.ops (.p x112 (.bin .eql (.t x97) (.c (.p 16)))
 (.m x111 x112
 .nil)))
 (.cond (.t x111) (.seq (.draw (.h .no (.ye x113) (.P (.mv (.t x10)))
 (.h .no (.ye x114) (.L (.l (.many (.t x12) 3)))
 (.h .no (.ye x116) (.L (.l (.one (.t x3))))
 (.h .no (.ye x117) (.P (.mv (.t x11)))
 (.h .no (.ye x118) (.P (.ia (.t x116) (.t x117) 1))
 (.h .no (.ye x119) (.L (.l (.one (.t x118))))
 (.h .no (.ye x120) (.P (.mv (.t x14)))
 (.c .no (.ye x115) (.S 203 [(.t x114)]) (.cons .no (.l (.one (.t x3))) x116 (.cons .no (.l (.one (.t x118))) x119 .nil))
 (.c .no (.ye x121) (.V (.t x113) [(.t x115), (.t x119), (.t x120)]) .nil
 .nil))))))))))
 (.exit 3))
 (.seq (.ops (.p x123 (.bin .eql (.t x97) (.c (.p 17)))
 (.m x122 x123
 .nil)))
 (.cond (.t x122) (.draw (.h .no (.ye x124) (.P (.mv (.t x10)))
 (.h .no (.ye x125) (.L (.l (.many (.t x12) 3)))
 (.h .no (.ye x127) (.L (.l (.one (.t x3))))
 (.h .no (.ye x128) (.P (.mv (.t x11)))
 (.h .no (.ye x129) (.P (.ia (.t x127) (.t x128) 1))
 (.h .no (.ye x130) (.L (.l (.one (.t x129))))
 (.h .no (.ye x131) (.P (.mv (.t x14)))
 (.c .no (.ye x126) (.S 203 [(.t x125)]) (.cons .no (.l (.one (.t x3))) x127 (.cons .no (.l (.one (.t x129))) x130 .nil))
 (.c .no (.ye x132) (.V (.t x124) [(.t x126), (.t x130), (.t x131)]) .nil
 .nil))))))))))
 .skip))))))))))
 (.ops (.m x133 x10
 (.m x134 x11
 (.p x135 (.bin .add (.t x134) (.c (.p 1)))
 (.l x136 (.t x3)
 (.m x137 x11
 (.p x138 (.ia (.t x136) (.t x137) 1)
 (.l x139 (.t x138)
 (.m x140 x14
 (.cons .no (.ye x141) (.V (.t x133) [(.t x135), (.t x139), (.t x140)])
 .nil))))))))))))))))))))
 (.seq (.draw (.h .no (.ye x142) (.L (.l (.one (.t x6))))
 (.h .no (.ye x143) (.L (.l (.one (.t x9))))
 (.h .no (.ye x4) (.P (.mv (.t x142)))
 (.h .no (.ye x5) (.P (.mv (.t x143)))
 .nil)))))
 .ret)))))))))
def a174 : AF := .fn (ps16.take 144) b174 (.many [(.t x4), (.t x5)])
def b178 : ACode := (.seq (.ops (.p x2 (.mv (.c (.b false)))
 .nil))
 (.seq (.ops (.m x3 x0
 (.s x4 147 [(.t x3)]
 (.m x5 x4
 (.cons (.ye x5 false) (.ye x6) (.P (.mv (.t x0)))
 (.cons (.ye x5 false) (.ye x7) (.S 150 [(.t x6)])
 (.p x8 (.pick (.t x5) (.c (.b true)) (.t x7))
 (.m x2 x8
 .nil))))))))
 .ret))
def a178 : AF := .fn (ps16.take 9) b178 (.one x2)
def b179 : ACode := (.seq (.ops (.p x2 (.mv (.c (.b false)))
 .nil))
 (.seq (.ops (.m x3 x0
 (.p x4 (.bin .neq (.t x3) (.c (.w .u8 39)))
 (.m x2 x4
 .nil))))
 .ret))
def a179 : AF := .fn (ps16.take 5) b179 (.one x2)
def b180 : ACode := (.seq (.ops (.cons .no (.ye x3) (.W (.bx (.t x1)))
 (.cons .no (.ye x4) (.W (.al (.cons (.p 0) (.cons (.s 0 0) (.cons (.p 0) (.cons .ns (.cons .ns (.cons .ns .nil))))))))
 .nil)))
 (.seq (.seq (.ops (.m x6 x0
 (.s x7 123 [(.t x6), (.c (.p 2)), (.c (.s 0 0))]
 (.p x8 (.nt (.t x7))
 .nil))))
 (.cond (.t x8) (.seq (.ops (.cons .no (.ye x9) (.L (.l (.many (.t x3) 6)))
 (.cons .no .no (.W (.st (.t x4) 6 (.t x9)))
 .nil)))
 .ret)
 .skip))
 (.seq (.ops (.cons .no (.ye x10) (.L (.l (.many (.t x3) 6)))
 (.cons .no (.ye x11) (.W (.bs (.cons (.p 0) (.cons (.s 0 0) (.cons (.p 0) (.cons .ns (.cons .ns (.cons .ns .nil)))))) 1 [(0, 6, (.t x10))]))
 (.s x12 207 [(.c (.s 0 0)), (.t x11)]
 (.cons .no (.ye x5) (.W (.al (.cons (.p 0) (.cons (.s 0 0) (.cons (.p 0) (.cons .ns (.cons .ns (.cons .ns .nil))))))))
 (.cons .no .no (.W (.st (.t x5) 6 (.t x12)))
 .nil))))))
 (.seq (.blk 0 (.loop (.seq (.seq (.ops (.m x13 x0
 (.s x14 123 [(.t x13), (.c (.p 2)), (.c (.s 0 0))]
 .nil)))
 (.cond (.t x14) .skip
 (.exit 0)))
 (.blk 1 (.seq (.draw (.h .no (.ye x15) (.P (.fa (.t x5) 1))
 (.h .no (.ye x16) (.L (.l (.one (.t x15))))
 (.h .no (.ye x17) (.P (.mv (.t x0)))
 (.c .no (.ye x18) (.S 124 [(.t x17)]) (.cons .no (.l (.one (.t x15))) x16 .nil)
 (.h .no (.ye x19) (.P (.fd (.t x18) 1))
 (.h .no (.ye x20) (.P (.bin .add (.t x16) (.t x19)))
 (.h .no (.ye x21) (.P (.fa (.t x5) 1))
 (.c .no .no (.W (.st (.t x21) 1 (.t x20))) .nil
 .nil)))))))))
 (.draw (.h .no (.ye x22) (.P (.fa (.t x5) 5))
 (.h .no (.ye x23) (.L (.l (.one (.t x22))))
 (.h .no (.ye x24) (.P (.mv (.t x0)))
 (.h .no (.ye x25) (.P (.mv (.t x0)))
 (.h .no (.ye x26) (.P (.mv (.t x0)))
 (.c .no (.ye x27) (.S 183 [(.t x26)]) (.cons .no (.l (.one (.t x22))) x23 .nil)
 (.c .no (.ye x28) (.S 182 [(.t x25), (.t x27)]) (.cons .no (.l (.one (.t x22))) x23 .nil)
 (.c .no (.ye x29) (.S 181 [(.t x24), (.t x28)]) (.cons .no (.l (.one (.t x22))) x23 .nil)
 (.c .no (.ye x30) (.W (.bs (.cons (.p 0) (.cons (.s 0 0) (.cons (.p 0) (.cons .ns (.cons .ns (.cons .ns .nil)))))) 1 [(0, 6, (.t x29))])) (.cons .no (.l (.one (.t x22))) x23 .nil)
 (.c .no (.ye x31) (.W (.app 6 104 (.t x23) (.t x30))) .nil
 (.h .no (.ye x32) (.P (.fa (.t x5) 5))
 (.c .no .no (.W (.st (.t x32) 1 (.t x31))) .nil
 .nil))))))))))))))))))
 (.seq (.ops (.cons .no (.ye x33) (.L (.l (.many (.t x5) 6)))
 (.cons .no .no (.W (.st (.t x4) 6 (.t x33)))
 .nil)))
 .ret)))))
def a180 : AF := .fn (ps16.take 34) b180 (.onec (.many (.t x4) 6))
def b181 : ACode := (.seq (.ops (.cons .no (.ye x3) (.W (.bx (.t x1)))
 (.cons .no (.ye x4) (.W (.al (.cons (.p 0) (.cons (.s 0 0) (.cons (.p 0) (.cons .ns (.cons .ns (.cons .ns .nil))))))))
 .nil)))
 (.seq (.blk 0 (.loop (.seq (.seq (.ops (.m x6 x0
 (.s x7 123 [(.t x6), (.c (.p 3)), (.c (.s 0 0))]
 .nil)))
 (.cond (.t x7) .skip
 (.exit 0)))
 (.blk 1 (.seq (.ops (.m x8 x0
 (.s x9 124 [(.t x8)]
 (.cons .no (.ye x5) (.W (.al (.cons (.p 0) (.cons (.s 0 0) (.cons (.p 0) (.cons (.p 0) .nil))))))
 (.cons .no .no (.W (.st (.t x5) 4 (.t x9)))
 .nil)))))
 (.draw (.h .no (.ye x10) (.P (.fa (.t x5) 1))
 (.h .no (.ye x11) (.L (.l (.one (.t x10))))
 (.h .no (.ye x12) (.L (.l (.many (.t x3) 6)))
 (.h .no (.ye x13) (.P (.mv (.t x0)))
 (.h .no (.ye x14) (.P (.mv (.t x0)))
 (.c .no (.ye x15) (.S 183 [(.t x14)]) (.cons .no (.l (.one (.t x10))) x11 (.cons .no (.l (.many (.t x3) 6)) x12 .nil))
 (.c .no (.ye x16) (.S 182 [(.t x13), (.t x15)]) (.cons .no (.l (.one (.t x10))) x11 (.cons .no (.l (.many (.t x3) 6)) x12 .nil))
 (.c .no (.ye x17) (.W (.bs (.cons (.p 0) (.cons (.s 0 0) (.cons (.p 0) (.cons .ns (.cons .ns (.cons .ns (.cons (.p 0) (.cons (.s 0 0) (.cons (.p 0) (.cons .ns (.cons .ns (.cons .ns .nil)))))))))))) 2 [(0, 6, (.t x12)), (6, 6, (.t x16))])) (.cons .no (.l (.one (.t x10))) x11 .nil)
 (.c .no (.ye x18) (.S 207 [(.t x11), (.t x17)]) .nil
 (.c .no .no (.W (.st (.t x3) 6 (.t x18))) .nil
 .nil))))))))))))))))
 (.seq (.ops (.cons .no (.ye x19) (.L (.l (.many (.t x3) 6)))
 (.cons .no .no (.W (.st (.t x4) 6 (.t x19)))
 .nil)))
 .ret)))
def a181 : AF := .fn (ps16.take 20) b181 (.onec (.many (.t x4) 6))
def b182 : ACode := (.seq (.ops (.cons .no (.ye x3) (.W (.bx (.t x1)))
 (.cons .no (.ye x4) (.W (.al (.cons (.p 0) (.cons (.s 0 0) (.cons (.p 0) (.cons .ns (.cons .ns (.cons .ns .nil))))))))
 .nil)))
 (.seq (.blk 0 (.loop (.seq (.seq (.ops (.m x5 x0
 (.s x6 123 [(.t x5), (.c (.p 1)), (.c (.s 0 0))]
 .nil)))
 (.cond (.t x6) .skip
 (.exit 0)))
 (.blk 1 (.draw (.h .no (.ye x7) (.P (.mv (.t x0)))
 (.h .no (.ye x10) (.L (.l (.many (.t x3) 6)))
 (.c .no (.ye x8) (.S 124 [(.t x7)]) (.cons .no (.l (.many (.t x3) 6)) x10 .nil)
 (.h .no (.ye x9) (.P (.fd (.t x8) 1))
 (.z (.ye x11) (.bs (.cons (.p 0) (.cons (.s 0 0) (.cons (.p 0) (.cons .ns (.cons .ns (.cons .ns .nil)))))) 1 [(0, 6, (.t x10))]) .nil
 (.c .no (.ye x12) (.S 207 [(.t x9), (.t x11)]) .nil
 (.c .no .no (.W (.st (.t x3) 6 (.t x12))) .nil
 .nil))))))))))))
 (.seq (.ops (.cons .no (.ye x13) (.L (.l (.many (.t x3) 6)))
 (.cons .no .no (.W (.st (.t x4) 6 (.t x13)))
 .nil)))
 .ret)))
def a182 : AF := .fn (ps16.take 14) b182 (.onec (.many (.t x4) 6))
def b183 : ACode := (.seq (.ops (.cons .no (.ye x2) (.W (.al (.cons (.p 0) (.cons (.s 0 0) (.cons (.p 0) (.cons .ns (.cons .ns (.cons .ns .nil))))))))
 .nil))
 (.seq (.seq (.ops (.m x7 x0
 (.s x8 208 [(.t x7)]
 (.m x6 x8
 (.p x9 (.ex (.t x6) 0)
 (.p x10 (.ex (.t x6) 1)
 (.cons .no (.ye x3) (.W (.al (.cons (.p 0) (.cons (.s 0 0) (.cons (.p 0) (.cons .ns (.cons .ns (.cons .ns .nil))))))))
 (.cons .no .no (.W (.st (.t x3) 6 (.t x9)))
 (.m x4 x10
 .nil)))))))))
 (.seq (.ops (.m x11 x4
 .nil))
 (.cond (.t x11) (.seq (.ops (.cons .no (.ye x12) (.L (.l (.many (.t x3) 6)))
 (.cons .no .no (.W (.st (.t x2) 6 (.t x12)))
 .nil)))
 .ret)
 .skip)))
 (.seq (.seq (.ops (.m x13 x0
 (.s x14 127 [(.t x13), (.c (.p 0))]
 (.cons .no (.ye x5) (.W (.al (.cons (.p 0) (.cons (.s 0 0) (.cons (.p 0) (.cons (.p 0) .nil))))))
 (.cons .no .no (.W (.st (.t x5) 4 (.t x14)))
 .nil)))))
 (.blk 0 (.seq (.ops (.m x19 x0
 (.p x20 (.nck (.t x19))
 (.p x21 (.fa (.t x20) 3)
 (.l x22 (.t x21)
 (.p x23 (.bin .neq (.t x22) (.c (.p 0)))
 (.m x18 x23
 .nil)))))))
 (.cond (.t x18) .skip
 (.seq (.ops (.p x25 (.fa (.t x5) 0)
 (.l x26 (.t x25)
 (.p x27 (.bin .eql (.t x26) (.c (.p 1)))
 (.m x24 x27
 .nil)))))
 (.cond (.t x24) (.seq (.ops (.m x28 x0
 (.s x29 124 [(.t x28)]
 (.p x30 (.fd (.t x29) 1)
 (.p x31 (.bd (.cons (.p 0) (.cons (.s 0 0) (.cons (.p 0) (.cons .ns (.cons .ns (.cons .ns .nil)))))) [(0, 1, (.c (.p 5))), (1, 1, (.t x30))])
 (.cons .no .no (.W (.st (.t x2) 6 (.t x31)))
 .nil))))))
 .ret)
 (.seq (.ops (.p x33 (.fa (.t x5) 0)
 (.l x34 (.t x33)
 (.p x35 (.bin .eql (.t x34) (.c (.p 7)))
 (.m x32 x35
 .nil)))))
 (.cond (.t x32) (.seq (.ops (.m x36 x0
 (.m x37 x0
 (.p x38 (.mf 210 [(.t x37)] [])
 (.s x39 209 [(.t x36), (.t x38)]
 (.cons .no .no (.W (.st (.t x2) 6 (.t x39)))
 .nil))))))
 .ret)
 (.seq (.ops (.m x41 x0
 (.s x42 123 [(.t x41), (.c (.p 10)), (.c (.s 1 40))]
 (.m x40 x42
 .nil))))
 (.cond (.t x40) (.seq (.ops (.m x43 x0
 (.m x44 x0
 (.p x45 (.mf 211 [(.t x44)] [])
 (.s x46 209 [(.t x43), (.t x45)]
 (.cons .no .no (.W (.st (.t x2) 6 (.t x46)))
 .nil))))))
 .ret)
 (.seq (.ops (.m x48 x0
 (.s x49 123 [(.t x48), (.c (.p 10)), (.c (.s 1 91))]
 (.m x47 x49
 .nil))))
 (.cond (.t x47) (.seq (.ops (.m x50 x0
 (.m x51 x0
 (.p x52 (.mf 212 [(.t x51)] [])
 (.s x53 209 [(.t x50), (.t x52)]
 (.cons .no .no (.W (.st (.t x2) 6 (.t x53)))
 .nil))))))
 .ret)
 (.ops (.m x15 x0
 (.cons .no (.ye x16) (.L (.l (.many (.t x5) 4)))
 (.s x17 126 [(.t x15), (.t x16), (.c (.p 13))]
 .nil))))))))))))))))
 (.seq (.ops (.p x54 (.bd (.cons (.p 0) (.cons (.s 0 0) (.cons (.p 0) (.cons .ns (.cons .ns (.cons .ns .nil)))))) [])
 (.cons .no .no (.W (.st (.t x2) 6 (.t x54)))
 .nil)))
 .ret))))
def a183 : AF := .fn (ps16.take 55) b183 (.onec (.many (.t x2) 6))
def b184 : ACode := (.seq (.ops (.cons .no (.ye x1) (.W (.bx (.t x0)))
 (.cons .no (.ye x2) (.W (.al (.cons (.p 0) (.cons (.s 0 0) (.cons (.p 0) (.cons .ns (.cons .ns (.cons .ns .nil))))))))
 .nil)))
 (.seq (.seq (.ops (.p x3 (.fa (.t x1) 5)
 (.l x4 (.t x3)
 (.p x5 (.lnX (.t x4))
 (.p x6 (.bin .eql (.t x5) (.c (.p 0)))
 .nil)))))
 (.cond (.t x6) (.seq (.ops (.cons .no (.ye x7) (.L (.l (.many (.t x1) 6)))
 (.cons .no .no (.W (.st (.t x2) 6 (.t x7)))
 .nil)))
 .ret)
 .skip))
 (.seq (.draw (.h .no (.ye x8) (.P (.fa (.t x1) 1))
 (.h .no (.ye x9) (.L (.l (.one (.t x8))))
 (.h .no (.ye x10) (.P (.fa (.t x1) 5))
 (.h .no (.ye x11) (.L (.l (.one (.t x10))))
 (.h .no (.ye x12) (.P (.slx (.t x11) (some (.c (.p 1))) none none 6))
 (.c .no (.ye x13) (.S 213 [(.t x12)]) (.cons .no (.l (.one (.t x8))) x9 .nil)
 (.h .no (.ye x14) (.P (.bd (.cons (.p 0) (.cons (.s 0 0) (.cons (.p 0) (.cons .ns (.cons .ns (.cons .ns .nil)))))) [(0, 1, (.c (.p 7))), (1, 1, (.t x9)), (5, 1, (.t x13))]))
 (.c .no .no (.W (.st (.t x2) 6 (.t x14))) .nil
 .nil)))))))))
 .ret)))
def a184 : AF := .fn (ps16.take 15) b184 (.onec (.many (.t x2) 6))
def b185 : ACode := (.seq (.ops (.cons .no (.ye x2) (.W (.al (.cons (.p 0) (.cons (.s 0 0) (.cons (.p 0) (.cons .ns (.cons .ns (.cons .ns .nil))))))))
 .nil))
 (.seq (.ops (.cons .no (.ye x3) (.W (.al (.cons (.p 0) (.cons (.s 0 0) (.cons (.p 0) (.cons .ns (.cons .ns (.cons .ns .nil))))))))
 .nil))
 (.seq (.seq (.ops (.m x5 x0
 (.s x6 127 [(.t x5), (.c (.p 0))]
 (.cons .no (.ye x4) (.W (.al (.cons (.p 0) (.cons (.s 0 0) (.cons (.p 0) (.cons (.p 0) .nil))))))
 (.cons .no .no (.W (.st (.t x4) 4 (.t x6)))
 .nil)))))
 (.seq (.ops (.p x7 (.fa (.t x4) 0)
 (.l x8 (.t x7)
 .nil)))
 (.blk 0 (.seq (.ops (.p x13 (.bin .eql (.t x8) (.c (.p 1)))
 (.m x12 x13
 .nil)))
 (.cond (.t x12) (.seq (.ops (.m x14 x0
 (.s x15 124 [(.t x14)]
 .nil)))
 (.seq (.ops (.p x16 (.fa (.t x4) 1)
 (.l x17 (.t x16)
 (.cons .no (.ye x18) (.L (.l (.many (.t x3) 6)))
 (.cons .no (.ye x19) (.W (.bs (.cons (.p 0) (.cons (.s 0 0) (.cons (.p 0) (.cons .ns (.cons .ns (.cons .ns .nil)))))) 1 [(0, 6, (.t x18))]))
 (.s x20 207 [(.t x17), (.t x19)]
 (.cons .no .no (.W (.st (.t x2) 6 (.t x20)))
 .nil)))))))
 .ret))
 (.seq (.ops (.p x22 (.bin .eql (.t x8) (.c (.p 3)))
 (.m x21 x22
 .nil)))
 (.cond (.t x21) (.seq (.ops (.m x23 x0
 (.s x24 124 [(.t x23)]
 .nil)))
 (.seq (.draw (.h .no (.ye x25) (.P (.fa (.t x4) 1))
 (.h .no (.ye x26) (.L (.l (.one (.t x25))))
 (.h .no (.ye x27) (.L (.l (.many (.t x3) 6)))
 (.h .no (.ye x28) (.P (.mv (.t x0)))
 (.h .no (.ye x29) (.P (.mv (.t x0)))
 (.c .no (.ye x30) (.S 183 [(.t x29)]) (.cons .no (.l (.one (.t x25))) x26 (.cons .no (.l (.many (.t x3) 6)) x27 .nil))
 (.c .no (.ye x31) (.S 182 [(.t x28), (.t x30)]) (.cons .no (.l (.one (.t x25))) x26 (.cons .no (.l (.many (.t x3) 6)) x27 .nil))
 (.c .no (.ye x32) (.W (.bs (.cons (.p 0) (.cons (.s 0 0) (.cons (.p 0) (.cons .ns (.cons .ns (.cons .ns (.cons (.p 0) (.cons (.s 0 0) (.cons (.p 0) (.cons .ns (.cons .ns (.cons .ns .nil)))))))))))) 2 [(0, 6, (.t x27)), (6, 6, (.t x31))])) (.cons .no (.l (.one (.t x25))) x26 .nil)
 (.c .no (.ye x33) (.S 207 [(.t x26), (.t x32)]) .nil
 (.c .no .no (.W (.st (.t x2) 6 (.t x33))) .nil
 .nil)))))))))))
 .ret))
 (.seq (.ops (.p x35 (.bin .eql (.t x8) (.c (.p 2)))
 (.m x34 x35
 .nil)))
 (.cond (.t x34) (.seq (.ops (.m x36 x0
 (.cons .no (.ye x37) (.L (.l (.many (.t x3) 6)))
 (.s x38 180 [(.t x36), (.t x37)]
 (.cons .no .no (.W (.st (.t x2) 6 (.t x38)))
 .nil)))))
 .ret)
 (.ops (.m x9 x0
 (.cons .no (.ye x10) (.L (.l (.many (.t x4) 4)))
 (.s x11 126 [(.t x9), (.t x10), (.c (.p 13))]
 .nil)))))))))))))
 (.seq (.ops (.cons .no (.ye x39) (.L (.l (.many (.t x3) 6)))
 (.cons .no .no (.W (.st (.t x2) 6 (.t x39)))
 .nil)))
 .ret))))
def a185 : AF := .fn (ps16.take 40) b185 (.onec (.many (.t x2) 6))
def b186 : ACode := (.seq (.ops (.p x4 (.mv (.c (.p 0)))
 .nil))
 (.seq (.seq (.ops (.m x6 x0
 (.p x7 (.lnX (.t x6))
 (.p x8 (.mv (.c (.p 0)))
 .nil))))
 (.blk 0 (.loop (.seq (.ops (.p x9 (.bin .lss (.t x8) (.t x7))
 .nil))
 (.seq (.cond (.t x9) .skip
 (.exit 0))
 (.seq (.blk 1 (.seq (.ops (.m x10 x8
 (.m x5 x10
 .nil)))
 (.seq (.ops (.m x11 x1
 (.m x12 x0
 (.m x13 x5
 (.p x14 (.ia (.t x12) (.t x13) 4)
 (.cons .no (.ye x15) (.L (.l (.many (.t x14) 4)))
 (.cons .no (.ye x16) (.V (.t x11) [(.t x15)])
 .nil)))))))
 (.cond (.t x16) (.seq (.ops (.m x17 x5
 (.m x4 x17
 .nil)))
 .ret)
 .skip))))
 (.ops (.p x18 (.bin .add (.t x8) (.c (.p 1)))
 (.m x8 x18
 .nil)))))))))
 (.seq (.ops (.p x4 (.mv (.c (.n 0)))
 .nil))
 .ret)))
def a186 : AF := .fn (ps16.take 19) b186 (.one x4)
def b187 : ACode := (.seq (.ops (.cons .no (.ye x2) (.W (.bx (.t x0)))
 (.p x3 (.mv (.c (.b false)))
 .nil)))
 (.seq (.ops (.p x4 (.fa (.t x2) 0)
 (.l x5 (.t x4)
 (.l x6 (.t x1)
 (.p x7 (.bin .eql (.t x5) (.t x6))
 (.m x3 x7
 .nil))))))
 .ret))
def a187 : AF := .fn (ps16.take 8) b187 (.one x3)
def b188 : ACode := (.seq (.ops (.p x4 (.mv (.c (.p 0)))
 .nil))
 (.seq (.seq (.ops (.m x6 x0
 (.p x7 (.lnX (.t x6))
 (.p x8 (.mv (.c (.p 0)))
 .nil))))
 (.blk 0 (.loop (.seq (.ops (.p x9 (.bin .lss (.t x8) (.t x7))
 .nil))
 (.seq (.cond (.t x9) .skip
 (.exit 0))
 (.seq (.blk 1 (.seq (.ops (.m x10 x8
 (.m x5 x10
 .nil)))
 (.seq (.ops (.m x11 x1
 (.m x12 x0
 (.m x13 x5
 (.p x14 (.ia (.t x12) (.t x13) 4)
 (.cons .no (.ye x15) (.L (.l (.many (.t x14) 4)))
 (.cons .no (.ye x16) (.V (.t x11) [(.t x15)])
 .nil)))))))
 (.cond (.t x16) (.seq (.ops (.m x17 x5
 (.m x4 x17
 .nil)))
 .ret)
 .skip))))
 (.ops (.p x18 (.bin .add (.t x8) (.c (.p 1)))
 (.m x8 x18
 .nil)))))))))
 (.seq (.ops (.p x4 (.mv (.c (.n 0)))
 .nil))
 .ret)))
def a188 : AF := .fn (ps16.take 19) b188 (.one x4)
def b189 : ACode := (.seq (.ops (.cons .no (.ye x2) (.W (.bx (.t x0)))
 (.p x3 (.mv (.c (.b false)))
 .nil)))
 (.seq (.ops (.cons .no (.ye x4) (.L (.l (.many (.t x2) 4)))
 (.cons .no (.ye x5) (.L (.l (.many (.t x1) 4)))
 (.s x6 190 [(.t x4), (.t x5)]
 (.m x3 x6
 .nil)))))
 .ret))
def a189 : AF := .fn (ps16.take 7) b189 (.one x3)
def b190 : ACode := (.seq (.ops (.cons .no (.ye x2) (.W (.bx (.t x0)))
 (.cons .no (.ye x3) (.W (.bx (.t x1)))
 (.p x4 (.mv (.c (.b false)))
 .nil))))
 (.seq (.ops (.p x5 (.fa (.t x2) 0)
 (.l x6 (.t x5)
 (.p x7 (.fa (.t x3) 0)
 (.l x8 (.t x7)
 (.p x9 (.bin .eql (.t x6) (.t x8))
 (.m x10 x9
 (.cons (.ye x10 true) (.ye x11) (.P (.fa (.t x2) 1))
 (.cons (.ye x10 true) (.ye x12) (.L (.l (.one (.t x11))))
 (.cons (.ye x10 true) (.ye x13) (.P (.fa (.t x3) 1))
 (.cons (.ye x10 true) (.ye x14) (.L (.l (.one (.t x13))))
 (.cons (.ye x10 true) (.ye x15) (.P (.bin .eql (.t x12) (.t x14)))
 (.p x16 (.pick (.t x10) (.t x15) (.c (.b false)))
 (.m x17 x16
 (.cons (.ye x17 true) (.ye x18) (.P (.fa (.t x2) 2))
 (.cons (.ye x17 true) (.ye x19) (.L (.l (.one (.t x18))))
 (.cons (.ye x17 true) (.ye x20) (.P (.fa (.t x3) 2))
 (.cons (.ye x17 true) (.ye x21) (.L (.l (.one (.t x20))))
 (.cons (.ye x17 true) (.ye x22) (.P (.bin .eql (.t x19) (.t x21)))
 (.p x23 (.pick (.t x17) (.t x22) (.c (.b false)))
 (.m x24 x23
 (.cons (.ye x24 true) (.ye x25) (.P (.fa (.t x2) 3))
 (.cons (.ye x24 true) (.ye x26) (.L (.l (.one (.t x25))))
 (.cons (.ye x24 true) (.ye x27) (.P (.fa (.t x3) 3))
 (.cons (.ye x24 true) (.ye x28) (.L (.l (.one (.t x27))))
 (.cons (.ye x24 true) (.ye x29) (.S 214 [(.t x26), (.t x28), (.f 190)])
 (.p x30 (.pick (.t x24) (.t x29) (.c (.b false)))
 (.m x4 x30
 .nil))))))))))))))))))))))))))))
 .ret))
def a190 : AF := .fn (ps16.take 31) b190 (.one x4)
def b191 : ACode := (.seq (.ops (.p x2 (.mv (.c (.b false)))
 .nil))
 (.seq (.ops (.m x3 x0
 (.p x4 (.bin .neq (.t x3) (.c (.s 0 0)))
 (.m x5 x4
 (.cons (.ye x5 true) (.ye x6) (.P (.mv (.t x0)))
 (.cons (.ye x5 true) (.ye x7) (.P (.ixs (.t x6) (.c (.p 0))))
 (.cons (.ye x5 true) (.ye x8) (.P (.bin .geq (.t x7) (.c (.w .u8 65))))
 (.p x9 (.pick (.t x5) (.t x8) (.c (.b false)))
 (.m x10 x9
 (.cons (.ye x10 true) (.ye x11) (.P (.mv (.t x0)))
 (.cons (.ye x10 true) (.ye x12) (.P (.ixs (.t x11) (.c (.p 0))))
 (.cons (.ye x10 true) (.ye x13) (.P (.bin .leq (.t x12) (.c (.w .u8 90))))
 (.p x14 (.pick (.t x10) (.t x13) (.c (.b false)))
 (.m x2 x14
 .nil))))))))))))))
 .ret))
def a191 : AF := .fn (ps16.take 15) b191 (.one x2)
def b192 : ACode := (.seq (.ops (.p x4 (.mv (.c (.p 0)))
 .nil))
 (.seq (.ops (.m x5 x0
 (.m x6 x1
 (.p x7 (.bd (.cons (.p 0) (.cons (.s 0 0) (.cons (.p 0) (.cons .ns .nil)))) [(0, 1, (.c (.p 3))), (1, 1, (.t x6))])
 (.s x8 158 [(.t x5), (.t x7)]
 (.m x4 x8
 .nil))))))
 .ret))
def a192 : AF := .fn (ps16.take 9) b192 (.one x4)
end
end Go.Ev
