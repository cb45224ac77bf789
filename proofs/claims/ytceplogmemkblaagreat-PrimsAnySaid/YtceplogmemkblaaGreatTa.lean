/-
  The program's functions, as the evaluator runs them.
-/
import Derived.Test.YtceplogmemkblaaGreatXs
namespace Go.Ev
noncomputable section
set_option maxRecDepth 100000
def b4 : ACode := (.seq (.ops (.cons .no (.ye x2) (.W (.bx (.t x0)))
 (.cons .no (.ye x3) (.W (.bx (.t x1)))
 (.p x4 (.mv (.c (.b false)))
 .nil))))
 (.seq (.ops (.s x13 12 []
 (.m x5 x13
 .nil)))
 (.seq (.seq (.ops (.m x14 x5
 (.p x15 (.eqv 2 false (.t x14) (.c .np))
 .nil)))
 (.cond (.t x15) (.seq (.ops (.p x4 (.mv (.c (.b false)))
 .nil))
 .ret)
 .skip))
 (.seq (.ops (.m x16 x5
 (.s x17 23 [(.t x16)]
 (.m x6 x17
 .nil))))
 (.seq (.ops (.m x18 x5
 (.cons .no (.ye x19) (.L (.l (.many (.t x2) 3)))
 (.s x20 14 [(.t x18), (.t x19)]
 (.m x7 x20
 .nil)))))
 (.seq (.ops (.m x21 x5
 (.cons .no (.ye x22) (.L (.l (.many (.t x3) 3)))
 (.s x23 14 [(.t x21), (.t x22)]
 (.m x8 x23
 .nil)))))
 (.seq (.ops (.m x25 x5
 (.m x26 x7
 (.m x27 x8
 (.cons .no (.ye x28) (.W (.bs (.cons (.p 0) .nil) 1 [(0, 1, (.t x27))]))
 (.s x29 16 [(.t x25), (.c (.p 10)), (.t x26), (.t x28)]
 (.m x24 x29
 (.p x30 (.ex (.t x24) 0)
 (.p x31 (.ex (.t x24) 1)
 (.m x9 x30
 (.m x10 x31
 .nil)))))))))))
 (.seq (.ops (.m x33 x5
 (.m x34 x7
 (.s x35 16 [(.t x33), (.c (.p 11)), (.t x34), (.c .ns)]
 (.m x32 x35
 (.p x36 (.ex (.t x32) 0)
 (.p x37 (.ex (.t x32) 1)
 (.m x11 x36
 (.m x12 x37
 .nil)))))))))
 (.seq (.seq (.ops (.m x38 x6
 (.m x39 x7
 (.s x40 24 [(.t x38), (.t x39)]
 (.p x41 (.nt (.t x40))
 .nil)))))
 (.cond (.t x41) (.seq (.ops (.m x42 x10
 (.p x43 (.bin .eql (.t x42) (.c (.p 20)))
 (.m x44 x43
 (.cons (.ye x44 true) (.ye x45) (.P (.mv (.t x12)))
 (.cons (.ye x44 true) (.ye x46) (.P (.bin .eql (.t x45) (.c (.p 20))))
 (.p x47 (.pick (.t x44) (.t x46) (.c (.b false)))
 (.m x48 x47
 (.cons (.ye x48 true) (.ye x49) (.S 13 [])
 (.p x50 (.pick (.t x48) (.t x49) (.c (.b false)))
 (.m x4 x50
 .nil)))))))))))
 .ret)
 .skip))
 (.seq (.seq (.ops (.m x51 x6
 (.m x52 x8
 (.s x53 24 [(.t x51), (.t x52)]
 (.p x54 (.nt (.t x53))
 .nil)))))
 (.cond (.t x54) (.seq (.ops (.m x55 x10
 (.p x56 (.bin .eql (.t x55) (.c (.p 20)))
 (.m x57 x56
 (.cons (.ye x57 true) (.ye x58) (.P (.mv (.t x12)))
 (.cons (.ye x57 true) (.ye x59) (.P (.bin .eql (.t x58) (.c (.p 0))))
 (.p x60 (.pick (.t x57) (.t x59) (.c (.b false)))
 (.m x61 x60
 (.cons (.ye x61 true) (.ye x62) (.S 13 [])
 (.p x63 (.pick (.t x61) (.t x62) (.c (.b false)))
 (.m x4 x63
 .nil)))))))))))
 .ret)
 .skip))
 (.seq (.ops (.m x64 x9
 (.m x65 x7
 (.m x66 x8
 (.p x67 (.bin .eql (.t x65) (.t x66))
 (.s x68 17 [(.t x67)]
 (.p x69 (.bin .eql (.t x64) (.t x68))
 (.m x70 x69
 (.cons (.ye x70 true) (.ye x71) (.P (.mv (.t x10)))
 (.cons (.ye x70 true) (.ye x72) (.P (.bin .eql (.t x71) (.c (.p 0))))
 (.p x73 (.pick (.t x70) (.t x72) (.c (.b false)))
 (.m x74 x73
 (.cons (.ye x74 true) (.ye x75) (.P (.mv (.t x11)))
 (.cons (.ye x74 true) (.ye x76) (.P (.mv (.t x5)))
 (.cons (.ye x74 true) (.ye x77) (.P (.mv (.t x7)))
 (.cons (.ye x74 true) (.ye x78) (.S 25 [(.t x76), (.t x77)])
 (.cons (.ye x74 true) (.ye x79) (.P (.bin .eql (.t x75) (.t x78)))
 (.p x80 (.pick (.t x74) (.t x79) (.c (.b false)))
 (.m x81 x80
 (.cons (.ye x81 true) (.ye x82) (.P (.mv (.t x12)))
 (.cons (.ye x81 true) (.ye x83) (.P (.bin .eql (.t x82) (.c (.p 0))))
 (.p x84 (.pick (.t x81) (.t x83) (.c (.b false)))
 (.m x85 x84
 (.cons (.ye x85 true) (.ye x86) (.S 13 [])
 (.p x87 (.pick (.t x85) (.t x86) (.c (.b false)))
 (.m x4 x87
 .nil))))))))))))))))))))))))))
 .ret)))))))))))
def a4 : AF := .fn (ps16.take 88) b4 (.one x4)
def b12_0 : ACode := (.ops (.p x0 (.mv (.c .np))
 .nil))
def b12_1 : ACode := (.ops (.s x6 40 [(.c (.p 30000))]
 (.m x5 x6
 (.p x7 (.ex (.t x5) 0)
 (.p x8 (.ex (.t x5) 1)
 (.m x1 x7
 (.m x2 x8
 .nil)))))))
def b12_2 : ACode := (.ops (.m x9 x1
 (.p x10 (.eqv 2 false (.t x9) (.c .np))
 (.m x11 x10
 (.cons (.ye x11 false) (.ye x12) (.P (.mv (.t x2)))
 (.cons (.ye x11 false) (.ye x13) (.P (.bin .neq (.t x12) (.c (.p 0))))
 (.p x14 (.pick (.t x11) (.c (.b true)) (.t x13))
 .nil)))))))
def b12_3 : ACode := (.ops (.p x0 (.mv (.c .np))
 .nil))
def b12_4 : ACode := .ret
def b12_5 : ACode := .seq b12_3 b12_4
def b12_6 : ACode := .skip
def b12_7 : ACode := .cond (.t x14) b12_5 b12_6
def b12_8 : ACode := .seq b12_2 b12_7
def b12_9 : ACode := (.ops (.m x16 x1
 (.cons .no (.ye x17) (.W (.bs (.cons (.s 0 0) (.cons (.s 0 0) .nil)) 2 [(0, 1, (.c (.s 1 120))), (1, 1, (.c (.s 1 121)))]))
 (.s x18 41 [(.t x16), (.c (.s 5 500068609872)), (.c (.s 6 127970252055119)), (.t x17)]
 (.m x15 x18
 (.p x19 (.ex (.t x15) 0)
 (.p x20 (.ex (.t x15) 1)
 (.m x3 x19
 (.m x4 x20
 .nil)))))))))
def b12_10 : ACode := (.ops (.m x21 x4
 (.p x22 (.bin .neq (.t x21) (.c (.p 0)))
 .nil)))
def b12_11 : ACode := (.ops (.p x0 (.mv (.c .np))
 .nil))
def b12_12 : ACode := .ret
def b12_13 : ACode := .seq b12_11 b12_12
def b12_14 : ACode := .skip
def b12_15 : ACode := .cond (.t x22) b12_13 b12_14
def b12_16 : ACode := .seq b12_10 b12_15
def b12_17 : ACode := (.ops (.m x23 x1
 (.m x0 x23
 .nil)))
def b12_18 : ACode := .ret
def b12_19 : ACode := .seq b12_17 b12_18
def b12_20 : ACode := .seq b12_16 b12_19
def b12_21 : ACode := .seq b12_9 b12_20
def b12_22 : ACode := .seq b12_8 b12_21
def b12_23 : ACode := .seq b12_1 b12_22
def b12_24 : ACode := .seq b12_0 b12_23
def b12 : ACode := b12_24
def a12 : AF := .fn (ps16.take 24) b12 (.one x0)
def b13_0 : ACode := (.ops (.p x0 (.mv (.c (.b false)))
 .nil))
def b13_1 : ACode := (.ops (.s x18 12 []
 (.m x1 x18
 .nil)))
def b13_2 : ACode := (.ops (.m x19 x1
 (.p x20 (.eqv 2 false (.t x19) (.c .np))
 .nil)))
def b13_3 : ACode := (.ops (.p x0 (.mv (.c (.b false)))
 .nil))
def b13_4 : ACode := .ret
def b13_5 : ACode := .seq b13_3 b13_4
def b13_6 : ACode := .skip
def b13_7 : ACode := .cond (.t x20) b13_5 b13_6
def b13_8 : ACode := .seq b13_2 b13_7
def b13_9 : ACode := (.ops (.m x22 x1
 (.s x23 42 [(.t x22), (.c (.p 1073741823))]
 (.m x21 x23
 (.p x24 (.ex (.t x21) 0)
 (.p x25 (.ex (.t x21) 1)
 (.m x2 x24
 (.m x3 x25
 .nil))))))))
def b13_10 : ACode := (.ops (.m x27 x1
 (.m x28 x2
 (.cons .no (.ye x29) (.W (.bs (.cons (.p 0) .nil) 1 [(0, 1, (.c (.p 3)))]))
 (.s x30 16 [(.t x27), (.c (.p 1)), (.t x28), (.t x29)]
 (.m x26 x30
 (.p x31 (.ex (.t x26) 0)
 (.p x32 (.ex (.t x26) 1)
 (.m x4 x31
 (.m x5 x32
 .nil))))))))))
def b13_11 : ACode := (.ops (.m x34 x1
 (.m x35 x4
 (.s x36 15 [(.t x34), (.t x35)]
 (.m x33 x36
 (.p x37 (.ex (.t x33) 0)
 (.p x38 (.ex (.t x33) 1)
 (.m x6 x37
 (.m x7 x38
 .nil)))))))))
def b13_12 : ACode := (.ops (.m x40 x1
 (.cons .no (.ye x41) (.W (.bs (.cons (.p 0) .nil) 1 [(0, 1, (.c (.p 1)))]))
 (.s x42 16 [(.t x40), (.c (.p 4)), (.c (.p 15)), (.t x41)]
 (.m x39 x42
 (.p x43 (.ex (.t x39) 0)
 (.p x44 (.ex (.t x39) 1)
 (.m x8 x43
 (.m x9 x44
 .nil)))))))))
def b13_13 : ACode := (.ops (.m x46 x1
 (.s x47 43 [(.t x46), (.c (.s 2 25185))]
 (.m x45 x47
 (.p x48 (.ex (.t x45) 0)
 (.p x49 (.ex (.t x45) 1)
 (.m x10 x48
 (.m x11 x49
 .nil))))))))
def b13_14 : ACode := (.ops (.m x51 x1
 (.m x52 x10
 (.cons .no (.ye x53) (.W (.bs (.cons (.p 0) .nil) 1 [(0, 1, (.c (.p 5)))]))
 (.s x54 16 [(.t x51), (.c (.p 20)), (.t x52), (.t x53)]
 (.m x50 x54
 (.p x55 (.ex (.t x50) 0)
 (.p x56 (.ex (.t x50) 1)
 (.m x12 x55
 (.m x13 x56
 .nil))))))))))
def b13_15 : ACode := (.ops (.m x58 x1
 (.s x59 44 [(.t x58), (.c (.s 2 25185))]
 (.m x57 x59
 (.p x60 (.ex (.t x57) 0)
 (.p x61 (.ex (.t x57) 1)
 (.m x14 x60
 (.m x15 x61
 .nil))))))))
def b13_16 : ACode := (.ops (.m x63 x1
 (.m x64 x14
 (.cons .no (.ye x65) (.W (.bs (.cons (.p 0) (.cons (.p 0) .nil)) 2 [(0, 1, (.c (.p 3))), (1, 1, (.c (.p 199)))]))
 (.s x66 16 [(.t x63), (.c (.p 21)), (.t x64), (.t x65)]
 (.m x62 x66
 (.p x67 (.ex (.t x62) 0)
 (.p x68 (.ex (.t x62) 1)
 (.m x16 x67
 (.m x17 x68
 .nil))))))))))
def b13_17 : ACode := (.ops (.m x69 x5
 (.p x70 (.bin .eql (.t x69) (.c (.p 0)))
 (.m x71 x70
 (.cons (.ye x71 true) (.ye x72) (.P (.mv (.t x7)))
 (.p x73 (.pick (.t x71) (.t x72) (.c (.b false)))
 (.m x74 x73
 (.cons (.ye x74 true) (.ye x75) (.P (.mv (.t x6)))
 (.cons (.ye x74 true) (.ye x76) (.P (.bin .eql (.t x75) (.c (.p 1073741824))))
 (.p x77 (.pick (.t x74) (.t x76) (.c (.b false)))
 (.m x78 x77
 (.cons (.ye x78 true) (.ye x79) (.P (.mv (.t x1)))
 (.cons (.ye x78 true) (.ye x80) (.P (.mv (.t x4)))
 (.cons (.ye x78 true) (.ye x81) (.S 25 [(.t x79), (.t x80)])
 (.cons (.ye x78 true) (.ye x82) (.P (.mv (.t x1)))
 (.cons (.ye x78 true) (.ye x83) (.S 45 [(.t x82), (.c (.s 12 35403880902673026255105974604))])
 (.cons (.ye x78 true) (.ye x84) (.P (.bin .eql (.t x81) (.t x83)))
 (.p x85 (.pick (.t x78) (.t x84) (.c (.b false)))
 (.m x86 x85
 (.cons (.ye x86 true) (.ye x87) (.P (.mv (.t x9)))
 (.cons (.ye x86 true) (.ye x88) (.P (.bin .eql (.t x87) (.c (.p 20))))
 (.p x89 (.pick (.t x86) (.t x88) (.c (.b false)))
 (.m x90 x89
 (.cons (.ye x90 true) (.ye x91) (.P (.mv (.t x12)))
 (.cons (.ye x90 true) (.ye x92) (.P (.bin .eql (.t x91) (.c (.p 197))))
 (.p x93 (.pick (.t x90) (.t x92) (.c (.b false)))
 (.m x94 x93
 (.cons (.ye x94 true) (.ye x95) (.P (.mv (.t x13)))
 (.cons (.ye x94 true) (.ye x96) (.P (.bin .eql (.t x95) (.c (.p 0))))
 (.p x97 (.pick (.t x94) (.t x96) (.c (.b false)))
 (.m x98 x97
 (.cons (.ye x98 true) (.ye x99) (.P (.mv (.t x17)))
 (.cons (.ye x98 true) (.ye x100) (.P (.bin .eql (.t x99) (.c (.p 20))))
 (.p x101 (.pick (.t x98) (.t x100) (.c (.b false)))
 (.m x102 x101
 (.cons (.ye x102 true) (.ye x103) (.S 39 [(.c (.p 21))])
 (.cons (.ye x102 true) (.ye x104) (.P (.bin .eql (.t x103) (.c (.p 2))))
 (.p x105 (.pick (.t x102) (.t x104) (.c (.b false)))
 (.m x0 x105
 .nil)))))))))))))))))))))))))))))))))))))))
def b13_18 : ACode := .ret
def b13_19 : ACode := .seq b13_17 b13_18
def b13_20 : ACode := .seq b13_16 b13_19
def b13_21 : ACode := .seq b13_15 b13_20
def b13_22 : ACode := .seq b13_14 b13_21
def b13_23 : ACode := .seq b13_13 b13_22
def b13_24 : ACode := .seq b13_12 b13_23
def b13_25 : ACode := .seq b13_11 b13_24
def b13_26 : ACode := .seq b13_10 b13_25
def b13_27 : ACode := .seq b13_9 b13_26
def b13_28 : ACode := .seq b13_8 b13_27
def b13_29 : ACode := .seq b13_1 b13_28
def b13_30 : ACode := .seq b13_0 b13_29
def b13 : ACode := b13_30
def a13 : AF := .fn (ps16.take 106) b13 (.one x0)
def b14_0 : ACode := (.ops (.cons .no (.ye x3) (.W (.bx (.t x1)))
 (.p x4 (.mv (.c (.p 0)))
 .nil)))
def b14_1 : ACode := (.ops (.p x19 (.fa (.t x3) 2)
 (.l x20 (.t x19)
 (.m x5 x20
 .nil))))
def b14_2 : ACode := (.ops (.m x21 x5
 (.p x22 (.lnS (.t x21))
 (.p x23 (.bin .gtr (.t x22) (.c (.p 250)))
 .nil))))
def b14_3 : ACode := (.ops (.m x24 x5
 (.p x25 (.sls (.t x24) none (some (.c (.p 250))))
 (.m x5 x25
 .nil))))
def b14_4 : ACode := .skip
def b14_5 : ACode := .cond (.t x23) b14_3 b14_4
def b14_6 : ACode := .seq b14_2 b14_5
def b14_7 : ACode := (.ops (.p x26 (.fa (.t x3) 0)
 (.l x27 (.t x26)
 .nil)))
def b14_8 : ACode := (.ops (.p x29 (.bin .eql (.t x27) (.c (.p 0)))
 (.m x28 x29
 .nil)))
def b14_9 : ACode := (.ops (.m x31 x0
 (.p x32 (.fa (.t x3) 1)
 (.l x33 (.t x32)
 (.s x34 42 [(.t x31), (.t x33)]
 (.m x30 x34
 (.p x35 (.ex (.t x30) 0)
 (.p x36 (.ex (.t x30) 1)
 (.m x6 x35
 (.m x7 x36
 .nil))))))))))
def b14_10 : ACode := (.ops (.m x37 x6
 (.m x4 x37
 .nil)))
def b14_11 : ACode := .ret
def b14_12 : ACode := .seq b14_10 b14_11
def b14_13 : ACode := .seq b14_9 b14_12
def b14_14 : ACode := (.ops (.p x39 (.bin .eql (.t x27) (.c (.p 1)))
 (.m x38 x39
 .nil)))
def b14_15 : ACode := (.ops (.m x41 x0
 (.m x42 x5
 (.s x43 43 [(.t x41), (.t x42)]
 (.m x40 x43
 (.p x44 (.ex (.t x40) 0)
 (.p x45 (.ex (.t x40) 1)
 (.m x8 x44
 (.m x9 x45
 .nil)))))))))
def b14_16 : ACode := (.ops (.m x46 x8
 (.m x4 x46
 .nil)))
def b14_17 : ACode := .ret
def b14_18 : ACode := .seq b14_16 b14_17
def b14_19 : ACode := .seq b14_15 b14_18
def b14_20 : ACode := (.ops (.p x48 (.bin .eql (.t x27) (.c (.p 2)))
 (.m x47 x48
 .nil)))
def b14_21 : ACode := (.ops (.m x49 x5
 (.p x50 (.lnS (.t x49))
 (.p x51 (.bin .gtr (.t x50) (.c (.p 60)))
 .nil))))
def b14_22 : ACode := (.ops (.m x52 x5
 (.p x53 (.sls (.t x52) none (some (.c (.p 60))))
 (.m x5 x53
 .nil))))
def b14_23 : ACode := .skip
def b14_24 : ACode := .cond (.t x51) b14_22 b14_23
def b14_25 : ACode := .seq b14_21 b14_24
def b14_26 : ACode := (.ops (.m x55 x0
 (.m x56 x5
 (.m x57 x5
 (.p x58 (.lnS (.t x57))
 (.p x59 (.bin .quo (.t x58) (.c (.p 2)))
 (.p x60 (.sls (.t x56) none (some (.t x59)))
 (.p x61 (.bin .add (.c (.s 1 115)) (.t x60))
 (.s x62 44 [(.t x55), (.t x61)]
 (.m x54 x62
 (.p x63 (.ex (.t x54) 0)
 (.p x64 (.ex (.t x54) 1)
 (.m x10 x63
 (.m x11 x64
 .nil))))))))))))))
def b14_27 : ACode := (.ops (.m x65 x10
 (.m x4 x65
 .nil)))
def b14_28 : ACode := .ret
def b14_29 : ACode := .seq b14_27 b14_28
def b14_30 : ACode := .seq b14_26 b14_29
def b14_31 : ACode := .seq b14_25 b14_30
def b14_32 : ACode := (.ops (.p x67 (.bin .eql (.t x27) (.c (.p 3)))
 (.m x66 x67
 .nil)))
def b14_33 : ACode := (.ops (.p x68 (.fa (.t x3) 1)
 (.l x69 (.t x68)
 (.m x12 x69
 .nil))))
def b14_34 : ACode := (.ops (.m x70 x12
 (.p x71 (.bin .lss (.t x70) (.c (.p 0)))
 .nil)))
def b14_35 : ACode := (.ops (.m x72 x12
 (.p x73 (.bin .add (.t x72) (.c (.p 1)))
 (.p x74 (.ng (.t x73))
 (.m x12 x74
 .nil)))))
def b14_36 : ACode := .skip
def b14_37 : ACode := .cond (.t x71) b14_35 b14_36
def b14_38 : ACode := .seq b14_34 b14_37
def b14_39 : ACode := (.ops (.p x13 (.mv (.c .ns))
 .nil))
def b14_40 : ACode := (.ops (.p x14 (.mv (.c (.p 0)))
 .nil))
def b14_41 : ACode := (.ops (.m x75 x14
 (.m x76 x12
 (.p x77 (.bin .rem (.t x76) (.c (.p 10)))
 (.p x78 (.bin .lss (.t x75) (.t x77))
 .nil)))))
def b14_42 : ACode := .skip
def b14_43 : ACode := (.exit 1)
def b14_44 : ACode := .cond (.t x78) b14_42 b14_43
def b14_45 : ACode := .seq b14_41 b14_44
def b14_46 : ACode := (.ops (.m x81 x13
 (.m x82 x14
 (.p x83 (.bin .mul (.c (.p 2)) (.t x82))
 (.p x84 (.bin .add (.t x83) (.c (.p 1)))
 (.cons .no (.ye x85) (.W (.bs (.cons (.p 0) .nil) 1 [(0, 1, (.t x84))]))
 (.cons .no (.ye x86) (.W (.app 1 8 (.t x81) (.t x85)))
 (.m x13 x86
 .nil))))))))
def b14_47 : ACode := .blk 2 b14_46
def b14_48 : ACode := (.ops (.m x79 x14
 (.p x80 (.bin .add (.t x79) (.c (.p 1)))
 (.m x14 x80
 .nil))))
def b14_49 : ACode := .seq b14_47 b14_48
def b14_50 : ACode := .seq b14_45 b14_49
def b14_51 : ACode := .loop b14_50
def b14_52 : ACode := .blk 1 b14_51
def b14_53 : ACode := .seq b14_40 b14_52
def b14_54 : ACode := (.ops (.m x88 x0
 (.m x89 x13
 (.s x90 46 [(.t x88), (.t x89)]
 (.m x87 x90
 (.p x91 (.ex (.t x87) 0)
 (.p x92 (.ex (.t x87) 1)
 (.m x15 x91
 (.m x16 x92
 .nil)))))))))
def b14_55 : ACode := (.ops (.m x93 x15
 (.m x4 x93
 .nil)))
def b14_56 : ACode := .ret
def b14_57 : ACode := .seq b14_55 b14_56
def b14_58 : ACode := .seq b14_54 b14_57
def b14_59 : ACode := .seq b14_53 b14_58
def b14_60 : ACode := .seq b14_39 b14_59
def b14_61 : ACode := .seq b14_38 b14_60
def b14_62 : ACode := .seq b14_33 b14_61
def b14_63 : ACode := (.ops (.p x95 (.bin .eql (.t x27) (.c (.p 4)))
 (.m x94 x95
 .nil)))
def b14_64 : ACode := (.ops (.m x97 x0
 (.s x98 23 [(.t x97)]
 (.m x99 x0
 (.s x100 45 [(.t x99), (.c (.s 5 500068609872))]
 (.s x101 47 [(.t x98), (.t x100), (.c (.p 0)), (.c (.p 2))]
 (.m x96 x101
 (.p x102 (.ex (.t x96) 0)
 (.p x103 (.ex (.t x96) 1)
 (.m x17 x102
 (.m x18 x103
 .nil)))))))))))
def b14_65 : ACode := (.ops (.m x104 x17
 (.m x4 x104
 .nil)))
def b14_66 : ACode := .ret
def b14_67 : ACode := .seq b14_65 b14_66
def b14_68 : ACode := .seq b14_64 b14_67
def b14_69 : ACode := (.ops (.p x106 (.bin .eql (.t x27) (.c (.p 5)))
 (.m x105 x106
 .nil)))
def b14_70 : ACode := (.ops (.p x107 (.fa (.t x3) 1)
 (.l x108 (.t x107)
 (.p x109 (.bin .eql (.t x108) (.c (.p 16)))
 .nil))))
def b14_71 : ACode := (.ops (.m x110 x0
 (.s x111 45 [(.t x110), (.c (.s 5 500068609872))]
 (.m x4 x111
 .nil))))
def b14_72 : ACode := .ret
def b14_73 : ACode := .seq b14_71 b14_72
def b14_74 : ACode := .skip
def b14_75 : ACode := .cond (.t x109) b14_73 b14_74
def b14_76 : ACode := .seq b14_70 b14_75
def b14_77 : ACode := (.ops (.m x112 x0
 (.p x113 (.fa (.t x3) 1)
 (.l x114 (.t x113)
 (.s x115 30 [(.t x112), (.t x114)]
 (.m x4 x115
 .nil))))))
def b14_78 : ACode := .ret
def b14_79 : ACode := .seq b14_77 b14_78
def b14_80 : ACode := .seq b14_76 b14_79
def b14_81 : ACode := (.ops (.p x117 (.bin .eql (.t x27) (.c (.p 6)))
 (.m x116 x117
 .nil)))
def b14_82 : ACode := (.ops (.p x4 (.mv (.c (.p 0)))
 .nil))
def b14_83 : ACode := .ret
def b14_84 : ACode := .seq b14_82 b14_83
def b14_85 : ACode := (.ops (.p x119 (.bin .eql (.t x27) (.c (.p 7)))
 (.m x118 x119
 .nil)))
def b14_86 : ACode := (.ops (.p x4 (.mv (.c (.p 2)))
 .nil))
def b14_87 : ACode := .ret
def b14_88 : ACode := .seq b14_86 b14_87
def b14_89 : ACode := (.ops (.p x121 (.bin .eql (.t x27) (.c (.p 8)))
 (.m x120 x121
 .nil)))
def b14_90 : ACode := (.ops (.p x4 (.mv (.c (.p 4)))
 .nil))
def b14_91 : ACode := .ret
def b14_92 : ACode := .seq b14_90 b14_91
def b14_93 : ACode := .skip
def b14_94 : ACode := .cond (.t x120) b14_92 b14_93
def b14_95 : ACode := .seq b14_89 b14_94
def b14_96 : ACode := .cond (.t x118) b14_88 b14_95
def b14_97 : ACode := .seq b14_85 b14_96
def b14_98 : ACode := .cond (.t x116) b14_84 b14_97
def b14_99 : ACode := .seq b14_81 b14_98
def b14_100 : ACode := .cond (.t x105) b14_80 b14_99
def b14_101 : ACode := .seq b14_69 b14_100
def b14_102 : ACode := .cond (.t x94) b14_68 b14_101
def b14_103 : ACode := .seq b14_63 b14_102
def b14_104 : ACode := .cond (.t x66) b14_62 b14_103
def b14_105 : ACode := .seq b14_32 b14_104
def b14_106 : ACode := .cond (.t x47) b14_31 b14_105
def b14_107 : ACode := .seq b14_20 b14_106
def b14_108 : ACode := .cond (.t x38) b14_19 b14_107
def b14_109 : ACode := .seq b14_14 b14_108
def b14_110 : ACode := .cond (.t x28) b14_13 b14_109
def b14_111 : ACode := .seq b14_8 b14_110
def b14_112 : ACode := .blk 0 b14_111
def b14_113 : ACode := .seq b14_7 b14_112
def b14_114 : ACode := (.ops (.p x122 (.fa (.t x3) 1)
 (.l x123 (.t x122)
 (.m x4 x123
 .nil))))
def b14_115 : ACode := .ret
def b14_116 : ACode := .seq b14_114 b14_115
def b14_117 : ACode := .seq b14_113 b14_116
def b14_118 : ACode := .seq b14_6 b14_117
def b14_119 : ACode := .seq b14_1 b14_118
def b14_120 : ACode := .seq b14_0 b14_119
def b14 : ACode := b14_120
def a14 : AF := .fn (ps16.take 124) b14 (.one x4)
def b15 : ACode := (.seq (.ops (.p x4 (.mv (.c (.p 0)))
 (.p x5 (.mv (.c (.b false)))
 .nil)))
 (.seq (.blk 0 (.seq (.ops (.m x7 x1
 (.s x8 48 [(.t x7)]
 (.m x6 x8
 .nil))))
 (.cond (.t x6) (.seq (.ops (.m x9 x1
 (.s x10 49 [(.t x9)]
 (.m x4 x10
 (.p x5 (.mv (.c (.b true)))
 .nil)))))
 .ret)
 (.seq (.ops (.m x12 x0
 (.p x13 (.nck (.t x12))
 (.p x14 (.fa (.t x13) 0)
 (.l x15 (.t x14)
 (.m x16 x1
 (.s x17 31 [(.t x15), (.t x16)]
 (.m x18 x17
 (.cons (.ye x18 true) (.ye x19) (.P (.mv (.t x0)))
 (.cons (.ye x18 true) (.ye x20) (.P (.nck (.t x19)))
 (.cons (.ye x18 true) (.ye x21) (.P (.fa (.t x20) 0))
 (.cons (.ye x18 true) (.ye x22) (.L (.l (.one (.t x21))))
 (.cons (.ye x18 true) (.ye x23) (.P (.mv (.t x1)))
 (.cons (.ye x18 true) (.ye x24) (.S 50 [(.t x22), (.t x23)])
 (.cons (.ye x18 true) (.ye x25) (.P (.mv (.t x0)))
 (.cons (.ye x18 true) (.ye x26) (.S 30 [(.t x25), (.c (.p 8))])
 (.cons (.ye x18 true) (.ye x27) (.P (.bin .eql (.t x24) (.t x26)))
 (.p x28 (.pick (.t x18) (.t x27) (.c (.b false)))
 (.m x29 x28
 (.cons (.ye x29 true) (.ye x30) (.P (.mv (.t x0)))
 (.cons (.ye x29 true) (.ye x31) (.P (.nck (.t x30)))
 (.cons (.ye x29 true) (.ye x32) (.P (.fa (.t x31) 0))
 (.cons (.ye x29 true) (.ye x33) (.L (.l (.one (.t x32))))
 (.cons (.ye x29 true) (.ye x34) (.P (.mv (.t x1)))
 (.cons (.ye x29 true) (.ye x35) (.S 38 [(.t x33), (.t x34)])
 (.cons (.ye x29 true) (.ye x36) (.P (.bin .eql (.t x35) (.c (.p 1))))
 (.p x37 (.pick (.t x29) (.t x36) (.c (.b false)))
 (.m x11 x37
 .nil))))))))))))))))))))))))))))
 (.cond (.t x11) (.seq (.ops (.m x38 x0
 (.m x39 x1
 (.s x40 51 [(.t x38), (.t x39), (.c (.p 0))]
 (.m x4 x40
 (.p x5 (.mv (.c (.b true)))
 .nil))))))
 .ret)
 .skip)))))
 (.seq (.ops (.p x4 (.mv (.c (.p 0)))
 (.p x5 (.mv (.c (.b false)))
 .nil)))
 .ret)))
def a15 : AF := .fn (ps16.take 41) b15 (.many [(.t x4), (.t x5)])
def b16 : ACode := (.seq (.ops (.p x8 (.mv (.c (.p 0)))
 (.p x9 (.mv (.c (.p 0)))
 .nil)))
 (.seq (.ops (.m x13 x0
 (.s x14 23 [(.t x13)]
 (.cons .no (.ye x10) (.W (.al (.cons .np .nil)))
 (.cons .no .no (.W (.st (.t x10) 1 (.t x14)))
 .nil)))))
 (.seq (.seq (.ops (.m x15 x1
 (.s x16 39 [(.t x15)]
 (.m x17 x3
 (.p x18 (.lnX (.t x17))
 (.p x19 (.bin .neq (.t x16) (.t x18))
 (.m x20 x19
 (.cons (.ye x20 false) (.ye x21) (.L (.l (.one (.t x10))))
 (.cons (.ye x20 false) (.ye x22) (.P (.mv (.t x2)))
 (.cons (.ye x20 false) (.ye x23) (.S 24 [(.t x21), (.t x22)])
 (.cons (.ye x20 false) (.ye x24) (.P (.nt (.t x23)))
 (.p x25 (.pick (.t x20) (.c (.b true)) (.t x24))
 (.m x26 x25
 (.cons (.ye x26 false) (.ye x27) (.P (.mv (.t x3)))
 (.cons (.ye x26 false) (.ye x28) (.P (.mf 53 [] [(.t x10)]))
 (.cons (.ye x26 false) (.ye x29) (.S 52 [(.t x27), (.t x28)])
 (.p x30 (.pick (.t x26) (.c (.b true)) (.t x29))
 .nil)))))))))))))))))
 (.cond (.t x30) (.seq (.ops (.s x31 54 []
 (.p x32 (.ex (.t x31) 0)
 (.p x33 (.ex (.t x31) 1)
 (.m x8 x32
 (.m x9 x33
 .nil))))))
 .ret)
 .skip))
 (.seq (.ops (.m x34 x0
 (.m x35 x1
 (.m x36 x2
 (.m x37 x3
 (.p x38 (.bd (.cons .np (.cons (.p 0) (.cons (.p 0) (.cons .ns .nil)))) [(0, 1, (.t x34)), (1, 1, (.t x35)), (2, 1, (.t x36)), (3, 1, (.t x37))])
 (.cons .no (.ye x39) (.W (.bx (.t x38)))
 (.m x11 x39
 .nil))))))))
 (.seq (.ops (.m x40 x11
 (.p x41 (.mf 55 [(.t x40)] [])
 (.m x12 x41
 .nil))))
 (.seq (.seq (.ops (.m x42 x1
 .nil))
 (.blk 0 (.seq (.seq (.ops (.p x44 (.bin .eql (.t x42) (.c (.p 10)))
 (.m x43 x44
 .nil)))
 (.cond (.t x43) .skip
 (.ops (.p x45 (.bin .eql (.t x42) (.c (.p 11)))
 (.m x43 x45
 .nil)))))
 (.cond (.t x43) (.ops (.m x46 x11
 (.p x47 (.mf 56 [(.t x46)] [])
 (.m x12 x47
 .nil))))
 (.seq (.seq (.ops (.p x49 (.bin .eql (.t x42) (.c (.p 20)))
 (.m x48 x49
 .nil)))
 (.cond (.t x48) .skip
 (.seq (.ops (.p x50 (.bin .eql (.t x42) (.c (.p 21)))
 (.m x48 x50
 .nil)))
 (.cond (.t x48) .skip
 (.ops (.p x51 (.bin .eql (.t x42) (.c (.p 22)))
 (.m x48 x51
 .nil)))))))
 (.cond (.t x48) (.ops (.m x52 x11
 (.p x53 (.mf 57 [(.t x52)] [])
 (.m x12 x53
 .nil))))
 (.seq (.seq (.ops (.p x55 (.bin .eql (.t x42) (.c (.p 23)))
 (.m x54 x55
 .nil)))
 (.cond (.t x54) .skip
 (.ops (.p x56 (.bin .eql (.t x42) (.c (.p 24)))
 (.m x54 x56
 .nil)))))
 (.cond (.t x54) (.ops (.m x57 x11
 (.p x58 (.mf 58 [(.t x57)] [])
 (.m x12 x58
 .nil))))
 (.seq (.seq (.ops (.p x60 (.bin .eql (.t x42) (.c (.p 25)))
 (.m x59 x60
 .nil)))
 (.cond (.t x59) .skip
 (.ops (.p x61 (.bin .eql (.t x42) (.c (.p 26)))
 (.m x59 x61
 .nil)))))
 (.cond (.t x59) (.ops (.m x62 x11
 (.p x63 (.mf 59 [(.t x62)] [])
 (.m x12 x63
 .nil))))
 (.seq (.seq (.ops (.p x65 (.bin .eql (.t x42) (.c (.p 40)))
 (.m x64 x65
 .nil)))
 (.cond (.t x64) .skip
 (.ops (.p x66 (.bin .eql (.t x42) (.c (.p 41)))
 (.m x64 x66
 .nil)))))
 (.cond (.t x64) (.ops (.m x67 x11
 (.p x68 (.mf 60 [(.t x67)] [])
 (.m x12 x68
 .nil))))
 (.seq (.seq (.ops (.p x70 (.bin .eql (.t x42) (.c (.p 50)))
 (.m x69 x70
 .nil)))
 (.cond (.t x69) .skip
 (.ops (.p x71 (.bin .eql (.t x42) (.c (.p 51)))
 (.m x69 x71
 .nil)))))
 (.cond (.t x69) (.ops (.m x72 x11
 (.p x73 (.mf 61 [(.t x72)] [])
 (.m x12 x73
 .nil))))
 .skip))))))))))))))
 (.seq (.ops (.m x74 x12
 (.cons .no (.ye x75) (.V (.t x74) [])
 (.p x76 (.ex (.t x75) 0)
 (.p x77 (.ex (.t x75) 1)
 (.m x8 x76
 (.m x9 x77
 .nil)))))))
 .ret)))))))
def a16 : AF := .fn (ps16.take 78) b16 (.many [(.t x8), (.t x9)])
def b17 : ACode := (.seq (.ops (.p x2 (.mv (.c (.p 0)))
 .nil))
 (.seq (.seq (.ops (.m x3 x0
 .nil))
 (.cond (.t x3) (.seq (.ops (.p x2 (.mv (.c (.p 2)))
 .nil))
 .ret)
 .skip))
 (.seq (.ops (.p x2 (.mv (.c (.p 4)))
 .nil))
 .ret)))
def a17 : AF := .fn (ps16.take 4) b17 (.one x2)
def b23 : ACode := (.seq (.ops (.p x2 (.mv (.c .np))
 .nil))
 (.seq (.ops (.m x3 x0
 (.p x4 (.nck (.t x3))
 (.p x5 (.fa (.t x4) 0)
 (.l x6 (.t x5)
 (.m x2 x6
 .nil))))))
 .ret))
def a23 : AF := .fn (ps16.take 7) b23 (.one x2)
def b24 : ACode := (.seq (.ops (.p x4 (.mv (.c (.b false)))
 .nil))
 (.seq (.ops (.m x5 x1
 (.p x6 (.bin .eql (.t x5) (.c (.p 0)))
 (.m x7 x6
 (.cons (.ye x7 false) (.ye x8) (.P (.mv (.t x1)))
 (.cons (.ye x7 false) (.ye x9) (.P (.bin .eql (.t x8) (.c (.p 2))))
 (.p x10 (.pick (.t x7) (.c (.b true)) (.t x9))
 (.m x11 x10
 (.cons (.ye x11 false) (.ye x12) (.P (.mv (.t x1)))
 (.cons (.ye x11 false) (.ye x13) (.P (.bin .eql (.t x12) (.c (.p 4))))
 (.p x14 (.pick (.t x11) (.c (.b true)) (.t x13))
 (.m x15 x14
 (.cons (.ye x15 false) (.ye x16) (.P (.mv (.t x1)))
 (.cons (.ye x15 false) (.ye x17) (.S 48 [(.t x16)])
 (.p x18 (.pick (.t x15) (.c (.b true)) (.t x17))
 (.m x19 x18
 (.cons (.ye x19 false) (.ye x20) (.P (.mv (.t x0)))
 (.cons (.ye x19 false) (.ye x21) (.P (.mv (.t x1)))
 (.cons (.ye x19 false) (.ye x22) (.S 31 [(.t x20), (.t x21)])
 (.p x23 (.pick (.t x19) (.c (.b true)) (.t x22))
 (.m x4 x23
 .nil)))))))))))))))))))))
 .ret))
def a24 : AF := .fn (ps16.take 24) b24 (.one x4)
def b25 : ACode := (.seq (.ops (.p x4 (.mv (.c (.p 0)))
 .nil))
 (.seq (.blk 0 (.seq (.ops (.m x6 x0
 (.p x7 (.nck (.t x6))
 (.p x8 (.fa (.t x7) 0)
 (.l x9 (.t x8)
 (.m x10 x1
 (.s x11 31 [(.t x9), (.t x10)]
 (.m x5 x11
 .nil))))))))
 (.cond (.t x5) (.seq (.ops (.m x12 x0
 (.p x13 (.nck (.t x12))
 (.p x14 (.fa (.t x13) 0)
 (.l x15 (.t x14)
 (.m x16 x1
 (.s x17 50 [(.t x15), (.t x16)]
 (.m x4 x17
 .nil))))))))
 .ret)
 (.seq (.ops (.m x19 x1
 (.s x20 48 [(.t x19)]
 (.m x18 x20
 .nil))))
 (.cond (.t x18) (.seq (.ops (.m x21 x0
 (.s x22 30 [(.t x21), (.c (.p 7))]
 (.m x4 x22
 .nil))))
 .ret)
 (.seq (.ops (.m x24 x1
 (.p x25 (.bin .eql (.t x24) (.c (.p 0)))
 (.m x23 x25
 .nil))))
 (.cond (.t x23) (.seq (.ops (.m x26 x0
 (.s x27 30 [(.t x26), (.c (.p 2))]
 (.m x4 x27
 .nil))))
 .ret)
 (.seq (.ops (.m x29 x1
 (.p x30 (.bin .eql (.t x29) (.c (.p 2)))
 (.m x28 x30
 .nil))))
 (.cond (.t x28) (.seq (.ops (.m x31 x0
 (.s x32 30 [(.t x31), (.c (.p 4))]
 (.m x4 x32
 .nil))))
 .ret)
 (.seq (.ops (.m x34 x1
 (.p x35 (.bin .eql (.t x34) (.c (.p 4)))
 (.m x33 x35
 .nil))))
 (.cond (.t x33) (.seq (.ops (.m x36 x0
 (.s x37 30 [(.t x36), (.c (.p 5))]
 (.m x4 x37
 .nil))))
 .ret)
 .skip)))))))))))
 (.seq (.ops (.p x4 (.mv (.c (.p 0)))
 .nil))
 .ret)))
def a25 : AF := .fn (ps16.take 38) b25 (.one x4)
def b27 : ACode := (.seq (.ops (.p x4 (.mv (.c (.p 0)))
 .nil))
 (.seq (.draw (.h .no (.ye x5) (.P (.mv (.t x0)))
 (.h .no (.ye x6) (.P (.nck (.t x5)))
 (.h .no (.ye x7) (.P (.fa (.t x6) 0))
 (.h .no (.ye x8) (.L (.l (.one (.t x7))))
 (.h .no (.ye x9) (.P (.mv (.t x0)))
 (.h .no (.ye x10) (.P (.mv (.t x1)))
 (.c .no (.ye x11) (.S 63 [(.t x9), (.t x10)]) (.cons .no (.l (.one (.t x7))) x8 .nil)
 (.h .no (.ye x12) (.P (.ia (.t x8) (.t x11) 1))
 (.h .no (.ye x13) (.L (.l (.one (.t x12))))
 (.h .no (.ye x14) (.P (.bin .shr (.t x13) (.c (.w .u64 2))))
 (.h .no (.ye x4) (.P (.mv (.t x14)))
 .nil))))))))))))
 .ret))
def a27 : AF := .fn (ps16.take 15) b27 (.one x4)
def b28 : ACode := (.seq (.ops (.p x6 (.mv (.c (.p 0)))
 (.p x7 (.mv (.c (.p 0)))
 .nil)))
 (.seq (.ops (.m x11 x0
 (.m x12 x1
 (.m x13 x2
 (.s x14 64 [(.t x11), (.t x12), (.t x13)]
 (.m x10 x14
 (.p x15 (.ex (.t x10) 0)
 (.p x16 (.ex (.t x10) 1)
 (.m x8 x15
 (.m x9 x16
 .nil))))))))))
 (.seq (.seq (.ops (.m x17 x9
 (.p x18 (.bin .neq (.t x17) (.c (.p 0)))
 .nil)))
 (.cond (.t x18) (.seq (.ops (.m x19 x9
 (.p x6 (.mv (.c (.p 0)))
 (.m x7 x19
 .nil))))
 .ret)
 .skip))
 (.seq (.ops (.m x20 x0
 (.p x21 (.nck (.t x20))
 (.p x22 (.fa (.t x21) 0)
 (.l x23 (.t x22)
 (.m x24 x8
 (.p x25 (.ia (.t x23) (.t x24) 1)
 (.l x26 (.t x25)
 (.m x6 x26
 (.p x7 (.mv (.c (.p 0)))
 .nil))))))))))
 .ret))))
def a28 : AF := .fn (ps16.take 27) b28 (.many [(.t x6), (.t x7)])
def b30 : ACode := (.seq (.ops (.p x4 (.mv (.c (.p 0)))
 .nil))
 (.seq (.seq (.ops (.m x5 x1
 (.p x6 (.bin .lss (.t x5) (.c (.p 0)))
 (.m x7 x6
 (.cons (.ye x7 false) (.ye x8) (.P (.mv (.t x1)))
 (.cons (.ye x7 false) (.ye x9) (.P (.bin .geq (.t x8) (.c (.p 16))))
 (.p x10 (.pick (.t x7) (.c (.b true)) (.t x9))
 .nil)))))))
 (.cond (.t x10) (.seq (.ops (.p x4 (.mv (.c (.p 0)))
 .nil))
 .ret)
 .skip))
 (.seq (.ops (.m x11 x0
 (.p x12 (.nck (.t x11))
 (.p x13 (.fa (.t x12) 1)
 (.l x14 (.t x13)
 (.m x15 x1
 (.p x16 (.bin .add (.c (.p 2)) (.t x15))
 (.p x17 (.ia (.t x14) (.t x16) 1)
 (.l x18 (.t x17)
 (.m x4 x18
 .nil))))))))))
 .ret)))
def a30 : AF := .fn (ps16.take 19) b30 (.one x4)
def b31 : ACode := (.seq (.ops (.p x4 (.mv (.c (.b false)))
 .nil))
 (.seq (.draw (.h .no (.ye x5) (.P (.mv (.t x1)))
 (.c .no (.ye x6) (.S 65 [(.t x5)]) .nil
 (.h .no (.ye x7) (.P (.mv (.t x6)))
 (.h (.ye x7 true) (.ye x8) (.P (.mv (.t x0)))
 (.h (.ye x7 true) (.ye x9) (.P (.nck (.t x8)))
 (.h (.ye x7 true) (.ye x10) (.P (.fa (.t x9) 3))
 (.h (.ye x7 true) (.ye x11) (.L (.l (.one (.t x10))))
 (.h (.ye x7 true) (.ye x12) (.P (.mv (.t x1)))
 (.c (.ye x7 true) (.ye x13) (.S 66 [(.t x12)]) (.cons (.ye x7 true) (.l (.one (.t x10))) x11 .nil)
 (.c (.ye x7 true) (.ye x14) (.W (.lki (.b false) (.t x11) (.t x13) false)) .nil
 (.h .no (.ye x15) (.P (.pick (.t x7) (.t x14) (.c (.b false))))
 (.h .no (.ye x4) (.P (.mv (.t x15)))
 .nil)))))))))))))
 .ret))
def a31 : AF := .fn (ps16.take 16) b31 (.one x4)
def b32 : ACode := (.seq (.ops (.p x4 (.mv (.c (.p 0)))
 .nil))
 (.seq (.seq (.ops (.m x5 x0
 (.m x6 x1
 (.s x7 67 [(.t x5), (.t x6)]
 (.p x8 (.nt (.t x7))
 .nil)))))
 (.cond (.t x8) (.seq (.ops (.p x4 (.mv (.c (.n 0)))
 .nil))
 .ret)
 .skip))
 (.seq (.ops (.m x9 x0
 (.m x10 x1
 (.s x11 51 [(.t x9), (.t x10), (.c (.p 5))]
 (.s x12 49 [(.t x11)]
 (.m x4 x12
 .nil))))))
 .ret)))
def a32 : AF := .fn (ps16.take 13) b32 (.one x4)
def b33_0 : ACode := (.ops (.p x4 (.mv (.c (.s 0 0)))
 (.p x5 (.mv (.c (.b false)))
 .nil)))
def b33_1 : ACode := (.ops (.m x9 x0
 (.p x10 (.nck (.t x9))
 (.p x11 (.fa (.t x10) 0)
 (.l x12 (.t x11)
 (.m x13 x1
 (.s x14 50 [(.t x12), (.t x13)]
 (.m x6 x14
 .nil))))))))
def b33_2 : ACode := (.ops (.m x15 x0
 (.p x16 (.nck (.t x15))
 (.p x17 (.fa (.t x16) 0)
 (.l x18 (.t x17)
 (.m x19 x1
 (.s x20 31 [(.t x18), (.t x19)]
 (.p x21 (.nt (.t x20))
 (.m x22 x21
 (.cons (.ye x22 false) (.ye x23) (.P (.mv (.t x6)))
 (.cons (.ye x22 false) (.ye x24) (.P (.mv (.t x0)))
 (.cons (.ye x22 false) (.ye x25) (.S 30 [(.t x24), (.c (.p 10))])
 (.cons (.ye x22 false) (.ye x26) (.P (.bin .neq (.t x23) (.t x25)))
 (.cons (.ye x22 false) (.ye x27) (.P (.mv (.t x26)))
 (.cons (.ye x27 true) (.ye x28) (.P (.mv (.t x6)))
 (.cons (.ye x27 true) (.ye x29) (.P (.mv (.t x0)))
 (.cons (.ye x27 true) (.ye x30) (.S 30 [(.t x29), (.c (.p 11))])
 (.cons (.ye x27 true) (.ye x31) (.P (.bin .neq (.t x28) (.t x30)))
 (.cons (.ye x22 false) (.ye x32) (.P (.pick (.t x27) (.t x31) (.c (.b false))))
 (.p x33 (.pick (.t x22) (.c (.b true)) (.t x32))
 (.m x34 x33
 (.cons (.ye x34 false) (.ye x35) (.P (.mv (.t x0)))
 (.cons (.ye x34 false) (.ye x36) (.P (.nck (.t x35)))
 (.cons (.ye x34 false) (.ye x37) (.P (.fa (.t x36) 0))
 (.cons (.ye x34 false) (.ye x38) (.L (.l (.one (.t x37))))
 (.cons (.ye x34 false) (.ye x39) (.P (.mv (.t x1)))
 (.cons (.ye x34 false) (.ye x40) (.S 38 [(.t x38), (.t x39)])
 (.cons (.ye x34 false) (.ye x41) (.P (.bin .neq (.t x40) (.c (.p 2))))
 (.p x42 (.pick (.t x34) (.c (.b true)) (.t x41))
 .nil)))))))))))))))))))))))))))))
def b33_3 : ACode := (.ops (.p x4 (.mv (.c (.s 0 0)))
 (.p x5 (.mv (.c (.b false)))
 .nil)))
def b33_4 : ACode := .ret
def b33_5 : ACode := .seq b33_3 b33_4
def b33_6 : ACode := .skip
def b33_7 : ACode := .cond (.t x42) b33_5 b33_6
def b33_8 : ACode := .seq b33_2 b33_7
def b33_9 : ACode := (.ops (.p x7 (.mv (.c .ns))
 .nil))
def b33_10 : ACode := (.ops (.m x43 x0
 (.p x44 (.nck (.t x43))
 (.p x45 (.fa (.t x44) 0)
 (.l x46 (.t x45)
 (.m x47 x1
 (.s x48 27 [(.t x46), (.t x47)]
 (.p x49 (.mv (.c (.p 0)))
 .nil))))))))
def b33_11 : ACode := (.ops (.p x50 (.bin .lss (.t x49) (.t x48))
 .nil))
def b33_12 : ACode := .skip
def b33_13 : ACode := (.exit 0)
def b33_14 : ACode := .cond (.t x50) b33_12 b33_13
def b33_15 : ACode := (.ops (.m x51 x49
 (.m x8 x51
 .nil)))
def b33_16 : ACode := (.ops (.m x52 x7
 (.m x53 x0
 (.m x54 x1
 (.m x55 x8
 (.s x56 51 [(.t x53), (.t x54), (.t x55)]
 (.p x57 (.cv .u8 (.t x56))
 (.cons .no (.ye x58) (.W (.bs (.cons (.w .u8 0) .nil) 1 [(0, 1, (.t x57))]))
 (.cons .no (.ye x59) (.W (.app 1 1 (.t x52) (.t x58)))
 (.m x7 x59
 .nil))))))))))
def b33_17 : ACode := .seq b33_15 b33_16
def b33_18 : ACode := .blk 1 b33_17
def b33_19 : ACode := (.ops (.p x60 (.bin .add (.t x49) (.c (.p 1)))
 (.m x49 x60
 .nil)))
def b33_20 : ACode := .seq b33_18 b33_19
def b33_21 : ACode := .seq b33_14 b33_20
def b33_22 : ACode := .seq b33_11 b33_21
def b33_23 : ACode := .loop b33_22
def b33_24 : ACode := .blk 0 b33_23
def b33_25 : ACode := .seq b33_10 b33_24
def b33_26 : ACode := (.ops (.m x61 x7
 (.cons .no (.ye x62) (.L (.b (.t x61)))
 (.m x4 x62
 (.p x5 (.mv (.c (.b true)))
 .nil)))))
def b33_27 : ACode := .ret
def b33_28 : ACode := .seq b33_26 b33_27
def b33_29 : ACode := .seq b33_25 b33_28
def b33_30 : ACode := .seq b33_9 b33_29
def b33_31 : ACode := .seq b33_8 b33_30
def b33_32 : ACode := .seq b33_1 b33_31
def b33_33 : ACode := .seq b33_0 b33_32
def b33 : ACode := b33_33
def a33 : AF := .fn (ps16.take 63) b33 (.many [(.t x4), (.t x5)])
def b34 : ACode := (.seq (.ops (.p x4 (.mv (.c (.s 0 0)))
 .nil))
 (.seq (.seq (.ops (.m x7 x0
 (.m x8 x1
 (.s x9 67 [(.t x7), (.t x8)]
 (.p x10 (.nt (.t x9))
 .nil)))))
 (.cond (.t x10) (.seq (.ops (.p x4 (.mv (.c (.s 0 0)))
 .nil))
 .ret)
 .skip))
 (.seq (.ops (.m x12 x0
 (.m x13 x0
 (.m x14 x1
 (.s x15 51 [(.t x13), (.t x14), (.c (.p 0))]
 (.s x16 33 [(.t x12), (.t x15)]
 (.m x11 x16
 (.p x17 (.ex (.t x11) 0)
 (.p x18 (.ex (.t x11) 1)
 (.m x5 x17
 (.m x6 x18
 .nil)))))))))))
 (.seq (.ops (.m x19 x5
 (.m x4 x19
 .nil)))
 .ret))))
def a34 : AF := .fn (ps16.take 20) b34 (.one x4)
def b35 : ACode := (.seq (.ops (.p x4 (.mv (.c (.p 0)))
 .nil))
 (.seq (.seq (.ops (.m x5 x0
 (.m x6 x1
 (.s x7 67 [(.t x5), (.t x6)]
 (.p x8 (.nt (.t x7))
 .nil)))))
 (.cond (.t x8) (.seq (.ops (.p x4 (.mv (.c (.p 0)))
 .nil))
 .ret)
 .skip))
 (.seq (.ops (.m x9 x0
 (.m x10 x1
 (.s x11 51 [(.t x9), (.t x10), (.c (.p 1))]
 (.m x4 x11
 .nil)))))
 .ret)))
def a35 : AF := .fn (ps16.take 12) b35 (.one x4)
def b36 : ACode := (.seq (.ops (.p x2 (.mv (.c (.p 0)))
 .nil))
 (.seq (.ops (.m x3 x0
 (.p x4 (.nck (.t x3))
 (.p x5 (.fa (.t x4) 2)
 (.l x6 (.t x5)
 (.m x2 x6
 .nil))))))
 .ret))
def a36 : AF := .fn (ps16.take 7) b36 (.one x2)
def b37 : ACode := (.seq (.ops (.p x4 (.mv (.c (.p 0)))
 .nil))
 (.seq (.seq (.ops (.m x5 x0
 (.m x6 x1
 (.s x7 67 [(.t x5), (.t x6)]
 (.p x8 (.nt (.t x7))
 .nil)))))
 (.cond (.t x8) (.seq (.ops (.p x4 (.mv (.c (.p 0)))
 .nil))
 .ret)
 .skip))
 (.seq (.ops (.m x9 x0
 (.m x10 x1
 (.s x11 51 [(.t x9), (.t x10), (.c (.p 2))]
 (.s x12 49 [(.t x11)]
 (.m x4 x12
 .nil))))))
 .ret)))
def a37 : AF := .fn (ps16.take 13) b37 (.one x4)
def b38 : ACode := (.seq (.ops (.p x4 (.mv (.c (.p 0)))
 .nil))
 (.seq (.draw (.h .no (.ye x5) (.P (.mv (.t x0)))
 (.h .no (.ye x6) (.P (.nck (.t x5)))
 (.h .no (.ye x7) (.P (.fa (.t x6) 0))
 (.h .no (.ye x8) (.L (.l (.one (.t x7))))
 (.h .no (.ye x9) (.P (.mv (.t x0)))
 (.h .no (.ye x10) (.P (.mv (.t x1)))
 (.c .no (.ye x11) (.S 63 [(.t x9), (.t x10)]) (.cons .no (.l (.one (.t x7))) x8 .nil)
 (.h .no (.ye x12) (.P (.ia (.t x8) (.t x11) 1))
 (.h .no (.ye x13) (.L (.l (.one (.t x12))))
 (.h .no (.ye x14) (.P (.bin .and (.t x13) (.c (.p 3))))
 (.h .no (.ye x4) (.P (.mv (.t x14)))
 .nil))))))))))))
 .ret))
def a38 : AF := .fn (ps16.take 15) b38 (.one x4)
def b39 : ACode := (.seq (.ops (.p x2 (.mv (.c (.p 0)))
 .nil))
 (.seq (.seq (.ops (.m x3 x0
 .nil))
 (.blk 0 (.seq (.seq (.ops (.p x5 (.bin .eql (.t x3) (.c (.p 11)))
 (.m x4 x5
 .nil)))
 (.cond (.t x4) .skip
 (.seq (.ops (.p x6 (.bin .eql (.t x3) (.c (.p 22)))
 (.m x4 x6
 .nil)))
 (.cond (.t x4) .skip
 (.seq (.ops (.p x7 (.bin .eql (.t x3) (.c (.p 23)))
 (.m x4 x7
 .nil)))
 (.cond (.t x4) .skip
 (.seq (.ops (.p x8 (.bin .eql (.t x3) (.c (.p 40)))
 (.m x4 x8
 .nil)))
 (.cond (.t x4) .skip
 (.ops (.p x9 (.bin .eql (.t x3) (.c (.p 41)))
 (.m x4 x9
 .nil)))))))))))
 (.cond (.t x4) (.seq (.ops (.p x2 (.mv (.c (.p 0)))
 .nil))
 .ret)
 (.seq (.seq (.ops (.p x11 (.bin .eql (.t x3) (.c (.p 1)))
 (.m x10 x11
 .nil)))
 (.cond (.t x10) .skip
 (.seq (.ops (.p x12 (.bin .eql (.t x3) (.c (.p 2)))
 (.m x10 x12
 .nil)))
 (.cond (.t x10) .skip
 (.seq (.ops (.p x13 (.bin .eql (.t x3) (.c (.p 3)))
 (.m x10 x13
 .nil)))
 (.cond (.t x10) .skip
 (.seq (.ops (.p x14 (.bin .eql (.t x3) (.c (.p 4)))
 (.m x10 x14
 .nil)))
 (.cond (.t x10) .skip
 (.seq (.ops (.p x15 (.bin .eql (.t x3) (.c (.p 5)))
 (.m x10 x15
 .nil)))
 (.cond (.t x10) .skip
 (.seq (.ops (.p x16 (.bin .eql (.t x3) (.c (.p 6)))
 (.m x10 x16
 .nil)))
 (.cond (.t x10) .skip
 (.seq (.ops (.p x17 (.bin .eql (.t x3) (.c (.p 7)))
 (.m x10 x17
 .nil)))
 (.cond (.t x10) .skip
 (.seq (.ops (.p x18 (.bin .eql (.t x3) (.c (.p 10)))
 (.m x10 x18
 .nil)))
 (.cond (.t x10) .skip
 (.seq (.ops (.p x19 (.bin .eql (.t x3) (.c (.p 20)))
 (.m x10 x19
 .nil)))
 (.cond (.t x10) .skip
 (.seq (.ops (.p x20 (.bin .eql (.t x3) (.c (.p 24)))
 (.m x10 x20
 .nil)))
 (.cond (.t x10) .skip
 (.seq (.ops (.p x21 (.bin .eql (.t x3) (.c (.p 25)))
 (.m x10 x21
 .nil)))
 (.cond (.t x10) .skip
 (.seq (.ops (.p x22 (.bin .eql (.t x3) (.c (.p 26)))
 (.m x10 x22
 .nil)))
 (.cond (.t x10) .skip
 (.ops (.p x23 (.bin .eql (.t x3) (.c (.p 50)))
 (.m x10 x23
 .nil)))))))))))))))))))))))))))
 (.cond (.t x10) (.seq (.ops (.p x2 (.mv (.c (.p 1)))
 .nil))
 .ret)
 (.seq (.seq (.ops (.p x25 (.bin .eql (.t x3) (.c (.p 21)))
 (.m x24 x25
 .nil)))
 (.cond (.t x24) .skip
 (.ops (.p x26 (.bin .eql (.t x3) (.c (.p 51)))
 (.m x24 x26
 .nil)))))
 (.cond (.t x24) (.seq (.ops (.p x2 (.mv (.c (.p 2)))
 .nil))
 .ret)
 .skip))))))))
 (.seq (.ops (.p x2 (.mv (.c (.n 0)))
 .nil))
 .ret)))
def a39 : AF := .fn (ps16.take 27) b39 (.one x2)
def b40_0 : ACode := (.ops (.p x2 (.mv (.c .np))
 (.p x3 (.mv (.c (.p 0)))
 .nil)))
def b40_1 : ACode := (.ops (.m x29 x0
 (.s x30 68 [(.t x29)]
 (.m x4 x30
 .nil))))
def b40_2 : ACode := (.ops (.m x32 x4
 (.p x33 (.eqv 2 false (.t x32) (.c .np))
 (.m x31 x33
 .nil))))
def b40_3 : ACode := (.ops (.p x2 (.mv (.c .np))
 (.p x3 (.mv (.c (.p 1)))
 .nil)))
def b40_4 : ACode := .ret
def b40_5 : ACode := .seq b40_3 b40_4
def b40_6 : ACode := (.ops (.m x35 x0
 (.p x36 (.bin .lss (.t x35) (.c (.p 16384)))
 (.m x34 x36
 .nil))))
def b40_7 : ACode := (.ops (.p x2 (.mv (.c .np))
 (.p x3 (.mv (.c (.p 4)))
 .nil)))
def b40_8 : ACode := .ret
def b40_9 : ACode := .seq b40_7 b40_8
def b40_10 : ACode := .skip
def b40_11 : ACode := .cond (.t x34) b40_9 b40_10
def b40_12 : ACode := .seq b40_6 b40_11
def b40_13 : ACode := .cond (.t x31) b40_5 b40_12
def b40_14 : ACode := .seq b40_2 b40_13
def b40_15 : ACode := .blk 0 b40_14
def b40_16 : ACode := (.ops (.m x37 x4
 (.cons .no (.ye x38) (.W (.ms (.p 0) 8 (.c (.p 18)) (.c (.p 18))))
 (.cons .no (.ye x39) (.W (.mkm true))
 (.cons .no (.ye x40) (.W (.mkm true))
 (.p x41 (.bd (.cons .np (.cons .ns (.cons .nm (.cons .nm .nil)))) [(0, 1, (.t x37)), (1, 1, (.t x38)), (2, 1, (.t x39)), (3, 1, (.t x40))])
 (.cons .no (.ye x42) (.W (.bx (.t x41)))
 (.m x5 x42
 .nil))))))))
def b40_17 : ACode := (.ops (.p x43 (.mv (.c (.p 0)))
 .nil))
def b40_18 : ACode := (.ops (.p x44 (.bin .lss (.t x43) (.c (.p 16)))
 .nil))
def b40_19 : ACode := .skip
def b40_20 : ACode := (.exit 1)
def b40_21 : ACode := .cond (.t x44) b40_19 b40_20
def b40_22 : ACode := (.ops (.m x45 x43
 (.m x6 x45
 .nil)))
def b40_23 : ACode := (.draw (.h .no (.ye x47) (.P (.mv (.t x5)))
 (.h .no (.ye x48) (.P (.nck (.t x47)))
 (.h .no (.ye x49) (.P (.fa (.t x48) 1))
 (.h .no (.ye x50) (.L (.l (.one (.t x49))))
 (.h .no (.ye x51) (.P (.mv (.t x6)))
 (.h .no (.ye x52) (.P (.bin .add (.c (.p 2)) (.t x51)))
 (.h .no (.ye x53) (.P (.mv (.t x4)))
 (.c .no (.ye x54) (.S 47 [(.t x53), (.c (.p 0)), (.c (.p 0)), (.c (.p 6))]) (.cons .no (.l (.one (.t x49))) x50 .nil)
 (.h .no (.ye x46) (.P (.mv (.t x54)))
 (.h .no (.ye x55) (.P (.ex (.t x46) 0))
 (.h .no (.ye x56) (.P (.ex (.t x46) 1))
 (.h .no (.ye x57) (.P (.ia (.t x50) (.t x52) 1))
 (.c .no .no (.W (.st (.t x57) 1 (.t x55))) .nil
 .nil))))))))))))))
def b40_24 : ACode := .seq b40_22 b40_23
def b40_25 : ACode := .blk 2 b40_24
def b40_26 : ACode := (.ops (.p x58 (.bin .add (.t x43) (.c (.p 1)))
 (.m x43 x58
 .nil)))
def b40_27 : ACode := .seq b40_25 b40_26
def b40_28 : ACode := .seq b40_21 b40_27
def b40_29 : ACode := .seq b40_18 b40_28
def b40_30 : ACode := .loop b40_29
def b40_31 : ACode := .blk 1 b40_30
def b40_32 : ACode := .seq b40_17 b40_31
def b40_33 : ACode := (.ops (.s x59 69 []
 (.p x60 (.lnX (.t x59))
 (.p x61 (.mv (.c (.p 0)))
 .nil))))
def b40_34 : ACode := (.ops (.p x62 (.bin .lss (.t x61) (.t x60))
 .nil))
def b40_35 : ACode := .skip
def b40_36 : ACode := (.exit 3)
def b40_37 : ACode := .cond (.t x62) b40_35 b40_36
def b40_38 : ACode := (.ops (.m x63 x61
 (.p x64 (.ia (.t x59) (.t x61) 3)
 (.cons .no (.ye x65) (.L (.l (.many (.t x64) 3)))
 (.cons .no (.ye x8) (.W (.al (.cons (.s 0 0) (.cons (.p 0) (.cons (.p 0) .nil)))))
 (.m x7 x63
 (.cons .no .no (.W (.st (.t x8) 3 (.t x65)))
 .nil)))))))
def b40_39 : ACode := (.ops (.m x66 x5
 (.m x67 x7
 (.s x68 30 [(.t x66), (.t x67)]
 (.m x9 x68
 .nil)))))
def b40_40 : ACode := (.ops (.m x69 x4
 (.m x70 x9
 (.m x71 x5
 (.s x72 30 [(.t x71), (.c (.p 1))]
 (.s x73 70 [(.t x69), (.t x70), (.t x72)]
 .nil))))))
def b40_41 : ACode := (.ops (.m x75 x5
 (.p x76 (.fa (.t x8) 0)
 (.l x77 (.t x76)
 (.s x78 44 [(.t x75), (.t x77)]
 (.m x74 x78
 (.p x79 (.ex (.t x74) 0)
 (.p x80 (.ex (.t x74) 1)
 (.m x10 x79
 (.m x11 x80
 .nil))))))))))
def b40_42 : ACode := (.ops (.p x12 (.mv (.c (.p 0)))
 (.p x13 (.mv (.c (.p 0)))
 (.p x14 (.mv (.c .ns))
 .nil))))
def b40_43 : ACode := (.ops (.p x81 (.fa (.t x8) 1)
 (.l x82 (.t x81)
 (.p x83 (.bin .geq (.t x82) (.c (.p 0)))
 .nil))))
def b40_44 : ACode := (.ops (.m x84 x5
 (.p x85 (.fa (.t x8) 1)
 (.l x86 (.t x85)
 (.s x87 30 [(.t x84), (.t x86)]
 (.m x12 x87
 .nil))))))
def b40_45 : ACode := .skip
def b40_46 : ACode := .cond (.t x83) b40_44 b40_45
def b40_47 : ACode := .seq b40_43 b40_46
def b40_48 : ACode := (.ops (.m x88 x7
 (.p x89 (.bin .eql (.t x88) (.c (.p 15)))
 .nil)))
def b40_49 : ACode := (.ops (.m x91 x5
 (.s x92 44 [(.t x91), (.c (.s 8 8245937412990854515))]
 (.m x90 x92
 (.p x93 (.ex (.t x90) 0)
 (.p x94 (.ex (.t x90) 1)
 (.m x15 x93
 (.m x16 x94
 .nil))))))))
def b40_50 : ACode := (.ops (.m x96 x5
 (.s x97 44 [(.t x96), (.c (.s 9 2129765323153231802977))]
 (.m x95 x97
 (.p x98 (.ex (.t x95) 0)
 (.p x99 (.ex (.t x95) 1)
 (.m x17 x98
 (.m x18 x99
 .nil))))))))
def b40_51 : ACode := (.ops (.m x100 x15
 (.m x101 x17
 (.cons .no (.ye x102) (.W (.bs (.cons (.p 0) (.cons (.p 0) .nil)) 2 [(0, 1, (.t x100)), (1, 1, (.t x101))]))
 (.m x14 x102
 (.p x13 (.mv (.c (.p 2)))
 .nil))))))
def b40_52 : ACode := .seq b40_50 b40_51
def b40_53 : ACode := .seq b40_49 b40_52
def b40_54 : ACode := .skip
def b40_55 : ACode := .cond (.t x89) b40_53 b40_54
def b40_56 : ACode := .seq b40_48 b40_55
def b40_57 : ACode := (.ops (.m x104 x5
 (.m x105 x14
 (.s x106 46 [(.t x104), (.t x105)]
 (.m x103 x106
 (.p x107 (.ex (.t x103) 0)
 (.p x108 (.ex (.t x103) 1)
 (.m x19 x107
 (.m x20 x108
 .nil)))))))))
def b40_58 : ACode := (.draw (.h .no (.ye x109) (.P (.mv (.t x10)))
 (.h .no (.ye x110) (.P (.mv (.t x12)))
 (.h .no (.ye x111) (.P (.mv (.t x13)))
 (.h .no (.ye x113) (.P (.mv (.t x19)))
 (.h .no (.ye x114) (.P (.fa (.t x8) 2))
 (.h .no (.ye x115) (.L (.l (.one (.t x114))))
 (.h .no (.ye x119) (.P (.mv (.c (.p 0))))
 (.c .no (.ye x112) (.S 71 [(.t x111)]) (.cons .no (.l (.one (.t x114))) x115 .nil)
 (.c .no (.ye x116) (.S 71 [(.t x115)]) .nil
 (.c .no (.ye x117) (.W (.bs (.cons (.p 0) (.cons (.p 0) (.cons (.p 0) (.cons (.p 0) (.cons (.p 0) (.cons (.p 0) .nil)))))) 6 [(0, 1, (.t x109)), (1, 1, (.t x110)), (2, 1, (.t x112)), (3, 1, (.t x113)), (4, 1, (.c (.p 0))), (5, 1, (.t x116))])) .nil
 (.h .no (.ye x118) (.P (.lnX (.t x117)))
 .nil))))))))))))
def b40_59 : ACode := (.ops (.p x120 (.bin .lss (.t x119) (.t x118))
 .nil))
def b40_60 : ACode := .skip
def b40_61 : ACode := (.exit 5)
def b40_62 : ACode := .cond (.t x120) b40_60 b40_61
def b40_63 : ACode := (.ops (.m x121 x119
 (.p x122 (.ia (.t x117) (.t x119) 1)
 (.l x123 (.t x122)
 (.m x21 x121
 (.m x22 x123
 .nil))))))
def b40_64 : ACode := (.ops (.m x124 x4
 (.m x125 x9
 (.m x126 x21
 (.m x127 x22
 (.s x128 72 [(.t x124), (.t x125), (.t x126), (.t x127)]
 .nil))))))
def b40_65 : ACode := .seq b40_63 b40_64
def b40_66 : ACode := .blk 6 b40_65
def b40_67 : ACode := (.ops (.p x129 (.bin .add (.t x119) (.c (.p 1)))
 (.m x119 x129
 .nil)))
def b40_68 : ACode := .seq b40_66 b40_67
def b40_69 : ACode := .seq b40_62 b40_68
def b40_70 : ACode := .seq b40_59 b40_69
def b40_71 : ACode := .loop b40_70
def b40_72 : ACode := .blk 5 b40_71
def b40_73 : ACode := .seq b40_58 b40_72
def b40_74 : ACode := (.draw (.h .no (.ye x131) (.P (.mv (.t x5)))
 (.h .no (.ye x132) (.P (.nck (.t x131)))
 (.h .no (.ye x133) (.P (.fa (.t x132) 1))
 (.h .no (.ye x134) (.L (.l (.one (.t x133))))
 (.h .no (.ye x135) (.P (.mv (.t x5)))
 (.h .no (.ye x136) (.P (.mv (.t x9)))
 (.h .no (.ye x137) (.P (.mv (.t x5)))
 (.h .no (.ye x138) (.P (.nck (.t x137)))
 (.h .no (.ye x139) (.P (.fa (.t x138) 1))
 (.h .no (.ye x140) (.L (.l (.one (.t x139))))
 (.h .no (.ye x141) (.P (.ia (.t x140) (.c (.p 1)) 1))
 (.h .no (.ye x142) (.L (.l (.one (.t x141))))
 (.c .no (.ye x143) (.S 73 [(.t x135), (.t x136), (.t x142)]) (.cons .no (.l (.one (.t x133))) x134 .nil)
 (.h .no (.ye x130) (.P (.mv (.t x143)))
 (.h .no (.ye x144) (.P (.ex (.t x130) 0))
 (.h .no (.ye x145) (.P (.ex (.t x130) 1))
 (.h .no (.ye x146) (.P (.ia (.t x134) (.c (.p 1)) 1))
 (.c .no .no (.W (.st (.t x146) 1 (.t x144))) .nil
 .nil)))))))))))))))))))
def b40_75 : ACode := (.draw (.h .no (.ye x147) (.P (.mv (.t x5)))
 (.h .no (.ye x148) (.P (.nck (.t x147)))
 (.h .no (.ye x149) (.P (.fa (.t x148) 3))
 (.h .no (.ye x150) (.L (.l (.one (.t x149))))
 (.h .no (.ye x151) (.P (.fa (.t x8) 0))
 (.h .no (.ye x152) (.L (.l (.one (.t x151))))
 (.h .no (.ye x153) (.P (.mv (.t x9)))
 (.c .no .no (.W (.mus (.t x150) (.t x152) (.t x153))) .nil
 .nil)))))))))
def b40_76 : ACode := .seq b40_74 b40_75
def b40_77 : ACode := .seq b40_73 b40_76
def b40_78 : ACode := .seq b40_57 b40_77
def b40_79 : ACode := .seq b40_56 b40_78
def b40_80 : ACode := .seq b40_47 b40_79
def b40_81 : ACode := .seq b40_42 b40_80
def b40_82 : ACode := .seq b40_41 b40_81
def b40_83 : ACode := .seq b40_40 b40_82
def b40_84 : ACode := .seq b40_39 b40_83
def b40_85 : ACode := .seq b40_38 b40_84
def b40_86 : ACode := .blk 4 b40_85
def b40_87 : ACode := (.ops (.p x154 (.bin .add (.t x61) (.c (.p 1)))
 (.m x61 x154
 .nil)))
def b40_88 : ACode := .seq b40_86 b40_87
def b40_89 : ACode := .seq b40_37 b40_88
def b40_90 : ACode := .seq b40_34 b40_89
def b40_91 : ACode := .loop b40_90
def b40_92 : ACode := .blk 3 b40_91
def b40_93 : ACode := .seq b40_33 b40_92
def b40_94 : ACode := (.ops (.s x155 74 []
 (.p x156 (.lnX (.t x155))
 (.p x157 (.mv (.c (.p 0)))
 .nil))))
def b40_95 : ACode := (.ops (.p x158 (.bin .lss (.t x157) (.t x156))
 .nil))
def b40_96 : ACode := .skip
def b40_97 : ACode := (.exit 7)
def b40_98 : ACode := .cond (.t x158) b40_96 b40_97
def b40_99 : ACode := (.ops (.p x159 (.ia (.t x155) (.t x157) 1)
 (.l x160 (.t x159)
 (.m x24 x160
 .nil))))
def b40_100 : ACode := (.draw (.h .no (.ye x162) (.P (.mv (.t x5)))
 (.h .no (.ye x163) (.P (.mv (.t x24)))
 (.h .no (.ye x164) (.P (.ia (.t x163) (.c (.p 0)) 1))
 (.h .no (.ye x165) (.L (.l (.one (.t x164))))
 (.h .no (.ye x166) (.P (.mv (.t x24)))
 (.h .no (.ye x167) (.P (.ia (.t x166) (.c (.p 1)) 1))
 (.h .no (.ye x168) (.L (.l (.one (.t x167))))
 (.c .no (.ye x169) (.S 75 [(.t x162), (.t x165), (.t x168)]) .nil
 (.h .no (.ye x161) (.P (.mv (.t x169)))
 (.h .no (.ye x170) (.P (.ex (.t x161) 0))
 (.h .no (.ye x171) (.P (.ex (.t x161) 1))
 (.h .no (.ye x172) (.P (.ex (.t x161) 2))
 (.h .no (.ye x173) (.P (.ex (.t x161) 3))
 (.h .no (.ye x25) (.P (.mv (.t x170)))
 (.h .no (.ye x26) (.P (.mv (.t x171)))
 (.h .no (.ye x27) (.P (.mv (.t x172)))
 (.h .no (.ye x28) (.P (.mv (.t x173)))
 .nil))))))))))))))))))
def b40_101 : ACode := (.ops (.m x174 x28
 (.p x175 (.bin .neq (.t x174) (.c (.p 0)))
 .nil)))
def b40_102 : ACode := (.ops (.m x176 x28
 (.p x2 (.mv (.c .np))
 (.m x3 x176
 .nil))))
def b40_103 : ACode := .ret
def b40_104 : ACode := .seq b40_102 b40_103
def b40_105 : ACode := .skip
def b40_106 : ACode := .cond (.t x175) b40_104 b40_105
def b40_107 : ACode := .seq b40_101 b40_106
def b40_108 : ACode := .seq b40_100 b40_107
def b40_109 : ACode := .seq b40_99 b40_108
def b40_110 : ACode := .blk 8 b40_109
def b40_111 : ACode := (.ops (.p x177 (.bin .add (.t x157) (.c (.p 1)))
 (.m x157 x177
 .nil)))
def b40_112 : ACode := .seq b40_110 b40_111
def b40_113 : ACode := .seq b40_98 b40_112
def b40_114 : ACode := .seq b40_95 b40_113
def b40_115 : ACode := .loop b40_114
def b40_116 : ACode := .blk 7 b40_115
def b40_117 : ACode := .seq b40_94 b40_116
def b40_118 : ACode := (.ops (.m x178 x5
 (.m x2 x178
 (.p x3 (.mv (.c (.p 0)))
 .nil))))
def b40_119 : ACode := .ret
def b40_120 : ACode := .seq b40_118 b40_119
def b40_121 : ACode := .seq b40_117 b40_120
def b40_122 : ACode := .seq b40_93 b40_121
def b40_123 : ACode := .seq b40_32 b40_122
def b40_124 : ACode := .seq b40_16 b40_123
def b40_125 : ACode := .seq b40_15 b40_124
def b40_126 : ACode := .seq b40_1 b40_125
def b40_127 : ACode := .seq b40_0 b40_126
def b40 : ACode := b40_127
def a40 : AF := .fn (ps16.take 179) b40 (.many [(.t x2), (.t x3)])
def b41 : ACode := (.seq (.ops (.p x8 (.mv (.c (.p 0)))
 (.p x9 (.mv (.c (.p 0)))
 .nil)))
 (.seq (.ops (.m x14 x0
 (.m x15 x2
 (.s x16 45 [(.t x14), (.t x15)]
 (.m x10 x16
 .nil)))))
 (.seq (.blk 0 (.seq (.ops (.m x18 x1
 (.s x19 76 [(.t x18), (.c (.w .u8 65)), (.c (.w .u8 90))]
 (.p x20 (.nt (.t x19))
 (.m x17 x20
 .nil)))))
 (.cond (.t x17) (.seq (.ops (.p x8 (.mv (.c (.p 0)))
 (.p x9 (.mv (.c (.p 15)))
 .nil)))
 .ret)
 (.seq (.ops (.m x22 x0
 (.m x23 x1
 (.s x24 45 [(.t x22), (.t x23)]
 (.p x25 (.bin .neq (.t x24) (.c (.p 0)))
 (.m x21 x25
 .nil))))))
 (.cond (.t x21) (.seq (.ops (.p x8 (.mv (.c (.p 0)))
 (.p x9 (.mv (.c (.p 16)))
 .nil)))
 .ret)
 (.seq (.ops (.m x27 x10
 (.p x28 (.bin .eql (.t x27) (.c (.p 0)))
 (.m x29 x28
 (.cons (.ye x29 false) (.ye x30) (.P (.mv (.t x0)))
 (.cons (.ye x29 false) (.ye x31) (.P (.mv (.t x10)))
 (.cons (.ye x29 false) (.ye x32) (.S 32 [(.t x30), (.t x31)])
 (.cons (.ye x29 false) (.ye x33) (.P (.bin .neq (.t x32) (.c (.p 0))))
 (.p x34 (.pick (.t x29) (.c (.b true)) (.t x33))
 (.m x26 x34
 .nil))))))))))
 (.cond (.t x26) (.seq (.ops (.p x8 (.mv (.c (.p 0)))
 (.p x9 (.mv (.c (.p 24)))
 .nil)))
 .ret)
 .skip)))))))
 (.seq (.ops (.m x35 x0
 (.m x36 x10
 (.s x37 77 [(.t x35), (.t x36)]
 (.m x11 x37
 .nil)))))
 (.seq (.seq (.ops (.m x38 x3
 (.p x39 (.lnX (.t x38))
 (.p x40 (.mv (.c (.p 0)))
 .nil))))
 (.blk 1 (.loop (.seq (.ops (.p x41 (.bin .lss (.t x40) (.t x39))
 .nil))
 (.seq (.cond (.t x41) .skip
 (.exit 1))
 (.seq (.blk 2 (.seq (.ops (.p x42 (.ia (.t x38) (.t x40) 1)
 (.l x43 (.t x42)
 (.m x13 x43
 .nil))))
 (.seq (.blk 3 (.seq (.ops (.m x45 x13
 (.s x46 76 [(.t x45), (.c (.w .u8 97)), (.c (.w .u8 122))]
 (.p x47 (.nt (.t x46))
 (.m x48 x47
 (.cons (.ye x48 false) (.ye x49) (.P (.mv (.t x13)))
 (.cons (.ye x48 false) (.ye x50) (.S 78 [(.t x49)])
 (.p x51 (.pick (.t x48) (.c (.b true)) (.t x50))
 (.m x44 x51
 .nil)))))))))
 (.cond (.t x44) (.seq (.ops (.p x8 (.mv (.c (.p 0)))
 (.p x9 (.mv (.c (.p 15)))
 .nil)))
 .ret)
 (.seq (.ops (.m x53 x11
 (.m x54 x13
 (.s x55 79 [(.t x53), (.t x54)]
 (.m x52 x55
 .nil)))))
 (.cond (.t x52) (.seq (.ops (.p x8 (.mv (.c (.p 0)))
 (.p x9 (.mv (.c (.p 16)))
 .nil)))
 .ret)
 (.seq (.ops (.m x57 x11
 (.p x58 (.lnX (.t x57))
 (.p x59 (.bin .eql (.t x58) (.c (.p 8)))
 (.m x56 x59
 .nil)))))
 (.cond (.t x56) (.seq (.ops (.p x8 (.mv (.c (.p 0)))
 (.p x9 (.mv (.c (.p 18)))
 .nil)))
 .ret)
 .skip)))))))
 (.ops (.m x60 x11
 (.m x61 x13
 (.cons .no (.ye x62) (.W (.bs (.cons (.s 0 0) .nil) 1 [(0, 1, (.t x61))]))
 (.cons .no (.ye x63) (.W (.app 1 16 (.t x60) (.t x62)))
 (.m x11 x63
 .nil)))))))))
 (.ops (.p x64 (.bin .add (.t x40) (.c (.p 1)))
 (.m x40 x64
 .nil)))))))))
 (.seq (.ops (.m x65 x0
 (.m x66 x1
 (.m x67 x10
 (.m x68 x3
 (.s x69 80 [(.t x65), (.t x66), (.t x67), (.t x68), (.c (.p 0))]
 (.p x70 (.ex (.t x69) 0)
 (.p x71 (.ex (.t x69) 1)
 (.m x8 x70
 (.m x9 x71
 .nil))))))))))
 .ret))))))
def a41 : AF := .fn (ps16.take 72) b41 (.many [(.t x8), (.t x9)])
def b42 : ACode := (.seq (.ops (.p x4 (.mv (.c (.p 0)))
 (.p x5 (.mv (.c (.p 0)))
 .nil)))
 (.seq (.seq (.ops (.m x8 x1
 (.p x9 (.bin .lss (.t x8) (.c (.n 1152921504606846975)))
 (.m x10 x9
 (.cons (.ye x10 false) (.ye x11) (.P (.mv (.t x1)))
 (.cons (.ye x10 false) (.ye x12) (.P (.bin .gtr (.t x11) (.c (.p 1152921504606846976))))
 (.p x13 (.pick (.t x10) (.c (.b true)) (.t x12))
 .nil)))))))
 (.cond (.t x13) (.seq (.ops (.p x4 (.mv (.c (.p 0)))
 (.p x5 (.mv (.c (.p 2)))
 .nil)))
 .ret)
 .skip))
 (.seq (.seq (.ops (.m x15 x1
 (.s x16 81 [(.t x15)]
 (.m x14 x16
 (.p x17 (.ex (.t x14) 0)
 (.p x18 (.ex (.t x14) 1)
 (.m x6 x17
 (.m x7 x18
 .nil))))))))
 (.seq (.ops (.m x19 x7
 .nil))
 (.cond (.t x19) (.seq (.ops (.m x20 x6
 (.m x4 x20
 (.p x5 (.mv (.c (.p 0)))
 .nil))))
 .ret)
 .skip)))
 (.seq (.ops (.m x21 x0
 (.m x22 x0
 (.s x23 30 [(.t x22), (.c (.p 8))]
 (.m x24 x1
 (.cons .no (.ye x25) (.W (.bs (.cons (.p 0) .nil) 1 [(0, 1, (.t x24))]))
 (.s x26 82 [(.t x21), (.t x23), (.c (.p 1)), (.t x25)]
 (.p x27 (.ex (.t x26) 0)
 (.p x28 (.ex (.t x26) 1)
 (.m x4 x27
 (.m x5 x28
 .nil)))))))))))
 .ret))))
def a42 : AF := .fn (ps16.take 29) b42 (.many [(.t x4), (.t x5)])
def b43 : ACode := (.seq (.ops (.p x4 (.mv (.c (.p 0)))
 (.p x5 (.mv (.c (.p 0)))
 .nil)))
 (.seq (.seq (.ops (.m x6 x1
 (.p x7 (.lnS (.t x6))
 (.p x8 (.bin .gtr (.t x7) (.c (.p 250)))
 .nil))))
 (.cond (.t x8) (.seq (.ops (.p x4 (.mv (.c (.p 0)))
 (.p x5 (.mv (.c (.p 1)))
 .nil)))
 .ret)
 .skip))
 (.seq (.ops (.m x9 x0
 (.m x10 x0
 (.s x11 30 [(.t x10), (.c (.p 10))]
 (.m x12 x1
 (.s x13 83 [(.t x9), (.t x11), (.t x12)]
 (.p x14 (.ex (.t x13) 0)
 (.p x15 (.ex (.t x13) 1)
 (.m x4 x14
 (.m x5 x15
 .nil))))))))))
 .ret)))
def a43 : AF := .fn (ps16.take 16) b43 (.many [(.t x4), (.t x5)])
def b44 : ACode := (.seq (.ops (.p x4 (.mv (.c (.p 0)))
 (.p x5 (.mv (.c (.p 0)))
 .nil)))
 (.seq (.seq (.ops (.m x10 x1
 (.p x11 (.lnS (.t x10))
 (.p x12 (.bin .lss (.t x11) (.c (.p 1)))
 (.m x13 x12
 (.cons (.ye x13 false) (.ye x14) (.P (.mv (.t x1)))
 (.cons (.ye x13 false) (.ye x15) (.P (.lnS (.t x14)))
 (.cons (.ye x13 false) (.ye x16) (.P (.bin .gtr (.t x15) (.c (.p 60))))
 (.p x17 (.pick (.t x13) (.c (.b true)) (.t x16))
 .nil)))))))))
 (.cond (.t x17) (.seq (.ops (.p x4 (.mv (.c (.p 0)))
 (.p x5 (.mv (.c (.p 1)))
 .nil)))
 .ret)
 .skip))
 (.seq (.seq (.ops (.m x18 x0
 (.p x19 (.nck (.t x18))
 (.p x20 (.fa (.t x19) 2)
 (.l x21 (.t x20)
 (.m x22 x1
 (.cons .no (.ye x23) (.W (.lks (.p 0) (.t x21) (.t x22) false))
 (.m x6 x23
 .nil))))))))
 (.seq (.ops (.m x24 x6
 (.p x25 (.bin .neq (.t x24) (.c (.p 0)))
 .nil)))
 (.cond (.t x25) (.seq (.ops (.m x26 x6
 (.m x4 x26
 (.p x5 (.mv (.c (.p 0)))
 .nil))))
 .ret)
 .skip)))
 (.seq (.seq (.ops (.m x27 x0
 (.p x28 (.nck (.t x27))
 (.p x29 (.fa (.t x28) 0)
 (.l x30 (.t x29)
 (.s x31 84 [(.t x30)]
 (.m x32 x1
 (.p x33 (.lnS (.t x32))
 (.p x34 (.bin .add (.t x33) (.c (.p 8)))
 (.p x35 (.bin .lss (.t x31) (.t x34))
 .nil))))))))))
 (.cond (.t x35) (.seq (.ops (.p x4 (.mv (.c (.p 0)))
 (.p x5 (.mv (.c (.p 4)))
 .nil)))
 .ret)
 .skip))
 (.seq (.ops (.m x37 x0
 (.m x38 x0
 (.s x39 30 [(.t x38), (.c (.p 11))]
 (.m x40 x1
 (.s x41 83 [(.t x37), (.t x39), (.t x40)]
 (.m x36 x41
 (.p x42 (.ex (.t x36) 0)
 (.p x43 (.ex (.t x36) 1)
 (.m x7 x42
 (.m x8 x43
 .nil)))))))))))
 (.seq (.seq (.ops (.m x44 x8
 (.p x45 (.bin .neq (.t x44) (.c (.p 0)))
 .nil)))
 (.cond (.t x45) (.seq (.ops (.m x46 x8
 (.p x4 (.mv (.c (.p 0)))
 (.m x5 x46
 .nil))))
 .ret)
 .skip))
 (.seq (.ops (.m x48 x0
 (.m x49 x7
 (.m x50 x0
 (.p x51 (.nck (.t x50))
 (.p x52 (.fa (.t x51) 1)
 (.l x53 (.t x52)
 (.p x54 (.ia (.t x53) (.c (.p 0)) 1)
 (.l x55 (.t x54)
 (.s x56 73 [(.t x48), (.t x49), (.t x55)]
 (.m x47 x56
 (.p x57 (.ex (.t x47) 0)
 (.p x58 (.ex (.t x47) 1)
 (.m x9 x57
 (.m x8 x58
 .nil)))))))))))))))
 (.seq (.seq (.ops (.m x59 x8
 (.p x60 (.bin .neq (.t x59) (.c (.p 0)))
 .nil)))
 (.cond (.t x60) (.seq (.ops (.m x61 x8
 (.p x4 (.mv (.c (.p 0)))
 (.m x5 x61
 .nil))))
 .ret)
 .skip))
 (.seq (.draw (.h .no (.ye x62) (.P (.mv (.t x0)))
 (.h .no (.ye x63) (.P (.nck (.t x62)))
 (.h .no (.ye x64) (.P (.fa (.t x63) 1))
 (.h .no (.ye x65) (.L (.l (.one (.t x64))))
 (.h .no (.ye x66) (.P (.mv (.t x0)))
 (.h .no (.ye x67) (.P (.nck (.t x66)))
 (.h .no (.ye x68) (.P (.fa (.t x67) 2))
 (.h .no (.ye x69) (.L (.l (.one (.t x68))))
 (.h .no (.ye x70) (.P (.mv (.t x1)))
 (.h .no (.ye x71) (.P (.mv (.t x9)))
 (.h .no (.ye x72) (.P (.mv (.t x7)))
 (.h .no (.ye x73) (.P (.ia (.t x65) (.c (.p 0)) 1))
 (.c .no .no (.W (.st (.t x73) 1 (.t x71))) .nil
 (.c .no (.ye x74) (.W (.mes (.p 0) (.t x69) (.t x70))) .nil
 (.h .no (.ye x75) (.P (.ex (.t x74) 1))
 (.c .no .no (.W (.ess (.t x69) (.t x75) (.t x72))) .nil
 .nil)))))))))))))))))
 (.seq (.ops (.m x76 x7
 (.m x4 x76
 (.p x5 (.mv (.c (.p 0)))
 .nil))))
 .ret))))))))))
def a44 : AF := .fn (ps16.take 77) b44 (.many [(.t x4), (.t x5)])
def b45 : ACode := (.seq (.ops (.p x4 (.mv (.c (.p 0)))
 .nil))
 (.seq (.ops (.m x5 x0
 (.p x6 (.nck (.t x5))
 (.p x7 (.fa (.t x6) 3)
 (.l x8 (.t x7)
 (.m x9 x1
 (.cons .no (.ye x10) (.W (.lks (.p 0) (.t x8) (.t x9) false))
 (.m x4 x10
 .nil))))))))
 .ret))
def a45 : AF := .fn (ps16.take 11) b45 (.one x4)
def b46 : ACode := (.seq (.ops (.cons .no (.ye x2) (.W (.bx (.t x0)))
 (.p x4 (.mv (.c (.p 0)))
 (.p x5 (.mv (.c (.p 0)))
 .nil))))
 (.seq (.seq (.ops (.m x6 x1
 (.p x7 (.lnX (.t x6))
 (.p x8 (.bin .gtr (.t x7) (.c (.p 250)))
 (.m x9 x8
 (.cons (.ye x9 false) (.ye x10) (.P (.mv (.t x1)))
 (.cons (.ye x9 false) (.ye x11) (.P (.mf 85 [] [(.t x2)]))
 (.cons (.ye x9 false) (.ye x12) (.S 52 [(.t x10), (.t x11)])
 (.p x13 (.pick (.t x9) (.c (.b true)) (.t x12))
 .nil)))))))))
 (.cond (.t x13) (.seq (.ops (.p x4 (.mv (.c (.p 0)))
 (.p x5 (.mv (.c (.p 1)))
 .nil)))
 .ret)
 .skip))
 (.seq (.draw (.h .no (.ye x14) (.L (.l (.one (.t x2))))
 (.h .no (.ye x15) (.L (.l (.one (.t x2))))
 (.h .no (.ye x17) (.P (.mv (.t x1)))
 (.c .no (.ye x16) (.S 30 [(.t x15), (.c (.p 9))]) (.cons .no (.l (.one (.t x2))) x14 .nil)
 (.c .no (.ye x18) (.S 82 [(.t x14), (.t x16), (.c (.p 0)), (.t x17)]) .nil
 (.h .no (.ye x19) (.P (.ex (.t x18) 0))
 (.h .no (.ye x20) (.P (.ex (.t x18) 1))
 (.h .no (.ye x4) (.P (.mv (.t x19)))
 (.h .no (.ye x5) (.P (.mv (.t x20)))
 .nil))))))))))
 .ret)))
def a46 : AF := .fn (ps16.take 21) b46 (.many [(.t x4), (.t x5)])
def b47 : ACode := (.seq (.ops (.p x8 (.mv (.c (.p 0)))
 (.p x9 (.mv (.c (.p 0)))
 .nil)))
 (.seq (.blk 0 (.seq (.ops (.m x14 x0
 (.m x15 x1
 (.s x16 86 [(.t x14), (.t x15)]
 (.p x17 (.nt (.t x16))
 (.m x18 x17
 (.cons (.ye x18 false) (.ye x19) (.P (.mv (.t x2)))
 (.cons (.ye x18 false) (.ye x20) (.P (.bin .lss (.t x19) (.c (.p 0))))
 (.p x21 (.pick (.t x18) (.c (.b true)) (.t x20))
 (.m x22 x21
 (.cons (.ye x22 false) (.ye x23) (.P (.mv (.t x2)))
 (.cons (.ye x22 false) (.ye x24) (.P (.bin .gtr (.t x23) (.c (.p 2))))
 (.p x25 (.pick (.t x22) (.c (.b true)) (.t x24))
 (.m x26 x25
 (.cons (.ye x26 false) (.ye x27) (.P (.mv (.t x3)))
 (.cons (.ye x26 false) (.ye x28) (.P (.bin .lss (.t x27) (.c (.p 0))))
 (.p x29 (.pick (.t x26) (.c (.b true)) (.t x28))
 (.m x30 x29
 (.cons (.ye x30 false) (.ye x31) (.P (.mv (.t x3)))
 (.cons (.ye x30 false) (.ye x32) (.P (.bin .gtr (.t x31) (.c (.p 256))))
 (.p x33 (.pick (.t x30) (.c (.b true)) (.t x32))
 (.m x13 x33
 .nil))))))))))))))))))))))
 (.cond (.t x13) (.seq (.ops (.p x8 (.mv (.c (.p 0)))
 (.p x9 (.mv (.c (.p 1)))
 .nil)))
 .ret)
 (.seq (.ops (.m x35 x0
 (.s x36 84 [(.t x35)]
 (.m x37 x3
 (.p x38 (.bin .add (.t x37) (.c (.p 3)))
 (.p x39 (.bin .lss (.t x36) (.t x38))
 (.m x40 x39
 (.cons (.ye x40 false) (.ye x41) (.P (.mv (.t x0)))
 (.cons (.ye x40 false) (.ye x42) (.P (.nck (.t x41)))
 (.cons (.ye x40 false) (.ye x43) (.P (.fa (.t x42) 2))
 (.cons (.ye x40 false) (.ye x44) (.L (.l (.one (.t x43))))
 (.cons (.ye x40 false) (.ye x45) (.P (.bin .geq (.t x44) (.c (.p 1099511627776))))
 (.p x46 (.pick (.t x40) (.c (.b true)) (.t x45))
 (.m x34 x46
 .nil))))))))))))))
 (.cond (.t x34) (.seq (.ops (.p x8 (.mv (.c (.p 0)))
 (.p x9 (.mv (.c (.p 4)))
 .nil)))
 .ret)
 .skip)))))
 (.seq (.ops (.m x47 x0
 (.p x48 (.nck (.t x47))
 (.p x49 (.fa (.t x48) 1)
 (.l x50 (.t x49)
 (.m x10 x50
 .nil))))))
 (.seq (.ops (.m x51 x0
 (.p x52 (.nck (.t x51))
 (.p x53 (.fa (.t x52) 2)
 (.l x54 (.t x53)
 (.p x55 (.bin .add (.t x54) (.c (.p 1)))
 (.p x56 (.nck (.t x51))
 (.p x57 (.fa (.t x56) 2)
 (.cons .no .no (.W (.st (.t x57) 1 (.t x55)))
 .nil)))))))))
 (.seq (.draw (.h .no (.ye x58) (.P (.mv (.t x0)))
 (.h .no (.ye x59) (.P (.nck (.t x58)))
 (.h .no (.ye x60) (.P (.fa (.t x59) 0))
 (.h .no (.ye x61) (.L (.l (.one (.t x60))))
 (.h .no (.ye x62) (.P (.mv (.t x10)))
 (.h .no (.ye x63) (.P (.mv (.t x0)))
 (.h .no (.ye x64) (.P (.nck (.t x63)))
 (.h .no (.ye x65) (.P (.fa (.t x64) 0))
 (.h .no (.ye x66) (.L (.l (.one (.t x65))))
 (.h .no (.ye x67) (.P (.mv (.t x10)))
 (.h .no (.ye x68) (.P (.bin .add (.t x67) (.c (.p 1))))
 (.h .no (.ye x69) (.P (.mv (.t x0)))
 (.h .no (.ye x70) (.P (.nck (.t x69)))
 (.h .no (.ye x71) (.P (.fa (.t x70) 0))
 (.h .no (.ye x72) (.L (.l (.one (.t x71))))
 (.h .no (.ye x73) (.P (.mv (.t x10)))
 (.h .no (.ye x74) (.P (.bin .add (.t x73) (.c (.p 2))))
 (.h .no (.ye x75) (.P (.mv (.t x3)))
 (.h .no (.ye x76) (.P (.bin .shl (.t x75) (.c (.w .u64 2))))
 (.h .no (.ye x77) (.P (.mv (.t x2)))
 (.h .no (.ye x78) (.P (.bin .or (.t x76) (.t x77)))
 (.h .no (.ye x79) (.P (.mv (.t x1)))
 (.h .no (.ye x80) (.P (.mv (.t x0)))
 (.h .no (.ye x81) (.P (.nck (.t x80)))
 (.h .no (.ye x82) (.P (.fa (.t x81) 2))
 (.h .no (.ye x83) (.L (.l (.one (.t x82))))
 (.h .no (.ye x84) (.P (.ia (.t x61) (.t x62) 1))
 (.c .no .no (.W (.st (.t x84) 1 (.t x78))) .nil
 (.h .no (.ye x85) (.P (.ia (.t x66) (.t x68) 1))
 (.c .no .no (.W (.st (.t x85) 1 (.t x79))) .nil
 (.h .no (.ye x86) (.P (.ia (.t x72) (.t x74) 1))
 (.c .no .no (.W (.st (.t x86) 1 (.t x83))) .nil
 .nil)))))))))))))))))))))))))))))))))
 (.seq (.ops (.m x87 x0
 (.p x88 (.nck (.t x87))
 (.p x89 (.fa (.t x88) 0)
 (.l x90 (.t x89)
 (.m x91 x10
 (.p x92 (.bin .add (.t x91) (.c (.p 3)))
 (.m x93 x10
 (.p x94 (.bin .add (.t x93) (.c (.p 3)))
 (.m x95 x3
 (.p x96 (.bin .add (.t x94) (.t x95))
 (.p x97 (.slx (.t x90) (some (.t x92)) (some (.t x96)) none 1)
 (.cons .no .no (.W (.cls (.p 0) (.t x97)))
 .nil)))))))))))))
 (.seq (.ops (.m x98 x0
 (.p x99 (.nck (.t x98))
 (.p x100 (.fa (.t x99) 1)
 (.l x101 (.t x100)
 (.m x102 x3
 (.p x103 (.bin .add (.t x102) (.c (.p 3)))
 (.p x104 (.bin .add (.t x101) (.t x103))
 (.p x105 (.nck (.t x98))
 (.p x106 (.fa (.t x105) 1)
 (.cons .no .no (.W (.st (.t x106) 1 (.t x104)))
 .nil)))))))))))
 (.seq (.ops (.m x107 x0
 (.p x108 (.nck (.t x107))
 (.p x109 (.fa (.t x108) 3)
 (.l x110 (.t x109)
 (.m x111 x10
 (.cons .no .no (.W (.mui (.t x110) (.t x111) (.c (.b true))))
 .nil)))))))
 (.seq (.ops (.m x113 x10
 (.s x114 87 [(.t x113)]
 (.m x112 x114
 (.p x115 (.ex (.t x112) 0)
 (.p x116 (.ex (.t x112) 1)
 (.m x11 x115
 (.m x12 x116
 .nil))))))))
 (.seq (.ops (.m x117 x11
 (.m x8 x117
 (.p x9 (.mv (.c (.p 0)))
 .nil))))
 .ret))))))))))
def a47 : AF := .fn (ps16.take 118) b47 (.many [(.t x8), (.t x9)])
def b48 : ACode := (.seq (.ops (.p x2 (.mv (.c (.b false)))
 .nil))
 (.seq (.ops (.m x3 x0
 (.p x4 (.bin .and (.t x3) (.c (.p 1)))
 (.p x5 (.bin .eql (.t x4) (.c (.p 1)))
 (.m x6 x5
 (.cons (.ye x6 true) (.ye x7) (.P (.mv (.t x0)))
 (.cons (.ye x6 true) (.ye x8) (.P (.bin .shr (.t x7) (.c (.w .u64 1))))
 (.cons (.ye x6 true) (.ye x9) (.S 88 [(.t x8), (.c (.n 1073741823)), (.c (.p 1073741823))])
 (.p x10 (.pick (.t x6) (.t x9) (.c (.b false)))
 (.m x2 x10
 .nil))))))))))
 .ret))
def a48 : AF := .fn (ps16.take 11) b48 (.one x2)
def b49 : ACode := (.seq (.ops (.p x2 (.mv (.c (.p 0)))
 .nil))
 (.seq (.seq (.ops (.m x3 x0
 (.s x4 48 [(.t x3)]
 (.p x5 (.nt (.t x4))
 .nil))))
 (.cond (.t x5) (.seq (.ops (.p x2 (.mv (.c (.p 0)))
 .nil))
 .ret)
 .skip))
 (.seq (.ops (.m x6 x0
 (.p x7 (.bin .shr (.t x6) (.c (.w .u64 1)))
 (.m x2 x7
 .nil))))
 .ret)))
def a49 : AF := .fn (ps16.take 8) b49 (.one x2)
def b50 : ACode := (.seq (.ops (.p x4 (.mv (.c (.p 0)))
 .nil))
 (.seq (.draw (.h .no (.ye x5) (.P (.mv (.t x0)))
 (.h .no (.ye x6) (.P (.nck (.t x5)))
 (.h .no (.ye x7) (.P (.fa (.t x6) 0))
 (.h .no (.ye x8) (.L (.l (.one (.t x7))))
 (.h .no (.ye x9) (.P (.mv (.t x0)))
 (.h .no (.ye x10) (.P (.mv (.t x1)))
 (.c .no (.ye x11) (.S 63 [(.t x9), (.t x10)]) (.cons .no (.l (.one (.t x7))) x8 .nil)
 (.h .no (.ye x12) (.P (.bin .add (.t x11) (.c (.p 1))))
 (.h .no (.ye x13) (.P (.ia (.t x8) (.t x12) 1))
 (.h .no (.ye x14) (.L (.l (.one (.t x13))))
 (.h .no (.ye x4) (.P (.mv (.t x14)))
 .nil))))))))))))
 .ret))
def a50 : AF := .fn (ps16.take 15) b50 (.one x4)
def b51 : ACode := (.seq (.ops (.p x6 (.mv (.c (.p 0)))
 .nil))
 (.seq (.ops (.m x10 x0
 (.p x11 (.nck (.t x10))
 (.p x12 (.fa (.t x11) 0)
 (.l x13 (.t x12)
 (.m x14 x1
 (.m x15 x2
 (.s x16 28 [(.t x13), (.t x14), (.t x15)]
 (.m x9 x16
 (.p x17 (.ex (.t x9) 0)
 (.p x18 (.ex (.t x9) 1)
 (.m x7 x17
 (.m x8 x18
 .nil)))))))))))))
 (.seq (.ops (.m x19 x7
 (.m x6 x19
 .nil)))
 .ret)))
def a51 : AF := .fn (ps16.take 20) b51 (.one x6)
def b52 : ACode := (.seq (.ops (.p x4 (.mv (.c (.b false)))
 .nil))
 (.seq (.ops (.m x5 x0
 (.m x6 x1
 (.s x7 89 [(.t x5), (.t x6)]
 (.p x8 (.bin .geq (.t x7) (.c (.p 0)))
 (.m x4 x8
 .nil))))))
 .ret))
def a52 : AF := .fn (ps16.take 9) b52 (.one x4)
def b53 : ACode := (.seq (.ops (.p x3 (.mv (.c (.b false)))
 .nil))
 (.seq (.ops (.l x4 (.t x1)
 (.m x5 x0
 (.s x6 24 [(.t x4), (.t x5)]
 (.p x7 (.nt (.t x6))
 (.m x3 x7
 .nil))))))
 .ret))
def a53 : AF := .fn (ps16.take 8) b53 (.one x3)
def b54 : ACode := (.seq (.ops (.p x0 (.mv (.c (.p 0)))
 (.p x1 (.mv (.c (.p 0)))
 .nil)))
 (.seq (.ops (.p x0 (.mv (.c (.p 0)))
 (.p x1 (.mv (.c (.p 20)))
 .nil)))
 .ret))
def a54 : AF := .fn (ps16.take 2) b54 (.many [(.t x0), (.t x1)])
def b55 : ACode := (.seq (.ops (.p x2 (.mv (.c (.p 0)))
 (.p x3 (.mv (.c (.p 0)))
 .nil)))
 (.seq (.draw (.h .no (.ye x12) (.P (.mv (.t x0)))
 (.h .no (.ye x13) (.P (.nck (.t x12)))
 (.h .no (.ye x14) (.P (.fa (.t x13) 0))
 (.h .no (.ye x15) (.L (.l (.one (.t x14))))
 (.h .no (.ye x16) (.P (.mv (.t x0)))
 (.h .no (.ye x17) (.P (.nck (.t x16)))
 (.h .no (.ye x18) (.P (.fa (.t x17) 2))
 (.h .no (.ye x19) (.L (.l (.one (.t x18))))
 (.c .no (.ye x20) (.S 15 [(.t x15), (.t x19)]) .nil
 (.h .no (.ye x11) (.P (.mv (.t x20)))
 (.h .no (.ye x21) (.P (.ex (.t x11) 0))
 (.h .no (.ye x22) (.P (.ex (.t x11) 1))
 (.h .no (.ye x4) (.P (.mv (.t x21)))
 (.h .no (.ye x5) (.P (.mv (.t x22)))
 .nil)))))))))))))))
 (.seq (.draw (.h .no (.ye x24) (.P (.mv (.t x0)))
 (.h .no (.ye x25) (.P (.nck (.t x24)))
 (.h .no (.ye x26) (.P (.fa (.t x25) 0))
 (.h .no (.ye x27) (.L (.l (.one (.t x26))))
 (.h .no (.ye x28) (.P (.mv (.t x0)))
 (.h .no (.ye x29) (.P (.nck (.t x28)))
 (.h .no (.ye x30) (.P (.fa (.t x29) 3))
 (.h .no (.ye x31) (.L (.l (.one (.t x30))))
 (.h .no (.ye x32) (.P (.ia (.t x31) (.c (.p 0)) 1))
 (.h .no (.ye x33) (.L (.l (.one (.t x32))))
 (.c .no (.ye x34) (.S 15 [(.t x27), (.t x33)]) .nil
 (.h .no (.ye x23) (.P (.mv (.t x34)))
 (.h .no (.ye x35) (.P (.ex (.t x23) 0))
 (.h .no (.ye x36) (.P (.ex (.t x23) 1))
 (.h .no (.ye x6) (.P (.mv (.t x35)))
 (.h .no (.ye x7) (.P (.mv (.t x36)))
 .nil)))))))))))))))))
 (.seq (.seq (.ops (.m x37 x5
 (.p x38 (.nt (.t x37))
 (.m x39 x38
 (.cons (.ye x39 false) (.ye x40) (.P (.mv (.t x7)))
 (.cons (.ye x39 false) (.ye x41) (.P (.nt (.t x40)))
 (.p x42 (.pick (.t x39) (.c (.b true)) (.t x41))
 .nil)))))))
 (.cond (.t x42) (.seq (.ops (.s x43 54 []
 (.p x44 (.ex (.t x43) 0)
 (.p x45 (.ex (.t x43) 1)
 (.m x2 x44
 (.m x3 x45
 .nil))))))
 .ret)
 .skip))
 (.seq (.ops (.p x8 (.mv (.f 90))
 .nil))
 (.seq (.seq (.ops (.m x46 x0
 (.p x47 (.nck (.t x46))
 (.p x48 (.fa (.t x47) 1)
 (.l x49 (.t x48)
 .nil)))))
 (.blk 0 (.seq (.ops (.p x51 (.bin .eql (.t x49) (.c (.p 2)))
 (.m x50 x51
 .nil)))
 (.cond (.t x50) (.ops (.p x8 (.mv (.f 91))
 .nil))
 (.seq (.ops (.p x53 (.bin .eql (.t x49) (.c (.p 3)))
 (.m x52 x53
 .nil)))
 (.cond (.t x52) (.ops (.p x8 (.mv (.f 92))
 .nil))
 (.seq (.ops (.p x55 (.bin .eql (.t x49) (.c (.p 4)))
 (.m x54 x55
 .nil)))
 (.cond (.t x54) (.ops (.p x8 (.mv (.f 93))
 .nil))
 (.seq (.ops (.p x57 (.bin .eql (.t x49) (.c (.p 5)))
 (.m x56 x57
 .nil)))
 (.cond (.t x56) (.ops (.p x8 (.mv (.f 94))
 .nil))
 (.seq (.ops (.p x59 (.bin .eql (.t x49) (.c (.p 6)))
 (.m x58 x59
 .nil)))
 (.cond (.t x58) (.seq (.ops (.m x60 x4
 (.m x61 x6
 (.p x62 (.bin .lss (.t x60) (.t x61))
 (.s x63 95 [(.t x62)]
 (.p x64 (.ex (.t x63) 0)
 (.p x65 (.ex (.t x63) 1)
 (.m x2 x64
 (.m x3 x65
 .nil)))))))))
 .ret)
 (.seq (.ops (.p x67 (.bin .eql (.t x49) (.c (.p 7)))
 (.m x66 x67
 .nil)))
 (.cond (.t x66) (.seq (.ops (.m x68 x4
 (.m x69 x6
 (.p x70 (.bin .eql (.t x68) (.t x69))
 (.s x71 95 [(.t x70)]
 (.p x72 (.ex (.t x71) 0)
 (.p x73 (.ex (.t x71) 1)
 (.m x2 x72
 (.m x3 x73
 .nil)))))))))
 .ret)
 .skip))))))))))))))
 (.seq (.ops (.m x75 x8
 (.m x76 x4
 (.m x77 x6
 (.cons .no (.ye x78) (.V (.t x75) [(.t x76), (.t x77)])
 (.m x74 x78
 (.p x79 (.ex (.t x74) 0)
 (.p x80 (.ex (.t x74) 1)
 (.m x9 x79
 (.m x10 x80
 .nil))))))))))
 (.seq (.seq (.ops (.m x81 x10
 (.p x82 (.bin .neq (.t x81) (.c (.p 0)))
 .nil)))
 (.cond (.t x82) (.seq (.ops (.s x83 54 []
 (.p x84 (.ex (.t x83) 0)
 (.p x85 (.ex (.t x83) 1)
 (.m x2 x84
 (.m x3 x85
 .nil))))))
 .ret)
 .skip))
 (.seq (.ops (.m x86 x0
 (.p x87 (.nck (.t x86))
 (.p x88 (.fa (.t x87) 0)
 (.l x89 (.t x88)
 (.m x90 x9
 (.s x91 42 [(.t x89), (.t x90)]
 (.p x92 (.ex (.t x91) 0)
 (.p x93 (.ex (.t x91) 1)
 (.m x2 x92
 (.m x3 x93
 .nil)))))))))))
 .ret)))))))))
def a55 : AF := .fn (ps16.take 94) b55 (.many [(.t x2), (.t x3)])
def b56 : ACode := (.seq (.ops (.p x2 (.mv (.c (.p 0)))
 (.p x3 (.mv (.c (.p 0)))
 .nil)))
 (.seq (.seq (.ops (.m x4 x0
 (.p x5 (.nck (.t x4))
 (.p x6 (.fa (.t x5) 1)
 (.l x7 (.t x6)
 (.p x8 (.bin .eql (.t x7) (.c (.p 10)))
 .nil))))))
 (.cond (.t x8) (.seq (.draw (.h .no (.ye x9) (.P (.mv (.t x0)))
 (.h .no (.ye x10) (.P (.nck (.t x9)))
 (.h .no (.ye x11) (.P (.fa (.t x10) 2))
 (.h .no (.ye x12) (.L (.l (.one (.t x11))))
 (.h .no (.ye x13) (.P (.mv (.t x0)))
 (.h .no (.ye x14) (.P (.nck (.t x13)))
 (.h .no (.ye x15) (.P (.fa (.t x14) 3))
 (.h .no (.ye x16) (.L (.l (.one (.t x15))))
 (.h .no (.ye x17) (.P (.ia (.t x16) (.c (.p 0)) 1))
 (.h .no (.ye x18) (.L (.l (.one (.t x17))))
 (.h .no (.ye x19) (.P (.bin .eql (.t x12) (.t x18)))
 (.c .no (.ye x20) (.S 95 [(.t x19)]) .nil
 (.h .no (.ye x21) (.P (.ex (.t x20) 0))
 (.h .no (.ye x22) (.P (.ex (.t x20) 1))
 (.h .no (.ye x2) (.P (.mv (.t x21)))
 (.h .no (.ye x3) (.P (.mv (.t x22)))
 .nil)))))))))))))))))
 .ret)
 .skip))
 (.seq (.draw (.h .no (.ye x23) (.P (.mv (.t x0)))
 (.h .no (.ye x24) (.P (.nck (.t x23)))
 (.h .no (.ye x25) (.P (.fa (.t x24) 0))
 (.h .no (.ye x26) (.L (.l (.one (.t x25))))
 (.h .no (.ye x27) (.P (.mv (.t x0)))
 (.h .no (.ye x28) (.P (.nck (.t x27)))
 (.h .no (.ye x29) (.P (.fa (.t x28) 2))
 (.h .no (.ye x30) (.L (.l (.one (.t x29))))
 (.c .no (.ye x31) (.S 25 [(.t x26), (.t x30)]) .nil
 (.h .no (.ye x2) (.P (.mv (.t x31)))
 (.h .no (.ye x3) (.P (.mv (.c (.p 0))))
 .nil))))))))))))
 .ret)))
def a56 : AF := .fn (ps16.take 32) b56 (.many [(.t x2), (.t x3)])
def b57 : ACode := (.seq (.ops (.p x2 (.mv (.c (.p 0)))
 (.p x3 (.mv (.c (.p 0)))
 .nil)))
 (.seq (.ops (.m x9 x0
 (.p x10 (.nck (.t x9))
 (.p x11 (.fa (.t x10) 0)
 (.l x12 (.t x11)
 (.s x13 23 [(.t x12)]
 (.m x4 x13
 .nil)))))))
 (.seq (.blk 0 (.seq (.ops (.m x15 x0
 (.cons .no (.ye x16) (.W (.bs (.cons (.p 0) (.cons (.p 0) (.cons (.p 0) .nil))) 3 [(0, 1, (.c (.p 9))), (1, 1, (.c (.p 10))), (2, 1, (.c (.p 11)))]))
 (.s x17 96 [(.t x15), (.t x16)]
 (.p x18 (.nt (.t x17))
 (.m x14 x18
 .nil))))))
 (.cond (.t x14) (.seq (.ops (.s x19 54 []
 (.p x20 (.ex (.t x19) 0)
 (.p x21 (.ex (.t x19) 1)
 (.m x2 x20
 (.m x3 x21
 .nil))))))
 .ret)
 (.seq (.ops (.m x23 x0
 (.p x24 (.nck (.t x23))
 (.p x25 (.fa (.t x24) 1)
 (.l x26 (.t x25)
 (.p x27 (.bin .eql (.t x26) (.c (.p 22)))
 (.m x22 x27
 .nil)))))))
 (.cond (.t x22) (.seq (.draw (.h .no (.ye x28) (.P (.mv (.t x0)))
 (.h .no (.ye x29) (.P (.nck (.t x28)))
 (.h .no (.ye x30) (.P (.fa (.t x29) 0))
 (.h .no (.ye x31) (.L (.l (.one (.t x30))))
 (.h .no (.ye x32) (.P (.mv (.t x4)))
 (.h .no (.ye x33) (.P (.mv (.t x0)))
 (.h .no (.ye x34) (.P (.nck (.t x33)))
 (.h .no (.ye x35) (.P (.fa (.t x34) 2))
 (.h .no (.ye x36) (.L (.l (.one (.t x35))))
 (.c .no (.ye x37) (.S 27 [(.t x32), (.t x36)]) (.cons .no (.l (.one (.t x30))) x31 .nil)
 (.c .no (.ye x38) (.S 42 [(.t x31), (.t x37)]) .nil
 (.h .no (.ye x39) (.P (.ex (.t x38) 0))
 (.h .no (.ye x40) (.P (.ex (.t x38) 1))
 (.h .no (.ye x2) (.P (.mv (.t x39)))
 (.h .no (.ye x3) (.P (.mv (.t x40)))
 .nil))))))))))))))))
 .ret)
 .skip)))))
 (.seq (.ops (.m x42 x0
 (.s x43 97 [(.t x42)]
 (.m x41 x43
 (.p x44 (.ex (.t x41) 0)
 (.p x45 (.ex (.t x41) 1)
 (.m x5 x44
 (.m x6 x45
 .nil))))))))
 (.seq (.seq (.ops (.m x46 x6
 (.p x47 (.nt (.t x46))
 .nil)))
 (.cond (.t x47) (.seq (.ops (.s x48 54 []
 (.p x49 (.ex (.t x48) 0)
 (.p x50 (.ex (.t x48) 1)
 (.m x2 x49
 (.m x3 x50
 .nil))))))
 .ret)
 .skip))
 (.seq (.seq (.ops (.m x51 x0
 (.p x52 (.nck (.t x51))
 (.p x53 (.fa (.t x52) 1)
 (.l x54 (.t x53)
 (.p x55 (.bin .eql (.t x54) (.c (.p 21)))
 .nil))))))
 (.cond (.t x55) (.seq (.ops (.m x56 x0
 (.m x57 x5
 (.s x58 98 [(.t x56), (.t x57)]
 (.p x59 (.ex (.t x58) 0)
 (.p x60 (.ex (.t x58) 1)
 (.m x2 x59
 (.m x3 x60
 .nil))))))))
 .ret)
 .skip))
 (.seq (.ops (.m x62 x4
 (.m x63 x0
 (.p x64 (.nck (.t x63))
 (.p x65 (.fa (.t x64) 2)
 (.l x66 (.t x65)
 (.m x67 x5
 (.s x68 28 [(.t x62), (.t x66), (.t x67)]
 (.m x61 x68
 (.p x69 (.ex (.t x61) 0)
 (.p x70 (.ex (.t x61) 1)
 (.m x7 x69
 (.m x8 x70
 .nil)))))))))))))
 (.seq (.seq (.ops (.m x71 x0
 (.cons .no (.ye x72) (.W (.bs (.cons (.p 0) .nil) 1 [(0, 1, (.c (.p 9)))]))
 (.s x73 96 [(.t x71), (.t x72)]
 .nil))))
 (.cond (.t x73) (.seq (.ops (.m x74 x7
 (.m x2 x74
 (.p x3 (.mv (.c (.p 0)))
 .nil))))
 .ret)
 .skip))
 (.seq (.ops (.m x75 x0
 (.p x76 (.nck (.t x75))
 (.p x77 (.fa (.t x76) 0)
 (.l x78 (.t x77)
 (.m x79 x7
 (.s x80 42 [(.t x78), (.t x79)]
 (.p x81 (.ex (.t x80) 0)
 (.p x82 (.ex (.t x80) 1)
 (.m x2 x81
 (.m x3 x82
 .nil)))))))))))
 .ret)))))))))
def a57 : AF := .fn (ps16.take 83) b57 (.many [(.t x2), (.t x3)])
def b58 : ACode := (.seq (.ops (.p x2 (.mv (.c (.p 0)))
 (.p x3 (.mv (.c (.p 0)))
 .nil)))
 (.seq (.draw (.h .no (.ye x8) (.P (.mv (.t x0)))
 (.h .no (.ye x9) (.P (.nck (.t x8)))
 (.h .no (.ye x10) (.P (.fa (.t x9) 0))
 (.h .no (.ye x11) (.L (.l (.one (.t x10))))
 (.h .no (.ye x13) (.P (.mv (.t x0)))
 (.h .no (.ye x14) (.P (.nck (.t x13)))
 (.h .no (.ye x15) (.P (.fa (.t x14) 0))
 (.h .no (.ye x16) (.L (.l (.one (.t x15))))
 (.h .no (.ye x17) (.P (.mv (.t x0)))
 (.h .no (.ye x18) (.P (.nck (.t x17)))
 (.h .no (.ye x19) (.P (.fa (.t x18) 2))
 (.h .no (.ye x20) (.L (.l (.one (.t x19))))
 (.c .no (.ye x12) (.S 23 [(.t x11)]) (.cons .no (.l (.one (.t x15))) x16 (.cons .no (.l (.one (.t x19))) x20 .nil))
 (.c .no (.ye x21) (.S 32 [(.t x16), (.t x20)]) .nil
 (.h .no (.ye x4) (.P (.mv (.t x12)))
 (.h .no (.ye x5) (.P (.mv (.t x21)))
 .nil)))))))))))))))))
 (.seq (.seq (.ops (.m x22 x0
 (.p x23 (.nck (.t x22))
 (.p x24 (.fa (.t x23) 1)
 (.l x25 (.t x24)
 (.p x26 (.bin .eql (.t x25) (.c (.p 23)))
 .nil))))))
 (.cond (.t x26) (.seq (.seq (.ops (.m x27 x5
 (.p x28 (.bin .neq (.t x27) (.c (.p 0)))
 .nil)))
 (.cond (.t x28) (.seq (.ops (.s x29 54 []
 (.p x30 (.ex (.t x29) 0)
 (.p x31 (.ex (.t x29) 1)
 (.m x2 x30
 (.m x3 x31
 .nil))))))
 .ret)
 .skip))
 (.seq (.draw (.h .no (.ye x32) (.P (.mv (.t x4)))
 (.h .no (.ye x33) (.P (.mv (.t x0)))
 (.h .no (.ye x34) (.P (.nck (.t x33)))
 (.h .no (.ye x35) (.P (.fa (.t x34) 2))
 (.h .no (.ye x36) (.L (.l (.one (.t x35))))
 (.h .no (.ye x37) (.P (.mv (.t x0)))
 (.h .no (.ye x38) (.P (.nck (.t x37)))
 (.h .no (.ye x39) (.P (.fa (.t x38) 0))
 (.h .no (.ye x40) (.L (.l (.one (.t x39))))
 (.h .no (.ye x41) (.P (.mv (.t x0)))
 (.h .no (.ye x42) (.P (.nck (.t x41)))
 (.h .no (.ye x43) (.P (.fa (.t x42) 2))
 (.h .no (.ye x44) (.L (.l (.one (.t x43))))
 (.c .no (.ye x45) (.S 37 [(.t x40), (.t x44)]) (.cons .no (.l (.one (.t x35))) x36 .nil)
 (.c .no (.ye x46) (.S 47 [(.t x32), (.t x36), (.c (.p 0)), (.t x45)]) .nil
 (.h .no (.ye x47) (.P (.ex (.t x46) 0))
 (.h .no (.ye x48) (.P (.ex (.t x46) 1))
 (.h .no (.ye x2) (.P (.mv (.t x47)))
 (.h .no (.ye x3) (.P (.mv (.t x48)))
 .nil))))))))))))))))))))
 .ret))
 .skip))
 (.seq (.draw (.h .no (.ye x50) (.P (.mv (.t x0)))
 (.h .no (.ye x51) (.P (.nck (.t x50)))
 (.h .no (.ye x52) (.P (.fa (.t x51) 0))
 (.h .no (.ye x53) (.L (.l (.one (.t x52))))
 (.h .no (.ye x54) (.P (.mv (.t x0)))
 (.h .no (.ye x55) (.P (.nck (.t x54)))
 (.h .no (.ye x56) (.P (.fa (.t x55) 3))
 (.h .no (.ye x57) (.L (.l (.one (.t x56))))
 (.h .no (.ye x58) (.P (.ia (.t x57) (.c (.p 0)) 1))
 (.h .no (.ye x59) (.L (.l (.one (.t x58))))
 (.c .no (.ye x60) (.S 15 [(.t x53), (.t x59)]) .nil
 (.h .no (.ye x49) (.P (.mv (.t x60)))
 (.h .no (.ye x61) (.P (.ex (.t x49) 0))
 (.h .no (.ye x62) (.P (.ex (.t x49) 1))
 (.h .no (.ye x6) (.P (.mv (.t x61)))
 (.h .no (.ye x7) (.P (.mv (.t x62)))
 .nil)))))))))))))))))
 (.seq (.blk 0 (.seq (.ops (.m x64 x7
 (.p x65 (.nt (.t x64))
 (.m x66 x65
 (.cons (.ye x66 false) (.ye x67) (.P (.mv (.t x6)))
 (.cons (.ye x66 false) (.ye x68) (.P (.bin .lss (.t x67) (.c (.p 0))))
 (.p x69 (.pick (.t x66) (.c (.b true)) (.t x68))
 (.m x70 x69
 (.cons (.ye x70 false) (.ye x71) (.P (.mv (.t x6)))
 (.cons (.ye x70 false) (.ye x72) (.P (.bin .gtr (.t x71) (.c (.p 250))))
 (.p x73 (.pick (.t x70) (.c (.b true)) (.t x72))
 (.m x63 x73
 .nil))))))))))))
 (.cond (.t x63) (.seq (.ops (.s x74 54 []
 (.p x75 (.ex (.t x74) 0)
 (.p x76 (.ex (.t x74) 1)
 (.m x2 x75
 (.m x3 x76
 .nil))))))
 .ret)
 (.seq (.draw (.h .no (.ye x78) (.P (.mv (.t x0)))
 (.h .no (.ye x79) (.P (.nck (.t x78)))
 (.h .no (.ye x80) (.P (.fa (.t x79) 2))
 (.h .no (.ye x81) (.L (.l (.one (.t x80))))
 (.h .no (.ye x82) (.P (.mv (.t x0)))
 (.h .no (.ye x83) (.P (.nck (.t x82)))
 (.h .no (.ye x84) (.P (.fa (.t x83) 0))
 (.h .no (.ye x85) (.L (.l (.one (.t x84))))
 (.c .no (.ye x86) (.S 30 [(.t x85), (.c (.p 9))]) (.cons .no (.l (.one (.t x80))) x81 .nil)
 (.h .no (.ye x87) (.P (.bin .eql (.t x81) (.t x86)))
 (.h .no (.ye x77) (.P (.mv (.t x87)))
 .nil))))))))))))
 (.cond (.t x77) (.seq (.ops (.m x88 x4
 (.m x89 x0
 (.p x90 (.nck (.t x89))
 (.p x91 (.fa (.t x90) 2)
 (.l x92 (.t x91)
 (.m x93 x6
 (.s x94 47 [(.t x88), (.t x92), (.c (.p 0)), (.t x93)]
 (.p x95 (.ex (.t x94) 0)
 (.p x96 (.ex (.t x94) 1)
 (.m x2 x95
 (.m x3 x96
 .nil))))))))))))
 .ret)
 (.seq (.draw (.h .no (.ye x98) (.P (.mv (.t x0)))
 (.h .no (.ye x99) (.P (.nck (.t x98)))
 (.h .no (.ye x100) (.P (.fa (.t x99) 2))
 (.h .no (.ye x101) (.L (.l (.one (.t x100))))
 (.h .no (.ye x102) (.P (.mv (.t x0)))
 (.h .no (.ye x103) (.P (.nck (.t x102)))
 (.h .no (.ye x104) (.P (.fa (.t x103) 0))
 (.h .no (.ye x105) (.L (.l (.one (.t x104))))
 (.c .no (.ye x106) (.S 30 [(.t x105), (.c (.p 10))]) (.cons .no (.l (.one (.t x100))) x101 .nil)
 (.h .no (.ye x107) (.P (.bin .eql (.t x101) (.t x106)))
 (.h .no (.ye x97) (.P (.mv (.t x107)))
 .nil))))))))))))
 (.cond (.t x97) (.seq (.ops (.m x108 x4
 (.m x109 x0
 (.p x110 (.nck (.t x109))
 (.p x111 (.fa (.t x110) 2)
 (.l x112 (.t x111)
 (.m x113 x6
 (.s x114 47 [(.t x108), (.t x112), (.c (.p 2)), (.t x113)]
 (.p x115 (.ex (.t x114) 0)
 (.p x116 (.ex (.t x114) 1)
 (.m x2 x115
 (.m x3 x116
 .nil))))))))))))
 .ret)
 .skip)))))))
 (.seq (.ops (.s x117 54 []
 (.p x118 (.ex (.t x117) 0)
 (.p x119 (.ex (.t x117) 1)
 (.m x2 x118
 (.m x3 x119
 .nil))))))
 .ret))))))
def a58 : AF := .fn (ps16.take 120) b58 (.many [(.t x2), (.t x3)])
def b59 : ACode := (.seq (.ops (.p x2 (.mv (.c (.p 0)))
 (.p x3 (.mv (.c (.p 0)))
 .nil)))
 (.seq (.draw (.h .no (.ye x9) (.P (.mv (.t x0)))
 (.h .no (.ye x10) (.P (.nck (.t x9)))
 (.h .no (.ye x11) (.P (.fa (.t x10) 0))
 (.h .no (.ye x12) (.L (.l (.one (.t x11))))
 (.h .no (.ye x13) (.P (.mv (.t x0)))
 (.h .no (.ye x14) (.P (.nck (.t x13)))
 (.h .no (.ye x15) (.P (.fa (.t x14) 2))
 (.h .no (.ye x16) (.L (.l (.one (.t x15))))
 (.c .no (.ye x17) (.S 33 [(.t x12), (.t x16)]) .nil
 (.h .no (.ye x8) (.P (.mv (.t x17)))
 (.h .no (.ye x18) (.P (.ex (.t x8) 0))
 (.h .no (.ye x19) (.P (.ex (.t x8) 1))
 (.h .no (.ye x4) (.P (.mv (.t x18)))
 (.h .no (.ye x5) (.P (.mv (.t x19)))
 .nil)))))))))))))))
 (.seq (.draw (.h .no (.ye x21) (.P (.mv (.t x0)))
 (.h .no (.ye x22) (.P (.nck (.t x21)))
 (.h .no (.ye x23) (.P (.fa (.t x22) 0))
 (.h .no (.ye x24) (.L (.l (.one (.t x23))))
 (.h .no (.ye x25) (.P (.mv (.t x0)))
 (.h .no (.ye x26) (.P (.nck (.t x25)))
 (.h .no (.ye x27) (.P (.fa (.t x26) 3))
 (.h .no (.ye x28) (.L (.l (.one (.t x27))))
 (.h .no (.ye x29) (.P (.ia (.t x28) (.c (.p 0)) 1))
 (.h .no (.ye x30) (.L (.l (.one (.t x29))))
 (.c .no (.ye x31) (.S 33 [(.t x24), (.t x30)]) .nil
 (.h .no (.ye x20) (.P (.mv (.t x31)))
 (.h .no (.ye x32) (.P (.ex (.t x20) 0))
 (.h .no (.ye x33) (.P (.ex (.t x20) 1))
 (.h .no (.ye x6) (.P (.mv (.t x32)))
 (.h .no (.ye x7) (.P (.mv (.t x33)))
 .nil)))))))))))))))))
 (.seq (.blk 0 (.seq (.ops (.m x35 x5
 (.p x36 (.nt (.t x35))
 (.m x34 x36
 .nil))))
 (.cond (.t x34) (.seq (.ops (.s x37 54 []
 (.p x38 (.ex (.t x37) 0)
 (.p x39 (.ex (.t x37) 1)
 (.m x2 x38
 (.m x3 x39
 .nil))))))
 .ret)
 (.seq (.ops (.m x41 x0
 (.p x42 (.nck (.t x41))
 (.p x43 (.fa (.t x42) 1)
 (.l x44 (.t x43)
 (.p x45 (.bin .eql (.t x44) (.c (.p 26)))
 (.m x40 x45
 .nil)))))))
 (.cond (.t x40) (.seq (.ops (.m x46 x7
 (.m x47 x46
 (.cons (.ye x47 true) (.ye x48) (.P (.mv (.t x4)))
 (.cons (.ye x47 true) (.ye x49) (.P (.mv (.t x6)))
 (.cons (.ye x47 true) (.ye x50) (.P (.bin .eql (.t x48) (.t x49)))
 (.p x51 (.pick (.t x47) (.t x50) (.c (.b false)))
 (.s x52 95 [(.t x51)]
 (.p x53 (.ex (.t x52) 0)
 (.p x54 (.ex (.t x52) 1)
 (.m x2 x53
 (.m x3 x54
 .nil))))))))))))
 .ret)
 (.seq (.ops (.m x56 x7
 (.p x57 (.nt (.t x56))
 (.m x58 x57
 (.cons (.ye x58 false) (.ye x59) (.P (.mv (.t x4)))
 (.cons (.ye x58 false) (.ye x60) (.P (.lnS (.t x59)))
 (.cons (.ye x58 false) (.ye x61) (.P (.mv (.t x6)))
 (.cons (.ye x58 false) (.ye x62) (.P (.lnS (.t x61)))
 (.cons (.ye x58 false) (.ye x63) (.P (.bin .add (.t x60) (.t x62)))
 (.cons (.ye x58 false) (.ye x64) (.P (.bin .gtr (.t x63) (.c (.p 250))))
 (.p x65 (.pick (.t x58) (.c (.b true)) (.t x64))
 (.m x55 x65
 .nil))))))))))))
 (.cond (.t x55) (.seq (.ops (.s x66 54 []
 (.p x67 (.ex (.t x66) 0)
 (.p x68 (.ex (.t x66) 1)
 (.m x2 x67
 (.m x3 x68
 .nil))))))
 .ret)
 .skip)))))))
 (.seq (.ops (.m x69 x0
 (.p x70 (.nck (.t x69))
 (.p x71 (.fa (.t x70) 0)
 (.l x72 (.t x71)
 (.m x73 x4
 (.m x74 x6
 (.p x75 (.bin .add (.t x73) (.t x74))
 (.s x76 43 [(.t x72), (.t x75)]
 (.p x77 (.ex (.t x76) 0)
 (.p x78 (.ex (.t x76) 1)
 (.m x2 x77
 (.m x3 x78
 .nil)))))))))))))
 .ret)))))
def a59 : AF := .fn (ps16.take 79) b59 (.many [(.t x2), (.t x3)])
def b60 : ACode := (.seq (.ops (.p x2 (.mv (.c (.p 0)))
 (.p x3 (.mv (.c (.p 0)))
 .nil)))
 (.seq (.blk 0 (.seq (.draw (.h .no (.ye x5) (.P (.mv (.t x0)))
 (.h .no (.ye x6) (.P (.nck (.t x5)))
 (.h .no (.ye x7) (.P (.fa (.t x6) 0))
 (.h .no (.ye x8) (.L (.l (.one (.t x7))))
 (.h .no (.ye x9) (.P (.mv (.t x0)))
 (.h .no (.ye x10) (.P (.nck (.t x9)))
 (.h .no (.ye x11) (.P (.fa (.t x10) 2))
 (.h .no (.ye x12) (.L (.l (.one (.t x11))))
 (.c .no (.ye x13) (.S 32 [(.t x8), (.t x12)]) .nil
 (.h .no (.ye x14) (.P (.bin .lss (.t x13) (.c (.p 0))))
 (.h .no (.ye x4) (.P (.mv (.t x14)))
 .nil))))))))))))
 (.cond (.t x4) (.seq (.ops (.s x15 54 []
 (.p x16 (.ex (.t x15) 0)
 (.p x17 (.ex (.t x15) 1)
 (.m x2 x16
 (.m x3 x17
 .nil))))))
 .ret)
 (.seq (.ops (.m x19 x0
 (.p x20 (.nck (.t x19))
 (.p x21 (.fa (.t x20) 1)
 (.l x22 (.t x21)
 (.p x23 (.bin .eql (.t x22) (.c (.p 41)))
 (.m x18 x23
 .nil)))))))
 (.cond (.t x18) (.seq (.draw (.h .no (.ye x24) (.P (.mv (.t x0)))
 (.h .no (.ye x25) (.P (.nck (.t x24)))
 (.h .no (.ye x26) (.P (.fa (.t x25) 0))
 (.h .no (.ye x27) (.L (.l (.one (.t x26))))
 (.h .no (.ye x28) (.P (.mv (.t x0)))
 (.h .no (.ye x29) (.P (.nck (.t x28)))
 (.h .no (.ye x30) (.P (.fa (.t x29) 2))
 (.h .no (.ye x31) (.L (.l (.one (.t x30))))
 (.c .no (.ye x32) (.S 35 [(.t x27), (.t x31)]) .nil
 (.h .no (.ye x2) (.P (.mv (.t x32)))
 (.h .no (.ye x3) (.P (.mv (.c (.p 0))))
 .nil))))))))))))
 .ret)
 .skip)))))
 (.seq (.draw (.h .no (.ye x33) (.P (.mv (.t x0)))
 (.h .no (.ye x34) (.P (.nck (.t x33)))
 (.h .no (.ye x35) (.P (.fa (.t x34) 0))
 (.h .no (.ye x36) (.L (.l (.one (.t x35))))
 (.h .no (.ye x37) (.P (.mv (.t x0)))
 (.h .no (.ye x38) (.P (.nck (.t x37)))
 (.h .no (.ye x39) (.P (.fa (.t x38) 0))
 (.h .no (.ye x40) (.L (.l (.one (.t x39))))
 (.h .no (.ye x41) (.P (.mv (.t x0)))
 (.h .no (.ye x42) (.P (.nck (.t x41)))
 (.h .no (.ye x43) (.P (.fa (.t x42) 2))
 (.h .no (.ye x44) (.L (.l (.one (.t x43))))
 (.c .no (.ye x45) (.S 34 [(.t x40), (.t x44)]) (.cons .no (.l (.one (.t x35))) x36 .nil)
 (.c .no (.ye x46) (.S 44 [(.t x36), (.t x45)]) .nil
 (.h .no (.ye x47) (.P (.ex (.t x46) 0))
 (.h .no (.ye x48) (.P (.ex (.t x46) 1))
 (.h .no (.ye x2) (.P (.mv (.t x47)))
 (.h .no (.ye x3) (.P (.mv (.t x48)))
 .nil)))))))))))))))))))
 .ret)))
def a60 : AF := .fn (ps16.take 49) b60 (.many [(.t x2), (.t x3)])
def b61 : ACode := (.seq (.ops (.p x2 (.mv (.c (.p 0)))
 (.p x3 (.mv (.c (.p 0)))
 .nil)))
 (.seq (.ops (.m x7 x0
 (.p x8 (.nck (.t x7))
 (.p x9 (.fa (.t x8) 0)
 (.l x10 (.t x9)
 (.s x11 23 [(.t x10)]
 (.m x4 x11
 .nil)))))))
 (.seq (.seq (.draw (.h .no (.ye x12) (.P (.mv (.t x4)))
 (.h .no (.ye x13) (.P (.mv (.t x0)))
 (.h .no (.ye x14) (.P (.nck (.t x13)))
 (.h .no (.ye x15) (.P (.fa (.t x14) 2))
 (.h .no (.ye x16) (.L (.l (.one (.t x15))))
 (.c .no (.ye x17) (.S 31 [(.t x12), (.t x16)]) .nil
 (.h .no (.ye x18) (.P (.nt (.t x17)))
 (.h .no (.ye x19) (.P (.mv (.t x18)))
 (.h (.ye x19 false) (.ye x20) (.P (.mv (.t x0)))
 (.h (.ye x19 false) (.ye x21) (.P (.nck (.t x20)))
 (.h (.ye x19 false) (.ye x22) (.P (.fa (.t x21) 0))
 (.h (.ye x19 false) (.ye x23) (.L (.l (.one (.t x22))))
 (.h (.ye x19 false) (.ye x24) (.P (.mv (.t x0)))
 (.h (.ye x19 false) (.ye x25) (.P (.nck (.t x24)))
 (.h (.ye x19 false) (.ye x26) (.P (.fa (.t x25) 0))
 (.h (.ye x19 false) (.ye x27) (.L (.l (.one (.t x26))))
 (.h (.ye x19 false) (.ye x28) (.P (.mv (.t x0)))
 (.h (.ye x19 false) (.ye x29) (.P (.nck (.t x28)))
 (.h (.ye x19 false) (.ye x30) (.P (.fa (.t x29) 2))
 (.h (.ye x19 false) (.ye x31) (.L (.l (.one (.t x30))))
 (.c (.ye x19 false) (.ye x32) (.S 25 [(.t x27), (.t x31)]) (.cons (.ye x19 false) (.l (.one (.t x22))) x23 .nil)
 (.c (.ye x19 false) (.ye x33) (.S 32 [(.t x23), (.t x32)]) .nil
 (.h (.ye x19 false) (.ye x34) (.P (.bin .neq (.t x33) (.c (.p 0))))
 (.h .no (.ye x35) (.P (.pick (.t x19) (.c (.b true)) (.t x34)))
 .nil)))))))))))))))))))))))))
 (.cond (.t x35) (.seq (.ops (.s x36 54 []
 (.p x37 (.ex (.t x36) 0)
 (.p x38 (.ex (.t x36) 1)
 (.m x2 x37
 (.m x3 x38
 .nil))))))
 .ret)
 .skip))
 (.seq (.ops (.m x40 x0
 (.s x41 97 [(.t x40)]
 (.m x39 x41
 (.p x42 (.ex (.t x39) 0)
 (.p x43 (.ex (.t x39) 1)
 (.m x5 x42
 (.m x6 x43
 .nil))))))))
 (.seq (.blk 0 (.seq (.ops (.m x45 x6
 (.p x46 (.nt (.t x45))
 (.m x44 x46
 .nil))))
 (.cond (.t x44) (.seq (.ops (.s x47 54 []
 (.p x48 (.ex (.t x47) 0)
 (.p x49 (.ex (.t x47) 1)
 (.m x2 x48
 (.m x3 x49
 .nil))))))
 .ret)
 (.seq (.ops (.m x51 x0
 (.p x52 (.nck (.t x51))
 (.p x53 (.fa (.t x52) 1)
 (.l x54 (.t x53)
 (.p x55 (.bin .eql (.t x54) (.c (.p 51)))
 (.m x50 x55
 .nil)))))))
 (.cond (.t x50) (.seq (.draw (.h .no (.ye x56) (.P (.mv (.t x4)))
 (.h .no (.ye x57) (.P (.mv (.t x0)))
 (.h .no (.ye x58) (.P (.nck (.t x57)))
 (.h .no (.ye x59) (.P (.fa (.t x58) 2))
 (.h .no (.ye x60) (.L (.l (.one (.t x59))))
 (.h .no (.ye x61) (.P (.mv (.t x5)))
 (.h .no (.ye x62) (.P (.mv (.t x0)))
 (.h .no (.ye x63) (.P (.nck (.t x62)))
 (.h .no (.ye x64) (.P (.fa (.t x63) 3))
 (.h .no (.ye x65) (.L (.l (.one (.t x64))))
 (.h .no (.ye x66) (.P (.ia (.t x65) (.c (.p 1)) 1))
 (.h .no (.ye x67) (.L (.l (.one (.t x66))))
 (.c .no (.ye x68) (.S 72 [(.t x56), (.t x60), (.t x61), (.t x67)]) .nil
 .nil))))))))))))))
 (.seq (.ops (.m x69 x0
 (.p x70 (.nck (.t x69))
 (.p x71 (.fa (.t x70) 3)
 (.l x72 (.t x71)
 (.p x73 (.ia (.t x72) (.c (.p 1)) 1)
 (.l x74 (.t x73)
 (.m x2 x74
 (.p x3 (.mv (.c (.p 0)))
 .nil)))))))))
 .ret))
 .skip)))))
 (.seq (.ops (.m x75 x4
 (.m x76 x0
 (.p x77 (.nck (.t x76))
 (.p x78 (.fa (.t x77) 2)
 (.l x79 (.t x78)
 (.m x80 x5
 (.s x81 28 [(.t x75), (.t x79), (.t x80)]
 (.p x82 (.ex (.t x81) 0)
 (.p x83 (.ex (.t x81) 1)
 (.m x2 x82
 (.m x3 x83
 .nil))))))))))))
 .ret))))))
def a61 : AF := .fn (ps16.take 84) b61 (.many [(.t x2), (.t x3)])
def b63 : ACode := (.seq (.ops (.p x4 (.mv (.c (.p 0)))
 .nil))
 (.seq (.seq (.ops (.m x5 x0
 (.m x6 x1
 (.s x7 31 [(.t x5), (.t x6)]
 (.p x8 (.nt (.t x7))
 .nil)))))
 (.cond (.t x8) (.seq (.ops (.p x4 (.mv (.c (.p 0)))
 .nil))
 .ret)
 .skip))
 (.seq (.ops (.m x9 x1
 (.s x10 66 [(.t x9)]
 (.m x4 x10
 .nil))))
 .ret)))
def a63 : AF := .fn (ps16.take 11) b63 (.one x4)
def b64 : ACode := (.seq (.ops (.p x6 (.mv (.c (.p 0)))
 (.p x7 (.mv (.c (.p 0)))
 .nil)))
 (.seq (.ops (.m x9 x0
 (.m x10 x1
 (.s x11 63 [(.t x9), (.t x10)]
 (.m x8 x11
 .nil)))))
 (.seq (.blk 0 (.seq (.ops (.m x13 x8
 (.p x14 (.bin .eql (.t x13) (.c (.p 0)))
 (.m x12 x14
 .nil))))
 (.cond (.t x12) (.seq (.ops (.p x6 (.mv (.c (.p 0)))
 (.p x7 (.mv (.c (.p 1)))
 .nil)))
 .ret)
 (.seq (.ops (.m x16 x2
 (.p x17 (.bin .lss (.t x16) (.c (.p 0)))
 (.m x18 x17
 (.cons (.ye x18 false) (.ye x19) (.P (.mv (.t x2)))
 (.cons (.ye x18 false) (.ye x20) (.P (.mv (.t x0)))
 (.cons (.ye x18 false) (.ye x21) (.P (.mv (.t x1)))
 (.cons (.ye x18 false) (.ye x22) (.S 27 [(.t x20), (.t x21)])
 (.cons (.ye x18 false) (.ye x23) (.P (.bin .geq (.t x19) (.t x22)))
 (.p x24 (.pick (.t x18) (.c (.b true)) (.t x23))
 (.m x15 x24
 .nil)))))))))))
 (.cond (.t x15) (.seq (.ops (.p x6 (.mv (.c (.p 0)))
 (.p x7 (.mv (.c (.p 5)))
 .nil)))
 .ret)
 .skip)))))
 (.seq (.ops (.m x25 x8
 (.p x26 (.bin .add (.t x25) (.c (.p 3)))
 (.m x27 x2
 (.p x28 (.bin .add (.t x26) (.t x27))
 (.m x6 x28
 (.p x7 (.mv (.c (.p 0)))
 .nil)))))))
 .ret))))
def a64 : AF := .fn (ps16.take 29) b64 (.many [(.t x6), (.t x7)])
def b65 : ACode := (.seq (.ops (.p x2 (.mv (.c (.b false)))
 .nil))
 (.seq (.ops (.m x3 x0
 (.p x4 (.bin .and (.t x3) (.c (.p 1)))
 (.p x5 (.bin .eql (.t x4) (.c (.p 0)))
 (.m x6 x5
 (.cons (.ye x6 true) (.ye x7) (.P (.mv (.t x0)))
 (.cons (.ye x6 true) (.ye x8) (.P (.bin .shr (.t x7) (.c (.w .u64 1))))
 (.cons (.ye x6 true) (.ye x9) (.S 88 [(.t x8), (.c (.p 3)), (.c (.p 131072))])
 (.p x10 (.pick (.t x6) (.t x9) (.c (.b false)))
 (.m x2 x10
 .nil))))))))))
 .ret))
def a65 : AF := .fn (ps16.take 11) b65 (.one x2)
def b66 : ACode := (.seq (.ops (.p x2 (.mv (.c (.p 0)))
 .nil))
 (.seq (.seq (.ops (.m x3 x0
 (.s x4 65 [(.t x3)]
 (.p x5 (.nt (.t x4))
 .nil))))
 (.cond (.t x5) (.seq (.ops (.p x2 (.mv (.c (.p 0)))
 .nil))
 .ret)
 .skip))
 (.seq (.ops (.m x6 x0
 (.p x7 (.bin .shr (.t x6) (.c (.w .u64 1)))
 (.m x2 x7
 .nil))))
 .ret)))
def a66 : AF := .fn (ps16.take 8) b66 (.one x2)
def b67 : ACode := (.seq (.ops (.p x4 (.mv (.c (.b false)))
 .nil))
 (.seq (.ops (.m x5 x0
 (.p x6 (.nck (.t x5))
 (.p x7 (.fa (.t x6) 0)
 (.l x8 (.t x7)
 (.m x9 x1
 (.s x10 31 [(.t x8), (.t x9)]
 (.m x11 x10
 (.cons (.ye x11 true) (.ye x12) (.P (.mv (.t x0)))
 (.cons (.ye x11 true) (.ye x13) (.P (.nck (.t x12)))
 (.cons (.ye x11 true) (.ye x14) (.P (.fa (.t x13) 0))
 (.cons (.ye x11 true) (.ye x15) (.L (.l (.one (.t x14))))
 (.cons (.ye x11 true) (.ye x16) (.P (.mv (.t x1)))
 (.cons (.ye x11 true) (.ye x17) (.S 50 [(.t x15), (.t x16)])
 (.cons (.ye x11 true) (.ye x18) (.P (.mv (.t x0)))
 (.cons (.ye x11 true) (.ye x19) (.S 30 [(.t x18), (.c (.p 1))])
 (.cons (.ye x11 true) (.ye x20) (.P (.bin .eql (.t x17) (.t x19)))
 (.p x21 (.pick (.t x11) (.t x20) (.c (.b false)))
 (.m x22 x21
 (.cons (.ye x22 true) (.ye x23) (.P (.mv (.t x0)))
 (.cons (.ye x22 true) (.ye x24) (.P (.nck (.t x23)))
 (.cons (.ye x22 true) (.ye x25) (.P (.fa (.t x24) 0))
 (.cons (.ye x22 true) (.ye x26) (.L (.l (.one (.t x25))))
 (.cons (.ye x22 true) (.ye x27) (.P (.mv (.t x1)))
 (.cons (.ye x22 true) (.ye x28) (.S 27 [(.t x26), (.t x27)])
 (.cons (.ye x22 true) (.ye x29) (.P (.bin .eql (.t x28) (.c (.p 6))))
 (.p x30 (.pick (.t x22) (.t x29) (.c (.b false)))
 (.m x4 x30
 .nil))))))))))))))))))))))))))))
 .ret))
def a67 : AF := .fn (ps16.take 31) b67 (.one x4)
def b68 : ACode := (.seq (.ops (.p x2 (.mv (.c .np))
 .nil))
 (.seq (.seq (.ops (.m x3 x0
 (.p x4 (.bin .lss (.t x3) (.c (.p 16)))
 (.m x5 x4
 (.cons (.ye x5 false) (.ye x6) (.P (.mv (.t x0)))
 (.cons (.ye x5 false) (.ye x7) (.P (.bin .gtr (.t x6) (.c (.p 131072))))
 (.p x8 (.pick (.t x5) (.c (.b true)) (.t x7))
 .nil)))))))
 (.cond (.t x8) (.seq (.ops (.p x2 (.mv (.c .np))
 .nil))
 .ret)
 .skip))
 (.seq (.ops (.m x9 x0
 (.cons .no (.ye x10) (.W (.ms (.p 0) 8 (.t x9) (.t x9)))
 (.cons .no (.ye x11) (.W (.mkm false))
 (.p x12 (.bd (.cons .ns (.cons (.p 0) (.cons (.p 0) (.cons .nm .nil)))) [(0, 1, (.t x10)), (1, 1, (.c (.p 3))), (3, 1, (.t x11))])
 (.cons .no (.ye x13) (.W (.bx (.t x12)))
 (.m x2 x13
 .nil)))))))
 .ret)))
def a68 : AF := .fn (ps16.take 14) b68 (.one x2)
def b69 : ACode := (.seq (.ops (.p x0 (.mv (.c .ns))
 .nil))
 (.seq (.ops (.p x1 (.bd (.cons (.s 0 0) (.cons (.p 0) (.cons (.p 0) .nil))) [(0, 1, (.c (.s 6 127970252055119))), (1, 1, (.c (.n 0))), (2, 1, (.c (.p 0)))])
 (.p x2 (.bd (.cons (.s 0 0) (.cons (.p 0) (.cons (.p 0) .nil))) [(0, 1, (.c (.s 5 495857003587))), (1, 1, (.c (.p 0))), (2, 1, (.c (.p 3)))])
 (.p x3 (.bd (.cons (.s 0 0) (.cons (.p 0) (.cons (.p 0) .nil))) [(0, 1, (.c (.s 15 604322429109476151299865450658426453))), (1, 1, (.c (.p 0))), (2, 1, (.c (.p 3)))])
 (.p x4 (.bd (.cons (.s 0 0) (.cons (.p 0) (.cons (.p 0) .nil))) [(0, 1, (.c (.s 7 31069335677005634))), (1, 1, (.c (.p 0))), (2, 1, (.c (.p 3)))])
 (.p x5 (.bd (.cons (.s 0 0) (.cons (.p 0) (.cons (.p 0) .nil))) [(0, 1, (.c (.s 4 1702195796))), (1, 1, (.c (.p 3))), (2, 1, (.c (.p 3)))])
 (.p x6 (.bd (.cons (.s 0 0) (.cons (.p 0) (.cons (.p 0) .nil))) [(0, 1, (.c (.s 5 435728179526))), (1, 1, (.c (.p 3))), (2, 1, (.c (.p 3)))])
 (.p x7 (.bd (.cons (.s 0 0) (.cons (.p 0) (.cons (.p 0) .nil))) [(0, 1, (.c (.s 7 32199642103180873))), (1, 1, (.c (.p 0))), (2, 1, (.c (.p 3)))])
 (.p x8 (.bd (.cons (.s 0 0) (.cons (.p 0) (.cons (.p 0) .nil))) [(0, 1, (.c (.s 12 35403880902673026285253520723))), (1, 1, (.c (.p 6))), (2, 1, (.c (.p 3)))])
 (.p x9 (.bd (.cons (.s 0 0) (.cons (.p 0) (.cons (.p 0) .nil))) [(0, 1, (.c (.s 12 35403880902673026255105974604))), (1, 1, (.c (.p 6))), (2, 1, (.c (.p 3)))])
 (.p x10 (.bd (.cons (.s 0 0) (.cons (.p 0) (.cons (.p 0) .nil))) [(0, 1, (.c (.s 5 521325933121))), (1, 1, (.c (.p 0))), (2, 1, (.c (.p 1)))])
 (.p x11 (.bd (.cons (.s 0 0) (.cons (.p 0) (.cons (.p 0) .nil))) [(0, 1, (.c (.s 6 113723913172051))), (1, 1, (.c (.p 0))), (2, 1, (.c (.p 2)))])
 (.p x12 (.bd (.cons (.s 0 0) (.cons (.p 0) (.cons (.p 0) .nil))) [(0, 1, (.c (.s 6 119225648511315))), (1, 1, (.c (.p 10))), (2, 1, (.c (.p 2)))])
 (.p x13 (.bd (.cons (.s 0 0) (.cons (.p 0) (.cons (.p 0) .nil))) [(0, 1, (.c (.s 5 461229747266))), (1, 1, (.c (.p 0))), (2, 1, (.c (.p 3)))])
 (.p x14 (.bd (.cons (.s 0 0) (.cons (.p 0) (.cons (.p 0) .nil))) [(0, 1, (.c (.s 7 32783474438860611))), (1, 1, (.c (.p 0))), (2, 1, (.c (.p 3)))])
 (.p x15 (.bd (.cons (.s 0 0) (.cons (.p 0) (.cons (.p 0) .nil))) [(0, 1, (.c (.s 6 110429656606029))), (1, 1, (.c (.p 0))), (2, 1, (.c (.p 3)))])
 (.p x16 (.bd (.cons (.s 0 0) (.cons (.p 0) (.cons (.p 0) .nil))) [(0, 1, (.c (.s 7 28542640894207309))), (1, 1, (.c (.p 0))), (2, 1, (.c (.p 0)))])
 (.cons .no (.ye x17) (.W (.bs (.cons (.s 0 0) (.cons (.p 0) (.cons (.p 0) (.cons (.s 0 0) (.cons (.p 0) (.cons (.p 0) (.cons (.s 0 0) (.cons (.p 0) (.cons (.p 0) (.cons (.s 0 0) (.cons (.p 0) (.cons (.p 0) (.cons (.s 0 0) (.cons (.p 0) (.cons (.p 0) (.cons (.s 0 0) (.cons (.p 0) (.cons (.p 0) (.cons (.s 0 0) (.cons (.p 0) (.cons (.p 0) (.cons (.s 0 0) (.cons (.p 0) (.cons (.p 0) (.cons (.s 0 0) (.cons (.p 0) (.cons (.p 0) (.cons (.s 0 0) (.cons (.p 0) (.cons (.p 0) (.cons (.s 0 0) (.cons (.p 0) (.cons (.p 0) (.cons (.s 0 0) (.cons (.p 0) (.cons (.p 0) (.cons (.s 0 0) (.cons (.p 0) (.cons (.p 0) (.cons (.s 0 0) (.cons (.p 0) (.cons (.p 0) (.cons (.s 0 0) (.cons (.p 0) (.cons (.p 0) (.cons (.s 0 0) (.cons (.p 0) (.cons (.p 0) .nil)))))))))))))))))))))))))))))))))))))))))))))))) 16 [(0, 3, (.t x1)), (3, 3, (.t x2)), (6, 3, (.t x3)), (9, 3, (.t x4)), (12, 3, (.t x5)), (15, 3, (.t x6)), (18, 3, (.t x7)), (21, 3, (.t x8)), (24, 3, (.t x9)), (27, 3, (.t x10)), (30, 3, (.t x11)), (33, 3, (.t x12)), (36, 3, (.t x13)), (39, 3, (.t x14)), (42, 3, (.t x15)), (45, 3, (.t x16))]))
 (.m x0 x17
 .nil)))))))))))))))))))
 .ret))
def a69 : AF := .fn (ps16.take 18) b69 (.one x0)
def b70 : ACode := (.seq (.ops (.p x6 (.mv (.c (.p 0)))
 .nil))
 (.seq (.ops (.m x8 x0
 (.m x9 x1
 (.s x10 63 [(.t x8), (.t x9)]
 (.m x7 x10
 .nil)))))
 (.seq (.seq (.ops (.m x11 x7
 (.p x12 (.bin .eql (.t x11) (.c (.p 0)))
 (.m x13 x12
 (.cons (.ye x13 false) (.ye x14) (.P (.mv (.t x0)))
 (.cons (.ye x13 false) (.ye x15) (.P (.mv (.t x2)))
 (.cons (.ye x13 false) (.ye x16) (.S 86 [(.t x14), (.t x15)])
 (.cons (.ye x13 false) (.ye x17) (.P (.nt (.t x16)))
 (.p x18 (.pick (.t x13) (.c (.b true)) (.t x17))
 .nil)))))))))
 (.cond (.t x18) (.seq (.ops (.p x6 (.mv (.c (.p 1)))
 .nil))
 .ret)
 .skip))
 (.seq (.ops (.m x19 x0
 (.p x20 (.nck (.t x19))
 (.p x21 (.fa (.t x20) 0)
 (.l x22 (.t x21)
 (.m x23 x7
 (.p x24 (.bin .add (.t x23) (.c (.p 1)))
 (.m x25 x2
 (.p x26 (.ia (.t x22) (.t x24) 1)
 (.cons .no .no (.W (.st (.t x26) 1 (.t x25)))
 .nil))))))))))
 (.seq (.ops (.p x6 (.mv (.c (.p 0)))
 .nil))
 .ret)))))
def a70 : AF := .fn (ps16.take 27) b70 (.one x6)
def b71 : ACode := (.seq (.ops (.p x2 (.mv (.c (.p 0)))
 .nil))
 (.seq (.ops (.m x6 x0
 (.s x7 81 [(.t x6)]
 (.m x5 x7
 (.p x8 (.ex (.t x5) 0)
 (.p x9 (.ex (.t x5) 1)
 (.m x3 x8
 (.m x4 x9
 .nil))))))))
 (.seq (.ops (.m x10 x3
 (.m x2 x10
 .nil)))
 .ret)))
def a71 : AF := .fn (ps16.take 11) b71 (.one x2)
def b72 : ACode := (.seq (.ops (.p x8 (.mv (.c (.p 0)))
 .nil))
 (.seq (.ops (.m x12 x0
 (.m x13 x1
 (.m x14 x2
 (.s x15 64 [(.t x12), (.t x13), (.t x14)]
 (.m x11 x15
 (.p x16 (.ex (.t x11) 0)
 (.p x17 (.ex (.t x11) 1)
 (.m x9 x16
 (.m x10 x17
 .nil))))))))))
 (.seq (.seq (.ops (.m x18 x10
 (.p x19 (.bin .neq (.t x18) (.c (.p 0)))
 .nil)))
 (.cond (.t x19) (.seq (.ops (.m x20 x10
 (.m x8 x20
 .nil)))
 .ret)
 .skip))
 (.seq (.seq (.ops (.m x21 x0
 (.m x22 x1
 (.s x23 38 [(.t x21), (.t x22)]
 .nil))))
 (.blk 0 (.seq (.ops (.p x25 (.bin .eql (.t x23) (.c (.p 0)))
 (.m x24 x25
 .nil)))
 (.cond (.t x24) (.seq (.ops (.m x26 x0
 (.m x27 x3
 (.s x28 24 [(.t x26), (.t x27)]
 (.p x29 (.nt (.t x28))
 .nil)))))
 (.cond (.t x29) (.seq (.ops (.p x8 (.mv (.c (.p 6)))
 .nil))
 .ret)
 .skip))
 (.seq (.ops (.p x31 (.bin .eql (.t x23) (.c (.p 2)))
 (.m x30 x31
 .nil)))
 (.cond (.t x30) (.seq (.ops (.m x32 x3
 (.p x33 (.bin .lss (.t x32) (.c (.p 0)))
 (.m x34 x33
 (.cons (.ye x34 false) (.ye x35) (.P (.mv (.t x3)))
 (.cons (.ye x34 false) (.ye x36) (.P (.bin .gtr (.t x35) (.c (.p 255))))
 (.p x37 (.pick (.t x34) (.c (.b true)) (.t x36))
 .nil)))))))
 (.cond (.t x37) (.seq (.ops (.p x8 (.mv (.c (.p 6)))
 .nil))
 .ret)
 .skip))
 .skip))))))
 (.seq (.ops (.m x38 x0
 (.p x39 (.nck (.t x38))
 (.p x40 (.fa (.t x39) 0)
 (.l x41 (.t x40)
 (.m x42 x9
 (.m x43 x3
 (.p x44 (.ia (.t x41) (.t x42) 1)
 (.cons .no .no (.W (.st (.t x44) 1 (.t x43)))
 .nil)))))))))
 (.seq (.ops (.p x8 (.mv (.c (.p 0)))
 .nil))
 .ret))))))
def a72 : AF := .fn (ps16.take 45) b72 (.one x8)
def b73 : ACode := (.seq (.ops (.p x6 (.mv (.c (.p 0)))
 (.p x7 (.mv (.c (.p 0)))
 .nil)))
 (.seq (.ops (.m x8 x0
 (.m x9 x0
 (.s x10 30 [(.t x9), (.c (.p 9))]
 (.m x11 x1
 (.m x12 x2
 (.cons .no (.ye x13) (.W (.bs (.cons (.p 0) (.cons (.p 0) .nil)) 2 [(0, 1, (.t x11)), (1, 1, (.t x12))]))
 (.s x14 82 [(.t x8), (.t x10), (.c (.p 0)), (.t x13)]
 (.p x15 (.ex (.t x14) 0)
 (.p x16 (.ex (.t x14) 1)
 (.m x6 x15
 (.m x7 x16
 .nil))))))))))))
 .ret))
def a73 : AF := .fn (ps16.take 17) b73 (.many [(.t x6), (.t x7)])
def b74 : ACode := (.seq (.ops (.p x0 (.mv (.c .ns))
 .nil))
 (.seq (.ops (.cons .no (.ye x1) (.W (.bs (.cons (.s 0 0) (.cons (.s 0 0) .nil)) 2 [(0, 1, (.c (.s 6 127970252055119))), (1, 1, (.c (.s 22 42800671780842534842919575577222457532481965906665533)))]))
 (.cons .no (.ye x2) (.W (.bs (.cons (.s 0 0) (.cons (.s 0 0) .nil)) 2 [(0, 1, (.c (.s 6 127970252055119))), (1, 1, (.c (.s 24 1524851443339534642608615239123691530347823101984504823101)))]))
 (.cons .no (.ye x3) (.W (.bs (.cons (.s 0 0) (.cons (.s 0 0) .nil)) 2 [(0, 1, (.c (.s 6 127970252055119))), (1, 1, (.c (.s 21 90893937606265471021071829546266104261390880566371)))]))
 (.cons .no (.ye x4) (.W (.bs (.cons (.s 0 0) (.cons (.s 0 0) .nil)) 2 [(0, 1, (.c (.s 6 127970252055119))), (1, 1, (.c (.s 18 9444002911631910921438295930413718583538537)))]))
 (.cons .no (.ye x5) (.W (.bs (.cons (.s 0 0) (.cons (.s 0 0) .nil)) 2 [(0, 1, (.c (.s 6 127970252055119))), (1, 1, (.c (.s 30 700188188687665034662976624680749391000193319402260426017253435490201454)))]))
 (.cons .no (.ye x6) (.W (.bs (.cons (.s 0 0) (.cons (.s 0 0) .nil)) 2 [(0, 1, (.c (.s 6 127970252055119))), (1, 1, (.c (.s 33 11747208482261712822188246608400825380681719188697311306787067122190426660945278)))]))
 (.cons .no (.ye x7) (.W (.bs (.cons (.s 0 0) (.cons (.s 0 0) .nil)) 2 [(0, 1, (.c (.s 6 127970252055119))), (1, 1, (.c (.s 14 2077393818580972268822559896989561)))]))
 (.cons .no (.ye x8) (.W (.bs (.cons (.s 0 0) (.cons (.s 0 0) .nil)) 2 [(0, 1, (.c (.s 6 127970252055119))), (1, 1, (.c (.s 28 6549193508153875349824152747731844186283632818426600789423236017769)))]))
 (.cons .no (.ye x9) (.W (.bs (.cons (.s 0 0) (.cons (.s 0 0) .nil)) 2 [(0, 1, (.c (.s 6 127970252055119))), (1, 1, (.c (.s 35 471948769861229784659140866682315950021428862228919738928412344145824665636227477097)))]))
 (.cons .no (.ye x10) (.W (.bs (.cons (.s 0 0) (.cons (.s 0 0) .nil)) 2 [(0, 1, (.c (.s 6 127970252055119))), (1, 1, (.c (.s 29 1676593949463531419856493642161647751026970710740912595151958179013986)))]))
 (.cons .no (.ye x11) (.W (.bs (.cons (.s 0 0) (.cons (.s 0 0) .nil)) 2 [(0, 1, (.c (.s 6 127970252055119))), (1, 1, (.c (.s 26 99938990332292436727205511567738324609188359191278653629687152)))]))
 (.cons .no (.ye x12) (.W (.bs (.cons (.s 0 0) (.cons (.s 0 0) .nil)) 2 [(0, 1, (.c (.s 6 127970252055119))), (1, 1, (.c (.s 34 1843664769733968995987415834814484987302776076755869312291547828150478960791283056)))]))
 (.cons .no (.ye x13) (.W (.bs (.cons (.s 0 0) (.cons (.s 0 0) .nil)) 2 [(0, 1, (.c (.s 6 127970252055119))), (1, 1, (.c (.s 20 355032665702991556114400178190226336605591791731)))]))
 (.cons .no (.ye x14) (.W (.bs (.cons (.s 0 0) (.cons (.s 0 0) .nil)) 2 [(0, 1, (.c (.s 6 127970252055119))), (1, 1, (.c (.s 24 1524949469177353700929144996672791476882570049926552777317)))]))
 (.cons .no (.ye x15) (.W (.bs (.cons (.s 0 0) (.cons (.s 0 0) .nil)) 2 [(0, 1, (.c (.s 6 127970252055119))), (1, 1, (.c (.s 36 120826532920384771132815397887090737024360882602617688512262403776013851112203796967268)))]))
 (.cons .no (.ye x16) (.W (.bs (.cons (.s 0 0) (.cons (.s 0 0) .nil)) 2 [(0, 1, (.c (.s 6 127970252055119))), (1, 1, (.c (.s 29 1676910297714676421718097934986994401661235487456433612244737399682413)))]))
 (.cons .no (.ye x17) (.W (.bs (.cons (.s 0 0) (.cons (.s 0 0) .nil)) 2 [(0, 1, (.c (.s 5 495857003587))), (1, 1, (.c (.s 19 1387105985848271442119498250881042066510931310)))]))
 (.cons .no (.ye x18) (.W (.bs (.cons (.s 0 0) (.cons (.s 0 0) .nil)) 2 [(0, 1, (.c (.s 5 495857003587))), (1, 1, (.c (.s 22 23273238241106724113988523651486149337949724059592046)))]))
 (.cons .no (.ye x19) (.W (.bs (.cons (.s 0 0) (.cons (.s 0 0) .nil)) 2 [(0, 1, (.c (.s 5 495857003587))), (1, 1, (.c (.s 20 355032404366133760833660238318527829007303270766)))]))
 (.cons .no (.ye x20) (.W (.bs (.cons (.s 0 0) (.cons (.s 0 0) .nil)) 2 [(0, 1, (.c (.s 5 495857003587))), (1, 1, (.c (.s 26 99939014852221090581427245301290759014136830980810939156166003)))]))
 (.cons .no (.ye x21) (.W (.bs (.cons (.s 0 0) (.cons (.s 0 0) .nil)) 2 [(0, 1, (.c (.s 4 1702195796))), (1, 1, (.c (.s 18 8838297978709764838081051192517781626316393)))]))
 (.cons .no (.ye x22) (.W (.bs (.cons (.s 0 0) (.cons (.s 0 0) .nil)) 2 [(0, 1, (.c (.s 4 1702195796))), (1, 1, (.c (.s 15 562906457958761314206075868605212265)))]))
 (.cons .no (.ye x23) (.W (.bs (.cons (.s 0 0) (.cons (.s 0 0) .nil)) 2 [(0, 1, (.c (.s 4 1702195796))), (1, 1, (.c (.s 29 2735320736744965744253891662377388900621288566778691145146692506248809)))]))
 (.cons .no (.ye x24) (.W (.bs (.cons (.s 0 0) (.cons (.s 0 0) .nil)) 2 [(0, 1, (.c (.s 4 1702195796))), (1, 1, (.c (.s 29 2735320736744965840034862966495445237366615301575912744211900763891305)))]))
 (.cons .no (.ye x25) (.W (.bs (.cons (.s 0 0) (.cons (.s 0 0) .nil)) 2 [(0, 1, (.c (.s 4 1702195796))), (1, 1, (.c (.s 15 526803611440048506145539950878420577)))]))
 (.cons .no (.ye x26) (.W (.bs (.cons (.s 0 0) (.cons (.s 0 0) .nil)) 2 [(0, 1, (.c (.s 4 1702195796))), (1, 1, (.c (.s 11 123822320615111110159921775)))]))
 (.cons .no (.ye x27) (.W (.bs (.cons (.s 0 0) (.cons (.s 0 0) .nil)) 2 [(0, 1, (.c (.s 4 1702195796))), (1, 1, (.c (.s 10 479088199974094059630446)))]))
 (.cons .no (.ye x28) (.W (.bs (.cons (.s 0 0) (.cons (.s 0 0) .nil)) 2 [(0, 1, (.c (.s 5 435728179526))), (1, 1, (.c (.s 14 2198853351401411383617492551493225)))]))
 (.cons .no (.ye x29) (.W (.bs (.cons (.s 0 0) (.cons (.s 0 0) .nil)) 2 [(0, 1, (.c (.s 5 435728179526))), (1, 1, (.c (.s 19 2262604282549699798548749105284549871759943273)))]))
 (.cons .no (.ye x30) (.W (.bs (.cons (.s 0 0) (.cons (.s 0 0) .nil)) 2 [(0, 1, (.c (.s 5 435728179526))), (1, 1, (.c (.s 29 2735320736744965840034862966495442548017977763673015121317887642723945)))]))
 (.cons .no (.ye x31) (.W (.bs (.cons (.s 0 0) (.cons (.s 0 0) .nil)) 2 [(0, 1, (.c (.s 5 435728179526))), (1, 1, (.c (.s 29 2735320736744965744253891662377391589969926104681588768040705627416169)))]))
 (.cons .no (.ye x32) (.W (.bs (.cons (.s 0 0) (.cons (.s 0 0) .nil)) 2 [(0, 1, (.c (.s 5 435728179526))), (1, 1, (.c (.s 12 31698514077468444200939056737)))]))
 (.cons .no (.ye x33) (.W (.bs (.cons (.s 0 0) (.cons (.s 0 0) .nil)) 2 [(0, 1, (.c (.s 5 435728179526))), (1, 1, (.c (.s 14 2057826607187689477131015433122415)))]))
 (.cons .no (.ye x34) (.W (.bs (.cons (.s 0 0) (.cons (.s 0 0) .nil)) 2 [(0, 1, (.c (.s 5 435728179526))), (1, 1, (.c (.s 9 1871584106042067545966)))]))
 (.cons .no (.ye x35) (.W (.bs (.cons (.s 0 0) (.cons (.s 0 0) .nil)) 2 [(0, 1, (.c (.s 7 32199642103180873))), (1, 1, (.c (.s 39 3728461360753916641151978914434029637405966266152243604092027806694305996905674229042650161195)))]))
 (.cons .no (.ye x36) (.W (.bs (.cons (.s 0 0) (.cons (.s 0 0) .nil)) 2 [(0, 1, (.c (.s 7 32199642103180873))), (1, 1, (.c (.s 39 3728461360753916641151978914434029637405966266152243604432310173615244460369048836474418372653)))]))
 (.cons .no (.ye x37) (.W (.bs (.cons (.s 0 0) (.cons (.s 0 0) .nil)) 2 [(0, 1, (.c (.s 7 32199642103180873))), (1, 1, (.c (.s 39 3728461360753916641151978914434029637405966266152243604772592540536182923832423443906186584106)))]))
 (.cons .no (.ye x38) (.W (.bs (.cons (.s 0 0) (.cons (.s 0 0) .nil)) 2 [(0, 1, (.c (.s 7 32199642103180873))), (1, 1, (.c (.s 40 954486108353002660134906602095111587175927364134974362908895976309023075147724301142516427665199)))]))
 (.cons .no (.ye x39) (.W (.bs (.cons (.s 0 0) (.cons (.s 0 0) .nil)) 2 [(0, 1, (.c (.s 7 32199642103180873))), (1, 1, (.c (.s 39 3728461360753916641151978914434029637405966266152243605453157274378059850759172658769723007013)))]))
 (.cons .no (.ye x40) (.W (.bs (.cons (.s 0 0) (.cons (.s 0 0) .nil)) 2 [(0, 1, (.c (.s 7 32199642103180873))), (1, 1, (.c (.s 39 3728461360753916641151978914434029637405966266152243605793439641298998314222547266201491218492)))]))
 (.cons .no (.ye x41) (.W (.bs (.cons (.s 0 0) (.cons (.s 0 0) .nil)) 2 [(0, 1, (.c (.s 7 32199642103180873))), (1, 1, (.c (.s 25 636817447855768026781345261959034954840382097793301447843901)))]))
 (.cons .no (.ye x42) (.W (.bs (.cons (.s 0 0) (.cons (.s 0 0) .nil)) 2 [(0, 1, (.c (.s 7 32199642103180873))), (1, 1, (.c (.s 13 8114819602690222704070390325310)))]))
 (.cons .no (.ye x43) (.W (.bs (.cons (.s 0 0) (.cons (.s 0 0) .nil)) 2 [(0, 1, (.c (.s 7 32199642103180873))), (1, 1, (.c (.s 20 664727905428120679721580571233937342577307041084)))]))
 (.cons .no (.ye x44) (.W (.bs (.cons (.s 0 0) (.cons (.s 0 0) .nil)) 2 [(0, 1, (.c (.s 7 32199642103180873))), (1, 1, (.c (.s 20 664727905428160673359361906182153715358732664126)))]))
 (.cons .no (.ye x45) (.W (.bs (.cons (.s 0 0) (.cons (.s 0 0) .nil)) 2 [(0, 1, (.c (.s 7 32199642103180873))), (1, 1, (.c (.s 17 34852884806489577565004967676562473706862)))]))
 (.cons .no (.ye x46) (.W (.bs (.cons (.s 0 0) (.cons (.s 0 0) .nil)) 2 [(0, 1, (.c (.s 7 32199642103180873))), (1, 1, (.c (.s 36 181430069409217182195701713504965677811884460677377361688647715603266453406017106698849)))]))
 (.cons .no (.ye x47) (.W (.bs (.cons (.s 0 0) (.cons (.s 0 0) .nil)) 2 [(0, 1, (.c (.s 7 32199642103180873))), (1, 1, (.c (.s 28 9839446124684800767833196150424227062577632944786243778072299463021)))]))
 (.cons .no (.ye x48) (.W (.bs (.cons (.s 0 0) (.cons (.s 0 0) .nil)) 2 [(0, 1, (.c (.s 7 32199642103180873))), (1, 1, (.c (.s 72 90035895797763402859175539633606400367191351888666396956868187338934546459767828520058466105696272512938645316090190710910364771953743427780902708953640385314947978798918004)))]))
 (.cons .no (.ye x49) (.W (.bs (.cons (.s 0 0) (.cons (.s 0 0) .nil)) 2 [(0, 1, (.c (.s 7 32199642103180873))), (1, 1, (.c (.s 73 23049189324227431131948938146203283213122730446293773559589302540486669658869354559072294897345959934513085078866302251906642463164561065230130911615382761091505210103164465012)))]))
 (.cons .no (.ye x50) (.W (.bs (.cons (.s 0 0) (.cons (.s 0 0) .nil)) 2 [(0, 1, (.c (.s 5 521325933121))), (1, 1, (.c (.s 41 257164431260246531721076062521463698342249100789554765802102844474792591055084750988505502881313889)))]))
 (.cons .no (.ye x51) (.W (.bs (.cons (.s 0 0) (.cons (.s 0 0) .nil)) 2 [(0, 1, (.c (.s 5 521325933121))), (1, 1, (.c (.s 48 18530650188745469012980449955629190211330332528606947157112933069548403649855511268469885991414635050337065521280097)))]))
 (.cons .no (.ye x52) (.W (.bs (.cons (.s 0 0) (.cons (.s 0 0) .nil)) 2 [(0, 1, (.c (.s 5 521325933121))), (1, 1, (.c (.s 20 355076831631958958559450016507274120664991820147)))]))
 (.cons .no (.ye x53) (.W (.bs (.cons (.s 0 0) (.cons (.s 0 0) .nil)) 2 [(0, 1, (.c (.s 5 521325933121))), (1, 1, (.c (.s 54 4036043586816077186872511182506860542926542750152279649757572950881276704656345450344218052510489408539083810875291242672607096676)))]))
 (.cons .no (.ye x54) (.W (.bs (.cons (.s 0 0) (.cons (.s 0 0) .nil)) 2 [(0, 1, (.c (.s 6 113723913172051))), (1, 1, (.c (.s 41 257164431260246531721076062521463698342249100789554765802102844474792591055084750988505502881313889)))]))
 (.cons .no (.ye x55) (.W (.bs (.cons (.s 0 0) (.cons (.s 0 0) .nil)) 2 [(0, 1, (.c (.s 6 113723913172051))), (1, 1, (.c (.s 48 18530650188745469012980449955629190211330332528606947157112933069548403649855511268469885991414635050337065521280097)))]))
 (.cons .no (.ye x56) (.W (.bs (.cons (.s 0 0) (.cons (.s 0 0) .nil)) 2 [(0, 1, (.c (.s 6 113723913172051))), (1, 1, (.c (.s 20 355076831631958958559450016507274120664991820147)))]))
 (.cons .no (.ye x57) (.W (.bs (.cons (.s 0 0) (.cons (.s 0 0) .nil)) 2 [(0, 1, (.c (.s 6 113723913172051))), (1, 1, (.c (.s 40 862999642271819323274589677259166448877377604105355769616899559536065642245306073140884946493484)))]))
 (.cons .no (.ye x58) (.W (.bs (.cons (.s 0 0) (.cons (.s 0 0) .nil)) 2 [(0, 1, (.c (.s 6 113723913172051))), (1, 1, (.c (.s 19 1387367322706066722859438122579549664497049661)))]))
 (.cons .no (.ye x59) (.W (.bs (.cons (.s 0 0) (.cons (.s 0 0) .nil)) 2 [(0, 1, (.c (.s 6 119225648511315))), (1, 1, (.c (.s 14 2335031358103477762221823046656061)))]))
 (.cons .no (.ye x60) (.W (.bs (.cons (.s 0 0) (.cons (.s 0 0) .nil)) 2 [(0, 1, (.c (.s 5 461229747266))), (1, 1, (.c (.s 45 1059181783303900344468639747475611050046460860396702168814056941520275704647580211996655782228759024501547382)))]))
 (.cons .no (.ye x61) (.W (.bs (.cons (.s 0 0) (.cons (.s 0 0) .nil)) 2 [(0, 1, (.c (.s 5 461229747266))), (1, 1, (.c (.s 48 17770121561754729721624774269583781318616283890421317973861897239966005180542710741390374532995175229972240315212150)))]))
 (.cons .no (.ye x62) (.W (.bs (.cons (.s 0 0) (.cons (.s 0 0) .nil)) 2 [(0, 1, (.c (.s 5 461229747266))), (1, 1, (.c (.s 57 83917026459749729905346113780999580401851251481325983724940425392109717634941873314895943706181505818759859341910064092027099936080028022)))]))
 (.cons .no (.ye x63) (.W (.bs (.cons (.s 0 0) (.cons (.s 0 0) .nil)) 2 [(0, 1, (.c (.s 5 461229747266))), (1, 1, (.c (.s 46 219345241612553992384353329403473560245181502819522070570100232604617438038129771708309681113319580259901335671)))]))
 (.cons .no (.ye x64) (.W (.bs (.cons (.s 0 0) (.cons (.s 0 0) .nil)) 2 [(0, 1, (.c (.s 5 461229747266))), (1, 1, (.c (.s 79 8240440436020647283674046635445878786317186896749519925159268232151510570756391522050794407918694747904852077730520087234812722099790108361805851821820886847732725447461627019377172009938533)))]))
 (.cons .no (.ye x65) (.W (.bs (.cons (.s 0 0) (.cons (.s 0 0) .nil)) 2 [(0, 1, (.c (.s 5 461229747266))), (1, 1, (.c (.s 75 1918627050710061747973988101737536658853467189419320482379947159376261640987311349049811379390057702489784622772389126942579661360599107424643361071952596291869027649572730573121129)))]))
 (.cons .no (.ye x66) (.W (.bs (.cons (.s 0 0) (.cons (.s 0 0) .nil)) 2 [(0, 1, (.c (.s 7 32783474438860611))), (1, 1, (.c (.s 22 23267426488502025445352854311018550993759068618646899)))]))
 (.cons .no (.ye x67) (.W (.bs (.cons (.s 0 0) (.cons (.s 0 0) .nil)) 2 [(0, 1, (.c (.s 7 32783474438860611))), (1, 1, (.c (.s 24 1524949843321772857640292056816108652250970511956513088882)))]))
 (.cons .no (.ye x68) (.W (.bs (.cons (.s 0 0) (.cons (.s 0 0) .nil)) 2 [(0, 1, (.c (.s 7 32783474438860611))), (1, 1, (.c (.s 24 1525045624293076975693939453505305546574949495676624201075)))]))
 (.cons .no (.ye x69) (.W (.bs (.cons (.s 0 0) (.cons (.s 0 0) .nil)) 2 [(0, 1, (.c (.s 7 32783474438860611))), (1, 1, (.c (.s 18 5418390732587785030274527465346432254370672)))]))
 (.cons .no (.ye x70) (.W (.bs (.cons (.s 0 0) (.cons (.s 0 0) .nil)) 2 [(0, 1, (.c (.s 7 32783474438860611))), (1, 1, (.c (.s 45 1104512821957198918639448282458137882431169302976545596175371368289403731783281012805088502247607777782228340)))]))
 (.cons .no (.ye x71) (.W (.bs (.cons (.s 0 0) (.cons (.s 0 0) .nil)) 2 [(0, 1, (.c (.s 7 32783474438860611))), (1, 1, (.c (.s 52 79588536534278016678932432046792023060627106863171829586998958506627988222934994168773852318616635652471162007907023631246708)))]))
 (.cons .no (.ye x72) (.W (.bs (.cons (.s 0 0) (.cons (.s 0 0) .nil)) 2 [(0, 1, (.c (.s 7 32783474438860611))), (1, 1, (.c (.s 47 72222917555112982345197386923452319624428483320221779467076662116638847644719087258035591941751669604514822120818)))]))
 (.cons .no (.ye x73) (.W (.bs (.cons (.s 0 0) (.cons (.s 0 0) .nil)) 2 [(0, 1, (.c (.s 7 32783474438860611))), (1, 1, (.c (.s 31 109904895017375824537504701023169942132773781220689752456609643130031858019)))]))
 (.cons .no (.ye x74) (.W (.bs (.cons (.s 0 0) (.cons (.s 0 0) .nil)) 2 [(0, 1, (.c (.s 7 28542640894207309))), (1, 1, (.c (.s 18 9968726645490903741326072654802368634578291)))]))
 (.cons .no (.ye x75) (.W (.bs (.cons (.s 0 0) (.cons (.s 0 0) .nil)) 2 [(0, 1, (.c (.s 7 28542640894207309))), (1, 1, (.c (.s 20 659130441953238098636483573648623813534755025505)))]))
 (.cons .no (.ye x76) (.W (.bs (.cons .ns (.cons .ns (.cons .ns (.cons .ns (.cons .ns (.cons .ns (.cons .ns (.cons .ns (.cons .ns (.cons .ns (.cons .ns (.cons .ns (.cons .ns (.cons .ns (.cons .ns (.cons .ns (.cons .ns (.cons .ns (.cons .ns (.cons .ns (.cons .ns (.cons .ns (.cons .ns (.cons .ns (.cons .ns (.cons .ns (.cons .ns (.cons .ns (.cons .ns (.cons .ns (.cons .ns (.cons .ns (.cons .ns (.cons .ns (.cons .ns (.cons .ns (.cons .ns (.cons .ns (.cons .ns (.cons .ns (.cons .ns (.cons .ns (.cons .ns (.cons .ns (.cons .ns (.cons .ns (.cons .ns (.cons .ns (.cons .ns (.cons .ns (.cons .ns (.cons .ns (.cons .ns (.cons .ns (.cons .ns (.cons .ns (.cons .ns (.cons .ns (.cons .ns (.cons .ns (.cons .ns (.cons .ns (.cons .ns (.cons .ns (.cons .ns (.cons .ns (.cons .ns (.cons .ns (.cons .ns (.cons .ns (.cons .ns (.cons .ns (.cons .ns (.cons .ns (.cons .ns .nil))))))))))))))))))))))))))))))))))))))))))))))))))))))))))))))))))))))))))) 75 [(0, 1, (.t x1)), (1, 1, (.t x2)), (2, 1, (.t x3)), (3, 1, (.t x4)), (4, 1, (.t x5)), (5, 1, (.t x6)), (6, 1, (.t x7)), (7, 1, (.t x8)), (8, 1, (.t x9)), (9, 1, (.t x10)), (10, 1, (.t x11)), (11, 1, (.t x12)), (12, 1, (.t x13)), (13, 1, (.t x14)), (14, 1, (.t x15)), (15, 1, (.t x16)), (16, 1, (.t x17)), (17, 1, (.t x18)), (18, 1, (.t x19)), (19, 1, (.t x20)), (20, 1, (.t x21)), (21, 1, (.t x22)), (22, 1, (.t x23)), (23, 1, (.t x24)), (24, 1, (.t x25)), (25, 1, (.t x26)), (26, 1, (.t x27)), (27, 1, (.t x28)), (28, 1, (.t x29)), (29, 1, (.t x30)), (30, 1, (.t x31)), (31, 1, (.t x32)), (32, 1, (.t x33)), (33, 1, (.t x34)), (34, 1, (.t x35)), (35, 1, (.t x36)), (36, 1, (.t x37)), (37, 1, (.t x38)), (38, 1, (.t x39)), (39, 1, (.t x40)), (40, 1, (.t x41)), (41, 1, (.t x42)), (42, 1, (.t x43)), (43, 1, (.t x44)), (44, 1, (.t x45)), (45, 1, (.t x46)), (46, 1, (.t x47)), (47, 1, (.t x48)), (48, 1, (.t x49)), (49, 1, (.t x50)), (50, 1, (.t x51)), (51, 1, (.t x52)), (52, 1, (.t x53)), (53, 1, (.t x54)), (54, 1, (.t x55)), (55, 1, (.t x56)), (56, 1, (.t x57)), (57, 1, (.t x58)), (58, 1, (.t x59)), (59, 1, (.t x60)), (60, 1, (.t x61)), (61, 1, (.t x62)), (62, 1, (.t x63)), (63, 1, (.t x64)), (64, 1, (.t x65)), (65, 1, (.t x66)), (66, 1, (.t x67)), (67, 1, (.t x68)), (68, 1, (.t x69)), (69, 1, (.t x70)), (70, 1, (.t x71)), (71, 1, (.t x72)), (72, 1, (.t x73)), (73, 1, (.t x74)), (74, 1, (.t x75))]))
 (.m x0 x76
 .nil))))))))))))))))))))))))))))))))))))))))))))))))))))))))))))))))))))))))))))))
 .ret))
def a74 : AF := .fn (ps16.take 77) b74 (.one x0)
def b75_0 : ACode := (.ops (.p x6 (.mv (.c (.p 0)))
 (.p x7 (.mv (.c (.p 0)))
 (.p x8 (.mv (.c (.s 0 0)))
 (.p x9 (.mv (.c (.p 0)))
 .nil)))))
def b75_1 : ACode := (.ops (.m x17 x0
 (.m x18 x1
 (.s x19 45 [(.t x17), (.t x18)]
 (.m x10 x19
 .nil)))))
def b75_2 : ACode := (.ops (.m x20 x10
 (.p x21 (.bin .eql (.t x20) (.c (.p 0)))
 .nil)))
def b75_3 : ACode := (.ops (.p x6 (.mv (.c (.p 0)))
 (.p x7 (.mv (.c (.p 0)))
 (.p x8 (.mv (.c (.s 0 0)))
 (.p x9 (.mv (.c (.p 24)))
 .nil)))))
def b75_4 : ACode := .ret
def b75_5 : ACode := .seq b75_3 b75_4
def b75_6 : ACode := .skip
def b75_7 : ACode := .cond (.t x21) b75_5 b75_6
def b75_8 : ACode := .seq b75_2 b75_7
def b75_9 : ACode := (.ops (.m x23 x2
 (.s x24 99 [(.t x23)]
 (.m x22 x24
 (.p x25 (.ex (.t x22) 0)
 (.p x26 (.ex (.t x22) 1)
 (.p x27 (.ex (.t x22) 2)
 (.cons .no (.ye x11) (.W (.al (.cons (.p 0) (.cons (.s 0 0) (.cons (.p 0) (.cons .ns (.cons .ns (.cons .ns .nil))))))))
 (.cons .no .no (.W (.st (.t x11) 6 (.t x25)))
 (.m x12 x26
 (.m x13 x27
 .nil)))))))))))
def b75_10 : ACode := (.ops (.m x28 x13
 (.p x29 (.bin .neq (.t x28) (.c (.p 0)))
 .nil)))
def b75_11 : ACode := (.ops (.m x30 x12
 (.m x31 x13
 (.p x6 (.mv (.c (.p 0)))
 (.m x7 x30
 (.p x8 (.mv (.c (.s 0 0)))
 (.m x9 x31
 .nil)))))))
def b75_12 : ACode := .ret
def b75_13 : ACode := .seq b75_11 b75_12
def b75_14 : ACode := .skip
def b75_15 : ACode := .cond (.t x29) b75_13 b75_14
def b75_16 : ACode := .seq b75_10 b75_15
def b75_17 : ACode := (.draw (.h .no (.ye x33) (.L (.l (.many (.t x11) 6)))
 (.h .no (.ye x34) (.P (.mv (.t x0)))
 (.h .no (.ye x35) (.P (.mv (.t x10)))
 (.c .no (.ye x36) (.S 77 [(.t x34), (.t x35)]) (.cons .no (.l (.many (.t x11) 6)) x33 .nil)
 (.c .no (.ye x37) (.S 100 [(.t x33), (.t x36)]) (.cons .no (.l (.many (.t x11) 6)) x33 .nil)
 (.h .no (.ye x32) (.P (.mv (.t x37)))
 (.h .no (.ye x38) (.P (.ex (.t x32) 0))
 (.h .no (.ye x39) (.P (.ex (.t x32) 1))
 (.h .no (.ye x40) (.P (.ex (.t x32) 2))
 (.z (.ye x14) (.al (.cons (.s 0 0) (.cons (.p 0) (.cons (.p 0) (.cons (.p 0) (.cons .ns (.cons .ns .nil))))))) (.cons .no (.l (.many (.t x11) 6)) x33 .nil)
 (.c .no .no (.W (.st (.t x14) 6 (.t x38))) .nil
 (.h .no (.ye x15) (.P (.mv (.t x39)))
 (.h .no (.ye x13) (.P (.mv (.t x40)))
 .nil))))))))))))))
def b75_18 : ACode := (.ops (.m x41 x13
 (.p x42 (.bin .neq (.t x41) (.c (.p 0)))
 .nil)))
def b75_19 : ACode := (.ops (.m x43 x15
 (.m x44 x13
 (.p x6 (.mv (.c (.p 0)))
 (.p x7 (.mv (.c (.p 0)))
 (.m x8 x43
 (.m x9 x44
 .nil)))))))
def b75_20 : ACode := .ret
def b75_21 : ACode := .seq b75_19 b75_20
def b75_22 : ACode := .skip
def b75_23 : ACode := .cond (.t x42) b75_21 b75_22
def b75_24 : ACode := .seq b75_18 b75_23
def b75_25 : ACode := (.ops (.m x46 x0
 (.m x47 x10
 (.cons .no (.ye x48) (.L (.l (.many (.t x14) 6)))
 (.s x49 101 [(.t x46), (.t x47), (.t x48)]
 (.m x45 x49
 (.p x50 (.ex (.t x45) 0)
 (.p x51 (.ex (.t x45) 1)
 (.m x16 x50
 (.m x13 x51
 .nil))))))))))
def b75_26 : ACode := (.ops (.m x52 x13
 (.p x53 (.bin .neq (.t x52) (.c (.p 0)))
 .nil)))
def b75_27 : ACode := (.ops (.m x54 x13
 (.p x6 (.mv (.c (.p 0)))
 (.p x7 (.mv (.c (.p 0)))
 (.p x8 (.mv (.c (.s 0 0)))
 (.m x9 x54
 .nil))))))
def b75_28 : ACode := .ret
def b75_29 : ACode := .seq b75_27 b75_28
def b75_30 : ACode := .skip
def b75_31 : ACode := .cond (.t x53) b75_29 b75_30
def b75_32 : ACode := .seq b75_26 b75_31
def b75_33 : ACode := (.ops (.m x55 x16
 (.m x6 x55
 (.p x7 (.mv (.c (.p 0)))
 (.p x8 (.mv (.c (.s 0 0)))
 (.p x9 (.mv (.c (.p 0)))
 .nil))))))
def b75_34 : ACode := .ret
def b75_35 : ACode := .seq b75_33 b75_34
def b75_36 : ACode := .seq b75_32 b75_35
def b75_37 : ACode := .seq b75_25 b75_36
def b75_38 : ACode := .seq b75_24 b75_37
def b75_39 : ACode := .seq b75_17 b75_38
def b75_40 : ACode := .seq b75_16 b75_39
def b75_41 : ACode := .seq b75_9 b75_40
def b75_42 : ACode := .seq b75_8 b75_41
def b75_43 : ACode := .seq b75_1 b75_42
def b75_44 : ACode := .seq b75_0 b75_43
def b75 : ACode := b75_44
def a75 : AF := .fn (ps16.take 56) b75 (.many [(.t x6), (.t x7), (.t x8), (.t x9)])
def b76 : ACode := (.seq (.ops (.p x6 (.mv (.c (.b false)))
 .nil))
 (.seq (.seq (.ops (.m x10 x0
 (.cons .no (.ye x11) (.W (.rg (.t x10)))
 .nil)))
 (.blk 0 (.loop (.seq (.ops (.cons .no (.ye x12) (.W (.nxs (.t x11)))
 (.p x13 (.ex (.t x12) 0)
 .nil)))
 (.seq (.cond (.t x13) .skip
 (.exit 0))
 (.blk 1 (.seq (.ops (.p x14 (.ex (.t x12) 2)
 (.m x8 x14
 .nil)))
 (.seq (.ops (.m x15 x8
 (.p x16 (.bin .geq (.t x15) (.c (.w .i32 97)))
 (.m x17 x16
 (.cons (.ye x17 true) (.ye x18) (.P (.mv (.t x8)))
 (.cons (.ye x17 true) (.ye x19) (.P (.bin .leq (.t x18) (.c (.w .i32 122))))
 (.p x20 (.pick (.t x17) (.t x19) (.c (.b false)))
 (.m x21 x20
 (.cons (.ye x21 false) (.ye x22) (.P (.mv (.t x8)))
 (.cons (.ye x21 false) (.ye x23) (.P (.bin .geq (.t x22) (.c (.w .i32 65))))
 (.cons (.ye x21 false) (.ye x24) (.P (.mv (.t x23)))
 (.cons (.ye x24 true) (.ye x25) (.P (.mv (.t x8)))
 (.cons (.ye x24 true) (.ye x26) (.P (.bin .leq (.t x25) (.c (.w .i32 90))))
 (.cons (.ye x21 false) (.ye x27) (.P (.pick (.t x24) (.t x26) (.c (.b false))))
 (.p x28 (.pick (.t x21) (.c (.b true)) (.t x27))
 (.m x9 x28
 .nil))))))))))))))))
 (.seq (.ops (.m x29 x9
 (.p x30 (.nt (.t x29))
 (.m x31 x30
 (.cons (.ye x31 true) (.ye x32) (.P (.mv (.t x8)))
 (.cons (.ye x31 true) (.ye x33) (.P (.bin .lss (.t x32) (.c (.w .i32 48))))
 (.cons (.ye x31 true) (.ye x34) (.P (.mv (.t x33)))
 (.cons (.ye x34 false) (.ye x35) (.P (.mv (.t x8)))
 (.cons (.ye x34 false) (.ye x36) (.P (.bin .gtr (.t x35) (.c (.w .i32 57))))
 (.cons (.ye x31 true) (.ye x37) (.P (.pick (.t x34) (.c (.b true)) (.t x36)))
 (.p x38 (.pick (.t x31) (.t x37) (.c (.b false)))
 .nil)))))))))))
 (.cond (.t x38) (.seq (.ops (.p x6 (.mv (.c (.b false)))
 .nil))
 .ret)
 .skip))))))))))
 (.seq (.ops (.m x39 x0
 (.p x40 (.bin .neq (.t x39) (.c (.s 0 0)))
 (.m x41 x40
 (.cons (.ye x41 true) (.ye x42) (.P (.mv (.t x0)))
 (.cons (.ye x41 true) (.ye x43) (.P (.lnS (.t x42)))
 (.cons (.ye x41 true) (.ye x44) (.P (.bin .leq (.t x43) (.c (.p 24))))
 (.p x45 (.pick (.t x41) (.t x44) (.c (.b false)))
 (.m x46 x45
 (.cons (.ye x46 true) (.ye x47) (.P (.mv (.t x0)))
 (.cons (.ye x46 true) (.ye x48) (.P (.ixs (.t x47) (.c (.p 0))))
 (.cons (.ye x46 true) (.ye x49) (.P (.mv (.t x1)))
 (.cons (.ye x46 true) (.ye x50) (.P (.bin .geq (.t x48) (.t x49)))
 (.p x51 (.pick (.t x46) (.t x50) (.c (.b false)))
 (.m x52 x51
 (.cons (.ye x52 true) (.ye x53) (.P (.mv (.t x0)))
 (.cons (.ye x52 true) (.ye x54) (.P (.ixs (.t x53) (.c (.p 0))))
 (.cons (.ye x52 true) (.ye x55) (.P (.mv (.t x2)))
 (.cons (.ye x52 true) (.ye x56) (.P (.bin .leq (.t x54) (.t x55)))
 (.p x57 (.pick (.t x52) (.t x56) (.c (.b false)))
 (.m x6 x57
 .nil)))))))))))))))))))))
 .ret)))
def a76 : AF := .fn (ps16.take 58) b76 (.one x6)
def b77 : ACode := (.seq (.ops (.p x4 (.mv (.c .ns))
 .nil))
 (.seq (.ops (.p x5 (.mv (.c .ns))
 .nil))
 (.seq (.seq (.ops (.m x12 x0
 (.p x13 (.nck (.t x12))
 (.p x14 (.fa (.t x13) 0)
 (.l x15 (.t x14)
 (.s x16 102 [(.t x15)]
 (.m x6 x16
 .nil)))))))
 (.blk 0 (.loop (.seq (.seq (.ops (.m x17 x6
 (.p x18 (.bin .gtr (.t x17) (.c (.p 0)))
 (.m x19 x18
 (.cons (.ye x19 true) (.ye x20) (.P (.mv (.t x0)))
 (.cons (.ye x19 true) (.ye x21) (.P (.mv (.t x1)))
 (.cons (.ye x19 true) (.ye x22) (.S 67 [(.t x20), (.t x21)])
 (.p x23 (.pick (.t x19) (.t x22) (.c (.b false)))
 .nil))))))))
 (.cond (.t x23) .skip
 (.exit 0)))
 (.seq (.blk 1 (.seq (.ops (.p x7 (.mv (.c .ns))
 .nil))
 (.seq (.ops (.m x26 x0
 (.m x27 x1
 (.s x28 51 [(.t x26), (.t x27), (.c (.p 3))]
 (.m x8 x28
 .nil)))))
 (.seq (.seq (.ops (.m x29 x0
 (.p x30 (.nck (.t x29))
 (.p x31 (.fa (.t x30) 0)
 (.l x32 (.t x31)
 (.m x33 x8
 (.s x34 27 [(.t x32), (.t x33)]
 (.p x35 (.mv (.c (.p 0)))
 .nil))))))))
 (.blk 2 (.loop (.seq (.ops (.p x36 (.bin .lss (.t x35) (.t x34))
 .nil))
 (.seq (.cond (.t x36) .skip
 (.exit 2))
 (.seq (.blk 3 (.seq (.ops (.m x37 x35
 (.m x9 x37
 .nil)))
 (.seq (.ops (.m x39 x0
 (.m x40 x0
 (.m x41 x8
 (.m x42 x9
 (.s x43 51 [(.t x40), (.t x41), (.t x42)]
 (.s x44 33 [(.t x39), (.t x43)]
 (.m x38 x44
 (.p x45 (.ex (.t x38) 0)
 (.p x46 (.ex (.t x38) 1)
 (.m x10 x45
 (.m x11 x46
 .nil))))))))))))
 (.ops (.m x47 x7
 (.m x48 x10
 (.cons .no (.ye x49) (.W (.bs (.cons (.s 0 0) .nil) 1 [(0, 1, (.t x48))]))
 (.cons .no (.ye x50) (.W (.app 1 16 (.t x47) (.t x49)))
 (.m x7 x50
 .nil)))))))))
 (.ops (.p x51 (.bin .add (.t x35) (.c (.p 1)))
 (.m x35 x51
 .nil)))))))))
 (.seq (.ops (.m x52 x7
 (.m x53 x5
 (.cons .no (.ye x54) (.W (.app 1 16 (.t x52) (.t x53)))
 (.m x5 x54
 .nil)))))
 (.ops (.m x55 x0
 (.m x56 x1
 (.s x57 35 [(.t x55), (.t x56)]
 (.m x1 x57
 .nil))))))))))
 (.ops (.m x24 x6
 (.p x25 (.bin .sub (.t x24) (.c (.p 1)))
 (.m x6 x25
 .nil)))))))))
 (.seq (.ops (.m x58 x5
 (.m x4 x58
 .nil)))
 .ret))))
def a77 : AF := .fn (ps16.take 59) b77 (.one x4)
def b78 : ACode := (.seq (.ops (.p x2 (.mv (.c (.b false)))
 .nil))
 (.seq (.ops (.cons .no (.ye x3) (.W (.bs (.cons (.s 0 0) (.cons (.s 0 0) (.cons (.s 0 0) (.cons (.s 0 0) (.cons (.s 0 0) (.cons (.s 0 0) .nil)))))) 6 [(0, 1, (.c (.s 4 1718379891))), (1, 1, (.c (.s 5 491328140659))), (2, 1, (.c (.s 3 7104878))), (3, 1, (.c (.s 4 1702195828))), (4, 1, (.c (.s 5 435728179558))), (5, 1, (.c (.s 11 140803950564158277683865716)))]))
 (.m x4 x0
 (.s x5 79 [(.t x3), (.t x4)]
 (.m x2 x5
 .nil)))))
 .ret))
def a78 : AF := .fn (ps16.take 6) b78 (.one x2)
def b79 : ACode := (.seq (.ops (.p x4 (.mv (.c (.b false)))
 .nil))
 (.seq (.ops (.m x5 x0
 (.m x6 x1
 (.s x7 103 [(.t x5), (.t x6)]
 (.p x8 (.bin .geq (.t x7) (.c (.p 0)))
 (.m x4 x8
 .nil))))))
 .ret))
def a79 : AF := .fn (ps16.take 9) b79 (.one x4)
def b80 : ACode := (.seq (.ops (.p x10 (.mv (.c (.p 0)))
 (.p x11 (.mv (.c (.p 0)))
 .nil)))
 (.seq (.ops (.m x24 x0
 (.m x25 x1
 (.s x26 44 [(.t x24), (.t x25)]
 (.m x23 x26
 (.p x27 (.ex (.t x23) 0)
 (.p x28 (.ex (.t x23) 1)
 (.m x12 x27
 (.m x13 x28
 .nil)))))))))
 (.seq (.seq (.ops (.m x29 x13
 (.p x30 (.bin .neq (.t x29) (.c (.p 0)))
 .nil)))
 (.cond (.t x30) (.seq (.ops (.m x31 x13
 (.p x10 (.mv (.c (.p 0)))
 (.m x11 x31
 .nil))))
 .ret)
 .skip))
 (.seq (.ops (.p x14 (.mv (.c .ns))
 .nil))
 (.seq (.seq (.ops (.m x32 x3
 (.p x33 (.lnX (.t x32))
 (.p x34 (.mv (.c (.p 0)))
 .nil))))
 (.blk 0 (.loop (.seq (.ops (.p x35 (.bin .lss (.t x34) (.t x33))
 .nil))
 (.seq (.cond (.t x35) .skip
 (.exit 0))
 (.seq (.blk 1 (.seq (.ops (.p x36 (.ia (.t x32) (.t x34) 1)
 (.l x37 (.t x36)
 (.m x16 x37
 .nil))))
 (.seq (.ops (.m x39 x0
 (.m x40 x16
 (.s x41 44 [(.t x39), (.t x40)]
 (.m x38 x41
 (.p x42 (.ex (.t x38) 0)
 (.p x43 (.ex (.t x38) 1)
 (.m x17 x42
 (.m x18 x43
 .nil)))))))))
 (.seq (.seq (.ops (.m x44 x18
 (.p x45 (.bin .neq (.t x44) (.c (.p 0)))
 .nil)))
 (.cond (.t x45) (.seq (.ops (.m x46 x18
 (.p x10 (.mv (.c (.p 0)))
 (.m x11 x46
 .nil))))
 .ret)
 .skip))
 (.ops (.m x47 x14
 (.m x48 x17
 (.cons .no (.ye x49) (.W (.bs (.cons (.p 0) .nil) 1 [(0, 1, (.t x48))]))
 (.cons .no (.ye x50) (.W (.app 1 8 (.t x47) (.t x49)))
 (.m x14 x50
 .nil))))))))))
 (.ops (.p x51 (.bin .add (.t x34) (.c (.p 1)))
 (.m x34 x51
 .nil)))))))))
 (.seq (.ops (.m x53 x0
 (.m x54 x14
 (.s x55 46 [(.t x53), (.t x54)]
 (.m x52 x55
 (.p x56 (.ex (.t x52) 0)
 (.p x57 (.ex (.t x52) 1)
 (.m x19 x56
 (.m x13 x57
 .nil)))))))))
 (.seq (.seq (.ops (.m x58 x13
 (.p x59 (.bin .neq (.t x58) (.c (.p 0)))
 .nil)))
 (.cond (.t x59) (.seq (.ops (.m x60 x13
 (.p x10 (.mv (.c (.p 0)))
 (.m x11 x60
 .nil))))
 .ret)
 .skip))
 (.seq (.seq (.ops (.m x61 x0
 (.p x62 (.nck (.t x61))
 (.p x63 (.fa (.t x62) 0)
 (.l x64 (.t x63)
 (.s x65 84 [(.t x64)]
 (.p x66 (.bin .lss (.t x65) (.c (.p 14)))
 .nil)))))))
 (.cond (.t x66) (.seq (.ops (.p x10 (.mv (.c (.p 0)))
 (.p x11 (.mv (.c (.p 4)))
 .nil)))
 .ret)
 .skip))
 (.seq (.ops (.m x67 x0
 (.m x68 x2
 (.s x69 37 [(.t x67), (.t x68)]
 (.m x70 x3
 (.p x71 (.lnX (.t x70))
 (.p x72 (.bin .add (.t x69) (.t x71))
 (.m x20 x72
 .nil))))))))
 (.seq (.ops (.m x74 x0
 (.m x75 x0
 (.s x76 30 [(.t x75), (.c (.p 1))]
 (.m x77 x12
 (.m x78 x2
 (.m x79 x20
 (.s x80 71 [(.t x79)]
 (.m x81 x19
 (.m x82 x4
 (.s x83 71 [(.t x82)]
 (.cons .no (.ye x84) (.W (.bs (.cons (.p 0) (.cons (.p 0) (.cons (.p 0) (.cons (.p 0) (.cons (.p 0) (.cons (.p 0) .nil)))))) 6 [(0, 1, (.t x77)), (1, 1, (.t x78)), (2, 1, (.t x80)), (3, 1, (.t x81)), (4, 1, (.c (.p 0))), (5, 1, (.t x83))]))
 (.s x85 82 [(.t x74), (.t x76), (.c (.p 0)), (.t x84)]
 (.m x73 x85
 (.p x86 (.ex (.t x73) 0)
 (.p x87 (.ex (.t x73) 1)
 (.m x21 x86
 (.m x13 x87
 .nil))))))))))))))))))
 (.seq (.seq (.ops (.m x88 x13
 (.p x89 (.bin .neq (.t x88) (.c (.p 0)))
 .nil)))
 (.cond (.t x89) (.seq (.ops (.m x90 x13
 (.p x10 (.mv (.c (.p 0)))
 (.m x11 x90
 .nil))))
 .ret)
 .skip))
 (.seq (.ops (.m x92 x0
 (.m x93 x21
 (.m x94 x0
 (.p x95 (.nck (.t x94))
 (.p x96 (.fa (.t x95) 1)
 (.l x97 (.t x96)
 (.p x98 (.ia (.t x97) (.c (.p 1)) 1)
 (.l x99 (.t x98)
 (.s x100 73 [(.t x92), (.t x93), (.t x99)]
 (.m x91 x100
 (.p x101 (.ex (.t x91) 0)
 (.p x102 (.ex (.t x91) 1)
 (.m x22 x101
 (.m x13 x102
 .nil)))))))))))))))
 (.seq (.seq (.ops (.m x103 x13
 (.p x104 (.bin .neq (.t x103) (.c (.p 0)))
 .nil)))
 (.cond (.t x104) (.seq (.ops (.m x105 x13
 (.p x10 (.mv (.c (.p 0)))
 (.m x11 x105
 .nil))))
 .ret)
 .skip))
 (.seq (.draw (.h .no (.ye x106) (.P (.mv (.t x0)))
 (.h .no (.ye x107) (.P (.nck (.t x106)))
 (.h .no (.ye x108) (.P (.fa (.t x107) 1))
 (.h .no (.ye x109) (.L (.l (.one (.t x108))))
 (.h .no (.ye x110) (.P (.mv (.t x0)))
 (.h .no (.ye x111) (.P (.nck (.t x110)))
 (.h .no (.ye x112) (.P (.fa (.t x111) 3))
 (.h .no (.ye x113) (.L (.l (.one (.t x112))))
 (.h .no (.ye x114) (.P (.mv (.t x1)))
 (.h .no (.ye x115) (.P (.mv (.t x22)))
 (.h .no (.ye x116) (.P (.mv (.t x21)))
 (.h .no (.ye x117) (.P (.ia (.t x109) (.c (.p 1)) 1))
 (.c .no .no (.W (.st (.t x117) 1 (.t x115))) .nil
 (.c .no (.ye x118) (.W (.mes (.p 0) (.t x113) (.t x114))) .nil
 (.h .no (.ye x119) (.P (.ex (.t x118) 1))
 (.c .no .no (.W (.ess (.t x113) (.t x119) (.t x116))) .nil
 .nil)))))))))))))))))
 (.seq (.ops (.m x120 x21
 (.m x10 x120
 (.p x11 (.mv (.c (.p 0)))
 .nil))))
 .ret)))))))))))))))
def a80 : AF := .fn (ps16.take 121) b80 (.many [(.t x10), (.t x11)])
def b81 : ACode := (.seq (.ops (.p x2 (.mv (.c (.p 0)))
 (.p x3 (.mv (.c (.b false)))
 .nil)))
 (.seq (.seq (.ops (.m x4 x0
 (.s x5 88 [(.t x4), (.c (.n 1073741823)), (.c (.p 1073741823))]
 (.p x6 (.nt (.t x5))
 .nil))))
 (.cond (.t x6) (.seq (.ops (.p x2 (.mv (.c (.p 0)))
 (.p x3 (.mv (.c (.b false)))
 .nil)))
 .ret)
 .skip))
 (.seq (.ops (.m x7 x0
 (.p x8 (.bin .shl (.t x7) (.c (.w .u64 1)))
 (.p x9 (.bin .or (.t x8) (.c (.p 1)))
 (.m x2 x9
 (.p x3 (.mv (.c (.b true)))
 .nil))))))
 .ret)))
def a81 : AF := .fn (ps16.take 10) b81 (.many [(.t x2), (.t x3)])
def b82_0 : ACode := (.ops (.p x8 (.mv (.c (.p 0)))
 (.p x9 (.mv (.c (.p 0)))
 .nil)))
def b82_1 : ACode := (.ops (.m x15 x0
 (.p x16 (.nck (.t x15))
 (.p x17 (.fa (.t x16) 0)
 (.l x18 (.t x17)
 (.m x19 x1
 (.m x20 x2
 (.m x21 x3
 (.p x22 (.lnX (.t x21))
 (.s x23 47 [(.t x18), (.t x19), (.t x20), (.t x22)]
 (.m x14 x23
 (.p x24 (.ex (.t x14) 0)
 (.p x25 (.ex (.t x14) 1)
 (.m x10 x24
 (.m x11 x25
 .nil)))))))))))))))
def b82_2 : ACode := (.ops (.m x26 x11
 (.p x27 (.bin .neq (.t x26) (.c (.p 0)))
 .nil)))
def b82_3 : ACode := (.ops (.m x28 x11
 (.p x8 (.mv (.c (.p 0)))
 (.m x9 x28
 .nil))))
def b82_4 : ACode := .ret
def b82_5 : ACode := .seq b82_3 b82_4
def b82_6 : ACode := .skip
def b82_7 : ACode := .cond (.t x27) b82_5 b82_6
def b82_8 : ACode := .seq b82_2 b82_7
def b82_9 : ACode := (.ops (.m x29 x3
 (.p x30 (.lnX (.t x29))
 (.p x31 (.mv (.c (.p 0)))
 .nil))))
def b82_10 : ACode := (.ops (.p x32 (.bin .lss (.t x31) (.t x30))
 .nil))
def b82_11 : ACode := .skip
def b82_12 : ACode := (.exit 0)
def b82_13 : ACode := .cond (.t x32) b82_11 b82_12
def b82_14 : ACode := (.ops (.m x33 x31
 (.p x34 (.ia (.t x29) (.t x31) 1)
 (.l x35 (.t x34)
 (.m x12 x33
 (.m x13 x35
 .nil))))))
def b82_15 : ACode := (.ops (.m x36 x0
 (.p x37 (.nck (.t x36))
 (.p x38 (.fa (.t x37) 0)
 (.l x39 (.t x38)
 (.m x40 x10
 (.m x41 x12
 (.m x42 x13
 (.s x43 72 [(.t x39), (.t x40), (.t x41), (.t x42)]
 .nil)))))))))
def b82_16 : ACode := .seq b82_14 b82_15
def b82_17 : ACode := .blk 1 b82_16
def b82_18 : ACode := (.ops (.p x44 (.bin .add (.t x31) (.c (.p 1)))
 (.m x31 x44
 .nil)))
def b82_19 : ACode := .seq b82_17 b82_18
def b82_20 : ACode := .seq b82_13 b82_19
def b82_21 : ACode := .seq b82_10 b82_20
def b82_22 : ACode := .loop b82_21
def b82_23 : ACode := .blk 0 b82_22
def b82_24 : ACode := .seq b82_9 b82_23
def b82_25 : ACode := (.ops (.m x45 x10
 (.m x8 x45
 (.p x9 (.mv (.c (.p 0)))
 .nil))))
def b82_26 : ACode := .ret
def b82_27 : ACode := .seq b82_25 b82_26
def b82_28 : ACode := .seq b82_24 b82_27
def b82_29 : ACode := .seq b82_8 b82_28
def b82_30 : ACode := .seq b82_1 b82_29
def b82_31 : ACode := .seq b82_0 b82_30
def b82 : ACode := b82_31
def a82 : AF := .fn (ps16.take 46) b82 (.many [(.t x8), (.t x9)])
def b83_0 : ACode := (.ops (.p x6 (.mv (.c (.p 0)))
 (.p x7 (.mv (.c (.p 0)))
 .nil)))
def b83_1 : ACode := (.ops (.p x8 (.mv (.c .ns))
 .nil))
def b83_2 : ACode := (.ops (.m x10 x2
 (.p x11 (.lnS (.t x10))
 (.p x12 (.mv (.c (.p 0)))
 .nil))))
def b83_3 : ACode := (.ops (.p x13 (.bin .lss (.t x12) (.t x11))
 .nil))
def b83_4 : ACode := .skip
def b83_5 : ACode := (.exit 0)
def b83_6 : ACode := .cond (.t x13) b83_4 b83_5
def b83_7 : ACode := (.ops (.m x14 x12
 (.m x9 x14
 .nil)))
def b83_8 : ACode := (.ops (.m x15 x8
 (.m x16 x2
 (.m x17 x9
 (.p x18 (.ixs (.t x16) (.t x17))
 (.p x19 (.cv .i64 (.t x18))
 (.cons .no (.ye x20) (.W (.bs (.cons (.p 0) .nil) 1 [(0, 1, (.t x19))]))
 (.cons .no (.ye x21) (.W (.app 1 8 (.t x15) (.t x20)))
 (.m x8 x21
 .nil)))))))))
def b83_9 : ACode := .seq b83_7 b83_8
def b83_10 : ACode := .blk 1 b83_9
def b83_11 : ACode := (.ops (.p x22 (.bin .add (.t x12) (.c (.p 1)))
 (.m x12 x22
 .nil)))
def b83_12 : ACode := .seq b83_10 b83_11
def b83_13 : ACode := .seq b83_6 b83_12
def b83_14 : ACode := .seq b83_3 b83_13
def b83_15 : ACode := .loop b83_14
def b83_16 : ACode := .blk 0 b83_15
def b83_17 : ACode := .seq b83_2 b83_16
def b83_18 : ACode := (.ops (.m x23 x0
 (.m x24 x1
 (.m x25 x8
 (.s x26 82 [(.t x23), (.t x24), (.c (.p 2)), (.t x25)]
 (.p x27 (.ex (.t x26) 0)
 (.p x28 (.ex (.t x26) 1)
 (.m x6 x27
 (.m x7 x28
 .nil)))))))))
def b83_19 : ACode := .ret
def b83_20 : ACode := .seq b83_18 b83_19
def b83_21 : ACode := .seq b83_17 b83_20
def b83_22 : ACode := .seq b83_1 b83_21
def b83_23 : ACode := .seq b83_0 b83_22
def b83 : ACode := b83_23
def a83 : AF := .fn (ps16.take 29) b83 (.many [(.t x6), (.t x7)])
def b84 : ACode := (.seq (.ops (.p x2 (.mv (.c (.p 0)))
 .nil))
 (.seq (.draw (.h .no (.ye x3) (.P (.mv (.t x0)))
 (.h .no (.ye x4) (.P (.nck (.t x3)))
 (.h .no (.ye x5) (.P (.fa (.t x4) 0))
 (.h .no (.ye x6) (.L (.l (.one (.t x5))))
 (.h .no (.ye x7) (.P (.lnX (.t x6)))
 (.h .no (.ye x8) (.P (.mv (.t x0)))
 (.h .no (.ye x9) (.P (.nck (.t x8)))
 (.h .no (.ye x10) (.P (.fa (.t x9) 1))
 (.h .no (.ye x11) (.L (.l (.one (.t x10))))
 (.h .no (.ye x12) (.P (.bin .sub (.t x7) (.t x11)))
 (.h .no (.ye x2) (.P (.mv (.t x12)))
 .nil))))))))))))
 .ret))
def a84 : AF := .fn (ps16.take 13) b84 (.one x2)
def b85 : ACode := (.seq (.ops (.p x3 (.mv (.c (.b false)))
 .nil))
 (.seq (.ops (.l x4 (.t x1)
 (.p x5 (.nck (.t x4))
 (.p x6 (.fa (.t x5) 0)
 (.l x7 (.t x6)
 (.m x8 x0
 (.s x9 24 [(.t x7), (.t x8)]
 (.p x10 (.nt (.t x9))
 (.m x3 x10
 .nil)))))))))
 .ret))
def a85 : AF := .fn (ps16.take 11) b85 (.one x3)
def b86 : ACode := (.seq (.ops (.p x4 (.mv (.c (.b false)))
 .nil))
 (.seq (.ops (.m x5 x1
 (.p x6 (.bin .eql (.t x5) (.c (.p 0)))
 (.m x7 x6
 (.cons (.ye x7 false) (.ye x8) (.P (.mv (.t x0)))
 (.cons (.ye x7 false) (.ye x9) (.P (.mv (.t x1)))
 (.cons (.ye x7 false) (.ye x10) (.S 31 [(.t x8), (.t x9)])
 (.p x11 (.pick (.t x7) (.c (.b true)) (.t x10))
 (.m x4 x11
 .nil)))))))))
 .ret))
def a86 : AF := .fn (ps16.take 12) b86 (.one x4)
def b87 : ACode := (.seq (.ops (.p x2 (.mv (.c (.p 0)))
 (.p x3 (.mv (.c (.b false)))
 .nil)))
 (.seq (.seq (.ops (.m x4 x0
 (.s x5 88 [(.t x4), (.c (.p 3)), (.c (.p 131072))]
 (.p x6 (.nt (.t x5))
 .nil))))
 (.cond (.t x6) (.seq (.ops (.p x2 (.mv (.c (.p 0)))
 (.p x3 (.mv (.c (.b false)))
 .nil)))
 .ret)
 .skip))
 (.seq (.ops (.m x7 x0
 (.p x8 (.bin .shl (.t x7) (.c (.w .u64 1)))
 (.m x2 x8
 (.p x3 (.mv (.c (.b true)))
 .nil)))))
 .ret)))
def a87 : AF := .fn (ps16.take 9) b87 (.many [(.t x2), (.t x3)])
def b88 : ACode := (.seq (.ops (.p x6 (.mv (.c (.b false)))
 .nil))
 (.seq (.ops (.m x7 x0
 (.m x8 x1
 (.p x9 (.bin .geq (.t x7) (.t x8))
 (.m x10 x9
 (.cons (.ye x10 true) (.ye x11) (.P (.mv (.t x0)))
 (.cons (.ye x10 true) (.ye x12) (.P (.mv (.t x2)))
 (.cons (.ye x10 true) (.ye x13) (.P (.bin .leq (.t x11) (.t x12)))
 (.p x14 (.pick (.t x10) (.t x13) (.c (.b false)))
 (.m x6 x14
 .nil))))))))))
 .ret))
def a88 : AF := .fn (ps16.take 15) b88 (.one x6)
def b89_0 : ACode := (.ops (.p x4 (.mv (.c (.p 0)))
 .nil))
def b89_1 : ACode := (.ops (.m x6 x0
 (.p x7 (.lnX (.t x6))
 (.p x8 (.mv (.c (.p 0)))
 .nil))))
def b89_2 : ACode := (.ops (.p x9 (.bin .lss (.t x8) (.t x7))
 .nil))
def b89_3 : ACode := .skip
def b89_4 : ACode := (.exit 0)
def b89_5 : ACode := .cond (.t x9) b89_3 b89_4
def b89_6 : ACode := (.ops (.m x10 x8
 (.m x5 x10
 .nil)))
def b89_7 : ACode := (.ops (.m x11 x1
 (.m x12 x0
 (.m x13 x5
 (.p x14 (.ia (.t x12) (.t x13) 1)
 (.l x15 (.t x14)
 (.cons .no (.ye x16) (.V (.t x11) [(.t x15)])
 .nil)))))))
def b89_8 : ACode := (.ops (.m x17 x5
 (.m x4 x17
 .nil)))
def b89_9 : ACode := .ret
def b89_10 : ACode := .seq b89_8 b89_9
def b89_11 : ACode := .skip
def b89_12 : ACode := .cond (.t x16) b89_10 b89_11
def b89_13 : ACode := .seq b89_7 b89_12
def b89_14 : ACode := .seq b89_6 b89_13
def b89_15 : ACode := .blk 1 b89_14
def b89_16 : ACode := (.ops (.p x18 (.bin .add (.t x8) (.c (.p 1)))
 (.m x8 x18
 .nil)))
def b89_17 : ACode := .seq b89_15 b89_16
def b89_18 : ACode := .seq b89_5 b89_17
def b89_19 : ACode := .seq b89_2 b89_18
def b89_20 : ACode := .loop b89_19
def b89_21 : ACode := .blk 0 b89_20
def b89_22 : ACode := .seq b89_1 b89_21
def b89_23 : ACode := (.ops (.p x4 (.mv (.c (.n 0)))
 .nil))
def b89_24 : ACode := .ret
def b89_25 : ACode := .seq b89_23 b89_24
def b89_26 : ACode := .seq b89_22 b89_25
def b89_27 : ACode := .seq b89_0 b89_26
def b89 : ACode := b89_27
def a89 : AF := .fn (ps16.take 19) b89 (.one x4)
def b90 : ACode := (.seq (.ops (.p x4 (.mv (.c (.p 0)))
 (.p x5 (.mv (.c (.p 0)))
 .nil)))
 (.seq (.seq (.ops (.m x6 x0
 (.s x7 104 [(.t x6)]
 (.p x8 (.nt (.t x7))
 (.m x9 x8
 (.cons (.ye x9 false) (.ye x10) (.P (.mv (.t x1)))
 (.cons (.ye x9 false) (.ye x11) (.S 104 [(.t x10)])
 (.cons (.ye x9 false) (.ye x12) (.P (.nt (.t x11)))
 (.p x13 (.pick (.t x9) (.c (.b true)) (.t x12))
 .nil)))))))))
 (.cond (.t x13) (.seq (.ops (.p x4 (.mv (.c (.p 0)))
 (.p x5 (.mv (.c (.p 2)))
 .nil)))
 .ret)
 .skip))
 (.seq (.ops (.m x14 x0
 (.m x15 x1
 (.p x16 (.bin .add (.t x14) (.t x15))
 (.s x17 105 [(.t x16)]
 (.p x18 (.ex (.t x17) 0)
 (.p x19 (.ex (.t x17) 1)
 (.m x4 x18
 (.m x5 x19
 .nil)))))))))
 .ret)))
def a90 : AF := .fn (ps16.take 20) b90 (.many [(.t x4), (.t x5)])
def b91 : ACode := (.seq (.ops (.p x4 (.mv (.c (.p 0)))
 (.p x5 (.mv (.c (.p 0)))
 .nil)))
 (.seq (.ops (.m x6 x0
 (.m x7 x1
 (.s x8 106 [(.t x7)]
 (.s x9 90 [(.t x6), (.t x8)]
 (.p x10 (.ex (.t x9) 0)
 (.p x11 (.ex (.t x9) 1)
 (.m x4 x10
 (.m x5 x11
 .nil)))))))))
 .ret))
def a91 : AF := .fn (ps16.take 12) b91 (.many [(.t x4), (.t x5)])
def b93 : ACode := (.seq (.ops (.p x4 (.mv (.c (.p 0)))
 (.p x5 (.mv (.c (.p 0)))
 .nil)))
 (.seq (.ops (.m x10 x0
 (.m x11 x1
 (.s x12 108 [(.t x10), (.t x11)]
 (.m x9 x12
 (.p x13 (.ex (.t x9) 0)
 (.p x14 (.ex (.t x9) 1)
 (.p x15 (.ex (.t x9) 2)
 (.m x6 x13
 (.m x7 x14
 (.m x8 x15
 .nil)))))))))))
 (.seq (.ops (.m x16 x6
 (.m x17 x8
 (.m x4 x16
 (.m x5 x17
 .nil)))))
 .ret)))
def a93 : AF := .fn (ps16.take 18) b93 (.many [(.t x4), (.t x5)])
def b94 : ACode := (.seq (.ops (.p x4 (.mv (.c (.p 0)))
 (.p x5 (.mv (.c (.p 0)))
 .nil)))
 (.seq (.ops (.m x10 x0
 (.m x11 x1
 (.s x12 108 [(.t x10), (.t x11)]
 (.m x9 x12
 (.p x13 (.ex (.t x9) 0)
 (.p x14 (.ex (.t x9) 1)
 (.p x15 (.ex (.t x9) 2)
 (.m x6 x13
 (.m x7 x14
 (.m x8 x15
 .nil)))))))))))
 (.seq (.ops (.m x16 x7
 (.m x17 x8
 (.m x4 x16
 (.m x5 x17
 .nil)))))
 .ret)))
def a94 : AF := .fn (ps16.take 18) b94 (.many [(.t x4), (.t x5)])
def b95 : ACode := (.seq (.ops (.p x2 (.mv (.c (.p 0)))
 (.p x3 (.mv (.c (.p 0)))
 .nil)))
 (.seq (.seq (.ops (.m x4 x0
 .nil))
 (.cond (.t x4) (.seq (.ops (.p x2 (.mv (.c (.p 2)))
 (.p x3 (.mv (.c (.p 0)))
 .nil)))
 .ret)
 .skip))
 (.seq (.ops (.p x2 (.mv (.c (.p 4)))
 (.p x3 (.mv (.c (.p 0)))
 .nil)))
 .ret)))
def a95 : AF := .fn (ps16.take 5) b95 (.many [(.t x2), (.t x3)])
def b96 : ACode := (.seq (.ops (.cons .no (.ye x2) (.W (.bx (.t x0)))
 (.p x4 (.mv (.c (.b false)))
 .nil)))
 (.seq (.draw (.h .no (.ye x6) (.L (.l (.one (.t x2))))
 (.h .no (.ye x7) (.P (.nck (.t x6)))
 (.h .no (.ye x8) (.P (.fa (.t x7) 0))
 (.h .no (.ye x9) (.L (.l (.one (.t x8))))
 (.h .no (.ye x10) (.L (.l (.one (.t x2))))
 (.h .no (.ye x11) (.P (.nck (.t x10)))
 (.h .no (.ye x12) (.P (.fa (.t x11) 2))
 (.h .no (.ye x13) (.L (.l (.one (.t x12))))
 (.c .no (.ye x14) (.S 25 [(.t x9), (.t x13)]) (.cons .no (.l (.one (.t x2))) x6 (.cons .no (.l (.one (.t x8))) x9 (.cons .no (.l (.one (.t x2))) x10 (.cons .no (.l (.one (.t x12))) x13 .nil))))
 (.z (.ye x5) (.al (.cons (.p 0) .nil)) (.cons .no (.l (.one (.t x2))) x6 (.cons .no (.l (.one (.t x8))) x9 (.cons .no (.l (.one (.t x2))) x10 (.cons .no (.l (.one (.t x12))) x13 .nil))))
 (.c .no .no (.W (.st (.t x5) 1 (.t x14))) .nil
 .nil))))))))))))
 (.seq (.ops (.m x15 x1
 (.p x16 (.mf 109 [] [(.t x2), (.t x5)])
 (.s x17 52 [(.t x15), (.t x16)]
 (.m x4 x17
 .nil)))))
 .ret)))
def a96 : AF := .fn (ps16.take 18) b96 (.one x4)
def b97 : ACode := (.seq (.ops (.p x2 (.mv (.c (.p 0)))
 (.p x3 (.mv (.c (.b false)))
 .nil)))
 (.seq (.draw (.h .no (.ye x7) (.P (.mv (.t x0)))
 (.h .no (.ye x8) (.P (.nck (.t x7)))
 (.h .no (.ye x9) (.P (.fa (.t x8) 0))
 (.h .no (.ye x10) (.L (.l (.one (.t x9))))
 (.h .no (.ye x11) (.P (.mv (.t x0)))
 (.h .no (.ye x12) (.P (.nck (.t x11)))
 (.h .no (.ye x13) (.P (.fa (.t x12) 3))
 (.h .no (.ye x14) (.L (.l (.one (.t x13))))
 (.h .no (.ye x15) (.P (.ia (.t x14) (.c (.p 0)) 1))
 (.h .no (.ye x16) (.L (.l (.one (.t x15))))
 (.c .no (.ye x17) (.S 15 [(.t x10), (.t x16)]) .nil
 (.h .no (.ye x6) (.P (.mv (.t x17)))
 (.h .no (.ye x18) (.P (.ex (.t x6) 0))
 (.h .no (.ye x19) (.P (.ex (.t x6) 1))
 (.h .no (.ye x4) (.P (.mv (.t x18)))
 (.h .no (.ye x5) (.P (.mv (.t x19)))
 .nil)))))))))))))))))
 (.seq (.draw (.h .no (.ye x20) (.P (.mv (.t x4)))
 (.h .no (.ye x21) (.P (.bin .sub (.t x20) (.c (.p 1))))
 (.h .no (.ye x22) (.P (.mv (.t x5)))
 (.h .no (.ye x23) (.P (.mv (.t x22)))
 (.h (.ye x23 true) (.ye x24) (.P (.mv (.t x4)))
 (.h (.ye x23 true) (.ye x25) (.P (.bin .geq (.t x24) (.c (.p 1))))
 (.h .no (.ye x26) (.P (.pick (.t x23) (.t x25) (.c (.b false))))
 (.h .no (.ye x27) (.P (.mv (.t x26)))
 (.h (.ye x27 true) (.ye x28) (.P (.mv (.t x4)))
 (.h (.ye x27 true) (.ye x29) (.P (.mv (.t x0)))
 (.h (.ye x27 true) (.ye x30) (.P (.nck (.t x29)))
 (.h (.ye x27 true) (.ye x31) (.P (.fa (.t x30) 0))
 (.h (.ye x27 true) (.ye x32) (.L (.l (.one (.t x31))))
 (.h (.ye x27 true) (.ye x34) (.P (.mv (.t x0)))
 (.h (.ye x27 true) (.ye x35) (.P (.nck (.t x34)))
 (.h (.ye x27 true) (.ye x36) (.P (.fa (.t x35) 2))
 (.h (.ye x27 true) (.ye x37) (.L (.l (.one (.t x36))))
 (.c (.ye x27 true) (.ye x33) (.S 23 [(.t x32)]) (.cons (.ye x27 true) (.l (.one (.t x36))) x37 .nil)
 (.c (.ye x27 true) (.ye x38) (.S 27 [(.t x33), (.t x37)]) .nil
 (.h (.ye x27 true) (.ye x39) (.P (.bin .leq (.t x28) (.t x38)))
 (.h .no (.ye x40) (.P (.pick (.t x27) (.t x39) (.c (.b false))))
 (.h .no (.ye x2) (.P (.mv (.t x21)))
 (.h .no (.ye x3) (.P (.mv (.t x40)))
 .nil))))))))))))))))))))))))
 .ret)))
def a97 : AF := .fn (ps16.take 41) b97 (.many [(.t x2), (.t x3)])
def b98 : ACode := (.seq (.ops (.p x4 (.mv (.c (.p 0)))
 (.p x5 (.mv (.c (.p 0)))
 .nil)))
 (.seq (.ops (.m x9 x0
 (.p x10 (.nck (.t x9))
 (.p x11 (.fa (.t x10) 3)
 (.l x12 (.t x11)
 (.p x13 (.ia (.t x12) (.c (.p 1)) 1)
 (.l x14 (.t x13)
 (.m x6 x14
 .nil))))))))
 (.seq (.seq (.ops (.m x15 x0
 (.cons .no (.ye x16) (.W (.bs (.cons (.p 0) .nil) 1 [(0, 1, (.c (.p 10)))]))
 (.s x17 96 [(.t x15), (.t x16)]
 .nil))))
 (.cond (.t x17) (.seq (.ops (.m x19 x0
 (.p x20 (.nck (.t x19))
 (.p x21 (.fa (.t x20) 0)
 (.l x22 (.t x21)
 (.m x23 x6
 (.s x24 15 [(.t x22), (.t x23)]
 (.m x18 x24
 (.p x25 (.ex (.t x18) 0)
 (.p x26 (.ex (.t x18) 1)
 (.m x7 x25
 (.m x8 x26
 .nil))))))))))))
 (.seq (.seq (.ops (.m x27 x8
 (.p x28 (.nt (.t x27))
 .nil)))
 (.cond (.t x28) (.seq (.ops (.s x29 54 []
 (.p x30 (.ex (.t x29) 0)
 (.p x31 (.ex (.t x29) 1)
 (.m x4 x30
 (.m x5 x31
 .nil))))))
 .ret)
 .skip))
 (.ops (.m x32 x7
 (.m x6 x32
 .nil)))))
 .skip))
 (.seq (.seq (.draw (.h .no (.ye x33) (.P (.mv (.t x0)))
 (.c .no (.ye x34) (.W (.bs (.cons (.p 0) .nil) 1 [(0, 1, (.c (.p 11)))])) .nil
 (.c .no (.ye x35) (.S 96 [(.t x33), (.t x34)]) .nil
 (.h .no (.ye x36) (.P (.mv (.t x35)))
 (.h (.ye x36 false) (.ye x37) (.P (.mv (.t x0)))
 (.h (.ye x36 false) (.ye x38) (.P (.nck (.t x37)))
 (.h (.ye x36 false) (.ye x39) (.P (.fa (.t x38) 0))
 (.h (.ye x36 false) (.ye x40) (.L (.l (.one (.t x39))))
 (.h (.ye x36 false) (.ye x42) (.P (.mv (.t x0)))
 (.h (.ye x36 false) (.ye x43) (.P (.nck (.t x42)))
 (.h (.ye x36 false) (.ye x44) (.P (.fa (.t x43) 2))
 (.h (.ye x36 false) (.ye x45) (.L (.l (.one (.t x44))))
 (.h (.ye x36 false) (.ye x46) (.P (.mv (.t x1)))
 (.h (.ye x36 false) (.ye x47) (.P (.mv (.t x6)))
 (.c (.ye x36 false) (.ye x41) (.S 23 [(.t x40)]) (.cons (.ye x36 false) (.l (.one (.t x44))) x45 .nil)
 (.c (.ye x36 false) (.ye x48) (.S 72 [(.t x41), (.t x45), (.t x46), (.t x47)]) .nil
 (.h (.ye x36 false) (.ye x49) (.P (.bin .neq (.t x48) (.c (.p 0))))
 (.h .no (.ye x50) (.P (.pick (.t x36) (.c (.b true)) (.t x49)))
 .nil)))))))))))))))))))
 (.cond (.t x50) (.seq (.ops (.s x51 54 []
 (.p x52 (.ex (.t x51) 0)
 (.p x53 (.ex (.t x51) 1)
 (.m x4 x52
 (.m x5 x53
 .nil))))))
 .ret)
 .skip))
 (.seq (.ops (.m x54 x0
 (.p x55 (.nck (.t x54))
 (.p x56 (.fa (.t x55) 3)
 (.l x57 (.t x56)
 (.p x58 (.ia (.t x57) (.c (.p 1)) 1)
 (.l x59 (.t x58)
 (.m x4 x59
 (.p x5 (.mv (.c (.p 0)))
 .nil)))))))))
 .ret)))))
def a98 : AF := .fn (ps16.take 60) b98 (.many [(.t x4), (.t x5)])
def b99 : ACode := (.seq (.ops (.cons .no (.ye x2) (.W (.al (.cons (.p 0) (.cons (.s 0 0) (.cons (.p 0) (.cons .ns (.cons .ns (.cons .ns .nil))))))))
 (.p x3 (.mv (.c (.p 0)))
 (.p x4 (.mv (.c (.p 0)))
 .nil))))
 (.seq (.ops (.m x5 x0
 (.s x6 110 [(.t x5), (.f 111)]
 (.p x7 (.ex (.t x6) 0)
 (.p x8 (.ex (.t x6) 1)
 (.p x9 (.ex (.t x6) 2)
 (.cons .no .no (.W (.st (.t x2) 6 (.t x7)))
 (.m x3 x8
 (.m x4 x9
 .nil)))))))))
 .ret))
def a99 : AF := .fn (ps16.take 10) b99 (.many [(.c (.many (.t x2) 6)), (.t x3), (.t x4)])
def b100 : ACode := (.seq (.ops (.cons .no (.ye x2) (.W (.bx (.t x0)))
 (.cons .no (.ye x4) (.W (.al (.cons (.s 0 0) (.cons (.p 0) (.cons (.p 0) (.cons (.p 0) (.cons .ns (.cons .ns .nil))))))))
 (.p x5 (.mv (.c (.s 0 0)))
 (.p x6 (.mv (.c (.p 0)))
 .nil)))))
 (.seq (.ops (.cons .no (.ye x7) (.L (.l (.many (.t x2) 6)))
 (.m x8 x1
 (.s x9 112 [(.t x7), (.t x8), (.c (.b false))]
 (.p x10 (.ex (.t x9) 0)
 (.p x11 (.ex (.t x9) 1)
 (.p x12 (.ex (.t x9) 2)
 (.cons .no .no (.W (.st (.t x4) 6 (.t x10)))
 (.m x5 x11
 (.m x6 x12
 .nil))))))))))
 .ret))
def a100 : AF := .fn (ps16.take 13) b100 (.many [(.c (.many (.t x4) 6)), (.t x5), (.t x6)])
def b101 : ACode := (.seq (.ops (.cons .no (.ye x5) (.W (.bx (.t x2)))
 (.p x6 (.mv (.c (.p 0)))
 (.p x7 (.mv (.c (.p 0)))
 .nil))))
 (.seq (.ops (.m x12 x0
 (.m x13 x1
 (.cons .no (.ye x14) (.L (.l (.many (.t x5) 6)))
 (.s x15 113 [(.t x12), (.t x13), (.t x14)]
 (.m x11 x15
 (.p x16 (.ex (.t x11) 0)
 (.p x17 (.ex (.t x11) 1)
 (.m x8 x16
 (.m x9 x17
 .nil))))))))))
 (.seq (.seq (.ops (.m x18 x9
 (.p x19 (.bin .neq (.t x18) (.c (.p 0)))
 .nil)))
 (.cond (.t x19) (.seq (.ops (.m x20 x9
 (.p x6 (.mv (.c (.p 0)))
 (.m x7 x20
 .nil))))
 .ret)
 .skip))
 (.seq (.seq (.ops (.m x21 x0
 (.m x22 x1
 (.m x23 x0
 (.m x24 x8
 (.s x25 51 [(.t x23), (.t x24), (.c (.p 0))]
 (.m x26 x8
 (.s x27 114 [(.t x21), (.t x22), (.t x25), (.t x26)]
 (.m x10 x27
 .nil)))))))))
 (.seq (.ops (.m x28 x10
 (.p x29 (.bin .neq (.t x28) (.c (.p 0)))
 .nil)))
 (.cond (.t x29) (.seq (.ops (.m x30 x10
 (.p x6 (.mv (.c (.p 0)))
 (.m x7 x30
 .nil))))
 .ret)
 .skip)))
 (.seq (.ops (.m x31 x8
 (.m x6 x31
 (.p x7 (.mv (.c (.p 0)))
 .nil))))
 .ret)))))
def a101 : AF := .fn (ps16.take 32) b101 (.many [(.t x6), (.t x7)])
def b102 : ACode := (.seq (.ops (.p x2 (.mv (.c (.p 0)))
 .nil))
 (.seq (.ops (.m x3 x0
 (.p x4 (.nck (.t x3))
 (.p x5 (.fa (.t x4) 0)
 (.l x6 (.t x5)
 (.p x7 (.lnX (.t x6))
 (.m x2 x7
 .nil)))))))
 .ret))
def a102 : AF := .fn (ps16.take 8) b102 (.one x2)
def b103 : ACode := (.seq (.ops (.p x4 (.mv (.c (.p 0)))
 .nil))
 (.seq (.seq (.ops (.m x6 x0
 (.p x7 (.lnX (.t x6))
 (.p x8 (.mv (.c (.p 0)))
 .nil))))
 (.blk 0 (.loop (.seq (.ops (.p x9 (.bin .lss (.t x8) (.t x7))
 .nil))
 (.seq (.cond (.t x9) .skip
 (.exit 0))
 (.seq (.blk 1 (.seq (.ops (.m x10 x8
 (.m x5 x10
 .nil)))
 (.seq (.ops (.m x11 x1
 (.m x12 x0
 (.m x13 x5
 (.p x14 (.ia (.t x12) (.t x13) 1)
 (.l x15 (.t x14)
 (.p x16 (.bin .eql (.t x11) (.t x15))
 .nil)))))))
 (.cond (.t x16) (.seq (.ops (.m x17 x5
 (.m x4 x17
 .nil)))
 .ret)
 .skip))))
 (.ops (.p x18 (.bin .add (.t x8) (.c (.p 1)))
 (.m x8 x18
 .nil)))))))))
 (.seq (.ops (.p x4 (.mv (.c (.n 0)))
 .nil))
 .ret)))
def a103 : AF := .fn (ps16.take 19) b103 (.one x4)
def b104 : ACode := (.seq (.ops (.p x2 (.mv (.c (.b false)))
 .nil))
 (.seq (.ops (.m x3 x0
 (.s x4 88 [(.t x3), (.c (.n 1152921504606846975)), (.c (.p 1152921504606846976))]
 (.m x2 x4
 .nil))))
 .ret))
def a104 : AF := .fn (ps16.take 5) b104 (.one x2)
def b105 : ACode := (.seq (.ops (.p x2 (.mv (.c (.p 0)))
 (.p x3 (.mv (.c (.p 0)))
 .nil)))
 (.seq (.seq (.ops (.m x4 x0
 (.s x5 104 [(.t x4)]
 (.p x6 (.nt (.t x5))
 .nil))))
 (.cond (.t x6) (.seq (.ops (.p x2 (.mv (.c (.p 0)))
 (.p x3 (.mv (.c (.p 2)))
 .nil)))
 .ret)
 .skip))
 (.seq (.ops (.m x7 x0
 (.m x2 x7
 (.p x3 (.mv (.c (.p 0)))
 .nil))))
 .ret)))
def a105 : AF := .fn (ps16.take 8) b105 (.many [(.t x2), (.t x3)])
def b106 : ACode := (.seq (.ops (.p x2 (.mv (.c (.p 0)))
 .nil))
 (.seq (.seq (.ops (.m x3 x0
 (.s x4 104 [(.t x3)]
 (.p x5 (.nt (.t x4))
 .nil))))
 (.cond (.t x5) (.seq (.ops (.m x6 x0
 (.m x2 x6
 .nil)))
 .ret)
 .skip))
 (.seq (.ops (.m x7 x0
 (.p x8 (.ng (.t x7))
 (.m x2 x8
 .nil))))
 .ret)))
def a106 : AF := .fn (ps16.take 9) b106 (.one x2)
def b108 : ACode := (.seq (.ops (.p x4 (.mv (.c (.p 0)))
 (.p x5 (.mv (.c (.p 0)))
 (.p x6 (.mv (.c (.p 0)))
 .nil))))
 (.seq (.blk 0 (.seq (.ops (.m x10 x0
 (.s x11 104 [(.t x10)]
 (.p x12 (.nt (.t x11))
 (.m x13 x12
 (.cons (.ye x13 false) (.ye x14) (.P (.mv (.t x1)))
 (.cons (.ye x13 false) (.ye x15) (.S 104 [(.t x14)])
 (.cons (.ye x13 false) (.ye x16) (.P (.nt (.t x15)))
 (.p x17 (.pick (.t x13) (.c (.b true)) (.t x16))
 (.m x9 x17
 .nil))))))))))
 (.cond (.t x9) (.seq (.ops (.p x4 (.mv (.c (.p 0)))
 (.p x5 (.mv (.c (.p 0)))
 (.p x6 (.mv (.c (.p 2)))
 .nil))))
 .ret)
 (.seq (.ops (.m x19 x1
 (.p x20 (.bin .eql (.t x19) (.c (.p 0)))
 (.m x18 x20
 .nil))))
 (.cond (.t x18) (.seq (.ops (.p x4 (.mv (.c (.p 0)))
 (.p x5 (.mv (.c (.p 0)))
 (.p x6 (.mv (.c (.p 3)))
 .nil))))
 .ret)
 .skip)))))
 (.seq (.draw (.h .no (.ye x21) (.P (.mv (.t x0)))
 (.h .no (.ye x22) (.P (.mv (.t x1)))
 (.h .no (.ye x23) (.P (.bin .quo (.t x21) (.t x22)))
 (.h .no (.ye x24) (.P (.mv (.t x0)))
 (.h .no (.ye x25) (.P (.mv (.t x1)))
 (.h .no (.ye x26) (.P (.bin .rem (.t x24) (.t x25)))
 (.h .no (.ye x7) (.P (.mv (.t x23)))
 (.h .no (.ye x8) (.P (.mv (.t x26)))
 .nil)))))))))
 (.seq (.seq (.ops (.m x27 x8
 (.p x28 (.bin .neq (.t x27) (.c (.p 0)))
 (.m x29 x28
 (.cons (.ye x29 true) (.ye x30) (.P (.mv (.t x8)))
 (.cons (.ye x29 true) (.ye x31) (.P (.bin .lss (.t x30) (.c (.p 0))))
 (.cons (.ye x29 true) (.ye x32) (.P (.mv (.t x1)))
 (.cons (.ye x29 true) (.ye x33) (.P (.bin .lss (.t x32) (.c (.p 0))))
 (.cons (.ye x29 true) (.ye x34) (.P (.eqv 1 true (.t x31) (.t x33)))
 (.p x35 (.pick (.t x29) (.t x34) (.c (.b false)))
 .nil))))))))))
 (.cond (.t x35) (.ops (.m x36 x7
 (.p x37 (.bin .sub (.t x36) (.c (.p 1)))
 (.m x38 x8
 (.m x39 x1
 (.p x40 (.bin .add (.t x38) (.t x39))
 (.m x7 x37
 (.m x8 x40
 .nil))))))))
 .skip))
 (.seq (.ops (.m x41 x7
 (.m x42 x8
 (.m x4 x41
 (.m x5 x42
 (.p x6 (.mv (.c (.p 0)))
 .nil))))))
 .ret)))))
def a108 : AF := .fn (ps16.take 43) b108 (.many [(.t x4), (.t x5), (.t x6)])
def b109 : ACode := (.seq (.ops (.p x4 (.mv (.c (.b false)))
 .nil))
 (.seq (.draw (.h .no (.ye x5) (.L (.l (.one (.t x1))))
 (.h .no (.ye x6) (.P (.nck (.t x5)))
 (.h .no (.ye x7) (.P (.fa (.t x6) 0))
 (.h .no (.ye x8) (.L (.l (.one (.t x7))))
 (.h .no (.ye x9) (.P (.mv (.t x0)))
 (.h .no (.ye x11) (.L (.l (.one (.t x2))))
 (.c .no (.ye x10) (.S 30 [(.t x8), (.t x9)]) (.cons .no (.l (.one (.t x2))) x11 .nil)
 (.h .no (.ye x12) (.P (.bin .eql (.t x10) (.t x11)))
 (.h .no (.ye x4) (.P (.mv (.t x12)))
 .nil))))))))))
 .ret))
def a109 : AF := .fn (ps16.take 13) b109 (.one x4)
def b110 : ACode := (.seq (.ops (.cons .no (.ye x4) (.W (.al (.cons (.p 0) (.cons (.s 0 0) (.cons (.p 0) (.cons .ns (.cons .ns (.cons .ns .nil))))))))
 (.p x5 (.mv (.c (.p 0)))
 (.p x6 (.mv (.c (.p 0)))
 .nil))))
 (.seq (.ops (.m x13 x0
 (.s x14 117 [(.t x13)]
 (.m x12 x14
 (.p x15 (.ex (.t x12) 0)
 (.p x16 (.ex (.t x12) 1)
 (.p x17 (.ex (.t x12) 2)
 (.m x7 x15
 (.m x8 x16
 (.m x9 x17
 .nil))))))))))
 (.seq (.seq (.ops (.m x18 x9
 (.p x19 (.bin .neq (.t x18) (.c (.p 0)))
 .nil)))
 (.cond (.t x19) (.seq (.ops (.p x20 (.bd (.cons (.p 0) (.cons (.s 0 0) (.cons (.p 0) (.cons .ns (.cons .ns (.cons .ns .nil)))))) [])
 (.m x21 x8
 (.m x22 x9
 (.cons .no .no (.W (.st (.t x4) 6 (.t x20)))
 (.m x5 x21
 (.m x6 x22
 .nil)))))))
 .ret)
 .skip))
 (.seq (.ops (.m x23 x7
 (.p x24 (.bd (.cons .ns (.cons (.p 0) (.cons (.p 0) (.cons (.p 0) .nil)))) [(0, 1, (.t x23))])
 (.cons .no (.ye x25) (.W (.bx (.t x24)))
 (.m x10 x25
 .nil)))))
 (.seq (.ops (.m x26 x1
 (.m x27 x10
 (.cons .no (.ye x28) (.V (.t x26) [(.t x27)])
 (.cons .no (.ye x11) (.W (.al (.cons (.p 0) (.cons (.s 0 0) (.cons (.p 0) (.cons .ns (.cons .ns (.cons .ns .nil))))))))
 (.cons .no .no (.W (.st (.t x11) 6 (.t x28)))
 .nil))))))
 (.seq (.ops (.m x29 x10
 (.s x30 118 [(.t x29)]
 (.p x31 (.fa (.t x11) 4)
 (.cons .no .no (.W (.st (.t x31) 1 (.t x30)))
 .nil)))))
 (.seq (.ops (.m x32 x10
 (.s x33 119 [(.t x32)]
 (.p x34 (.fa (.t x11) 5)
 (.cons .no .no (.W (.st (.t x34) 1 (.t x33)))
 .nil)))))
 (.seq (.ops (.m x35 x10
 (.s x36 120 [(.t x35), (.c (.p 0)), (.c (.s 0 0))]
 .nil)))
 (.seq (.seq (.ops (.m x37 x10
 (.p x38 (.nck (.t x37))
 (.p x39 (.fa (.t x38) 3)
 (.l x40 (.t x39)
 (.p x41 (.bin .neq (.t x40) (.c (.p 0)))
 .nil))))))
 (.cond (.t x41) (.seq (.draw (.h .no (.ye x42) (.P (.bd (.cons (.p 0) (.cons (.s 0 0) (.cons (.p 0) (.cons .ns (.cons .ns (.cons .ns .nil)))))) []))
 (.h .no (.ye x43) (.P (.mv (.t x10)))
 (.h .no (.ye x44) (.P (.nck (.t x43)))
 (.h .no (.ye x45) (.P (.fa (.t x44) 2))
 (.h .no (.ye x46) (.L (.l (.one (.t x45))))
 (.h .no (.ye x47) (.P (.mv (.t x10)))
 (.h .no (.ye x48) (.P (.nck (.t x47)))
 (.h .no (.ye x49) (.P (.fa (.t x48) 3))
 (.h .no (.ye x50) (.L (.l (.one (.t x49))))
 (.c .no .no (.W (.st (.t x4) 6 (.t x42))) (.cons .no (.l (.one (.t x45))) x46 (.cons .no (.l (.one (.t x49))) x50 .nil))
 (.h .no (.ye x5) (.P (.mv (.t x46)))
 (.h .no (.ye x6) (.P (.mv (.t x50)))
 .nil)))))))))))))
 .ret)
 .skip))
 (.seq (.ops (.cons .no (.ye x51) (.L (.l (.many (.t x11) 6)))
 (.cons .no .no (.W (.st (.t x4) 6 (.t x51)))
 (.p x5 (.mv (.c (.p 0)))
 (.p x6 (.mv (.c (.p 0)))
 .nil)))))
 .ret))))))))))
def a110 : AF := .fn (ps16.take 52) b110 (.many [(.c (.many (.t x4) 6)), (.t x5), (.t x6)])
def b111 : ACode := (.seq (.ops (.cons .no (.ye x2) (.W (.al (.cons (.p 0) (.cons (.s 0 0) (.cons (.p 0) (.cons .ns (.cons .ns (.cons .ns .nil))))))))
 .nil))
 (.seq (.ops (.p x4 (.bd (.cons (.p 0) (.cons (.s 0 0) (.cons (.p 0) (.cons .ns (.cons .ns (.cons .ns .nil)))))) [(0, 1, (.c (.p 11)))])
 (.cons .no (.ye x3) (.W (.al (.cons (.p 0) (.cons (.s 0 0) (.cons (.p 0) (.cons .ns (.cons .ns (.cons .ns .nil))))))))
 (.cons .no .no (.W (.st (.t x3) 6 (.t x4)))
 .nil))))
 (.seq (.ops (.m x5 x0
 (.s x6 121 [(.t x5), (.t x3)]
 .nil)))
 (.seq (.ops (.m x7 x0
 (.s x8 122 [(.t x7)]
 (.p x9 (.fa (.t x3) 2)
 (.cons .no .no (.W (.st (.t x9) 1 (.t x8)))
 .nil)))))
 (.seq (.ops (.cons .no (.ye x10) (.L (.l (.many (.t x3) 6)))
 (.cons .no .no (.W (.st (.t x2) 6 (.t x10)))
 .nil)))
 .ret)))))
def a111 : AF := .fn (ps16.take 11) b111 (.onec (.many (.t x2) 6))
def b112 : ACode := (.seq (.ops (.cons .no (.ye x3) (.W (.bx (.t x0)))
 (.cons .no (.ye x6) (.W (.al (.cons (.s 0 0) (.cons (.p 0) (.cons (.p 0) (.cons (.p 0) (.cons .ns (.cons .ns .nil))))))))
 (.p x7 (.mv (.c (.s 0 0)))
 (.p x8 (.mv (.c (.p 0)))
 .nil)))))
 (.seq (.seq (.ops (.p x14 (.fa (.t x3) 0)
 (.l x15 (.t x14)
 (.p x16 (.bin .neq (.t x15) (.c (.p 11)))
 (.m x17 x16
 (.cons (.ye x17 false) (.ye x18) (.P (.mv (.t x1)))
 (.cons (.ye x17 false) (.ye x19) (.P (.lnX (.t x18)))
 (.cons (.ye x17 false) (.ye x20) (.P (.bin .gtr (.t x19) (.c (.p 8))))
 (.p x21 (.pick (.t x17) (.c (.b true)) (.t x20))
 .nil)))))))))
 (.cond (.t x21) (.seq (.ops (.p x22 (.bd (.cons (.s 0 0) (.cons (.p 0) (.cons (.p 0) (.cons (.p 0) (.cons .ns (.cons .ns .nil)))))) [])
 (.cons .no .no (.W (.st (.t x6) 6 (.t x22)))
 (.p x7 (.mv (.c (.s 0 0)))
 (.p x8 (.mv (.c (.p 1)))
 .nil)))))
 .ret)
 .skip))
 (.seq (.ops (.p x23 (.fa (.t x3) 1)
 (.l x24 (.t x23)
 (.p x25 (.fa (.t x3) 3)
 (.l x26 (.t x25)
 (.p x27 (.lnX (.t x26))
 (.p x28 (.fa (.t x3) 2)
 (.l x29 (.t x28)
 (.p x30 (.bd (.cons (.s 0 0) (.cons (.p 0) (.cons (.p 0) (.cons (.p 0) (.cons .ns (.cons .ns .nil)))))) [(0, 1, (.t x24)), (1, 1, (.t x27)), (3, 1, (.t x29))])
 (.p x31 (.bd (.cons (.s 0 0) (.cons (.p 0) (.cons (.p 0) (.cons (.p 0) (.cons .ns (.cons .ns (.cons .ns (.cons (.s 0 0) (.cons (.p 0) .nil))))))))) [(0, 6, (.t x30))])
 (.cons .no (.ye x32) (.W (.bx (.t x31)))
 (.m x9 x32
 .nil))))))))))))
 (.seq (.seq (.ops (.m x33 x1
 (.p x34 (.lnX (.t x33))
 (.p x35 (.mv (.c (.p 0)))
 .nil))))
 (.blk 0 (.loop (.seq (.ops (.p x36 (.bin .lss (.t x35) (.t x34))
 .nil))
 (.seq (.cond (.t x36) .skip
 (.exit 0))
 (.seq (.blk 1 (.seq (.ops (.m x37 x35
 (.p x38 (.ia (.t x33) (.t x35) 1)
 (.l x39 (.t x38)
 (.m x10 x37
 (.m x11 x39
 .nil))))))
 (.ops (.m x40 x9
 (.m x41 x9
 (.p x42 (.nck (.t x41))
 (.p x43 (.fa (.t x42) 6)
 (.l x44 (.t x43)
 (.m x45 x11
 (.m x46 x10
 (.p x47 (.bd (.cons (.s 0 0) (.cons (.b false) (.cons (.b false) (.cons (.p 0) .nil)))) [(0, 1, (.t x45)), (1, 1, (.c (.b true))), (2, 1, (.c (.b false))), (3, 1, (.t x46))])
 (.cons .no (.ye x48) (.W (.bs (.cons (.s 0 0) (.cons (.b false) (.cons (.b false) (.cons (.p 0) .nil)))) 1 [(0, 4, (.t x47))]))
 (.cons .no (.ye x49) (.W (.app 4 32 (.t x44) (.t x48)))
 (.p x50 (.nck (.t x40))
 (.p x51 (.fa (.t x50) 6)
 (.cons .no .no (.W (.st (.t x51) 1 (.t x49)))
 .nil))))))))))))))))
 (.ops (.p x52 (.bin .add (.t x35) (.c (.p 1)))
 (.m x35 x52
 .nil)))))))))
 (.seq (.ops (.m x53 x9
 (.cons .no (.ye x54) (.L (.l (.many (.t x3) 6)))
 (.m x55 x2
 (.s x56 123 [(.t x53), (.t x54), (.t x55)]
 .nil)))))
 (.seq (.blk 2 (.seq (.ops (.m x58 x9
 (.p x59 (.nck (.t x58))
 (.p x60 (.fa (.t x59) 8)
 (.l x61 (.t x60)
 (.p x62 (.bin .neq (.t x61) (.c (.p 0)))
 (.m x57 x62
 .nil)))))))
 (.cond (.t x57) (.seq (.draw (.h .no (.ye x63) (.P (.bd (.cons (.s 0 0) (.cons (.p 0) (.cons (.p 0) (.cons (.p 0) (.cons .ns (.cons .ns .nil)))))) []))
 (.h .no (.ye x64) (.P (.mv (.t x9)))
 (.h .no (.ye x65) (.P (.nck (.t x64)))
 (.h .no (.ye x66) (.P (.fa (.t x65) 7))
 (.h .no (.ye x67) (.L (.l (.one (.t x66))))
 (.h .no (.ye x68) (.P (.mv (.t x9)))
 (.h .no (.ye x69) (.P (.nck (.t x68)))
 (.h .no (.ye x70) (.P (.fa (.t x69) 8))
 (.h .no (.ye x71) (.L (.l (.one (.t x70))))
 (.c .no .no (.W (.st (.t x6) 6 (.t x63))) (.cons .no (.l (.one (.t x66))) x67 (.cons .no (.l (.one (.t x70))) x71 .nil))
 (.h .no (.ye x7) (.P (.mv (.t x67)))
 (.h .no (.ye x8) (.P (.mv (.t x71)))
 .nil)))))))))))))
 .ret)
 (.seq (.ops (.m x73 x9
 (.p x74 (.nck (.t x73))
 (.p x75 (.fa (.t x74) 0)
 (.p x76 (.fa (.t x75) 4)
 (.l x77 (.t x76)
 (.p x78 (.lnX (.t x77))
 (.p x79 (.bin .gtr (.t x78) (.c (.p 60)))
 (.m x72 x79
 .nil)))))))))
 (.cond (.t x72) (.seq (.ops (.p x80 (.bd (.cons (.s 0 0) (.cons (.p 0) (.cons (.p 0) (.cons (.p 0) (.cons .ns (.cons .ns .nil)))))) [])
 (.cons .no .no (.W (.st (.t x6) 6 (.t x80)))
 (.p x7 (.mv (.c (.s 0 0)))
 (.p x8 (.mv (.c (.p 18)))
 .nil)))))
 .ret)
 (.seq (.ops (.m x82 x9
 (.p x83 (.nck (.t x82))
 (.p x84 (.fa (.t x83) 0)
 (.p x85 (.fa (.t x84) 5)
 (.l x86 (.t x85)
 (.p x87 (.lnX (.t x86))
 (.p x88 (.bin .gtr (.t x87) (.c (.p 400)))
 (.m x81 x88
 .nil)))))))))
 (.cond (.t x81) (.seq (.ops (.p x89 (.bd (.cons (.s 0 0) (.cons (.p 0) (.cons (.p 0) (.cons (.p 0) (.cons .ns (.cons .ns .nil)))))) [])
 (.cons .no .no (.W (.st (.t x6) 6 (.t x89)))
 (.p x7 (.mv (.c (.s 0 0)))
 (.p x8 (.mv (.c (.p 12)))
 .nil)))))
 .ret)
 .skip)))))))
 (.seq (.seq (.ops (.m x90 x9
 (.p x91 (.nck (.t x90))
 (.p x92 (.fa (.t x91) 0)
 (.p x93 (.fa (.t x92) 5)
 (.l x94 (.t x93)
 (.p x95 (.lnX (.t x94))
 (.p x96 (.mv (.c (.p 0)))
 .nil))))))))
 (.blk 3 (.loop (.seq (.ops (.p x97 (.bin .lss (.t x96) (.t x95))
 .nil))
 (.seq (.cond (.t x97) .skip
 (.exit 3))
 (.seq (.blk 4 (.seq (.ops (.p x98 (.ia (.t x94) (.t x96) 3)
 (.cons .no (.ye x99) (.L (.l (.many (.t x98) 3)))
 (.cons .no (.ye x13) (.W (.al (.cons (.p 0) (.cons (.p 0) (.cons (.p 0) .nil)))))
 (.cons .no .no (.W (.st (.t x13) 3 (.t x99)))
 .nil)))))
 (.seq (.ops (.cons .no (.ye x100) (.L (.l (.many (.t x13) 3)))
 (.s x101 124 [(.t x100)]
 (.p x102 (.nt (.t x101))
 .nil))))
 (.cond (.t x102) (.seq (.ops (.p x103 (.bd (.cons (.s 0 0) (.cons (.p 0) (.cons (.p 0) (.cons (.p 0) (.cons .ns (.cons .ns .nil)))))) [])
 (.cons .no .no (.W (.st (.t x6) 6 (.t x103)))
 (.p x7 (.mv (.c (.s 0 0)))
 (.p x8 (.mv (.c (.p 12)))
 .nil)))))
 .ret)
 .skip))))
 (.ops (.p x104 (.bin .add (.t x96) (.c (.p 1)))
 (.m x96 x104
 .nil)))))))))
 (.seq (.ops (.m x105 x9
 (.p x106 (.nck (.t x105))
 (.p x107 (.fa (.t x106) 0)
 (.cons .no (.ye x108) (.L (.l (.many (.t x107) 6)))
 (.cons .no .no (.W (.st (.t x6) 6 (.t x108)))
 (.p x7 (.mv (.c (.s 0 0)))
 (.p x8 (.mv (.c (.p 0)))
 .nil))))))))
 .ret))))))))
def a112 : AF := .fn (ps16.take 109) b112 (.many [(.c (.many (.t x6) 6)), (.t x7), (.t x8)])
def b113 : ACode := (.seq (.ops (.cons .no (.ye x5) (.W (.bx (.t x2)))
 (.p x6 (.mv (.c (.p 0)))
 (.p x7 (.mv (.c (.p 0)))
 .nil))))
 (.seq (.seq (.ops (.m x15 x0
 (.m x16 x1
 (.s x17 67 [(.t x15), (.t x16)]
 (.p x18 (.nt (.t x17))
 .nil)))))
 (.cond (.t x18) (.seq (.ops (.p x6 (.mv (.c (.p 0)))
 (.p x7 (.mv (.c (.p 24)))
 .nil)))
 .ret)
 .skip))
 (.seq (.seq (.draw (.h .no (.ye x19) (.L (.l (.many (.t x5) 6)))
 (.h .no (.ye x20) (.P (.mv (.t x0)))
 (.h .no (.ye x21) (.P (.mv (.t x1)))
 (.c .no (.ye x22) (.S 37 [(.t x20), (.t x21)]) (.cons .no (.l (.many (.t x5) 6)) x19 .nil)
 (.c .no (.ye x23) (.S 125 [(.t x19), (.t x22)]) .nil
 (.h .no (.ye x8) (.P (.mv (.t x23)))
 .nil)))))))
 (.seq (.ops (.m x24 x8
 (.p x25 (.bin .neq (.t x24) (.c (.p 0)))
 .nil)))
 (.cond (.t x25) (.seq (.ops (.m x26 x8
 (.p x6 (.mv (.c (.p 0)))
 (.m x7 x26
 .nil))))
 .ret)
 .skip)))
 (.seq (.ops (.m x28 x0
 (.p x29 (.fa (.t x5) 0)
 (.l x30 (.t x29)
 (.s x31 44 [(.t x28), (.t x30)]
 (.m x27 x31
 (.p x32 (.ex (.t x27) 0)
 (.p x33 (.ex (.t x27) 1)
 (.m x9 x32
 (.m x10 x33
 .nil))))))))))
 (.seq (.seq (.ops (.m x34 x10
 (.p x35 (.bin .neq (.t x34) (.c (.p 0)))
 .nil)))
 (.cond (.t x35) (.seq (.ops (.m x36 x10
 (.p x6 (.mv (.c (.p 0)))
 (.m x7 x36
 .nil))))
 .ret)
 .skip))
 (.seq (.ops (.m x38 x0
 (.p x39 (.fa (.t x5) 4)
 (.l x40 (.t x39)
 (.p x41 (.bd (.cons (.p 0) (.cons (.s 0 0) (.cons (.p 0) (.cons .ns .nil)))) [(0, 1, (.c (.p 4))), (3, 1, (.t x40))])
 (.s x42 126 [(.t x38), (.t x41)]
 (.m x37 x42
 (.p x43 (.ex (.t x37) 0)
 (.p x44 (.ex (.t x37) 1)
 (.m x11 x43
 (.m x10 x44
 .nil)))))))))))
 (.seq (.seq (.ops (.m x45 x10
 (.p x46 (.bin .neq (.t x45) (.c (.p 0)))
 .nil)))
 (.cond (.t x46) (.seq (.ops (.m x47 x10
 (.p x6 (.mv (.c (.p 0)))
 (.m x7 x47
 .nil))))
 .ret)
 .skip))
 (.seq (.ops (.p x49 (.fa (.t x5) 5)
 (.l x50 (.t x49)
 (.s x51 127 [(.t x50)]
 (.m x48 x51
 (.p x52 (.ex (.t x48) 0)
 (.p x53 (.ex (.t x48) 1)
 (.m x12 x52
 (.m x13 x53
 .nil)))))))))
 (.seq (.ops (.m x55 x0
 (.m x56 x12
 (.s x57 128 [(.t x55), (.t x56)]
 (.m x54 x57
 (.p x58 (.ex (.t x54) 0)
 (.p x59 (.ex (.t x54) 1)
 (.m x14 x58
 (.m x10 x59
 .nil)))))))))
 (.seq (.seq (.ops (.m x60 x10
 (.p x61 (.bin .neq (.t x60) (.c (.p 0)))
 .nil)))
 (.cond (.t x61) (.seq (.ops (.m x62 x10
 (.p x6 (.mv (.c (.p 0)))
 (.m x7 x62
 .nil))))
 .ret)
 .skip))
 (.seq (.draw (.h .no (.ye x63) (.P (.mv (.t x0)))
 (.h .no (.ye x64) (.P (.mv (.t x0)))
 (.h .no (.ye x66) (.P (.mv (.t x9)))
 (.h .no (.ye x67) (.P (.fa (.t x5) 1))
 (.h .no (.ye x68) (.L (.l (.one (.t x67))))
 (.h .no (.ye x70) (.P (.fa (.t x5) 2))
 (.h .no (.ye x71) (.L (.l (.one (.t x70))))
 (.h .no (.ye x73) (.P (.fa (.t x5) 3))
 (.h .no (.ye x74) (.L (.l (.one (.t x73))))
 (.h .no (.ye x76) (.P (.mv (.t x11)))
 (.h .no (.ye x77) (.P (.mv (.t x14)))
 (.h .no (.ye x78) (.P (.mv (.t x1)))
 (.c .no (.ye x65) (.S 30 [(.t x64), (.c (.p 14))]) (.cons .no (.l (.one (.t x67))) x68 (.cons .no (.l (.one (.t x70))) x71 (.cons .no (.l (.one (.t x73))) x74 .nil)))
 (.c .no (.ye x69) (.S 71 [(.t x68)]) (.cons .no (.l (.one (.t x70))) x71 (.cons .no (.l (.one (.t x73))) x74 .nil))
 (.c .no (.ye x72) (.S 71 [(.t x71)]) (.cons .no (.l (.one (.t x73))) x74 .nil)
 (.c .no (.ye x75) (.S 71 [(.t x74)]) .nil
 (.c .no (.ye x79) (.W (.bs (.cons (.p 0) (.cons (.p 0) (.cons (.p 0) (.cons (.p 0) (.cons (.p 0) (.cons (.p 0) (.cons (.p 0) .nil))))))) 7 [(0, 1, (.t x66)), (1, 1, (.t x69)), (2, 1, (.t x72)), (3, 1, (.t x75)), (4, 1, (.t x76)), (5, 1, (.t x77)), (6, 1, (.t x78))])) .nil
 (.c .no (.ye x80) (.S 82 [(.t x63), (.t x65), (.c (.p 0)), (.t x79)]) .nil
 (.h .no (.ye x81) (.P (.ex (.t x80) 0))
 (.h .no (.ye x82) (.P (.ex (.t x80) 1))
 (.h .no (.ye x6) (.P (.mv (.t x81)))
 (.h .no (.ye x7) (.P (.mv (.t x82)))
 .nil)))))))))))))))))))))))
 .ret)))))))))))
def a113 : AF := .fn (ps16.take 83) b113 (.many [(.t x6), (.t x7)])
def b114 : ACode := (.seq (.ops (.p x8 (.mv (.c (.p 0)))
 .nil))
 (.seq (.ops (.m x13 x0
 (.m x14 x1
 (.s x15 51 [(.t x13), (.t x14), (.c (.p 4))]
 (.m x9 x15
 .nil)))))
 (.seq (.seq (.ops (.m x16 x0
 (.p x17 (.nck (.t x16))
 (.p x18 (.fa (.t x17) 0)
 (.l x19 (.t x18)
 (.s x20 102 [(.t x19)]
 (.m x10 x20
 .nil)))))))
 (.blk 0 (.loop (.seq (.seq (.ops (.m x21 x10
 (.p x22 (.bin .gtr (.t x21) (.c (.p 0)))
 (.m x23 x22
 (.cons (.ye x23 true) (.ye x24) (.P (.mv (.t x0)))
 (.cons (.ye x23 true) (.ye x25) (.P (.nck (.t x24)))
 (.cons (.ye x23 true) (.ye x26) (.P (.fa (.t x25) 0))
 (.cons (.ye x23 true) (.ye x27) (.L (.l (.one (.t x26))))
 (.cons (.ye x23 true) (.ye x28) (.P (.mv (.t x9)))
 (.cons (.ye x23 true) (.ye x29) (.S 31 [(.t x27), (.t x28)])
 (.p x30 (.pick (.t x23) (.t x29) (.c (.b false)))
 .nil)))))))))))
 (.cond (.t x30) .skip
 (.exit 0)))
 (.seq (.blk 1 (.seq (.seq (.ops (.m x33 x0
 (.m x34 x0
 (.m x35 x9
 (.s x36 51 [(.t x34), (.t x35), (.c (.p 0))]
 (.s x37 51 [(.t x33), (.t x36), (.c (.p 0))]
 (.m x38 x2
 (.p x39 (.bin .eql (.t x37) (.t x38))
 .nil))))))))
 (.cond (.t x39) (.seq (.ops (.m x40 x0
 (.p x41 (.nck (.t x40))
 (.p x42 (.fa (.t x41) 0)
 (.l x43 (.t x42)
 (.m x44 x9
 (.m x45 x3
 (.s x46 72 [(.t x43), (.t x44), (.c (.p 0)), (.t x45)]
 (.m x8 x46
 .nil)))))))))
 .ret)
 .skip))
 (.ops (.m x47 x0
 (.m x48 x9
 (.s x49 51 [(.t x47), (.t x48), (.c (.p 1))]
 (.m x9 x49
 .nil)))))))
 (.ops (.m x31 x10
 (.p x32 (.bin .sub (.t x31) (.c (.p 1)))
 (.m x10 x32
 .nil)))))))))
 (.seq (.ops (.m x51 x0
 (.m x52 x3
 (.m x53 x0
 (.m x54 x1
 (.s x55 51 [(.t x53), (.t x54), (.c (.p 4))]
 (.s x56 73 [(.t x51), (.t x52), (.t x55)]
 (.m x50 x56
 (.p x57 (.ex (.t x50) 0)
 (.p x58 (.ex (.t x50) 1)
 (.m x11 x57
 (.m x12 x58
 .nil))))))))))))
 (.seq (.seq (.ops (.m x59 x12
 (.p x60 (.bin .neq (.t x59) (.c (.p 0)))
 .nil)))
 (.cond (.t x60) (.seq (.ops (.m x61 x12
 (.m x8 x61
 .nil)))
 .ret)
 .skip))
 (.seq (.ops (.m x62 x0
 (.p x63 (.nck (.t x62))
 (.p x64 (.fa (.t x63) 0)
 (.l x65 (.t x64)
 (.m x66 x1
 (.m x67 x11
 (.s x68 72 [(.t x65), (.t x66), (.c (.p 4)), (.t x67)]
 (.m x8 x68
 .nil)))))))))
 .ret))))))
def a114 : AF := .fn (ps16.take 69) b114 (.one x8)
def b117 : ACode := (.seq (.ops (.p x2 (.mv (.c .ns))
 (.p x3 (.mv (.c (.p 0)))
 (.p x4 (.mv (.c (.p 0)))
 .nil))))
 (.seq (.seq (.ops (.m x10 x0
 (.p x11 (.lnS (.t x10))
 (.p x12 (.bin .gtr (.t x11) (.c (.p 2000)))
 .nil))))
 (.cond (.t x12) (.seq (.ops (.p x2 (.mv (.c .ns))
 (.p x3 (.mv (.c (.p 0)))
 (.p x4 (.mv (.c (.p 12)))
 .nil))))
 .ret)
 .skip))
 (.seq (.ops (.m x13 x0
 (.p x14 (.bd (.cons (.s 0 0) (.cons (.p 0) .nil)) [(0, 1, (.t x13))])
 (.cons .no (.ye x15) (.W (.bx (.t x14)))
 (.m x5 x15
 .nil)))))
 (.seq (.ops (.p x6 (.mv (.c .ns))
 .nil))
 (.seq .skip
 (.seq (.blk 0 (.loop (.blk 1 (.seq (.ops (.m x16 x5
 (.s x17 130 [(.c (.s 4 537725449))]
 (.m x18 x0
 (.p x19 (.lnS (.t x18))
 (.s x20 129 [(.t x16), (.t x17), (.t x19)]
 .nil))))))
 (.seq (.blk 2 (.seq (.ops (.m x22 x5
 (.p x23 (.nck (.t x22))
 (.p x24 (.fa (.t x23) 1)
 (.l x25 (.t x24)
 (.m x26 x0
 (.p x27 (.lnS (.t x26))
 (.p x28 (.bin .geq (.t x25) (.t x27))
 (.m x21 x28
 .nil)))))))))
 (.cond (.t x21) (.exit 0)
 (.seq (.ops (.m x30 x0
 (.m x31 x5
 (.p x32 (.nck (.t x31))
 (.p x33 (.fa (.t x32) 1)
 (.l x34 (.t x33)
 (.p x35 (.ixs (.t x30) (.t x34))
 (.p x36 (.bin .eql (.t x35) (.c (.w .u8 34)))
 (.m x29 x36
 .nil)))))))))
 (.cond (.t x29) (.seq (.ops (.m x37 x0
 (.m x38 x5
 (.p x39 (.nck (.t x38))
 (.p x40 (.fa (.t x39) 1)
 (.l x41 (.t x40)
 (.p x42 (.bin .add (.t x41) (.c (.p 1)))
 (.p x43 (.sls (.t x37) (some (.t x42)) none)
 (.s x44 131 [(.t x43), (.c (.w .u8 34))]
 (.m x7 x44
 .nil))))))))))
 (.seq (.seq (.ops (.m x45 x7
 (.p x46 (.bin .lss (.t x45) (.c (.p 0)))
 .nil)))
 (.cond (.t x46) (.seq (.draw (.h .no (.ye x47) (.P (.mv (.t x5)))
 (.h .no (.ye x48) (.P (.nck (.t x47)))
 (.h .no (.ye x49) (.P (.fa (.t x48) 1))
 (.h .no (.ye x50) (.L (.l (.one (.t x49))))
 (.h .no (.ye x2) (.P (.mv (.c .ns)))
 (.h .no (.ye x3) (.P (.mv (.t x50)))
 (.h .no (.ye x4) (.P (.mv (.c (.p 11))))
 .nil))))))))
 .ret)
 .skip))
 (.seq (.ops (.m x51 x5
 (.p x52 (.nck (.t x51))
 (.p x53 (.fa (.t x52) 1)
 (.l x54 (.t x53)
 (.m x55 x7
 (.p x56 (.bin .add (.t x55) (.c (.p 2)))
 (.p x57 (.bin .add (.t x54) (.t x56))
 (.p x58 (.nck (.t x51))
 (.p x59 (.fa (.t x58) 1)
 (.cons .no .no (.W (.st (.t x59) 1 (.t x57)))
 .nil)))))))))))
 (.exit 1))))
 .skip)))))
 (.seq (.ops (.m x61 x5
 (.s x62 132 [(.t x61)]
 (.m x60 x62
 (.p x63 (.ex (.t x60) 0)
 (.p x64 (.ex (.t x60) 1)
 (.cons .no (.ye x8) (.W (.al (.cons (.p 0) (.cons (.s 0 0) (.cons (.p 0) (.cons (.p 0) .nil))))))
 (.cons .no .no (.W (.st (.t x8) 4 (.t x63)))
 (.m x9 x64
 .nil)))))))))
 (.seq (.seq (.ops (.m x65 x9
 (.p x66 (.bin .neq (.t x65) (.c (.p 0)))
 .nil)))
 (.cond (.t x66) (.seq (.draw (.h .no (.ye x67) (.P (.fa (.t x8) 3))
 (.h .no (.ye x68) (.L (.l (.one (.t x67))))
 (.h .no (.ye x69) (.P (.mv (.t x9)))
 (.h .no (.ye x2) (.P (.mv (.c .ns)))
 (.h .no (.ye x3) (.P (.mv (.t x68)))
 (.h .no (.ye x4) (.P (.mv (.t x69)))
 .nil)))))))
 .ret)
 .skip))
 (.ops (.m x70 x6
 (.cons .no (.ye x71) (.L (.l (.many (.t x8) 4)))
 (.cons .no (.ye x72) (.W (.bs (.cons (.p 0) (.cons (.s 0 0) (.cons (.p 0) (.cons (.p 0) .nil)))) 1 [(0, 4, (.t x71))]))
 (.cons .no (.ye x73) (.W (.app 4 40 (.t x70) (.t x72)))
 (.m x6 x73
 .nil)))))))))))))
 (.seq (.ops (.m x74 x6
 (.m x75 x0
 (.p x76 (.lnS (.t x75))
 (.p x77 (.bd (.cons (.p 0) (.cons (.s 0 0) (.cons (.p 0) (.cons (.p 0) .nil)))) [(3, 1, (.t x76))])
 (.cons .no (.ye x78) (.W (.bs (.cons (.p 0) (.cons (.s 0 0) (.cons (.p 0) (.cons (.p 0) .nil)))) 1 [(0, 4, (.t x77))]))
 (.cons .no (.ye x79) (.W (.app 4 40 (.t x74) (.t x78)))
 (.m x2 x79
 (.p x3 (.mv (.c (.p 0)))
 (.p x4 (.mv (.c (.p 0)))
 .nil))))))))))
 .ret)))))))
def a117 : AF := .fn (ps16.take 80) b117 (.many [(.t x2), (.t x3), (.t x4)])
def b118 : ACode := (.seq (.ops (.p x2 (.mv (.c .ns))
 .nil))
 (.seq (.ops (.p x3 (.mv (.c .ns))
 .nil))
 (.seq (.seq (.ops (.m x4 x0
 (.s x5 133 [(.t x4), (.c (.p 10)), (.c (.s 1 124))]
 (.p x6 (.nt (.t x5))
 .nil))))
 (.cond (.t x6) (.seq (.ops (.p x2 (.mv (.c .ns))
 .nil))
 .ret)
 .skip))
 (.seq (.ops (.m x7 x0
 (.s x8 134 [(.t x7)]
 .nil)))
 (.seq (.blk 0 (.loop (.seq (.seq (.ops (.m x9 x0
 (.s x10 133 [(.t x9), (.c (.p 1)), (.c (.s 0 0))]
 .nil)))
 (.cond (.t x10) .skip
 (.exit 0)))
 (.blk 1 (.ops (.m x11 x3
 (.m x12 x0
 (.s x13 134 [(.t x12)]
 (.p x14 (.fd (.t x13) 1)
 (.cons .no (.ye x15) (.W (.bs (.cons (.s 0 0) .nil) 1 [(0, 1, (.t x14))]))
 (.cons .no (.ye x16) (.W (.app 1 16 (.t x11) (.t x15)))
 (.m x3 x16
 .nil))))))))))))
 (.seq (.ops (.m x17 x0
 (.s x18 120 [(.t x17), (.c (.p 10)), (.c (.s 1 124))]
 .nil)))
 (.seq (.ops (.m x19 x3
 (.m x2 x19
 .nil)))
 .ret)))))))
def a118 : AF := .fn (ps16.take 20) b118 (.one x2)
def b119 : ACode := (.seq (.ops (.p x2 (.mv (.c .ns))
 .nil))
 (.seq (.ops (.p x3 (.mv (.c .ns))
 .nil))
 (.seq (.blk 0 (.loop (.seq (.seq (.ops (.m x4 x0
 (.p x5 (.nck (.t x4))
 (.p x6 (.fa (.t x5) 3)
 (.l x7 (.t x6)
 (.p x8 (.bin .eql (.t x7) (.c (.p 0)))
 (.m x9 x8
 (.cons (.ye x9 true) (.ye x10) (.P (.mv (.t x0)))
 (.cons (.ye x9 true) (.ye x11) (.S 133 [(.t x10), (.c (.p 0)), (.c (.s 0 0))])
 (.cons (.ye x9 true) (.ye x12) (.P (.nt (.t x11)))
 (.p x13 (.pick (.t x9) (.t x12) (.c (.b false)))
 (.m x14 x13
 (.cons (.ye x14 true) (.ye x15) (.P (.mv (.t x0)))
 (.cons (.ye x14 true) (.ye x16) (.S 133 [(.t x15), (.c (.p 10)), (.c (.s 1 93))])
 (.cons (.ye x14 true) (.ye x17) (.P (.nt (.t x16)))
 (.p x18 (.pick (.t x14) (.t x17) (.c (.b false)))
 .nil))))))))))))))))
 (.cond (.t x18) .skip
 (.exit 0)))
 (.blk 1 (.seq (.seq (.ops (.m x19 x0
 (.s x20 133 [(.t x19), (.c (.p 10)), (.c (.s 1 94))]
 .nil)))
 (.cond (.t x20) (.seq (.ops (.m x21 x0
 (.s x22 134 [(.t x21)]
 .nil)))
 (.seq (.ops (.m x23 x3
 (.m x24 x0
 (.s x25 135 [(.t x24)]
 (.cons .no (.ye x26) (.W (.bs (.cons (.p 0) (.cons (.s 0 0) (.cons (.p 0) (.cons .ns (.cons .ns (.cons .ns .nil)))))) 1 [(0, 6, (.t x25))]))
 (.p x27 (.bd (.cons (.p 0) (.cons (.s 0 0) (.cons (.p 0) (.cons .ns (.cons .ns (.cons .ns .nil)))))) [(0, 1, (.c (.p 10))), (5, 1, (.t x26))])
 (.cons .no (.ye x28) (.W (.bs (.cons (.p 0) (.cons (.s 0 0) (.cons (.p 0) (.cons .ns (.cons .ns (.cons .ns .nil)))))) 1 [(0, 6, (.t x27))]))
 (.cons .no (.ye x29) (.W (.app 6 104 (.t x23) (.t x28)))
 (.m x3 x29
 .nil)))))))))
 (.seq (.seq (.ops (.m x30 x0
 (.s x31 133 [(.t x30), (.c (.p 10)), (.c (.s 1 46))]
 .nil)))
 (.cond (.t x31) (.ops (.m x32 x0
 (.s x33 134 [(.t x32)]
 .nil)))
 .skip))
 (.seq (.ops (.m x34 x3
 (.m x2 x34
 .nil)))
 .ret))))
 .skip))
 (.seq (.ops (.m x35 x3
 (.m x36 x0
 (.s x37 135 [(.t x36)]
 (.cons .no (.ye x38) (.W (.bs (.cons (.p 0) (.cons (.s 0 0) (.cons (.p 0) (.cons .ns (.cons .ns (.cons .ns .nil)))))) 1 [(0, 6, (.t x37))]))
 (.cons .no (.ye x39) (.W (.app 6 104 (.t x35) (.t x38)))
 (.m x3 x39
 .nil)))))))
 (.seq (.seq (.ops (.m x40 x0
 (.s x41 133 [(.t x40), (.c (.p 10)), (.c (.s 1 46))]
 (.p x42 (.nt (.t x41))
 .nil))))
 (.cond (.t x42) (.seq (.ops (.m x43 x3
 (.m x2 x43
 .nil)))
 .ret)
 .skip))
 (.ops (.m x44 x0
 (.s x45 134 [(.t x44)]
 .nil))))))))))
 (.seq (.ops (.m x46 x3
 (.m x2 x46
 .nil)))
 .ret))))
def a119 : AF := .fn (ps16.take 47) b119 (.one x2)
def b120 : ACode := (.seq (.ops (.cons .no (.ye x6) (.W (.al (.cons (.p 0) (.cons (.s 0 0) (.cons (.p 0) (.cons (.p 0) .nil))))))
 .nil))
 (.seq (.seq (.ops (.m x7 x0
 (.m x8 x1
 (.m x9 x2
 (.s x10 133 [(.t x7), (.t x8), (.t x9)]
 (.p x11 (.nt (.t x10))
 .nil))))))
 (.cond (.t x11) (.seq (.ops (.m x12 x0
 (.m x13 x0
 (.s x14 137 [(.t x13), (.c (.p 0))]
 (.s x15 136 [(.t x12), (.t x14), (.c (.p 13))]
 .nil)))))
 (.seq (.ops (.p x16 (.bd (.cons (.p 0) (.cons (.s 0 0) (.cons (.p 0) (.cons (.p 0) .nil)))) [])
 (.cons .no .no (.W (.st (.t x6) 4 (.t x16)))
 .nil)))
 .ret))
 .skip))
 (.seq (.ops (.m x17 x0
 (.s x18 134 [(.t x17)]
 (.cons .no .no (.W (.st (.t x6) 4 (.t x18)))
 .nil))))
 .ret)))
def a120 : AF := .fn (ps16.take 19) b120 (.onec (.many (.t x6) 4))
def b121 : ACode := (.blk 0 (.seq (.ops (.m x36 x0
 (.s x37 133 [(.t x36), (.c (.p 1)), (.c (.s 0 0))]
 (.m x35 x37
 .nil))))
 (.cond (.t x35) (.ops (.m x38 x1
 (.m x39 x0
 (.s x40 134 [(.t x39)]
 (.p x41 (.fd (.t x40) 1)
 (.p x42 (.nck (.t x38))
 (.p x43 (.fa (.t x42) 1)
 (.cons .no .no (.W (.st (.t x43) 1 (.t x41)))
 .nil))))))))
 (.seq (.ops (.m x45 x0
 (.s x46 133 [(.t x45), (.c (.p 3)), (.c (.s 0 0))]
 (.m x44 x46
 .nil))))
 (.cond (.t x44) (.seq (.ops (.m x47 x1
 (.m x48 x0
 (.s x49 134 [(.t x48)]
 (.p x50 (.fd (.t x49) 1)
 (.p x51 (.nck (.t x47))
 (.p x52 (.fa (.t x51) 1)
 (.cons .no .no (.W (.st (.t x52) 1 (.t x50)))
 .nil))))))))
 (.draw (.h .no (.ye x53) (.P (.mv (.t x1)))
 (.h .no (.ye x54) (.P (.mv (.t x1)))
 (.h .no (.ye x55) (.P (.nck (.t x54)))
 (.h .no (.ye x56) (.P (.fa (.t x55) 3))
 (.h .no (.ye x57) (.L (.l (.one (.t x56))))
 (.h .no (.ye x58) (.P (.mv (.t x0)))
 (.h .no (.ye x59) (.P (.mv (.t x1)))
 (.h .no (.ye x60) (.P (.nck (.t x59)))
 (.h .no (.ye x61) (.P (.fa (.t x60) 3))
 (.h .no (.ye x62) (.L (.l (.one (.t x61))))
 (.c .no (.ye x63) (.S 138 [(.t x58), (.c (.p 1)), (.t x62)]) (.cons .no (.l (.one (.t x56))) x57 .nil)
 (.c .no (.ye x64) (.W (.bs (.cons (.s 0 0) .nil) 1 [(0, 1, (.t x63))])) (.cons .no (.l (.one (.t x56))) x57 .nil)
 (.c .no (.ye x65) (.W (.app 1 16 (.t x57) (.t x64))) .nil
 (.h .no (.ye x66) (.P (.nck (.t x53)))
 (.h .no (.ye x67) (.P (.fa (.t x66) 3))
 (.c .no .no (.W (.st (.t x67) 1 (.t x65))) .nil
 .nil))))))))))))))))))
 (.seq (.ops (.p x4 (.mv (.c (.b true)))
 .nil))
 (.blk 1 (.loop (.seq (.seq (.ops (.m x5 x4
 (.m x6 x5
 (.cons (.ye x6 false) (.ye x7) (.P (.mv (.t x0)))
 (.cons (.ye x6 false) (.ye x8) (.S 133 [(.t x7), (.c (.p 2)), (.c (.s 0 0))])
 (.p x9 (.pick (.t x6) (.c (.b true)) (.t x8))
 .nil))))))
 (.cond (.t x9) .skip
 (.exit 1)))
 (.seq (.blk 2 (.seq (.draw (.h .no (.ye x10) (.P (.mv (.t x1)))
 (.h .no (.ye x11) (.P (.nck (.t x10)))
 (.h .no (.ye x12) (.P (.fa (.t x11) 1))
 (.h .no (.ye x13) (.L (.l (.one (.t x12))))
 (.h .no (.ye x14) (.P (.mv (.t x0)))
 (.c .no (.ye x15) (.S 120 [(.t x14), (.c (.p 2)), (.c (.s 0 0))]) (.cons .no (.l (.one (.t x12))) x13 .nil)
 (.h .no (.ye x16) (.P (.fd (.t x15) 1))
 (.h .no (.ye x17) (.P (.bin .add (.t x13) (.t x16)))
 (.h .no (.ye x18) (.P (.nck (.t x10)))
 (.h .no (.ye x19) (.P (.fa (.t x18) 1))
 (.c .no .no (.W (.st (.t x19) 1 (.t x17))) .nil
 .nil))))))))))))
 (.draw (.h .no (.ye x20) (.P (.mv (.t x1)))
 (.h .no (.ye x21) (.P (.mv (.t x1)))
 (.h .no (.ye x22) (.P (.nck (.t x21)))
 (.h .no (.ye x23) (.P (.fa (.t x22) 3))
 (.h .no (.ye x24) (.L (.l (.one (.t x23))))
 (.h .no (.ye x25) (.P (.mv (.t x0)))
 (.h .no (.ye x26) (.P (.mv (.t x1)))
 (.h .no (.ye x27) (.P (.nck (.t x26)))
 (.h .no (.ye x28) (.P (.fa (.t x27) 3))
 (.h .no (.ye x29) (.L (.l (.one (.t x28))))
 (.c .no (.ye x30) (.S 138 [(.t x25), (.c (.p 1)), (.t x29)]) (.cons .no (.l (.one (.t x23))) x24 .nil)
 (.c .no (.ye x31) (.W (.bs (.cons (.s 0 0) .nil) 1 [(0, 1, (.t x30))])) (.cons .no (.l (.one (.t x23))) x24 .nil)
 (.c .no (.ye x32) (.W (.app 1 16 (.t x24) (.t x31))) .nil
 (.h .no (.ye x33) (.P (.nck (.t x20)))
 (.h .no (.ye x34) (.P (.fa (.t x33) 3))
 (.c .no .no (.W (.st (.t x34) 1 (.t x32))) .nil
 .nil)))))))))))))))))))
 (.ops (.p x4 (.mv (.c (.b false)))
 .nil))))))))))))
def a121 : AF := .fn (ps16.take 68) b121 .none
def b122 : ACode := (.seq (.ops (.p x2 (.mv (.c (.p 0)))
 .nil))
 (.seq (.seq (.ops (.m x4 x0
 (.s x5 133 [(.t x4), (.c (.p 3)), (.c (.s 1 60))]
 (.p x6 (.nt (.t x5))
 .nil))))
 (.cond (.t x6) (.seq (.ops (.p x2 (.mv (.c (.p 0)))
 .nil))
 .ret)
 .skip))
 (.seq (.ops (.m x7 x0
 (.s x8 134 [(.t x7)]
 .nil)))
 (.seq (.ops (.m x9 x0
 (.s x10 120 [(.t x9), (.c (.p 2)), (.c (.s 10 275768909636849273238128))]
 .nil)))
 (.seq (.ops (.m x11 x0
 (.s x12 120 [(.t x11), (.c (.p 4)), (.c (.s 0 0))]
 (.cons .no (.ye x3) (.W (.al (.cons (.p 0) (.cons (.s 0 0) (.cons (.p 0) (.cons (.p 0) .nil))))))
 (.cons .no .no (.W (.st (.t x3) 4 (.t x12)))
 .nil)))))
 (.seq (.seq (.ops (.p x13 (.fa (.t x3) 2)
 (.l x14 (.t x13)
 (.p x15 (.bin .gtr (.t x14) (.c (.p 255)))
 .nil))))
 (.cond (.t x15) (.ops (.m x16 x0
 (.cons .no (.ye x17) (.L (.l (.many (.t x3) 4)))
 (.s x18 136 [(.t x16), (.t x17), (.c (.p 2))]
 .nil))))
 .skip))
 (.seq (.ops (.m x19 x0
 (.s x20 120 [(.t x19), (.c (.p 3)), (.c (.s 1 62))]
 .nil)))
 (.seq (.ops (.p x21 (.fa (.t x3) 2)
 (.l x22 (.t x21)
 (.m x2 x22
 .nil))))
 .ret))))))))
def a122 : AF := .fn (ps16.take 23) b122 (.one x2)
end
end Go.Ev
