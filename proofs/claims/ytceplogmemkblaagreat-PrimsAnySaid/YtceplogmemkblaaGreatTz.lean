/-
  The table of the program's functions.
-/
import Derived.Test.YtceplogmemkblaaGreatTa
import Derived.Test.YtceplogmemkblaaGreatTb
namespace Go.Ev
noncomputable def r0 : N8 AF := .mk .no .no .no .no a4 .no .no .no
noncomputable def r1 : N8 AF := .mk .no .no .no .no a12 a13 a14 a15
noncomputable def r2 : N8 AF := .mk a16 a17 .no .no .no .no .no a23
noncomputable def r3 : N8 AF := .mk a24 a25 .no a27 a28 .no a30 a31
noncomputable def r4 : N8 AF := .mk a32 a33 a34 a35 a36 a37 a38 a39
noncomputable def r5 : N8 AF := .mk a40 a41 a42 a43 a44 a45 a46 a47
noncomputable def r6 : N8 AF := .mk a48 a49 a50 a51 a52 a53 a54 a55
noncomputable def r7 : N8 AF := .mk a56 a57 a58 a59 a60 a61 .no a63
noncomputable def r8 : N8 AF := .mk a64 a65 a66 a67 a68 a69 a70 a71
noncomputable def r9 : N8 AF := .mk a72 a73 a74 a75 a76 a77 a78 a79
noncomputable def r10 : N8 AF := .mk a80 a81 a82 a83 a84 a85 a86 a87
noncomputable def r11 : N8 AF := .mk a88 a89 a90 a91 .no a93 a94 a95
noncomputable def r12 : N8 AF := .mk a96 a97 a98 a99 a100 a101 a102 a103
noncomputable def r13 : N8 AF := .mk a104 a105 a106 .no a108 a109 a110 a111
noncomputable def r14 : N8 AF := .mk a112 a113 a114 .no .no a117 a118 a119
noncomputable def r15 : N8 AF := .mk a120 a121 a122 a123 a124 a125 a126 a127
noncomputable def r16 : N8 AF := .mk a128 a129 a130 a131 a132 a133 a134 a135
noncomputable def r17 : N8 AF := .mk a136 a137 a138 a139 a140 a141 a142 a143
noncomputable def r18 : N8 AF := .mk a144 a145 a146 a147 a148 a149 a150 a151
noncomputable def r19 : N8 AF := .mk a152 a153 a154 a155 a156 a157 a158 a159
noncomputable def r20 : N8 AF := .mk a160 a161 a162 a163 a164 a165 a166 a167
noncomputable def r21 : N8 AF := .mk a168 a169 a170 a171 a172 a173 a174 a175
noncomputable def r22 : N8 AF := .mk (.hk hkIndex) a177 a178 a179 a180 a181 a182 a183
noncomputable def r23 : N8 AF := .mk a184 a185 a186 a187 a188 a189 a190 a191
noncomputable def r24 : N8 AF := .mk a192 a193 a194 a195 a196 a197 a198 a199
noncomputable def r25 : N8 AF := .mk a200 a201 a202 a203 a204 a205 a206 a207
noncomputable def r26 : N8 AF := .mk a208 a209 a210 a211 a212 a213 a214 a215
noncomputable def r27 : N8 AF := .mk a216 a217 a218 a219 a220 a221 a222 a223
noncomputable def r28 : N8 AF := .mk a224 a225 a226 .no .no .no .no .no
noncomputable def rr0 : N8 (N8 AF) := .mk r0 r1 r2 r3 r4 r5 r6 r7
noncomputable def rr1 : N8 (N8 AF) := .mk r8 r9 r10 r11 r12 r13 r14 r15
noncomputable def rr2 : N8 (N8 AF) := .mk r16 r17 r18 r19 r20 r21 r22 r23
noncomputable def rr3 : N8 (N8 AF) := .mk r24 r25 r26 r27 r28 t0 t0 t0
noncomputable def rrr0 : N8 (N8 (N8 AF)) := .mk rr0 rr1 rr2 rr3 t1 t1 t1 t1
noncomputable def T : Tb := .mk rrr0 t2 t2 t2 t2 t2 t2 t2
end Go.Ev
