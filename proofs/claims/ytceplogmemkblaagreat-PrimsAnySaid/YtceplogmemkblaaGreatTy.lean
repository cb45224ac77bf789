/-
  The table says what the program says.
-/
import Derived.Test.YtceplogmemkblaaGreatTz
import Derived.Test.YtceplogmemkblaaGreatEvW
import Derived.Test.YtceplogmemkblaaGreatProg
import Derived.KernelRfl
namespace Go.Ev
open Go.Proofs
set_option maxRecDepth 100000
theorem c4 : cmpF Tryz.prog 4 = some a4 := by kernel_rfl
theorem c12 : cmpF Tryz.prog 12 = some a12 := by kernel_rfl
theorem c13 : cmpF Tryz.prog 13 = some a13 := by kernel_rfl
theorem c14 : cmpF Tryz.prog 14 = some a14 := by kernel_rfl
theorem c15 : cmpF Tryz.prog 15 = some a15 := by kernel_rfl
theorem c16 : cmpF Tryz.prog 16 = some a16 := by kernel_rfl
theorem c17 : cmpF Tryz.prog 17 = some a17 := by kernel_rfl
theorem c23 : cmpF Tryz.prog 23 = some a23 := by kernel_rfl
theorem c24 : cmpF Tryz.prog 24 = some a24 := by kernel_rfl
theorem c25 : cmpF Tryz.prog 25 = some a25 := by kernel_rfl
theorem c27 : cmpF Tryz.prog 27 = some a27 := by kernel_rfl
theorem c28 : cmpF Tryz.prog 28 = some a28 := by kernel_rfl
theorem c30 : cmpF Tryz.prog 30 = some a30 := by kernel_rfl
theorem c31 : cmpF Tryz.prog 31 = some a31 := by kernel_rfl
theorem c32 : cmpF Tryz.prog 32 = some a32 := by kernel_rfl
theorem c33 : cmpF Tryz.prog 33 = some a33 := by kernel_rfl
theorem c34 : cmpF Tryz.prog 34 = some a34 := by kernel_rfl
theorem c35 : cmpF Tryz.prog 35 = some a35 := by kernel_rfl
theorem c36 : cmpF Tryz.prog 36 = some a36 := by kernel_rfl
theorem c37 : cmpF Tryz.prog 37 = some a37 := by kernel_rfl
theorem c38 : cmpF Tryz.prog 38 = some a38 := by kernel_rfl
theorem c39 : cmpF Tryz.prog 39 = some a39 := by kernel_rfl
theorem c40 : cmpF Tryz.prog 40 = some a40 := by kernel_rfl
theorem c41 : cmpF Tryz.prog 41 = some a41 := by kernel_rfl
theorem c42 : cmpF Tryz.prog 42 = some a42 := by kernel_rfl
theorem c43 : cmpF Tryz.prog 43 = some a43 := by kernel_rfl
theorem c44 : cmpF Tryz.prog 44 = some a44 := by kernel_rfl
theorem c45 : cmpF Tryz.prog 45 = some a45 := by kernel_rfl
theorem c46 : cmpF Tryz.prog 46 = some a46 := by kernel_rfl
theorem c47 : cmpF Tryz.prog 47 = some a47 := by kernel_rfl
theorem c48 : cmpF Tryz.prog 48 = some a48 := by kernel_rfl
theorem c49 : cmpF Tryz.prog 49 = some a49 := by kernel_rfl
theorem c50 : cmpF Tryz.prog 50 = some a50 := by kernel_rfl
theorem c51 : cmpF Tryz.prog 51 = some a51 := by kernel_rfl
theorem c52 : cmpF Tryz.prog 52 = some a52 := by kernel_rfl
theorem c53 : cmpF Tryz.prog 53 = some a53 := by kernel_rfl
theorem c54 : cmpF Tryz.prog 54 = some a54 := by kernel_rfl
theorem c55 : cmpF Tryz.prog 55 = some a55 := by kernel_rfl
theorem c56 : cmpF Tryz.prog 56 = some a56 := by kernel_rfl
theorem c57 : cmpF Tryz.prog 57 = some a57 := by kernel_rfl
theorem c58 : cmpF Tryz.prog 58 = some a58 := by kernel_rfl
theorem c59 : cmpF Tryz.prog 59 = some a59 := by kernel_rfl
theorem c60 : cmpF Tryz.prog 60 = some a60 := by kernel_rfl
theorem c61 : cmpF Tryz.prog 61 = some a61 := by kernel_rfl
theorem c63 : cmpF Tryz.prog 63 = some a63 := by kernel_rfl
theorem c64 : cmpF Tryz.prog 64 = some a64 := by kernel_rfl
theorem c65 : cmpF Tryz.prog 65 = some a65 := by kernel_rfl
theorem c66 : cmpF Tryz.prog 66 = some a66 := by kernel_rfl
theorem c67 : cmpF Tryz.prog 67 = some a67 := by kernel_rfl
theorem c68 : cmpF Tryz.prog 68 = some a68 := by kernel_rfl
theorem c69 : cmpF Tryz.prog 69 = some a69 := by kernel_rfl
theorem c70 : cmpF Tryz.prog 70 = some a70 := by kernel_rfl
theorem c71 : cmpF Tryz.prog 71 = some a71 := by kernel_rfl
theorem c72 : cmpF Tryz.prog 72 = some a72 := by kernel_rfl
theorem c73 : cmpF Tryz.prog 73 = some a73 := by kernel_rfl
theorem c74 : cmpF Tryz.prog 74 = some a74 := by kernel_rfl
theorem c75 : cmpF Tryz.prog 75 = some a75 := by kernel_rfl
theorem c76 : cmpF Tryz.prog 76 = some a76 := by kernel_rfl
theorem c77 : cmpF Tryz.prog 77 = some a77 := by kernel_rfl
theorem c78 : cmpF Tryz.prog 78 = some a78 := by kernel_rfl
theorem c79 : cmpF Tryz.prog 79 = some a79 := by kernel_rfl
theorem c80 : cmpF Tryz.prog 80 = some a80 := by kernel_rfl
theorem c81 : cmpF Tryz.prog 81 = some a81 := by kernel_rfl
theorem c82 : cmpF Tryz.prog 82 = some a82 := by kernel_rfl
theorem c83 : cmpF Tryz.prog 83 = some a83 := by kernel_rfl
theorem c84 : cmpF Tryz.prog 84 = some a84 := by kernel_rfl
theorem c85 : cmpF Tryz.prog 85 = some a85 := by kernel_rfl
theorem c86 : cmpF Tryz.prog 86 = some a86 := by kernel_rfl
theorem c87 : cmpF Tryz.prog 87 = some a87 := by kernel_rfl
theorem c88 : cmpF Tryz.prog 88 = some a88 := by kernel_rfl
theorem c89 : cmpF Tryz.prog 89 = some a89 := by kernel_rfl
theorem c90 : cmpF Tryz.prog 90 = some a90 := by kernel_rfl
theorem c91 : cmpF Tryz.prog 91 = some a91 := by kernel_rfl
theorem c93 : cmpF Tryz.prog 93 = some a93 := by kernel_rfl
theorem c94 : cmpF Tryz.prog 94 = some a94 := by kernel_rfl
theorem c95 : cmpF Tryz.prog 95 = some a95 := by kernel_rfl
theorem c96 : cmpF Tryz.prog 96 = some a96 := by kernel_rfl
theorem c97 : cmpF Tryz.prog 97 = some a97 := by kernel_rfl
theorem c98 : cmpF Tryz.prog 98 = some a98 := by kernel_rfl
theorem c99 : cmpF Tryz.prog 99 = some a99 := by kernel_rfl
theorem c100 : cmpF Tryz.prog 100 = some a100 := by kernel_rfl
theorem c101 : cmpF Tryz.prog 101 = some a101 := by kernel_rfl
theorem c102 : cmpF Tryz.prog 102 = some a102 := by kernel_rfl
theorem c103 : cmpF Tryz.prog 103 = some a103 := by kernel_rfl
theorem c104 : cmpF Tryz.prog 104 = some a104 := by kernel_rfl
theorem c105 : cmpF Tryz.prog 105 = some a105 := by kernel_rfl
theorem c106 : cmpF Tryz.prog 106 = some a106 := by kernel_rfl
theorem c108 : cmpF Tryz.prog 108 = some a108 := by kernel_rfl
theorem c109 : cmpF Tryz.prog 109 = some a109 := by kernel_rfl
theorem c110 : cmpF Tryz.prog 110 = some a110 := by kernel_rfl
theorem c111 : cmpF Tryz.prog 111 = some a111 := by kernel_rfl
theorem c112 : cmpF Tryz.prog 112 = some a112 := by kernel_rfl
theorem c113 : cmpF Tryz.prog 113 = some a113 := by kernel_rfl
theorem c114 : cmpF Tryz.prog 114 = some a114 := by kernel_rfl
theorem c117 : cmpF Tryz.prog 117 = some a117 := by kernel_rfl
theorem c118 : cmpF Tryz.prog 118 = some a118 := by kernel_rfl
theorem c119 : cmpF Tryz.prog 119 = some a119 := by kernel_rfl
theorem c120 : cmpF Tryz.prog 120 = some a120 := by kernel_rfl
theorem c121 : cmpF Tryz.prog 121 = some a121 := by kernel_rfl
theorem c122 : cmpF Tryz.prog 122 = some a122 := by kernel_rfl
theorem c123 : cmpF Tryz.prog 123 = some a123 := by kernel_rfl
theorem c124 : cmpF Tryz.prog 124 = some a124 := by kernel_rfl
theorem c125 : cmpF Tryz.prog 125 = some a125 := by kernel_rfl
theorem c126 : cmpF Tryz.prog 126 = some a126 := by kernel_rfl
theorem c127 : cmpF Tryz.prog 127 = some a127 := by kernel_rfl
theorem c128 : cmpF Tryz.prog 128 = some a128 := by kernel_rfl
theorem c129 : cmpF Tryz.prog 129 = some a129 := by kernel_rfl
theorem c130 : cmpF Tryz.prog 130 = some a130 := by kernel_rfl
theorem c131 : cmpF Tryz.prog 131 = some a131 := by kernel_rfl
theorem c132 : cmpF Tryz.prog 132 = some a132 := by kernel_rfl
theorem c133 : cmpF Tryz.prog 133 = some a133 := by kernel_rfl
theorem c134 : cmpF Tryz.prog 134 = some a134 := by kernel_rfl
theorem c135 : cmpF Tryz.prog 135 = some a135 := by kernel_rfl
theorem c136 : cmpF Tryz.prog 136 = some a136 := by kernel_rfl
theorem c137 : cmpF Tryz.prog 137 = some a137 := by kernel_rfl
theorem c138 : cmpF Tryz.prog 138 = some a138 := by kernel_rfl
theorem c139 : cmpF Tryz.prog 139 = some a139 := by kernel_rfl
theorem c140 : cmpF Tryz.prog 140 = some a140 := by kernel_rfl
theorem c141 : cmpF Tryz.prog 141 = some a141 := by kernel_rfl
theorem c142 : cmpF Tryz.prog 142 = some a142 := by kernel_rfl
theorem c143 : cmpF Tryz.prog 143 = some a143 := by kernel_rfl
theorem c144 : cmpF Tryz.prog 144 = some a144 := by kernel_rfl
theorem c145 : cmpF Tryz.prog 145 = some a145 := by kernel_rfl
theorem c146 : cmpF Tryz.prog 146 = some a146 := by kernel_rfl
theorem c147 : cmpF Tryz.prog 147 = some a147 := by kernel_rfl
theorem c148 : cmpF Tryz.prog 148 = some a148 := by kernel_rfl
theorem c149 : cmpF Tryz.prog 149 = some a149 := by kernel_rfl
theorem c150 : cmpF Tryz.prog 150 = some a150 := by kernel_rfl
theorem c151 : cmpF Tryz.prog 151 = some a151 := by kernel_rfl
theorem c152 : cmpF Tryz.prog 152 = some a152 := by kernel_rfl
theorem c153 : cmpF Tryz.prog 153 = some a153 := by kernel_rfl
theorem c154 : cmpF Tryz.prog 154 = some a154 := by kernel_rfl
theorem c155 : cmpF Tryz.prog 155 = some a155 := by kernel_rfl
theorem c156 : cmpF Tryz.prog 156 = some a156 := by kernel_rfl
theorem c157 : cmpF Tryz.prog 157 = some a157 := by kernel_rfl
theorem c158 : cmpF Tryz.prog 158 = some a158 := by kernel_rfl
theorem c159 : cmpF Tryz.prog 159 = some a159 := by kernel_rfl
theorem c160 : cmpF Tryz.prog 160 = some a160 := by kernel_rfl
theorem c161 : cmpF Tryz.prog 161 = some a161 := by kernel_rfl
theorem c162 : cmpF Tryz.prog 162 = some a162 := by kernel_rfl
theorem c163 : cmpF Tryz.prog 163 = some a163 := by kernel_rfl
theorem c164 : cmpF Tryz.prog 164 = some a164 := by kernel_rfl
theorem c165 : cmpF Tryz.prog 165 = some a165 := by kernel_rfl
theorem c166 : cmpF Tryz.prog 166 = some a166 := by kernel_rfl
theorem c167 : cmpF Tryz.prog 167 = some a167 := by kernel_rfl
theorem c168 : cmpF Tryz.prog 168 = some a168 := by kernel_rfl
theorem c169 : cmpF Tryz.prog 169 = some a169 := by kernel_rfl
theorem c170 : cmpF Tryz.prog 170 = some a170 := by kernel_rfl
theorem c171 : cmpF Tryz.prog 171 = some a171 := by kernel_rfl
theorem c172 : cmpF Tryz.prog 172 = some a172 := by kernel_rfl
theorem c173 : cmpF Tryz.prog 173 = some a173 := by kernel_rfl
theorem c174 : cmpF Tryz.prog 174 = some a174 := by kernel_rfl
theorem c175 : cmpF Tryz.prog 175 = some a175 := by kernel_rfl
theorem c176 : FRel Tryz.prog 176 (.hk hkIndex) := (hkIndex_rel Tryz.func176 (by kernel_rfl) (by kernel_rfl) (by kernel_rfl) (by kernel_rfl))
theorem c177 : cmpF Tryz.prog 177 = some a177 := by kernel_rfl
theorem c178 : cmpF Tryz.prog 178 = some a178 := by kernel_rfl
theorem c179 : cmpF Tryz.prog 179 = some a179 := by kernel_rfl
theorem c180 : cmpF Tryz.prog 180 = some a180 := by kernel_rfl
theorem c181 : cmpF Tryz.prog 181 = some a181 := by kernel_rfl
theorem c182 : cmpF Tryz.prog 182 = some a182 := by kernel_rfl
theorem c183 : cmpF Tryz.prog 183 = some a183 := by kernel_rfl
theorem c184 : cmpF Tryz.prog 184 = some a184 := by kernel_rfl
theorem c185 : cmpF Tryz.prog 185 = some a185 := by kernel_rfl
theorem c186 : cmpF Tryz.prog 186 = some a186 := by kernel_rfl
theorem c187 : cmpF Tryz.prog 187 = some a187 := by kernel_rfl
theorem c188 : cmpF Tryz.prog 188 = some a188 := by kernel_rfl
theorem c189 : cmpF Tryz.prog 189 = some a189 := by kernel_rfl
theorem c190 : cmpF Tryz.prog 190 = some a190 := by kernel_rfl
theorem c191 : cmpF Tryz.prog 191 = some a191 := by kernel_rfl
theorem c192 : cmpF Tryz.prog 192 = some a192 := by kernel_rfl
theorem c193 : cmpF Tryz.prog 193 = some a193 := by kernel_rfl
theorem c194 : cmpF Tryz.prog 194 = some a194 := by kernel_rfl
theorem c195 : cmpF Tryz.prog 195 = some a195 := by kernel_rfl
theorem c196 : cmpF Tryz.prog 196 = some a196 := by kernel_rfl
theorem c197 : cmpF Tryz.prog 197 = some a197 := by kernel_rfl
theorem c198 : cmpF Tryz.prog 198 = some a198 := by kernel_rfl
theorem c199 : cmpF Tryz.prog 199 = some a199 := by kernel_rfl
theorem c200 : cmpF Tryz.prog 200 = some a200 := by kernel_rfl
theorem c201 : cmpF Tryz.prog 201 = some a201 := by kernel_rfl
theorem c202 : cmpF Tryz.prog 202 = some a202 := by kernel_rfl
theorem c203 : cmpF Tryz.prog 203 = some a203 := by kernel_rfl
theorem c204 : cmpF Tryz.prog 204 = some a204 := by kernel_rfl
theorem c205 : cmpF Tryz.prog 205 = some a205 := by kernel_rfl
theorem c206 : cmpF Tryz.prog 206 = some a206 := by kernel_rfl
theorem c207 : cmpF Tryz.prog 207 = some a207 := by kernel_rfl
theorem c208 : cmpF Tryz.prog 208 = some a208 := by kernel_rfl
theorem c209 : cmpF Tryz.prog 209 = some a209 := by kernel_rfl
theorem c210 : cmpF Tryz.prog 210 = some a210 := by kernel_rfl
theorem c211 : cmpF Tryz.prog 211 = some a211 := by kernel_rfl
theorem c212 : cmpF Tryz.prog 212 = some a212 := by kernel_rfl
theorem c213 : cmpF Tryz.prog 213 = some a213 := by kernel_rfl
theorem c214 : cmpF Tryz.prog 214 = some a214 := by kernel_rfl
theorem c215 : cmpF Tryz.prog 215 = some a215 := by kernel_rfl
theorem c216 : cmpF Tryz.prog 216 = some a216 := by kernel_rfl
theorem c217 : cmpF Tryz.prog 217 = some a217 := by kernel_rfl
theorem c218 : cmpF Tryz.prog 218 = some a218 := by kernel_rfl
theorem c219 : cmpF Tryz.prog 219 = some a219 := by kernel_rfl
theorem c220 : cmpF Tryz.prog 220 = some a220 := by kernel_rfl
theorem c221 : cmpF Tryz.prog 221 = some a221 := by kernel_rfl
theorem c222 : cmpF Tryz.prog 222 = some a222 := by kernel_rfl
theorem c223 : cmpF Tryz.prog 223 = some a223 := by kernel_rfl
theorem c224 : cmpF Tryz.prog 224 = some a224 := by kernel_rfl
theorem c225 : cmpF Tryz.prog 225 = some a225 := by kernel_rfl
theorem c226 : cmpF Tryz.prog 226 = some a226 := by kernel_rfl
theorem R_r0 : R1 Tryz.prog 0 r0 := R1_mk trivial trivial trivial trivial c4 trivial trivial trivial
theorem R_r1 : R1 Tryz.prog 8 r1 := R1_mk trivial trivial trivial trivial c12 c13 c14 c15
theorem R_r2 : R1 Tryz.prog 16 r2 := R1_mk c16 c17 trivial trivial trivial trivial trivial c23
theorem R_r3 : R1 Tryz.prog 24 r3 := R1_mk c24 c25 trivial c27 c28 trivial c30 c31
theorem R_r4 : R1 Tryz.prog 32 r4 := R1_mk c32 c33 c34 c35 c36 c37 c38 c39
theorem R_r5 : R1 Tryz.prog 40 r5 := R1_mk c40 c41 c42 c43 c44 c45 c46 c47
theorem R_r6 : R1 Tryz.prog 48 r6 := R1_mk c48 c49 c50 c51 c52 c53 c54 c55
theorem R_r7 : R1 Tryz.prog 56 r7 := R1_mk c56 c57 c58 c59 c60 c61 trivial c63
theorem R_r8 : R1 Tryz.prog 64 r8 := R1_mk c64 c65 c66 c67 c68 c69 c70 c71
theorem R_r9 : R1 Tryz.prog 72 r9 := R1_mk c72 c73 c74 c75 c76 c77 c78 c79
theorem R_r10 : R1 Tryz.prog 80 r10 := R1_mk c80 c81 c82 c83 c84 c85 c86 c87
theorem R_r11 : R1 Tryz.prog 88 r11 := R1_mk c88 c89 c90 c91 trivial c93 c94 c95
theorem R_r12 : R1 Tryz.prog 96 r12 := R1_mk c96 c97 c98 c99 c100 c101 c102 c103
theorem R_r13 : R1 Tryz.prog 104 r13 := R1_mk c104 c105 c106 trivial c108 c109 c110 c111
theorem R_r14 : R1 Tryz.prog 112 r14 := R1_mk c112 c113 c114 trivial trivial c117 c118 c119
theorem R_r15 : R1 Tryz.prog 120 r15 := R1_mk c120 c121 c122 c123 c124 c125 c126 c127
theorem R_r16 : R1 Tryz.prog 128 r16 := R1_mk c128 c129 c130 c131 c132 c133 c134 c135
theorem R_r17 : R1 Tryz.prog 136 r17 := R1_mk c136 c137 c138 c139 c140 c141 c142 c143
theorem R_r18 : R1 Tryz.prog 144 r18 := R1_mk c144 c145 c146 c147 c148 c149 c150 c151
theorem R_r19 : R1 Tryz.prog 152 r19 := R1_mk c152 c153 c154 c155 c156 c157 c158 c159
theorem R_r20 : R1 Tryz.prog 160 r20 := R1_mk c160 c161 c162 c163 c164 c165 c166 c167
theorem R_r21 : R1 Tryz.prog 168 r21 := R1_mk c168 c169 c170 c171 c172 c173 c174 c175
theorem R_r22 : R1 Tryz.prog 176 r22 := R1_mk c176 c177 c178 c179 c180 c181 c182 c183
theorem R_r23 : R1 Tryz.prog 184 r23 := R1_mk c184 c185 c186 c187 c188 c189 c190 c191
theorem R_r24 : R1 Tryz.prog 192 r24 := R1_mk c192 c193 c194 c195 c196 c197 c198 c199
theorem R_r25 : R1 Tryz.prog 200 r25 := R1_mk c200 c201 c202 c203 c204 c205 c206 c207
theorem R_r26 : R1 Tryz.prog 208 r26 := R1_mk c208 c209 c210 c211 c212 c213 c214 c215
theorem R_r27 : R1 Tryz.prog 216 r27 := R1_mk c216 c217 c218 c219 c220 c221 c222 c223
theorem R_r28 : R1 Tryz.prog 224 r28 := R1_mk c224 c225 c226 trivial trivial trivial trivial trivial
theorem R_rr0 : R2 Tryz.prog 0 rr0 := R2_mk R_r0 R_r1 R_r2 R_r3 R_r4 R_r5 R_r6 R_r7
theorem R_rr1 : R2 Tryz.prog 64 rr1 := R2_mk R_r8 R_r9 R_r10 R_r11 R_r12 R_r13 R_r14 R_r15
theorem R_rr2 : R2 Tryz.prog 128 rr2 := R2_mk R_r16 R_r17 R_r18 R_r19 R_r20 R_r21 R_r22 R_r23
theorem R_rr3 : R2 Tryz.prog 192 rr3 := R2_mk R_r24 R_r25 R_r26 R_r27 R_r28 (R1_no _) (R1_no _) (R1_no _)
theorem R_rrr0 : R3 Tryz.prog 0 rrr0 := R3_mk R_rr0 R_rr1 R_rr2 R_rr3 (R2_no _) (R2_no _) (R2_no _) (R2_no _)
theorem tab : TRel Tryz.prog T := R4.rel (R4_mk R_rrr0 (R3_no _) (R3_no _) (R3_no _) (R3_no _) (R3_no _) (R3_no _) (R3_no _))
theorem mix : Tryz.prog.follows .mixedOrders = true := by kernel_rfl
end Go.Ev
