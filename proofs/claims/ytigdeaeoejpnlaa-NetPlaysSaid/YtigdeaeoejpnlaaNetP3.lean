/- The law NetPlays: its walk, one arm of the switch. -/
import Derived.Test.YtigdeaeoejpnlaaNetN0
namespace Go.Proofs.Ytigdeaeoejpnlaa
open Go.RowKit

set_option maxHeartbeats 8000000 in
set_option maxRecDepth 100000 in
theorem arm3_walk {w : World}
    {ds : List Deed}
    {cap : Nat}
    {g : Nat}
    {u2 u9 u10 u11 u12 u13 u14 u15 u16 u17 u18 u19 u191 :
  Value}
    {i gn : Nat}
    {xs : List Packet}
    (hids : i ≤ ds.length)
    (hxl : xs.length ≤ i)
    {F S : Nat → Prop}
    {wo : World}
    (hbw : Below w.heap.size w wo)
    {lA : Option Addr}
    {lc : Nat}
    (hlc : xs.length ≤ lc)
    (hlm : lc ≤ 9223372036854775807)
    (hlt1 : i < ds.length)
    (hlt2 : i < 100)
    {b o : Nat}
    {d1 d2 a1 a2 a3 : Int}
    {a4 : Bool}
    {A1 : Option Addr}
    {n1 cap1 : Nat}
    (hrep :
  PacketS.rep (fun x => x < w.heap.size) wo ds[i].snd.snd
    [Value.int IntKind.i64 a1, Value.int IntKind.i64 a2, Value.int IntKind.u64 a3, Value.bool a4,
      Value.slice A1 n1 cap1])
    (hr2 : -9223372036854775808 ≤ d2 ∧ d2 ≤ 9223372036854775807)
    (h2000 : ¬2000 < n1)
    (Hd1 : Hid (d1 = ds[i].fst))
    (Hd2 : Hid (d2 = ds[i].snd.fst))
    (Hn1 : Hid (n1 = ds[i].snd.snd.snd.snd.snd.snd.length))
    {Qp_0 : Exit → Act → World → Prop }
    {K_2 : Act → World → Prop}
    {u25 u26 u27 u28 u29 u30 u31 u32 u33 u34 u35 u36 u37 u38 u39 u40 u41 u42 u43 u44 u45 u46 u47 u48 u49 u50 u51 u52 u53 u54 u55 u56 u57 u58 u59 u60 u61 u62 u66 u67 u68 u69 u70 u71 u72 u73 u74 u78 u79 u80 u81 u82 u83 u84 u85 u86 u87 u88 u89 u90 u91 u92 u93 u94 u95 u96 u97 u98 u99 u100 u101 u102 u103 u104 u105 u106 u107 u110 u111 u112 u113 u114 u115 u116 u117 u118 u119 u120 u121 u122 u123 u124 u125 u126 u127 u128 u129 u130 u131 u132 u133 u134 u135 u136 u137 u138 u139 u140 u141 u142 u143 u144 u145 u146 u147 u148 u149 u150 u151 u154 u155 u156 u157 u158 u159 u160 u161 u162 u163 u164 u165 u166 u167 u168 u169 u170 u171 u172 u173 u174 u175 u176 u177 u178 u179 u180 u181 u182 u183 u184 u185 u186 u187 u188 u189 u190 u192 u193 u194 u195 u196 u197 u198 u199 u200 u201 u202 u203 u204 u205 u206 u207 u208 u209 u210 u211 u212 u213 u214 u215 u216 u217 u218 u219 u220 u221 u222 :
  Value}
    {has : Bool}
    (Hhas : Hid (has = decide (0 ≤ d2 ∧ d2 < (↑xs.length : Int))))
    {J_0 Kp_0 : Act → World → Prop}
    (a_2 : Hid (
  ∀ (a' : Act) (w' : World),
    (∃ u2 u4 u5 u9 u10 u11 u12 u13 u14 u15 u16 u17 u18 u19 u25 u26 u27 u28 u29 u30 u31 u32 u33 u34 u35 u36 u37 u38 u39
        u40 u41 u42 u43 u44 u45 u46 u47 u48 u49 u50 u51 u52 u53 u54 u55 u56 u57 u58 u59 u60 u61 u62 u63 u64 u65 u66 u67
        u68 u69 u70 u71 u72 u73 u74 u75 u76 u77 u78 u79 u80 u81 u82 u83 u84 u85 u86 u87 u88 u89 u90 u91 u92 u93 u94 u95
        u96 u97 u98 u99 u100 u101 u102 u103 u104 u105 u106 u107 u108 u109 u110 u111 u112 u113 u114 u115 u116 u117 u118
        u119 u120 u121 u122 u123 u124 u125 u126 u127 u128 u129 u130 u131 u132 u133 u134 u135 u136 u137 u138 u139 u140
        u141 u142 u143 u144 u145 u146 u147 u148 u149 u150 u151 u152 u153 u154 u155 u156 u157 u158 u159 u160 u161 u162
        u163 u164 u165 u166 u167 u168 u169 u170 u171 u172 u173 u174 u175 u176 u177 u178 u179 u180 u181 u182 u183 u184
        u185 u186 u187 u188 u189 u190 u191 u192 u193 u194 u195 u196 u197 u198 u199 u200 u201 u202 u203 u204 u205 u206
        u207 u208 u209 u210 u211 u212 u213 u214 u215 u216 u217 u218 u219 u220 u221 u222,
        (∃ g' xs', u4 = Value.pointer (some { block := g', off := 0 }) ∧ xs'.length ≤ i + 1 ∧ Beside w g' u5 xs' w') ∧
          a' =
            {
              tmps :=
                (Value.slice (some { block := b, off := o }) ds.length cap :: undef :: u2 :: Value.bool true :: u4 :: u5 :: Value.int IntKind.i64 (↑i : Int) :: Value.pointer (some { block := wo.heap.size, off := 0 }) :: Value.bool has :: u9 :: u10 :: u11 :: u12 :: u13 :: u14 :: u15 :: u16 :: u17 :: u18 :: u19 :: undef :: undef :: undef :: Value.bool true :: Value.pointer (some { block := g, off := 0 }) :: u25 :: u26 :: u27 :: u28 :: u29 :: u30 :: u31 :: u32 :: u33 :: u34 :: u35 :: u36 :: u37 :: u38 :: u39 :: u40 :: u41 :: u42 :: u43 :: u44 :: u45 :: u46 :: u47 :: u48 :: u49 :: u50 :: u51 :: u52 :: u53 :: u54 :: u55 :: u56 :: u57 :: u58 :: u59 :: u60 :: u61 :: u62 :: u63 :: u64 :: u65 :: u66 :: u67 :: u68 :: u69 :: u70 :: u71 :: u72 :: u73 :: u74 :: u75 :: u76 :: u77 :: u78 :: u79 :: u80 :: u81 :: u82 :: u83 :: u84 :: u85 :: u86 :: u87 :: u88 :: u89 :: u90 :: u91 :: u92 :: u93 :: u94 :: u95 :: u96 :: u97 :: u98 :: u99 :: u100 :: u101 :: u102 :: u103 :: u104 :: u105 :: u106 :: u107 :: u108 :: u109 :: u110 :: u111 :: u112 :: u113 :: u114 :: u115 :: u116 :: u117 :: u118 :: u119 :: u120 :: u121 :: u122 :: u123 :: u124 :: u125 :: u126 :: u127 :: u128 :: u129 :: u130 :: u131 :: u132 :: u133 :: u134 :: u135 :: u136 :: u137 :: u138 :: u139 :: u140 :: u141 :: u142 :: u143 :: u144 :: u145 :: u146 :: u147 :: u148 :: u149 :: u150 :: u151 :: u152 :: u153 :: u154 :: u155 :: u156 :: u157 :: u158 :: u159 :: u160 :: u161 :: u162 :: u163 :: u164 :: u165 :: u166 :: u167 :: u168 :: u169 :: u170 :: u171 :: u172 :: u173 :: u174 :: u175 :: u176 :: u177 :: u178 :: u179 :: u180 :: u181 :: u182 :: u183 :: u184 :: u185 :: u186 :: u187 :: u188 :: u189 :: u190 :: u191 :: u192 :: u193 :: u194 :: u195 :: u196 :: u197 :: u198 :: u199 :: u200 :: u201 :: u202 :: u203 :: u204 :: u205 :: u206 :: u207 :: u208 :: u209 :: u210 :: u211 :: u212 :: u213 :: u214 :: u215 :: u216 :: u217 :: u218 :: u219 :: u220 :: u221 :: u222 :: undef :: undef :: undef :: undef :: undef :: undef :: undef :: undef :: undef :: undef :: undef :: undef :: undef :: undef :: undef :: undef :: undef :: undef :: undef :: undef :: undef :: undef :: undef :: undef :: undef :: undef :: undef :: undef :: ([] : List Value)).toArray,
              defers := [] }) →
      J_0 a' w'))
    (a_1 : ∀ (a' : Act) (w' : World), Met J_0 a' w' → Kp_0 a' w')
    {W1 : World}
    (hrow :
  Row W1 wo.heap.size 40
    [Value.int IntKind.i64 d1, Value.int IntKind.i64 d2, Value.int IntKind.i64 a1, Value.int IntKind.i64 a2,
      Value.int IntKind.u64 a3, Value.bool a4, Value.slice A1 n1 cap1])
    (hB1 : Bes w F S gn (Value.slice lA xs.length lc) xs W1)
    (hrep1 :
  PacketS.rep (fun x => x < w.heap.size) W1 ds[i].snd.snd
    [Value.int IntKind.i64 a1, Value.int IntKind.i64 a2, Value.int IntKind.u64 a3, Value.bool a4,
      Value.slice A1 n1 cap1])
    (hdF :
  (¬F wo.heap.size ∧ ¬S wo.heap.size) ∧
    (Value.slice lA xs.length lc).ownBlock ≠ some wo.heap.size ∧ w.heap.size ≤ wo.heap.size)
    (hdl : wo.heap.size < W1.heap.size)
    (Hlen : xs.length ≤ 100)
    (y0 : W1.cell? { block := wo.heap.size, off := 0 } = some (Value.int IntKind.i64 d1))
    (y1 : W1.cell? { block := wo.heap.size, off := 1 } = some (Value.int IntKind.i64 d2))
    (y2 : W1.cell? { block := wo.heap.size, off := 2 } = some (Value.int IntKind.i64 a1))
    (y3 : W1.cell? { block := wo.heap.size, off := 3 } = some (Value.int IntKind.i64 a2))
    (y4 : W1.cell? { block := wo.heap.size, off := 4 } = some (Value.int IntKind.u64 a3))
    (y5 : W1.cell? { block := wo.heap.size, off := 5 } = some (Value.bool a4))
    (y6 : W1.cell? { block := wo.heap.size, off := 6 } = some (Value.slice A1 n1 cap1))
    {K_0 : Act → World → Prop}
    (a_0 :
  ∀ (a : Act) (w : World),
    Code.wp Try.prog
        (((Code.region 38
                  #[{ dst := some 161, op := Op.move (Operand.tmp 8), type := 4, pos := "law.go:79", after := #[],
                      guard := none },
                    { dst := some 162, op := Op.unOp UnOp.not 4 (Operand.tmp 161), type := 4, pos := "law.go:79",
                      after := #[{ on := 0, ground := Ground.data }], guard := none }]
                  false).seq
              (Code.cond (Operand.tmp 162)
                (((Code.region 39
                          #[{ dst := some 163, op := Op.move (Operand.tmp 16), type := 34, pos := "law.go:80",
                              after := #[], guard := none },
                            { dst := some 164, op := Op.makeInterface 36 (Operand.const (Value.int IntKind.i64 6)),
                              type := 34, pos := "law.go:80", after := #[], guard := none },
                            { dst := some 165, op := Op.binOp BinOp.neq 34 (Operand.tmp 163) (Operand.tmp 164) 34,
                              type := 4, pos := "law.go:80",
                              after := #[{ on := 0, ground := Ground.data }, { on := 1, ground := Ground.data }],
                              guard := none }]
                          false).seq
                      (Code.cond (Operand.tmp 165)
                        ((Code.region 40
                              #[{ dst := some 2, op := Op.assign (Operand.const (Value.bool false)), type := 4,
                                  pos := "law.go:81", after := #[], guard := none }]
                              false).seq
                          Code.ret)
                        Code.skip)).seq
                  (Code.exit 1))
                Code.skip)).seq
          (((Code.region 41
                    #[{ dst := some 166, op := Op.move (Operand.tmp 16), type := 34, pos := "law.go:85", after := #[],
                        guard := none },
                      { dst := some 167,
                        op := Op.binOp BinOp.neq 34 (Operand.tmp 166) (Operand.const Value.nilIface) 34, type := 4,
                        pos := "law.go:85", after := #[{ on := 0, ground := Ground.data }], guard := none },
                      { dst := some 168, op := Op.move (Operand.tmp 167), type := 4, pos := "law.go:85",
                        after := #[{ on := 1, ground := Ground.data }], guard := none },
                      { dst := some 169, op := Op.load 30 (Operand.tmp 15), type := 30, pos := "law.go:85",
                        after := #[{ on := 2, ground := Ground.guard }], guard := some (2, false) },
                      { dst := some 170, op := Op.move (Operand.tmp 5), type := 26, pos := "law.go:85",
                        after := #[{ on := 2, ground := Ground.guard }], guard := some (2, false) },
                      { dst := some 171, op := Op.fieldAddr 40 (Operand.tmp 7) 1, type := 0, pos := "law.go:85",
                        after := #[{ on := 2, ground := Ground.guard }], guard := some (2, false) },
                      { dst := some 172, op := Op.load 3 (Operand.tmp 171), type := 3, pos := "law.go:85",
                        after := #[{ on := 5, ground := Ground.data }, { on := 2, ground := Ground.guard }],
                        guard := some (2, false) },
                      { dst := some 173, op := Op.indexAddr 26 (Operand.tmp 170) (Operand.tmp 172), type := 0,
                        pos := "law.go:85",
                        after :=
                          #[{ on := 4, ground := Ground.data }, { on := 6, ground := Ground.data },
                            { on := 2, ground := Ground.guard }],
                        guard := some (2, false) },
                      { dst := some 174, op := Op.load 30 (Operand.tmp 173), type := 30, pos := "law.go:85",
                        after := #[{ on := 7, ground := Ground.data }, { on := 2, ground := Ground.guard }],
                        guard := some (2, false) },
                      { dst := some 175,
                        op :=
                          Op.call
                            { callee := Callee.value (Operand.func 18), args := #[Operand.tmp 169, Operand.tmp 174],
                              argTypes := #[30, 30] },
                        type := 4, pos := "law.go:85",
                        after :=
                          #[{ on := 3, ground := Ground.data }, { on := 8, ground := Ground.data },
                            { on := 2, ground := Ground.chain }, { on := 2, ground := Ground.guard }],
                        guard := some (2, false) },
                      { dst := some 176, op := Op.unOp UnOp.not 4 (Operand.tmp 175), type := 4, pos := "law.go:85",
                        after := #[{ on := 9, ground := Ground.data }, { on := 2, ground := Ground.guard }],
                        guard := some (2, false) },
                      { dst := some 177,
                        op := Op.pick (Operand.tmp 168) (Operand.const (Value.bool true)) (Operand.tmp 176), type := 4,
                        pos := "law.go:85",
                        after := #[{ on := 2, ground := Ground.data }, { on := 10, ground := Ground.data }],
                        guard := none }]
                    true).seq
                (Code.cond (Operand.tmp 177)
                  ((Code.region 42
                        #[{ dst := some 2, op := Op.assign (Operand.const (Value.bool false)), type := 4,
                            pos := "law.go:86", after := #[], guard := none }]
                        false).seq
                    Code.ret)
                  Code.skip)).seq
            ((Code.region 43
                  #[{ dst := some 178, op := Op.buildSlice 26 0 #[], type := 26, pos := "law.go:88", after := #[],
                      guard := none },
                    { dst := some 179, op := Op.move (Operand.tmp 5), type := 26, pos := "law.go:88", after := #[],
                      guard := none },
                    { dst := some 180, op := Op.fieldAddr 40 (Operand.tmp 7) 1, type := 0, pos := "law.go:88",
                      after := #[], guard := none },
                    { dst := some 181, op := Op.load 3 (Operand.tmp 180), type := 3, pos := "law.go:88",
                      after := #[{ on := 2, ground := Ground.data }], guard := none },
                    { dst := some 182, op := Op.slice 26 (Operand.tmp 179) none (some (Operand.tmp 181)) none,
                      type := 26, pos := "law.go:88",
                      after := #[{ on := 1, ground := Ground.data }, { on := 3, ground := Ground.data }],
                      guard := none },
                    { dst := some 183,
                      op :=
                        Op.call
                          { callee := Callee.builtin Builtin.append, args := #[Operand.tmp 178, Operand.tmp 182],
                            argTypes := #[26, 26] },
                      type := 26, pos := "law.go:88",
                      after := #[{ on := 0, ground := Ground.data }, { on := 4, ground := Ground.data }],
                      guard := none },
                    { dst := some 17, op := Op.assign (Operand.tmp 183), type := 26, pos := "law.go:88",
                      after :=
                        #[{ on := 5, ground := Ground.data }, { on := 5, ground := Ground.chain },
                          { on := 0, ground := Ground.phase }, { on := 1, ground := Ground.phase },
                          { on := 2, ground := Ground.phase }, { on := 3, ground := Ground.phase },
                          { on := 4, ground := Ground.phase }, { on := 5, ground := Ground.phase }],
                      guard := none }]
                  false).seq
              (Code.region 44
                #[{ dst := some 184, op := Op.move (Operand.tmp 17), type := 26, pos := "law.go:89", after := #[],
                    guard := none },
                  { dst := some 185, op := Op.move (Operand.tmp 5), type := 26, pos := "law.go:89", after := #[],
                    guard := none },
                  { dst := some 186, op := Op.fieldAddr 40 (Operand.tmp 7) 1, type := 0, pos := "law.go:89",
                    after := #[], guard := none },
                  { dst := some 187, op := Op.load 3 (Operand.tmp 186), type := 3, pos := "law.go:89",
                    after := #[{ on := 2, ground := Ground.data }], guard := none },
                  { dst := some 188,
                    op := Op.binOp BinOp.add 3 (Operand.tmp 187) (Operand.const (Value.int IntKind.i64 1)) 3, type := 3,
                    pos := "law.go:89", after := #[{ on := 3, ground := Ground.data }], guard := none },
                  { dst := some 189, op := Op.slice 26 (Operand.tmp 185) (some (Operand.tmp 188)) none none, type := 26,
                    pos := "law.go:89",
                    after := #[{ on := 1, ground := Ground.data }, { on := 4, ground := Ground.data }], guard := none },
                  { dst := some 190,
                    op :=
                      Op.call
                        { callee := Callee.builtin Builtin.append, args := #[Operand.tmp 184, Operand.tmp 189],
                          argTypes := #[26, 26] },
                    type := 26, pos := "law.go:89",
                    after := #[{ on := 0, ground := Ground.data }, { on := 5, ground := Ground.data }], guard := none },
                  { dst := some 5, op := Op.assign (Operand.tmp 190), type := 26, pos := "law.go:89",
                    after :=
                      #[{ on := 6, ground := Ground.data }, { on := 6, ground := Ground.chain },
                        { on := 0, ground := Ground.phase }, { on := 1, ground := Ground.phase },
                        { on := 2, ground := Ground.phase }, { on := 3, ground := Ground.phase },
                        { on := 4, ground := Ground.phase }, { on := 5, ground := Ground.phase },
                        { on := 6, ground := Ground.phase }],
                    guard := none }]
                false))))
        (Exit.inBlock 2 (Exit.then Kp_0 (Exit.inBlock 1 (Exit.then K_2 Qp_0)))) a w →
      K_0 a w)
    (hcont : ∀ (c9 c10 c11 c12 c13 c14 c15 c16 c17 c18 c19 c25 c26 c27 c28 c29 c30 c31 c32 c33 c34 c35 c36 c37 c38 c39 c40 c41 c42 c43 c44 c45 c46 c47 c48 c49 c50 c51 c52 c53 c54 c55 c56 c57 c58 c59 c60 c61 c62 c63 c64 c65 c66 c67 c68 c69 c70 c71 c72 c73 c74 c75 c76 c77 c78 c79 c80 c81 c82 c83 c84 c85 c86 c87 c88 c89 c90 c91 c92 c93 c94 c95 c96 c97 c98 c99 c100 c101 c102 c103 c104 c105 c106 c107 c108 c109 c110 c111 c112 c113 c114 c115 c116 c117 c118 c119 c120 c121 c122 c123 c124 c125 c126 c127 c128 c129 c130 c131 c132 c133 c134 c135 c136 c137 c138 c139 c140 c141 c142 c143 c144 c145 c146 c147 c148 c149 c150 c151 c152 c153 c154 c155 c156 c157 c158 c159 c160 c161 c162 c163 c164 c165 c166 c167 c168 c169 c170 c171 c172 c173 c174 c175 c176 c177 c178 c179 c180 c181 c182 c183 c184 c185 c186 c187 c188 c189 c190 c191 c192 c193 c194 c195 c196 c197 c198 c199 c200 c201 c202 c203 c204 c205 c206 c207 c208 c209 c210 c211 c212 c213 c214 c215 c216 c217 c218 c219 c220 c221 c222 : Value) (w9 : World), Bes w F S gn (.slice lA xs.length lc) xs w9 → K_2 { tmps := (Value.slice (some { block := b, off := o }) ds.length cap :: undef :: u2 :: Value.bool true :: Value.pointer (some { block := gn, off := 0 }) :: Value.slice lA xs.length lc :: Value.int IntKind.i64 (↑i : Int) :: Value.pointer (some { block := wo.heap.size, off := 0 }) :: Value.bool has :: c9 :: c10 :: c11 :: c12 :: c13 :: c14 :: c15 :: c16 :: c17 :: c18 :: c19 :: undef :: undef :: undef :: Value.bool true :: Value.pointer (some { block := g, off := 0 }) :: c25 :: c26 :: c27 :: c28 :: c29 :: c30 :: c31 :: c32 :: c33 :: c34 :: c35 :: c36 :: c37 :: c38 :: c39 :: c40 :: c41 :: c42 :: c43 :: c44 :: c45 :: c46 :: c47 :: c48 :: c49 :: c50 :: c51 :: c52 :: c53 :: c54 :: c55 :: c56 :: c57 :: c58 :: c59 :: c60 :: c61 :: c62 :: c63 :: c64 :: c65 :: c66 :: c67 :: c68 :: c69 :: c70 :: c71 :: c72 :: c73 :: c74 :: c75 :: c76 :: c77 :: c78 :: c79 :: c80 :: c81 :: c82 :: c83 :: c84 :: c85 :: c86 :: c87 :: c88 :: c89 :: c90 :: c91 :: c92 :: c93 :: c94 :: c95 :: c96 :: c97 :: c98 :: c99 :: c100 :: c101 :: c102 :: c103 :: c104 :: c105 :: c106 :: c107 :: c108 :: c109 :: c110 :: c111 :: c112 :: c113 :: c114 :: c115 :: c116 :: c117 :: c118 :: c119 :: c120 :: c121 :: c122 :: c123 :: c124 :: c125 :: c126 :: c127 :: c128 :: c129 :: c130 :: c131 :: c132 :: c133 :: c134 :: c135 :: c136 :: c137 :: c138 :: c139 :: c140 :: c141 :: c142 :: c143 :: c144 :: c145 :: c146 :: c147 :: c148 :: c149 :: c150 :: c151 :: c152 :: c153 :: c154 :: c155 :: c156 :: c157 :: c158 :: c159 :: c160 :: c161 :: c162 :: c163 :: c164 :: c165 :: c166 :: c167 :: c168 :: c169 :: c170 :: c171 :: c172 :: c173 :: c174 :: c175 :: c176 :: c177 :: c178 :: c179 :: c180 :: c181 :: c182 :: c183 :: c184 :: c185 :: c186 :: c187 :: c188 :: c189 :: c190 :: c191 :: c192 :: c193 :: c194 :: c195 :: c196 :: c197 :: c198 :: c199 :: c200 :: c201 :: c202 :: c203 :: c204 :: c205 :: c206 :: c207 :: c208 :: c209 :: c210 :: c211 :: c212 :: c213 :: c214 :: c215 :: c216 :: c217 :: c218 :: c219 :: c220 :: c221 :: c222 :: undef :: undef :: undef :: undef :: undef :: undef :: undef :: undef :: undef :: undef :: undef :: undef :: undef :: undef :: undef :: undef :: undef :: undef :: undef :: undef :: undef :: undef :: undef :: undef :: undef :: undef :: undef :: undef :: ([] : List Value)).toArray, defers := [] } w9) :
    Code.wp Try.prog
    (Code.region 37
      #[{ dst := some 155, op := Op.move (Operand.tmp 4), type := 24, pos := "law.go:78", after := #[], guard := none },
        { dst := some 156, op := Op.fieldAddr 40 (Operand.tmp 7) 1, type := 0, pos := "law.go:78", after := #[],
          guard := none },
        { dst := some 157, op := Op.load 3 (Operand.tmp 156), type := 3, pos := "law.go:78",
          after := #[{ on := 1, ground := Ground.data }], guard := none },
        { dst := some 158,
          op :=
            Op.call
              { callee := Callee.value (Operand.func 19), args := #[Operand.tmp 155, Operand.tmp 157],
                argTypes := #[24, 3] },
          type := 41, pos := "law.go:78",
          after := #[{ on := 0, ground := Ground.data }, { on := 2, ground := Ground.data }], guard := none },
        { dst := some 154, op := Op.move (Operand.tmp 158), type := 41, pos := "law.go:78",
          after := #[{ on := 3, ground := Ground.data }], guard := none },
        { dst := some 159, op := Op.extract (Operand.tmp 154) 0, type := 30, pos := "law.go:78",
          after := #[{ on := 4, ground := Ground.data }], guard := none },
        { dst := some 160, op := Op.extract (Operand.tmp 154) 1, type := 34, pos := "law.go:78",
          after := #[{ on := 4, ground := Ground.data }, { on := 8, ground := Ground.gcOnly Departure.lateStores }],
          guard := none },
        { dst := some 15, op := Op.alloc 30, type := 0, pos := "law.go:78", after := #[], guard := none },
        { dst := none, op := Op.store 30 (Operand.tmp 15) (Operand.tmp 159), type := 0, pos := "law.go:78",
          after :=
            #[{ on := 7, ground := Ground.data }, { on := 5, ground := Ground.data },
              { on := 3, ground := Ground.chain }, { on := 0, ground := Ground.phase },
              { on := 1, ground := Ground.phase }, { on := 2, ground := Ground.phase },
              { on := 3, ground := Ground.phase }, { on := 4, ground := Ground.phase },
              { on := 5, ground := Ground.phase }, { on := 6, ground := Ground.textOnly Departure.lateStores },
              { on := 7, ground := Ground.phase }],
          guard := none },
        { dst := some 16, op := Op.assign (Operand.tmp 160), type := 34, pos := "law.go:78",
          after :=
            #[{ on := 6, ground := Ground.data }, { on := 8, ground := Ground.chain },
              { on := 0, ground := Ground.phase }, { on := 1, ground := Ground.phase },
              { on := 2, ground := Ground.phase }, { on := 3, ground := Ground.phase },
              { on := 4, ground := Ground.phase }, { on := 5, ground := Ground.phase },
              { on := 6, ground := Ground.phase }, { on := 7, ground := Ground.phase },
              { on := 8, ground := Ground.phase }],
          guard := none }]
      false)
    (Exit.then K_0 (Exit.inBlock 2 (Exit.then Kp_0 (Exit.inBlock 1 (Exit.then K_2 Qp_0)))))
    {
      tmps :=
        (Value.slice (some { block := b, off := o }) ds.length cap :: undef :: u2 :: Value.bool true :: Value.pointer (some { block := gn, off := 0 }) :: Value.slice lA xs.length lc :: Value.int IntKind.i64 (↑i : Int) :: Value.pointer (some { block := wo.heap.size, off := 0 }) :: Value.bool has :: u9 :: u10 :: u11 :: u12 :: u13 :: u14 :: u15 :: u16 :: u17 :: u18 :: u19 :: undef :: undef :: undef :: Value.bool true :: Value.pointer (some { block := g, off := 0 }) :: u25 :: u26 :: u27 :: u28 :: u29 :: u30 :: u31 :: u32 :: u33 :: u34 :: u35 :: u36 :: u37 :: u38 :: u39 :: u40 :: u41 :: u42 :: u43 :: u44 :: u45 :: u46 :: u47 :: u48 :: u49 :: u50 :: u51 :: u52 :: u53 :: u54 :: u55 :: u56 :: u57 :: u58 :: u59 :: u60 :: u61 :: u62 :: Value.pointer (some { block := wo.heap.size, off := 0 }) :: Value.int IntKind.i64 d1 :: Value.int IntKind.i64 3 :: u66 :: u67 :: u68 :: u69 :: u70 :: u71 :: u72 :: u73 :: u74 :: Value.bool false :: Value.bool false :: Value.bool false :: u78 :: u79 :: u80 :: u81 :: u82 :: u83 :: u84 :: u85 :: u86 :: u87 :: u88 :: u89 :: u90 :: u91 :: u92 :: u93 :: u94 :: u95 :: u96 :: u97 :: u98 :: u99 :: u100 :: u101 :: u102 :: u103 :: u104 :: u105 :: u106 :: u107 :: Value.bool false :: Value.bool false :: u110 :: u111 :: u112 :: u113 :: u114 :: u115 :: u116 :: u117 :: u118 :: u119 :: u120 :: u121 :: u122 :: u123 :: u124 :: u125 :: u126 :: u127 :: u128 :: u129 :: u130 :: u131 :: u132 :: u133 :: u134 :: u135 :: u136 :: u137 :: u138 :: u139 :: u140 :: u141 :: u142 :: u143 :: u144 :: u145 :: u146 :: u147 :: u148 :: u149 :: u150 :: u151 :: Value.bool true :: Value.bool true :: u154 :: u155 :: u156 :: u157 :: u158 :: u159 :: u160 :: u161 :: u162 :: u163 :: u164 :: u165 :: u166 :: u167 :: u168 :: u169 :: u170 :: u171 :: u172 :: u173 :: u174 :: u175 :: u176 :: u177 :: u178 :: u179 :: u180 :: u181 :: u182 :: u183 :: u184 :: u185 :: u186 :: u187 :: u188 :: u189 :: u190 :: u191 :: u192 :: u193 :: u194 :: u195 :: u196 :: u197 :: u198 :: u199 :: u200 :: u201 :: u202 :: u203 :: u204 :: u205 :: u206 :: u207 :: u208 :: u209 :: u210 :: u211 :: u212 :: u213 :: u214 :: u215 :: u216 :: u217 :: u218 :: u219 :: u220 :: u221 :: u222 :: undef :: undef :: undef :: undef :: undef :: undef :: undef :: undef :: undef :: undef :: undef :: undef :: undef :: undef :: undef :: undef :: undef :: undef :: undef :: undef :: undef :: undef :: undef :: undef :: undef :: undef :: undef :: undef :: ([] : List Value)).toArray,
      defers := [] }
    W1 := by
  · --#arm3
    by_cases hh : 0 ≤ d2 ∧ d2 < (xs.length : Int)
    · obtain ⟨m, rfl⟩ : ∃ m : Nat, d2 = (m : Int) := ⟨d2.toNat, by omega⟩
      have hm : m < xs.length := by omega
      have hpk0 : xs[m]? = some xs[m] := List.getElem?_eq_getElem hm
      obtain rfl : has = true := by rw [Hhas.out]; exact decide_eq_true hh
      obtain ⟨pk, hpk⟩ : ∃ pk, pk = xs[m] := ⟨_, rfl⟩
      rw [← hpk] at hpk0
      clear y0 y2 y3 y4 y5 y6 hrep1
      go_wp2_with fail
      refine (take_ok hB1.net m pk hpk0).mono ?_
      rintro e w3 ⟨⟨cs3, rfl, hx3⟩, hN3, ht3⟩
      obtain ⟨A8, cap8, rfl, _⟩ := packet_open hx3
      obtain ⟨_, hc8, hm8⟩ := sl_cap (packet_body hx3)
      have hB3 := hB1.two.send hN3 (fun _ h => .inl h) (fun _ h => .inl h) ht3
      have hrow3 : Row w3 wo.heap.size _ _ := (ht3.block _ hdl hdF.1.1).trans hrow
      have hs3 := ht3.size
      clear y1 hN3 ht3
      have hb9 := below_alloc (Below.refl w3.heap.size w3) (.cells #[.int .i64 pk.1, .int .i64 pk.2.1, .int .u64 (pk.2.2.1 : Int), .bool pk.2.2.2.1, .slice A8 pk.2.2.2.2.length cap8] 30)
      have hX9 := PacketS.below hx3 hb9.drew
      have hX9b : Box w3.heap.size S _ pk A8 cap8 := ⟨(Row.new w3 30 #[.int .i64 pk.1, .int .i64 pk.2.1, .int .u64 (pk.2.2.1 : Int), .bool pk.2.2.2.1, .slice A8 pk.2.2.2.2.length cap8]).drew, hX9⟩
      have hB9 := hB3.below hb9.drew
      have hrow9 := (hrow3.alloc (.cells #[.int .i64 pk.1, .int .i64 pk.2.1, .int .u64 (pk.2.2.1 : Int), .bool pk.2.2.2.1, .slice A8 pk.2.2.2.2.length cap8] 30)).drew
      have hl9 := hB9.own.sl (S' := (· < w3.heap.size)) (fun b hb => by have h1 : b < w.heap.size := hb; have := hB3.low.size; omega) (fun k hk => (hB3.own.blk k hk).2) (by have e : PacketS.by_ = 56 := rfl; rw [e]; omega)
      obtain ⟨b', o', e1, e2, e3, e4, E1, m1, cape, rfl, hb', hrepl, c0, c1, c2, c3, c4⟩ := packet_at hl9 m hm
      rw [← hpk] at hrepl
      have y1 := hrow9.cell 1 (by simp)
      simp only [List.getElem_cons_zero, List.getElem_cons_succ] at y1
      have HB3 := hB3
      clear hpk hpk0 hl9
      go_upto_region 41 with (fail)
      obtain ⟨x0, x1, x2, x3, x4⟩ := hX9b.cells
      have hz9 : w3.heap.size < (w3.alloc (.cells #[.int .i64 pk.1, .int .i64 pk.2.1, .int .u64 (pk.2.2.1 : Int), .bool pk.2.2.2.1, .slice A8 pk.2.2.2.2.length cap8] 30)).drew.heap.size := by show _ < (w3.alloc _).heap.size; simp
      have hz10 : b' < (w3.alloc (.cells #[.int .i64 pk.1, .int .i64 pk.2.1, .int .u64 (pk.2.2.1 : Int), .bool pk.2.2.2.1, .slice A8 pk.2.2.2.2.length cap8] 30)).drew.heap.size := by
        show _ < (w3.alloc _).heap.size
        have h1 : b' < w3.heap.size := hb'
        simp
        omega
      have hz11 : wo.heap.size < (w3.alloc (.cells #[.int .i64 pk.1, .int .i64 pk.2.1, .int .u64 (pk.2.2.1 : Int), .bool pk.2.2.2.1, .slice A8 pk.2.2.2.2.length cap8] 30)).drew.heap.size := by
        show _ < (w3.alloc _).heap.size
        simp
        omega
      first
      | (go_region_held3 (fun w' => w'.cell? ⟨w3.heap.size, 0, none⟩ = some (.int .i64 pk.1) ∧ w'.cell? ⟨w3.heap.size, 1, none⟩ = some (.int .i64 pk.2.1) ∧ w'.cell? ⟨w3.heap.size, 2, none⟩ = some (.int .u64 (pk.2.2.1 : Int)) ∧ w'.cell? ⟨w3.heap.size, 3, none⟩ = some (.bool pk.2.2.2.1) ∧ w'.cell? ⟨w3.heap.size, 4, none⟩ = some (.slice A8 pk.2.2.2.2.length cap8) ∧
             w'.cell? ⟨wo.heap.size, 1, none⟩ = some (.int .i64 (m : Int)) ∧
             w'.cell? ⟨b', o' + m * 5, none⟩ = some (.int .i64 e1) ∧ w'.cell? ⟨b', o' + m * 5 + 1, none⟩ = some (.int .i64 e2) ∧ w'.cell? ⟨b', o' + m * 5 + 2, none⟩ = some (.int .u64 e3) ∧ w'.cell? ⟨b', o' + m * 5 + 3, none⟩ = some (.bool e4) ∧ w'.cell? ⟨b', o' + m * 5 + 4, none⟩ = some (.slice E1 m1 cape))
           (first | exact ⟨x0, x1, x2, x3, x4, y1, c0, c1, c2, c3, c4⟩ | exact hSD)
           (first
           | (go_at_call 18
              refine (same_true hX9 hrepl).mono ?_
              rintro e wD ⟨rfl, hbD⟩
              have hSD := And.intro ((hbD.cell (p := ⟨w3.heap.size, 0, none⟩) hz9).trans x0) (And.intro ((hbD.cell (p := ⟨w3.heap.size, 1, none⟩) hz9).trans x1) (And.intro ((hbD.cell (p := ⟨w3.heap.size, 2, none⟩) hz9).trans x2) (And.intro ((hbD.cell (p := ⟨w3.heap.size, 3, none⟩) hz9).trans x3) (And.intro ((hbD.cell (p := ⟨w3.heap.size, 4, none⟩) hz9).trans x4)
                (And.intro ((hbD.cell (p := ⟨wo.heap.size, 1, none⟩) hz11).trans y1) (And.intro ((hbD.cell (p := ⟨b', o' + m * 5, none⟩) hz10).trans c0) (And.intro ((hbD.cell (p := ⟨b', o' + m * 5 + 1, none⟩) hz10).trans c1) (And.intro ((hbD.cell (p := ⟨b', o' + m * 5 + 2, none⟩) hz10).trans c2) (And.intro ((hbD.cell (p := ⟨b', o' + m * 5 + 3, none⟩) hz10).trans c3) ((hbD.cell (p := ⟨b', o' + m * 5 + 4, none⟩) hz10).trans c4)))))))))))
           | fail))
      | fail "held3"
      have hBD := hB9.below hbD
      have hrowD := hrow9.below hz11 hbD
      have hXD := hX9b.below hbD
      clear hSD x0 x1 x2 x3 x4 c0 c1 c2 c3 c4 y1 hX9 hX9b hB9 hrow9 hrepl hB3
      have y1 := hrowD.cell 1 (by simp)
      simp only [List.getElem_cons_zero, List.getElem_cons_succ] at y1
      have hlD := hrowD.lt
      have hwD := hBD.low.size
      have hb10 := below_alloc (Below.refl wD.heap.size wD) (.cells #[] 30)
      have hB10 := hBD.below hb10
      have hm4 : m ≤ lc := by omega
      have hE10 := (SlE.of_own hB10.own).cut 0 m (Nat.zero_le _) (by omega) (some ⟨b', o', none⟩) (fun _ b o e => by simpa using e) m lc rfl (by omega) hlm
      clear hXD hx3 HB3
      go_wp2_with (at_builtin; refine wpList_append_el (r := PacketS) rfl _ _ 26 30 _ 56 rfl Try.underlying26 Try.info30 rfl (by decide) (by decide) wD.heap.size _ [] (S := (· < w.heap.size)) _ ((xs.take m).drop 0) rfl rfl ?a1 ?a2 ?a3 ?a4 ?a5 ?_)
      case a1 => exact Own.lit _ _ _ _ _ [] #[] (Nat.le_refl _) rfl 0 rfl (by omega)
      case a2 => exact hE10
      case a3 => simp; omega
      case a4 => exact hb10.size
      case a5 =>
        intro b hb
        have hb' : b < w.heap.size := hb
        exact ⟨by have := hb10.size; omega, ne_own (by omega)⟩
      intro v10 w10 ho10 hg10 hv10
      have hbX : Below wD.heap.size wD w10 := hb10.grown hg10 hb10.size (fun k hk => own_ge hk (Nat.le_refl _))
      have hB11 := hBD.below hbX
      have hrow11 := hrowD.below hlD hbX
      have y11 := hrow11.cell 1 (by simp)
      simp only [List.getElem_cons_zero, List.getElem_cons_succ] at y11
      clear hE10 hB10 hb10 hg10 hv10 y1
      have hm5 : (m : Int) + 1 ≤ (xs.length : Int) := by omega
      have hm6 : (m : Int) + 1 ≤ (lc : Int) := by omega
      have hm7 : m + 1 ≤ lc := by omega
      by_cases hcl : lc = m + 1
      · have hE11 := (SlE.of_own hB11.own).cut (m + 1) xs.length (by omega) (Nat.le_refl _) (some ⟨b', o', none⟩) (fun hh b o e => by first | (exfalso; omega) | (simp only [Option.some.injEq, Addr.mk.injEq, and_true] at e; obtain ⟨rfl, rfl⟩ := e; rfl)) (xs.length - (m + 1)) 0 rfl (by omega) (by omega)
        go_wp2_with (at_builtin; refine wpList_append_el (r := PacketS) rfl _ _ 26 30 _ 56 rfl Try.underlying26 Try.info30 rfl (by decide) (by decide) wD.heap.size v10 ([] ++ (xs.take m).drop 0) (S := (· < w.heap.size)) _ ((xs.take xs.length).drop (m + 1)) rfl rfl ?b1p ?b2p ?b3p ?b4p ?b5p ?_)
        case b1p => exact ho10
        case b2p => exact hE11
        case b3p => simp; omega
        case b4p => exact hbX.size
        case b5p =>
          intro b hb
          have hb' : b < w.heap.size := hb
          exact ⟨by have := hbX.size; omega, fun h => by have := (ho10.blk b h.symm).1; omega⟩
        intro v11 w11 ho11 hg11 hv11
        have hbY : Below wD.heap.size wD w11 := hbX.grown hg11 hbX.size (fun k hk => (ho10.blk k hk).1)
        have hlist : xs.take m ++ xs.drop (m + 1) = xs.eraseIdx m := (List.eraseIdx_eq_take_drop_succ _ _).symm
        rw [hlist] at ho11
        obtain ⟨q1, q2, q3, q4⟩ := hBD.renew hbY ho11
        have hBf : Bes w F S gn v11 (xs.eraseIdx m) w11 := ⟨q1, q2, q3, q4⟩
        clear q1 q2 q3 q4 hlist ho11 hg11 hv11 hbY hE11 ho10 hB11 hrow11 y11 hbX hBD hrowD
        go_wp2_with fail
        (have hmeet_ := a_2.out; go_meet)
        case rel => exact ⟨gn, xs.eraseIdx m, rfl, by rw [List.length_eraseIdx]; split <;> omega, F, S, hBf⟩
      · have hE11 := (SlE.of_own hB11.own).cut (m + 1) xs.length (by omega) (Nat.le_refl _) (some ⟨b', o' + (m + 1) * 5, none⟩) (fun hh b o e => by first | (exfalso; omega) | (simp only [Option.some.injEq, Addr.mk.injEq, and_true] at e; obtain ⟨rfl, rfl⟩ := e; rfl)) (xs.length - (m + 1)) (lc - (m + 1)) rfl (by omega) (by omega)
        go_wp2_with (at_builtin; refine wpList_append_el (r := PacketS) rfl _ _ 26 30 _ 56 rfl Try.underlying26 Try.info30 rfl (by decide) (by decide) wD.heap.size v10 ([] ++ (xs.take m).drop 0) (S := (· < w.heap.size)) _ ((xs.take xs.length).drop (m + 1)) rfl rfl ?b1q ?b2q ?b3q ?b4q ?b5q ?_)
        case b1q => exact ho10
        case b2q => exact hE11
        case b3q => simp; omega
        case b4q => exact hbX.size
        case b5q =>
          intro b hb
          have hb' : b < w.heap.size := hb
          exact ⟨by have := hbX.size; omega, fun h => by have := (ho10.blk b h.symm).1; omega⟩
        intro v11 w11 ho11 hg11 hv11
        have hbY : Below wD.heap.size wD w11 := hbX.grown hg11 hbX.size (fun k hk => (ho10.blk k hk).1)
        have hlist : xs.take m ++ xs.drop (m + 1) = xs.eraseIdx m := (List.eraseIdx_eq_take_drop_succ _ _).symm
        rw [hlist] at ho11
        obtain ⟨q1, q2, q3, q4⟩ := hBD.renew hbY ho11
        have hBf : Bes w F S gn v11 (xs.eraseIdx m) w11 := ⟨q1, q2, q3, q4⟩
        clear q1 q2 q3 q4 hlist ho11 hg11 hv11 hbY hE11 ho10 hB11 hrow11 y11 hbX hBD hrowD
        go_wp2_with fail
        (have hmeet_ := a_2.out; go_meet)
        case rel => exact ⟨gn, xs.eraseIdx m, rfl, by rw [List.length_eraseIdx]; split <;> omega, F, S, hBf⟩
    · obtain rfl : has = false := by rw [Hhas.out]; exact decide_eq_false hh
      clear y0 y2 y3 y4 y5 y6 hrep1
      go_wp2_with fail
      refine (take_none hB1.net d2 hh).mono ?_
      rintro e w3 ⟨he, hb3⟩
      obtain rfl : e = .returned (.tuple #[.agg #[.int .i64 0, .int .i64 0, .int .u64 0, .bool false, .slice none 0 0], .iface 36 (.int .i64 6)]) := he
      have hB3 := hB1.below hb3
      have hne := fun W => err_neq 6 6 W
      simp only [beq_self_eq_true, Bool.not_true] at hne
      have hB4 := hB3.below (below_alloc (Below.refl w3.heap.size w3) (.cells #[.int .i64 0, .int .i64 0, .int .u64 0, .bool false, .slice none 0 0] 30))
      clear hb3 hB1 hrow y1
      go_wp2_with fail
      clear hne
      all_goals exact hB4

end Go.Proofs.Ytigdeaeoejpnlaa
