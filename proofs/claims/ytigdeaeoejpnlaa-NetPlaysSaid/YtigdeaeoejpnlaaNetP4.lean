/- The law NetPlays: its walk, one arm of the switch. -/
import Derived.Test.YtigdeaeoejpnlaaNetN0
namespace Go.Proofs.Ytigdeaeoejpnlaa
open Go.RowKit

set_option maxHeartbeats 8000000 in
set_option maxRecDepth 100000 in
theorem arm4_walk {w : World}
    {ds : List Deed}
    {cap : Nat}
    {g : Nat}
    {u2 u9 u10 u11 u12 u13 u14 u15 u16 u17 u18 u19 :
  Value}
    {i gn : Nat}
    {xs : List Packet}
    (hids : i ≤ ds.length)
    (hxl : xs.length ≤ i)
    {F S : Nat → Prop}
    {wo : World}
    (hbw : Below w.heap.size w wo)
    {lA : Option Addr}
    {lc : Nat}
    (hlc : xs.length ≤ lc)
    (hlm : lc ≤ 9223372036854775807)
    (hlt1 : i < ds.length)
    (hlt2 : i < 100)
    {b o : Nat}
    {d1 d2 a1 a2 a3 : Int}
    {a4 : Bool}
    {A1 : Option Addr}
    {n1 cap1 : Nat}
    (hrep :
  PacketS.rep (fun x => x < w.heap.size) wo ds[i].snd.snd
    [Value.int IntKind.i64 a1, Value.int IntKind.i64 a2, Value.int IntKind.u64 a3, Value.bool a4,
      Value.slice A1 n1 cap1])
    (hr2 : -9223372036854775808 ≤ d2 ∧ d2 ≤ 9223372036854775807)
    (h2000 : ¬2000 < n1)
    (Hd1 : Hid (d1 = ds[i].fst))
    (Hd2 : Hid (d2 = ds[i].snd.fst))
    (Hn1 : Hid (n1 = ds[i].snd.snd.snd.snd.snd.snd.length))
    {Qp_0 : Exit → Act → World → Prop }
    {K_2 : Act → World → Prop}
    {u25 u26 u27 u28 u29 u30 u31 u32 u33 u34 u35 u36 u37 u38 u39 u40 u41 u42 u43 u44 u45 u46 u47 u48 u49 u50 u51 u52 u53 u54 u55 u56 u57 u58 u59 u60 u61 u62 u66 u67 u68 u69 u70 u71 u72 u73 u74 u78 u79 u80 u81 u82 u83 u84 u85 u86 u87 u88 u89 u90 u91 u92 u93 u94 u95 u96 u97 u98 u99 u100 u101 u102 u103 u104 u105 u106 u107 u110 u111 u112 u113 u114 u115 u116 u117 u118 u119 u120 u121 u122 u123 u124 u125 u126 u127 u128 u129 u130 u131 u132 u133 u134 u135 u136 u137 u138 u139 u140 u141 u142 u143 u144 u145 u146 u147 u148 u149 u150 u151 u154 u155 u156 u157 u158 u159 u160 u161 u162 u163 u164 u165 u166 u167 u168 u169 u170 u171 u172 u173 u174 u175 u176 u177 u178 u179 u180 u181 u182 u183 u184 u185 u186 u187 u188 u189 u190 u193 u194 u195 u196 u197 u198 u199 u200 u201 u202 u203 u204 u205 u206 u207 u208 u209 u210 u211 u212 u213 u214 u215 u216 u217 u218 u219 u220 u221 u222 :
  Value}
    {has : Bool}
    (Hhas : Hid (has = decide (0 ≤ d2 ∧ d2 < (↑xs.length : Int))))
    {J_0 Kp_0 : Act → World → Prop}
    (a_2 : Hid (
  ∀ (a' : Act) (w' : World),
    (∃ u2 u4 u5 u9 u10 u11 u12 u13 u14 u15 u16 u17 u18 u19 u25 u26 u27 u28 u29 u30 u31 u32 u33 u34 u35 u36 u37 u38 u39
        u40 u41 u42 u43 u44 u45 u46 u47 u48 u49 u50 u51 u52 u53 u54 u55 u56 u57 u58 u59 u60 u61 u62 u63 u64 u65 u66 u67
        u68 u69 u70 u71 u72 u73 u74 u75 u76 u77 u78 u79 u80 u81 u82 u83 u84 u85 u86 u87 u88 u89 u90 u91 u92 u93 u94 u95
        u96 u97 u98 u99 u100 u101 u102 u103 u104 u105 u106 u107 u108 u109 u110 u111 u112 u113 u114 u115 u116 u117 u118
        u119 u120 u121 u122 u123 u124 u125 u126 u127 u128 u129 u130 u131 u132 u133 u134 u135 u136 u137 u138 u139 u140
        u141 u142 u143 u144 u145 u146 u147 u148 u149 u150 u151 u152 u153 u154 u155 u156 u157 u158 u159 u160 u161 u162
        u163 u164 u165 u166 u167 u168 u169 u170 u171 u172 u173 u174 u175 u176 u177 u178 u179 u180 u181 u182 u183 u184
        u185 u186 u187 u188 u189 u190 u191 u192 u193 u194 u195 u196 u197 u198 u199 u200 u201 u202 u203 u204 u205 u206
        u207 u208 u209 u210 u211 u212 u213 u214 u215 u216 u217 u218 u219 u220 u221 u222,
        (∃ g' xs', u4 = Value.pointer (some { block := g', off := 0 }) ∧ xs'.length ≤ i + 1 ∧ Beside w g' u5 xs' w') ∧
          a' =
            {
              tmps :=
                (Value.slice (some { block := b, off := o }) ds.length cap :: undef :: u2 :: Value.bool true :: u4 :: u5 :: Value.int IntKind.i64 (↑i : Int) :: Value.pointer (some { block := wo.heap.size, off := 0 }) :: Value.bool has :: u9 :: u10 :: u11 :: u12 :: u13 :: u14 :: u15 :: u16 :: u17 :: u18 :: u19 :: undef :: undef :: undef :: Value.bool true :: Value.pointer (some { block := g, off := 0 }) :: u25 :: u26 :: u27 :: u28 :: u29 :: u30 :: u31 :: u32 :: u33 :: u34 :: u35 :: u36 :: u37 :: u38 :: u39 :: u40 :: u41 :: u42 :: u43 :: u44 :: u45 :: u46 :: u47 :: u48 :: u49 :: u50 :: u51 :: u52 :: u53 :: u54 :: u55 :: u56 :: u57 :: u58 :: u59 :: u60 :: u61 :: u62 :: u63 :: u64 :: u65 :: u66 :: u67 :: u68 :: u69 :: u70 :: u71 :: u72 :: u73 :: u74 :: u75 :: u76 :: u77 :: u78 :: u79 :: u80 :: u81 :: u82 :: u83 :: u84 :: u85 :: u86 :: u87 :: u88 :: u89 :: u90 :: u91 :: u92 :: u93 :: u94 :: u95 :: u96 :: u97 :: u98 :: u99 :: u100 :: u101 :: u102 :: u103 :: u104 :: u105 :: u106 :: u107 :: u108 :: u109 :: u110 :: u111 :: u112 :: u113 :: u114 :: u115 :: u116 :: u117 :: u118 :: u119 :: u120 :: u121 :: u122 :: u123 :: u124 :: u125 :: u126 :: u127 :: u128 :: u129 :: u130 :: u131 :: u132 :: u133 :: u134 :: u135 :: u136 :: u137 :: u138 :: u139 :: u140 :: u141 :: u142 :: u143 :: u144 :: u145 :: u146 :: u147 :: u148 :: u149 :: u150 :: u151 :: u152 :: u153 :: u154 :: u155 :: u156 :: u157 :: u158 :: u159 :: u160 :: u161 :: u162 :: u163 :: u164 :: u165 :: u166 :: u167 :: u168 :: u169 :: u170 :: u171 :: u172 :: u173 :: u174 :: u175 :: u176 :: u177 :: u178 :: u179 :: u180 :: u181 :: u182 :: u183 :: u184 :: u185 :: u186 :: u187 :: u188 :: u189 :: u190 :: u191 :: u192 :: u193 :: u194 :: u195 :: u196 :: u197 :: u198 :: u199 :: u200 :: u201 :: u202 :: u203 :: u204 :: u205 :: u206 :: u207 :: u208 :: u209 :: u210 :: u211 :: u212 :: u213 :: u214 :: u215 :: u216 :: u217 :: u218 :: u219 :: u220 :: u221 :: u222 :: undef :: undef :: undef :: undef :: undef :: undef :: undef :: undef :: undef :: undef :: undef :: undef :: undef :: undef :: undef :: undef :: undef :: undef :: undef :: undef :: undef :: undef :: undef :: undef :: undef :: undef :: undef :: undef :: ([] : List Value)).toArray,
              defers := [] }) →
      J_0 a' w'))
    (a_1 : ∀ (a' : Act) (w' : World), Met J_0 a' w' → Kp_0 a' w')
    {W1 : World}
    (hrow :
  Row W1 wo.heap.size 40
    [Value.int IntKind.i64 d1, Value.int IntKind.i64 d2, Value.int IntKind.i64 a1, Value.int IntKind.i64 a2,
      Value.int IntKind.u64 a3, Value.bool a4, Value.slice A1 n1 cap1])
    (hB1 : Bes w F S gn (Value.slice lA xs.length lc) xs W1)
    (hrep1 :
  PacketS.rep (fun x => x < w.heap.size) W1 ds[i].snd.snd
    [Value.int IntKind.i64 a1, Value.int IntKind.i64 a2, Value.int IntKind.u64 a3, Value.bool a4,
      Value.slice A1 n1 cap1])
    (hdF :
  (¬F wo.heap.size ∧ ¬S wo.heap.size) ∧
    (Value.slice lA xs.length lc).ownBlock ≠ some wo.heap.size ∧ w.heap.size ≤ wo.heap.size)
    (hdl : wo.heap.size < W1.heap.size)
    (Hlen : xs.length ≤ 100)
    (y0 : W1.cell? { block := wo.heap.size, off := 0 } = some (Value.int IntKind.i64 d1))
    (y1 : W1.cell? { block := wo.heap.size, off := 1 } = some (Value.int IntKind.i64 d2))
    (y2 : W1.cell? { block := wo.heap.size, off := 2 } = some (Value.int IntKind.i64 a1))
    (y3 : W1.cell? { block := wo.heap.size, off := 3 } = some (Value.int IntKind.i64 a2))
    (y4 : W1.cell? { block := wo.heap.size, off := 4 } = some (Value.int IntKind.u64 a3))
    (y5 : W1.cell? { block := wo.heap.size, off := 5 } = some (Value.bool a4))
    (y6 : W1.cell? { block := wo.heap.size, off := 6 } = some (Value.slice A1 n1 cap1))
    {K_0 : Act → World → Prop}
    (a_0 :
  ∀ (a : Act) (w : World),
    Code.wp Try.prog
        (((Code.region 47
                  #[{ dst := some 197, op := Op.move (Operand.tmp 8), type := 4, pos := "law.go:92", after := #[],
                      guard := none },
                    { dst := some 198, op := Op.unOp UnOp.not 4 (Operand.tmp 197), type := 4, pos := "law.go:92",
                      after := #[{ on := 0, ground := Ground.data }], guard := none }]
                  false).seq
              (Code.cond (Operand.tmp 198)
                (((Code.region 48
                          #[{ dst := some 199, op := Op.move (Operand.tmp 18), type := 34, pos := "law.go:93",
                              after := #[], guard := none },
                            { dst := some 200, op := Op.makeInterface 36 (Operand.const (Value.int IntKind.i64 6)),
                              type := 34, pos := "law.go:93", after := #[], guard := none },
                            { dst := some 201, op := Op.binOp BinOp.neq 34 (Operand.tmp 199) (Operand.tmp 200) 34,
                              type := 4, pos := "law.go:93",
                              after := #[{ on := 0, ground := Ground.data }, { on := 1, ground := Ground.data }],
                              guard := none }]
                          false).seq
                      (Code.cond (Operand.tmp 201)
                        ((Code.region 49
                              #[{ dst := some 2, op := Op.assign (Operand.const (Value.bool false)), type := 4,
                                  pos := "law.go:94", after := #[], guard := none }]
                              false).seq
                          Code.ret)
                        Code.skip)).seq
                  (Code.exit 1))
                Code.skip)).seq
          (((Code.region 50
                    #[{ dst := some 202, op := Op.move (Operand.tmp 18), type := 34, pos := "law.go:98", after := #[],
                        guard := none },
                      { dst := some 203,
                        op := Op.binOp BinOp.neq 34 (Operand.tmp 202) (Operand.const Value.nilIface) 34, type := 4,
                        pos := "law.go:98", after := #[{ on := 0, ground := Ground.data }], guard := none }]
                    false).seq
                (Code.cond (Operand.tmp 203)
                  ((Code.region 51
                        #[{ dst := some 2, op := Op.assign (Operand.const (Value.bool false)), type := 4,
                            pos := "law.go:99", after := #[], guard := none }]
                        false).seq
                    Code.ret)
                  Code.skip)).seq
            (Code.region 52
              #[{ dst := some 204, op := Op.buildSlice 26 0 #[], type := 26, pos := "law.go:101", after := #[],
                  guard := none },
                { dst := some 205, op := Op.move (Operand.tmp 5), type := 26, pos := "law.go:101", after := #[],
                  guard := none },
                { dst := some 206,
                  op :=
                    Op.call
                      { callee := Callee.builtin Builtin.append, args := #[Operand.tmp 204, Operand.tmp 205],
                        argTypes := #[26, 26] },
                  type := 26, pos := "law.go:101",
                  after := #[{ on := 0, ground := Ground.data }, { on := 1, ground := Ground.data }], guard := none },
                { dst := some 207, op := Op.move (Operand.tmp 5), type := 26, pos := "law.go:101", after := #[],
                  guard := none },
                { dst := some 208, op := Op.fieldAddr 40 (Operand.tmp 7) 1, type := 0, pos := "law.go:101",
                  after := #[], guard := none },
                { dst := some 209, op := Op.load 3 (Operand.tmp 208), type := 3, pos := "law.go:101",
                  after := #[{ on := 4, ground := Ground.data }], guard := none },
                { dst := some 210, op := Op.indexAddr 26 (Operand.tmp 207) (Operand.tmp 209), type := 0,
                  pos := "law.go:101",
                  after := #[{ on := 3, ground := Ground.data }, { on := 5, ground := Ground.data }], guard := none },
                { dst := some 211, op := Op.load 30 (Operand.tmp 210), type := 30, pos := "law.go:101",
                  after := #[{ on := 6, ground := Ground.data }], guard := none },
                { dst := some 212, op := Op.buildSlice 26 1 #[(0, Operand.tmp 211)], type := 26, pos := "law.go:101",
                  after := #[{ on := 7, ground := Ground.data }], guard := none },
                { dst := some 213,
                  op :=
                    Op.call
                      { callee := Callee.builtin Builtin.append, args := #[Operand.tmp 206, Operand.tmp 212],
                        argTypes := #[26, 26] },
                  type := 26, pos := "law.go:101",
                  after :=
                    #[{ on := 2, ground := Ground.data }, { on := 8, ground := Ground.data },
                      { on := 2, ground := Ground.chain }],
                  guard := none },
                { dst := some 5, op := Op.assign (Operand.tmp 213), type := 26, pos := "law.go:101",
                  after :=
                    #[{ on := 9, ground := Ground.data }, { on := 9, ground := Ground.chain },
                      { on := 0, ground := Ground.phase }, { on := 1, ground := Ground.phase },
                      { on := 2, ground := Ground.phase }, { on := 3, ground := Ground.phase },
                      { on := 4, ground := Ground.phase }, { on := 5, ground := Ground.phase },
                      { on := 6, ground := Ground.phase }, { on := 7, ground := Ground.phase },
                      { on := 8, ground := Ground.phase }, { on := 9, ground := Ground.phase }],
                  guard := none }]
              true)))
        (Exit.inBlock 2 (Exit.then Kp_0 (Exit.inBlock 1 (Exit.then K_2 Qp_0)))) a w →
      K_0 a w)
    (hcont : ∀ (c9 c10 c11 c12 c13 c14 c15 c16 c17 c18 c19 c25 c26 c27 c28 c29 c30 c31 c32 c33 c34 c35 c36 c37 c38 c39 c40 c41 c42 c43 c44 c45 c46 c47 c48 c49 c50 c51 c52 c53 c54 c55 c56 c57 c58 c59 c60 c61 c62 c63 c64 c65 c66 c67 c68 c69 c70 c71 c72 c73 c74 c75 c76 c77 c78 c79 c80 c81 c82 c83 c84 c85 c86 c87 c88 c89 c90 c91 c92 c93 c94 c95 c96 c97 c98 c99 c100 c101 c102 c103 c104 c105 c106 c107 c108 c109 c110 c111 c112 c113 c114 c115 c116 c117 c118 c119 c120 c121 c122 c123 c124 c125 c126 c127 c128 c129 c130 c131 c132 c133 c134 c135 c136 c137 c138 c139 c140 c141 c142 c143 c144 c145 c146 c147 c148 c149 c150 c151 c152 c153 c154 c155 c156 c157 c158 c159 c160 c161 c162 c163 c164 c165 c166 c167 c168 c169 c170 c171 c172 c173 c174 c175 c176 c177 c178 c179 c180 c181 c182 c183 c184 c185 c186 c187 c188 c189 c190 c191 c192 c193 c194 c195 c196 c197 c198 c199 c200 c201 c202 c203 c204 c205 c206 c207 c208 c209 c210 c211 c212 c213 c214 c215 c216 c217 c218 c219 c220 c221 c222 : Value) (w9 : World), Bes w F S gn (.slice lA xs.length lc) xs w9 → K_2 { tmps := (Value.slice (some { block := b, off := o }) ds.length cap :: undef :: u2 :: Value.bool true :: Value.pointer (some { block := gn, off := 0 }) :: Value.slice lA xs.length lc :: Value.int IntKind.i64 (↑i : Int) :: Value.pointer (some { block := wo.heap.size, off := 0 }) :: Value.bool has :: c9 :: c10 :: c11 :: c12 :: c13 :: c14 :: c15 :: c16 :: c17 :: c18 :: c19 :: undef :: undef :: undef :: Value.bool true :: Value.pointer (some { block := g, off := 0 }) :: c25 :: c26 :: c27 :: c28 :: c29 :: c30 :: c31 :: c32 :: c33 :: c34 :: c35 :: c36 :: c37 :: c38 :: c39 :: c40 :: c41 :: c42 :: c43 :: c44 :: c45 :: c46 :: c47 :: c48 :: c49 :: c50 :: c51 :: c52 :: c53 :: c54 :: c55 :: c56 :: c57 :: c58 :: c59 :: c60 :: c61 :: c62 :: c63 :: c64 :: c65 :: c66 :: c67 :: c68 :: c69 :: c70 :: c71 :: c72 :: c73 :: c74 :: c75 :: c76 :: c77 :: c78 :: c79 :: c80 :: c81 :: c82 :: c83 :: c84 :: c85 :: c86 :: c87 :: c88 :: c89 :: c90 :: c91 :: c92 :: c93 :: c94 :: c95 :: c96 :: c97 :: c98 :: c99 :: c100 :: c101 :: c102 :: c103 :: c104 :: c105 :: c106 :: c107 :: c108 :: c109 :: c110 :: c111 :: c112 :: c113 :: c114 :: c115 :: c116 :: c117 :: c118 :: c119 :: c120 :: c121 :: c122 :: c123 :: c124 :: c125 :: c126 :: c127 :: c128 :: c129 :: c130 :: c131 :: c132 :: c133 :: c134 :: c135 :: c136 :: c137 :: c138 :: c139 :: c140 :: c141 :: c142 :: c143 :: c144 :: c145 :: c146 :: c147 :: c148 :: c149 :: c150 :: c151 :: c152 :: c153 :: c154 :: c155 :: c156 :: c157 :: c158 :: c159 :: c160 :: c161 :: c162 :: c163 :: c164 :: c165 :: c166 :: c167 :: c168 :: c169 :: c170 :: c171 :: c172 :: c173 :: c174 :: c175 :: c176 :: c177 :: c178 :: c179 :: c180 :: c181 :: c182 :: c183 :: c184 :: c185 :: c186 :: c187 :: c188 :: c189 :: c190 :: c191 :: c192 :: c193 :: c194 :: c195 :: c196 :: c197 :: c198 :: c199 :: c200 :: c201 :: c202 :: c203 :: c204 :: c205 :: c206 :: c207 :: c208 :: c209 :: c210 :: c211 :: c212 :: c213 :: c214 :: c215 :: c216 :: c217 :: c218 :: c219 :: c220 :: c221 :: c222 :: undef :: undef :: undef :: undef :: undef :: undef :: undef :: undef :: undef :: undef :: undef :: undef :: undef :: undef :: undef :: undef :: undef :: undef :: undef :: undef :: undef :: undef :: undef :: undef :: undef :: undef :: undef :: undef :: ([] : List Value)).toArray, defers := [] } w9) :
    Code.wp Try.prog
    (Code.region 46
      #[{ dst := some 193, op := Op.move (Operand.tmp 4), type := 24, pos := "law.go:91", after := #[], guard := none },
        { dst := some 194, op := Op.fieldAddr 40 (Operand.tmp 7) 1, type := 0, pos := "law.go:91", after := #[],
          guard := none },
        { dst := some 195, op := Op.load 3 (Operand.tmp 194), type := 3, pos := "law.go:91",
          after := #[{ on := 1, ground := Ground.data }], guard := none },
        { dst := some 196,
          op :=
            Op.call
              { callee := Callee.value (Operand.func 16), args := #[Operand.tmp 193, Operand.tmp 195],
                argTypes := #[24, 3] },
          type := 34, pos := "law.go:91",
          after := #[{ on := 0, ground := Ground.data }, { on := 2, ground := Ground.data }], guard := none },
        { dst := some 18, op := Op.assign (Operand.tmp 196), type := 34, pos := "law.go:91",
          after :=
            #[{ on := 3, ground := Ground.data }, { on := 3, ground := Ground.chain },
              { on := 0, ground := Ground.phase }, { on := 1, ground := Ground.phase },
              { on := 2, ground := Ground.phase }, { on := 3, ground := Ground.phase }],
          guard := none }]
      false)
    (Exit.then K_0 (Exit.inBlock 2 (Exit.then Kp_0 (Exit.inBlock 1 (Exit.then K_2 Qp_0)))))
    {
      tmps :=
        (Value.slice (some { block := b, off := o }) ds.length cap :: undef :: u2 :: Value.bool true :: Value.pointer (some { block := gn, off := 0 }) :: Value.slice lA xs.length lc :: Value.int IntKind.i64 (↑i : Int) :: Value.pointer (some { block := wo.heap.size, off := 0 }) :: Value.bool has :: u9 :: u10 :: u11 :: u12 :: u13 :: u14 :: u15 :: u16 :: u17 :: u18 :: u19 :: undef :: undef :: undef :: Value.bool true :: Value.pointer (some { block := g, off := 0 }) :: u25 :: u26 :: u27 :: u28 :: u29 :: u30 :: u31 :: u32 :: u33 :: u34 :: u35 :: u36 :: u37 :: u38 :: u39 :: u40 :: u41 :: u42 :: u43 :: u44 :: u45 :: u46 :: u47 :: u48 :: u49 :: u50 :: u51 :: u52 :: u53 :: u54 :: u55 :: u56 :: u57 :: u58 :: u59 :: u60 :: u61 :: u62 :: Value.pointer (some { block := wo.heap.size, off := 0 }) :: Value.int IntKind.i64 d1 :: Value.int IntKind.i64 4 :: u66 :: u67 :: u68 :: u69 :: u70 :: u71 :: u72 :: u73 :: u74 :: Value.bool false :: Value.bool false :: Value.bool false :: u78 :: u79 :: u80 :: u81 :: u82 :: u83 :: u84 :: u85 :: u86 :: u87 :: u88 :: u89 :: u90 :: u91 :: u92 :: u93 :: u94 :: u95 :: u96 :: u97 :: u98 :: u99 :: u100 :: u101 :: u102 :: u103 :: u104 :: u105 :: u106 :: u107 :: Value.bool false :: Value.bool false :: u110 :: u111 :: u112 :: u113 :: u114 :: u115 :: u116 :: u117 :: u118 :: u119 :: u120 :: u121 :: u122 :: u123 :: u124 :: u125 :: u126 :: u127 :: u128 :: u129 :: u130 :: u131 :: u132 :: u133 :: u134 :: u135 :: u136 :: u137 :: u138 :: u139 :: u140 :: u141 :: u142 :: u143 :: u144 :: u145 :: u146 :: u147 :: u148 :: u149 :: u150 :: u151 :: Value.bool false :: Value.bool false :: u154 :: u155 :: u156 :: u157 :: u158 :: u159 :: u160 :: u161 :: u162 :: u163 :: u164 :: u165 :: u166 :: u167 :: u168 :: u169 :: u170 :: u171 :: u172 :: u173 :: u174 :: u175 :: u176 :: u177 :: u178 :: u179 :: u180 :: u181 :: u182 :: u183 :: u184 :: u185 :: u186 :: u187 :: u188 :: u189 :: u190 :: Value.bool true :: Value.bool true :: u193 :: u194 :: u195 :: u196 :: u197 :: u198 :: u199 :: u200 :: u201 :: u202 :: u203 :: u204 :: u205 :: u206 :: u207 :: u208 :: u209 :: u210 :: u211 :: u212 :: u213 :: u214 :: u215 :: u216 :: u217 :: u218 :: u219 :: u220 :: u221 :: u222 :: undef :: undef :: undef :: undef :: undef :: undef :: undef :: undef :: undef :: undef :: undef :: undef :: undef :: undef :: undef :: undef :: undef :: undef :: undef :: undef :: undef :: undef :: undef :: undef :: undef :: undef :: undef :: undef :: ([] : List Value)).toArray,
      defers := [] }
    W1 := by
  · --#arm4
    by_cases hh : 0 ≤ d2 ∧ d2 < (xs.length : Int)
    · obtain ⟨m, rfl⟩ : ∃ m : Nat, d2 = (m : Int) := ⟨d2.toNat, by omega⟩
      have hm : m < xs.length := by omega
      have hpk0 : xs[m]? = some xs[m] := List.getElem?_eq_getElem hm
      obtain rfl : has = true := by rw [Hhas.out]; exact decide_eq_true hh
      obtain ⟨pk, hpk⟩ : ∃ pk, pk = xs[m] := ⟨_, rfl⟩
      rw [← hpk] at hpk0
      clear y0 y2 y3 y4 y5 y6 hrep1
      go_wp2_with fail
      refine (double_ok hB1.net m pk hpk0 (by omega)).mono ?_
      rintro e w3 ⟨rfl, F3, S3, hN3, hF3, hS3, ht3⟩
      have hB3 := hB1.two.send hN3 hF3 hS3 ht3
      have hrow3 : Row w3 wo.heap.size _ _ := (ht3.block _ hdl hdF.1.1).trans hrow
      have hs3 := ht3.size
      clear y1 hN3 ht3 hF3 hS3
      have y1 := hrow3.cell 1 (by simp)
      simp only [List.getElem_cons_zero, List.getElem_cons_succ] at y1
      obtain ⟨b', o', e1, e2, e3, e4, E1, m1, cape, rfl, hb0', hrepl, c0, c1, c2, c3, c4⟩ := packet_el (SlE.of_own hB3.own) m hm
      rw [← hpk] at hrepl
      have hwo3 : wo.heap.size < w3.heap.size := by omega
      clear hpk hpk0 hB1 hrow
      go_upto_region 52 with (fail)
      refine wp_region_noPanic ?_
      refine wp_region_held_drew (S := fun w' => Below w3.heap.size w3 w') (by kernel_rfl) ?hS52 (fun hHeld => ?_)
      case hS52 => exact (Below.refl _ _).drew
      have hHwa : Below w3.heap.size w3 w3.drew := hHeld
      clear hHeld
      generalize w3.drew = wa at hHwa ⊢
      refine wpAnyH_take (i := 1) (oi := { dst := some 205, op := Op.move (Operand.tmp 5), type := 26, pos := "law.go:101", after := #[], guard := none }) (v := ?v1g) rfl (by kernel_rfl) (by kernel_rfl) (by kernel_rfl) (fun _ _ _ h => h) (Or.inl ⟨by rfl, ?y1g⟩) (by assumption) ?r1g
      case y1g => (intro w hSw; (try dsimp only at hSw); go_simp; try with_reducible rfl)
      try simp only [Act.put, List.setIfInBounds_toArray, List.set_cons_zero, List.set_cons_succ]
      refine wpAnyH_take (i := 3) (oi := { dst := some 207, op := Op.move (Operand.tmp 5), type := 26, pos := "law.go:101", after := #[], guard := none }) (v := ?v3g) rfl (by kernel_rfl) (by kernel_rfl) (by kernel_rfl) (fun _ _ _ h => h) (Or.inl ⟨by rfl, ?y3g⟩) (by assumption) ?r3g
      case y3g => (intro w hSw; (try dsimp only at hSw); go_simp; try with_reducible rfl)
      try simp only [Act.put, List.setIfInBounds_toArray, List.set_cons_zero, List.set_cons_succ]
      refine wpAnyH_take (i := 4) (oi := { dst := some 208, op := Op.fieldAddr 40 (Operand.tmp 7) 1, type := 0, pos := "law.go:101", after := #[], guard := none }) (v := ?v4g) rfl (by kernel_rfl) (by kernel_rfl) (by kernel_rfl) (fun _ _ _ h => h) (Or.inl ⟨by rfl, ?y4g⟩) (by assumption) ?r4g
      case y4g => (intro w hSw; (try dsimp only at hSw); go_simp; try with_reducible rfl)
      try simp only [Act.put, List.setIfInBounds_toArray, List.set_cons_zero, List.set_cons_succ]
      refine wpAnyH_take (i := 5) (oi := { dst := some 209, op := Op.load 3 (Operand.tmp 208), type := 3, pos := "law.go:101", after := #[{ on := 4, ground := Ground.data }], guard := none }) (v := ?v5g) rfl (by kernel_rfl) (by kernel_rfl) (by kernel_rfl) (fun _ _ _ h => h) (Or.inl ⟨by rfl, ?y5g⟩) (by assumption) ?r5g
      case y5g => (intro w hSw; (try dsimp only at hSw); have hh := (hSw.cell (p := ⟨wo.heap.size, 1, none⟩) hwo3).trans y1; go_simp; try with_reducible rfl)
      try simp only [Act.put, List.setIfInBounds_toArray, List.set_cons_zero, List.set_cons_succ]
      refine wpAnyH_take (i := 6) (oi := { dst := some 210, op := Op.indexAddr 26 (Operand.tmp 207) (Operand.tmp 209), type := 0, pos := "law.go:101", after := #[{ on := 3, ground := Ground.data }, { on := 5, ground := Ground.data }], guard := none }) (v := ?v6g) rfl (by kernel_rfl) (by kernel_rfl) (by kernel_rfl) (fun _ _ _ h => h) (Or.inl ⟨by rfl, ?y6g⟩) (by assumption) ?r6g
      case y6g => (intro w hSw; (try dsimp only at hSw); go_simp; try with_reducible rfl)
      try simp only [Act.put, List.setIfInBounds_toArray, List.set_cons_zero, List.set_cons_succ]
      refine wpAnyH_take (i := 7) (oi := { dst := some 211, op := Op.load 30 (Operand.tmp 210), type := 30, pos := "law.go:101", after := #[{ on := 6, ground := Ground.data }], guard := none }) (v := ?v7g) rfl (by kernel_rfl) (by kernel_rfl) (by kernel_rfl) (fun _ _ _ h => h) (Or.inl ⟨by rfl, ?y7g⟩) (by assumption) ?r7g
      case y7g => (intro w hSw; (try dsimp only at hSw); have k0 := (hSw.cell (p := ⟨b', o' + m * 5, none⟩) hb0').trans c0; have k1 := (hSw.cell (p := ⟨b', o' + m * 5 + 1, none⟩) hb0').trans c1; have k2 := (hSw.cell (p := ⟨b', o' + m * 5 + 2, none⟩) hb0').trans c2; have k3 := (hSw.cell (p := ⟨b', o' + m * 5 + 3, none⟩) hb0').trans c3; have k4 := (hSw.cell (p := ⟨b', o' + m * 5 + 4, none⟩) hb0').trans c4; go_simp; try with_reducible rfl)
      try simp only [Act.put, List.setIfInBounds_toArray, List.set_cons_zero, List.set_cons_succ]

      refine wpAnyH_ready (rs := [0, 8]) (by kernel_rfl) (by simp) ?_
      refine AllReadyH.cons (o := { dst := some 204, op := Op.buildSlice 26 0 #[], type := 26, pos := "law.go:101", after := #[], guard := none }) rfl (fun K hK => ?x0) (AllReadyH.cons (o := { dst := some 212, op := Op.buildSlice 26 1 #[(0, Operand.tmp 211)], type := 26, pos := "law.go:101", after := #[{ on := 7, ground := Ground.data }], guard := none }) rfl (fun K hK => ?x8) AllReadyH.nil)
      case x0 =>
        go_simp
        obtain ⟨wb, hVwb⟩ : ∃ wx, wx = wa.alloc (.cells #[] 30) := ⟨_, rfl⟩
        have own0 : Own PacketS w3.heap.size 30 (· < w.heap.size) wb [] (.slice (some ⟨wa.heap.size, 0, none⟩) 0 0) := by rw [hVwb]; exact Own.lit PacketS w3.heap.size 30 (· < w.heap.size) wa [] #[] hHwa.size rfl 0 rfl (by omega)
        have bbwb : Below wa.heap.size wa wb := by rw [hVwb]; exact below_alloc (Below.refl _ _) _
        rw [← hVwb]
        clear hVwb
        have hHwb : Below w3.heap.size w3 wb := Below.trans hHwa (bbwb.mono hHwa.size)
        have hn0 : w3.heap.size ≤ wa.heap.size := hHwa.size
        have hlt0 : wa.heap.size < wb.heap.size := (own0.blk wa.heap.size rfl).2
        refine hK.out _ _ hHwb (fun _ => ?_)
        clear hK K
        try simp only [Act.put, List.setIfInBounds_toArray, List.set_cons_zero, List.set_cons_succ]
        refine wpAnyH_ready (rs := [2, 8]) (by kernel_rfl) (by simp) ?_
        refine AllReadyH.cons (o := { dst := some 206, op := Op.call { callee := Callee.builtin Builtin.append, args := #[Operand.tmp 204, Operand.tmp 205], argTypes := #[26, 26] }, type := 26, pos := "law.go:101", after := #[{ on := 0, ground := Ground.data }, { on := 1, ground := Ground.data }], guard := none }) rfl (fun K hK => ?x02) (AllReadyH.cons (o := { dst := some 212, op := Op.buildSlice 26 1 #[(0, Operand.tmp 211)], type := 26, pos := "law.go:101", after := #[{ on := 7, ground := Ground.data }], guard := none }) rfl (fun K hK => ?x08) AllReadyH.nil)
        case x02 =>
          refine step_append_el (r := PacketS) rfl _ _ 26 30 _ 56 rfl Try.underlying26 Try.info30 rfl (by decide) (by decide) w3.heap.size _ [] (S := (· < w.heap.size)) _ xs rfl rfl own0 (SlE.of_own (hB3.below hHwb).own) (by simp; omega) hHwb.size (fun b hb => by
            have hb1 : b < w.heap.size := hb
            have hb2 := hB3.low.size
            have hb3 := hHwb.size
            exact ⟨by omega, ne_own (by omega)⟩) ?_
          intro v10 wc own2 hg10 hv10
          have hHwc : Below w3.heap.size w3 wc := hHwb.grown hg10 hHwb.size (fun k hk => own_ge hk hn0)
          refine hK.out _ _ hHwc (fun _ => ?_)
          clear hK K
          try simp only [Act.put, List.setIfInBounds_toArray, List.set_cons_zero, List.set_cons_succ]
          refine wpAnyH_ready (rs := [8]) (by kernel_rfl) (by simp) ?_
          refine AllReadyH.cons (o := { dst := some 212, op := Op.buildSlice 26 1 #[(0, Operand.tmp 211)], type := 26, pos := "law.go:101", after := #[{ on := 7, ground := Ground.data }], guard := none }) rfl (fun K hK => ?_) AllReadyH.nil
          go_simp
          obtain ⟨wd, hVwd⟩ : ∃ wx, wx = wc.alloc (.cells #[.int .i64 e1, .int .i64 e2, .int .u64 e3, .bool e4, .slice E1 m1 cape] 30) := ⟨_, rfl⟩
          have row8 : Row wd wc.heap.size 30 [.int .i64 e1, .int .i64 e2, .int .u64 e3, .bool e4, .slice E1 m1 cape] := by rw [hVwd]; exact Row.new wc 30 #[.int .i64 e1, .int .i64 e2, .int .u64 e3, .bool e4, .slice E1 m1 cape]
          have hlt8 : wc.heap.size < wd.heap.size := row8.lt
          have bbwd : Below wc.heap.size wc wd := by rw [hVwd]; exact below_alloc (Below.refl _ _) _
          rw [← hVwd]
          clear hVwd
          have hHwd : Below w3.heap.size w3 wd := Below.trans hHwc (bbwd.mono hHwc.size)
          refine hK.out _ _ hHwd (fun _ => ?_)
          clear hK K
          try simp only [Act.put, List.setIfInBounds_toArray, List.set_cons_zero, List.set_cons_succ]
          replace own2 := own2.below bbwd (fun b hb => by have h1 : b < w.heap.size := hb; have h2 := hB3.low.size; have h3 := hHwc.size; omega)
          have hrep8 : PacketS.rep (· < w.heap.size) wd pk [.int .i64 e1, .int .i64 e2, .int .u64 e3, .bool e4, .slice E1 m1 cape] := PacketS.mono hrepl (fun _ h => h) (fun b hb => hHwd.block b (by have h1 : b < w.heap.size := hb; have := hB3.low.size; omega))
          refine wpAnyH_ready (rs := [9]) (by kernel_rfl) (by simp) ?_
          refine AllReadyH.cons (o := { dst := some 213, op := Op.call { callee := Callee.builtin Builtin.append, args := #[Operand.tmp 206, Operand.tmp 212], argTypes := #[26, 26] }, type := 26, pos := "law.go:101", after := #[{ on := 2, ground := Ground.data }, { on := 8, ground := Ground.data }, { on := 2, ground := Ground.chain }], guard := none }) rfl (fun K hK => ?_) AllReadyH.nil
          refine step_append_el (r := PacketS) rfl _ _ 26 30 _ 56 rfl Try.underlying26 Try.info30 rfl (by decide) (by decide) w3.heap.size _ ([] ++ xs) (S := (· < w.heap.size)) _ [pk] rfl rfl own2 (SlE.ofRow row8 hrep8) (by simp; omega) hHwd.size (fun b hb => by
            have hb1 : b < w.heap.size := hb
            have hb2 := hB3.low.size
            have hb3 := hHwd.size
            exact ⟨by omega, fun h => by have := (own2.blk b h.symm).1; omega⟩) ?_
          intro v11 w11 own9 hg11 hv11
          have hH11 : Below w3.heap.size w3 w11 := hHwd.grown hg11 hHwd.size (fun k hk => (own2.blk k hk).1)
          refine hK.out _ _ hH11 (fun _ => ?_)
          clear hK K
          try simp only [Act.put, List.setIfInBounds_toArray, List.set_cons_zero, List.set_cons_succ]
          refine wpAnyH_take (i := 10) (oi := { dst := some 5, op := Op.assign (Operand.tmp 213), type := 26, pos := "law.go:101", after := #[{ on := 9, ground := Ground.data }, { on := 9, ground := Ground.chain }, { on := 0, ground := Ground.phase }, { on := 1, ground := Ground.phase }, { on := 2, ground := Ground.phase }, { on := 3, ground := Ground.phase }, { on := 4, ground := Ground.phase }, { on := 5, ground := Ground.phase }, { on := 6, ground := Ground.phase }, { on := 7, ground := Ground.phase }, { on := 8, ground := Ground.phase }, { on := 9, ground := Ground.phase }], guard := none }) (v := ?v10ga) rfl (by kernel_rfl) (by kernel_rfl) (by kernel_rfl) (fun _ _ _ h => h) (Or.inl ⟨by rfl, ?y10ga⟩) (by assumption) ?r10ga
          case y10ga => (intro w hSw; (try dsimp only at hSw); go_simp; try with_reducible rfl)
          try simp only [Act.put, List.setIfInBounds_toArray, List.set_cons_zero, List.set_cons_succ]
          refine wpAnyH_done (by kernel_rfl) ?_ _
          refine NoPanic.normal ?_
          rw [List.nil_append] at own9
          obtain ⟨q1, q2, q3, q4⟩ := hB3.renew hH11 own9
          have hBf : Bes w F3 S3 gn v11 (xs ++ [pk]) w11 := ⟨q1, q2, q3, q4⟩
          clear q1 q2 q3 q4 own9 hg11 hv11 hH11 hrep8 own2 hB3 hrow3 row8 y1 c0 c1 c2 c3 c4
          go_wp2_with fail
          (have hmeet_ := a_2.out; go_meet)
          case rel => exact ⟨gn, xs ++ [pk], rfl, by simp; omega, F3, S3, hBf⟩
        case x08 =>
          go_simp
          obtain ⟨wc, hVwc⟩ : ∃ wx, wx = wb.alloc (.cells #[.int .i64 e1, .int .i64 e2, .int .u64 e3, .bool e4, .slice E1 m1 cape] 30) := ⟨_, rfl⟩
          have row8 : Row wc wb.heap.size 30 [.int .i64 e1, .int .i64 e2, .int .u64 e3, .bool e4, .slice E1 m1 cape] := by rw [hVwc]; exact Row.new wb 30 #[.int .i64 e1, .int .i64 e2, .int .u64 e3, .bool e4, .slice E1 m1 cape]
          have hlt8 : wb.heap.size < wc.heap.size := row8.lt
          have bbwc : Below wb.heap.size wb wc := by rw [hVwc]; exact below_alloc (Below.refl _ _) _
          rw [← hVwc]
          clear hVwc
          have hHwc : Below w3.heap.size w3 wc := Below.trans hHwb (bbwc.mono hHwb.size)
          refine hK.out _ _ hHwc (fun _ => ?_)
          clear hK K
          try simp only [Act.put, List.setIfInBounds_toArray, List.set_cons_zero, List.set_cons_succ]
          replace own0 := own0.below bbwc (fun b hb => by have h1 : b < w.heap.size := hb; have h2 := hB3.low.size; have h3 := hHwb.size; omega)
          refine wpAnyH_ready (rs := [2]) (by kernel_rfl) (by simp) ?_
          refine AllReadyH.cons (o := { dst := some 206, op := Op.call { callee := Callee.builtin Builtin.append, args := #[Operand.tmp 204, Operand.tmp 205], argTypes := #[26, 26] }, type := 26, pos := "law.go:101", after := #[{ on := 0, ground := Ground.data }, { on := 1, ground := Ground.data }], guard := none }) rfl (fun K hK => ?_) AllReadyH.nil
          refine step_append_el (r := PacketS) rfl _ _ 26 30 _ 56 rfl Try.underlying26 Try.info30 rfl (by decide) (by decide) w3.heap.size _ [] (S := (· < w.heap.size)) _ xs rfl rfl own0 (SlE.of_own (hB3.below hHwc).own) (by simp; omega) hHwc.size (fun b hb => by
            have hb1 : b < w.heap.size := hb
            have hb2 := hB3.low.size
            have hb3 := hHwc.size
            exact ⟨by omega, ne_own (by omega)⟩) ?_
          intro v10 wd own2 hg10 hv10
          have hHwd : Below w3.heap.size w3 wd := hHwc.grown hg10 hHwc.size (fun k hk => own_ge hk hn0)
          refine hK.out _ _ hHwd (fun _ => ?_)
          clear hK K
          try simp only [Act.put, List.setIfInBounds_toArray, List.set_cons_zero, List.set_cons_succ]
          replace row8 := row8.grown hg10 (ne_own (by omega))
          have hrep8 : PacketS.rep (· < w.heap.size) wd pk [.int .i64 e1, .int .i64 e2, .int .u64 e3, .bool e4, .slice E1 m1 cape] := PacketS.mono hrepl (fun _ h => h) (fun b hb => hHwd.block b (by have h1 : b < w.heap.size := hb; have := hB3.low.size; omega))
          refine wpAnyH_ready (rs := [9]) (by kernel_rfl) (by simp) ?_
          refine AllReadyH.cons (o := { dst := some 213, op := Op.call { callee := Callee.builtin Builtin.append, args := #[Operand.tmp 206, Operand.tmp 212], argTypes := #[26, 26] }, type := 26, pos := "law.go:101", after := #[{ on := 2, ground := Ground.data }, { on := 8, ground := Ground.data }, { on := 2, ground := Ground.chain }], guard := none }) rfl (fun K hK => ?_) AllReadyH.nil
          refine step_append_el (r := PacketS) rfl _ _ 26 30 _ 56 rfl Try.underlying26 Try.info30 rfl (by decide) (by decide) w3.heap.size _ ([] ++ xs) (S := (· < w.heap.size)) _ [pk] rfl rfl own2 (SlE.ofRow row8 hrep8) (by simp; omega) hHwd.size (fun b hb => by
            have hb1 : b < w.heap.size := hb
            have hb2 := hB3.low.size
            have hb3 := hHwd.size
            exact ⟨by omega, fun h => by have := (own2.blk b h.symm).1; omega⟩) ?_
          intro v11 w11 own9 hg11 hv11
          have hH11 : Below w3.heap.size w3 w11 := hHwd.grown hg11 hHwd.size (fun k hk => (own2.blk k hk).1)
          refine hK.out _ _ hH11 (fun _ => ?_)
          clear hK K
          try simp only [Act.put, List.setIfInBounds_toArray, List.set_cons_zero, List.set_cons_succ]
          refine wpAnyH_take (i := 10) (oi := { dst := some 5, op := Op.assign (Operand.tmp 213), type := 26, pos := "law.go:101", after := #[{ on := 9, ground := Ground.data }, { on := 9, ground := Ground.chain }, { on := 0, ground := Ground.phase }, { on := 1, ground := Ground.phase }, { on := 2, ground := Ground.phase }, { on := 3, ground := Ground.phase }, { on := 4, ground := Ground.phase }, { on := 5, ground := Ground.phase }, { on := 6, ground := Ground.phase }, { on := 7, ground := Ground.phase }, { on := 8, ground := Ground.phase }, { on := 9, ground := Ground.phase }], guard := none }) (v := ?v10gb) rfl (by kernel_rfl) (by kernel_rfl) (by kernel_rfl) (fun _ _ _ h => h) (Or.inl ⟨by rfl, ?y10gb⟩) (by assumption) ?r10gb
          case y10gb => (intro w hSw; (try dsimp only at hSw); go_simp; try with_reducible rfl)
          try simp only [Act.put, List.setIfInBounds_toArray, List.set_cons_zero, List.set_cons_succ]
          refine wpAnyH_done (by kernel_rfl) ?_ _
          refine NoPanic.normal ?_
          rw [List.nil_append] at own9
          obtain ⟨q1, q2, q3, q4⟩ := hB3.renew hH11 own9
          have hBf : Bes w F3 S3 gn v11 (xs ++ [pk]) w11 := ⟨q1, q2, q3, q4⟩
          clear q1 q2 q3 q4 own9 hg11 hv11 hH11 hrep8 own2 hB3 hrow3 row8 y1 c0 c1 c2 c3 c4
          go_wp2_with fail
          (have hmeet_ := a_2.out; go_meet)
          case rel => exact ⟨gn, xs ++ [pk], rfl, by simp; omega, F3, S3, hBf⟩
      case x8 =>
        go_simp
        obtain ⟨wb, hVwb⟩ : ∃ wx, wx = wa.alloc (.cells #[.int .i64 e1, .int .i64 e2, .int .u64 e3, .bool e4, .slice E1 m1 cape] 30) := ⟨_, rfl⟩
        have row8 : Row wb wa.heap.size 30 [.int .i64 e1, .int .i64 e2, .int .u64 e3, .bool e4, .slice E1 m1 cape] := by rw [hVwb]; exact Row.new wa 30 #[.int .i64 e1, .int .i64 e2, .int .u64 e3, .bool e4, .slice E1 m1 cape]
        have hlt8 : wa.heap.size < wb.heap.size := row8.lt
        have bbwb : Below wa.heap.size wa wb := by rw [hVwb]; exact below_alloc (Below.refl _ _) _
        rw [← hVwb]
        clear hVwb
        have hHwb : Below w3.heap.size w3 wb := Below.trans hHwa (bbwb.mono hHwa.size)
        refine hK.out _ _ hHwb (fun _ => ?_)
        clear hK K
        try simp only [Act.put, List.setIfInBounds_toArray, List.set_cons_zero, List.set_cons_succ]
        refine wpAnyH_ready (rs := [0]) (by kernel_rfl) (by simp) ?_
        refine AllReadyH.cons (o := { dst := some 204, op := Op.buildSlice 26 0 #[], type := 26, pos := "law.go:101", after := #[], guard := none }) rfl (fun K hK => ?_) AllReadyH.nil
        go_simp
        obtain ⟨wc, hVwc⟩ : ∃ wx, wx = wb.alloc (.cells #[] 30) := ⟨_, rfl⟩
        have own0 : Own PacketS w3.heap.size 30 (· < w.heap.size) wc [] (.slice (some ⟨wb.heap.size, 0, none⟩) 0 0) := by rw [hVwc]; exact Own.lit PacketS w3.heap.size 30 (· < w.heap.size) wb [] #[] hHwb.size rfl 0 rfl (by omega)
        have bbwc : Below wb.heap.size wb wc := by rw [hVwc]; exact below_alloc (Below.refl _ _) _
        rw [← hVwc]
        clear hVwc
        have hHwc : Below w3.heap.size w3 wc := Below.trans hHwb (bbwc.mono hHwb.size)
        have hn0 : w3.heap.size ≤ wb.heap.size := hHwb.size
        have hlt0 : wb.heap.size < wc.heap.size := (own0.blk wb.heap.size rfl).2
        refine hK.out _ _ hHwc (fun _ => ?_)
        clear hK K
        try simp only [Act.put, List.setIfInBounds_toArray, List.set_cons_zero, List.set_cons_succ]
        replace row8 := row8.below row8.lt bbwc
        refine wpAnyH_ready (rs := [2]) (by kernel_rfl) (by simp) ?_
        refine AllReadyH.cons (o := { dst := some 206, op := Op.call { callee := Callee.builtin Builtin.append, args := #[Operand.tmp 204, Operand.tmp 205], argTypes := #[26, 26] }, type := 26, pos := "law.go:101", after := #[{ on := 0, ground := Ground.data }, { on := 1, ground := Ground.data }], guard := none }) rfl (fun K hK => ?_) AllReadyH.nil

        refine step_append_el (r := PacketS) rfl _ _ 26 30 _ 56 rfl Try.underlying26 Try.info30 rfl (by decide) (by decide) w3.heap.size _ [] (S := (· < w.heap.size)) _ xs rfl rfl own0 (SlE.of_own (hB3.below hHwc).own) (by simp; omega) hHwc.size (fun b hb => by
          have hb1 : b < w.heap.size := hb
          have hb2 := hB3.low.size
          have hb3 := hHwc.size
          exact ⟨by omega, ne_own (by omega)⟩) ?_
        intro v10 wd own2 hg10 hv10
        have hHwd : Below w3.heap.size w3 wd := hHwc.grown hg10 hHwc.size (fun k hk => own_ge hk hn0)
        refine hK.out _ _ hHwd (fun _ => ?_)
        clear hK K
        try simp only [Act.put, List.setIfInBounds_toArray, List.set_cons_zero, List.set_cons_succ]
        replace row8 := row8.grown hg10 (ne_own (by omega))
        have hrep8 : PacketS.rep (· < w.heap.size) wd pk [.int .i64 e1, .int .i64 e2, .int .u64 e3, .bool e4, .slice E1 m1 cape] := PacketS.mono hrepl (fun _ h => h) (fun b hb => hHwd.block b (by have h1 : b < w.heap.size := hb; have := hB3.low.size; omega))
        refine wpAnyH_ready (rs := [9]) (by kernel_rfl) (by simp) ?_
        refine AllReadyH.cons (o := { dst := some 213, op := Op.call { callee := Callee.builtin Builtin.append, args := #[Operand.tmp 206, Operand.tmp 212], argTypes := #[26, 26] }, type := 26, pos := "law.go:101", after := #[{ on := 2, ground := Ground.data }, { on := 8, ground := Ground.data }, { on := 2, ground := Ground.chain }], guard := none }) rfl (fun K hK => ?_) AllReadyH.nil
        refine step_append_el (r := PacketS) rfl _ _ 26 30 _ 56 rfl Try.underlying26 Try.info30 rfl (by decide) (by decide) w3.heap.size _ ([] ++ xs) (S := (· < w.heap.size)) _ [pk] rfl rfl own2 (SlE.ofRow row8 hrep8) (by simp; omega) hHwd.size (fun b hb => by
          have hb1 : b < w.heap.size := hb
          have hb2 := hB3.low.size
          have hb3 := hHwd.size
          exact ⟨by omega, fun h => by have := (own2.blk b h.symm).1; omega⟩) ?_
        intro v11 w11 own9 hg11 hv11
        have hH11 : Below w3.heap.size w3 w11 := hHwd.grown hg11 hHwd.size (fun k hk => (own2.blk k hk).1)
        refine hK.out _ _ hH11 (fun _ => ?_)
        clear hK K
        try simp only [Act.put, List.setIfInBounds_toArray, List.set_cons_zero, List.set_cons_succ]
        refine wpAnyH_take (i := 10) (oi := { dst := some 5, op := Op.assign (Operand.tmp 213), type := 26, pos := "law.go:101", after := #[{ on := 9, ground := Ground.data }, { on := 9, ground := Ground.chain }, { on := 0, ground := Ground.phase }, { on := 1, ground := Ground.phase }, { on := 2, ground := Ground.phase }, { on := 3, ground := Ground.phase }, { on := 4, ground := Ground.phase }, { on := 5, ground := Ground.phase }, { on := 6, ground := Ground.phase }, { on := 7, ground := Ground.phase }, { on := 8, ground := Ground.phase }, { on := 9, ground := Ground.phase }], guard := none }) (v := ?v10gc) rfl (by kernel_rfl) (by kernel_rfl) (by kernel_rfl) (fun _ _ _ h => h) (Or.inl ⟨by rfl, ?y10gc⟩) (by assumption) ?r10gc
        case y10gc => (intro w hSw; (try dsimp only at hSw); go_simp; try with_reducible rfl)
        try simp only [Act.put, List.setIfInBounds_toArray, List.set_cons_zero, List.set_cons_succ]
        refine wpAnyH_done (by kernel_rfl) ?_ _
        refine NoPanic.normal ?_
        rw [List.nil_append] at own9
        obtain ⟨q1, q2, q3, q4⟩ := hB3.renew hH11 own9
        have hBf : Bes w F3 S3 gn v11 (xs ++ [pk]) w11 := ⟨q1, q2, q3, q4⟩
        clear q1 q2 q3 q4 own9 hg11 hv11 hH11 hrep8 own2 hB3 hrow3 row8 y1 c0 c1 c2 c3 c4
        go_wp2_with fail
        (have hmeet_ := a_2.out; go_meet)
        case rel => exact ⟨gn, xs ++ [pk], rfl, by simp; omega, F3, S3, hBf⟩
    · obtain rfl : has = false := by rw [Hhas.out]; exact decide_eq_false hh
      clear y0 y2 y3 y4 y5 y6 hrep1
      go_wp2_with fail
      refine (double_none hB1.net d2 hh).mono ?_
      rintro e w3 ⟨he, rfl⟩
      obtain rfl : e = .returned (.iface 36 (.int .i64 6)) := he
      have hne := fun W => err_neq 6 6 W
      simp only [beq_self_eq_true, Bool.not_true] at hne
      clear hrow y1
      go_wp2_with fail
      clear hne
      all_goals exact hB1

end Go.Proofs.Ytigdeaeoejpnlaa
