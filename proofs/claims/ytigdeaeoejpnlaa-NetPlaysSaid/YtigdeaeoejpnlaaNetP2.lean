/- The law NetPlays: its walk, one arm of the switch. -/
import Derived.Test.YtigdeaeoejpnlaaNetN0
namespace Go.Proofs.Ytigdeaeoejpnlaa
open Go.RowKit

set_option maxHeartbeats 8000000 in
set_option maxRecDepth 100000 in
theorem arm2_walk {w : World}
    {ds : List Deed}
    {cap : Nat}
    {g : Nat}
    {u2 u9 u10 u11 u12 u13 u14 u15 u16 u17 u18 u19 u152 u191 :
  Value}
    {i gn : Nat}
    {xs : List Packet}
    (hids : i ≤ ds.length)
    (hxl : xs.length ≤ i)
    {F S : Nat → Prop}
    {wo : World}
    (hbw : Below w.heap.size w wo)
    {lA : Option Addr}
    {lc : Nat}
    (hlc : xs.length ≤ lc)
    (hlm : lc ≤ 9223372036854775807)
    (hlt1 : i < ds.length)
    (hlt2 : i < 100)
    {b o : Nat}
    {d1 d2 a1 a2 a3 : Int}
    {a4 : Bool}
    {A1 : Option Addr}
    {n1 cap1 : Nat}
    (hrep :
  PacketS.rep (fun x => x < w.heap.size) wo ds[i].snd.snd
    [Value.int IntKind.i64 a1, Value.int IntKind.i64 a2, Value.int IntKind.u64 a3, Value.bool a4,
      Value.slice A1 n1 cap1])
    (hr2 : -9223372036854775808 ≤ d2 ∧ d2 ≤ 9223372036854775807)
    (h2000 : ¬2000 < n1)
    (Hd1 : Hid (d1 = ds[i].fst))
    (Hd2 : Hid (d2 = ds[i].snd.fst))
    (Hn1 : Hid (n1 = ds[i].snd.snd.snd.snd.snd.snd.length))
    {Qp_0 : Exit → Act → World → Prop }
    {K_2 : Act → World → Prop}
    {u25 u26 u27 u28 u29 u30 u31 u32 u33 u34 u35 u36 u37 u38 u39 u40 u41 u42 u43 u44 u45 u46 u47 u48 u49 u50 u51 u52 u53 u54 u55 u56 u57 u58 u59 u60 u61 u62 u66 u67 u68 u69 u70 u71 u72 u73 u74 u78 u79 u80 u81 u82 u83 u84 u85 u86 u87 u88 u89 u90 u91 u92 u93 u94 u95 u96 u97 u98 u99 u100 u101 u102 u103 u104 u105 u106 u107 u110 u111 u112 u113 u114 u115 u116 u117 u118 u119 u120 u121 u122 u123 u124 u125 u126 u127 u128 u129 u130 u131 u132 u133 u134 u135 u136 u137 u138 u139 u140 u141 u142 u143 u144 u145 u146 u147 u148 u149 u150 u151 u153 u154 u155 u156 u157 u158 u159 u160 u161 u162 u163 u164 u165 u166 u167 u168 u169 u170 u171 u172 u173 u174 u175 u176 u177 u178 u179 u180 u181 u182 u183 u184 u185 u186 u187 u188 u189 u190 u192 u193 u194 u195 u196 u197 u198 u199 u200 u201 u202 u203 u204 u205 u206 u207 u208 u209 u210 u211 u212 u213 u214 u215 u216 u217 u218 u219 u220 u221 u222 :
  Value}
    {has : Bool}
    (Hhas : Hid (has = decide (0 ≤ d2 ∧ d2 < (↑xs.length : Int))))
    {J_0 Kp_0 : Act → World → Prop}
    (a_2 : Hid (
  ∀ (a' : Act) (w' : World),
    (∃ u2 u4 u5 u9 u10 u11 u12 u13 u14 u15 u16 u17 u18 u19 u25 u26 u27 u28 u29 u30 u31 u32 u33 u34 u35 u36 u37 u38 u39
        u40 u41 u42 u43 u44 u45 u46 u47 u48 u49 u50 u51 u52 u53 u54 u55 u56 u57 u58 u59 u60 u61 u62 u63 u64 u65 u66 u67
        u68 u69 u70 u71 u72 u73 u74 u75 u76 u77 u78 u79 u80 u81 u82 u83 u84 u85 u86 u87 u88 u89 u90 u91 u92 u93 u94 u95
        u96 u97 u98 u99 u100 u101 u102 u103 u104 u105 u106 u107 u108 u109 u110 u111 u112 u113 u114 u115 u116 u117 u118
        u119 u120 u121 u122 u123 u124 u125 u126 u127 u128 u129 u130 u131 u132 u133 u134 u135 u136 u137 u138 u139 u140
        u141 u142 u143 u144 u145 u146 u147 u148 u149 u150 u151 u152 u153 u154 u155 u156 u157 u158 u159 u160 u161 u162
        u163 u164 u165 u166 u167 u168 u169 u170 u171 u172 u173 u174 u175 u176 u177 u178 u179 u180 u181 u182 u183 u184
        u185 u186 u187 u188 u189 u190 u191 u192 u193 u194 u195 u196 u197 u198 u199 u200 u201 u202 u203 u204 u205 u206
        u207 u208 u209 u210 u211 u212 u213 u214 u215 u216 u217 u218 u219 u220 u221 u222,
        (∃ g' xs', u4 = Value.pointer (some { block := g', off := 0 }) ∧ xs'.length ≤ i + 1 ∧ Beside w g' u5 xs' w') ∧
          a' =
            {
              tmps :=
                (Value.slice (some { block := b, off := o }) ds.length cap :: undef :: u2 :: Value.bool true :: u4 :: u5 :: Value.int IntKind.i64 (↑i : Int) :: Value.pointer (some { block := wo.heap.size, off := 0 }) :: Value.bool has :: u9 :: u10 :: u11 :: u12 :: u13 :: u14 :: u15 :: u16 :: u17 :: u18 :: u19 :: undef :: undef :: undef :: Value.bool true :: Value.pointer (some { block := g, off := 0 }) :: u25 :: u26 :: u27 :: u28 :: u29 :: u30 :: u31 :: u32 :: u33 :: u34 :: u35 :: u36 :: u37 :: u38 :: u39 :: u40 :: u41 :: u42 :: u43 :: u44 :: u45 :: u46 :: u47 :: u48 :: u49 :: u50 :: u51 :: u52 :: u53 :: u54 :: u55 :: u56 :: u57 :: u58 :: u59 :: u60 :: u61 :: u62 :: u63 :: u64 :: u65 :: u66 :: u67 :: u68 :: u69 :: u70 :: u71 :: u72 :: u73 :: u74 :: u75 :: u76 :: u77 :: u78 :: u79 :: u80 :: u81 :: u82 :: u83 :: u84 :: u85 :: u86 :: u87 :: u88 :: u89 :: u90 :: u91 :: u92 :: u93 :: u94 :: u95 :: u96 :: u97 :: u98 :: u99 :: u100 :: u101 :: u102 :: u103 :: u104 :: u105 :: u106 :: u107 :: u108 :: u109 :: u110 :: u111 :: u112 :: u113 :: u114 :: u115 :: u116 :: u117 :: u118 :: u119 :: u120 :: u121 :: u122 :: u123 :: u124 :: u125 :: u126 :: u127 :: u128 :: u129 :: u130 :: u131 :: u132 :: u133 :: u134 :: u135 :: u136 :: u137 :: u138 :: u139 :: u140 :: u141 :: u142 :: u143 :: u144 :: u145 :: u146 :: u147 :: u148 :: u149 :: u150 :: u151 :: u152 :: u153 :: u154 :: u155 :: u156 :: u157 :: u158 :: u159 :: u160 :: u161 :: u162 :: u163 :: u164 :: u165 :: u166 :: u167 :: u168 :: u169 :: u170 :: u171 :: u172 :: u173 :: u174 :: u175 :: u176 :: u177 :: u178 :: u179 :: u180 :: u181 :: u182 :: u183 :: u184 :: u185 :: u186 :: u187 :: u188 :: u189 :: u190 :: u191 :: u192 :: u193 :: u194 :: u195 :: u196 :: u197 :: u198 :: u199 :: u200 :: u201 :: u202 :: u203 :: u204 :: u205 :: u206 :: u207 :: u208 :: u209 :: u210 :: u211 :: u212 :: u213 :: u214 :: u215 :: u216 :: u217 :: u218 :: u219 :: u220 :: u221 :: u222 :: undef :: undef :: undef :: undef :: undef :: undef :: undef :: undef :: undef :: undef :: undef :: undef :: undef :: undef :: undef :: undef :: undef :: undef :: undef :: undef :: undef :: undef :: undef :: undef :: undef :: undef :: undef :: undef :: ([] : List Value)).toArray,
              defers := [] }) →
      J_0 a' w'))
    (a_1 : ∀ (a' : Act) (w' : World), Met J_0 a' w' → Kp_0 a' w')
    {W1 : World}
    (hrow :
  Row W1 wo.heap.size 40
    [Value.int IntKind.i64 d1, Value.int IntKind.i64 d2, Value.int IntKind.i64 a1, Value.int IntKind.i64 a2,
      Value.int IntKind.u64 a3, Value.bool a4, Value.slice A1 n1 cap1])
    (hB1 : Bes w F S gn (Value.slice lA xs.length lc) xs W1)
    (hrep1 :
  PacketS.rep (fun x => x < w.heap.size) W1 ds[i].snd.snd
    [Value.int IntKind.i64 a1, Value.int IntKind.i64 a2, Value.int IntKind.u64 a3, Value.bool a4,
      Value.slice A1 n1 cap1])
    (hdF :
  (¬F wo.heap.size ∧ ¬S wo.heap.size) ∧
    (Value.slice lA xs.length lc).ownBlock ≠ some wo.heap.size ∧ w.heap.size ≤ wo.heap.size)
    (hdl : wo.heap.size < W1.heap.size)
    (Hlen : xs.length ≤ 100)
    (y0 : W1.cell? { block := wo.heap.size, off := 0 } = some (Value.int IntKind.i64 d1))
    (y1 : W1.cell? { block := wo.heap.size, off := 1 } = some (Value.int IntKind.i64 d2))
    (y2 : W1.cell? { block := wo.heap.size, off := 2 } = some (Value.int IntKind.i64 a1))
    (y3 : W1.cell? { block := wo.heap.size, off := 3 } = some (Value.int IntKind.i64 a2))
    (y4 : W1.cell? { block := wo.heap.size, off := 4 } = some (Value.int IntKind.u64 a3))
    (y5 : W1.cell? { block := wo.heap.size, off := 5 } = some (Value.bool a4))
    (y6 : W1.cell? { block := wo.heap.size, off := 6 } = some (Value.slice A1 n1 cap1))
    {K_0 : Act → World → Prop}
    (a_0 :
  ∀ (a : Act) (w : World),
    Code.wp Try.prog
        (((Code.region 30
                  #[{ dst := some 117, op := Op.move (Operand.tmp 8), type := 4, pos := "law.go:71", after := #[],
                      guard := none },
                    { dst := some 118, op := Op.move (Operand.tmp 117), type := 4, pos := "law.go:71",
                      after := #[{ on := 0, ground := Ground.data }], guard := none },
                    { dst := some 119, op := Op.move (Operand.tmp 13), type := 34, pos := "law.go:71",
                      after := #[{ on := 1, ground := Ground.guard }], guard := some (1, true) },
                    { dst := some 120, op := Op.binOp BinOp.neq 34 (Operand.tmp 119) (Operand.const Value.nilIface) 34,
                      type := 4, pos := "law.go:71",
                      after := #[{ on := 2, ground := Ground.data }, { on := 1, ground := Ground.guard }],
                      guard := some (1, true) },
                    { dst := some 121, op := Op.move (Operand.tmp 120), type := 4, pos := "law.go:71",
                      after :=
                        #[{ on := 3, ground := Ground.data }, { on := 1, ground := Ground.chain },
                          { on := 1, ground := Ground.guard }],
                      guard := some (1, true) },
                    { dst := some 122, op := Op.load 30 (Operand.tmp 12), type := 30, pos := "law.go:71",
                      after := #[{ on := 4, ground := Ground.guard }], guard := some (4, false) },
                    { dst := some 123, op := Op.move (Operand.tmp 5), type := 26, pos := "law.go:71",
                      after := #[{ on := 4, ground := Ground.guard }], guard := some (4, false) },
                    { dst := some 124, op := Op.fieldAddr 40 (Operand.tmp 7) 1, type := 0, pos := "law.go:71",
                      after := #[{ on := 4, ground := Ground.guard }], guard := some (4, false) },
                    { dst := some 125, op := Op.load 3 (Operand.tmp 124), type := 3, pos := "law.go:71",
                      after := #[{ on := 7, ground := Ground.data }, { on := 4, ground := Ground.guard }],
                      guard := some (4, false) },
                    { dst := some 126, op := Op.indexAddr 26 (Operand.tmp 123) (Operand.tmp 125), type := 0,
                      pos := "law.go:71",
                      after :=
                        #[{ on := 6, ground := Ground.data }, { on := 8, ground := Ground.data },
                          { on := 4, ground := Ground.guard }],
                      guard := some (4, false) },
                    { dst := some 127, op := Op.load 30 (Operand.tmp 126), type := 30, pos := "law.go:71",
                      after := #[{ on := 9, ground := Ground.data }, { on := 4, ground := Ground.guard }],
                      guard := some (4, false) },
                    { dst := some 128,
                      op :=
                        Op.call
                          { callee := Callee.value (Operand.func 18), args := #[Operand.tmp 122, Operand.tmp 127],
                            argTypes := #[30, 30] },
                      type := 4, pos := "law.go:71",
                      after :=
                        #[{ on := 5, ground := Ground.data }, { on := 10, ground := Ground.data },
                          { on := 4, ground := Ground.chain }, { on := 4, ground := Ground.guard }],
                      guard := some (4, false) },
                    { dst := some 129, op := Op.unOp UnOp.not 4 (Operand.tmp 128), type := 4, pos := "law.go:71",
                      after := #[{ on := 11, ground := Ground.data }, { on := 4, ground := Ground.guard }],
                      guard := some (4, false) },
                    { dst := some 130,
                      op := Op.pick (Operand.tmp 121) (Operand.const (Value.bool true)) (Operand.tmp 129), type := 4,
                      pos := "law.go:71",
                      after :=
                        #[{ on := 4, ground := Ground.data }, { on := 12, ground := Ground.data },
                          { on := 1, ground := Ground.guard }],
                      guard := some (1, true) },
                    { dst := some 131,
                      op := Op.pick (Operand.tmp 118) (Operand.tmp 130) (Operand.const (Value.bool false)), type := 4,
                      pos := "law.go:71",
                      after := #[{ on := 1, ground := Ground.data }, { on := 13, ground := Ground.data }],
                      guard := none },
                    { dst := some 132, op := Op.move (Operand.tmp 131), type := 4, pos := "law.go:71",
                      after := #[{ on := 14, ground := Ground.data }, { on := 11, ground := Ground.chain }],
                      guard := none },
                    { dst := some 133, op := Op.move (Operand.tmp 8), type := 4, pos := "law.go:71",
                      after := #[{ on := 15, ground := Ground.guard }], guard := some (15, false) },
                    { dst := some 134, op := Op.unOp UnOp.not 4 (Operand.tmp 133), type := 4, pos := "law.go:71",
                      after := #[{ on := 16, ground := Ground.data }, { on := 15, ground := Ground.guard }],
                      guard := some (15, false) },
                    { dst := some 135, op := Op.move (Operand.tmp 134), type := 4, pos := "law.go:71",
                      after :=
                        #[{ on := 17, ground := Ground.data }, { on := 15, ground := Ground.chain },
                          { on := 15, ground := Ground.guard }],
                      guard := some (15, false) },
                    { dst := some 136, op := Op.move (Operand.tmp 13), type := 34, pos := "law.go:71",
                      after := #[{ on := 18, ground := Ground.guard }], guard := some (18, true) },
                    { dst := some 137, op := Op.makeInterface 36 (Operand.const (Value.int IntKind.i64 6)), type := 34,
                      pos := "law.go:71", after := #[{ on := 18, ground := Ground.guard }], guard := some (18, true) },
                    { dst := some 138, op := Op.binOp BinOp.neq 34 (Operand.tmp 136) (Operand.tmp 137) 34, type := 4,
                      pos := "law.go:71",
                      after :=
                        #[{ on := 19, ground := Ground.data }, { on := 20, ground := Ground.data },
                          { on := 18, ground := Ground.guard }],
                      guard := some (18, true) },
                    { dst := some 139,
                      op := Op.pick (Operand.tmp 135) (Operand.tmp 138) (Operand.const (Value.bool false)), type := 4,
                      pos := "law.go:71",
                      after :=
                        #[{ on := 18, ground := Ground.data }, { on := 21, ground := Ground.data },
                          { on := 15, ground := Ground.guard }],
                      guard := some (15, false) },
                    { dst := some 140,
                      op := Op.pick (Operand.tmp 132) (Operand.const (Value.bool true)) (Operand.tmp 139), type := 4,
                      pos := "law.go:71",
                      after := #[{ on := 15, ground := Ground.data }, { on := 22, ground := Ground.data }],
                      guard := none }]
                  true).seq
              (Code.cond (Operand.tmp 140)
                ((Code.region 31
                      #[{ dst := some 2, op := Op.assign (Operand.const (Value.bool false)), type := 4,
                          pos := "law.go:72", after := #[], guard := none }]
                      false).seq
                  Code.ret)
                Code.skip)).seq
          ((Code.region 32
                #[{ dst := some 14, op := Op.assign (Operand.const (Value.int IntKind.i64 0)), type := 3,
                    pos := "law.go:74", after := #[], guard := none }]
                false).seq
            (Code.block 5
              (((Code.region 33
                          #[{ dst := some 141, op := Op.move (Operand.tmp 14), type := 3, pos := "law.go:74",
                              after := #[], guard := none },
                            { dst := some 142, op := Op.fieldAddr 30 (Operand.tmp 12) 4, type := 0, pos := "law.go:74",
                              after := #[], guard := none },
                            { dst := some 143, op := Op.load 28 (Operand.tmp 142), type := 28, pos := "law.go:74",
                              after := #[{ on := 1, ground := Ground.data }], guard := none },
                            { dst := some 144,
                              op :=
                                Op.call
                                  { callee := Callee.builtin Builtin.len, args := #[Operand.tmp 143],
                                    argTypes := #[28] },
                              type := 3, pos := "law.go:74", after := #[{ on := 2, ground := Ground.data }],
                              guard := none },
                            { dst := some 145, op := Op.binOp BinOp.lss 3 (Operand.tmp 141) (Operand.tmp 144) 3,
                              type := 4, pos := "law.go:74",
                              after := #[{ on := 0, ground := Ground.data }, { on := 3, ground := Ground.data }],
                              guard := none }]
                          false).seq
                      (Code.cond (Operand.tmp 145) Code.skip (Code.exit 5))).seq
                  ((Code.block 6
                        (Code.region 35
                          #[{ dst := some 148, op := Op.fieldAddr 30 (Operand.tmp 12) 4, type := 0, pos := "law.go:75",
                              after := #[], guard := none },
                            { dst := some 149, op := Op.load 28 (Operand.tmp 148), type := 28, pos := "law.go:75",
                              after := #[{ on := 0, ground := Ground.data }], guard := none },
                            { dst := some 150, op := Op.move (Operand.tmp 14), type := 3, pos := "law.go:75",
                              after := #[], guard := none },
                            { dst := some 151, op := Op.indexAddr 28 (Operand.tmp 149) (Operand.tmp 150), type := 0,
                              pos := "law.go:75",
                              after :=
                                #[{ on := 1, ground := Ground.data }, { on := 2, ground := Ground.data },
                                  { on := 0, ground := Ground.phase }, { on := 1, ground := Ground.phase },
                                  { on := 2, ground := Ground.phase }],
                              guard := none },
                            { dst := none, op := Op.store 5 (Operand.tmp 151) (Operand.const (Value.int IntKind.u8 0)),
                              type := 0, pos := "law.go:75",
                              after :=
                                #[{ on := 3, ground := Ground.data }, { on := 0, ground := Ground.phase },
                                  { on := 1, ground := Ground.phase }, { on := 2, ground := Ground.phase }],
                              guard := none }]
                          false)).seq
                    (Code.region 34
                      #[{ dst := some 146, op := Op.move (Operand.tmp 14), type := 3, pos := "law.go:74", after := #[],
                          guard := none },
                        { dst := some 147,
                          op := Op.binOp BinOp.add 3 (Operand.tmp 146) (Operand.const (Value.int IntKind.i64 1)) 3,
                          type := 3, pos := "law.go:74", after := #[{ on := 0, ground := Ground.data }],
                          guard := none },
                        { dst := some 14, op := Op.assign (Operand.tmp 147), type := 3, pos := "law.go:74",
                          after :=
                            #[{ on := 1, ground := Ground.data }, { on := 0, ground := Ground.phase },
                              { on := 1, ground := Ground.phase }],
                          guard := none }]
                      false))).loop)))
        (Exit.inBlock 2 (Exit.then Kp_0 (Exit.inBlock 1 (Exit.then K_2 Qp_0)))) a w →
      K_0 a w) :
    Code.wp Try.prog
    (Code.region 29
      #[{ dst := some 111, op := Op.move (Operand.tmp 4), type := 24, pos := "law.go:70", after := #[], guard := none },
        { dst := some 112, op := Op.fieldAddr 40 (Operand.tmp 7) 1, type := 0, pos := "law.go:70", after := #[],
          guard := none },
        { dst := some 113, op := Op.load 3 (Operand.tmp 112), type := 3, pos := "law.go:70",
          after := #[{ on := 1, ground := Ground.data }], guard := none },
        { dst := some 114,
          op :=
            Op.call
              { callee := Callee.value (Operand.func 17), args := #[Operand.tmp 111, Operand.tmp 113],
                argTypes := #[24, 3] },
          type := 41, pos := "law.go:70",
          after := #[{ on := 0, ground := Ground.data }, { on := 2, ground := Ground.data }], guard := none },
        { dst := some 110, op := Op.move (Operand.tmp 114), type := 41, pos := "law.go:70",
          after := #[{ on := 3, ground := Ground.data }], guard := none },
        { dst := some 115, op := Op.extract (Operand.tmp 110) 0, type := 30, pos := "law.go:70",
          after := #[{ on := 4, ground := Ground.data }], guard := none },
        { dst := some 116, op := Op.extract (Operand.tmp 110) 1, type := 34, pos := "law.go:70",
          after := #[{ on := 4, ground := Ground.data }, { on := 8, ground := Ground.gcOnly Departure.lateStores }],
          guard := none },
        { dst := some 12, op := Op.alloc 30, type := 0, pos := "law.go:70", after := #[], guard := none },
        { dst := none, op := Op.store 30 (Operand.tmp 12) (Operand.tmp 115), type := 0, pos := "law.go:70",
          after :=
            #[{ on := 7, ground := Ground.data }, { on := 5, ground := Ground.data },
              { on := 3, ground := Ground.chain }, { on := 0, ground := Ground.phase },
              { on := 1, ground := Ground.phase }, { on := 2, ground := Ground.phase },
              { on := 3, ground := Ground.phase }, { on := 4, ground := Ground.phase },
              { on := 5, ground := Ground.phase }, { on := 6, ground := Ground.textOnly Departure.lateStores },
              { on := 7, ground := Ground.phase }],
          guard := none },
        { dst := some 13, op := Op.assign (Operand.tmp 116), type := 34, pos := "law.go:70",
          after :=
            #[{ on := 6, ground := Ground.data }, { on := 8, ground := Ground.chain },
              { on := 0, ground := Ground.phase }, { on := 1, ground := Ground.phase },
              { on := 2, ground := Ground.phase }, { on := 3, ground := Ground.phase },
              { on := 4, ground := Ground.phase }, { on := 5, ground := Ground.phase },
              { on := 6, ground := Ground.phase }, { on := 7, ground := Ground.phase },
              { on := 8, ground := Ground.phase }],
          guard := none }]
      false)
    (Exit.then K_0 (Exit.inBlock 2 (Exit.then Kp_0 (Exit.inBlock 1 (Exit.then K_2 Qp_0)))))
    {
      tmps :=
        (Value.slice (some { block := b, off := o }) ds.length cap :: undef :: u2 :: Value.bool true :: Value.pointer (some { block := gn, off := 0 }) :: Value.slice lA xs.length lc :: Value.int IntKind.i64 (↑i : Int) :: Value.pointer (some { block := wo.heap.size, off := 0 }) :: Value.bool has :: u9 :: u10 :: u11 :: u12 :: u13 :: u14 :: u15 :: u16 :: u17 :: u18 :: u19 :: undef :: undef :: undef :: Value.bool true :: Value.pointer (some { block := g, off := 0 }) :: u25 :: u26 :: u27 :: u28 :: u29 :: u30 :: u31 :: u32 :: u33 :: u34 :: u35 :: u36 :: u37 :: u38 :: u39 :: u40 :: u41 :: u42 :: u43 :: u44 :: u45 :: u46 :: u47 :: u48 :: u49 :: u50 :: u51 :: u52 :: u53 :: u54 :: u55 :: u56 :: u57 :: u58 :: u59 :: u60 :: u61 :: u62 :: Value.pointer (some { block := wo.heap.size, off := 0 }) :: Value.int IntKind.i64 d1 :: Value.int IntKind.i64 2 :: u66 :: u67 :: u68 :: u69 :: u70 :: u71 :: u72 :: u73 :: u74 :: Value.bool false :: Value.bool false :: Value.bool false :: u78 :: u79 :: u80 :: u81 :: u82 :: u83 :: u84 :: u85 :: u86 :: u87 :: u88 :: u89 :: u90 :: u91 :: u92 :: u93 :: u94 :: u95 :: u96 :: u97 :: u98 :: u99 :: u100 :: u101 :: u102 :: u103 :: u104 :: u105 :: u106 :: u107 :: Value.bool true :: Value.bool true :: u110 :: u111 :: u112 :: u113 :: u114 :: u115 :: u116 :: u117 :: u118 :: u119 :: u120 :: u121 :: u122 :: u123 :: u124 :: u125 :: u126 :: u127 :: u128 :: u129 :: u130 :: u131 :: u132 :: u133 :: u134 :: u135 :: u136 :: u137 :: u138 :: u139 :: u140 :: u141 :: u142 :: u143 :: u144 :: u145 :: u146 :: u147 :: u148 :: u149 :: u150 :: u151 :: u152 :: u153 :: u154 :: u155 :: u156 :: u157 :: u158 :: u159 :: u160 :: u161 :: u162 :: u163 :: u164 :: u165 :: u166 :: u167 :: u168 :: u169 :: u170 :: u171 :: u172 :: u173 :: u174 :: u175 :: u176 :: u177 :: u178 :: u179 :: u180 :: u181 :: u182 :: u183 :: u184 :: u185 :: u186 :: u187 :: u188 :: u189 :: u190 :: u191 :: u192 :: u193 :: u194 :: u195 :: u196 :: u197 :: u198 :: u199 :: u200 :: u201 :: u202 :: u203 :: u204 :: u205 :: u206 :: u207 :: u208 :: u209 :: u210 :: u211 :: u212 :: u213 :: u214 :: u215 :: u216 :: u217 :: u218 :: u219 :: u220 :: u221 :: u222 :: undef :: undef :: undef :: undef :: undef :: undef :: undef :: undef :: undef :: undef :: undef :: undef :: undef :: undef :: undef :: undef :: undef :: undef :: undef :: undef :: undef :: undef :: undef :: undef :: undef :: undef :: undef :: undef :: ([] : List Value)).toArray,
      defers := [] }
    W1 := by
  · --#arm2
    by_cases hh : 0 ≤ d2 ∧ d2 < (xs.length : Int)
    · obtain ⟨m, rfl⟩ : ∃ m : Nat, d2 = (m : Int) := ⟨d2.toNat, by omega⟩
      have hm : m < xs.length := by omega
      have hpk0 : xs[m]? = some xs[m] := List.getElem?_eq_getElem hm
      obtain rfl : has = true := by rw [Hhas.out]; exact decide_eq_true hh
      obtain ⟨pk, hpk⟩ : ∃ pk, pk = xs[m] := ⟨_, rfl⟩
      rw [← hpk] at hpk0
      clear y0 y2 y3 y4 y5 y6 hrep1
      go_wp2_with fail
      refine (peek_ok hB1.net m pk hpk0).mono ?_
      rintro e w3 ⟨cs3, rfl, hx3, hb3⟩
      obtain ⟨A8, cap8, rfl, _⟩ := packet_open hx3
      obtain ⟨_, hc8, hm8⟩ := sl_cap (packet_body hx3)
      have hB3 := hB1.two.below hb3
      have hrow3 := hrow.below hdl hb3
      have hs3 := hb3.size
      clear y1
      have hb9 := below_alloc (Below.refl w3.heap.size w3) (.cells #[.int .i64 pk.1, .int .i64 pk.2.1, .int .u64 (pk.2.2.1 : Int), .bool pk.2.2.2.1, .slice A8 pk.2.2.2.2.length cap8] 30)
      have hX9 := PacketS.below hx3 hb9.drew
      have hX9b : Box w3.heap.size (Fresh W1 w3) _ pk A8 cap8 := ⟨(Row.new w3 30 #[.int .i64 pk.1, .int .i64 pk.2.1, .int .u64 (pk.2.2.1 : Int), .bool pk.2.2.2.1, .slice A8 pk.2.2.2.2.length cap8]).drew, hX9⟩
      have hB9 := hB3.below hb9.drew
      have hrow9 := (hrow3.alloc (.cells #[.int .i64 pk.1, .int .i64 pk.2.1, .int .u64 (pk.2.2.1 : Int), .bool pk.2.2.2.1, .slice A8 pk.2.2.2.2.length cap8] 30)).drew
      have hl9 := hB9.own.sl (S' := (· < w3.heap.size)) (fun b hb => by have h1 : b < w.heap.size := hb; have := hB3.low.size; omega) (fun k hk => (hB3.own.blk k hk).2) (by have e : PacketS.by_ = 56 := rfl; rw [e]; omega)
      obtain ⟨b', o', e1, e2, e3, e4, E1, m1, cape, rfl, hb', hrepl, c0, c1, c2, c3, c4⟩ := packet_at hl9 m hm
      rw [← hpk] at hrepl
      have y1 := hrow9.cell 1 (by simp)
      simp only [List.getElem_cons_zero, List.getElem_cons_succ] at y1
      have HB3 := hB3
      clear hpk hpk0 hl9
      go_upto_region 30 with (fail)
      obtain ⟨x0, x1, x2, x3, x4⟩ := hX9b.cells
      have hz9 : w3.heap.size < (w3.alloc (.cells #[.int .i64 pk.1, .int .i64 pk.2.1, .int .u64 (pk.2.2.1 : Int), .bool pk.2.2.2.1, .slice A8 pk.2.2.2.2.length cap8] 30)).drew.heap.size := by show _ < (w3.alloc _).heap.size; simp
      have hz10 : b' < (w3.alloc (.cells #[.int .i64 pk.1, .int .i64 pk.2.1, .int .u64 (pk.2.2.1 : Int), .bool pk.2.2.2.1, .slice A8 pk.2.2.2.2.length cap8] 30)).drew.heap.size := by
        show _ < (w3.alloc _).heap.size
        have h1 : b' < w3.heap.size := hb'
        simp
        omega
      have hz11 : wo.heap.size < (w3.alloc (.cells #[.int .i64 pk.1, .int .i64 pk.2.1, .int .u64 (pk.2.2.1 : Int), .bool pk.2.2.2.1, .slice A8 pk.2.2.2.2.length cap8] 30)).drew.heap.size := by
        show _ < (w3.alloc _).heap.size
        simp
        omega
      refine wp_region_noPanic ?_
      refine wp_region_held_drew (S := (fun w' => w'.cell? ⟨w3.heap.size, 0, none⟩ = some (.int .i64 pk.1) ∧ w'.cell? ⟨w3.heap.size, 1, none⟩ = some (.int .i64 pk.2.1) ∧ w'.cell? ⟨w3.heap.size, 2, none⟩ = some (.int .u64 (pk.2.2.1 : Int)) ∧ w'.cell? ⟨w3.heap.size, 3, none⟩ = some (.bool pk.2.2.2.1) ∧ w'.cell? ⟨w3.heap.size, 4, none⟩ = some (.slice A8 pk.2.2.2.2.length cap8) ∧
          w'.cell? ⟨wo.heap.size, 1, none⟩ = some (.int .i64 (m : Int)) ∧
          w'.cell? ⟨b', o' + m * 5, none⟩ = some (.int .i64 e1) ∧ w'.cell? ⟨b', o' + m * 5 + 1, none⟩ = some (.int .i64 e2) ∧ w'.cell? ⟨b', o' + m * 5 + 2, none⟩ = some (.int .u64 e3) ∧ w'.cell? ⟨b', o' + m * 5 + 3, none⟩ = some (.bool e4) ∧ w'.cell? ⟨b', o' + m * 5 + 4, none⟩ = some (.slice E1 m1 cape))) (by kernel_rfl) ?hS30 (fun hHeld => ?_)
      case hS30 => exact ⟨x0, x1, x2, x3, x4, y1, c0, c1, c2, c3, c4⟩
      refine wpAnyH_take (i := 0) (oi := { dst := some 117, op := Op.move (Operand.tmp 8), type := 4, pos := "law.go:71", after := #[], guard := none }) (v := ?v0a) rfl (by kernel_rfl) (by kernel_rfl) (by kernel_rfl) (fun _ _ _ h => h) (Or.inl ⟨by rfl, ?y0a⟩) (by assumption) ?r0a
      case y0a => (intro w hSw; (try dsimp only at hSw); go_simp; try with_reducible rfl)
      try simp only [Act.put, List.setIfInBounds_toArray, List.set_cons_zero, List.set_cons_succ]
      refine wpAnyH_take (i := 1) (oi := { dst := some 118, op := Op.move (Operand.tmp 117), type := 4, pos := "law.go:71", after := #[{ on := 0, ground := Ground.data }], guard := none }) (v := ?v1a) rfl (by kernel_rfl) (by kernel_rfl) (by kernel_rfl) (fun _ _ _ h => h) (Or.inl ⟨by rfl, ?y1a⟩) (by assumption) ?r1a
      case y1a => (intro w hSw; (try dsimp only at hSw); go_simp; try with_reducible rfl)
      try simp only [Act.put, List.setIfInBounds_toArray, List.set_cons_zero, List.set_cons_succ]
      refine wpAnyH_take (i := 2) (oi := { dst := some 119, op := Op.move (Operand.tmp 13), type := 34, pos := "law.go:71", after := #[{ on := 1, ground := Ground.guard }], guard := some (1, true) }) (v := ?v2a) rfl (by kernel_rfl) (by kernel_rfl) (by kernel_rfl) (fun _ _ _ h => h) (Or.inl ⟨by rfl, ?y2a⟩) (by assumption) ?r2a
      case y2a => (intro w hSw; (try dsimp only at hSw); go_simp; try with_reducible rfl)
      try simp only [Act.put, List.setIfInBounds_toArray, List.set_cons_zero, List.set_cons_succ]
      refine wpAnyH_take (i := 3) (oi := { dst := some 120, op := Op.binOp BinOp.neq 34 (Operand.tmp 119) (Operand.const Value.nilIface) 34, type := 4, pos := "law.go:71", after := #[{ on := 2, ground := Ground.data }, { on := 1, ground := Ground.guard }], guard := some (1, true) }) (v := ?v3a) rfl (by kernel_rfl) (by kernel_rfl) (by kernel_rfl) (fun _ _ _ h => h) (Or.inl ⟨by rfl, ?y3a⟩) (by assumption) ?r3a
      case y3a => (intro w hSw; (try dsimp only at hSw); go_simp; try with_reducible rfl)
      try simp only [Act.put, List.setIfInBounds_toArray, List.set_cons_zero, List.set_cons_succ]
      refine wpAnyH_take (i := 4) (oi := { dst := some 121, op := Op.move (Operand.tmp 120), type := 4, pos := "law.go:71", after := #[{ on := 3, ground := Ground.data }, { on := 1, ground := Ground.chain }, { on := 1, ground := Ground.guard }], guard := some (1, true) }) (v := ?v4a) rfl (by kernel_rfl) (by kernel_rfl) (by kernel_rfl) (fun _ _ _ h => h) (Or.inl ⟨by rfl, ?y4a⟩) (by assumption) ?r4a
      case y4a => (intro w hSw; (try dsimp only at hSw); go_simp; try with_reducible rfl)
      try simp only [Act.put, List.setIfInBounds_toArray, List.set_cons_zero, List.set_cons_succ]
      refine wpAnyH_take (i := 5) (oi := { dst := some 122, op := Op.load 30 (Operand.tmp 12), type := 30, pos := "law.go:71", after := #[{ on := 4, ground := Ground.guard }], guard := some (4, false) }) (v := ?v5a) rfl (by kernel_rfl) (by kernel_rfl) (by kernel_rfl) (fun _ _ _ h => h) (Or.inl ⟨by rfl, ?y5a⟩) (by assumption) ?r5a
      case y5a => (intro w hSw; (try dsimp only at hSw); go_simp; try with_reducible rfl)
      try simp only [Act.put, List.setIfInBounds_toArray, List.set_cons_zero, List.set_cons_succ]
      refine wpAnyH_take (i := 6) (oi := { dst := some 123, op := Op.move (Operand.tmp 5), type := 26, pos := "law.go:71", after := #[{ on := 4, ground := Ground.guard }], guard := some (4, false) }) (v := ?v6a) rfl (by kernel_rfl) (by kernel_rfl) (by kernel_rfl) (fun _ _ _ h => h) (Or.inl ⟨by rfl, ?y6a⟩) (by assumption) ?r6a
      case y6a => (intro w hSw; (try dsimp only at hSw); go_simp; try with_reducible rfl)
      try simp only [Act.put, List.setIfInBounds_toArray, List.set_cons_zero, List.set_cons_succ]
      refine wpAnyH_take (i := 7) (oi := { dst := some 124, op := Op.fieldAddr 40 (Operand.tmp 7) 1, type := 0, pos := "law.go:71", after := #[{ on := 4, ground := Ground.guard }], guard := some (4, false) }) (v := ?v7a) rfl (by kernel_rfl) (by kernel_rfl) (by kernel_rfl) (fun _ _ _ h => h) (Or.inl ⟨by rfl, ?y7a⟩) (by assumption) ?r7a
      case y7a => (intro w hSw; (try dsimp only at hSw); go_simp; try with_reducible rfl)
      try simp only [Act.put, List.setIfInBounds_toArray, List.set_cons_zero, List.set_cons_succ]
      refine wpAnyH_take (i := 8) (oi := { dst := some 125, op := Op.load 3 (Operand.tmp 124), type := 3, pos := "law.go:71", after := #[{ on := 7, ground := Ground.data }, { on := 4, ground := Ground.guard }], guard := some (4, false) }) (v := ?v8a) rfl (by kernel_rfl) (by kernel_rfl) (by kernel_rfl) (fun _ _ _ h => h) (Or.inl ⟨by rfl, ?y8a⟩) (by assumption) ?r8a
      case y8a => (intro w hSw; (try dsimp only at hSw); go_simp; try with_reducible rfl)
      try simp only [Act.put, List.setIfInBounds_toArray, List.set_cons_zero, List.set_cons_succ]
      refine wpAnyH_take (i := 9) (oi := { dst := some 126, op := Op.indexAddr 26 (Operand.tmp 123) (Operand.tmp 125), type := 0, pos := "law.go:71", after := #[{ on := 6, ground := Ground.data }, { on := 8, ground := Ground.data }, { on := 4, ground := Ground.guard }], guard := some (4, false) }) (v := ?v9a) rfl (by kernel_rfl) (by kernel_rfl) (by kernel_rfl) (fun _ _ _ h => h) (Or.inl ⟨by rfl, ?y9a⟩) (by assumption) ?r9a
      case y9a => (intro w hSw; (try dsimp only at hSw); go_simp; try with_reducible rfl)
      try simp only [Act.put, List.setIfInBounds_toArray, List.set_cons_zero, List.set_cons_succ]
      refine wpAnyH_take (i := 10) (oi := { dst := some 127, op := Op.load 30 (Operand.tmp 126), type := 30, pos := "law.go:71", after := #[{ on := 9, ground := Ground.data }, { on := 4, ground := Ground.guard }], guard := some (4, false) }) (v := ?v10a) rfl (by kernel_rfl) (by kernel_rfl) (by kernel_rfl) (fun _ _ _ h => h) (Or.inl ⟨by rfl, ?y10a⟩) (by assumption) ?r10a
      case y10a => (intro w hSw; (try dsimp only at hSw); go_simp; try with_reducible rfl)
      try simp only [Act.put, List.setIfInBounds_toArray, List.set_cons_zero, List.set_cons_succ]
      refine wpAnyH_ready (rs := [11]) (by kernel_rfl) (by simp) ?_
      refine AllReadyH.cons (o := { dst := some 128, op := Op.call { callee := Callee.value (Operand.func 18), args := #[Operand.tmp 122, Operand.tmp 127], argTypes := #[30, 30] }, type := 4, pos := "law.go:71", after := #[{ on := 5, ground := Ground.data }, { on := 10, ground := Ground.data }, { on := 4, ground := Ground.chain }, { on := 4, ground := Ground.guard }], guard := some (4, false) }) rfl (fun K hK => ?_) AllReadyH.nil
      go_simp
      go_at_call 18
      refine (same_true hX9 hrepl).mono ?_
      rintro e wD ⟨rfl, hbD⟩
      have hSD := And.intro ((hbD.cell (p := ⟨w3.heap.size, 0, none⟩) hz9).trans x0) (And.intro ((hbD.cell (p := ⟨w3.heap.size, 1, none⟩) hz9).trans x1) (And.intro ((hbD.cell (p := ⟨w3.heap.size, 2, none⟩) hz9).trans x2) (And.intro ((hbD.cell (p := ⟨w3.heap.size, 3, none⟩) hz9).trans x3) (And.intro ((hbD.cell (p := ⟨w3.heap.size, 4, none⟩) hz9).trans x4)
        (And.intro ((hbD.cell (p := ⟨wo.heap.size, 1, none⟩) hz11).trans y1) (And.intro ((hbD.cell (p := ⟨b', o' + m * 5, none⟩) hz10).trans c0) (And.intro ((hbD.cell (p := ⟨b', o' + m * 5 + 1, none⟩) hz10).trans c1) (And.intro ((hbD.cell (p := ⟨b', o' + m * 5 + 2, none⟩) hz10).trans c2) (And.intro ((hbD.cell (p := ⟨b', o' + m * 5 + 3, none⟩) hz10).trans c3) ((hbD.cell (p := ⟨b', o' + m * 5 + 4, none⟩) hz10).trans c4))))))))))
      refine hK.out _ _ hSD (fun hHeld => ?_)
      clear hK K
      try simp only [Act.put, List.setIfInBounds_toArray, List.set_cons_zero, List.set_cons_succ]
      refine wpAnyH_take (i := 12) (oi := { dst := some 129, op := Op.unOp UnOp.not 4 (Operand.tmp 128), type := 4, pos := "law.go:71", after := #[{ on := 11, ground := Ground.data }, { on := 4, ground := Ground.guard }], guard := some (4, false) }) (v := ?v12a) rfl (by kernel_rfl) (by kernel_rfl) (by kernel_rfl) (fun _ _ _ h => h) (Or.inl ⟨by rfl, ?y12a⟩) (by assumption) ?r12a
      case y12a => (intro w hSw; (try dsimp only at hSw); go_simp; try with_reducible rfl)
      try simp only [Act.put, List.setIfInBounds_toArray, List.set_cons_zero, List.set_cons_succ]
      refine wpAnyH_take (i := 13) (oi := { dst := some 130, op := Op.pick (Operand.tmp 121) (Operand.const (Value.bool true)) (Operand.tmp 129), type := 4, pos := "law.go:71", after := #[{ on := 4, ground := Ground.data }, { on := 12, ground := Ground.data }, { on := 1, ground := Ground.guard }], guard := some (1, true) }) (v := ?v13a) rfl (by kernel_rfl) (by kernel_rfl) (by kernel_rfl) (fun _ _ _ h => h) (Or.inl ⟨by rfl, ?y13a⟩) (by assumption) ?r13a
      case y13a => (intro w hSw; (try dsimp only at hSw); go_simp; try with_reducible rfl)
      try simp only [Act.put, List.setIfInBounds_toArray, List.set_cons_zero, List.set_cons_succ]
      refine wpAnyH_take (i := 14) (oi := { dst := some 131, op := Op.pick (Operand.tmp 118) (Operand.tmp 130) (Operand.const (Value.bool false)), type := 4, pos := "law.go:71", after := #[{ on := 1, ground := Ground.data }, { on := 13, ground := Ground.data }], guard := none }) (v := ?v14a) rfl (by kernel_rfl) (by kernel_rfl) (by kernel_rfl) (fun _ _ _ h => h) (Or.inl ⟨by rfl, ?y14a⟩) (by assumption) ?r14a
      case y14a => (intro w hSw; (try dsimp only at hSw); go_simp; try with_reducible rfl)
      try simp only [Act.put, List.setIfInBounds_toArray, List.set_cons_zero, List.set_cons_succ]
      refine wpAnyH_take (i := 15) (oi := { dst := some 132, op := Op.move (Operand.tmp 131), type := 4, pos := "law.go:71", after := #[{ on := 14, ground := Ground.data }, { on := 11, ground := Ground.chain }], guard := none }) (v := ?v15a) rfl (by kernel_rfl) (by kernel_rfl) (by kernel_rfl) (fun _ _ _ h => h) (Or.inl ⟨by rfl, ?y15a⟩) (by assumption) ?r15a
      case y15a => (intro w hSw; (try dsimp only at hSw); go_simp; try with_reducible rfl)
      try simp only [Act.put, List.setIfInBounds_toArray, List.set_cons_zero, List.set_cons_succ]
      refine wpAnyH_take (i := 16) (oi := { dst := some 133, op := Op.move (Operand.tmp 8), type := 4, pos := "law.go:71", after := #[{ on := 15, ground := Ground.guard }], guard := some (15, false) }) (v := ?v16a) rfl (by kernel_rfl) (by kernel_rfl) (by kernel_rfl) (fun _ _ _ h => h) (Or.inl ⟨by rfl, ?y16a⟩) (by assumption) ?r16a
      case y16a => (intro w hSw; (try dsimp only at hSw); go_simp; try with_reducible rfl)
      try simp only [Act.put, List.setIfInBounds_toArray, List.set_cons_zero, List.set_cons_succ]
      refine wpAnyH_take (i := 17) (oi := { dst := some 134, op := Op.unOp UnOp.not 4 (Operand.tmp 133), type := 4, pos := "law.go:71", after := #[{ on := 16, ground := Ground.data }, { on := 15, ground := Ground.guard }], guard := some (15, false) }) (v := ?v17a) rfl (by kernel_rfl) (by kernel_rfl) (by kernel_rfl) (fun _ _ _ h => h) (Or.inl ⟨by rfl, ?y17a⟩) (by assumption) ?r17a
      case y17a => (intro w hSw; (try dsimp only at hSw); go_simp; try with_reducible rfl)
      try simp only [Act.put, List.setIfInBounds_toArray, List.set_cons_zero, List.set_cons_succ]
      refine wpAnyH_take (i := 18) (oi := { dst := some 135, op := Op.move (Operand.tmp 134), type := 4, pos := "law.go:71", after := #[{ on := 17, ground := Ground.data }, { on := 15, ground := Ground.chain }, { on := 15, ground := Ground.guard }], guard := some (15, false) }) (v := ?v18a) rfl (by kernel_rfl) (by kernel_rfl) (by kernel_rfl) (fun _ _ _ h => h) (Or.inl ⟨by rfl, ?y18a⟩) (by assumption) ?r18a
      case y18a => (intro w hSw; (try dsimp only at hSw); go_simp; try with_reducible rfl)
      try simp only [Act.put, List.setIfInBounds_toArray, List.set_cons_zero, List.set_cons_succ]
      refine wpAnyH_take (i := 19) (oi := { dst := some 136, op := Op.move (Operand.tmp 13), type := 34, pos := "law.go:71", after := #[{ on := 18, ground := Ground.guard }], guard := some (18, true) }) (v := undef) rfl (by kernel_rfl) (by kernel_rfl) (by kernel_rfl) (fun _ _ _ h => h) (Or.inr ⟨by rfl, rfl⟩) (by assumption) ?_
      try simp only [Act.put, List.setIfInBounds_toArray, List.set_cons_zero, List.set_cons_succ]
      refine wpAnyH_take (i := 20) (oi := { dst := some 137, op := Op.makeInterface 36 (Operand.const (Value.int IntKind.i64 6)), type := 34, pos := "law.go:71", after := #[{ on := 18, ground := Ground.guard }], guard := some (18, true) }) (v := undef) rfl (by kernel_rfl) (by kernel_rfl) (by kernel_rfl) (fun _ _ _ h => h) (Or.inr ⟨by rfl, rfl⟩) (by assumption) ?_
      try simp only [Act.put, List.setIfInBounds_toArray, List.set_cons_zero, List.set_cons_succ]
      refine wpAnyH_take (i := 21) (oi := { dst := some 138, op := Op.binOp BinOp.neq 34 (Operand.tmp 136) (Operand.tmp 137) 34, type := 4, pos := "law.go:71", after := #[{ on := 19, ground := Ground.data }, { on := 20, ground := Ground.data }, { on := 18, ground := Ground.guard }], guard := some (18, true) }) (v := undef) rfl (by kernel_rfl) (by kernel_rfl) (by kernel_rfl) (fun _ _ _ h => h) (Or.inr ⟨by rfl, rfl⟩) (by assumption) ?_
      try simp only [Act.put, List.setIfInBounds_toArray, List.set_cons_zero, List.set_cons_succ]
      refine wpAnyH_take (i := 22) (oi := { dst := some 139, op := Op.pick (Operand.tmp 135) (Operand.tmp 138) (Operand.const (Value.bool false)), type := 4, pos := "law.go:71", after := #[{ on := 18, ground := Ground.data }, { on := 21, ground := Ground.data }, { on := 15, ground := Ground.guard }], guard := some (15, false) }) (v := ?v22a) rfl (by kernel_rfl) (by kernel_rfl) (by kernel_rfl) (fun _ _ _ h => h) (Or.inl ⟨by rfl, ?y22a⟩) (by assumption) ?r22a
      case y22a => (intro w hSw; (try dsimp only at hSw); go_simp; try with_reducible rfl)
      try simp only [Act.put, List.setIfInBounds_toArray, List.set_cons_zero, List.set_cons_succ]
      refine wpAnyH_take (i := 23) (oi := { dst := some 140, op := Op.pick (Operand.tmp 132) (Operand.const (Value.bool true)) (Operand.tmp 139), type := 4, pos := "law.go:71", after := #[{ on := 15, ground := Ground.data }, { on := 22, ground := Ground.data }], guard := none }) (v := ?v23a) rfl (by kernel_rfl) (by kernel_rfl) (by kernel_rfl) (fun _ _ _ h => h) (Or.inl ⟨by rfl, ?y23a⟩) (by assumption) ?r23a
      case y23a => (intro w hSw; (try dsimp only at hSw); go_simp; try with_reducible rfl)
      try simp only [Act.put, List.setIfInBounds_toArray, List.set_cons_zero, List.set_cons_succ]
      refine wpAnyH_done (by kernel_rfl) ?_ _
      refine NoPanic.normal ?_
      have hBD := hB9.below hbD
      have hrowD := hrow9.below hz11 hbD
      have hXD := hX9b.below hbD
      clear hSD x0 x1 x2 x3 x4 c0 c1 c2 c3 c4 y1 hX9 hX9b hB9 hrow9 hrepl hB3
      have hnF : ∀ b, Fresh W1 w3 b → w.heap.size ≤ b ∧ ¬ F b ∧ ¬ S b ∧ (Value.slice (some ⟨b', o', none⟩) xs.length lc).ownBlock ≠ some b := fun b hb => by
        have h1 := hb.1
        have h3 := hbw.size
        exact ⟨by omega, fun hf => by have := (hB1.net.lt _ hf).2; omega, fun hf => by have := (hB1.net.bod _ hf).1; omega, fun hf => by have := (hB1.own.blk _ hf).2; omega⟩
      have hxD := packet_body hXD.rep
      have hrD : Row wD w3.heap.size 30 [.int .i64 pk.1, .int .i64 pk.2.1, .int .u64 (pk.2.2.1 : Int), .bool pk.2.2.2.1, .slice A8 pk.2.2.2.2.length cap8] := hXD.row
      have hltD := hrD.lt
      have hnfD : ¬ Fresh W1 w3 w3.heap.size := fun h => by have := h.2; omega
      go_upto_region 33 with (fail)
      go_loopw [14] (fun iv wr => ∃ (k : Nat) (es : List Nat), iv = .int .i64 (k : Int) ∧ k ≤ pk.2.2.2.2.length ∧ es.length = pk.2.2.2.2.length ∧ BytesS.rep (Fresh W1 w3) wr es [.slice A8 pk.2.2.2.2.length cap8] ∧ Turned (Fresh W1 w3) wD wr) (fun iv _ => pk.2.2.2.2.length - (intOf iv).toNat)
      case atStart => exact ⟨0, _, rfl, by omega, rfl, hxD, Turned.refl _ _⟩
      case round =>
        obtain ⟨k, es, rfl, hk, hesl, hes, htn⟩ := hrel
        obtain ⟨wz, rfl⟩ : ∃ wz : World, wz = wr := ⟨_, rfl⟩
        have hrz : Row wz w3.heap.size _ _ := (htn.block _ hltD hnfD).trans hrD
        have zc := hrz.cell 4 (by simp)
        simp only [List.getElem_cons_zero, List.getElem_cons_succ] at zc
        by_cases hkn : k < pk.2.2.2.2.length
        · have hke : k < es.length := by omega
          obtain ⟨bb, oo, rfl, hSb, hcell, hbd⟩ := num_at hes k hke
          have hfr := sl_free hes k hke
          have hes2 := sl_putNum hes k hke 0 (by omega)
          have htn2 := htn.set (a := ⟨bb, oo + k, none⟩) hSb (.int .u8 ((0 : Nat) : Int))
          have Hesl := hid hesl
          clear hes htn hesl hrz
          go_wp2_with fail
          go_roundw
          case rel => exact ⟨k + 1, _, by simp, by omega, by rw [List.length_set]; exact Hesl.out, hes2, htn2⟩
          case measure => simp [intOf]; omega
        · clear hes hesl hrz hxD hrD
          go_wp2_with fail
          clear zc
          have hB8 := hBD.turned htn hnF
          obtain ⟨q1, q2, q3, q4⟩ := hB8
          have hBf : Bes w F S gn (.slice (some ⟨b', o', none⟩) xs.length lc) xs wz := ⟨q1, q2, q3, q4⟩
          clear q1 q2 q3 q4 htn hBD hXD hrowD hHeld
          (have hmeet_ := a_2.out; go_meet)
          case rel => exact ⟨gn, xs, rfl, by omega, F, S, hBf⟩
    · obtain rfl : has = false := by rw [Hhas.out]; exact decide_eq_false hh
      clear y0 y2 y3 y4 y5 y6 hrep1
      go_wp2_with fail
      refine (peek_none hB1.net d2 hh).mono ?_
      rintro e w3 ⟨he, hb3⟩
      obtain rfl : e = .returned (.tuple #[.agg #[.int .i64 0, .int .i64 0, .int .u64 0, .bool false, .slice none 0 0], .iface 36 (.int .i64 6)]) := he
      have hB3 := hB1.below hb3
      have hne := fun W => err_neq 6 6 W
      simp only [beq_self_eq_true, Bool.not_true] at hne
      clear hb3 hB1 hrow y1
      have hB4 := hB3.below (below_alloc (Below.refl w3.heap.size w3) (.cells #[.int .i64 0, .int .i64 0, .int .u64 0, .bool false, .slice none 0 0] 30)).drew
      go_upto_region 30 with (fail)
      refine wp_region_noPanic ?_
      refine wp_region_held_drew (S := fun _ => True) (by kernel_rfl) trivial (fun hHeld => ?_)
      refine wpAnyH_take (i := 0) (oi := { dst := some 117, op := Op.move (Operand.tmp 8), type := 4, pos := "law.go:71", after := #[], guard := none }) (v := ?v0f) rfl (by kernel_rfl) (by kernel_rfl) (by kernel_rfl) (fun _ _ _ h => h) (Or.inl ⟨by rfl, ?y0f⟩) (by assumption) ?r0f
      case y0f => (intro w hSw; (try dsimp only at hSw); go_simp; try with_reducible rfl)
      try simp only [Act.put, List.setIfInBounds_toArray, List.set_cons_zero, List.set_cons_succ]
      refine wpAnyH_take (i := 1) (oi := { dst := some 118, op := Op.move (Operand.tmp 117), type := 4, pos := "law.go:71", after := #[{ on := 0, ground := Ground.data }], guard := none }) (v := ?v1f) rfl (by kernel_rfl) (by kernel_rfl) (by kernel_rfl) (fun _ _ _ h => h) (Or.inl ⟨by rfl, ?y1f⟩) (by assumption) ?r1f
      case y1f => (intro w hSw; (try dsimp only at hSw); go_simp; try with_reducible rfl)
      try simp only [Act.put, List.setIfInBounds_toArray, List.set_cons_zero, List.set_cons_succ]
      refine wpAnyH_take (i := 2) (oi := { dst := some 119, op := Op.move (Operand.tmp 13), type := 34, pos := "law.go:71", after := #[{ on := 1, ground := Ground.guard }], guard := some (1, true) }) (v := undef) rfl (by kernel_rfl) (by kernel_rfl) (by kernel_rfl) (fun _ _ _ h => h) (Or.inr ⟨by rfl, rfl⟩) (by assumption) ?_
      try simp only [Act.put, List.setIfInBounds_toArray, List.set_cons_zero, List.set_cons_succ]
      refine wpAnyH_take (i := 3) (oi := { dst := some 120, op := Op.binOp BinOp.neq 34 (Operand.tmp 119) (Operand.const Value.nilIface) 34, type := 4, pos := "law.go:71", after := #[{ on := 2, ground := Ground.data }, { on := 1, ground := Ground.guard }], guard := some (1, true) }) (v := undef) rfl (by kernel_rfl) (by kernel_rfl) (by kernel_rfl) (fun _ _ _ h => h) (Or.inr ⟨by rfl, rfl⟩) (by assumption) ?_
      try simp only [Act.put, List.setIfInBounds_toArray, List.set_cons_zero, List.set_cons_succ]
      refine wpAnyH_take (i := 4) (oi := { dst := some 121, op := Op.move (Operand.tmp 120), type := 4, pos := "law.go:71", after := #[{ on := 3, ground := Ground.data }, { on := 1, ground := Ground.chain }, { on := 1, ground := Ground.guard }], guard := some (1, true) }) (v := undef) rfl (by kernel_rfl) (by kernel_rfl) (by kernel_rfl) (fun _ _ _ h => h) (Or.inr ⟨by rfl, rfl⟩) (by assumption) ?_
      try simp only [Act.put, List.setIfInBounds_toArray, List.set_cons_zero, List.set_cons_succ]
      refine wpAnyH_take (i := 5) (oi := { dst := some 122, op := Op.load 30 (Operand.tmp 12), type := 30, pos := "law.go:71", after := #[{ on := 4, ground := Ground.guard }], guard := some (4, false) }) (v := undef) rfl (by kernel_rfl) (by kernel_rfl) (by kernel_rfl) (fun _ _ _ h => h) (Or.inr ⟨by rfl, rfl⟩) (by assumption) ?_
      try simp only [Act.put, List.setIfInBounds_toArray, List.set_cons_zero, List.set_cons_succ]
      refine wpAnyH_take (i := 6) (oi := { dst := some 123, op := Op.move (Operand.tmp 5), type := 26, pos := "law.go:71", after := #[{ on := 4, ground := Ground.guard }], guard := some (4, false) }) (v := undef) rfl (by kernel_rfl) (by kernel_rfl) (by kernel_rfl) (fun _ _ _ h => h) (Or.inr ⟨by rfl, rfl⟩) (by assumption) ?_
      try simp only [Act.put, List.setIfInBounds_toArray, List.set_cons_zero, List.set_cons_succ]
      refine wpAnyH_take (i := 7) (oi := { dst := some 124, op := Op.fieldAddr 40 (Operand.tmp 7) 1, type := 0, pos := "law.go:71", after := #[{ on := 4, ground := Ground.guard }], guard := some (4, false) }) (v := undef) rfl (by kernel_rfl) (by kernel_rfl) (by kernel_rfl) (fun _ _ _ h => h) (Or.inr ⟨by rfl, rfl⟩) (by assumption) ?_
      try simp only [Act.put, List.setIfInBounds_toArray, List.set_cons_zero, List.set_cons_succ]
      refine wpAnyH_take (i := 8) (oi := { dst := some 125, op := Op.load 3 (Operand.tmp 124), type := 3, pos := "law.go:71", after := #[{ on := 7, ground := Ground.data }, { on := 4, ground := Ground.guard }], guard := some (4, false) }) (v := undef) rfl (by kernel_rfl) (by kernel_rfl) (by kernel_rfl) (fun _ _ _ h => h) (Or.inr ⟨by rfl, rfl⟩) (by assumption) ?_
      try simp only [Act.put, List.setIfInBounds_toArray, List.set_cons_zero, List.set_cons_succ]
      refine wpAnyH_take (i := 9) (oi := { dst := some 126, op := Op.indexAddr 26 (Operand.tmp 123) (Operand.tmp 125), type := 0, pos := "law.go:71", after := #[{ on := 6, ground := Ground.data }, { on := 8, ground := Ground.data }, { on := 4, ground := Ground.guard }], guard := some (4, false) }) (v := undef) rfl (by kernel_rfl) (by kernel_rfl) (by kernel_rfl) (fun _ _ _ h => h) (Or.inr ⟨by rfl, rfl⟩) (by assumption) ?_
      try simp only [Act.put, List.setIfInBounds_toArray, List.set_cons_zero, List.set_cons_succ]
      refine wpAnyH_take (i := 10) (oi := { dst := some 127, op := Op.load 30 (Operand.tmp 126), type := 30, pos := "law.go:71", after := #[{ on := 9, ground := Ground.data }, { on := 4, ground := Ground.guard }], guard := some (4, false) }) (v := undef) rfl (by kernel_rfl) (by kernel_rfl) (by kernel_rfl) (fun _ _ _ h => h) (Or.inr ⟨by rfl, rfl⟩) (by assumption) ?_
      try simp only [Act.put, List.setIfInBounds_toArray, List.set_cons_zero, List.set_cons_succ]
      refine wpAnyH_take (i := 11) (oi := { dst := some 128, op := Op.call { callee := Callee.value (Operand.func 18), args := #[Operand.tmp 122, Operand.tmp 127], argTypes := #[30, 30] }, type := 4, pos := "law.go:71", after := #[{ on := 5, ground := Ground.data }, { on := 10, ground := Ground.data }, { on := 4, ground := Ground.chain }, { on := 4, ground := Ground.guard }], guard := some (4, false) }) (v := undef) rfl (by kernel_rfl) (by kernel_rfl) (by kernel_rfl) (fun _ _ _ h => h) (Or.inr ⟨by rfl, rfl⟩) (by assumption) ?_
      try simp only [Act.put, List.setIfInBounds_toArray, List.set_cons_zero, List.set_cons_succ]
      refine wpAnyH_take (i := 12) (oi := { dst := some 129, op := Op.unOp UnOp.not 4 (Operand.tmp 128), type := 4, pos := "law.go:71", after := #[{ on := 11, ground := Ground.data }, { on := 4, ground := Ground.guard }], guard := some (4, false) }) (v := undef) rfl (by kernel_rfl) (by kernel_rfl) (by kernel_rfl) (fun _ _ _ h => h) (Or.inr ⟨by rfl, rfl⟩) (by assumption) ?_
      try simp only [Act.put, List.setIfInBounds_toArray, List.set_cons_zero, List.set_cons_succ]
      refine wpAnyH_take (i := 13) (oi := { dst := some 130, op := Op.pick (Operand.tmp 121) (Operand.const (Value.bool true)) (Operand.tmp 129), type := 4, pos := "law.go:71", after := #[{ on := 4, ground := Ground.data }, { on := 12, ground := Ground.data }, { on := 1, ground := Ground.guard }], guard := some (1, true) }) (v := undef) rfl (by kernel_rfl) (by kernel_rfl) (by kernel_rfl) (fun _ _ _ h => h) (Or.inr ⟨by rfl, rfl⟩) (by assumption) ?_
      try simp only [Act.put, List.setIfInBounds_toArray, List.set_cons_zero, List.set_cons_succ]
      refine wpAnyH_take (i := 14) (oi := { dst := some 131, op := Op.pick (Operand.tmp 118) (Operand.tmp 130) (Operand.const (Value.bool false)), type := 4, pos := "law.go:71", after := #[{ on := 1, ground := Ground.data }, { on := 13, ground := Ground.data }], guard := none }) (v := ?v14f) rfl (by kernel_rfl) (by kernel_rfl) (by kernel_rfl) (fun _ _ _ h => h) (Or.inl ⟨by rfl, ?y14f⟩) (by assumption) ?r14f
      case y14f => (intro w hSw; (try dsimp only at hSw); go_simp; try with_reducible rfl)
      try simp only [Act.put, List.setIfInBounds_toArray, List.set_cons_zero, List.set_cons_succ]
      refine wpAnyH_take (i := 15) (oi := { dst := some 132, op := Op.move (Operand.tmp 131), type := 4, pos := "law.go:71", after := #[{ on := 14, ground := Ground.data }, { on := 11, ground := Ground.chain }], guard := none }) (v := ?v15f) rfl (by kernel_rfl) (by kernel_rfl) (by kernel_rfl) (fun _ _ _ h => h) (Or.inl ⟨by rfl, ?y15f⟩) (by assumption) ?r15f
      case y15f => (intro w hSw; (try dsimp only at hSw); go_simp; try with_reducible rfl)
      try simp only [Act.put, List.setIfInBounds_toArray, List.set_cons_zero, List.set_cons_succ]
      refine wpAnyH_take (i := 16) (oi := { dst := some 133, op := Op.move (Operand.tmp 8), type := 4, pos := "law.go:71", after := #[{ on := 15, ground := Ground.guard }], guard := some (15, false) }) (v := ?v16f) rfl (by kernel_rfl) (by kernel_rfl) (by kernel_rfl) (fun _ _ _ h => h) (Or.inl ⟨by rfl, ?y16f⟩) (by assumption) ?r16f
      case y16f => (intro w hSw; (try dsimp only at hSw); go_simp; try with_reducible rfl)
      try simp only [Act.put, List.setIfInBounds_toArray, List.set_cons_zero, List.set_cons_succ]
      refine wpAnyH_take (i := 17) (oi := { dst := some 134, op := Op.unOp UnOp.not 4 (Operand.tmp 133), type := 4, pos := "law.go:71", after := #[{ on := 16, ground := Ground.data }, { on := 15, ground := Ground.guard }], guard := some (15, false) }) (v := ?v17f) rfl (by kernel_rfl) (by kernel_rfl) (by kernel_rfl) (fun _ _ _ h => h) (Or.inl ⟨by rfl, ?y17f⟩) (by assumption) ?r17f
      case y17f => (intro w hSw; (try dsimp only at hSw); go_simp; try with_reducible rfl)
      try simp only [Act.put, List.setIfInBounds_toArray, List.set_cons_zero, List.set_cons_succ]
      refine wpAnyH_take (i := 18) (oi := { dst := some 135, op := Op.move (Operand.tmp 134), type := 4, pos := "law.go:71", after := #[{ on := 17, ground := Ground.data }, { on := 15, ground := Ground.chain }, { on := 15, ground := Ground.guard }], guard := some (15, false) }) (v := ?v18f) rfl (by kernel_rfl) (by kernel_rfl) (by kernel_rfl) (fun _ _ _ h => h) (Or.inl ⟨by rfl, ?y18f⟩) (by assumption) ?r18f
      case y18f => (intro w hSw; (try dsimp only at hSw); go_simp; try with_reducible rfl)
      try simp only [Act.put, List.setIfInBounds_toArray, List.set_cons_zero, List.set_cons_succ]
      refine wpAnyH_take (i := 19) (oi := { dst := some 136, op := Op.move (Operand.tmp 13), type := 34, pos := "law.go:71", after := #[{ on := 18, ground := Ground.guard }], guard := some (18, true) }) (v := ?v19f) rfl (by kernel_rfl) (by kernel_rfl) (by kernel_rfl) (fun _ _ _ h => h) (Or.inl ⟨by rfl, ?y19f⟩) (by assumption) ?r19f
      case y19f => (intro w hSw; (try dsimp only at hSw); go_simp; try with_reducible rfl)
      try simp only [Act.put, List.setIfInBounds_toArray, List.set_cons_zero, List.set_cons_succ]
      refine wpAnyH_take (i := 20) (oi := { dst := some 137, op := Op.makeInterface 36 (Operand.const (Value.int IntKind.i64 6)), type := 34, pos := "law.go:71", after := #[{ on := 18, ground := Ground.guard }], guard := some (18, true) }) (v := ?v20f) rfl (by kernel_rfl) (by kernel_rfl) (by kernel_rfl) (fun _ _ _ h => h) (Or.inl ⟨by rfl, ?y20f⟩) (by assumption) ?r20f
      case y20f => (intro w hSw; (try dsimp only at hSw); go_simp; try with_reducible rfl)
      try simp only [Act.put, List.setIfInBounds_toArray, List.set_cons_zero, List.set_cons_succ]
      refine wpAnyH_take (i := 21) (oi := { dst := some 138, op := Op.binOp BinOp.neq 34 (Operand.tmp 136) (Operand.tmp 137) 34, type := 4, pos := "law.go:71", after := #[{ on := 19, ground := Ground.data }, { on := 20, ground := Ground.data }, { on := 18, ground := Ground.guard }], guard := some (18, true) }) (v := ?v21f) rfl (by kernel_rfl) (by kernel_rfl) (by kernel_rfl) (fun _ _ _ h => h) (Or.inl ⟨by rfl, ?y21f⟩) (by assumption) ?r21f
      case y21f => (intro w hSw; (try dsimp only at hSw); go_simp; try with_reducible rfl)
      try simp only [Act.put, List.setIfInBounds_toArray, List.set_cons_zero, List.set_cons_succ]
      refine wpAnyH_take (i := 22) (oi := { dst := some 139, op := Op.pick (Operand.tmp 135) (Operand.tmp 138) (Operand.const (Value.bool false)), type := 4, pos := "law.go:71", after := #[{ on := 18, ground := Ground.data }, { on := 21, ground := Ground.data }, { on := 15, ground := Ground.guard }], guard := some (15, false) }) (v := ?v22f) rfl (by kernel_rfl) (by kernel_rfl) (by kernel_rfl) (fun _ _ _ h => h) (Or.inl ⟨by rfl, ?y22f⟩) (by assumption) ?r22f
      case y22f => (intro w hSw; (try dsimp only at hSw); go_simp; try with_reducible rfl)
      try simp only [Act.put, List.setIfInBounds_toArray, List.set_cons_zero, List.set_cons_succ]
      refine wpAnyH_take (i := 23) (oi := { dst := some 140, op := Op.pick (Operand.tmp 132) (Operand.const (Value.bool true)) (Operand.tmp 139), type := 4, pos := "law.go:71", after := #[{ on := 15, ground := Ground.data }, { on := 22, ground := Ground.data }], guard := none }) (v := ?v23f) rfl (by kernel_rfl) (by kernel_rfl) (by kernel_rfl) (fun _ _ _ h => h) (Or.inl ⟨by rfl, ?y23f⟩) (by assumption) ?r23f
      case y23f => (intro w hSw; (try dsimp only at hSw); go_simp; try with_reducible rfl)
      try simp only [Act.put, List.setIfInBounds_toArray, List.set_cons_zero, List.set_cons_succ]
      refine wpAnyH_done (by kernel_rfl) ?_ _
      refine NoPanic.normal ?_
      clear hHeld hne
      go_wp2_with fail
      go_loopw [14] (fun iv wr => iv = .int .i64 0 ∧ wr = (w3.alloc (.cells #[.int .i64 0, .int .i64 0, .int .u64 0, .bool false, .slice none 0 0] 30)).drew) (fun iv _ => 0)
      case atStart => exact ⟨rfl, rfl⟩
      case round =>
        obtain ⟨rfl, rfl⟩ := hrel
        go_wp2_with fail
        (have hmeet_ := a_2.out; go_meet)
        case rel => exact ⟨gn, xs, rfl, by omega, F, S, hB4⟩

end Go.Proofs.Ytigdeaeoejpnlaa
